import Derived.Test.YtcifhkdbaienjaaDoorProg
import Derived.KernelRfl
import Derived.Laws.RangeAny
import Derived.Laws.RangeString
import Derived.Shelf.Strconv.AppendUint10
import Derived.Test.YtcifhkdbaienjaaDoorZE3
set_option linter.unusedVariables false
set_option linter.defProp false
namespace Go.VI
open Go.Proofs
def keepT : List (Nat × List (Nat × List Nat)) := [
  (2, [(0, [])]),
  (3, [(0, [1, 2]), (1, [1, 2, 13]), (2, [4]), (3, [5, 6]), (4, [5, 21, 22, 23]), (5, [5, 21, 22, 23, 24]), (6, [5, 8, 21, 22, 23]), (7, [5, 21, 22, 23, 29]), (8, [4]), (9, [5, 21, 22, 23]), (10, [5, 9, 10]), (11, [4])]),
  (4, [(0, [1]), (1, [1, 8]), (2, [2]), (3, [1, 3, 4]), (4, [1, 3, 4, 5, 6]), (5, [2])]),
  (5, [(0, [1, 2, 3]), (1, [2, 3, 7]), (2, [2, 3, 7, 8, 9]), (3, [2, 3, 7, 8, 9, 10, 11]), (4, [2, 3, 7, 8, 10, 52]), (5, [6]), (6, [3, 7, 8, 10, 12]), (7, [3, 7, 13, 14]), (8, [6])]),
  (6, [(0, [2, 3, 4]), (1, [2, 3, 4, 7, 8]), (2, [2, 3, 4, 7, 8, 9, 10]), (3, [2, 4, 7, 9, 57]), (4, [6]), (5, [2, 4, 7, 9, 66]), (6, [6]), (7, [4, 7, 9, 11]), (8, [4, 12, 13]), (9, [6])]),
  (7, [(0, [0]), (1, [0, 12]), (2, [2]), (3, [0, 3]), (4, [0, 3, 14, 15, 16]), (5, [0, 3, 14, 15, 16, 17]), (6, [0, 3, 5, 14, 15, 16]), (7, [0, 3, 5, 14, 15, 16, 21]), (8, [2]), (9, [0, 3, 5, 6, 7, 14, 15, 16]), (10, [0, 3, 6, 7, 14, 15, 16, 31]), (11, [2]), (12, [0, 3, 6, 14, 15, 16, 33]), (13, [2]), (14, [0, 3, 14, 15, 16]), (15, [0, 3, 14, 15, 16]), (16, [0, 8, 9]), (17, [2])]),
  (8, [(0, [1, 2]), (1, [4])]),
  (9, [(0, []), (1, [1, 2]), (2, [0])]),
  (10, [(0, [1, 2, 4]), (1, [1, 2, 4, 6]), (2, [1, 2, 4, 6, 11]), (3, [1, 4, 6]), (4, [1, 4, 6, 7]), (5, [1, 4, 6, 7, 19]), (6, [1, 4, 6, 7]), (7, [1, 4, 6, 7, 47]), (8, [1, 4, 6, 7]), (9, [1, 4, 6, 7]), (10, [4, 5])]),
  (11, [(0, [1]), (1, [1, 3]), (2, [2]), (3, [12]), (4, [2]), (5, [2])]),
  (12, [(0, [1]), (1, [2])]),
  (13, [(0, [1]), (1, [1, 4]), (2, [1, 4, 11]), (3, [2, 3]), (4, [1, 5]), (5, [1, 5, 18]), (6, [1, 5, 18, 19]), (7, [2, 3]), (8, [1, 5, 18, 25]), (9, [2, 3]), (10, [1, 5, 18, 28]), (11, [2, 3]), (12, [1, 5, 35]), (13, [5, 6]), (14, [2, 3]), (15, [2, 3])]),
  (14, [(0, [1]), (1, [1, 4]), (2, [1, 4, 11]), (3, [2, 3]), (4, [1, 5]), (5, [1, 5, 18]), (6, [1, 5, 18, 19]), (7, [2, 3]), (8, [1, 5, 18, 25]), (9, [2, 3]), (10, [1, 5, 18, 28]), (11, [2, 3]), (12, [1, 5, 35]), (13, [5, 6]), (14, [2, 3]), (15, [2, 3])]),
  (15, [(0, [1]), (1, [1, 3]), (2, [1, 3, 11]), (3, [2]), (4, [1, 3, 11, 12]), (5, [1, 3]), (6, [1, 3, 4]), (7, [1, 3, 11, 45]), (8, [1, 3]), (9, [1, 3, 4]), (10, [1, 3, 11, 68]), (11, [1, 3]), (12, [1, 3]), (13, [1, 3, 4]), (14, [1, 3, 11, 104]), (15, [1, 3]), (16, [1, 3]), (17, [1, 3]), (18, [1, 3]), (19, [1, 3, 6]), (20, [1, 3, 4]), (21, [1, 3, 140]), (22, [1, 3]), (23, [1, 3, 4]), (24, [155]), (25, [2]), (26, [2])]),
  (16, [(0, [0, 1]), (1, [0, 1, 10]), (2, [4]), (3, [0, 1, 5]), (4, [0, 1, 5, 14]), (5, [0, 1, 5]), (6, [0, 1, 5, 26]), (7, [4]), (8, [4])]),
  (17, [(0, [1]), (1, [2])]),
  (18, [(0, [1]), (1, [1, 7]), (2, [1, 3, 4]), (3, [2]), (4, [1, 30]), (5, [2]), (6, [1, 32]), (7, [1, 32, 33]), (8, [2]), (9, [1, 32, 44]), (10, [2]), (11, [1, 32, 55]), (12, [1, 55]), (13, [2]), (14, [2])]),
  (19, [(0, [0, 3]), (1, [])]),
  (20, [(0, [0, 1, 8]), (1, [0, 1, 8, 9]), (2, [0, 1, 8, 11]), (3, [0, 1, 8, 13]), (4, [0, 1, 15]), (5, []), (6, [0, 1, 21]), (7, []), (8, [0, 1]), (9, []), (10, []), (11, [])]),
  (21, [(0, [1]), (1, [1, 3]), (2, [1, 3, 13]), (3, [1, 3, 13, 14]), (4, [1, 3]), (5, [1, 3, 4]), (6, [1, 3, 5]), (7, [1, 3, 53]), (8, [2]), (9, [1, 3, 13, 54]), (10, [1, 3]), (11, [1, 3, 76]), (12, [2]), (13, [1, 3, 13, 77]), (14, [1, 3]), (15, [1, 3, 119]), (16, [2]), (17, [1, 3, 13, 120]), (18, [1, 3]), (19, [1, 3, 8]), (20, [1, 3, 155]), (21, [2]), (22, [1, 3, 156]), (23, [1, 3]), (24, [1, 3, 170]), (25, [2]), (26, [2])]),
  (22, [(0, [0]), (1, [0, 3]), (2, [3, 6, 7, 8]), (3, [3, 6, 7, 8, 9]), (4, [3, 5, 6, 7, 8]), (5, [3, 6, 7, 8]), (6, [3, 6, 7, 8]), (7, [2])]),
  (23, [(0, [0, 1, 2]), (1, [0, 1, 2, 11]), (2, [0, 1, 2, 11]), (3, [0, 1, 2, 11]), (4, [6, 7]), (5, [0, 1, 2, 31]), (6, [6, 7]), (7, [0, 1, 2, 34]), (8, [6, 7]), (9, [0, 1, 2, 8]), (10, [0, 1, 2, 8, 40]), (11, [1, 2, 8]), (12, [2, 8, 45, 46, 47]), (13, [2, 8, 45, 46, 47, 48]), (14, [2, 8, 9, 10, 45, 46, 47]), (15, [2, 8, 10, 45, 46, 47, 53]), (16, [2, 8, 10, 45, 46, 47]), (17, [2, 8, 10, 45, 46, 47, 58]), (18, [2, 8, 45, 46, 47]), (19, [2, 8, 45, 46, 47]), (20, [6, 7])]),
  (24, [(0, [0]), (1, [0, 3]), (2, [0, 3, 4]), (3, [0, 3, 4, 10]), (4, [0, 3, 4]), (5, [0, 3, 4, 5]), (6, [0, 3, 4, 5, 30]), (7, [0, 3, 4, 5]), (8, [0, 3, 4]), (9, [0, 3, 4, 5, 52]), (10, [0, 3, 4]), (11, [0, 3, 4, 5, 60]), (12, [0, 3, 4]), (13, [0, 3, 4, 5, 74]), (14, [0, 3, 4]), (15, [2])]),
  (25, [(0, [0, 1, 2]), (1, [0, 1, 2, 29]), (2, [6, 7]), (3, [0, 1, 2, 8]), (4, [0, 1, 2, 8, 33]), (5, [0, 1, 2, 8]), (6, [0, 1, 2, 8, 40]), (7, [6, 7]), (8, [0, 1, 2, 9]), (9, [0, 1, 2, 9, 44]), (10, [0, 1, 2, 9]), (11, [0, 1, 2, 9, 51]), (12, [6, 7]), (13, [0, 1, 2, 10]), (14, [0, 1, 2, 10, 53]), (15, [1, 2, 10]), (16, [1, 2, 10, 11]), (17, [1, 2, 10, 11, 60]), (18, [1, 2, 10, 11]), (19, [1, 2, 10, 11, 67]), (20, [6, 7]), (21, [1, 2, 10, 11, 69]), (22, [1, 2, 10, 11]), (23, [1, 2, 10, 11, 76]), (24, [1, 2, 10, 11]), (25, [2, 10, 91]), (26, [6, 7]), (27, [6, 7])]),
  (26, [(0, [0, 1, 2, 3]), (1, [0, 2, 3, 13]), (2, [8]), (3, [0, 2, 3, 9]), (4, [0, 2, 3, 9, 17]), (5, [0, 2, 3, 9]), (6, [0, 2, 3, 9, 31]), (7, [8]), (8, [8])]),
  (27, [(0, [2, 3]), (1, [4])]),
  (28, [(0, [0, 1]), (1, [6]), (2, [6, 7]), (3, [6, 7, 8]), (4, [6, 7, 8, 9]), (5, [6, 7, 8, 9, 16, 17]), (6, [6, 7, 8, 9, 16, 17, 18]), (7, [6, 7, 8, 9, 10, 16, 17]), (8, [6, 7, 8, 9, 10, 11, 16, 17]), (9, [6, 7, 8, 9, 10, 11, 16, 17, 37]), (10, [6, 7, 8, 9, 16, 17]), (11, [6, 7, 8, 9, 16, 17, 51]), (12, [6, 7, 8, 9, 16, 17]), (13, [6, 7, 8, 10, 11, 16, 17, 59]), (14, [6, 7, 8, 10, 11, 16, 17]), (15, [6, 7, 8, 9, 11, 16, 17]), (16, [6, 7, 8, 9, 11, 16, 17, 66]), (17, [6, 7, 8, 9, 16, 17]), (18, [6, 7, 8, 9, 16, 17, 74]), (19, [6, 7, 8, 9, 16, 17]), (20, [6, 7, 8, 9, 16, 17]), (21, [6, 7, 9, 84]), (22, [4, 5]), (23, [4, 5])]),
  (29, [(0, [0, 4, 5]), (1, [6])]),
  (30, [(0, [0, 1, 11]), (1, [0, 4, 5]), (2, [0, 4]), (3, []), (4, [0, 1, 37]), (5, [0, 1]), (6, [0, 1]), (7, [0, 1, 45]), (8, []), (9, [0, 1, 45, 50]), (10, []), (11, [0, 1, 45, 54]), (12, [0, 1, 45, 54]), (13, [0, 1, 54])]),
  (31, [(0, [0, 2]), (1, [0, 2]), (2, [])]),
  (32, [(0, [])]),
  (33, [(0, [0, 1, 4]), (1, [0, 1, 4]), (2, [0, 1, 4, 14]), (3, []), (4, [0, 1, 4, 20]), (5, [0, 1, 4, 24]), (6, []), (7, [0, 1, 4, 30]), (8, []), (9, [0, 1, 4, 39]), (10, [])]),
  (34, [(0, [0, 1, 4]), (1, [0, 1, 4]), (2, [0, 1, 4, 18]), (3, [0, 1, 5, 6, 7, 8]), (4, [0, 1, 5, 6, 7, 27]), (5, []), (6, [0, 1, 4, 35]), (7, [0, 1, 4, 39]), (8, [])]),
  (35, [(0, [0, 1, 4]), (1, [0, 1, 6]), (2, []), (3, [0, 1, 4, 10]), (4, []), (5, [0, 1, 4, 14]), (6, []), (7, [0, 1, 4, 20]), (8, [0, 1, 20]), (9, [])]),
  (36, [(0, [0, 1]), (1, [0, 1, 7]), (2, [4]), (3, [4])]),
  (37, [(0, [0]), (1, [2])]),
  (38, [(0, [0]), (1, [2])]),
  (39, [(0, [0, 1]), (1, [4])]),
  (40, [(0, [0]), (1, [2])]),
  (41, [(0, [0, 1]), (1, [4])]),
  (42, [(0, [0, 1, 2]), (1, [6])]),
  (43, [(0, [0]), (1, [2])]),
  (44, [(0, [0]), (1, [2])]),
  (45, [(0, [0]), (1, [0, 3]), (2, [0, 3, 5]), (3, [0, 3]), (4, [0, 3]), (5, [2])]),
  (46, [(0, [0, 1]), (1, [0, 1, 10]), (2, [4]), (3, [0, 1, 5]), (4, [0, 1, 5, 14]), (5, [0, 1, 5]), (6, [0, 1, 5, 25]), (7, [4]), (8, [4])]),
  (47, [(0, [0, 2]), (1, [0, 2, 3]), (2, [0, 2, 3, 5]), (3, [0, 2, 3]), (4, [0, 2, 3, 17]), (5, [0, 2, 3]), (6, [0, 2, 3, 29]), (7, [0, 2, 3]), (8, [2, 3, 41]), (9, [2, 3, 41, 42]), (10, [2, 3]), (11, [2, 3, 41, 45]), (12, [2, 3]), (13, [2, 3, 41, 48]), (14, [2, 3]), (15, [2, 3, 51]), (16, [2, 3]), (17, [2])]),
  (48, [(0, [0, 1]), (1, [4])]),
  (49, [(0, [0, 1, 2]), (1, [4])]),
  (50, [(0, [0, 6, 7, 8]), (1, [0, 6, 7, 8, 9]), (2, [0, 5, 6, 7, 8]), (3, [0, 5, 6, 7, 8, 17]), (4, [0, 6, 7, 8]), (5, [0, 6, 7, 8])]),
  (51, [(0, [0, 1]), (1, [4]), (2, [0, 1, 5]), (3, []), (4, [0, 1, 10]), (5, []), (6, [0, 1, 19]), (7, []), (8, [0, 1, 26]), (9, [0, 1, 29]), (10, [0, 1]), (11, []), (12, [4])]),
  (52, [(0, [0, 1, 13]), (1, [])]),
  (53, [(0, [0]), (1, [0, 6]), (2, [0, 6, 19]), (3, [0, 6]), (4, [0, 6, 7]), (5, [0, 6, 7, 8, 9]), (6, [0, 6, 7, 8, 9, 10]), (7, [0, 6, 7, 8, 9, 10, 28]), (8, [0, 6, 7, 8, 9, 10]), (9, [0, 6, 7, 8, 9, 10, 11]), (10, [0, 6, 7, 8, 9, 10, 11, 35]), (11, [0, 6, 7, 8, 9, 10]), (12, [0, 6, 7, 8, 9, 10, 11, 43]), (13, [0, 6, 7, 8, 9, 10]), (14, [0, 6, 7, 9, 10, 53]), (15, [0, 6, 7, 9]), (16, [6, 7, 12]), (17, [2, 3, 4, 5]), (18, [6, 7, 12, 62]), (19, [2, 3, 4, 5]), (20, [6, 7, 12, 66]), (21, [2, 3, 4, 5])]),
  (54, [(0, [0, 1]), (1, [0, 1, 5]), (2, [4]), (3, [0, 1, 5, 11]), (4, [4]), (5, [0, 1, 5, 25]), (6, [0, 1, 5, 25]), (7, [4]), (8, [0, 1, 50]), (9, [4])]),
  (55, [(0, [0, 1]), (1, [4])]),
  (56, [(0, [0]), (1, [2])]),
  (57, [(0, [0, 1]), (1, [0, 1, 7, 8]), (2, [0, 1, 7, 8, 9]), (3, [0, 1, 5, 7, 8]), (4, [0, 1, 5, 7, 8, 16]), (5, [4]), (6, [0, 1, 7, 8]), (7, [4])]),
  (58, [(0, [0]), (1, [2])]),
  (59, [(0, [0, 1, 2]), (1, [0, 1, 2, 7]), (2, [0, 2, 7, 11]), (3, [0, 2, 7]), (4, [0, 2, 7]), (5, [6])]),
  (60, [(0, [0, 1]), (1, [0, 1, 7, 8]), (2, [0, 1, 7, 8, 9]), (3, [0, 1, 5, 7, 8]), (4, [0, 1, 5, 7, 8, 16]), (5, [4]), (6, [0, 1, 7, 8]), (7, [4])]),
  (61, [(0, [1]), (1, [])]),
  (62, [(0, [0, 1]), (1, [4])]),
  (63, [(0, [0, 1, 2]), (1, [0, 1, 2, 10]), (2, [0, 1, 12]), (3, [6]), (4, [0, 1, 7]), (5, [0, 1, 7, 8]), (6, [0, 7, 8]), (7, [6]), (8, [0]), (9, [6])]),
  (64, [(0, [0, 1, 2]), (1, [1, 2, 10]), (2, [1, 2, 10, 11, 12]), (3, [1, 2, 7, 8, 10]), (4, [1, 2, 7, 10, 19]), (5, [6]), (6, [6])]),
  (65, [(0, [0]), (1, [0, 4]), (2, [2]), (3, [2])]),
  (66, [(0, [0]), (1, [0, 3]), (2, [2])]),
  (67, [(0, [0, 1, 4]), (1, [0, 1, 4, 20]), (2, [0, 1, 4, 5]), (3, [0, 1, 4, 5]), (4, [0, 1, 4, 6, 7]), (5, [0, 1, 4, 6, 8, 9]), (6, [0, 1, 4, 8, 9, 10, 11]), (7, [0, 1, 4, 8, 10, 11]), (8, [0, 1, 4, 10, 11]), (9, [0, 1, 4, 10]), (10, [0, 1, 4]), (11, [0, 1, 4]), (12, [0, 4, 12]), (13, [0, 4, 12, 99]), (14, [0, 4, 12, 13]), (15, [0, 4, 12, 13]), (16, [0, 4, 12, 14, 15]), (17, [0, 4, 12, 14]), (18, [0, 4, 12]), (19, [0, 4, 12]), (20, [0, 4, 12, 139]), (21, [0, 4, 12, 16]), (22, [0, 4, 12, 16]), (23, [0, 4, 12]), (24, [0, 4, 12]), (25, [0, 12, 161]), (26, [])]),
  (68, [(0, [0, 1, 2, 3, 4, 10, 11]), (1, [0, 1, 2, 3, 4, 10, 11, 28]), (2, [0, 1, 2, 3, 4, 10, 11]), (3, [0, 1, 2, 3, 4, 10, 11, 12]), (4, [0, 1, 2, 3, 4, 10, 11, 12, 13]), (5, [0, 1, 2, 3, 4, 10, 11, 12, 13, 30]), (6, [0, 1, 2, 3, 4, 10, 11, 12, 13]), (7, [0, 1, 2, 3, 4, 10, 11, 12, 13, 34]), (8, [0, 1, 2, 3, 4, 10, 11, 12, 13, 14]), (9, [0, 1, 2, 3, 4, 10, 11, 12, 13, 14, 15]), (10, [0, 1, 3, 4, 10, 11, 12, 13, 14, 15, 16]), (11, [0, 1, 3, 4, 10, 11, 12, 13, 14, 15, 16, 46]), (12, [0, 1, 3, 4, 10, 11, 12, 13, 14, 15, 16]), (13, [0, 1, 3, 4, 10, 11, 12, 13, 14, 15, 16]), (14, [0, 1, 3, 4, 10, 11, 12, 13, 14, 15, 16]), (15, [0, 1, 3, 4, 10, 11, 12, 13]), (16, [0, 3, 4, 10, 11, 12, 13]), (17, [0, 1, 3, 4, 10, 11, 12, 13, 17]), (18, [0, 1, 3, 4, 10, 11, 12, 13, 17, 68]), (19, [0, 1, 3, 4, 10, 11, 12, 13, 17]), (20, [0, 1, 3, 4, 10, 11, 12, 13, 17, 18]), (21, [0, 3, 4, 10, 11, 12, 13, 17, 18]), (22, [0, 1, 3, 4, 10, 11, 12, 13, 17]), (23, [0, 1, 3, 4, 10, 11, 12, 13]), (24, [0, 3, 4, 10, 11, 12, 13]), (25, [0, 4, 10, 11, 12, 13, 89]), (26, [0, 4, 10, 11, 12, 13]), (27, [0, 4, 10, 11, 12, 13]), (28, [0, 10, 11, 12, 13, 94]), (29, [10, 11]), (30, [10, 11])]),
  (69, [(0, [0]), (1, [2])]),
  (70, [(0, [0, 2]), (1, [0, 2, 4]), (2, [0]), (3, [0, 2]), (4, [0, 2, 8]), (5, [0, 2]), (6, [0, 2]), (7, [0, 2, 14]), (8, [0, 2]), (9, [0, 2]), (10, [2])]),
  (71, [(0, [0]), (1, [3]), (2, [2]), (3, [2])]),
  (72, [(0, [0]), (1, [2])]),
  (73, [(0, [0]), (1, [2]), (2, [2])]),
  (74, [(0, [0]), (1, [0, 4]), (2, [2]), (3, [2])]),
  (75, [(0, [0]), (1, [0, 4]), (2, [2]), (3, [2])]),
  (97, [(0, []), (1, []), (2, [])])]
def headT : List (Nat × List (Nat × List Nat)) := [
  (3, [(5, [5, 21, 22, 23])]),
  (7, [(5, [0, 3, 14, 15, 16])]),
  (10, [(5, [1, 4, 6, 7])]),
  (16, [(4, [0, 1, 5])]),
  (22, [(3, [3, 6, 7, 8])]),
  (23, [(13, [2, 8, 45, 46, 47])]),
  (24, [(3, [0, 3, 4])]),
  (25, [(4, [0, 1, 2, 8]), (9, [0, 1, 2, 9]), (17, [1, 2, 10, 11])]),
  (26, [(4, [0, 2, 3, 9])]),
  (28, [(6, [6, 7, 8, 9, 16, 17])]),
  (45, [(2, [0, 3])]),
  (46, [(4, [0, 1, 5])]),
  (50, [(1, [0, 6, 7, 8])]),
  (53, [(7, [0, 6, 7, 8, 9, 10])]),
  (57, [(2, [0, 1, 7, 8])]),
  (60, [(2, [0, 1, 7, 8])]),
  (64, [(2, [1, 2, 10])]),
  (67, [(1, [0, 1, 4])]),
  (68, [(11, [0, 1, 3, 4, 10, 11, 12, 13, 14, 15, 16]), (18, [0, 1, 3, 4, 10, 11, 12, 13, 17])])]
def lk2 (t : List (Nat × List (Nat × List Nat))) (f i : Nat) : List Nat := match t.lookup f with | some l => (l.lookup i).getD [] | none => []
def floT : List (Nat × List (Nat × List (Nat × Nat))) := [
  (4, [(5, [(1, 2)])]),
  (5, [(7, [(3, 14), (8, 14), (10, 14)])]),
  (10, [(10, [(7, 8)])]),
  (16, [(6, [])]),
  (19, [(1, [(4, 6)])]),
  (21, [(7, []), (14, [(3, 5)]), (18, [(3, 9), (5, 9), (7, 9), (5, 11), (7, 11), (7, 13)])]),
  (28, [(23, [])]),
  (30, [(1, [(4, 6)])]),
  (46, [(6, [])]),
  (52, [(1, [(4, 6)])]),
  (53, [(3, []), (17, [])]),
  (67, [(7, []), (8, []), (9, []), (10, []), (17, []), (18, []), (23, [])])]
def lkF (t : List (Nat × List (Nat × List (Nat × Nat)))) (f i : Nat) : List (Nat × Nat) := match t.lookup f with | some l => (l.lookup i).getD [] | none => []
def matT : List (Nat × List (Nat × List (Nat × Nat))) := [(22, [(3, [(3, 1)])]), (23, [(13, [(8, 1)])]), (24, [(3, [(3, 1)])]), (28, [(6, [(7, 1)])]), (68, [(11, [(0, 1)]), (18, [(0, 1)])])]
def matbT : List (Nat × List (Nat × List (Nat × Nat × Nat))) := [(10, [(5, [(6, 3, 7)])]), (53, [(7, [(7, 0, 1)])])]
def frzT : List (Nat × List (Nat × List (Nat × Nat))) := []
def lkG {α : Type} (t : List (Nat × List (Nat × List α))) (f i : Nat) : List α := match t.lookup f with | some l => (l.lookup i).getD [] | none => []
def kindT : List (Nat × List (Option Nat)) := [(26, [some 7]), (29, [some 1]), (30, [none, none, none, none, none, some 1, none]), (31, [none, none, none, none, none, some 1, none]), (43, [none, none, none, some 7]), (44, [none, none, none, some 7]), (47, [some 1]), (49, [some 1])]
def argkT : List (Nat × List (List (Option Nat))) := [(4, [[none, none, none, none, none, some 1, none]]), (5, [[none, none, none, none, none, some 1, none]]), (6, [[none, none, none, none, none, some 1, none], [none, none, none, none, none, some 1, none]]), (7, [[some 7]]), (11, [[none, none, none, none, none, some 1, none]]), (12, [[none, none, none, none, none, some 1, none]]), (13, [[none, none, none, none, none, some 1, none]]), (14, [[none, none, none, none, none, some 1, none]]), (15, [[none, none, none, none, none, some 1, none]]), (16, [[some 7], [some 7]]), (19, [[], [none, none, none, none, none, some 1, none]]), (21, [[none, none, none, none, none, some 1, none]]), (22, [[some 1]]), (23, [[], [some 1]]), (24, [[some 1]]), (25, [[], [some 1]]), (27, [[none, none, none, none, none, some 1, none], [none, none, none, none, none, some 1, none]]), (36, [[some 1]]), (39, [[some 1]]), (41, [[some 1]]), (42, [[some 1]]), (46, [[some 1], [some 1]]), (48, [[some 1]]), (50, [[], [some 1]]), (54, [[some 1]]), (57, [[some 1]]), (59, [[some 1]]), (60, [[some 1]]), (63, [[some 1]]), (67, [[some 1]]), (68, [[some 1]])]
def reskT : List (Nat × List (List (Option Nat))) := [(10, [[], [some 7]]), (28, [[some 1]]), (36, [[some 1]]), (42, [[some 1]]), (53, [[], [some 1]]), (54, [[some 1]]), (59, [[some 1]]), (63, [[some 1]]), (68, [[some 1]])]
noncomputable def E : Env := { P := Tryd.prog, keep := lk2 keepT, head := lk2 headT, flo := lkF floT, hol := fun f i => [(5, 7)].contains (f, i), glob := fun g => if g = 0 then some powT else none, byref := fun f => [36, 42, 54].contains f, ext := fun f => if f = 42 then some (extAppendInt Tryd.prog 47 9) else none, kinds := fun t => (kindT.lookup t).getD [], argk := fun f => (argkT.lookup f).getD [], resk := fun f => (reskT.lookup f).getD [], own := fun f => [36, 54].contains f, mat := lkG matT, matb := lkG matbT, frz := lkG frzT }
theorem E_P : E.P = Tryd.prog := rfl
theorem E_globI (g : Nat) (cells : List IV) (h : E.glob g = some cells) : (g = 0 ∧ cells = powT) ∨ False := by
  have h2 : (if g = 0 then some powT else none) = some cells := h
  (repeat (split at h2)) <;> simp_all
theorem E_glob0 : E.glob 0 = some powT := rfl
theorem E_extI (f : Nat) (h : List AV → Hp → Option (AV × Hp)) (hf : E.ext f = some h) : (f = 42 ∧ h = (extAppendInt Tryd.prog 47 9)) ∨ False := by
  have h2 : (if f = 42 then some (extAppendInt Tryd.prog 47 9) else none) = some h := hf
  (repeat (split at h2)) <;> simp_all
theorem xk42 : E.ext 42 = some (extAppendInt Tryd.prog 47 9) := rfl
theorem E_byref (f : Nat) : E.byref f = [36, 42, 54].contains f := rfl
theorem agg2 : aggO Tryd.prog 2 = some false := by kernel_rfl
theorem agg21 : aggO Tryd.prog 21 = some false := by kernel_rfl
theorem agg23 : aggO Tryd.prog 23 = some true := by kernel_rfl
theorem agg26 : aggO Tryd.prog 26 = some false := by kernel_rfl
theorem agg29 : aggO Tryd.prog 29 = some false := by kernel_rfl
theorem agg3 : aggO Tryd.prog 3 = some false := by kernel_rfl
theorem agg31 : aggO Tryd.prog 31 = some true := by kernel_rfl
theorem agg4 : aggO Tryd.prog 4 = some false := by kernel_rfl
theorem agg42 : aggO Tryd.prog 42 = some false := by kernel_rfl
theorem agg44 : aggO Tryd.prog 44 = some true := by kernel_rfl
theorem agg47 : aggO Tryd.prog 47 = some false := by kernel_rfl
theorem agg49 : aggO Tryd.prog 49 = some false := by kernel_rfl
theorem agg5 : aggO Tryd.prog 5 = some false := by kernel_rfl
theorem agg58 : aggO Tryd.prog 58 = some false := by kernel_rfl
theorem agg61 : aggO Tryd.prog 61 = some false := by kernel_rfl
theorem agg67 : aggO Tryd.prog 67 = some true := by kernel_rfl
theorem agg68 : aggO Tryd.prog 68 = some false := by kernel_rfl
theorem agg75 : aggO Tryd.prog 75 = some false := by kernel_rfl
theorem agg77 : aggO Tryd.prog 77 = some false := by kernel_rfl
theorem agg81 : aggO Tryd.prog 81 = some false := by kernel_rfl
theorem agg84 : aggO Tryd.prog 84 = some true := by kernel_rfl
theorem agg9 : aggO Tryd.prog 9 = some false := by kernel_rfl
theorem agg91 : aggO Tryd.prog 91 = some true := by kernel_rfl
theorem agg92 : aggO Tryd.prog 92 = some true := by kernel_rfl
theorem agg95 : aggO Tryd.prog 95 = some true := by kernel_rfl
theorem agg96 : aggO Tryd.prog 96 = some true := by kernel_rfl
theorem arr23 : arrO Tryd.prog 23 = none := by kernel_rfl
theorem arr26 : arrO Tryd.prog 26 = none := by kernel_rfl
theorem arr29 : arrO Tryd.prog 29 = none := by kernel_rfl
theorem arr31 : arrO Tryd.prog 31 = none := by kernel_rfl
theorem arr44 : arrO Tryd.prog 44 = none := by kernel_rfl
theorem arr47 : arrO Tryd.prog 47 = none := by kernel_rfl
theorem arr49 : arrO Tryd.prog 49 = none := by kernel_rfl
theorem arr67 : arrO Tryd.prog 67 = none := by kernel_rfl
theorem arr9 : arrO Tryd.prog 9 = none := by kernel_rfl
theorem arr91 : arrO Tryd.prog 91 = some (20, 81) := by kernel_rfl
theorem arr92 : arrO Tryd.prog 92 = some (65, 5) := by kernel_rfl
theorem arr95 : arrO Tryd.prog 95 = some (32, 5) := by kernel_rfl
theorem arr96 : arrO Tryd.prog 96 = some (64, 5) := by kernel_rfl
theorem arrz23 : arrO Tryd.prog 23 = none := by kernel_rfl
theorem arrz31 : arrO Tryd.prog 31 = none := by kernel_rfl
theorem arrz44 : arrO Tryd.prog 44 = none := by kernel_rfl
theorem arrz67 : arrO Tryd.prog 67 = none := by kernel_rfl
theorem arrz84 : arrO Tryd.prog 84 = some (24, 5) := by kernel_rfl
theorem arrz91 : arrO Tryd.prog 91 = some (20, 81) := by kernel_rfl
theorem arrz92 : arrO Tryd.prog 92 = some (65, 5) := by kernel_rfl
theorem arrz95 : arrO Tryd.prog 95 = some (32, 5) := by kernel_rfl
theorem arrz96 : arrO Tryd.prog 96 = some (64, 5) := by kernel_rfl
theorem eqg23 : eqgO Tryd.prog 23 = false := by kernel_rfl
theorem fld23_0 : fldO Tryd.prog 23 0 = some (0, 3) := by kernel_rfl
theorem fld23_1 : fldO Tryd.prog 23 1 = some (1, 9) := by kernel_rfl
theorem fld23_2 : fldO Tryd.prog 23 2 = some (2, 9) := by kernel_rfl
theorem fld31_0 : fldO Tryd.prog 31 0 = some (0, 3) := by kernel_rfl
theorem fld31_1 : fldO Tryd.prog 31 1 = some (1, 21) := by kernel_rfl
theorem fld31_2 : fldO Tryd.prog 31 2 = some (2, 5) := by kernel_rfl
theorem fld31_3 : fldO Tryd.prog 31 3 = some (3, 5) := by kernel_rfl
theorem fld31_4 : fldO Tryd.prog 31 4 = some (4, 9) := by kernel_rfl
theorem fld31_5 : fldO Tryd.prog 31 5 = some (5, 29) := by kernel_rfl
theorem fld31_6 : fldO Tryd.prog 31 6 = some (6, 9) := by kernel_rfl
theorem fld44_0 : fldO Tryd.prog 44 0 = some (0, 23) := by kernel_rfl
theorem fld44_1 : fldO Tryd.prog 44 1 = some (3, 26) := by kernel_rfl
theorem fld67_0 : fldO Tryd.prog 67 0 = some (0, 21) := by kernel_rfl
theorem fld67_1 : fldO Tryd.prog 67 1 = some (1, 3) := by kernel_rfl
theorem fld67_2 : fldO Tryd.prog 67 2 = some (2, 5) := by kernel_rfl
theorem fld67_3 : fldO Tryd.prog 67 3 = some (3, 5) := by kernel_rfl
theorem kind2 : kindO Tryd.prog 2 = some .i64 := by kernel_rfl
theorem kind21 : kindO Tryd.prog 21 = some .i32 := by kernel_rfl
theorem kind23 : kindO Tryd.prog 23 = none := by kernel_rfl
theorem kind26 : kindO Tryd.prog 26 = none := by kernel_rfl
theorem kind29 : kindO Tryd.prog 29 = none := by kernel_rfl
theorem kind3 : kindO Tryd.prog 3 = some .i64 := by kernel_rfl
theorem kind31 : kindO Tryd.prog 31 = none := by kernel_rfl
theorem kind4 : kindO Tryd.prog 4 = none := by kernel_rfl
theorem kind42 : kindO Tryd.prog 42 = none := by kernel_rfl
theorem kind47 : kindO Tryd.prog 47 = none := by kernel_rfl
theorem kind49 : kindO Tryd.prog 49 = none := by kernel_rfl
theorem kind5 : kindO Tryd.prog 5 = some .u8 := by kernel_rfl
theorem kind58 : kindO Tryd.prog 58 = none := by kernel_rfl
theorem kind61 : kindO Tryd.prog 61 = none := by kernel_rfl
theorem kind68 : kindO Tryd.prog 68 = some .u64 := by kernel_rfl
theorem kind75 : kindO Tryd.prog 75 = some .u32 := by kernel_rfl
theorem kind77 : kindO Tryd.prog 77 = none := by kernel_rfl
theorem kind81 : kindO Tryd.prog 81 = some .u64 := by kernel_rfl
theorem kind84 : kindO Tryd.prog 84 = none := by kernel_rfl
theorem kind9 : kindO Tryd.prog 9 = none := by kernel_rfl
theorem kind91 : kindO Tryd.prog 91 = none := by kernel_rfl
theorem kind92 : kindO Tryd.prog 92 = none := by kernel_rfl
theorem kind95 : kindO Tryd.prog 95 = none := by kernel_rfl
theorem kind96 : kindO Tryd.prog 96 = none := by kernel_rfl
theorem lv23 : leaves Tryd.prog 9 23 = some [.int .i64, .str, .str] := by kernel_rfl
theorem pl23 : placesO Tryd.prog 23 = some [(0, 1), (1, 1), (2, 1)] := by kernel_rfl
theorem pl31 : placesO Tryd.prog 31 = some [(0, 1), (1, 1), (2, 1), (3, 1), (4, 1), (5, 1), (6, 1)] := by kernel_rfl
theorem pl44 : placesO Tryd.prog 44 = some [(0, 3), (3, 1)] := by kernel_rfl
theorem pl67 : placesO Tryd.prog 67 = some [(0, 1), (1, 1), (2, 1), (3, 1)] := by kernel_rfl
theorem sl2 : slO Tryd.prog 2 = none := by kernel_rfl
theorem sl21 : slO Tryd.prog 21 = none := by kernel_rfl
theorem sl23 : slO Tryd.prog 23 = none := by kernel_rfl
theorem sl26 : slO Tryd.prog 26 = some 31 := by kernel_rfl
theorem sl29 : slO Tryd.prog 29 = some 3 := by kernel_rfl
theorem sl3 : slO Tryd.prog 3 = none := by kernel_rfl
theorem sl31 : slO Tryd.prog 31 = none := by kernel_rfl
theorem sl4 : slO Tryd.prog 4 = none := by kernel_rfl
theorem sl42 : slO Tryd.prog 42 = none := by kernel_rfl
theorem sl47 : slO Tryd.prog 47 = some 5 := by kernel_rfl
theorem sl49 : slO Tryd.prog 49 = some 21 := by kernel_rfl
theorem sl5 : slO Tryd.prog 5 = none := by kernel_rfl
theorem sl58 : slO Tryd.prog 58 = none := by kernel_rfl
theorem sl61 : slO Tryd.prog 61 = none := by kernel_rfl
theorem sl68 : slO Tryd.prog 68 = none := by kernel_rfl
theorem sl75 : slO Tryd.prog 75 = none := by kernel_rfl
theorem sl77 : slO Tryd.prog 77 = none := by kernel_rfl
theorem sl81 : slO Tryd.prog 81 = none := by kernel_rfl
theorem sl84 : slO Tryd.prog 84 = none := by kernel_rfl
theorem sl9 : slO Tryd.prog 9 = none := by kernel_rfl
theorem sl91 : slO Tryd.prog 91 = none := by kernel_rfl
theorem sl92 : slO Tryd.prog 92 = none := by kernel_rfl
theorem sl95 : slO Tryd.prog 95 = none := by kernel_rfl
theorem sl96 : slO Tryd.prog 96 = none := by kernel_rfl
theorem str2 : isStrO Tryd.prog 2 = false := by kernel_rfl
theorem str21 : isStrO Tryd.prog 21 = false := by kernel_rfl
theorem str23 : isStrO Tryd.prog 23 = false := by kernel_rfl
theorem str26 : isStrO Tryd.prog 26 = false := by kernel_rfl
theorem str29 : isStrO Tryd.prog 29 = false := by kernel_rfl
theorem str3 : isStrO Tryd.prog 3 = false := by kernel_rfl
theorem str31 : isStrO Tryd.prog 31 = false := by kernel_rfl
theorem str4 : isStrO Tryd.prog 4 = false := by kernel_rfl
theorem str42 : isStrO Tryd.prog 42 = false := by kernel_rfl
theorem str47 : isStrO Tryd.prog 47 = false := by kernel_rfl
theorem str49 : isStrO Tryd.prog 49 = false := by kernel_rfl
theorem str5 : isStrO Tryd.prog 5 = false := by kernel_rfl
theorem str58 : isStrO Tryd.prog 58 = false := by kernel_rfl
theorem str61 : isStrO Tryd.prog 61 = false := by kernel_rfl
theorem str68 : isStrO Tryd.prog 68 = false := by kernel_rfl
theorem str75 : isStrO Tryd.prog 75 = false := by kernel_rfl
theorem str77 : isStrO Tryd.prog 77 = false := by kernel_rfl
theorem str81 : isStrO Tryd.prog 81 = false := by kernel_rfl
theorem str84 : isStrO Tryd.prog 84 = false := by kernel_rfl
theorem str9 : isStrO Tryd.prog 9 = true := by kernel_rfl
theorem str91 : isStrO Tryd.prog 91 = false := by kernel_rfl
theorem str92 : isStrO Tryd.prog 92 = false := by kernel_rfl
theorem str95 : isStrO Tryd.prog 95 = false := by kernel_rfl
theorem str96 : isStrO Tryd.prog 96 = false := by kernel_rfl
theorem sz21 : szO Tryd.prog 21 = some 1 := by kernel_rfl
theorem sz23 : szO Tryd.prog 23 = some 3 := by kernel_rfl
theorem sz26 : szO Tryd.prog 26 = some 1 := by kernel_rfl
theorem sz29 : szO Tryd.prog 29 = some 1 := by kernel_rfl
theorem sz3 : szO Tryd.prog 3 = some 1 := by kernel_rfl
theorem sz31 : szO Tryd.prog 31 = some 7 := by kernel_rfl
theorem sz44 : szO Tryd.prog 44 = some 4 := by kernel_rfl
theorem sz5 : szO Tryd.prog 5 = some 1 := by kernel_rfl
theorem sz67 : szO Tryd.prog 67 = some 4 := by kernel_rfl
theorem sz81 : szO Tryd.prog 81 = some 1 := by kernel_rfl
theorem sz84 : szO Tryd.prog 84 = some 24 := by kernel_rfl
theorem sz9 : szO Tryd.prog 9 = some 1 := by kernel_rfl
theorem sz91 : szO Tryd.prog 91 = some 20 := by kernel_rfl
theorem sz92 : szO Tryd.prog 92 = some 65 := by kernel_rfl
theorem sz95 : szO Tryd.prog 95 = some 32 := by kernel_rfl
theorem sz96 : szO Tryd.prog 96 = some 64 := by kernel_rfl
theorem und4 : Tryd.prog.underlying 4 = some .bool := by kernel_rfl
theorem zero21 : zeroO Tryd.prog 21 = some (.i (.v (.int .i32 0))) := by kernel_rfl
theorem zero23 : zeroO Tryd.prog 23 = some (.agg [.i (.v (.int .i64 0)), .i (.str []), .i (.str [])]) := by kernel_rfl
theorem zero29 : zeroO Tryd.prog 29 = some (.i (.sl 0 [] true)) := by kernel_rfl
theorem zero3 : zeroO Tryd.prog 3 = some (.i (.v (.int .i64 0))) := by kernel_rfl
theorem zero31 : zeroO Tryd.prog 31 = some (.agg [.i (.v (.int .i64 0)), .i (.v (.int .i32 0)), .i (.v (.int .u8 0)), .i (.v (.int .u8 0)), .i (.str []), .i (.sl 0 [] true), .i (.str [])]) := by kernel_rfl
theorem zero44 : zeroO Tryd.prog 44 = some (.agg [.i (.v (.int .i64 0)), .i (.str []), .i (.str []), .i (.sl 0 [] true)]) := by kernel_rfl
theorem zero5 : zeroO Tryd.prog 5 = some (.i (.v (.int .u8 0))) := by kernel_rfl
theorem zero67 : zeroO Tryd.prog 67 = some (.agg [.i (.v (.int .i32 0)), .i (.v (.int .i64 0)), .i (.v (.int .u8 0)), .i (.v (.int .u8 0))]) := by kernel_rfl
theorem zero84 : zeroO Tryd.prog 84 = some (.agg [.i (.v (.int .u8 0)), .i (.v (.int .u8 0)), .i (.v (.int .u8 0)), .i (.v (.int .u8 0)), .i (.v (.int .u8 0)), .i (.v (.int .u8 0)), .i (.v (.int .u8 0)), .i (.v (.int .u8 0)), .i (.v (.int .u8 0)), .i (.v (.int .u8 0)), .i (.v (.int .u8 0)), .i (.v (.int .u8 0)), .i (.v (.int .u8 0)), .i (.v (.int .u8 0)), .i (.v (.int .u8 0)), .i (.v (.int .u8 0)), .i (.v (.int .u8 0)), .i (.v (.int .u8 0)), .i (.v (.int .u8 0)), .i (.v (.int .u8 0)), .i (.v (.int .u8 0)), .i (.v (.int .u8 0)), .i (.v (.int .u8 0)), .i (.v (.int .u8 0))]) := by kernel_rfl
theorem zero91 : zeroO Tryd.prog 91 = some (.agg [.i (.v (.int .u64 0)), .i (.v (.int .u64 0)), .i (.v (.int .u64 0)), .i (.v (.int .u64 0)), .i (.v (.int .u64 0)), .i (.v (.int .u64 0)), .i (.v (.int .u64 0)), .i (.v (.int .u64 0)), .i (.v (.int .u64 0)), .i (.v (.int .u64 0)), .i (.v (.int .u64 0)), .i (.v (.int .u64 0)), .i (.v (.int .u64 0)), .i (.v (.int .u64 0)), .i (.v (.int .u64 0)), .i (.v (.int .u64 0)), .i (.v (.int .u64 0)), .i (.v (.int .u64 0)), .i (.v (.int .u64 0)), .i (.v (.int .u64 0))]) := by kernel_rfl
theorem zero92 : zeroO Tryd.prog 92 = some (.agg [.i (.v (.int .u8 0)), .i (.v (.int .u8 0)), .i (.v (.int .u8 0)), .i (.v (.int .u8 0)), .i (.v (.int .u8 0)), .i (.v (.int .u8 0)), .i (.v (.int .u8 0)), .i (.v (.int .u8 0)), .i (.v (.int .u8 0)), .i (.v (.int .u8 0)), .i (.v (.int .u8 0)), .i (.v (.int .u8 0)), .i (.v (.int .u8 0)), .i (.v (.int .u8 0)), .i (.v (.int .u8 0)), .i (.v (.int .u8 0)), .i (.v (.int .u8 0)), .i (.v (.int .u8 0)), .i (.v (.int .u8 0)), .i (.v (.int .u8 0)), .i (.v (.int .u8 0)), .i (.v (.int .u8 0)), .i (.v (.int .u8 0)), .i (.v (.int .u8 0)), .i (.v (.int .u8 0)), .i (.v (.int .u8 0)), .i (.v (.int .u8 0)), .i (.v (.int .u8 0)), .i (.v (.int .u8 0)), .i (.v (.int .u8 0)), .i (.v (.int .u8 0)), .i (.v (.int .u8 0)), .i (.v (.int .u8 0)), .i (.v (.int .u8 0)), .i (.v (.int .u8 0)), .i (.v (.int .u8 0)), .i (.v (.int .u8 0)), .i (.v (.int .u8 0)), .i (.v (.int .u8 0)), .i (.v (.int .u8 0)), .i (.v (.int .u8 0)), .i (.v (.int .u8 0)), .i (.v (.int .u8 0)), .i (.v (.int .u8 0)), .i (.v (.int .u8 0)), .i (.v (.int .u8 0)), .i (.v (.int .u8 0)), .i (.v (.int .u8 0)), .i (.v (.int .u8 0)), .i (.v (.int .u8 0)), .i (.v (.int .u8 0)), .i (.v (.int .u8 0)), .i (.v (.int .u8 0)), .i (.v (.int .u8 0)), .i (.v (.int .u8 0)), .i (.v (.int .u8 0)), .i (.v (.int .u8 0)), .i (.v (.int .u8 0)), .i (.v (.int .u8 0)), .i (.v (.int .u8 0)), .i (.v (.int .u8 0)), .i (.v (.int .u8 0)), .i (.v (.int .u8 0)), .i (.v (.int .u8 0)), .i (.v (.int .u8 0))]) := by kernel_rfl
theorem zero95 : zeroO Tryd.prog 95 = some (.agg [.i (.v (.int .u8 0)), .i (.v (.int .u8 0)), .i (.v (.int .u8 0)), .i (.v (.int .u8 0)), .i (.v (.int .u8 0)), .i (.v (.int .u8 0)), .i (.v (.int .u8 0)), .i (.v (.int .u8 0)), .i (.v (.int .u8 0)), .i (.v (.int .u8 0)), .i (.v (.int .u8 0)), .i (.v (.int .u8 0)), .i (.v (.int .u8 0)), .i (.v (.int .u8 0)), .i (.v (.int .u8 0)), .i (.v (.int .u8 0)), .i (.v (.int .u8 0)), .i (.v (.int .u8 0)), .i (.v (.int .u8 0)), .i (.v (.int .u8 0)), .i (.v (.int .u8 0)), .i (.v (.int .u8 0)), .i (.v (.int .u8 0)), .i (.v (.int .u8 0)), .i (.v (.int .u8 0)), .i (.v (.int .u8 0)), .i (.v (.int .u8 0)), .i (.v (.int .u8 0)), .i (.v (.int .u8 0)), .i (.v (.int .u8 0)), .i (.v (.int .u8 0)), .i (.v (.int .u8 0))]) := by kernel_rfl
theorem zero96 : zeroO Tryd.prog 96 = some (.agg [.i (.v (.int .u8 0)), .i (.v (.int .u8 0)), .i (.v (.int .u8 0)), .i (.v (.int .u8 0)), .i (.v (.int .u8 0)), .i (.v (.int .u8 0)), .i (.v (.int .u8 0)), .i (.v (.int .u8 0)), .i (.v (.int .u8 0)), .i (.v (.int .u8 0)), .i (.v (.int .u8 0)), .i (.v (.int .u8 0)), .i (.v (.int .u8 0)), .i (.v (.int .u8 0)), .i (.v (.int .u8 0)), .i (.v (.int .u8 0)), .i (.v (.int .u8 0)), .i (.v (.int .u8 0)), .i (.v (.int .u8 0)), .i (.v (.int .u8 0)), .i (.v (.int .u8 0)), .i (.v (.int .u8 0)), .i (.v (.int .u8 0)), .i (.v (.int .u8 0)), .i (.v (.int .u8 0)), .i (.v (.int .u8 0)), .i (.v (.int .u8 0)), .i (.v (.int .u8 0)), .i (.v (.int .u8 0)), .i (.v (.int .u8 0)), .i (.v (.int .u8 0)), .i (.v (.int .u8 0)), .i (.v (.int .u8 0)), .i (.v (.int .u8 0)), .i (.v (.int .u8 0)), .i (.v (.int .u8 0)), .i (.v (.int .u8 0)), .i (.v (.int .u8 0)), .i (.v (.int .u8 0)), .i (.v (.int .u8 0)), .i (.v (.int .u8 0)), .i (.v (.int .u8 0)), .i (.v (.int .u8 0)), .i (.v (.int .u8 0)), .i (.v (.int .u8 0)), .i (.v (.int .u8 0)), .i (.v (.int .u8 0)), .i (.v (.int .u8 0)), .i (.v (.int .u8 0)), .i (.v (.int .u8 0)), .i (.v (.int .u8 0)), .i (.v (.int .u8 0)), .i (.v (.int .u8 0)), .i (.v (.int .u8 0)), .i (.v (.int .u8 0)), .i (.v (.int .u8 0)), .i (.v (.int .u8 0)), .i (.v (.int .u8 0)), .i (.v (.int .u8 0)), .i (.v (.int .u8 0)), .i (.v (.int .u8 0)), .i (.v (.int .u8 0)), .i (.v (.int .u8 0)), .i (.v (.int .u8 0))]) := by kernel_rfl
theorem fok4 : fnOk E 4 = true := by kernel_rfl
theorem ent4 : enterOk E 4 = true := by kernel_rfl
theorem ent9 : enterOk E 9 = true := by kernel_rfl
theorem fok11 : fnOk E 11 = true := by kernel_rfl
theorem ent11 : enterOk E 11 = true := by kernel_rfl
theorem fok12 : fnOk E 12 = true := by kernel_rfl
theorem ent12 : enterOk E 12 = true := by kernel_rfl
theorem fok13 : fnOk E 13 = true := by kernel_rfl
theorem ent13 : enterOk E 13 = true := by kernel_rfl
theorem fok14 : fnOk E 14 = true := by kernel_rfl
theorem ent14 : enterOk E 14 = true := by kernel_rfl
theorem fok15 : fnOk E 15 = true := by kernel_rfl
theorem ent15 : enterOk E 15 = true := by kernel_rfl
theorem fok21 : fnOk E 21 = true := by kernel_rfl
theorem ent21 : enterOk E 21 = true := by kernel_rfl
theorem fok22 : fnOk E 22 = true := by kernel_rfl
theorem ent22 : enterOk E 22 = true := by kernel_rfl
theorem fok23 : fnOk E 23 = true := by kernel_rfl
theorem ent23 : enterOk E 23 = true := by kernel_rfl
theorem fok24 : fnOk E 24 = true := by kernel_rfl
theorem ent24 : enterOk E 24 = true := by kernel_rfl
theorem fok25 : fnOk E 25 = true := by kernel_rfl
theorem ent25 : enterOk E 25 = true := by kernel_rfl
theorem fok26 : fnOk E 26 = true := by kernel_rfl
theorem ent26 : enterOk E 26 = true := by kernel_rfl
theorem fok27 : fnOk E 27 = true := by kernel_rfl
theorem ent27 : enterOk E 27 = true := by kernel_rfl
theorem fok28 : fnOk E 28 = true := by kernel_rfl
theorem ent28 : enterOk E 28 = true := by kernel_rfl
theorem fok29 : fnOk E 29 = true := by kernel_rfl
theorem ent29 : enterOk E 29 = true := by kernel_rfl
theorem fok36 : fnOk E 36 = true := by kernel_rfl
theorem ent36 : enterOk E 36 = true := by kernel_rfl
theorem fok37 : fnOk E 37 = true := by kernel_rfl
theorem ent37 : enterOk E 37 = true := by kernel_rfl
theorem fok38 : fnOk E 38 = true := by kernel_rfl
theorem ent38 : enterOk E 38 = true := by kernel_rfl
theorem fok39 : fnOk E 39 = true := by kernel_rfl
theorem ent39 : enterOk E 39 = true := by kernel_rfl
theorem fok40 : fnOk E 40 = true := by kernel_rfl
theorem ent40 : enterOk E 40 = true := by kernel_rfl
theorem fok41 : fnOk E 41 = true := by kernel_rfl
theorem ent41 : enterOk E 41 = true := by kernel_rfl
theorem ent42 : enterOk E 42 = true := by kernel_rfl
theorem fok43 : fnOk E 43 = true := by kernel_rfl
theorem ent43 : enterOk E 43 = true := by kernel_rfl
theorem fok44 : fnOk E 44 = true := by kernel_rfl
theorem ent44 : enterOk E 44 = true := by kernel_rfl
theorem fok45 : fnOk E 45 = true := by kernel_rfl
theorem ent45 : enterOk E 45 = true := by kernel_rfl
theorem fok46 : fnOk E 46 = true := by kernel_rfl
theorem ent46 : enterOk E 46 = true := by kernel_rfl
theorem ent47 : enterOk E 47 = true := by kernel_rfl
theorem fok48 : fnOk E 48 = true := by kernel_rfl
theorem ent48 : enterOk E 48 = true := by kernel_rfl
theorem fok49 : fnOk E 49 = true := by kernel_rfl
theorem ent49 : enterOk E 49 = true := by kernel_rfl
theorem fok54 : fnOk E 54 = true := by kernel_rfl
theorem ent54 : enterOk E 54 = true := by kernel_rfl
theorem fok55 : fnOk E 55 = true := by kernel_rfl
theorem ent55 : enterOk E 55 = true := by kernel_rfl
theorem fok56 : fnOk E 56 = true := by kernel_rfl
theorem ent56 : enterOk E 56 = true := by kernel_rfl
theorem fok57 : fnOk E 57 = true := by kernel_rfl
theorem ent57 : enterOk E 57 = true := by kernel_rfl
theorem fok58 : fnOk E 58 = true := by kernel_rfl
theorem ent58 : enterOk E 58 = true := by kernel_rfl
theorem fok60 : fnOk E 60 = true := by kernel_rfl
theorem ent60 : enterOk E 60 = true := by kernel_rfl
theorem fok62 : fnOk E 62 = true := by kernel_rfl
theorem ent62 : enterOk E 62 = true := by kernel_rfl
theorem fok64 : fnOk E 64 = true := by kernel_rfl
theorem ent64 : enterOk E 64 = true := by kernel_rfl
theorem res4 : Tryd.f4.results = #[.tmp 2] := rfl
theorem res11 : Tryd.f11.results = #[.tmp 2] := rfl
theorem res12 : Tryd.f12.results = #[.tmp 2] := rfl
theorem res13 : Tryd.f13.results = #[.tmp 2, .tmp 3] := rfl
theorem res14 : Tryd.f14.results = #[.tmp 2, .tmp 3] := rfl
theorem res15 : Tryd.f15.results = #[.tmp 2] := rfl
theorem res21 : Tryd.f21.results = #[.tmp 2] := rfl
theorem res22 : Tryd.f22.results = #[.tmp 2] := rfl
theorem res23 : Tryd.f23.results = #[.tmp 6, .tmp 7] := rfl
theorem res24 : Tryd.f24.results = #[.tmp 2] := rfl
theorem res25 : Tryd.f25.results = #[.tmp 6, .tmp 7] := rfl
theorem res26 : Tryd.f26.results = #[.tmp 8] := rfl
theorem res27 : Tryd.f27.results = #[.tmp 4] := rfl
theorem res28 : Tryd.f28.results = #[.tmp 4, .tmp 5] := rfl
theorem res29 : Tryd.f29.results = #[.tmp 6] := rfl
theorem res36 : Tryd.f36.results = #[.tmp 4] := rfl
theorem res37 : Tryd.f37.results = #[.tmp 2] := rfl
theorem res38 : Tryd.f38.results = #[.tmp 2] := rfl
theorem res39 : Tryd.f39.results = #[.tmp 4] := rfl
theorem res40 : Tryd.f40.results = #[.tmp 2] := rfl
theorem res41 : Tryd.f41.results = #[.tmp 4] := rfl
theorem res43 : Tryd.f43.results = #[.tmp 2] := rfl
theorem res44 : Tryd.f44.results = #[.tmp 2] := rfl
theorem res45 : Tryd.f45.results = #[.tmp 2] := rfl
theorem res46 : Tryd.f46.results = #[.tmp 4] := rfl
theorem res48 : Tryd.f48.results = #[.tmp 4] := rfl
theorem res49 : Tryd.f49.results = #[.tmp 4] := rfl
theorem res54 : Tryd.f54.results = #[.tmp 4] := rfl
theorem res55 : Tryd.f55.results = #[.tmp 4] := rfl
theorem res56 : Tryd.f56.results = #[.tmp 2] := rfl
theorem res57 : Tryd.f57.results = #[.tmp 4] := rfl
theorem res58 : Tryd.f58.results = #[.tmp 2] := rfl
theorem res60 : Tryd.f60.results = #[.tmp 4] := rfl
theorem res62 : Tryd.f62.results = #[.tmp 4] := rfl
theorem res64 : Tryd.f64.results = #[.tmp 6] := rfl
theorem kp4_0 : E.keep 4 0 = [1] := by kernel_rfl
theorem kp4_1 : E.keep 4 1 = [1, 8] := by kernel_rfl
theorem kp4_2 : E.keep 4 2 = [2] := by kernel_rfl
theorem kp4_3 : E.keep 4 3 = [1, 3, 4] := by kernel_rfl
theorem kp4_4 : E.keep 4 4 = [1, 3, 4, 5, 6] := by kernel_rfl
theorem kp4_5 : E.keep 4 5 = [2] := by kernel_rfl
theorem kp11_0 : E.keep 11 0 = [1] := by kernel_rfl
theorem kp11_1 : E.keep 11 1 = [1, 3] := by kernel_rfl
theorem kp11_2 : E.keep 11 2 = [2] := by kernel_rfl
theorem kp11_3 : E.keep 11 3 = [12] := by kernel_rfl
theorem kp11_4 : E.keep 11 4 = [2] := by kernel_rfl
theorem kp11_5 : E.keep 11 5 = [2] := by kernel_rfl
theorem kp12_0 : E.keep 12 0 = [1] := by kernel_rfl
theorem kp12_1 : E.keep 12 1 = [2] := by kernel_rfl
theorem kp13_0 : E.keep 13 0 = [1] := by kernel_rfl
theorem kp13_1 : E.keep 13 1 = [1, 4] := by kernel_rfl
theorem kp13_2 : E.keep 13 2 = [1, 4, 11] := by kernel_rfl
theorem kp13_3 : E.keep 13 3 = [2, 3] := by kernel_rfl
theorem kp13_4 : E.keep 13 4 = [1, 5] := by kernel_rfl
theorem kp13_5 : E.keep 13 5 = [1, 5, 18] := by kernel_rfl
theorem kp13_6 : E.keep 13 6 = [1, 5, 18, 19] := by kernel_rfl
theorem kp13_7 : E.keep 13 7 = [2, 3] := by kernel_rfl
theorem kp13_8 : E.keep 13 8 = [1, 5, 18, 25] := by kernel_rfl
theorem kp13_9 : E.keep 13 9 = [2, 3] := by kernel_rfl
theorem kp13_10 : E.keep 13 10 = [1, 5, 18, 28] := by kernel_rfl
theorem kp13_11 : E.keep 13 11 = [2, 3] := by kernel_rfl
theorem kp13_12 : E.keep 13 12 = [1, 5, 35] := by kernel_rfl
theorem kp13_13 : E.keep 13 13 = [5, 6] := by kernel_rfl
theorem kp13_14 : E.keep 13 14 = [2, 3] := by kernel_rfl
theorem kp13_15 : E.keep 13 15 = [2, 3] := by kernel_rfl
theorem kp14_0 : E.keep 14 0 = [1] := by kernel_rfl
theorem kp14_1 : E.keep 14 1 = [1, 4] := by kernel_rfl
theorem kp14_2 : E.keep 14 2 = [1, 4, 11] := by kernel_rfl
theorem kp14_3 : E.keep 14 3 = [2, 3] := by kernel_rfl
theorem kp14_4 : E.keep 14 4 = [1, 5] := by kernel_rfl
theorem kp14_5 : E.keep 14 5 = [1, 5, 18] := by kernel_rfl
theorem kp14_6 : E.keep 14 6 = [1, 5, 18, 19] := by kernel_rfl
theorem kp14_7 : E.keep 14 7 = [2, 3] := by kernel_rfl
theorem kp14_8 : E.keep 14 8 = [1, 5, 18, 25] := by kernel_rfl
theorem kp14_9 : E.keep 14 9 = [2, 3] := by kernel_rfl
theorem kp14_10 : E.keep 14 10 = [1, 5, 18, 28] := by kernel_rfl
theorem kp14_11 : E.keep 14 11 = [2, 3] := by kernel_rfl
theorem kp14_12 : E.keep 14 12 = [1, 5, 35] := by kernel_rfl
theorem kp14_13 : E.keep 14 13 = [5, 6] := by kernel_rfl
theorem kp14_14 : E.keep 14 14 = [2, 3] := by kernel_rfl
theorem kp14_15 : E.keep 14 15 = [2, 3] := by kernel_rfl
theorem kp15_0 : E.keep 15 0 = [1] := by kernel_rfl
theorem kp15_1 : E.keep 15 1 = [1, 3] := by kernel_rfl
theorem kp15_2 : E.keep 15 2 = [1, 3, 11] := by kernel_rfl
theorem kp15_3 : E.keep 15 3 = [2] := by kernel_rfl
theorem kp15_4 : E.keep 15 4 = [1, 3, 11, 12] := by kernel_rfl
theorem kp15_5 : E.keep 15 5 = [1, 3] := by kernel_rfl
theorem kp15_6 : E.keep 15 6 = [1, 3, 4] := by kernel_rfl
theorem kp15_7 : E.keep 15 7 = [1, 3, 11, 45] := by kernel_rfl
theorem kp15_8 : E.keep 15 8 = [1, 3] := by kernel_rfl
theorem kp15_9 : E.keep 15 9 = [1, 3, 4] := by kernel_rfl
theorem kp15_10 : E.keep 15 10 = [1, 3, 11, 68] := by kernel_rfl
theorem kp15_11 : E.keep 15 11 = [1, 3] := by kernel_rfl
theorem kp15_12 : E.keep 15 12 = [1, 3] := by kernel_rfl
theorem kp15_13 : E.keep 15 13 = [1, 3, 4] := by kernel_rfl
theorem kp15_14 : E.keep 15 14 = [1, 3, 11, 104] := by kernel_rfl
theorem kp15_15 : E.keep 15 15 = [1, 3] := by kernel_rfl
theorem kp15_16 : E.keep 15 16 = [1, 3] := by kernel_rfl
theorem kp15_17 : E.keep 15 17 = [1, 3] := by kernel_rfl
theorem kp15_18 : E.keep 15 18 = [1, 3] := by kernel_rfl
theorem kp15_19 : E.keep 15 19 = [1, 3, 6] := by kernel_rfl
theorem kp15_20 : E.keep 15 20 = [1, 3, 4] := by kernel_rfl
theorem kp15_21 : E.keep 15 21 = [1, 3, 140] := by kernel_rfl
theorem kp15_22 : E.keep 15 22 = [1, 3] := by kernel_rfl
theorem kp15_23 : E.keep 15 23 = [1, 3, 4] := by kernel_rfl
theorem kp15_24 : E.keep 15 24 = [155] := by kernel_rfl
theorem kp15_25 : E.keep 15 25 = [2] := by kernel_rfl
theorem kp15_26 : E.keep 15 26 = [2] := by kernel_rfl
theorem kp21_0 : E.keep 21 0 = [1] := by kernel_rfl
theorem kp21_1 : E.keep 21 1 = [1, 3] := by kernel_rfl
theorem kp21_2 : E.keep 21 2 = [1, 3, 13] := by kernel_rfl
theorem kp21_3 : E.keep 21 3 = [1, 3, 13, 14] := by kernel_rfl
theorem kp21_4 : E.keep 21 4 = [1, 3] := by kernel_rfl
theorem kp21_5 : E.keep 21 5 = [1, 3, 4] := by kernel_rfl
theorem kp21_6 : E.keep 21 6 = [1, 3, 5] := by kernel_rfl
theorem kp21_7 : E.keep 21 7 = [1, 3, 53] := by kernel_rfl
theorem kp21_8 : E.keep 21 8 = [2] := by kernel_rfl
theorem kp21_9 : E.keep 21 9 = [1, 3, 13, 54] := by kernel_rfl
theorem kp21_10 : E.keep 21 10 = [1, 3] := by kernel_rfl
theorem kp21_11 : E.keep 21 11 = [1, 3, 76] := by kernel_rfl
theorem kp21_12 : E.keep 21 12 = [2] := by kernel_rfl
theorem kp21_13 : E.keep 21 13 = [1, 3, 13, 77] := by kernel_rfl
theorem kp21_14 : E.keep 21 14 = [1, 3] := by kernel_rfl
theorem kp21_15 : E.keep 21 15 = [1, 3, 119] := by kernel_rfl
theorem kp21_16 : E.keep 21 16 = [2] := by kernel_rfl
theorem kp21_17 : E.keep 21 17 = [1, 3, 13, 120] := by kernel_rfl
theorem kp21_18 : E.keep 21 18 = [1, 3] := by kernel_rfl
theorem kp21_19 : E.keep 21 19 = [1, 3, 8] := by kernel_rfl
theorem kp21_20 : E.keep 21 20 = [1, 3, 155] := by kernel_rfl
theorem kp21_21 : E.keep 21 21 = [2] := by kernel_rfl
theorem kp21_22 : E.keep 21 22 = [1, 3, 156] := by kernel_rfl
theorem kp21_23 : E.keep 21 23 = [1, 3] := by kernel_rfl
theorem kp21_24 : E.keep 21 24 = [1, 3, 170] := by kernel_rfl
theorem kp21_25 : E.keep 21 25 = [2] := by kernel_rfl
theorem kp21_26 : E.keep 21 26 = [2] := by kernel_rfl
theorem kp22_0 : E.keep 22 0 = [0] := by kernel_rfl
theorem kp22_1 : E.keep 22 1 = [0, 3] := by kernel_rfl
theorem kp22_2 : E.keep 22 2 = [3, 6, 7, 8] := by kernel_rfl
theorem kp22_3 : E.keep 22 3 = [3, 6, 7, 8, 9] := by kernel_rfl
theorem kp22_4 : E.keep 22 4 = [3, 5, 6, 7, 8] := by kernel_rfl
theorem kp22_5 : E.keep 22 5 = [3, 6, 7, 8] := by kernel_rfl
theorem kp22_6 : E.keep 22 6 = [3, 6, 7, 8] := by kernel_rfl
theorem kp22_7 : E.keep 22 7 = [2] := by kernel_rfl
theorem kp23_0 : E.keep 23 0 = [0, 1, 2] := by kernel_rfl
theorem kp23_1 : E.keep 23 1 = [0, 1, 2, 11] := by kernel_rfl
theorem kp23_2 : E.keep 23 2 = [0, 1, 2, 11] := by kernel_rfl
theorem kp23_3 : E.keep 23 3 = [0, 1, 2, 11] := by kernel_rfl
theorem kp23_4 : E.keep 23 4 = [6, 7] := by kernel_rfl
theorem kp23_5 : E.keep 23 5 = [0, 1, 2, 31] := by kernel_rfl
theorem kp23_6 : E.keep 23 6 = [6, 7] := by kernel_rfl
theorem kp23_7 : E.keep 23 7 = [0, 1, 2, 34] := by kernel_rfl
theorem kp23_8 : E.keep 23 8 = [6, 7] := by kernel_rfl
theorem kp23_9 : E.keep 23 9 = [0, 1, 2, 8] := by kernel_rfl
theorem kp23_10 : E.keep 23 10 = [0, 1, 2, 8, 40] := by kernel_rfl
theorem kp23_11 : E.keep 23 11 = [1, 2, 8] := by kernel_rfl
theorem kp23_12 : E.keep 23 12 = [2, 8, 45, 46, 47] := by kernel_rfl
theorem kp23_13 : E.keep 23 13 = [2, 8, 45, 46, 47, 48] := by kernel_rfl
theorem kp23_14 : E.keep 23 14 = [2, 8, 9, 10, 45, 46, 47] := by kernel_rfl
theorem kp23_15 : E.keep 23 15 = [2, 8, 10, 45, 46, 47, 53] := by kernel_rfl
theorem kp23_16 : E.keep 23 16 = [2, 8, 10, 45, 46, 47] := by kernel_rfl
theorem kp23_17 : E.keep 23 17 = [2, 8, 10, 45, 46, 47, 58] := by kernel_rfl
theorem kp23_18 : E.keep 23 18 = [2, 8, 45, 46, 47] := by kernel_rfl
theorem kp23_19 : E.keep 23 19 = [2, 8, 45, 46, 47] := by kernel_rfl
theorem kp23_20 : E.keep 23 20 = [6, 7] := by kernel_rfl
theorem kp24_0 : E.keep 24 0 = [0] := by kernel_rfl
theorem kp24_1 : E.keep 24 1 = [0, 3] := by kernel_rfl
theorem kp24_2 : E.keep 24 2 = [0, 3, 4] := by kernel_rfl
theorem kp24_3 : E.keep 24 3 = [0, 3, 4, 10] := by kernel_rfl
theorem kp24_4 : E.keep 24 4 = [0, 3, 4] := by kernel_rfl
theorem kp24_5 : E.keep 24 5 = [0, 3, 4, 5] := by kernel_rfl
theorem kp24_6 : E.keep 24 6 = [0, 3, 4, 5, 30] := by kernel_rfl
theorem kp24_7 : E.keep 24 7 = [0, 3, 4, 5] := by kernel_rfl
theorem kp24_8 : E.keep 24 8 = [0, 3, 4] := by kernel_rfl
theorem kp24_9 : E.keep 24 9 = [0, 3, 4, 5, 52] := by kernel_rfl
theorem kp24_10 : E.keep 24 10 = [0, 3, 4] := by kernel_rfl
theorem kp24_11 : E.keep 24 11 = [0, 3, 4, 5, 60] := by kernel_rfl
theorem kp24_12 : E.keep 24 12 = [0, 3, 4] := by kernel_rfl
theorem kp24_13 : E.keep 24 13 = [0, 3, 4, 5, 74] := by kernel_rfl
theorem kp24_14 : E.keep 24 14 = [0, 3, 4] := by kernel_rfl
theorem kp24_15 : E.keep 24 15 = [2] := by kernel_rfl
theorem kp25_0 : E.keep 25 0 = [0, 1, 2] := by kernel_rfl
theorem kp25_1 : E.keep 25 1 = [0, 1, 2, 29] := by kernel_rfl
theorem kp25_2 : E.keep 25 2 = [6, 7] := by kernel_rfl
theorem kp25_3 : E.keep 25 3 = [0, 1, 2, 8] := by kernel_rfl
theorem kp25_4 : E.keep 25 4 = [0, 1, 2, 8, 33] := by kernel_rfl
theorem kp25_5 : E.keep 25 5 = [0, 1, 2, 8] := by kernel_rfl
theorem kp25_6 : E.keep 25 6 = [0, 1, 2, 8, 40] := by kernel_rfl
theorem kp25_7 : E.keep 25 7 = [6, 7] := by kernel_rfl
theorem kp25_8 : E.keep 25 8 = [0, 1, 2, 9] := by kernel_rfl
theorem kp25_9 : E.keep 25 9 = [0, 1, 2, 9, 44] := by kernel_rfl
theorem kp25_10 : E.keep 25 10 = [0, 1, 2, 9] := by kernel_rfl
theorem kp25_11 : E.keep 25 11 = [0, 1, 2, 9, 51] := by kernel_rfl
theorem kp25_12 : E.keep 25 12 = [6, 7] := by kernel_rfl
theorem kp25_13 : E.keep 25 13 = [0, 1, 2, 10] := by kernel_rfl
theorem kp25_14 : E.keep 25 14 = [0, 1, 2, 10, 53] := by kernel_rfl
theorem kp25_15 : E.keep 25 15 = [1, 2, 10] := by kernel_rfl
theorem kp25_16 : E.keep 25 16 = [1, 2, 10, 11] := by kernel_rfl
theorem kp25_17 : E.keep 25 17 = [1, 2, 10, 11, 60] := by kernel_rfl
theorem kp25_18 : E.keep 25 18 = [1, 2, 10, 11] := by kernel_rfl
theorem kp25_19 : E.keep 25 19 = [1, 2, 10, 11, 67] := by kernel_rfl
theorem kp25_20 : E.keep 25 20 = [6, 7] := by kernel_rfl
theorem kp25_21 : E.keep 25 21 = [1, 2, 10, 11, 69] := by kernel_rfl
theorem kp25_22 : E.keep 25 22 = [1, 2, 10, 11] := by kernel_rfl
theorem kp25_23 : E.keep 25 23 = [1, 2, 10, 11, 76] := by kernel_rfl
theorem kp25_24 : E.keep 25 24 = [1, 2, 10, 11] := by kernel_rfl
theorem kp25_25 : E.keep 25 25 = [2, 10, 91] := by kernel_rfl
theorem kp25_26 : E.keep 25 26 = [6, 7] := by kernel_rfl
theorem kp25_27 : E.keep 25 27 = [6, 7] := by kernel_rfl
theorem kp26_0 : E.keep 26 0 = [0, 1, 2, 3] := by kernel_rfl
theorem kp26_1 : E.keep 26 1 = [0, 2, 3, 13] := by kernel_rfl
theorem kp26_2 : E.keep 26 2 = [8] := by kernel_rfl
theorem kp26_3 : E.keep 26 3 = [0, 2, 3, 9] := by kernel_rfl
theorem kp26_4 : E.keep 26 4 = [0, 2, 3, 9, 17] := by kernel_rfl
theorem kp26_5 : E.keep 26 5 = [0, 2, 3, 9] := by kernel_rfl
theorem kp26_6 : E.keep 26 6 = [0, 2, 3, 9, 31] := by kernel_rfl
theorem kp26_7 : E.keep 26 7 = [8] := by kernel_rfl
theorem kp26_8 : E.keep 26 8 = [8] := by kernel_rfl
theorem kp27_0 : E.keep 27 0 = [2, 3] := by kernel_rfl
theorem kp27_1 : E.keep 27 1 = [4] := by kernel_rfl
theorem kp28_0 : E.keep 28 0 = [0, 1] := by kernel_rfl
theorem kp28_1 : E.keep 28 1 = [6] := by kernel_rfl
theorem kp28_2 : E.keep 28 2 = [6, 7] := by kernel_rfl
theorem kp28_3 : E.keep 28 3 = [6, 7, 8] := by kernel_rfl
theorem kp28_4 : E.keep 28 4 = [6, 7, 8, 9] := by kernel_rfl
theorem kp28_5 : E.keep 28 5 = [6, 7, 8, 9, 16, 17] := by kernel_rfl
theorem kp28_6 : E.keep 28 6 = [6, 7, 8, 9, 16, 17, 18] := by kernel_rfl
theorem kp28_7 : E.keep 28 7 = [6, 7, 8, 9, 10, 16, 17] := by kernel_rfl
theorem kp28_8 : E.keep 28 8 = [6, 7, 8, 9, 10, 11, 16, 17] := by kernel_rfl
theorem kp28_9 : E.keep 28 9 = [6, 7, 8, 9, 10, 11, 16, 17, 37] := by kernel_rfl
theorem kp28_10 : E.keep 28 10 = [6, 7, 8, 9, 16, 17] := by kernel_rfl
theorem kp28_11 : E.keep 28 11 = [6, 7, 8, 9, 16, 17, 51] := by kernel_rfl
theorem kp28_12 : E.keep 28 12 = [6, 7, 8, 9, 16, 17] := by kernel_rfl
theorem kp28_13 : E.keep 28 13 = [6, 7, 8, 10, 11, 16, 17, 59] := by kernel_rfl
theorem kp28_14 : E.keep 28 14 = [6, 7, 8, 10, 11, 16, 17] := by kernel_rfl
theorem kp28_15 : E.keep 28 15 = [6, 7, 8, 9, 11, 16, 17] := by kernel_rfl
theorem kp28_16 : E.keep 28 16 = [6, 7, 8, 9, 11, 16, 17, 66] := by kernel_rfl
theorem kp28_17 : E.keep 28 17 = [6, 7, 8, 9, 16, 17] := by kernel_rfl
theorem kp28_18 : E.keep 28 18 = [6, 7, 8, 9, 16, 17, 74] := by kernel_rfl
theorem kp28_19 : E.keep 28 19 = [6, 7, 8, 9, 16, 17] := by kernel_rfl
theorem kp28_20 : E.keep 28 20 = [6, 7, 8, 9, 16, 17] := by kernel_rfl
theorem kp28_21 : E.keep 28 21 = [6, 7, 9, 84] := by kernel_rfl
theorem kp28_22 : E.keep 28 22 = [4, 5] := by kernel_rfl
theorem kp28_23 : E.keep 28 23 = [4, 5] := by kernel_rfl
theorem kp29_0 : E.keep 29 0 = [0, 4, 5] := by kernel_rfl
theorem kp29_1 : E.keep 29 1 = [6] := by kernel_rfl
theorem kp36_0 : E.keep 36 0 = [0, 1] := by kernel_rfl
theorem kp36_1 : E.keep 36 1 = [0, 1, 7] := by kernel_rfl
theorem kp36_2 : E.keep 36 2 = [4] := by kernel_rfl
theorem kp36_3 : E.keep 36 3 = [4] := by kernel_rfl
theorem kp37_0 : E.keep 37 0 = [0] := by kernel_rfl
theorem kp37_1 : E.keep 37 1 = [2] := by kernel_rfl
theorem kp38_0 : E.keep 38 0 = [0] := by kernel_rfl
theorem kp38_1 : E.keep 38 1 = [2] := by kernel_rfl
theorem kp39_0 : E.keep 39 0 = [0, 1] := by kernel_rfl
theorem kp39_1 : E.keep 39 1 = [4] := by kernel_rfl
theorem kp40_0 : E.keep 40 0 = [0] := by kernel_rfl
theorem kp40_1 : E.keep 40 1 = [2] := by kernel_rfl
theorem kp41_0 : E.keep 41 0 = [0, 1] := by kernel_rfl
theorem kp41_1 : E.keep 41 1 = [4] := by kernel_rfl
theorem kp43_0 : E.keep 43 0 = [0] := by kernel_rfl
theorem kp43_1 : E.keep 43 1 = [2] := by kernel_rfl
theorem kp44_0 : E.keep 44 0 = [0] := by kernel_rfl
theorem kp44_1 : E.keep 44 1 = [2] := by kernel_rfl
theorem kp45_0 : E.keep 45 0 = [0] := by kernel_rfl
theorem kp45_1 : E.keep 45 1 = [0, 3] := by kernel_rfl
theorem kp45_2 : E.keep 45 2 = [0, 3, 5] := by kernel_rfl
theorem kp45_3 : E.keep 45 3 = [0, 3] := by kernel_rfl
theorem kp45_4 : E.keep 45 4 = [0, 3] := by kernel_rfl
theorem kp45_5 : E.keep 45 5 = [2] := by kernel_rfl
theorem kp46_0 : E.keep 46 0 = [0, 1] := by kernel_rfl
theorem kp46_1 : E.keep 46 1 = [0, 1, 10] := by kernel_rfl
theorem kp46_2 : E.keep 46 2 = [4] := by kernel_rfl
theorem kp46_3 : E.keep 46 3 = [0, 1, 5] := by kernel_rfl
theorem kp46_4 : E.keep 46 4 = [0, 1, 5, 14] := by kernel_rfl
theorem kp46_5 : E.keep 46 5 = [0, 1, 5] := by kernel_rfl
theorem kp46_6 : E.keep 46 6 = [0, 1, 5, 25] := by kernel_rfl
theorem kp46_7 : E.keep 46 7 = [4] := by kernel_rfl
theorem kp46_8 : E.keep 46 8 = [4] := by kernel_rfl
theorem kp48_0 : E.keep 48 0 = [0, 1] := by kernel_rfl
theorem kp48_1 : E.keep 48 1 = [4] := by kernel_rfl
theorem kp49_0 : E.keep 49 0 = [0, 1, 2] := by kernel_rfl
theorem kp49_1 : E.keep 49 1 = [4] := by kernel_rfl
theorem kp54_0 : E.keep 54 0 = [0, 1] := by kernel_rfl
theorem kp54_1 : E.keep 54 1 = [0, 1, 5] := by kernel_rfl
theorem kp54_2 : E.keep 54 2 = [4] := by kernel_rfl
theorem kp54_3 : E.keep 54 3 = [0, 1, 5, 11] := by kernel_rfl
theorem kp54_4 : E.keep 54 4 = [4] := by kernel_rfl
theorem kp54_5 : E.keep 54 5 = [0, 1, 5, 25] := by kernel_rfl
theorem kp54_6 : E.keep 54 6 = [0, 1, 5, 25] := by kernel_rfl
theorem kp54_7 : E.keep 54 7 = [4] := by kernel_rfl
theorem kp54_8 : E.keep 54 8 = [0, 1, 50] := by kernel_rfl
theorem kp54_9 : E.keep 54 9 = [4] := by kernel_rfl
theorem kp55_0 : E.keep 55 0 = [0, 1] := by kernel_rfl
theorem kp55_1 : E.keep 55 1 = [4] := by kernel_rfl
theorem kp56_0 : E.keep 56 0 = [0] := by kernel_rfl
theorem kp56_1 : E.keep 56 1 = [2] := by kernel_rfl
theorem kp57_0 : E.keep 57 0 = [0, 1] := by kernel_rfl
theorem kp57_1 : E.keep 57 1 = [0, 1, 7, 8] := by kernel_rfl
theorem kp57_2 : E.keep 57 2 = [0, 1, 7, 8, 9] := by kernel_rfl
theorem kp57_3 : E.keep 57 3 = [0, 1, 5, 7, 8] := by kernel_rfl
theorem kp57_4 : E.keep 57 4 = [0, 1, 5, 7, 8, 16] := by kernel_rfl
theorem kp57_5 : E.keep 57 5 = [4] := by kernel_rfl
theorem kp57_6 : E.keep 57 6 = [0, 1, 7, 8] := by kernel_rfl
theorem kp57_7 : E.keep 57 7 = [4] := by kernel_rfl
theorem kp58_0 : E.keep 58 0 = [0] := by kernel_rfl
theorem kp58_1 : E.keep 58 1 = [2] := by kernel_rfl
theorem kp60_0 : E.keep 60 0 = [0, 1] := by kernel_rfl
theorem kp60_1 : E.keep 60 1 = [0, 1, 7, 8] := by kernel_rfl
theorem kp60_2 : E.keep 60 2 = [0, 1, 7, 8, 9] := by kernel_rfl
theorem kp60_3 : E.keep 60 3 = [0, 1, 5, 7, 8] := by kernel_rfl
theorem kp60_4 : E.keep 60 4 = [0, 1, 5, 7, 8, 16] := by kernel_rfl
theorem kp60_5 : E.keep 60 5 = [4] := by kernel_rfl
theorem kp60_6 : E.keep 60 6 = [0, 1, 7, 8] := by kernel_rfl
theorem kp60_7 : E.keep 60 7 = [4] := by kernel_rfl
theorem kp62_0 : E.keep 62 0 = [0, 1] := by kernel_rfl
theorem kp62_1 : E.keep 62 1 = [4] := by kernel_rfl
theorem kp64_0 : E.keep 64 0 = [0, 1, 2] := by kernel_rfl
theorem kp64_1 : E.keep 64 1 = [1, 2, 10] := by kernel_rfl
theorem kp64_2 : E.keep 64 2 = [1, 2, 10, 11, 12] := by kernel_rfl
theorem kp64_3 : E.keep 64 3 = [1, 2, 7, 8, 10] := by kernel_rfl
theorem kp64_4 : E.keep 64 4 = [1, 2, 7, 10, 19] := by kernel_rfl
theorem kp64_5 : E.keep 64 5 = [6] := by kernel_rfl
theorem kp64_6 : E.keep 64 6 = [6] := by kernel_rfl
theorem hd22_3 : E.head 22 3 = [3, 6, 7, 8] := by kernel_rfl
theorem hd23_13 : E.head 23 13 = [2, 8, 45, 46, 47] := by kernel_rfl
theorem hd24_3 : E.head 24 3 = [0, 3, 4] := by kernel_rfl
theorem hd25_4 : E.head 25 4 = [0, 1, 2, 8] := by kernel_rfl
theorem hd25_9 : E.head 25 9 = [0, 1, 2, 9] := by kernel_rfl
theorem hd25_17 : E.head 25 17 = [1, 2, 10, 11] := by kernel_rfl
theorem hd26_4 : E.head 26 4 = [0, 2, 3, 9] := by kernel_rfl
theorem hd28_6 : E.head 28 6 = [6, 7, 8, 9, 16, 17] := by kernel_rfl
theorem hd45_2 : E.head 45 2 = [0, 3] := by kernel_rfl
theorem hd46_4 : E.head 46 4 = [0, 1, 5] := by kernel_rfl
theorem hd57_2 : E.head 57 2 = [0, 1, 7, 8] := by kernel_rfl
theorem hd60_2 : E.head 60 2 = [0, 1, 7, 8] := by kernel_rfl
theorem hd64_2 : E.head 64 2 = [1, 2, 10] := by kernel_rfl
theorem fl4_5 : E.flo 4 5 = [(1, 2)] := by kernel_rfl
theorem ho4_5 : E.hol 4 5 = false := by kernel_rfl
theorem dr4_5 (B : Nat) (fr : Fr) (H : Hp) (ops : Array Oper) : execT E B 4 (.region 5 ops true) fr H = regTK E 4 5 (evT E (callT E) ops.toList ops.toList fr H) := execT_draw ho4_5 ops
theorem fl21_7 : E.flo 21 7 = [] := by kernel_rfl
theorem ho21_7 : E.hol 21 7 = false := by kernel_rfl
theorem dr21_7 (B : Nat) (fr : Fr) (H : Hp) (ops : Array Oper) : execT E B 21 (.region 7 ops true) fr H = regK E 21 7 (evOps E (callT E) ops.toList ops.toList fr H) := execT_draw0 ho21_7 fl21_7 ops
theorem fl21_14 : E.flo 21 14 = [(3, 5)] := by kernel_rfl
theorem ho21_14 : E.hol 21 14 = false := by kernel_rfl
theorem dr21_14 (B : Nat) (fr : Fr) (H : Hp) (ops : Array Oper) : execT E B 21 (.region 14 ops true) fr H = regTK E 21 14 (evT E (callT E) ops.toList ops.toList fr H) := execT_draw ho21_14 ops
theorem fl21_18 : E.flo 21 18 = [(3, 9), (5, 9), (7, 9), (5, 11), (7, 11), (7, 13)] := by kernel_rfl
theorem ho21_18 : E.hol 21 18 = false := by kernel_rfl
theorem dr21_18 (B : Nat) (fr : Fr) (H : Hp) (ops : Array Oper) : execT E B 21 (.region 18 ops true) fr H = regTK E 21 18 (evT E (callT E) ops.toList ops.toList fr H) := execT_draw ho21_18 ops
theorem fl28_23 : E.flo 28 23 = [] := by kernel_rfl
theorem ho28_23 : E.hol 28 23 = false := by kernel_rfl
theorem dr28_23 (B : Nat) (fr : Fr) (H : Hp) (ops : Array Oper) : execT E B 28 (.region 23 ops true) fr H = regK E 28 23 (evOps E (callT E) ops.toList ops.toList fr H) := execT_draw0 ho28_23 fl28_23 ops
theorem fl46_6 : E.flo 46 6 = [] := by kernel_rfl
theorem ho46_6 : E.hol 46 6 = false := by kernel_rfl
theorem dr46_6 (B : Nat) (fr : Fr) (H : Hp) (ops : Array Oper) : execT E B 46 (.region 6 ops true) fr H = regK E 46 6 (evOps E (callT E) ops.toList ops.toList fr H) := execT_draw0 ho46_6 fl46_6 ops
theorem mt22_3 : E.mat 22 3 = [(3, 1)] := by kernel_rfl
theorem mb22_3 : E.matb 22 3 = [] := by kernel_rfl
theorem zf22_3 : E.frz 22 3 = [] := by kernel_rfl
theorem mt23_13 : E.mat 23 13 = [(8, 1)] := by kernel_rfl
theorem mb23_13 : E.matb 23 13 = [] := by kernel_rfl
theorem zf23_13 : E.frz 23 13 = [] := by kernel_rfl
theorem mt24_3 : E.mat 24 3 = [(3, 1)] := by kernel_rfl
theorem mb24_3 : E.matb 24 3 = [] := by kernel_rfl
theorem zf24_3 : E.frz 24 3 = [] := by kernel_rfl
theorem mt25_4 : E.mat 25 4 = [] := by kernel_rfl
theorem mb25_4 : E.matb 25 4 = [] := by kernel_rfl
theorem zf25_4 : E.frz 25 4 = [] := by kernel_rfl
theorem mt25_9 : E.mat 25 9 = [] := by kernel_rfl
theorem mb25_9 : E.matb 25 9 = [] := by kernel_rfl
theorem zf25_9 : E.frz 25 9 = [] := by kernel_rfl
theorem mt25_17 : E.mat 25 17 = [] := by kernel_rfl
theorem mb25_17 : E.matb 25 17 = [] := by kernel_rfl
theorem zf25_17 : E.frz 25 17 = [] := by kernel_rfl
theorem mt26_4 : E.mat 26 4 = [] := by kernel_rfl
theorem mb26_4 : E.matb 26 4 = [] := by kernel_rfl
theorem zf26_4 : E.frz 26 4 = [] := by kernel_rfl
theorem mt28_6 : E.mat 28 6 = [(7, 1)] := by kernel_rfl
theorem mb28_6 : E.matb 28 6 = [] := by kernel_rfl
theorem zf28_6 : E.frz 28 6 = [] := by kernel_rfl
theorem mt45_2 : E.mat 45 2 = [] := by kernel_rfl
theorem mb45_2 : E.matb 45 2 = [] := by kernel_rfl
theorem zf45_2 : E.frz 45 2 = [] := by kernel_rfl
theorem mt46_4 : E.mat 46 4 = [] := by kernel_rfl
theorem mb46_4 : E.matb 46 4 = [] := by kernel_rfl
theorem zf46_4 : E.frz 46 4 = [] := by kernel_rfl
theorem mt57_2 : E.mat 57 2 = [] := by kernel_rfl
theorem mb57_2 : E.matb 57 2 = [] := by kernel_rfl
theorem zf57_2 : E.frz 57 2 = [] := by kernel_rfl
theorem mt60_2 : E.mat 60 2 = [] := by kernel_rfl
theorem mb60_2 : E.matb 60 2 = [] := by kernel_rfl
theorem zf60_2 : E.frz 60 2 = [] := by kernel_rfl
theorem mt64_2 : E.mat 64 2 = [] := by kernel_rfl
theorem mb64_2 : E.matb 64 2 = [] := by kernel_rfl
theorem zf64_2 : E.frz 64 2 = [] := by kernel_rfl
theorem rk4 : E.resk 4 = [] := by kernel_rfl
theorem ow4 : E.own 4 = false := by kernel_rfl
theorem ak9 : E.argk 9 = [] := by kernel_rfl
theorem pe9 (args : List AV) (H : Hp) : prepE E 9 H args = peP E 9 (prep H args) := prepE_v rfl args
theorem cr9 (args : List AV) (H : Hp) : calleeR E 9 args H = crK args (peP E 9 (prep H args)) := (cr_prep args).trans (by rw [pe9])
theorem ci9 (args : List AV) (H : Hp) : callIso E (callT E) 9 args H = prepK E (callT E) 9 (peP E 9 (prep H args)) := (iso_prep args).trans (by rw [pe9])
theorem ak11 : E.argk 11 = [[none, none, none, none, none, some 1, none]] := by kernel_rfl
theorem rk11 : E.resk 11 = [] := by kernel_rfl
theorem ow11 : E.own 11 = false := by kernel_rfl
theorem pe11 (args : List AV) (H : Hp) : prepE E 11 H args = peP E 11 (prep H args) := prepE_v rfl args
theorem cr11 (args : List AV) (H : Hp) : calleeR E 11 args H = crK args (peP E 11 (prep H args)) := (cr_prep args).trans (by rw [pe11])
theorem ci11 (args : List AV) (H : Hp) : callIso E (callT E) 11 args H = prepK E (callT E) 11 (peP E 11 (prep H args)) := (iso_prep args).trans (by rw [pe11])
theorem ak12 : E.argk 12 = [[none, none, none, none, none, some 1, none]] := by kernel_rfl
theorem rk12 : E.resk 12 = [] := by kernel_rfl
theorem ow12 : E.own 12 = false := by kernel_rfl
theorem pe12 (args : List AV) (H : Hp) : prepE E 12 H args = peP E 12 (prep H args) := prepE_v rfl args
theorem cr12 (args : List AV) (H : Hp) : calleeR E 12 args H = crK args (peP E 12 (prep H args)) := (cr_prep args).trans (by rw [pe12])
theorem ci12 (args : List AV) (H : Hp) : callIso E (callT E) 12 args H = prepK E (callT E) 12 (peP E 12 (prep H args)) := (iso_prep args).trans (by rw [pe12])
theorem ak13 : E.argk 13 = [[none, none, none, none, none, some 1, none]] := by kernel_rfl
theorem rk13 : E.resk 13 = [] := by kernel_rfl
theorem ow13 : E.own 13 = false := by kernel_rfl
theorem pe13 (args : List AV) (H : Hp) : prepE E 13 H args = peP E 13 (prep H args) := prepE_v rfl args
theorem cr13 (args : List AV) (H : Hp) : calleeR E 13 args H = crK args (peP E 13 (prep H args)) := (cr_prep args).trans (by rw [pe13])
theorem ci13 (args : List AV) (H : Hp) : callIso E (callT E) 13 args H = prepK E (callT E) 13 (peP E 13 (prep H args)) := (iso_prep args).trans (by rw [pe13])
theorem ak14 : E.argk 14 = [[none, none, none, none, none, some 1, none]] := by kernel_rfl
theorem rk14 : E.resk 14 = [] := by kernel_rfl
theorem ow14 : E.own 14 = false := by kernel_rfl
theorem pe14 (args : List AV) (H : Hp) : prepE E 14 H args = peP E 14 (prep H args) := prepE_v rfl args
theorem cr14 (args : List AV) (H : Hp) : calleeR E 14 args H = crK args (peP E 14 (prep H args)) := (cr_prep args).trans (by rw [pe14])
theorem ci14 (args : List AV) (H : Hp) : callIso E (callT E) 14 args H = prepK E (callT E) 14 (peP E 14 (prep H args)) := (iso_prep args).trans (by rw [pe14])
theorem ak15 : E.argk 15 = [[none, none, none, none, none, some 1, none]] := by kernel_rfl
theorem rk15 : E.resk 15 = [] := by kernel_rfl
theorem ow15 : E.own 15 = false := by kernel_rfl
theorem pe15 (args : List AV) (H : Hp) : prepE E 15 H args = peP E 15 (prep H args) := prepE_v rfl args
theorem cr15 (args : List AV) (H : Hp) : calleeR E 15 args H = crK args (peP E 15 (prep H args)) := (cr_prep args).trans (by rw [pe15])
theorem ci15 (args : List AV) (H : Hp) : callIso E (callT E) 15 args H = prepK E (callT E) 15 (peP E 15 (prep H args)) := (iso_prep args).trans (by rw [pe15])
theorem ak21 : E.argk 21 = [[none, none, none, none, none, some 1, none]] := by kernel_rfl
theorem rk21 : E.resk 21 = [] := by kernel_rfl
theorem ow21 : E.own 21 = false := by kernel_rfl
theorem pe21 (args : List AV) (H : Hp) : prepE E 21 H args = peP E 21 (prep H args) := prepE_v rfl args
theorem cr21 (args : List AV) (H : Hp) : calleeR E 21 args H = crK args (peP E 21 (prep H args)) := (cr_prep args).trans (by rw [pe21])
theorem ci21 (args : List AV) (H : Hp) : callIso E (callT E) 21 args H = prepK E (callT E) 21 (peP E 21 (prep H args)) := (iso_prep args).trans (by rw [pe21])
theorem ak22 : E.argk 22 = [[some 1]] := by kernel_rfl
theorem rk22 : E.resk 22 = [] := by kernel_rfl
theorem ow22 : E.own 22 = false := by kernel_rfl
theorem pe22 (args : List AV) (H : Hp) : prepE E 22 H args = peP E 22 (prep H args) := prepE_v rfl args
theorem cr22 (args : List AV) (H : Hp) : calleeR E 22 args H = crK args (peP E 22 (prep H args)) := (cr_prep args).trans (by rw [pe22])
theorem ci22 (args : List AV) (H : Hp) : callIso E (callT E) 22 args H = prepK E (callT E) 22 (peP E 22 (prep H args)) := (iso_prep args).trans (by rw [pe22])
theorem ak23 : E.argk 23 = [[], [some 1]] := by kernel_rfl
theorem rk23 : E.resk 23 = [] := by kernel_rfl
theorem ow23 : E.own 23 = false := by kernel_rfl
theorem pe23 (args : List AV) (H : Hp) : prepE E 23 H args = peP E 23 (prep H args) := prepE_v rfl args
theorem cr23 (args : List AV) (H : Hp) : calleeR E 23 args H = crK args (peP E 23 (prep H args)) := (cr_prep args).trans (by rw [pe23])
theorem ci23 (args : List AV) (H : Hp) : callIso E (callT E) 23 args H = prepK E (callT E) 23 (peP E 23 (prep H args)) := (iso_prep args).trans (by rw [pe23])
theorem ak24 : E.argk 24 = [[some 1]] := by kernel_rfl
theorem rk24 : E.resk 24 = [] := by kernel_rfl
theorem ow24 : E.own 24 = false := by kernel_rfl
theorem pe24 (args : List AV) (H : Hp) : prepE E 24 H args = peP E 24 (prep H args) := prepE_v rfl args
theorem cr24 (args : List AV) (H : Hp) : calleeR E 24 args H = crK args (peP E 24 (prep H args)) := (cr_prep args).trans (by rw [pe24])
theorem ci24 (args : List AV) (H : Hp) : callIso E (callT E) 24 args H = prepK E (callT E) 24 (peP E 24 (prep H args)) := (iso_prep args).trans (by rw [pe24])
theorem ak25 : E.argk 25 = [[], [some 1]] := by kernel_rfl
theorem rk25 : E.resk 25 = [] := by kernel_rfl
theorem ow25 : E.own 25 = false := by kernel_rfl
theorem pe25 (args : List AV) (H : Hp) : prepE E 25 H args = peP E 25 (prep H args) := prepE_v rfl args
theorem cr25 (args : List AV) (H : Hp) : calleeR E 25 args H = crK args (peP E 25 (prep H args)) := (cr_prep args).trans (by rw [pe25])
theorem ci25 (args : List AV) (H : Hp) : callIso E (callT E) 25 args H = prepK E (callT E) 25 (peP E 25 (prep H args)) := (iso_prep args).trans (by rw [pe25])
theorem ak26 : E.argk 26 = [] := by kernel_rfl
theorem rk26 : E.resk 26 = [] := by kernel_rfl
theorem ow26 : E.own 26 = false := by kernel_rfl
theorem pe26 (args : List AV) (H : Hp) : prepE E 26 H args = peP E 26 (prep H args) := prepE_v rfl args
theorem cr26 (args : List AV) (H : Hp) : calleeR E 26 args H = crK args (peP E 26 (prep H args)) := (cr_prep args).trans (by rw [pe26])
theorem ci26 (args : List AV) (H : Hp) : callIso E (callT E) 26 args H = prepK E (callT E) 26 (peP E 26 (prep H args)) := (iso_prep args).trans (by rw [pe26])
theorem ak27 : E.argk 27 = [[none, none, none, none, none, some 1, none], [none, none, none, none, none, some 1, none]] := by kernel_rfl
theorem rk27 : E.resk 27 = [] := by kernel_rfl
theorem ow27 : E.own 27 = false := by kernel_rfl
theorem pe27 (args : List AV) (H : Hp) : prepE E 27 H args = peP E 27 (prep H args) := prepE_v rfl args
theorem cr27 (args : List AV) (H : Hp) : calleeR E 27 args H = crK args (peP E 27 (prep H args)) := (cr_prep args).trans (by rw [pe27])
theorem ci27 (args : List AV) (H : Hp) : callIso E (callT E) 27 args H = prepK E (callT E) 27 (peP E 27 (prep H args)) := (iso_prep args).trans (by rw [pe27])
theorem ak28 : E.argk 28 = [] := by kernel_rfl
theorem rk28 : E.resk 28 = [[some 1]] := by kernel_rfl
theorem ow28 : E.own 28 = false := by kernel_rfl
theorem pe28 (args : List AV) (H : Hp) : prepE E 28 H args = peP E 28 (prep H args) := prepE_v rfl args
theorem cr28 (args : List AV) (H : Hp) : calleeR E 28 args H = crK args (peP E 28 (prep H args)) := (cr_prep args).trans (by rw [pe28])
theorem ci28 (args : List AV) (H : Hp) : callIso E (callT E) 28 args H = prepK E (callT E) 28 (peP E 28 (prep H args)) := (iso_prep args).trans (by rw [pe28])
theorem ak29 : E.argk 29 = [] := by kernel_rfl
theorem rk29 : E.resk 29 = [] := by kernel_rfl
theorem ow29 : E.own 29 = false := by kernel_rfl
theorem pe29 (args : List AV) (H : Hp) : prepE E 29 H args = peP E 29 (prep H args) := prepE_v rfl args
theorem cr29 (args : List AV) (H : Hp) : calleeR E 29 args H = crK args (peP E 29 (prep H args)) := (cr_prep args).trans (by rw [pe29])
theorem ci29 (args : List AV) (H : Hp) : callIso E (callT E) 29 args H = prepK E (callT E) 29 (peP E 29 (prep H args)) := (iso_prep args).trans (by rw [pe29])
theorem ak36 : E.argk 36 = [[some 1]] := by kernel_rfl
theorem rk36 : E.resk 36 = [[some 1]] := by kernel_rfl
theorem ow36 : E.own 36 = true := by kernel_rfl
theorem pe36 (args : List AV) (H : Hp) : prepE E 36 H args = some (matL (E.argk 36) args H) := prepE_r rfl args
theorem cr36 (args : List AV) (H : Hp) : calleeR E 36 args H = crK args (some (matL (E.argk 36) args H)) := (cr_prep args).trans (by rw [pe36])
theorem ci36 (args : List AV) (H : Hp) : callIso E (callT E) 36 args H = prepK E (callT E) 36 (some (matL (E.argk 36) args H)) := (iso_prep args).trans (by rw [pe36])
theorem ak37 : E.argk 37 = [] := by kernel_rfl
theorem rk37 : E.resk 37 = [] := by kernel_rfl
theorem ow37 : E.own 37 = false := by kernel_rfl
theorem pe37 (args : List AV) (H : Hp) : prepE E 37 H args = peP E 37 (prep H args) := prepE_v rfl args
theorem cr37 (args : List AV) (H : Hp) : calleeR E 37 args H = crK args (peP E 37 (prep H args)) := (cr_prep args).trans (by rw [pe37])
theorem ci37 (args : List AV) (H : Hp) : callIso E (callT E) 37 args H = prepK E (callT E) 37 (peP E 37 (prep H args)) := (iso_prep args).trans (by rw [pe37])
theorem ak38 : E.argk 38 = [] := by kernel_rfl
theorem rk38 : E.resk 38 = [] := by kernel_rfl
theorem ow38 : E.own 38 = false := by kernel_rfl
theorem pe38 (args : List AV) (H : Hp) : prepE E 38 H args = peP E 38 (prep H args) := prepE_v rfl args
theorem cr38 (args : List AV) (H : Hp) : calleeR E 38 args H = crK args (peP E 38 (prep H args)) := (cr_prep args).trans (by rw [pe38])
theorem ci38 (args : List AV) (H : Hp) : callIso E (callT E) 38 args H = prepK E (callT E) 38 (peP E 38 (prep H args)) := (iso_prep args).trans (by rw [pe38])
theorem ak39 : E.argk 39 = [[some 1]] := by kernel_rfl
theorem rk39 : E.resk 39 = [] := by kernel_rfl
theorem ow39 : E.own 39 = false := by kernel_rfl
theorem pe39 (args : List AV) (H : Hp) : prepE E 39 H args = peP E 39 (prep H args) := prepE_v rfl args
theorem cr39 (args : List AV) (H : Hp) : calleeR E 39 args H = crK args (peP E 39 (prep H args)) := (cr_prep args).trans (by rw [pe39])
theorem ci39 (args : List AV) (H : Hp) : callIso E (callT E) 39 args H = prepK E (callT E) 39 (peP E 39 (prep H args)) := (iso_prep args).trans (by rw [pe39])
theorem ak40 : E.argk 40 = [] := by kernel_rfl
theorem rk40 : E.resk 40 = [] := by kernel_rfl
theorem ow40 : E.own 40 = false := by kernel_rfl
theorem pe40 (args : List AV) (H : Hp) : prepE E 40 H args = peP E 40 (prep H args) := prepE_v rfl args
theorem cr40 (args : List AV) (H : Hp) : calleeR E 40 args H = crK args (peP E 40 (prep H args)) := (cr_prep args).trans (by rw [pe40])
theorem ci40 (args : List AV) (H : Hp) : callIso E (callT E) 40 args H = prepK E (callT E) 40 (peP E 40 (prep H args)) := (iso_prep args).trans (by rw [pe40])
theorem ak41 : E.argk 41 = [[some 1]] := by kernel_rfl
theorem rk41 : E.resk 41 = [] := by kernel_rfl
theorem ow41 : E.own 41 = false := by kernel_rfl
theorem pe41 (args : List AV) (H : Hp) : prepE E 41 H args = peP E 41 (prep H args) := prepE_v rfl args
theorem cr41 (args : List AV) (H : Hp) : calleeR E 41 args H = crK args (peP E 41 (prep H args)) := (cr_prep args).trans (by rw [pe41])
theorem ci41 (args : List AV) (H : Hp) : callIso E (callT E) 41 args H = prepK E (callT E) 41 (peP E 41 (prep H args)) := (iso_prep args).trans (by rw [pe41])
theorem ak42 : E.argk 42 = [[some 1]] := by kernel_rfl
theorem pe42 (args : List AV) (H : Hp) : prepE E 42 H args = some (matL (E.argk 42) args H) := prepE_r rfl args
theorem cr42 (args : List AV) (H : Hp) : calleeR E 42 args H = crK args (some (matL (E.argk 42) args H)) := (cr_prep args).trans (by rw [pe42])
theorem ci42 (args : List AV) (H : Hp) : callIso E (callT E) 42 args H = prepK E (callT E) 42 (some (matL (E.argk 42) args H)) := (iso_prep args).trans (by rw [pe42])
theorem ak43 : E.argk 43 = [] := by kernel_rfl
theorem rk43 : E.resk 43 = [] := by kernel_rfl
theorem ow43 : E.own 43 = false := by kernel_rfl
theorem pe43 (args : List AV) (H : Hp) : prepE E 43 H args = peP E 43 (prep H args) := prepE_v rfl args
theorem cr43 (args : List AV) (H : Hp) : calleeR E 43 args H = crK args (peP E 43 (prep H args)) := (cr_prep args).trans (by rw [pe43])
theorem ci43 (args : List AV) (H : Hp) : callIso E (callT E) 43 args H = prepK E (callT E) 43 (peP E 43 (prep H args)) := (iso_prep args).trans (by rw [pe43])
theorem ak44 : E.argk 44 = [] := by kernel_rfl
theorem rk44 : E.resk 44 = [] := by kernel_rfl
theorem ow44 : E.own 44 = false := by kernel_rfl
theorem pe44 (args : List AV) (H : Hp) : prepE E 44 H args = peP E 44 (prep H args) := prepE_v rfl args
theorem cr44 (args : List AV) (H : Hp) : calleeR E 44 args H = crK args (peP E 44 (prep H args)) := (cr_prep args).trans (by rw [pe44])
theorem ci44 (args : List AV) (H : Hp) : callIso E (callT E) 44 args H = prepK E (callT E) 44 (peP E 44 (prep H args)) := (iso_prep args).trans (by rw [pe44])
theorem ak45 : E.argk 45 = [] := by kernel_rfl
theorem rk45 : E.resk 45 = [] := by kernel_rfl
theorem ow45 : E.own 45 = false := by kernel_rfl
theorem pe45 (args : List AV) (H : Hp) : prepE E 45 H args = peP E 45 (prep H args) := prepE_v rfl args
theorem cr45 (args : List AV) (H : Hp) : calleeR E 45 args H = crK args (peP E 45 (prep H args)) := (cr_prep args).trans (by rw [pe45])
theorem ci45 (args : List AV) (H : Hp) : callIso E (callT E) 45 args H = prepK E (callT E) 45 (peP E 45 (prep H args)) := (iso_prep args).trans (by rw [pe45])
theorem ak46 : E.argk 46 = [[some 1], [some 1]] := by kernel_rfl
theorem rk46 : E.resk 46 = [] := by kernel_rfl
theorem ow46 : E.own 46 = false := by kernel_rfl
theorem pe46 (args : List AV) (H : Hp) : prepE E 46 H args = peP E 46 (prep H args) := prepE_v rfl args
theorem cr46 (args : List AV) (H : Hp) : calleeR E 46 args H = crK args (peP E 46 (prep H args)) := (cr_prep args).trans (by rw [pe46])
theorem ci46 (args : List AV) (H : Hp) : callIso E (callT E) 46 args H = prepK E (callT E) 46 (peP E 46 (prep H args)) := (iso_prep args).trans (by rw [pe46])
theorem ak47 : E.argk 47 = [] := by kernel_rfl
theorem pe47 (args : List AV) (H : Hp) : prepE E 47 H args = peP E 47 (prep H args) := prepE_v rfl args
theorem cr47 (args : List AV) (H : Hp) : calleeR E 47 args H = crK args (peP E 47 (prep H args)) := (cr_prep args).trans (by rw [pe47])
theorem ci47 (args : List AV) (H : Hp) : callIso E (callT E) 47 args H = prepK E (callT E) 47 (peP E 47 (prep H args)) := (iso_prep args).trans (by rw [pe47])
theorem ak48 : E.argk 48 = [[some 1]] := by kernel_rfl
theorem rk48 : E.resk 48 = [] := by kernel_rfl
theorem ow48 : E.own 48 = false := by kernel_rfl
theorem pe48 (args : List AV) (H : Hp) : prepE E 48 H args = peP E 48 (prep H args) := prepE_v rfl args
theorem cr48 (args : List AV) (H : Hp) : calleeR E 48 args H = crK args (peP E 48 (prep H args)) := (cr_prep args).trans (by rw [pe48])
theorem ci48 (args : List AV) (H : Hp) : callIso E (callT E) 48 args H = prepK E (callT E) 48 (peP E 48 (prep H args)) := (iso_prep args).trans (by rw [pe48])
theorem ak49 : E.argk 49 = [] := by kernel_rfl
theorem rk49 : E.resk 49 = [] := by kernel_rfl
theorem ow49 : E.own 49 = false := by kernel_rfl
theorem pe49 (args : List AV) (H : Hp) : prepE E 49 H args = peP E 49 (prep H args) := prepE_v rfl args
theorem cr49 (args : List AV) (H : Hp) : calleeR E 49 args H = crK args (peP E 49 (prep H args)) := (cr_prep args).trans (by rw [pe49])
theorem ci49 (args : List AV) (H : Hp) : callIso E (callT E) 49 args H = prepK E (callT E) 49 (peP E 49 (prep H args)) := (iso_prep args).trans (by rw [pe49])
theorem ak54 : E.argk 54 = [[some 1]] := by kernel_rfl
theorem rk54 : E.resk 54 = [[some 1]] := by kernel_rfl
theorem ow54 : E.own 54 = true := by kernel_rfl
theorem pe54 (args : List AV) (H : Hp) : prepE E 54 H args = some (matL (E.argk 54) args H) := prepE_r rfl args
theorem cr54 (args : List AV) (H : Hp) : calleeR E 54 args H = crK args (some (matL (E.argk 54) args H)) := (cr_prep args).trans (by rw [pe54])
theorem ci54 (args : List AV) (H : Hp) : callIso E (callT E) 54 args H = prepK E (callT E) 54 (some (matL (E.argk 54) args H)) := (iso_prep args).trans (by rw [pe54])
theorem ak55 : E.argk 55 = [] := by kernel_rfl
theorem rk55 : E.resk 55 = [] := by kernel_rfl
theorem ow55 : E.own 55 = false := by kernel_rfl
theorem pe55 (args : List AV) (H : Hp) : prepE E 55 H args = peP E 55 (prep H args) := prepE_v rfl args
theorem cr55 (args : List AV) (H : Hp) : calleeR E 55 args H = crK args (peP E 55 (prep H args)) := (cr_prep args).trans (by rw [pe55])
theorem ci55 (args : List AV) (H : Hp) : callIso E (callT E) 55 args H = prepK E (callT E) 55 (peP E 55 (prep H args)) := (iso_prep args).trans (by rw [pe55])
theorem ak56 : E.argk 56 = [] := by kernel_rfl
theorem rk56 : E.resk 56 = [] := by kernel_rfl
theorem ow56 : E.own 56 = false := by kernel_rfl
theorem pe56 (args : List AV) (H : Hp) : prepE E 56 H args = peP E 56 (prep H args) := prepE_v rfl args
theorem cr56 (args : List AV) (H : Hp) : calleeR E 56 args H = crK args (peP E 56 (prep H args)) := (cr_prep args).trans (by rw [pe56])
theorem ci56 (args : List AV) (H : Hp) : callIso E (callT E) 56 args H = prepK E (callT E) 56 (peP E 56 (prep H args)) := (iso_prep args).trans (by rw [pe56])
theorem ak57 : E.argk 57 = [[some 1]] := by kernel_rfl
theorem rk57 : E.resk 57 = [] := by kernel_rfl
theorem ow57 : E.own 57 = false := by kernel_rfl
theorem pe57 (args : List AV) (H : Hp) : prepE E 57 H args = peP E 57 (prep H args) := prepE_v rfl args
theorem cr57 (args : List AV) (H : Hp) : calleeR E 57 args H = crK args (peP E 57 (prep H args)) := (cr_prep args).trans (by rw [pe57])
theorem ci57 (args : List AV) (H : Hp) : callIso E (callT E) 57 args H = prepK E (callT E) 57 (peP E 57 (prep H args)) := (iso_prep args).trans (by rw [pe57])
theorem ak58 : E.argk 58 = [] := by kernel_rfl
theorem rk58 : E.resk 58 = [] := by kernel_rfl
theorem ow58 : E.own 58 = false := by kernel_rfl
theorem pe58 (args : List AV) (H : Hp) : prepE E 58 H args = peP E 58 (prep H args) := prepE_v rfl args
theorem cr58 (args : List AV) (H : Hp) : calleeR E 58 args H = crK args (peP E 58 (prep H args)) := (cr_prep args).trans (by rw [pe58])
theorem ci58 (args : List AV) (H : Hp) : callIso E (callT E) 58 args H = prepK E (callT E) 58 (peP E 58 (prep H args)) := (iso_prep args).trans (by rw [pe58])
theorem ak60 : E.argk 60 = [[some 1]] := by kernel_rfl
theorem rk60 : E.resk 60 = [] := by kernel_rfl
theorem ow60 : E.own 60 = false := by kernel_rfl
theorem pe60 (args : List AV) (H : Hp) : prepE E 60 H args = peP E 60 (prep H args) := prepE_v rfl args
theorem cr60 (args : List AV) (H : Hp) : calleeR E 60 args H = crK args (peP E 60 (prep H args)) := (cr_prep args).trans (by rw [pe60])
theorem ci60 (args : List AV) (H : Hp) : callIso E (callT E) 60 args H = prepK E (callT E) 60 (peP E 60 (prep H args)) := (iso_prep args).trans (by rw [pe60])
theorem ak62 : E.argk 62 = [] := by kernel_rfl
theorem rk62 : E.resk 62 = [] := by kernel_rfl
theorem ow62 : E.own 62 = false := by kernel_rfl
theorem pe62 (args : List AV) (H : Hp) : prepE E 62 H args = peP E 62 (prep H args) := prepE_v rfl args
theorem cr62 (args : List AV) (H : Hp) : calleeR E 62 args H = crK args (peP E 62 (prep H args)) := (cr_prep args).trans (by rw [pe62])
theorem ci62 (args : List AV) (H : Hp) : callIso E (callT E) 62 args H = prepK E (callT E) 62 (peP E 62 (prep H args)) := (iso_prep args).trans (by rw [pe62])
theorem ak64 : E.argk 64 = [] := by kernel_rfl
theorem rk64 : E.resk 64 = [] := by kernel_rfl
theorem ow64 : E.own 64 = false := by kernel_rfl
theorem pe64 (args : List AV) (H : Hp) : prepE E 64 H args = peP E 64 (prep H args) := prepE_v rfl args
theorem cr64 (args : List AV) (H : Hp) : calleeR E 64 args H = crK args (peP E 64 (prep H args)) := (cr_prep args).trans (by rw [pe64])
theorem ci64 (args : List AV) (H : Hp) : callIso E (callT E) 64 args H = prepK E (callT E) 64 (peP E 64 (prep H args)) := (iso_prep args).trans (by rw [pe64])
theorem bd23 (parts : List (Nat × AV)) : buildE E 23 parts = aggK (fillS [(0, 1), (1, 1), (2, 1)] [.i (.v (.int .i64 0)), .i (.str []), .i (.str [])] parts) := bd_struct (by kernel_rfl) (by kernel_rfl) (by kernel_rfl) parts
theorem bd31 (parts : List (Nat × AV)) : buildE E 31 parts = aggK (fillS [(0, 1), (1, 1), (2, 1), (3, 1), (4, 1), (5, 1), (6, 1)] [.i (.v (.int .i64 0)), .i (.v (.int .i32 0)), .i (.v (.int .u8 0)), .i (.v (.int .u8 0)), .i (.str []), .i (.sl 0 [] true), .i (.str [])] parts) := bd_struct (by kernel_rfl) (by kernel_rfl) (by kernel_rfl) parts
theorem bd44 (parts : List (Nat × AV)) : buildE E 44 parts = aggK (fillS [(0, 3), (3, 1)] [.i (.v (.int .i64 0)), .i (.str []), .i (.str []), .i (.sl 0 [] true)] parts) := bd_struct (by kernel_rfl) (by kernel_rfl) (by kernel_rfl) parts
theorem bd67 (parts : List (Nat × AV)) : buildE E 67 parts = aggK (fillS [(0, 1), (1, 1), (2, 1), (3, 1)] [.i (.v (.int .i32 0)), .i (.v (.int .i64 0)), .i (.v (.int .u8 0)), .i (.v (.int .u8 0))] parts) := bd_struct (by kernel_rfl) (by kernel_rfl) (by kernel_rfl) parts
theorem bd84 (parts : List (Nat × AV)) : buildE E 84 parts = aggK (fillA 1 [.i (.v (.int .u8 0)), .i (.v (.int .u8 0)), .i (.v (.int .u8 0)), .i (.v (.int .u8 0)), .i (.v (.int .u8 0)), .i (.v (.int .u8 0)), .i (.v (.int .u8 0)), .i (.v (.int .u8 0)), .i (.v (.int .u8 0)), .i (.v (.int .u8 0)), .i (.v (.int .u8 0)), .i (.v (.int .u8 0)), .i (.v (.int .u8 0)), .i (.v (.int .u8 0)), .i (.v (.int .u8 0)), .i (.v (.int .u8 0)), .i (.v (.int .u8 0)), .i (.v (.int .u8 0)), .i (.v (.int .u8 0)), .i (.v (.int .u8 0)), .i (.v (.int .u8 0)), .i (.v (.int .u8 0)), .i (.v (.int .u8 0)), .i (.v (.int .u8 0))] parts) := bd_arr (n := 24) (e := 5) (by kernel_rfl) (by kernel_rfl) (by kernel_rfl) parts
theorem bd91 (parts : List (Nat × AV)) : buildE E 91 parts = aggK (fillA 1 [.i (.v (.int .u64 0)), .i (.v (.int .u64 0)), .i (.v (.int .u64 0)), .i (.v (.int .u64 0)), .i (.v (.int .u64 0)), .i (.v (.int .u64 0)), .i (.v (.int .u64 0)), .i (.v (.int .u64 0)), .i (.v (.int .u64 0)), .i (.v (.int .u64 0)), .i (.v (.int .u64 0)), .i (.v (.int .u64 0)), .i (.v (.int .u64 0)), .i (.v (.int .u64 0)), .i (.v (.int .u64 0)), .i (.v (.int .u64 0)), .i (.v (.int .u64 0)), .i (.v (.int .u64 0)), .i (.v (.int .u64 0)), .i (.v (.int .u64 0))] parts) := bd_arr (n := 20) (e := 81) (by kernel_rfl) (by kernel_rfl) (by kernel_rfl) parts
theorem bd92 (parts : List (Nat × AV)) : buildE E 92 parts = aggK (fillA 1 [.i (.v (.int .u8 0)), .i (.v (.int .u8 0)), .i (.v (.int .u8 0)), .i (.v (.int .u8 0)), .i (.v (.int .u8 0)), .i (.v (.int .u8 0)), .i (.v (.int .u8 0)), .i (.v (.int .u8 0)), .i (.v (.int .u8 0)), .i (.v (.int .u8 0)), .i (.v (.int .u8 0)), .i (.v (.int .u8 0)), .i (.v (.int .u8 0)), .i (.v (.int .u8 0)), .i (.v (.int .u8 0)), .i (.v (.int .u8 0)), .i (.v (.int .u8 0)), .i (.v (.int .u8 0)), .i (.v (.int .u8 0)), .i (.v (.int .u8 0)), .i (.v (.int .u8 0)), .i (.v (.int .u8 0)), .i (.v (.int .u8 0)), .i (.v (.int .u8 0)), .i (.v (.int .u8 0)), .i (.v (.int .u8 0)), .i (.v (.int .u8 0)), .i (.v (.int .u8 0)), .i (.v (.int .u8 0)), .i (.v (.int .u8 0)), .i (.v (.int .u8 0)), .i (.v (.int .u8 0)), .i (.v (.int .u8 0)), .i (.v (.int .u8 0)), .i (.v (.int .u8 0)), .i (.v (.int .u8 0)), .i (.v (.int .u8 0)), .i (.v (.int .u8 0)), .i (.v (.int .u8 0)), .i (.v (.int .u8 0)), .i (.v (.int .u8 0)), .i (.v (.int .u8 0)), .i (.v (.int .u8 0)), .i (.v (.int .u8 0)), .i (.v (.int .u8 0)), .i (.v (.int .u8 0)), .i (.v (.int .u8 0)), .i (.v (.int .u8 0)), .i (.v (.int .u8 0)), .i (.v (.int .u8 0)), .i (.v (.int .u8 0)), .i (.v (.int .u8 0)), .i (.v (.int .u8 0)), .i (.v (.int .u8 0)), .i (.v (.int .u8 0)), .i (.v (.int .u8 0)), .i (.v (.int .u8 0)), .i (.v (.int .u8 0)), .i (.v (.int .u8 0)), .i (.v (.int .u8 0)), .i (.v (.int .u8 0)), .i (.v (.int .u8 0)), .i (.v (.int .u8 0)), .i (.v (.int .u8 0)), .i (.v (.int .u8 0))] parts) := bd_arr (n := 65) (e := 5) (by kernel_rfl) (by kernel_rfl) (by kernel_rfl) parts
theorem bd95 (parts : List (Nat × AV)) : buildE E 95 parts = aggK (fillA 1 [.i (.v (.int .u8 0)), .i (.v (.int .u8 0)), .i (.v (.int .u8 0)), .i (.v (.int .u8 0)), .i (.v (.int .u8 0)), .i (.v (.int .u8 0)), .i (.v (.int .u8 0)), .i (.v (.int .u8 0)), .i (.v (.int .u8 0)), .i (.v (.int .u8 0)), .i (.v (.int .u8 0)), .i (.v (.int .u8 0)), .i (.v (.int .u8 0)), .i (.v (.int .u8 0)), .i (.v (.int .u8 0)), .i (.v (.int .u8 0)), .i (.v (.int .u8 0)), .i (.v (.int .u8 0)), .i (.v (.int .u8 0)), .i (.v (.int .u8 0)), .i (.v (.int .u8 0)), .i (.v (.int .u8 0)), .i (.v (.int .u8 0)), .i (.v (.int .u8 0)), .i (.v (.int .u8 0)), .i (.v (.int .u8 0)), .i (.v (.int .u8 0)), .i (.v (.int .u8 0)), .i (.v (.int .u8 0)), .i (.v (.int .u8 0)), .i (.v (.int .u8 0)), .i (.v (.int .u8 0))] parts) := bd_arr (n := 32) (e := 5) (by kernel_rfl) (by kernel_rfl) (by kernel_rfl) parts
theorem bd96 (parts : List (Nat × AV)) : buildE E 96 parts = aggK (fillA 1 [.i (.v (.int .u8 0)), .i (.v (.int .u8 0)), .i (.v (.int .u8 0)), .i (.v (.int .u8 0)), .i (.v (.int .u8 0)), .i (.v (.int .u8 0)), .i (.v (.int .u8 0)), .i (.v (.int .u8 0)), .i (.v (.int .u8 0)), .i (.v (.int .u8 0)), .i (.v (.int .u8 0)), .i (.v (.int .u8 0)), .i (.v (.int .u8 0)), .i (.v (.int .u8 0)), .i (.v (.int .u8 0)), .i (.v (.int .u8 0)), .i (.v (.int .u8 0)), .i (.v (.int .u8 0)), .i (.v (.int .u8 0)), .i (.v (.int .u8 0)), .i (.v (.int .u8 0)), .i (.v (.int .u8 0)), .i (.v (.int .u8 0)), .i (.v (.int .u8 0)), .i (.v (.int .u8 0)), .i (.v (.int .u8 0)), .i (.v (.int .u8 0)), .i (.v (.int .u8 0)), .i (.v (.int .u8 0)), .i (.v (.int .u8 0)), .i (.v (.int .u8 0)), .i (.v (.int .u8 0)), .i (.v (.int .u8 0)), .i (.v (.int .u8 0)), .i (.v (.int .u8 0)), .i (.v (.int .u8 0)), .i (.v (.int .u8 0)), .i (.v (.int .u8 0)), .i (.v (.int .u8 0)), .i (.v (.int .u8 0)), .i (.v (.int .u8 0)), .i (.v (.int .u8 0)), .i (.v (.int .u8 0)), .i (.v (.int .u8 0)), .i (.v (.int .u8 0)), .i (.v (.int .u8 0)), .i (.v (.int .u8 0)), .i (.v (.int .u8 0)), .i (.v (.int .u8 0)), .i (.v (.int .u8 0)), .i (.v (.int .u8 0)), .i (.v (.int .u8 0)), .i (.v (.int .u8 0)), .i (.v (.int .u8 0)), .i (.v (.int .u8 0)), .i (.v (.int .u8 0)), .i (.v (.int .u8 0)), .i (.v (.int .u8 0)), .i (.v (.int .u8 0)), .i (.v (.int .u8 0)), .i (.v (.int .u8 0)), .i (.v (.int .u8 0)), .i (.v (.int .u8 0)), .i (.v (.int .u8 0))] parts) := bd_arr (n := 64) (e := 5) (by kernel_rfl) (by kernel_rfl) (by kernel_rfl) parts
theorem cv2_81 (cl : CallF) (fr : Fr) (H : Hp) (x : Operand) : evOp E cl (.convert 2 81 x) fr H = pK H (convE E 2 81 (opd E fr x)) := op_convert _ _ _ (by kernel_rfl) (by kernel_rfl)
theorem cv3_5 (cl : CallF) (fr : Fr) (H : Hp) (x : Operand) : evOp E cl (.convert 3 5 x) fr H = pK H (convE E 3 5 (opd E fr x)) := op_convert _ _ _ (by kernel_rfl) (by kernel_rfl)
theorem cv3_68 (cl : CallF) (fr : Fr) (H : Hp) (x : Operand) : evOp E cl (.convert 3 68 x) fr H = pK H (convE E 3 68 (opd E fr x)) := op_convert _ _ _ (by kernel_rfl) (by kernel_rfl)
theorem cv3_81 (cl : CallF) (fr : Fr) (H : Hp) (x : Operand) : evOp E cl (.convert 3 81 x) fr H = pK H (convE E 3 81 (opd E fr x)) := op_convert _ _ _ (by kernel_rfl) (by kernel_rfl)
theorem cv5_3 (cl : CallF) (fr : Fr) (H : Hp) (x : Operand) : evOp E cl (.convert 5 3 x) fr H = pK H (convE E 5 3 (opd E fr x)) := op_convert _ _ _ (by kernel_rfl) (by kernel_rfl)
theorem cv5_21 (cl : CallF) (fr : Fr) (H : Hp) (x : Operand) : evOp E cl (.convert 5 21 x) fr H = pK H (convE E 5 21 (opd E fr x)) := op_convert _ _ _ (by kernel_rfl) (by kernel_rfl)
theorem cv9_47 (cl : CallF) (fr : Fr) (H : Hp) (x : Operand) : evOp E cl (.convert 9 47 x) fr H = cvK H (opd E fr x) := op_convB (by kernel_rfl) (by kernel_rfl) x
theorem cv21_5 (cl : CallF) (fr : Fr) (H : Hp) (x : Operand) : evOp E cl (.convert 21 5 x) fr H = pK H (convE E 21 5 (opd E fr x)) := op_convert _ _ _ (by kernel_rfl) (by kernel_rfl)
theorem cv21_75 (cl : CallF) (fr : Fr) (H : Hp) (x : Operand) : evOp E cl (.convert 21 75 x) fr H = pK H (convE E 21 75 (opd E fr x)) := op_convert _ _ _ (by kernel_rfl) (by kernel_rfl)
theorem cv47_9 (cl : CallF) (fr : Fr) (H : Hp) (x : Operand) : evOp E cl (.convert 47 9 x) fr H = pK H (cvS (rowsE H (opd E fr x))) := op_cvS (e := 5) (by kernel_rfl) (by kernel_rfl) (by kernel_rfl) (by kernel_rfl) x
theorem cv68_75 (cl : CallF) (fr : Fr) (H : Hp) (x : Operand) : evOp E cl (.convert 68 75 x) fr H = pK H (convE E 68 75 (opd E fr x)) := op_convert _ _ _ (by kernel_rfl) (by kernel_rfl)
theorem cv75_5 (cl : CallF) (fr : Fr) (H : Hp) (x : Operand) : evOp E cl (.convert 75 5 x) fr H = pK H (convE E 75 5 (opd E fr x)) := op_convert _ _ _ (by kernel_rfl) (by kernel_rfl)
theorem cv81_3 (cl : CallF) (fr : Fr) (H : Hp) (x : Operand) : evOp E cl (.convert 81 3 x) fr H = pK H (convE E 81 3 (opd E fr x)) := op_convert _ _ _ (by kernel_rfl) (by kernel_rfl)
theorem cv81_5 (cl : CallF) (fr : Fr) (H : Hp) (x : Operand) : evOp E cl (.convert 81 5 x) fr H = pK H (convE E 81 5 (opd E fr x)) := op_convert _ _ _ (by kernel_rfl) (by kernel_rfl)
theorem cv81_75 (cl : CallF) (fr : Fr) (H : Hp) (x : Operand) : evOp E cl (.convert 81 75 x) fr H = pK H (convE E 81 75 (opd E fr x)) := op_convert _ _ _ (by kernel_rfl) (by kernel_rfl)
theorem sx9 (H : Hp) (s : List UInt8) (lo hi : Option AV) : sliceE E H 9 (.i (.str s)) lo hi none = slSK s (bnd 0 lo) (bnd s.length hi) := sl_str (by kernel_rfl) s lo hi
theorem ap26_26 (H : Hp) (s x : AV) : appendE E H 26 26 s x = apS 7 H s (srcE H x) := ap_eq (by kernel_rfl) H s x
theorem ap29_29 (H : Hp) (s x : AV) : appendE E H 29 29 s x = apS 1 H s (srcE H x) := ap_eq (by kernel_rfl) H s x
theorem ap47_9 (H : Hp) (s x : AV) : appendE E H 47 9 s x = apS 1 H s (srcE H x) := ap_eq (by kernel_rfl) H s x
theorem ap47_47 (H : Hp) (s x : AV) : appendE E H 47 47 s x = apS 1 H s (srcE H x) := ap_eq (by kernel_rfl) H s x
theorem ap49_49 (H : Hp) (s x : AV) : appendE E H 49 49 s x = apS 1 H s (srcE H x) := ap_eq (by kernel_rfl) H s x
theorem bs26 (H : Hp) (n : Nat) (hn : n * 7 ≤ 16777216) (parts : List (Nat × AV)) : buildSliceE E H 26 n parts = bsF [none, none, none, none, none, some 1, none] 7 n H (fillA 7 (List.replicate n [.i (.v (.int .i64 0)), .i (.v (.int .i32 0)), .i (.v (.int .u8 0)), .i (.v (.int .u8 0)), .i (.str []), .i (.sl 0 [] true), .i (.str [])]).flatten parts) := bs_eq (by kernel_rfl) H n hn parts
theorem br26 (n : Nat) (parts : List (Nat × AV)) : buildRefs E 26 n parts = brK (fillA 7 (List.replicate n [.i (.v (.int .i64 0)), .i (.v (.int .i32 0)), .i (.v (.int .u8 0)), .i (.v (.int .u8 0)), .i (.str []), .i (.sl 0 [] true), .i (.str [])]).flatten parts) := br_eq (ks := [none, none, none, none, none, some 1, none]) (by kernel_rfl) n parts
theorem ms26 (H : Hp) (k k' : IntKind) (n m : Int) : makeSliceE E H 26 (.i (.v (.int k n))) (.i (.v (.int k' m))) = if 0 ≤ n ∧ n = m ∧ n < 1073741824 then some (.ref H.length 0 0 n.toNat, H ++ [.sl 7 0 (List.replicate n.toNat [.v (.int .i64 0), .v (.int .i32 0), .v (.int .u8 0), .v (.int .u8 0), .str [], .sl 1 [] false, .str []]) true]) else none := ms_eq (by kernel_rfl) H k k' n m
theorem bs29 (H : Hp) (n : Nat) (hn : n * 1 ≤ 16777216) (parts : List (Nat × AV)) : buildSliceE E H 29 n parts = bsF [] 1 n H (fillA 1 (List.replicate n [.i (.v (.int .i64 0))]).flatten parts) := bs_eq (by kernel_rfl) H n hn parts
theorem br29 (n : Nat) (parts : List (Nat × AV)) : buildRefs E 29 n parts = brK (fillA 1 (List.replicate n [.i (.v (.int .i64 0))]).flatten parts) := br_eq (ks := []) (by kernel_rfl) n parts
theorem ms29 (H : Hp) (k k' : IntKind) (n m : Int) : makeSliceE E H 29 (.i (.v (.int k n))) (.i (.v (.int k' m))) = if 0 ≤ n ∧ n = m ∧ n < 1073741824 then some (.ref H.length 0 0 n.toNat, H ++ [.sl 1 0 (List.replicate n.toNat [.v (.int .i64 0)]) true]) else none := ms_eq (by kernel_rfl) H k k' n m
theorem bs47 (H : Hp) (n : Nat) (hn : n * 1 ≤ 16777216) (parts : List (Nat × AV)) : buildSliceE E H 47 n parts = bsF [] 1 n H (fillA 1 (List.replicate n [.i (.v (.int .u8 0))]).flatten parts) := bs_eq (by kernel_rfl) H n hn parts
theorem br47 (n : Nat) (parts : List (Nat × AV)) : buildRefs E 47 n parts = brK (fillA 1 (List.replicate n [.i (.v (.int .u8 0))]).flatten parts) := br_eq (ks := []) (by kernel_rfl) n parts
theorem ms47 (H : Hp) (k k' : IntKind) (n m : Int) : makeSliceE E H 47 (.i (.v (.int k n))) (.i (.v (.int k' m))) = if 0 ≤ n ∧ n = m ∧ n < 1073741824 then some (.ref H.length 0 0 n.toNat, H ++ [.sl 1 0 (List.replicate n.toNat [.v (.int .u8 0)]) true]) else none := ms_eq (by kernel_rfl) H k k' n m
theorem bs49 (H : Hp) (n : Nat) (hn : n * 1 ≤ 16777216) (parts : List (Nat × AV)) : buildSliceE E H 49 n parts = bsF [] 1 n H (fillA 1 (List.replicate n [.i (.v (.int .i32 0))]).flatten parts) := bs_eq (by kernel_rfl) H n hn parts
theorem br49 (n : Nat) (parts : List (Nat × AV)) : buildRefs E 49 n parts = brK (fillA 1 (List.replicate n [.i (.v (.int .i32 0))]).flatten parts) := br_eq (ks := []) (by kernel_rfl) n parts
theorem ms49 (H : Hp) (k k' : IntKind) (n m : Int) : makeSliceE E H 49 (.i (.v (.int k n))) (.i (.v (.int k' m))) = if 0 ≤ n ∧ n = m ∧ n < 1073741824 then some (.ref H.length 0 0 n.toNat, H ++ [.sl 1 0 (List.replicate n.toNat [.v (.int .i32 0)]) true]) else none := ms_eq (by kernel_rfl) H k k' n m
theorem st21 (H : Hp) (c g r k : Nat) (v : AV) : storeE E H 21 (.ptr c g r k) v = if (cellsA v).length = 1 ∧ (cellsA v).all one = true then stC [] 1 H c g r k (cellsA v) H[c]? else none := st_eq sz21 H c g r k v
theorem st23 (H : Hp) (c g r k : Nat) (v : AV) : storeE E H 23 (.ptr c g r k) v = if (cellsA v).length = 3 ∧ (cellsA v).all one = true then stC [] 3 H c g r k (cellsA v) H[c]? else none := st_eq sz23 H c g r k v
theorem st26 (H : Hp) (c g r k : Nat) (v : AV) : storeE E H 26 (.ptr c g r k) v = if (cellsA v).length = 1 ∧ (cellsA v).all one = true then stC [some 7] 1 H c g r k (cellsA v) H[c]? else none := st_eq sz26 H c g r k v
theorem st29 (H : Hp) (c g r k : Nat) (v : AV) : storeE E H 29 (.ptr c g r k) v = if (cellsA v).length = 1 ∧ (cellsA v).all one = true then stC [some 1] 1 H c g r k (cellsA v) H[c]? else none := st_eq sz29 H c g r k v
theorem st3 (H : Hp) (c g r k : Nat) (v : AV) : storeE E H 3 (.ptr c g r k) v = if (cellsA v).length = 1 ∧ (cellsA v).all one = true then stC [] 1 H c g r k (cellsA v) H[c]? else none := st_eq sz3 H c g r k v
theorem st31 (H : Hp) (c g r k : Nat) (v : AV) : storeE E H 31 (.ptr c g r k) v = if (cellsA v).length = 7 ∧ (cellsA v).all one = true then stC [none, none, none, none, none, some 1, none] 7 H c g r k (cellsA v) H[c]? else none := st_eq sz31 H c g r k v
theorem st44 (H : Hp) (c g r k : Nat) (v : AV) : storeE E H 44 (.ptr c g r k) v = if (cellsA v).length = 4 ∧ (cellsA v).all one = true then stC [none, none, none, some 7] 4 H c g r k (cellsA v) H[c]? else none := st_eq sz44 H c g r k v
theorem st5 (H : Hp) (c g r k : Nat) (v : AV) : storeE E H 5 (.ptr c g r k) v = if (cellsA v).length = 1 ∧ (cellsA v).all one = true then stC [] 1 H c g r k (cellsA v) H[c]? else none := st_eq sz5 H c g r k v
theorem st67 (H : Hp) (c g r k : Nat) (v : AV) : storeE E H 67 (.ptr c g r k) v = if (cellsA v).length = 4 ∧ (cellsA v).all one = true then stC [] 4 H c g r k (cellsA v) H[c]? else none := st_eq sz67 H c g r k v
theorem st81 (H : Hp) (c g r k : Nat) (v : AV) : storeE E H 81 (.ptr c g r k) v = if (cellsA v).length = 1 ∧ (cellsA v).all one = true then stC [] 1 H c g r k (cellsA v) H[c]? else none := st_eq sz81 H c g r k v
theorem st84 (H : Hp) (c g r k : Nat) (v : AV) : storeE E H 84 (.ptr c g r k) v = if (cellsA v).length = 24 ∧ (cellsA v).all one = true then stC [] 24 H c g r k (cellsA v) H[c]? else none := st_eq sz84 H c g r k v
theorem st9 (H : Hp) (c g r k : Nat) (v : AV) : storeE E H 9 (.ptr c g r k) v = if (cellsA v).length = 1 ∧ (cellsA v).all one = true then stC [] 1 H c g r k (cellsA v) H[c]? else none := st_eq sz9 H c g r k v
theorem st91 (H : Hp) (c g r k : Nat) (v : AV) : storeE E H 91 (.ptr c g r k) v = if (cellsA v).length = 20 ∧ (cellsA v).all one = true then stC [] 20 H c g r k (cellsA v) H[c]? else none := st_eq sz91 H c g r k v
theorem st92 (H : Hp) (c g r k : Nat) (v : AV) : storeE E H 92 (.ptr c g r k) v = if (cellsA v).length = 65 ∧ (cellsA v).all one = true then stC [] 65 H c g r k (cellsA v) H[c]? else none := st_eq sz92 H c g r k v
theorem st95 (H : Hp) (c g r k : Nat) (v : AV) : storeE E H 95 (.ptr c g r k) v = if (cellsA v).length = 32 ∧ (cellsA v).all one = true then stC [] 32 H c g r k (cellsA v) H[c]? else none := st_eq sz95 H c g r k v
theorem st96 (H : Hp) (c g r k : Nat) (v : AV) : storeE E H 96 (.ptr c g r k) v = if (cellsA v).length = 64 ∧ (cellsA v).all one = true then stC [] 64 H c g r k (cellsA v) H[c]? else none := st_eq sz96 H c g r k v
def en4 := And.intro @ent4 (And.intro @res4 (And.intro @rk4 (And.intro @ow4 (And.intro @kp4_0 (And.intro @kp4_1 (And.intro @kp4_2 (And.intro @kp4_3 (And.intro @kp4_4 (And.intro @kp4_5 (And.intro @fl4_5 (And.intro @dr4_5 (And.intro @ent9 (And.intro @ci9 (And.intro @cr9 (And.intro @ak9 (And.intro @ent11 (And.intro @ci11 (And.intro @cr11 (And.intro @ak11 (And.intro @ent12 (And.intro @ci12 (And.intro @cr12 (And.intro @ak12 (And.intro @ent13 (And.intro @ci13 (And.intro @cr13 (And.intro @ak13 (And.intro @ent14 (And.intro @ci14 (And.intro @cr14 (And.intro @ak14 (And.intro @ent15 (And.intro @ci15 (And.intro @cr15 (And.intro @ak15 (And.intro @agg31 (And.intro @kind31 (And.intro @sl31 (And.intro @str31 (And.intro @str9 (And.intro @sx9 (And.intro @cv47_9 (And.intro @cv9_47 (And.intro @sz31 (@st31)))))))))))))))))))))))))))))))))))))))))))))
def en11 := And.intro @ent11 (And.intro @res11 (And.intro @rk11 (And.intro @ow11 (And.intro @kp11_0 (And.intro @kp11_1 (And.intro @kp11_2 (And.intro @kp11_3 (And.intro @kp11_4 (And.intro @kp11_5 (And.intro @ent21 (And.intro @ci21 (And.intro @cr21 (And.intro @ak21 (And.intro @agg3 (And.intro @agg31 (And.intro @fld31_0 (And.intro @kind31 (And.intro @sl31 (And.intro @str31 (And.intro @sz3 (And.intro @st3 (And.intro @sz31 (@st31)))))))))))))))))))))))
def en12 := And.intro @ent12 (And.intro @res12 (And.intro @rk12 (And.intro @ow12 (And.intro @kp12_0 (And.intro @kp12_1 (And.intro @agg29 (And.intro @agg3 (And.intro @agg9 (And.intro @fld31_4 (And.intro @fld31_5 (And.intro @fld31_6 (And.intro @kind29 (And.intro @kind3 (And.intro @cv3_68 (And.intro @cv81_3 (And.intro @cv5_3 (And.intro @cv3_81 (And.intro @cv3_5 (And.intro @kind9 (And.intro @cv47_9 (And.intro @cv9_47 (And.intro @sl29 (And.intro @ms29 (And.intro @br29 (And.intro @ap29_29 (And.intro @sl9 (And.intro @sx9 (And.intro @str29 (And.intro @str9 (And.intro @sz29 (And.intro @st29 (And.intro @sz3 (And.intro @st3 (And.intro @sz9 (And.intro @st9 (@zero3))))))))))))))))))))))))))))))))))))
def en13 := And.intro @ent13 (And.intro @res13 (And.intro @rk13 (And.intro @ow13 (And.intro @kp13_0 (And.intro @kp13_1 (And.intro @kp13_2 (And.intro @kp13_3 (And.intro @kp13_4 (And.intro @kp13_5 (And.intro @kp13_6 (And.intro @kp13_7 (And.intro @kp13_8 (And.intro @kp13_9 (And.intro @kp13_10 (And.intro @kp13_11 (And.intro @kp13_12 (And.intro @kp13_13 (And.intro @kp13_14 (And.intro @kp13_15 (And.intro @ent11 (And.intro @ci11 (And.intro @cr11 (And.intro @ak11 (And.intro @ent22 (And.intro @ci22 (And.intro @cr22 (And.intro @ak22 (And.intro @ent23 (And.intro @ci23 (And.intro @cr23 (And.intro @ak23 (And.intro @agg21 (And.intro @agg29 (And.intro @agg3 (And.intro @agg31 (And.intro @agg47 (And.intro @agg49 (And.intro @agg5 (And.intro @agg9 (And.intro @fld31_0 (And.intro @fld31_1 (And.intro @fld31_2 (And.intro @fld31_3 (And.intro @fld31_4 (And.intro @fld31_5 (And.intro @fld31_6 (And.intro @kind21 (And.intro @cv5_21 (And.intro @cv21_75 (And.intro @cv21_5 (And.intro @kind29 (And.intro @kind3 (And.intro @cv3_68 (And.intro @cv81_3 (And.intro @cv5_3 (And.intro @cv3_81 (And.intro @cv3_5 (And.intro @kind31 (And.intro @kind47 (And.intro @cv47_9 (And.intro @cv9_47 (And.intro @kind49 (And.intro @kind5 (And.intro @cv75_5 (And.intro @cv81_5 (And.intro @kind9 (And.intro @sl29 (And.intro @ms29 (And.intro @br29 (And.intro @ap29_29 (And.intro @sl31 (And.intro @sl47 (And.intro @ms47 (And.intro @br47 (And.intro @ap47_9 (And.intro @ap47_47 (And.intro @sl49 (And.intro @ms49 (And.intro @br49 (And.intro @ap49_49 (And.intro @sl5 (And.intro @sl9 (And.intro @sx9 (And.intro @str29 (And.intro @str31 (And.intro @str47 (And.intro @str49 (And.intro @str5 (And.intro @str9 (And.intro @sz21 (And.intro @st21 (And.intro @sz29 (And.intro @st29 (And.intro @sz3 (And.intro @st3 (And.intro @sz31 (And.intro @st31 (And.intro @sz5 (And.intro @st5 (And.intro @sz9 (And.intro @st9 (And.intro @zero21 (And.intro @zero3 (@zero5))))))))))))))))))))))))))))))))))))))))))))))))))))))))))))))))))))))))))))))))))))))))))))))))))))))))
def en14 := And.intro @ent14 (And.intro @res14 (And.intro @rk14 (And.intro @ow14 (And.intro @kp14_0 (And.intro @kp14_1 (And.intro @kp14_2 (And.intro @kp14_3 (And.intro @kp14_4 (And.intro @kp14_5 (And.intro @kp14_6 (And.intro @kp14_7 (And.intro @kp14_8 (And.intro @kp14_9 (And.intro @kp14_10 (And.intro @kp14_11 (And.intro @kp14_12 (And.intro @kp14_13 (And.intro @kp14_14 (And.intro @kp14_15 (And.intro @ent15 (And.intro @ci15 (And.intro @cr15 (And.intro @ak15 (And.intro @ent24 (And.intro @ci24 (And.intro @cr24 (And.intro @ak24 (And.intro @ent25 (And.intro @ci25 (And.intro @cr25 (And.intro @ak25 (And.intro @agg21 (And.intro @agg29 (And.intro @agg3 (And.intro @agg31 (And.intro @agg47 (And.intro @agg49 (And.intro @agg5 (And.intro @agg9 (And.intro @fld31_0 (And.intro @fld31_1 (And.intro @fld31_2 (And.intro @fld31_3 (And.intro @fld31_4 (And.intro @fld31_5 (And.intro @fld31_6 (And.intro @kind21 (And.intro @cv5_21 (And.intro @cv21_75 (And.intro @cv21_5 (And.intro @kind29 (And.intro @kind3 (And.intro @cv3_68 (And.intro @cv81_3 (And.intro @cv5_3 (And.intro @cv3_81 (And.intro @cv3_5 (And.intro @kind31 (And.intro @kind47 (And.intro @cv47_9 (And.intro @cv9_47 (And.intro @kind49 (And.intro @kind5 (And.intro @cv75_5 (And.intro @cv81_5 (And.intro @kind9 (And.intro @sl29 (And.intro @ms29 (And.intro @br29 (And.intro @ap29_29 (And.intro @sl31 (And.intro @sl47 (And.intro @ms47 (And.intro @br47 (And.intro @ap47_9 (And.intro @ap47_47 (And.intro @sl49 (And.intro @ms49 (And.intro @br49 (And.intro @ap49_49 (And.intro @sl5 (And.intro @sl9 (And.intro @sx9 (And.intro @str29 (And.intro @str31 (And.intro @str47 (And.intro @str49 (And.intro @str5 (And.intro @str9 (And.intro @sz21 (And.intro @st21 (And.intro @sz29 (And.intro @st29 (And.intro @sz3 (And.intro @st3 (And.intro @sz31 (And.intro @st31 (And.intro @sz5 (And.intro @st5 (And.intro @sz9 (And.intro @st9 (And.intro @zero21 (And.intro @zero3 (@zero5))))))))))))))))))))))))))))))))))))))))))))))))))))))))))))))))))))))))))))))))))))))))))))))))))))))))
def en15 := And.intro @ent15 (And.intro @res15 (And.intro @rk15 (And.intro @ow15 (And.intro @kp15_0 (And.intro @kp15_1 (And.intro @kp15_2 (And.intro @kp15_3 (And.intro @kp15_4 (And.intro @kp15_5 (And.intro @kp15_6 (And.intro @kp15_7 (And.intro @kp15_8 (And.intro @kp15_9 (And.intro @kp15_10 (And.intro @kp15_11 (And.intro @kp15_12 (And.intro @kp15_13 (And.intro @kp15_14 (And.intro @kp15_15 (And.intro @kp15_16 (And.intro @kp15_17 (And.intro @kp15_18 (And.intro @kp15_19 (And.intro @kp15_20 (And.intro @kp15_21 (And.intro @kp15_22 (And.intro @kp15_23 (And.intro @kp15_24 (And.intro @kp15_25 (And.intro @kp15_26 (And.intro @ent25 (And.intro @ci25 (And.intro @cr25 (And.intro @ak25 (And.intro @ent26 (And.intro @ci26 (And.intro @cr26 (And.intro @ak26 (And.intro @ent27 (And.intro @ci27 (And.intro @cr27 (And.intro @ak27 (And.intro @agg21 (And.intro @agg29 (And.intro @agg3 (And.intro @agg31 (And.intro @agg5 (And.intro @agg9 (And.intro @arr31 (And.intro @arrz31 (And.intro @fld31_0 (And.intro @fld31_1 (And.intro @fld31_2 (And.intro @fld31_3 (And.intro @fld31_4 (And.intro @fld31_5 (And.intro @fld31_6 (And.intro @kind29 (And.intro @kind3 (And.intro @cv3_68 (And.intro @cv81_3 (And.intro @cv5_3 (And.intro @cv3_81 (And.intro @cv3_5 (And.intro @kind31 (And.intro @kind5 (And.intro @cv5_21 (And.intro @cv75_5 (And.intro @cv81_5 (And.intro @cv21_5 (And.intro @kind9 (And.intro @cv47_9 (And.intro @cv9_47 (And.intro @pl31 (And.intro @sl29 (And.intro @ms29 (And.intro @br29 (And.intro @ap29_29 (And.intro @sl3 (And.intro @sl31 (And.intro @sl5 (And.intro @sl9 (And.intro @sx9 (And.intro @str29 (And.intro @str3 (And.intro @str31 (And.intro @str5 (And.intro @str9 (And.intro @sz21 (And.intro @st21 (And.intro @sz29 (And.intro @st29 (And.intro @sz3 (And.intro @st3 (And.intro @sz31 (And.intro @st31 (And.intro @sz5 (And.intro @st5 (And.intro @sz9 (And.intro @st9 (And.intro @zero3 (And.intro @zero31 (@bd31)))))))))))))))))))))))))))))))))))))))))))))))))))))))))))))))))))))))))))))))))))))))))))))))))))))))
def en21 := And.intro @ent21 (And.intro @res21 (And.intro @rk21 (And.intro @ow21 (And.intro @kp21_0 (And.intro @kp21_1 (And.intro @kp21_2 (And.intro @kp21_3 (And.intro @kp21_4 (And.intro @kp21_5 (And.intro @kp21_6 (And.intro @kp21_7 (And.intro @kp21_8 (And.intro @kp21_9 (And.intro @kp21_10 (And.intro @kp21_11 (And.intro @kp21_12 (And.intro @kp21_13 (And.intro @kp21_14 (And.intro @kp21_15 (And.intro @kp21_16 (And.intro @kp21_17 (And.intro @kp21_18 (And.intro @kp21_19 (And.intro @kp21_20 (And.intro @kp21_21 (And.intro @kp21_22 (And.intro @kp21_23 (And.intro @kp21_24 (And.intro @kp21_25 (And.intro @kp21_26 (And.intro @fl21_7 (And.intro @dr21_7 (And.intro @fl21_14 (And.intro @dr21_14 (And.intro @fl21_18 (And.intro @dr21_18 (And.intro @ent22 (And.intro @ci22 (And.intro @cr22 (And.intro @ak22 (And.intro @ent23 (And.intro @ci23 (And.intro @cr23 (And.intro @ak23 (And.intro @ent28 (And.intro @ci28 (And.intro @cr28 (And.intro @ak28 (And.intro @ent29 (And.intro @ci29 (And.intro @cr29 (And.intro @ak29 (And.intro @agg21 (And.intro @agg29 (And.intro @agg3 (And.intro @agg31 (And.intro @agg49 (And.intro @agg5 (And.intro @agg9 (And.intro @arr31 (And.intro @arr49 (And.intro @arrz31 (And.intro @fld31_0 (And.intro @fld31_1 (And.intro @fld31_2 (And.intro @fld31_3 (And.intro @fld31_4 (And.intro @fld31_5 (And.intro @fld31_6 (And.intro @kind21 (And.intro @cv5_21 (And.intro @cv21_75 (And.intro @cv21_5 (And.intro @kind29 (And.intro @kind3 (And.intro @cv3_68 (And.intro @cv81_3 (And.intro @cv5_3 (And.intro @cv3_81 (And.intro @cv3_5 (And.intro @kind49 (And.intro @kind5 (And.intro @cv75_5 (And.intro @cv81_5 (And.intro @kind9 (And.intro @cv47_9 (And.intro @cv9_47 (And.intro @pl31 (And.intro @sl29 (And.intro @ms29 (And.intro @br29 (And.intro @ap29_29 (And.intro @sl49 (And.intro @ms49 (And.intro @br49 (And.intro @ap49_49 (And.intro @sl5 (And.intro @sl9 (And.intro @sx9 (And.intro @str29 (And.intro @str49 (And.intro @str5 (And.intro @str9 (And.intro @sz21 (And.intro @st21 (And.intro @sz29 (And.intro @st29 (And.intro @sz3 (And.intro @st3 (And.intro @sz31 (And.intro @st31 (And.intro @sz5 (And.intro @st5 (And.intro @sz9 (And.intro @st9 (And.intro @zero21 (And.intro @zero3 (And.intro @zero31 (@bd31)))))))))))))))))))))))))))))))))))))))))))))))))))))))))))))))))))))))))))))))))))))))))))))))))))))))))))))))))))))))
def en22 := And.intro @ent22 (And.intro @res22 (And.intro @rk22 (And.intro @ow22 (And.intro @kp22_0 (And.intro @kp22_1 (And.intro @kp22_2 (And.intro @kp22_3 (And.intro @kp22_4 (And.intro @kp22_5 (And.intro @kp22_6 (And.intro @kp22_7 (And.intro @hd22_3 (And.intro @ent36 (And.intro @ci36 (And.intro @cr36 (And.intro @ak36 (And.intro @agg21 (And.intro @agg47 (And.intro @agg49 (And.intro @agg5 (And.intro @agg9 (And.intro @arr49 (And.intro @kind21 (And.intro @cv5_21 (And.intro @cv21_75 (And.intro @cv21_5 (And.intro @kind47 (And.intro @cv47_9 (And.intro @cv9_47 (And.intro @kind49 (And.intro @kind5 (And.intro @cv5_3 (And.intro @cv75_5 (And.intro @cv81_5 (And.intro @cv3_5 (And.intro @kind9 (And.intro @sl21 (And.intro @sl47 (And.intro @ms47 (And.intro @br47 (And.intro @ap47_9 (And.intro @ap47_47 (And.intro @sl49 (And.intro @ms49 (And.intro @br49 (And.intro @ap49_49 (And.intro @sl9 (And.intro @sx9 (And.intro @str21 (And.intro @str47 (And.intro @str49 (And.intro @str9 (And.intro @sz21 (And.intro @st21 (And.intro @sz5 (And.intro @st5 (And.intro @zero21 (@zero5))))))))))))))))))))))))))))))))))))))))))))))))))))))))))
def en23 := And.intro @ent23 (And.intro @res23 (And.intro @rk23 (And.intro @ow23 (And.intro @kp23_0 (And.intro @kp23_1 (And.intro @kp23_2 (And.intro @kp23_3 (And.intro @kp23_4 (And.intro @kp23_5 (And.intro @kp23_6 (And.intro @kp23_7 (And.intro @kp23_8 (And.intro @kp23_9 (And.intro @kp23_10 (And.intro @kp23_11 (And.intro @kp23_12 (And.intro @kp23_13 (And.intro @kp23_14 (And.intro @kp23_15 (And.intro @kp23_16 (And.intro @kp23_17 (And.intro @kp23_18 (And.intro @kp23_19 (And.intro @kp23_20 (And.intro @hd23_13 (And.intro @ent37 (And.intro @ci37 (And.intro @cr37 (And.intro @ak37 (And.intro @ent38 (And.intro @ci38 (And.intro @cr38 (And.intro @ak38 (And.intro @ent39 (And.intro @ci39 (And.intro @cr39 (And.intro @ak39 (And.intro @ent41 (And.intro @ci41 (And.intro @cr41 (And.intro @ak41 (And.intro @ent42 (And.intro @ci42 (And.intro @cr42 (And.intro @ak42 (And.intro @xk42 (And.intro @agg2 (And.intro @agg29 (And.intro @agg3 (And.intro @agg47 (And.intro @agg5 (And.intro @agg61 (And.intro @agg9 (And.intro @arr29 (And.intro @kind2 (And.intro @cv2_81 (And.intro @kind29 (And.intro @kind3 (And.intro @cv3_68 (And.intro @cv81_3 (And.intro @cv5_3 (And.intro @cv3_81 (And.intro @cv3_5 (And.intro @kind47 (And.intro @cv47_9 (And.intro @cv9_47 (And.intro @kind5 (And.intro @cv5_21 (And.intro @cv75_5 (And.intro @cv81_5 (And.intro @cv21_5 (And.intro @kind61 (And.intro @kind9 (And.intro @sl2 (And.intro @sl29 (And.intro @ms29 (And.intro @br29 (And.intro @ap29_29 (And.intro @sl3 (And.intro @sl47 (And.intro @ms47 (And.intro @br47 (And.intro @ap47_9 (And.intro @ap47_47 (And.intro @sl5 (And.intro @sl61 (And.intro @sl9 (And.intro @sx9 (And.intro @str2 (And.intro @str29 (And.intro @str3 (And.intro @str47 (And.intro @str5 (And.intro @str61 (And.intro @str9 (And.intro @sz3 (And.intro @st3 (And.intro @sz5 (And.intro @st5 (And.intro @zero3 (@zero5)))))))))))))))))))))))))))))))))))))))))))))))))))))))))))))))))))))))))))))))))))))))))))))))))))))
def en24 := And.intro @ent24 (And.intro @res24 (And.intro @rk24 (And.intro @ow24 (And.intro @kp24_0 (And.intro @kp24_1 (And.intro @kp24_2 (And.intro @kp24_3 (And.intro @kp24_4 (And.intro @kp24_5 (And.intro @kp24_6 (And.intro @kp24_7 (And.intro @kp24_8 (And.intro @kp24_9 (And.intro @kp24_10 (And.intro @kp24_11 (And.intro @kp24_12 (And.intro @kp24_13 (And.intro @kp24_14 (And.intro @kp24_15 (And.intro @hd24_3 (And.intro @agg21 (And.intro @agg47 (And.intro @agg49 (And.intro @agg5 (And.intro @agg9 (And.intro @arr49 (And.intro @kind21 (And.intro @cv5_21 (And.intro @cv21_75 (And.intro @cv21_5 (And.intro @kind47 (And.intro @cv47_9 (And.intro @cv9_47 (And.intro @kind49 (And.intro @kind5 (And.intro @cv5_3 (And.intro @cv75_5 (And.intro @cv81_5 (And.intro @cv3_5 (And.intro @kind9 (And.intro @sl21 (And.intro @sl47 (And.intro @ms47 (And.intro @br47 (And.intro @ap47_9 (And.intro @ap47_47 (And.intro @sl49 (And.intro @ms49 (And.intro @br49 (And.intro @ap49_49 (And.intro @sl5 (And.intro @sl9 (And.intro @sx9 (And.intro @str21 (And.intro @str47 (And.intro @str49 (And.intro @str5 (And.intro @str9 (And.intro @sz21 (And.intro @st21 (And.intro @sz5 (And.intro @st5 (And.intro @zero21 (@zero5))))))))))))))))))))))))))))))))))))))))))))))))))))))))))))))))
def en25 := And.intro @ent25 (And.intro @res25 (And.intro @rk25 (And.intro @ow25 (And.intro @kp25_0 (And.intro @kp25_1 (And.intro @kp25_2 (And.intro @kp25_3 (And.intro @kp25_4 (And.intro @kp25_5 (And.intro @kp25_6 (And.intro @kp25_7 (And.intro @kp25_8 (And.intro @kp25_9 (And.intro @kp25_10 (And.intro @kp25_11 (And.intro @kp25_12 (And.intro @kp25_13 (And.intro @kp25_14 (And.intro @kp25_15 (And.intro @kp25_16 (And.intro @kp25_17 (And.intro @kp25_18 (And.intro @kp25_19 (And.intro @kp25_20 (And.intro @kp25_21 (And.intro @kp25_22 (And.intro @kp25_23 (And.intro @kp25_24 (And.intro @kp25_25 (And.intro @kp25_26 (And.intro @kp25_27 (And.intro @hd25_4 (And.intro @hd25_9 (And.intro @hd25_17 (And.intro @ent43 (And.intro @ci43 (And.intro @cr43 (And.intro @ak43 (And.intro @ent44 (And.intro @ci44 (And.intro @cr44 (And.intro @ak44 (And.intro @ent45 (And.intro @ci45 (And.intro @cr45 (And.intro @ak45 (And.intro @agg29 (And.intro @agg3 (And.intro @agg47 (And.intro @agg5 (And.intro @agg9 (And.intro @arr29 (And.intro @arr9 (And.intro @kind29 (And.intro @kind3 (And.intro @cv3_68 (And.intro @cv81_3 (And.intro @cv5_3 (And.intro @cv3_81 (And.intro @cv3_5 (And.intro @kind47 (And.intro @cv47_9 (And.intro @cv9_47 (And.intro @kind5 (And.intro @cv5_21 (And.intro @cv75_5 (And.intro @cv81_5 (And.intro @cv21_5 (And.intro @kind9 (And.intro @sl29 (And.intro @ms29 (And.intro @br29 (And.intro @ap29_29 (And.intro @sl3 (And.intro @sl47 (And.intro @ms47 (And.intro @br47 (And.intro @ap47_9 (And.intro @ap47_47 (And.intro @sl5 (And.intro @sl9 (And.intro @sx9 (And.intro @str29 (And.intro @str3 (And.intro @str47 (And.intro @str5 (And.intro @str9 (And.intro @sz3 (And.intro @st3 (And.intro @sz5 (And.intro @st5 (And.intro @zero3 (@zero5)))))))))))))))))))))))))))))))))))))))))))))))))))))))))))))))))))))))))))))))))))))))))))))
def en26 := And.intro @ent26 (And.intro @res26 (And.intro @rk26 (And.intro @ow26 (And.intro @kp26_0 (And.intro @kp26_1 (And.intro @kp26_2 (And.intro @kp26_3 (And.intro @kp26_4 (And.intro @kp26_5 (And.intro @kp26_6 (And.intro @kp26_7 (And.intro @kp26_8 (And.intro @hd26_4 (And.intro @agg9 (And.intro @arr9 (And.intro @kind9 (And.intro @cv47_9 (And.intro @cv9_47 (And.intro @sl9 (And.intro @sx9 (@str9)))))))))))))))))))))
def en27 := And.intro @ent27 (And.intro @res27 (And.intro @rk27 (And.intro @ow27 (And.intro @kp27_0 (And.intro @kp27_1 (And.intro @ent46 (And.intro @ci46 (And.intro @cr46 (And.intro @ak46 (And.intro @agg21 (And.intro @agg29 (And.intro @agg3 (And.intro @agg5 (And.intro @agg9 (And.intro @fld31_0 (And.intro @fld31_1 (And.intro @fld31_2 (And.intro @fld31_3 (And.intro @fld31_4 (And.intro @fld31_5 (And.intro @fld31_6 (And.intro @kind29 (And.intro @kind3 (And.intro @cv3_68 (And.intro @cv81_3 (And.intro @cv5_3 (And.intro @cv3_81 (And.intro @cv3_5 (And.intro @sl29 (And.intro @ms29 (And.intro @br29 (And.intro @ap29_29 (And.intro @str29 (And.intro @str9 (And.intro @sx9 (And.intro @cv47_9 (And.intro @cv9_47 (And.intro @sz21 (And.intro @st21 (And.intro @sz29 (And.intro @st29 (And.intro @sz3 (And.intro @st3 (And.intro @sz5 (And.intro @st5 (And.intro @sz9 (And.intro @st9 (@zero3))))))))))))))))))))))))))))))))))))))))))))))))
def en28 := And.intro @ent28 (And.intro @res28 (And.intro @rk28 (And.intro @ow28 (And.intro @kp28_0 (And.intro @kp28_1 (And.intro @kp28_2 (And.intro @kp28_3 (And.intro @kp28_4 (And.intro @kp28_5 (And.intro @kp28_6 (And.intro @kp28_7 (And.intro @kp28_8 (And.intro @kp28_9 (And.intro @kp28_10 (And.intro @kp28_11 (And.intro @kp28_12 (And.intro @kp28_13 (And.intro @kp28_14 (And.intro @kp28_15 (And.intro @kp28_16 (And.intro @kp28_17 (And.intro @kp28_18 (And.intro @kp28_19 (And.intro @kp28_20 (And.intro @kp28_21 (And.intro @kp28_22 (And.intro @kp28_23 (And.intro @hd28_6 (And.intro @fl28_23 (And.intro @dr28_23 (And.intro @ent47 (And.intro @ci47 (And.intro @cr47 (And.intro @ak47 (And.intro @agg21 (And.intro @agg3 (And.intro @agg49 (And.intro @agg5 (And.intro @agg67 (And.intro @agg9 (And.intro @arr67 (And.intro @arr9 (And.intro @arrz67 (And.intro @fld67_0 (And.intro @fld67_1 (And.intro @fld67_2 (And.intro @fld67_3 (And.intro @kind21 (And.intro @cv5_21 (And.intro @cv21_75 (And.intro @cv21_5 (And.intro @kind49 (And.intro @kind5 (And.intro @cv5_3 (And.intro @cv75_5 (And.intro @cv81_5 (And.intro @cv3_5 (And.intro @kind9 (And.intro @cv47_9 (And.intro @cv9_47 (And.intro @pl67 (And.intro @sl21 (And.intro @sl49 (And.intro @ms49 (And.intro @br49 (And.intro @ap49_49 (And.intro @sl5 (And.intro @sl9 (And.intro @sx9 (And.intro @str21 (And.intro @str49 (And.intro @str5 (And.intro @str9 (And.intro @sz21 (And.intro @st21 (And.intro @sz3 (And.intro @st3 (And.intro @sz5 (And.intro @st5 (And.intro @sz67 (And.intro @st67 (And.intro @zero21 (And.intro @zero67 (@bd67))))))))))))))))))))))))))))))))))))))))))))))))))))))))))))))))))))))))))))))))))))
def en29 := And.intro @ent29 (And.intro @res29 (And.intro @rk29 (And.intro @ow29 (And.intro @kp29_0 (And.intro @kp29_1 (And.intro @ent48 (And.intro @ci48 (And.intro @cr48 (And.intro @ak48 (And.intro @ent49 (And.intro @ci49 (And.intro @cr49 (And.intro @ak49 (And.intro @agg47 (And.intro @agg5 (And.intro @agg58 (And.intro @agg9 (And.intro @kind47 (And.intro @cv47_9 (And.intro @cv9_47 (And.intro @kind5 (And.intro @cv5_21 (And.intro @cv5_3 (And.intro @cv75_5 (And.intro @cv81_5 (And.intro @cv21_5 (And.intro @cv3_5 (And.intro @kind58 (And.intro @kind9 (And.intro @sl47 (And.intro @ms47 (And.intro @br47 (And.intro @ap47_9 (And.intro @ap47_47 (And.intro @sl58 (And.intro @sl9 (And.intro @sx9 (And.intro @str47 (And.intro @str58 (And.intro @str9 (And.intro @sz5 (And.intro @st5 (@zero5)))))))))))))))))))))))))))))))))))))))))))
def en36 := And.intro @ent36 (And.intro @res36 (And.intro @rk36 (And.intro @ow36 (And.intro @kp36_0 (And.intro @kp36_1 (And.intro @kp36_2 (And.intro @kp36_3 (And.intro @ent54 (And.intro @ci54 (And.intro @cr54 (And.intro @ak54 (And.intro @agg21 (And.intro @agg47 (And.intro @agg5 (And.intro @agg75 (And.intro @kind21 (And.intro @cv5_21 (And.intro @cv21_75 (And.intro @cv21_5 (And.intro @kind47 (And.intro @cv47_9 (And.intro @cv9_47 (And.intro @kind5 (And.intro @cv5_3 (And.intro @cv75_5 (And.intro @cv81_5 (And.intro @cv3_5 (And.intro @kind75 (And.intro @cv68_75 (And.intro @cv81_75 (And.intro @sl21 (And.intro @sl47 (And.intro @ms47 (And.intro @br47 (And.intro @ap47_9 (And.intro @ap47_47 (And.intro @sl5 (And.intro @sl75 (And.intro @str21 (And.intro @str47 (And.intro @str5 (And.intro @str75 (And.intro @sz5 (And.intro @st5 (@zero5)))))))))))))))))))))))))))))))))))))))))))))
def en37 := And.intro @ent37 (And.intro @res37 (And.intro @rk37 (And.intro @ow37 (And.intro @kp37_0 (@kp37_1)))))
def en38 := And.intro @ent38 (And.intro @res38 (And.intro @rk38 (And.intro @ow38 (And.intro @kp38_0 (And.intro @kp38_1 (And.intro @ent55 (And.intro @ci55 (And.intro @cr55 (And.intro @ak55 (And.intro @agg77 (And.intro @agg9 (And.intro @kind77 (And.intro @kind9 (And.intro @cv47_9 (And.intro @cv9_47 (And.intro @sl77 (And.intro @sl9 (And.intro @sx9 (And.intro @str77 (@str9))))))))))))))))))))
def en39 := And.intro @ent39 (And.intro @res39 (And.intro @rk39 (And.intro @ow39 (And.intro @kp39_0 (And.intro @kp39_1 (And.intro @ent57 (And.intro @ci57 (And.intro @cr57 (And.intro @ak57 (And.intro @agg29 (And.intro @agg3 (And.intro @agg61 (And.intro @kind29 (And.intro @kind3 (And.intro @cv3_68 (And.intro @cv81_3 (And.intro @cv5_3 (And.intro @cv3_81 (And.intro @cv3_5 (And.intro @kind61 (And.intro @sl29 (And.intro @ms29 (And.intro @br29 (And.intro @ap29_29 (And.intro @sl61 (And.intro @str29 (And.intro @str61 (And.intro @sz3 (And.intro @st3 (@zero3))))))))))))))))))))))))))))))
def en40 := And.intro @ent40 (And.intro @res40 (And.intro @rk40 (And.intro @ow40 (And.intro @kp40_0 (@kp40_1)))))
def en41 := And.intro @ent41 (And.intro @res41 (And.intro @rk41 (And.intro @ow41 (And.intro @kp41_0 (And.intro @kp41_1 (And.intro @ent39 (And.intro @ci39 (And.intro @cr39 (And.intro @ak39 (And.intro @agg29 (And.intro @agg3 (And.intro @agg61 (And.intro @agg9 (And.intro @kind29 (And.intro @kind3 (And.intro @cv3_68 (And.intro @cv81_3 (And.intro @cv5_3 (And.intro @cv3_81 (And.intro @cv3_5 (And.intro @kind61 (And.intro @kind9 (And.intro @cv47_9 (And.intro @cv9_47 (And.intro @sl29 (And.intro @ms29 (And.intro @br29 (And.intro @ap29_29 (And.intro @sl61 (And.intro @sl9 (And.intro @sx9 (And.intro @str29 (And.intro @str61 (And.intro @str9 (And.intro @sz3 (And.intro @st3 (@zero3)))))))))))))))))))))))))))))))))))))
def en43 := And.intro @ent43 (And.intro @res43 (And.intro @rk43 (And.intro @ow43 (And.intro @kp43_0 (@kp43_1)))))
def en44 := And.intro @ent44 (And.intro @res44 (And.intro @rk44 (And.intro @ow44 (And.intro @kp44_0 (@kp44_1)))))
def en45 := And.intro @ent45 (And.intro @res45 (And.intro @rk45 (And.intro @ow45 (And.intro @kp45_0 (And.intro @kp45_1 (And.intro @kp45_2 (And.intro @kp45_3 (And.intro @kp45_4 (And.intro @kp45_5 (And.intro @hd45_2 (And.intro @agg3 (And.intro @agg47 (And.intro @agg5 (And.intro @agg9 (And.intro @kind3 (And.intro @cv3_68 (And.intro @cv81_3 (And.intro @cv5_3 (And.intro @cv3_81 (And.intro @cv3_5 (And.intro @kind47 (And.intro @cv47_9 (And.intro @cv9_47 (And.intro @kind5 (And.intro @cv5_21 (And.intro @cv75_5 (And.intro @cv81_5 (And.intro @cv21_5 (And.intro @kind9 (And.intro @sl3 (And.intro @sl47 (And.intro @ms47 (And.intro @br47 (And.intro @ap47_9 (And.intro @ap47_47 (And.intro @sl5 (And.intro @sl9 (And.intro @sx9 (And.intro @str3 (And.intro @str47 (And.intro @str5 (And.intro @str9 (And.intro @sz5 (And.intro @st5 (@zero5)))))))))))))))))))))))))))))))))))))))))))))
def en46 := And.intro @ent46 (And.intro @res46 (And.intro @rk46 (And.intro @ow46 (And.intro @kp46_0 (And.intro @kp46_1 (And.intro @kp46_2 (And.intro @kp46_3 (And.intro @kp46_4 (And.intro @kp46_5 (And.intro @kp46_6 (And.intro @kp46_7 (And.intro @kp46_8 (And.intro @hd46_4 (And.intro @fl46_6 (And.intro @dr46_6 (And.intro @agg29 (And.intro @agg3 (And.intro @arr29 (And.intro @kind29 (And.intro @kind3 (And.intro @cv3_68 (And.intro @cv81_3 (And.intro @cv5_3 (And.intro @cv3_81 (And.intro @cv3_5 (And.intro @sl29 (And.intro @ms29 (And.intro @br29 (And.intro @ap29_29 (And.intro @str29 (And.intro @sz3 (And.intro @st3 (@zero3)))))))))))))))))))))))))))))))))
def en48 := And.intro @ent48 (And.intro @res48 (And.intro @rk48 (And.intro @ow48 (And.intro @kp48_0 (And.intro @kp48_1 (And.intro @ent60 (And.intro @ci60 (And.intro @cr60 (And.intro @ak60 (And.intro @agg47 (And.intro @agg5 (And.intro @agg58 (And.intro @kind47 (And.intro @cv47_9 (And.intro @cv9_47 (And.intro @kind5 (And.intro @cv5_21 (And.intro @cv5_3 (And.intro @cv75_5 (And.intro @cv81_5 (And.intro @cv21_5 (And.intro @cv3_5 (And.intro @kind58 (And.intro @sl47 (And.intro @ms47 (And.intro @br47 (And.intro @ap47_9 (And.intro @ap47_47 (And.intro @sl58 (And.intro @str47 (And.intro @str58 (And.intro @sz5 (And.intro @st5 (@zero5))))))))))))))))))))))))))))))))))
def en49 := And.intro @ent49 (And.intro @res49 (And.intro @rk49 (And.intro @ow49 (And.intro @kp49_0 (And.intro @kp49_1 (And.intro @agg5 (And.intro @sz5 (@st5))))))))
def en54 := And.intro @ent54 (And.intro @res54 (And.intro @rk54 (And.intro @ow54 (And.intro @kp54_0 (And.intro @kp54_1 (And.intro @kp54_2 (And.intro @kp54_3 (And.intro @kp54_4 (And.intro @kp54_5 (And.intro @kp54_6 (And.intro @kp54_7 (And.intro @kp54_8 (And.intro @kp54_9 (And.intro @agg21 (And.intro @agg47 (And.intro @agg5 (And.intro @agg75 (And.intro @kind21 (And.intro @cv5_21 (And.intro @cv21_75 (And.intro @cv21_5 (And.intro @kind47 (And.intro @cv47_9 (And.intro @cv9_47 (And.intro @kind5 (And.intro @cv5_3 (And.intro @cv75_5 (And.intro @cv81_5 (And.intro @cv3_5 (And.intro @kind75 (And.intro @cv68_75 (And.intro @cv81_75 (And.intro @sl21 (And.intro @sl47 (And.intro @ms47 (And.intro @br47 (And.intro @ap47_9 (And.intro @ap47_47 (And.intro @sl5 (And.intro @sl75 (And.intro @str21 (And.intro @str47 (And.intro @str5 (And.intro @str75 (And.intro @sz5 (And.intro @st5 (@zero5)))))))))))))))))))))))))))))))))))))))))))))))
def en55 := And.intro @ent55 (And.intro @res55 (And.intro @rk55 (And.intro @ow55 (And.intro @kp55_0 (And.intro @kp55_1 (And.intro @ent62 (And.intro @ci62 (And.intro @cr62 (And.intro @ak62 (And.intro @agg77 (And.intro @agg9 (And.intro @kind77 (And.intro @kind9 (And.intro @cv47_9 (And.intro @cv9_47 (And.intro @sl77 (And.intro @sl9 (And.intro @sx9 (And.intro @str77 (@str9))))))))))))))))))))
def en56 := And.intro @ent56 (And.intro @res56 (And.intro @rk56 (And.intro @ow56 (And.intro @kp56_0 (@kp56_1)))))
def en57 := And.intro @ent57 (And.intro @res57 (And.intro @rk57 (And.intro @ow57 (And.intro @kp57_0 (And.intro @kp57_1 (And.intro @kp57_2 (And.intro @kp57_3 (And.intro @kp57_4 (And.intro @kp57_5 (And.intro @kp57_6 (And.intro @kp57_7 (And.intro @hd57_2 (And.intro @agg29 (And.intro @agg3 (And.intro @arr29 (And.intro @kind29 (And.intro @kind3 (And.intro @cv3_68 (And.intro @cv81_3 (And.intro @cv5_3 (And.intro @cv3_81 (And.intro @cv3_5 (And.intro @sl29 (And.intro @ms29 (And.intro @br29 (And.intro @ap29_29 (And.intro @sl3 (And.intro @str29 (And.intro @str3 (And.intro @sz3 (And.intro @st3 (@zero3))))))))))))))))))))))))))))))))
def en58 := And.intro @ent58 (And.intro @res58 (And.intro @rk58 (And.intro @ow58 (And.intro @kp58_0 (@kp58_1)))))
def en60 := And.intro @ent60 (And.intro @res60 (And.intro @rk60 (And.intro @ow60 (And.intro @kp60_0 (And.intro @kp60_1 (And.intro @kp60_2 (And.intro @kp60_3 (And.intro @kp60_4 (And.intro @kp60_5 (And.intro @kp60_6 (And.intro @kp60_7 (And.intro @hd60_2 (And.intro @agg47 (And.intro @agg5 (And.intro @arr47 (And.intro @kind47 (And.intro @cv47_9 (And.intro @cv9_47 (And.intro @kind5 (And.intro @cv5_21 (And.intro @cv5_3 (And.intro @cv75_5 (And.intro @cv81_5 (And.intro @cv21_5 (And.intro @cv3_5 (And.intro @sl47 (And.intro @ms47 (And.intro @br47 (And.intro @ap47_9 (And.intro @ap47_47 (And.intro @sl5 (And.intro @str47 (And.intro @str5 (And.intro @sz5 (And.intro @st5 (@zero5))))))))))))))))))))))))))))))))))))
def en62 := And.intro @ent62 (And.intro @res62 (And.intro @rk62 (And.intro @ow62 (And.intro @kp62_0 (And.intro @kp62_1 (And.intro @ent64 (And.intro @ci64 (And.intro @cr64 (And.intro @ak64 (And.intro @agg4 (And.intro @agg77 (And.intro @agg9 (And.intro @kind4 (And.intro @kind77 (And.intro @kind9 (And.intro @cv47_9 (And.intro @cv9_47 (And.intro @sl4 (And.intro @sl77 (And.intro @sl9 (And.intro @sx9 (And.intro @str4 (And.intro @str77 (@str9))))))))))))))))))))))))
def en64 := And.intro @ent64 (And.intro @res64 (And.intro @rk64 (And.intro @ow64 (And.intro @kp64_0 (And.intro @kp64_1 (And.intro @kp64_2 (And.intro @kp64_3 (And.intro @kp64_4 (And.intro @kp64_5 (And.intro @kp64_6 (And.intro @hd64_2 (And.intro @agg21 (And.intro @kind21 (And.intro @cv5_21 (And.intro @cv21_75 (And.intro @cv21_5 (And.intro @sl21 (And.intro @str21 (And.intro @str9 (And.intro @sx9 (And.intro @cv47_9 (And.intro @cv9_47 (@und4)))))))))))))))))))))))
def ca40 := And.intro @ent40 (And.intro @ci40 (And.intro @cr40 (@ak40)))
def ca49 := And.intro @ent49 (And.intro @ci49 (And.intro @cr49 (@ak49)))
def ca56 := And.intro @ent56 (And.intro @ci56 (And.intro @cr56 (@ak56)))
def ca58 := And.intro @ent58 (And.intro @ci58 (And.intro @cr58 (@ak58)))
def tyaa := And.intro @agg2 (And.intro @agg21 (And.intro @agg23 (And.intro @agg26 (And.intro @agg29 (And.intro @agg3 (And.intro @agg31 (And.intro @agg4 (And.intro @agg42 (And.intro @agg44 (And.intro @agg47 (And.intro @agg49 (And.intro @agg5 (And.intro @agg58 (And.intro @agg61 (And.intro @agg67 (And.intro @agg68 (And.intro @agg75 (And.intro @agg77 (And.intro @agg81 (And.intro @agg84 (And.intro @agg9 (And.intro @agg91 (And.intro @agg92 (@agg95))))))))))))))))))))))))
def tyab := And.intro @agg96 (And.intro @arr23 (And.intro @arr26 (And.intro @arr29 (And.intro @arr31 (And.intro @arr44 (And.intro @arr47 (And.intro @arr49 (And.intro @arr67 (And.intro @arr9 (And.intro @arr91 (And.intro @arr92 (And.intro @arr95 (And.intro @arr96 (And.intro @arrz23 (And.intro @arrz31 (And.intro @arrz44 (And.intro @arrz67 (And.intro @arrz84 (And.intro @arrz91 (And.intro @arrz92 (And.intro @arrz95 (And.intro @arrz96 (And.intro @eqg23 (@fld23_0))))))))))))))))))))))))
def tyac := And.intro @fld23_1 (And.intro @fld23_2 (And.intro @fld31_0 (And.intro @fld31_1 (And.intro @fld31_2 (And.intro @fld31_3 (And.intro @fld31_4 (And.intro @fld31_5 (And.intro @fld31_6 (And.intro @fld44_0 (And.intro @fld44_1 (And.intro @fld67_0 (And.intro @fld67_1 (And.intro @fld67_2 (And.intro @fld67_3 (And.intro @kind2 (And.intro @cv2_81 (And.intro @kind21 (And.intro @cv5_21 (And.intro @cv21_75 (And.intro @cv21_5 (And.intro @kind23 (And.intro @kind26 (And.intro @kind29 (@kind3))))))))))))))))))))))))
def tyad := And.intro @cv3_68 (And.intro @cv81_3 (And.intro @cv5_3 (And.intro @cv3_81 (And.intro @cv3_5 (And.intro @kind31 (And.intro @kind4 (And.intro @kind42 (And.intro @kind47 (And.intro @cv47_9 (And.intro @cv9_47 (And.intro @kind49 (And.intro @kind5 (And.intro @cv75_5 (And.intro @cv81_5 (And.intro @kind58 (And.intro @kind61 (And.intro @kind68 (And.intro @cv68_75 (And.intro @kind75 (And.intro @cv81_75 (And.intro @kind77 (And.intro @kind81 (And.intro @kind84 (@kind9))))))))))))))))))))))))
def tyae := And.intro @kind91 (And.intro @kind92 (And.intro @kind95 (And.intro @kind96 (And.intro @lv23 (And.intro @pl23 (And.intro @pl31 (And.intro @pl44 (And.intro @pl67 (And.intro @sl2 (And.intro @sl21 (And.intro @sl23 (@sl26))))))))))))
def tyaf := And.intro @ms26 (And.intro @br26 (And.intro @ap26_26 (And.intro @sl29 (And.intro @ms29 (And.intro @br29 (And.intro @ap29_29 (And.intro @sl3 (And.intro @sl31 (@sl4)))))))))
def tyag := And.intro @sl42 (And.intro @sl47 (And.intro @ms47 (And.intro @br47 (And.intro @ap47_9 (And.intro @ap47_47 (And.intro @sl49 (And.intro @ms49 (And.intro @br49 (And.intro @ap49_49 (And.intro @sl5 (@sl58)))))))))))
def tyah := And.intro @sl61 (And.intro @sl68 (And.intro @sl75 (And.intro @sl77 (@sl81))))
def tyai := And.intro @sl84 (And.intro @sl9 (And.intro @sx9 (And.intro @sl91 (And.intro @sl92 (@sl95)))))
def tyaj := And.intro @sl96 (And.intro @str2 (And.intro @str21 (And.intro @str23 (And.intro @str26 (And.intro @str29 (And.intro @str3 (And.intro @str31 (And.intro @str4 (And.intro @str42 (And.intro @str47 (And.intro @str49 (And.intro @str5 (And.intro @str58 (And.intro @str61 (And.intro @str68 (@str75))))))))))))))))
def tyak := And.intro @str77 (And.intro @str81 (And.intro @str84 (And.intro @str9 (And.intro @str91 (And.intro @str92 (And.intro @str95 (And.intro @str96 (And.intro @sz21 (And.intro @st21 (And.intro @sz23 (And.intro @st23 (And.intro @sz26 (And.intro @st26 (And.intro @sz29 (And.intro @st29 (And.intro @sz3 (And.intro @st3 (And.intro @sz31 (And.intro @st31 (And.intro @sz44 (And.intro @st44 (And.intro @sz5 (And.intro @st5 (@sz67))))))))))))))))))))))))
def tyal := And.intro @st67 (And.intro @sz81 (And.intro @st81 (And.intro @sz84 (And.intro @st84 (And.intro @sz9 (And.intro @st9 (And.intro @sz91 (And.intro @st91 (And.intro @sz92 (And.intro @st92 (And.intro @sz95 (And.intro @st95 (And.intro @sz96 (And.intro @st96 (And.intro @und4 (And.intro @zero21 (And.intro @zero23 (And.intro @bd23 (And.intro @zero29 (And.intro @zero3 (@zero31)))))))))))))))))))))
def tyam := And.intro @bd31 (And.intro @zero44 (And.intro @bd44 (And.intro @zero5 (And.intro @zero67 (And.intro @bd67 (And.intro @zero84 (And.intro @bd84 (And.intro @zero91 (And.intro @bd91 (And.intro @zero92 (And.intro @bd92 (And.intro @zero95 (And.intro @bd95 (And.intro @zero96 (@bd96)))))))))))))))
end Go.VI

namespace Go.VI
open Go.Proofs
set_option maxRecDepth 100000
set_option linter.unusedSimpArgs false
set_option linter.unusedVariables false
set_option maxHeartbeats 4000000
def rows64 (l : List Int) : List (List IV) := l.map fun n => [.v (.int .i64 n)]
theorem rows64_len (l : List Int) : (rows64 l).length = l.length := by simp [rows64]
theorem rows64_at {l : List Int} {k : Nat} (h : k < l.length) : (rows64 l)[k]? = some [.v (.int .i64 l[k])] := by simp [rows64, h]
def ixF {α : Type} (P : α → Bool) : List α → Nat → Option Nat
  | [], _ => none
  | a :: l, k => if P a then some k else ixF P l (k + 1)
def ixN : Option Nat → Int
  | some n => n
  | none => -1
theorem ixF_any {α : Type} (P : α → Bool) : ∀ (l : List α) (k : Nat), (0 ≤ ixN (ixF P l k)) = (l.any P = true)
  | [], k => by simp [ixF, ixN]
  | a :: l, k => by
    have ih := ixF_any P l (k + 1)
    simp only [ixF, List.any_cons]
    by_cases h : P a = true
    · simp [h, ixN]
    · simp only [h, Bool.false_eq_true, if_false, Bool.false_or]
      rw [ih]
theorem ixF_dec {α : Type} (P : α → Bool) (l : List α) (k : Nat) : decide (0 ≤ ixN (ixF P l k)) = l.any P := by
  have h := ixF_any P l k
  cases hb : l.any P with
  | true => rw [hb] at h; exact decide_eq_true (h.mpr rfl)
  | false => rw [hb] at h; exact decide_eq_false (fun hc => by have := h.mp hc; cases this)
def over9999 (n : Int) : Bool := decide (9999 < n)
theorem c58 (n : Int) : ∃ L, callT E 58 [.i (.v (.int .i64 n))] [] = some (.i (.v (.bool (over9999 n))), L) := by
  rw [callT_eq Tryd.func58 rfl fok58 (by simp [Tryd.ntmps58])]
  simp (disch := first | omega | (simp only [List.length_append, List.length_map, List.length_set, List.length_cons, List.length_nil, List.length_take, List.length_drop]; omega)) only [va0, va1, va2, va3, va4, va5, va6, va7, va8, va9, va10, va11, va12, va13, va14, vb0, vb1, vb2, vb3, w_i8, w_u8, w_i16, w_u16, w_i32, w_u32, w_i64, w_u64, lt_T, lt_F, le_T, le_F, nlt_T, nlt_F, nle_T, nle_F, List.take_of_length_le, gB, gcW, gcR, posIn, renA, renL, Chunk.ren, Chunk.refs, evOpD, touchD, stepC, isFresh, nFresh, freshOf, mkR, hole, evL, evH, opd, get, putD, ofVal, cellOf, loadE, behind, lenE, idxAddrE, idxE, addPtr, intE, strE, unE, convE, AV.int, AV.bool, AV.str, ivs, take, frameOf, firstRegion, refsA, refsL, one, cellsA, floatOk, apartT, List.map, if_true, if_false, E_P, E_glob0, reduceCtorEq, beq_self_eq_true, decide_true, decide_false, ↓reduceIte, Nat.reduceEqDiff, cond_true, cond_false, or_true, true_or, or_false, false_or, and_true, true_and, and_self, false_and, and_false, not_true, not_false_iff, Nat.reduceAdd, Nat.reduceSub, Nat.reduceMul, Nat.reduceLT, Nat.reduceLeDiff, Int.reduceToNat, Int.reduceLT, Int.reduceLE, Option.getD, Int.reduceMul, Int.reduceAdd, List.drop, List.take, Nat.reduceBEq, List.isEmpty, Int.reduceEq, Int.reduceNe, Int.reduceNeg, Int.reduceGT, Int.reduceGE, beq_true, beq_false, UInt8.reduceToNat, eqE, eq_self, foldE, maxE, minE, eq_T, eq_F, ndec, odec, adec, sdec, fillA, over, chop, List.replicate, leavesOk, leafOk, cellsEq, cellEq, E_byref, en58, over9999]
  exact ⟨_, rfl⟩
theorem ik58 (n : Int) (H : Hp) : isoK E (callT E) 58 [.i (.v (.int .i64 n))] H = some (.i (.v (.bool (over9999 n))), H) := isoK_val rfl rfl rfl (c58 n)
theorem l57 (l : List Int) (hl : l.length < 100000) (k : Nat) (hk : k ≤ l.length) : rl E 0 57 (loopAt Tryd.f57 0) [(0, .i (.sl 1 (rows64 l) false)), (1, .clo (.func 58) [] []), (7, .i (.v (.int .i64 l.length))), (8, .i (.v (.int .i64 k)))] [] = 
    match ixF over9999 (l.drop k) k with 
    | some i => some (.ret, [(4, .i (.v (.int .i64 i)))], []) 
    | none => some (.exit 0, [(0, .i (.sl 1 (rows64 l) false)), (1, .clo (.func 58) [] []), (7, .i (.v (.int .i64 l.length))), (8, .i (.v (.int .i64 l.length))), (9, .i (.v (.bool false)))], []) := by 
  rw [rl_step (fn := Tryd.f57) (k := 0) rfl] 
  by_cases hlt : k < l.length 
  · have hrow := rows64_at hlt 
    have ih := l57 l hl (k + 1) hlt 
    rw [List.drop_eq_getElem_cons hlt, ixF] 
    generalize l[k] = a at * 
    by_cases hp : over9999 a = true 
    · rw [if_pos hp] 
      clear ih 
      simp (disch := first | omega | (simp only [List.length_append, List.length_map, List.length_set, List.length_cons, List.length_nil, List.length_take, List.length_drop, rows64_len]; omega)) only [va0, va1, va2, va3, va4, va5, va6, va7, va8, va9, va10, va11, va12, va13, va14, vb0, vb1, vb2, vb3, w_i8, w_u8, w_i16, w_u16, w_i32, w_u32, w_i64, w_u64, lt_T, lt_F, le_T, le_F, nlt_T, nlt_F, nle_T, nle_F, List.take_of_length_le, gB, gcW, gcR, posIn, renA, renL, Chunk.ren, Chunk.refs, evOpD, touchD, stepC, isFresh, nFresh, freshOf, mkR, hole, evL, evH, opd, get, putD, ofVal, cellOf, loadE, behind, lenE, idxAddrE, idxE, addPtr, intE, strE, unE, convE, AV.int, AV.bool, AV.str, ivs, take, frameOf, firstRegion, refsA, refsL, one, cellsA, floatOk, apartT, List.map, if_true, if_false, E_P, E_glob0, reduceCtorEq, beq_self_eq_true, decide_true, decide_false, ↓reduceIte, Nat.reduceEqDiff, cond_true, cond_false, or_true, true_or, or_false, false_or, and_true, true_and, and_self, false_and, and_false, not_true, not_false_iff, Nat.reduceAdd, Nat.reduceSub, Nat.reduceMul, Nat.reduceLT, Nat.reduceLeDiff, Int.reduceToNat, Int.reduceLT, Int.reduceLE, Option.getD, Int.reduceMul, Int.reduceAdd, List.drop, List.take, Nat.reduceBEq, List.isEmpty, Int.reduceEq, Int.reduceNe, Int.reduceNeg, Int.reduceGT, Int.reduceGE, beq_true, beq_false, UInt8.reduceToNat, eqE, eq_self, foldE, maxE, minE, eq_T, eq_F, ndec, odec, adec, sdec, fillA, over, chop, List.replicate, leavesOk, leafOk, cellsEq, cellEq, E_byref, en57, bs29, hrow, rows64_len, ik58, hp, show ∀ B fr H, execT E B 57 (Code.loop _) fr H = rlG E B 57 (loopAt Tryd.f57 0) (gcn B (norm [0, 1, 7, 8] fr) H) from fun B fr H => rl_intro rfl mt57_2 mb57_2 zf57_2 hd57_2 fr H, ca58] 
    · rw [if_neg hp, ← ih] 
      clear ih 
      rw [Bool.not_eq_true] at hp 
      simp (disch := first | omega | (simp only [List.length_append, List.length_map, List.length_set, List.length_cons, List.length_nil, List.length_take, List.length_drop, rows64_len]; omega)) only [va0, va1, va2, va3, va4, va5, va6, va7, va8, va9, va10, va11, va12, va13, va14, vb0, vb1, vb2, vb3, w_i8, w_u8, w_i16, w_u16, w_i32, w_u32, w_i64, w_u64, lt_T, lt_F, le_T, le_F, nlt_T, nlt_F, nle_T, nle_F, List.take_of_length_le, gB, gcW, gcR, posIn, renA, renL, Chunk.ren, Chunk.refs, evOpD, touchD, stepC, isFresh, nFresh, freshOf, mkR, hole, evL, evH, opd, get, putD, ofVal, cellOf, loadE, behind, lenE, idxAddrE, idxE, addPtr, intE, strE, unE, convE, AV.int, AV.bool, AV.str, ivs, take, frameOf, firstRegion, refsA, refsL, one, cellsA, floatOk, apartT, List.map, if_true, if_false, E_P, E_glob0, reduceCtorEq, beq_self_eq_true, decide_true, decide_false, ↓reduceIte, Nat.reduceEqDiff, cond_true, cond_false, or_true, true_or, or_false, false_or, and_true, true_and, and_self, false_and, and_false, not_true, not_false_iff, Nat.reduceAdd, Nat.reduceSub, Nat.reduceMul, Nat.reduceLT, Nat.reduceLeDiff, Int.reduceToNat, Int.reduceLT, Int.reduceLE, Option.getD, Int.reduceMul, Int.reduceAdd, List.drop, List.take, Nat.reduceBEq, List.isEmpty, Int.reduceEq, Int.reduceNe, Int.reduceNeg, Int.reduceGT, Int.reduceGE, beq_true, beq_false, UInt8.reduceToNat, eqE, eq_self, foldE, maxE, minE, eq_T, eq_F, ndec, odec, adec, sdec, fillA, over, chop, List.replicate, leavesOk, leafOk, cellsEq, cellEq, E_byref, en57, bs29, hrow, rows64_len, ik58, hp, show ∀ B fr H, execT E B 57 (Code.loop _) fr H = rlG E B 57 (loopAt Tryd.f57 0) (gcn B (norm [0, 1, 7, 8] fr) H) from fun B fr H => rl_intro rfl mt57_2 mb57_2 zf57_2 hd57_2 fr H, ca58] 
  · obtain rfl : k = l.length := by omega 
    rw [List.drop_length, ixF] 
    simp (disch := first | omega | (simp only [List.length_append, List.length_map, List.length_set, List.length_cons, List.length_nil, List.length_take, List.length_drop]; omega)) only [va0, va1, va2, va3, va4, va5, va6, va7, va8, va9, va10, va11, va12, va13, va14, vb0, vb1, vb2, vb3, w_i8, w_u8, w_i16, w_u16, w_i32, w_u32, w_i64, w_u64, lt_T, lt_F, le_T, le_F, nlt_T, nlt_F, nle_T, nle_F, List.take_of_length_le, gB, gcW, gcR, posIn, renA, renL, Chunk.ren, Chunk.refs, evOpD, touchD, stepC, isFresh, nFresh, freshOf, mkR, hole, evL, evH, opd, get, putD, ofVal, cellOf, loadE, behind, lenE, idxAddrE, idxE, addPtr, intE, strE, unE, convE, AV.int, AV.bool, AV.str, ivs, take, frameOf, firstRegion, refsA, refsL, one, cellsA, floatOk, apartT, List.map, if_true, if_false, E_P, E_glob0, reduceCtorEq, beq_self_eq_true, decide_true, decide_false, ↓reduceIte, Nat.reduceEqDiff, cond_true, cond_false, or_true, true_or, or_false, false_or, and_true, true_and, and_self, false_and, and_false, not_true, not_false_iff, Nat.reduceAdd, Nat.reduceSub, Nat.reduceMul, Nat.reduceLT, Nat.reduceLeDiff, Int.reduceToNat, Int.reduceLT, Int.reduceLE, Option.getD, Int.reduceMul, Int.reduceAdd, List.drop, List.take, Nat.reduceBEq, List.isEmpty, Int.reduceEq, Int.reduceNe, Int.reduceNeg, Int.reduceGT, Int.reduceGE, beq_true, beq_false, UInt8.reduceToNat, eqE, eq_self, foldE, maxE, minE, eq_T, eq_F, ndec, odec, adec, sdec, fillA, over, chop, List.replicate, leavesOk, leafOk, cellsEq, cellEq, E_byref, en57, bs29] 
termination_by l.length - k
theorem c57 (l : List Int) (hl : (l.length : Int) < 100000) : ∃ L, callT E 57 [.i (.sl 1 (rows64 l) false), .clo (.func 58) [] []] [] = some (.i (.v (.int .i64 (ixN (ixF over9999 l 0)))), L) := by 
  have h : rl E 0 57 (loopAt Tryd.f57 0) [(0, .i (.sl 1 (rows64 l) false)), (1, .clo (.func 58) [] []), (7, .i (.v (.int .i64 l.length))), (8, .i (.v (.int .i64 0)))] [] = _ := l57 l (by omega) 0 (Nat.zero_le _) 
  rw [List.drop_zero] at h 
  rw [callT_eq Tryd.func57 rfl fok57 (by simp [Tryd.ntmps57])] 
  cases hx : ixF over9999 l 0 with 
  | some i => 
    simp only [hx] at h 
    simp (disch := first | omega | (simp only [List.length_append, List.length_map, List.length_set, List.length_cons, List.length_nil, List.length_take, List.length_drop, rows64_len]; omega)) only [va0, va1, va2, va3, va4, va5, va6, va7, va8, va9, va10, va11, va12, va13, va14, vb0, vb1, vb2, vb3, w_i8, w_u8, w_i16, w_u16, w_i32, w_u32, w_i64, w_u64, lt_T, lt_F, le_T, le_F, nlt_T, nlt_F, nle_T, nle_F, List.take_of_length_le, gB, gcW, gcR, posIn, renA, renL, Chunk.ren, Chunk.refs, evOpD, touchD, stepC, isFresh, nFresh, freshOf, mkR, hole, evL, evH, opd, get, putD, ofVal, cellOf, loadE, behind, lenE, idxAddrE, idxE, addPtr, intE, strE, unE, convE, AV.int, AV.bool, AV.str, ivs, take, frameOf, firstRegion, refsA, refsL, one, cellsA, floatOk, apartT, List.map, if_true, if_false, E_P, E_glob0, reduceCtorEq, beq_self_eq_true, decide_true, decide_false, ↓reduceIte, Nat.reduceEqDiff, cond_true, cond_false, or_true, true_or, or_false, false_or, and_true, true_and, and_self, false_and, and_false, not_true, not_false_iff, Nat.reduceAdd, Nat.reduceSub, Nat.reduceMul, Nat.reduceLT, Nat.reduceLeDiff, Int.reduceToNat, Int.reduceLT, Int.reduceLE, Option.getD, Int.reduceMul, Int.reduceAdd, List.drop, List.take, Nat.reduceBEq, List.isEmpty, Int.reduceEq, Int.reduceNe, Int.reduceNeg, Int.reduceGT, Int.reduceGE, beq_true, beq_false, UInt8.reduceToNat, eqE, eq_self, foldE, maxE, minE, eq_T, eq_F, ndec, odec, adec, sdec, fillA, over, chop, List.replicate, leavesOk, leafOk, cellsEq, cellEq, E_byref, en57, bs29, h, rows64_len, show ∀ B fr H, execT E B 57 (Code.loop _) fr H = rlG E B 57 (loopAt Tryd.f57 0) (gcn B (norm [0, 1, 7, 8] fr) H) from fun B fr H => rl_intro rfl mt57_2 mb57_2 zf57_2 hd57_2 fr H, ixN] 
    exact ⟨_, rfl⟩ 
  | none => 
    simp only [hx] at h 
    simp (disch := first | omega | (simp only [List.length_append, List.length_map, List.length_set, List.length_cons, List.length_nil, List.length_take, List.length_drop, rows64_len]; omega)) only [va0, va1, va2, va3, va4, va5, va6, va7, va8, va9, va10, va11, va12, va13, va14, vb0, vb1, vb2, vb3, w_i8, w_u8, w_i16, w_u16, w_i32, w_u32, w_i64, w_u64, lt_T, lt_F, le_T, le_F, nlt_T, nlt_F, nle_T, nle_F, List.take_of_length_le, gB, gcW, gcR, posIn, renA, renL, Chunk.ren, Chunk.refs, evOpD, touchD, stepC, isFresh, nFresh, freshOf, mkR, hole, evL, evH, opd, get, putD, ofVal, cellOf, loadE, behind, lenE, idxAddrE, idxE, addPtr, intE, strE, unE, convE, AV.int, AV.bool, AV.str, ivs, take, frameOf, firstRegion, refsA, refsL, one, cellsA, floatOk, apartT, List.map, if_true, if_false, E_P, E_glob0, reduceCtorEq, beq_self_eq_true, decide_true, decide_false, ↓reduceIte, Nat.reduceEqDiff, cond_true, cond_false, or_true, true_or, or_false, false_or, and_true, true_and, and_self, false_and, and_false, not_true, not_false_iff, Nat.reduceAdd, Nat.reduceSub, Nat.reduceMul, Nat.reduceLT, Nat.reduceLeDiff, Int.reduceToNat, Int.reduceLT, Int.reduceLE, Option.getD, Int.reduceMul, Int.reduceAdd, List.drop, List.take, Nat.reduceBEq, List.isEmpty, Int.reduceEq, Int.reduceNe, Int.reduceNeg, Int.reduceGT, Int.reduceGE, beq_true, beq_false, UInt8.reduceToNat, eqE, eq_self, foldE, maxE, minE, eq_T, eq_F, ndec, odec, adec, sdec, fillA, over, chop, List.replicate, leavesOk, leafOk, cellsEq, cellEq, E_byref, en57, bs29, h, rows64_len, show ∀ B fr H, execT E B 57 (Code.loop _) fr H = rlG E B 57 (loopAt Tryd.f57 0) (gcn B (norm [0, 1, 7, 8] fr) H) from fun B fr H => rl_intro rfl mt57_2 mb57_2 zf57_2 hd57_2 fr H, ixN] 
    exact ⟨_, rfl⟩ 
theorem ik57 (l : List Int) (hl : (l.length : Int) < 100000) (H : Hp) : isoK E (callT E) 57 [.i (.sl 1 (rows64 l) false), .clo (.func 58) [] []] H = some (.i (.v (.int .i64 (ixN (ixF over9999 l 0)))), H) := isoK_val rfl rfl rfl (c57 l hl) 
theorem c39 (l : List Int) (hl : (l.length : Int) < 100000) : ∃ L, callT E 39 [.i (.sl 1 (rows64 l) false), .clo (.func 58) [] []] [] = some (.i (.v (.bool (l.any over9999))), L) := by 
  have hd : decide (0 ≤ ixN (ixF over9999 l 0)) = l.any over9999 := ixF_dec over9999 l 0 
  rw [callT_eq Tryd.func39 rfl fok39 (by simp [Tryd.ntmps39])] 
  simp (disch := first | omega | (simp only [List.length_append, List.length_map, List.length_set, List.length_cons, List.length_nil, List.length_take, List.length_drop]; omega)) only [va0, va1, va2, va3, va4, va5, va6, va7, va8, va9, va10, va11, va12, va13, va14, vb0, vb1, vb2, vb3, w_i8, w_u8, w_i16, w_u16, w_i32, w_u32, w_i64, w_u64, lt_T, lt_F, le_T, le_F, nlt_T, nlt_F, nle_T, nle_F, List.take_of_length_le, gB, gcW, gcR, posIn, renA, renL, Chunk.ren, Chunk.refs, evOpD, touchD, stepC, isFresh, nFresh, freshOf, mkR, hole, evL, evH, opd, get, putD, ofVal, cellOf, loadE, behind, lenE, idxAddrE, idxE, addPtr, intE, strE, unE, convE, AV.int, AV.bool, AV.str, ivs, take, frameOf, firstRegion, refsA, refsL, one, cellsA, floatOk, apartT, List.map, if_true, if_false, E_P, E_glob0, reduceCtorEq, beq_self_eq_true, decide_true, decide_false, ↓reduceIte, Nat.reduceEqDiff, cond_true, cond_false, or_true, true_or, or_false, false_or, and_true, true_and, and_self, false_and, and_false, not_true, not_false_iff, Nat.reduceAdd, Nat.reduceSub, Nat.reduceMul, Nat.reduceLT, Nat.reduceLeDiff, Int.reduceToNat, Int.reduceLT, Int.reduceLE, Option.getD, Int.reduceMul, Int.reduceAdd, List.drop, List.take, Nat.reduceBEq, List.isEmpty, Int.reduceEq, Int.reduceNe, Int.reduceNeg, Int.reduceGT, Int.reduceGE, beq_true, beq_false, UInt8.reduceToNat, eqE, eq_self, foldE, maxE, minE, eq_T, eq_F, ndec, odec, adec, sdec, fillA, over, chop, List.replicate, leavesOk, leafOk, cellsEq, cellEq, E_byref, en39, bs29, ik57, hd] 
  exact ⟨_, rfl⟩ 
theorem ik39 (l : List Int) (hl : (l.length : Int) < 100000) (H : Hp) : isoK E (callT E) 39 [.i (.sl 1 (rows64 l) false), .clo (.func 58) [] []] H = some (.i (.v (.bool (l.any over9999))), H) := isoK_val rfl rfl rfl (c39 l hl)
def badInter (n : Int) : Bool := decide (n < 32) || decide (47 < n)
theorem c56 (n : Int) : ∃ L, callT E 56 [.i (.v (.int .i32 n))] [] = some (.i (.v (.bool (badInter n))), L) := by
  rw [callT_eq Tryd.func56 rfl fok56 (by simp [Tryd.ntmps56])]
  by_cases h1 : n < 32 <;> by_cases h2 : 47 < n <;> simp (disch := first | omega | (simp only [List.length_append, List.length_map, List.length_set, List.length_cons, List.length_nil, List.length_take, List.length_drop]; omega)) only [va0, va1, va2, va3, va4, va5, va6, va7, va8, va9, va10, va11, va12, va13, va14, vb0, vb1, vb2, vb3, w_i8, w_u8, w_i16, w_u16, w_i32, w_u32, w_i64, w_u64, lt_T, lt_F, le_T, le_F, nlt_T, nlt_F, nle_T, nle_F, List.take_of_length_le, gB, gcW, gcR, posIn, renA, renL, Chunk.ren, Chunk.refs, evOpD, touchD, stepC, isFresh, nFresh, freshOf, mkR, hole, evL, evH, opd, get, putD, ofVal, cellOf, loadE, behind, lenE, idxAddrE, idxE, addPtr, intE, strE, unE, convE, AV.int, AV.bool, AV.str, ivs, take, frameOf, firstRegion, refsA, refsL, one, cellsA, floatOk, apartT, List.map, if_true, if_false, E_P, E_glob0, reduceCtorEq, beq_self_eq_true, decide_true, decide_false, ↓reduceIte, Nat.reduceEqDiff, cond_true, cond_false, or_true, true_or, or_false, false_or, and_true, true_and, and_self, false_and, and_false, not_true, not_false_iff, Nat.reduceAdd, Nat.reduceSub, Nat.reduceMul, Nat.reduceLT, Nat.reduceLeDiff, Int.reduceToNat, Int.reduceLT, Int.reduceLE, Option.getD, Int.reduceMul, Int.reduceAdd, List.drop, List.take, Nat.reduceBEq, List.isEmpty, Int.reduceEq, Int.reduceNe, Int.reduceNeg, Int.reduceGT, Int.reduceGE, beq_true, beq_false, UInt8.reduceToNat, eqE, eq_self, foldE, maxE, minE, eq_T, eq_F, ndec, odec, adec, sdec, fillA, over, chop, List.replicate, leavesOk, leafOk, cellsEq, cellEq, E_byref, en56, badInter, h1, h2, decide_eq_true_eq, not_false_eq_true] <;> exact ⟨_, rfl⟩
theorem ik56 (n : Int) (H : Hp) : isoK E (callT E) 56 [.i (.v (.int .i32 n))] H = some (.i (.v (.bool (badInter n))), H) := isoK_val rfl rfl rfl (c56 n)
end Go.VI

namespace Go.VI
open Go.Proofs
set_option maxRecDepth 100000
set_option linter.unusedSimpArgs false
set_option linter.unusedVariables false
set_option maxHeartbeats 4000000
theorem dec_lo (s : List UInt8) (pos : Nat) (h : pos < s.length) (ha : s[pos].toNat < 128) : Utf8.decode ⟨⟨s⟩⟩ pos = (s[pos].toNat, 1) := decode_ascii ⟨⟨s⟩⟩ pos h ha
theorem dec_hi (s : List UInt8) (pos : Nat) (h : pos < s.length) (ha : 128 ≤ s[pos].toNat) : 128 ≤ (Utf8.decode ⟨⟨s⟩⟩ pos).1 := (decode_high ⟨⟨s⟩⟩ pos h ha).1
def badB (b : UInt8) : Bool := decide (b.toNat < 32) || decide (47 < b.toNat)
theorem l64 (s : List UInt8) (hs : s.length < 100000) (k : Nat) (hk : k ≤ s.length) : ∃ p, rl E 0 64 (loopAt Tryd.f64 0) [(1, .clo (.func 56) [] []), (2, .i (.v (.bool true))), (10, .ptr 0 0 0 0)] [.iter s k] =
    match ixF badB (s.drop k) k with
    | some i => some (.ret, [(6, .i (.v (.int .i64 i)))], [.iter s p])
    | none => some (.exit 0, [(1, .clo (.func 56) [] []), (2, .i (.v (.bool true))), (10, .ptr 0 0 0 0), (11, .tup [.i (.v (.bool false))]), (12, .i (.v (.bool false)))], [.iter s s.length]) := by
  rw [rl_step (fn := Tryd.f64) (k := 0) rfl]
  by_cases hlt : k < s.length
  · rw [List.drop_eq_getElem_cons hlt, ixF]
    by_cases ha : s[k].toNat < 128
    · have hd := dec_lo s k hlt ha
      have hbb : badInter s[k].toNat = badB s[k] := by simp only [badInter, badB]; congr 1 <;> rw [decide_eq_decide] <;> omega
      obtain ⟨p, ih⟩ := l64 s hs (k + 1) hlt
      by_cases hp : badB s[k] = true
      · rw [if_pos hp]
        clear ih
        rw [hp] at hbb
        simp (disch := first | omega | (simp only [List.length_append, List.length_map, List.length_set, List.length_cons, List.length_nil, List.length_take, List.length_drop]; omega)) only [va0, va1, va2, va3, va4, va5, va6, va7, va8, va9, va10, va11, va12, va13, va14, vb0, vb1, vb2, vb3, w_i8, w_u8, w_i16, w_u16, w_i32, w_u32, w_i64, w_u64, lt_T, lt_F, le_T, le_F, nlt_T, nlt_F, nle_T, nle_F, List.take_of_length_le, gB, gcW, gcR, posIn, renA, renL, Chunk.ren, Chunk.refs, evOpD, touchD, stepC, isFresh, nFresh, freshOf, mkR, hole, evL, evH, opd, get, putD, ofVal, cellOf, loadE, behind, lenE, idxAddrE, idxE, addPtr, intE, strE, unE, convE, AV.int, AV.bool, AV.str, ivs, take, frameOf, firstRegion, refsA, refsL, one, cellsA, floatOk, apartT, List.map, if_true, if_false, E_P, E_glob0, reduceCtorEq, beq_self_eq_true, decide_true, decide_false, ↓reduceIte, Nat.reduceEqDiff, cond_true, cond_false, or_true, true_or, or_false, false_or, and_true, true_and, and_self, false_and, and_false, not_true, not_false_iff, Nat.reduceAdd, Nat.reduceSub, Nat.reduceMul, Nat.reduceLT, Nat.reduceLeDiff, Int.reduceToNat, Int.reduceLT, Int.reduceLE, Option.getD, Int.reduceMul, Int.reduceAdd, List.drop, List.take, Nat.reduceBEq, List.isEmpty, Int.reduceEq, Int.reduceNe, Int.reduceNeg, Int.reduceGT, Int.reduceGE, beq_true, beq_false, UInt8.reduceToNat, eqE, eq_self, foldE, maxE, minE, eq_T, eq_F, ndec, odec, adec, sdec, fillA, over, chop, List.replicate, leavesOk, leafOk, cellsEq, cellEq, E_byref, en64, hd, ik56, hbb, hlt, show ∀ B fr H, execT E B 64 (Code.loop _) fr H = rlG E B 64 (loopAt Tryd.f64 0) (gcn B (norm [1, 2, 10] fr) H) from fun B fr H => rl_intro rfl mt64_2 mb64_2 zf64_2 hd64_2 fr H, ca56]
        exact ⟨_, rfl⟩
      · rw [if_neg hp]
        refine ⟨p, ?_⟩
        rw [← ih]
        clear ih
        rw [Bool.not_eq_true] at hp
        rw [hp] at hbb
        simp (disch := first | omega | (simp only [List.length_append, List.length_map, List.length_set, List.length_cons, List.length_nil, List.length_take, List.length_drop]; omega)) only [va0, va1, va2, va3, va4, va5, va6, va7, va8, va9, va10, va11, va12, va13, va14, vb0, vb1, vb2, vb3, w_i8, w_u8, w_i16, w_u16, w_i32, w_u32, w_i64, w_u64, lt_T, lt_F, le_T, le_F, nlt_T, nlt_F, nle_T, nle_F, List.take_of_length_le, gB, gcW, gcR, posIn, renA, renL, Chunk.ren, Chunk.refs, evOpD, touchD, stepC, isFresh, nFresh, freshOf, mkR, hole, evL, evH, opd, get, putD, ofVal, cellOf, loadE, behind, lenE, idxAddrE, idxE, addPtr, intE, strE, unE, convE, AV.int, AV.bool, AV.str, ivs, take, frameOf, firstRegion, refsA, refsL, one, cellsA, floatOk, apartT, List.map, if_true, if_false, E_P, E_glob0, reduceCtorEq, beq_self_eq_true, decide_true, decide_false, ↓reduceIte, Nat.reduceEqDiff, cond_true, cond_false, or_true, true_or, or_false, false_or, and_true, true_and, and_self, false_and, and_false, not_true, not_false_iff, Nat.reduceAdd, Nat.reduceSub, Nat.reduceMul, Nat.reduceLT, Nat.reduceLeDiff, Int.reduceToNat, Int.reduceLT, Int.reduceLE, Option.getD, Int.reduceMul, Int.reduceAdd, List.drop, List.take, Nat.reduceBEq, List.isEmpty, Int.reduceEq, Int.reduceNe, Int.reduceNeg, Int.reduceGT, Int.reduceGE, beq_true, beq_false, UInt8.reduceToNat, eqE, eq_self, foldE, maxE, minE, eq_T, eq_F, ndec, odec, adec, sdec, fillA, over, chop, List.replicate, leavesOk, leafOk, cellsEq, cellEq, E_byref, en64, hd, ik56, hbb, hlt, show ∀ B fr H, execT E B 64 (Code.loop _) fr H = rlG E B 64 (loopAt Tryd.f64 0) (gcn B (norm [1, 2, 10] fr) H) from fun B fr H => rl_intro rfl mt64_2 mb64_2 zf64_2 hd64_2 fr H, ca56]
    · have hd := dec_hi s k hlt (by omega)
      have hp : badB s[k] = true := by simp [badB]; omega
      have hbb : badInter (Utf8.decode ⟨⟨s⟩⟩ k).1 = true := by simp [badInter]; omega
      rw [if_pos hp]
      simp (disch := first | omega | (simp only [List.length_append, List.length_map, List.length_set, List.length_cons, List.length_nil, List.length_take, List.length_drop]; omega)) only [va0, va1, va2, va3, va4, va5, va6, va7, va8, va9, va10, va11, va12, va13, va14, vb0, vb1, vb2, vb3, w_i8, w_u8, w_i16, w_u16, w_i32, w_u32, w_i64, w_u64, lt_T, lt_F, le_T, le_F, nlt_T, nlt_F, nle_T, nle_F, List.take_of_length_le, gB, gcW, gcR, posIn, renA, renL, Chunk.ren, Chunk.refs, evOpD, touchD, stepC, isFresh, nFresh, freshOf, mkR, hole, evL, evH, opd, get, putD, ofVal, cellOf, loadE, behind, lenE, idxAddrE, idxE, addPtr, intE, strE, unE, convE, AV.int, AV.bool, AV.str, ivs, take, frameOf, firstRegion, refsA, refsL, one, cellsA, floatOk, apartT, List.map, if_true, if_false, E_P, E_glob0, reduceCtorEq, beq_self_eq_true, decide_true, decide_false, ↓reduceIte, Nat.reduceEqDiff, cond_true, cond_false, or_true, true_or, or_false, false_or, and_true, true_and, and_self, false_and, and_false, not_true, not_false_iff, Nat.reduceAdd, Nat.reduceSub, Nat.reduceMul, Nat.reduceLT, Nat.reduceLeDiff, Int.reduceToNat, Int.reduceLT, Int.reduceLE, Option.getD, Int.reduceMul, Int.reduceAdd, List.drop, List.take, Nat.reduceBEq, List.isEmpty, Int.reduceEq, Int.reduceNe, Int.reduceNeg, Int.reduceGT, Int.reduceGE, beq_true, beq_false, UInt8.reduceToNat, eqE, eq_self, foldE, maxE, minE, eq_T, eq_F, ndec, odec, adec, sdec, fillA, over, chop, List.replicate, leavesOk, leafOk, cellsEq, cellEq, E_byref, en64, ik56, hbb, hlt, show ∀ B fr H, execT E B 64 (Code.loop _) fr H = rlG E B 64 (loopAt Tryd.f64 0) (gcn B (norm [1, 2, 10] fr) H) from fun B fr H => rl_intro rfl mt64_2 mb64_2 zf64_2 hd64_2 fr H, ca56]
      exact ⟨_, rfl⟩
  · obtain rfl : k = s.length := by omega
    rw [List.drop_length, ixF]
    simp (disch := first | omega | (simp only [List.length_append, List.length_map, List.length_set, List.length_cons, List.length_nil, List.length_take, List.length_drop]; omega)) only [va0, va1, va2, va3, va4, va5, va6, va7, va8, va9, va10, va11, va12, va13, va14, vb0, vb1, vb2, vb3, w_i8, w_u8, w_i16, w_u16, w_i32, w_u32, w_i64, w_u64, lt_T, lt_F, le_T, le_F, nlt_T, nlt_F, nle_T, nle_F, List.take_of_length_le, gB, gcW, gcR, posIn, renA, renL, Chunk.ren, Chunk.refs, evOpD, touchD, stepC, isFresh, nFresh, freshOf, mkR, hole, evL, evH, opd, get, putD, ofVal, cellOf, loadE, behind, lenE, idxAddrE, idxE, addPtr, intE, strE, unE, convE, AV.int, AV.bool, AV.str, ivs, take, frameOf, firstRegion, refsA, refsL, one, cellsA, floatOk, apartT, List.map, if_true, if_false, E_P, E_glob0, reduceCtorEq, beq_self_eq_true, decide_true, decide_false, ↓reduceIte, Nat.reduceEqDiff, cond_true, cond_false, or_true, true_or, or_false, false_or, and_true, true_and, and_self, false_and, and_false, not_true, not_false_iff, Nat.reduceAdd, Nat.reduceSub, Nat.reduceMul, Nat.reduceLT, Nat.reduceLeDiff, Int.reduceToNat, Int.reduceLT, Int.reduceLE, Option.getD, Int.reduceMul, Int.reduceAdd, List.drop, List.take, Nat.reduceBEq, List.isEmpty, Int.reduceEq, Int.reduceNe, Int.reduceNeg, Int.reduceGT, Int.reduceGE, beq_true, beq_false, UInt8.reduceToNat, eqE, eq_self, foldE, maxE, minE, eq_T, eq_F, ndec, odec, adec, sdec, fillA, over, chop, List.replicate, leavesOk, leafOk, cellsEq, cellEq, E_byref, en64]
    exact ⟨0, trivial⟩
termination_by s.length - k
theorem c64 (s : List UInt8) (hs : (s.length : Int) < 100000) : ∃ L, callT E 64 [.i (.str s), .clo (.func 56) [] [], .i (.v (.bool true))] [] = some (.i (.v (.int .i64 (ixN (ixF badB s 0)))), L) := by
  obtain ⟨p, h⟩ := l64 s (by omega) 0 (Nat.zero_le _)
  rw [List.drop_zero] at h
  rw [callT_eq Tryd.func64 rfl fok64 (by simp [Tryd.ntmps64])]
  cases hx : ixF badB s 0 with
  | some i =>
    simp only [hx] at h
    simp (disch := first | omega | (simp only [List.length_append, List.length_map, List.length_set, List.length_cons, List.length_nil, List.length_take, List.length_drop]; omega)) only [va0, va1, va2, va3, va4, va5, va6, va7, va8, va9, va10, va11, va12, va13, va14, vb0, vb1, vb2, vb3, w_i8, w_u8, w_i16, w_u16, w_i32, w_u32, w_i64, w_u64, lt_T, lt_F, le_T, le_F, nlt_T, nlt_F, nle_T, nle_F, List.take_of_length_le, gB, gcW, gcR, posIn, renA, renL, Chunk.ren, Chunk.refs, evOpD, touchD, stepC, isFresh, nFresh, freshOf, mkR, hole, evL, evH, opd, get, putD, ofVal, cellOf, loadE, behind, lenE, idxAddrE, idxE, addPtr, intE, strE, unE, convE, AV.int, AV.bool, AV.str, ivs, take, frameOf, firstRegion, refsA, refsL, one, cellsA, floatOk, apartT, List.map, if_true, if_false, E_P, E_glob0, reduceCtorEq, beq_self_eq_true, decide_true, decide_false, ↓reduceIte, Nat.reduceEqDiff, cond_true, cond_false, or_true, true_or, or_false, false_or, and_true, true_and, and_self, false_and, and_false, not_true, not_false_iff, Nat.reduceAdd, Nat.reduceSub, Nat.reduceMul, Nat.reduceLT, Nat.reduceLeDiff, Int.reduceToNat, Int.reduceLT, Int.reduceLE, Option.getD, Int.reduceMul, Int.reduceAdd, List.drop, List.take, Nat.reduceBEq, List.isEmpty, Int.reduceEq, Int.reduceNe, Int.reduceNeg, Int.reduceGT, Int.reduceGE, beq_true, beq_false, UInt8.reduceToNat, eqE, eq_self, foldE, maxE, minE, eq_T, eq_F, ndec, odec, adec, sdec, fillA, over, chop, List.replicate, leavesOk, leafOk, cellsEq, cellEq, E_byref, en64, h, show ∀ B fr H, execT E B 64 (Code.loop _) fr H = rlG E B 64 (loopAt Tryd.f64 0) (gcn B (norm [1, 2, 10] fr) H) from fun B fr H => rl_intro rfl mt64_2 mb64_2 zf64_2 hd64_2 fr H, ixN]
    exact ⟨_, rfl⟩
  | none =>
    simp only [hx] at h
    simp (disch := first | omega | (simp only [List.length_append, List.length_map, List.length_set, List.length_cons, List.length_nil, List.length_take, List.length_drop]; omega)) only [va0, va1, va2, va3, va4, va5, va6, va7, va8, va9, va10, va11, va12, va13, va14, vb0, vb1, vb2, vb3, w_i8, w_u8, w_i16, w_u16, w_i32, w_u32, w_i64, w_u64, lt_T, lt_F, le_T, le_F, nlt_T, nlt_F, nle_T, nle_F, List.take_of_length_le, gB, gcW, gcR, posIn, renA, renL, Chunk.ren, Chunk.refs, evOpD, touchD, stepC, isFresh, nFresh, freshOf, mkR, hole, evL, evH, opd, get, putD, ofVal, cellOf, loadE, behind, lenE, idxAddrE, idxE, addPtr, intE, strE, unE, convE, AV.int, AV.bool, AV.str, ivs, take, frameOf, firstRegion, refsA, refsL, one, cellsA, floatOk, apartT, List.map, if_true, if_false, E_P, E_glob0, reduceCtorEq, beq_self_eq_true, decide_true, decide_false, ↓reduceIte, Nat.reduceEqDiff, cond_true, cond_false, or_true, true_or, or_false, false_or, and_true, true_and, and_self, false_and, and_false, not_true, not_false_iff, Nat.reduceAdd, Nat.reduceSub, Nat.reduceMul, Nat.reduceLT, Nat.reduceLeDiff, Int.reduceToNat, Int.reduceLT, Int.reduceLE, Option.getD, Int.reduceMul, Int.reduceAdd, List.drop, List.take, Nat.reduceBEq, List.isEmpty, Int.reduceEq, Int.reduceNe, Int.reduceNeg, Int.reduceGT, Int.reduceGE, beq_true, beq_false, UInt8.reduceToNat, eqE, eq_self, foldE, maxE, minE, eq_T, eq_F, ndec, odec, adec, sdec, fillA, over, chop, List.replicate, leavesOk, leafOk, cellsEq, cellEq, E_byref, en64, h, show ∀ B fr H, execT E B 64 (Code.loop _) fr H = rlG E B 64 (loopAt Tryd.f64 0) (gcn B (norm [1, 2, 10] fr) H) from fun B fr H => rl_intro rfl mt64_2 mb64_2 zf64_2 hd64_2 fr H, ixN]
    exact ⟨_, rfl⟩
theorem ik64 (s : List UInt8) (hs : (s.length : Int) < 100000) (H : Hp) : isoK E (callT E) 64 [.i (.str s), .clo (.func 56) [] [], .i (.v (.bool true))] H = some (.i (.v (.int .i64 (ixN (ixF badB s 0)))), H) := isoK_val rfl rfl rfl (c64 s hs)
theorem c62 (s : List UInt8) (hs : (s.length : Int) < 100000) : ∃ L, callT E 62 [.i (.str s), .clo (.func 56) [] []] [] = some (.i (.v (.int .i64 (ixN (ixF badB s 0)))), L) := by
  rw [callT_eq Tryd.func62 rfl fok62 (by simp [Tryd.ntmps62])]
  simp (disch := first | omega | (simp only [List.length_append, List.length_map, List.length_set, List.length_cons, List.length_nil, List.length_take, List.length_drop]; omega)) only [va0, va1, va2, va3, va4, va5, va6, va7, va8, va9, va10, va11, va12, va13, va14, vb0, vb1, vb2, vb3, w_i8, w_u8, w_i16, w_u16, w_i32, w_u32, w_i64, w_u64, lt_T, lt_F, le_T, le_F, nlt_T, nlt_F, nle_T, nle_F, List.take_of_length_le, gB, gcW, gcR, posIn, renA, renL, Chunk.ren, Chunk.refs, evOpD, touchD, stepC, isFresh, nFresh, freshOf, mkR, hole, evL, evH, opd, get, putD, ofVal, cellOf, loadE, behind, lenE, idxAddrE, idxE, addPtr, intE, strE, unE, convE, AV.int, AV.bool, AV.str, ivs, take, frameOf, firstRegion, refsA, refsL, one, cellsA, floatOk, apartT, List.map, if_true, if_false, E_P, E_glob0, reduceCtorEq, beq_self_eq_true, decide_true, decide_false, ↓reduceIte, Nat.reduceEqDiff, cond_true, cond_false, or_true, true_or, or_false, false_or, and_true, true_and, and_self, false_and, and_false, not_true, not_false_iff, Nat.reduceAdd, Nat.reduceSub, Nat.reduceMul, Nat.reduceLT, Nat.reduceLeDiff, Int.reduceToNat, Int.reduceLT, Int.reduceLE, Option.getD, Int.reduceMul, Int.reduceAdd, List.drop, List.take, Nat.reduceBEq, List.isEmpty, Int.reduceEq, Int.reduceNe, Int.reduceNeg, Int.reduceGT, Int.reduceGE, beq_true, beq_false, UInt8.reduceToNat, eqE, eq_self, foldE, maxE, minE, eq_T, eq_F, ndec, odec, adec, sdec, fillA, over, chop, List.replicate, leavesOk, leafOk, cellsEq, cellEq, E_byref, en62, ik64]
  exact ⟨_, rfl⟩
theorem ik62 (s : List UInt8) (hs : (s.length : Int) < 100000) (H : Hp) : isoK E (callT E) 62 [.i (.str s), .clo (.func 56) [] []] H = some (.i (.v (.int .i64 (ixN (ixF badB s 0)))), H) := isoK_val rfl rfl rfl (c62 s hs)
theorem c55 (s : List UInt8) (hs : (s.length : Int) < 100000) : ∃ L, callT E 55 [.i (.str s), .clo (.func 56) [] []] [] = some (.i (.v (.bool (s.any badB))), L) := by
  have hd : decide (0 ≤ ixN (ixF badB s 0)) = s.any badB := ixF_dec badB s 0
  rw [callT_eq Tryd.func55 rfl fok55 (by simp [Tryd.ntmps55])]
  simp (disch := first | omega | (simp only [List.length_append, List.length_map, List.length_set, List.length_cons, List.length_nil, List.length_take, List.length_drop]; omega)) only [va0, va1, va2, va3, va4, va5, va6, va7, va8, va9, va10, va11, va12, va13, va14, vb0, vb1, vb2, vb3, w_i8, w_u8, w_i16, w_u16, w_i32, w_u32, w_i64, w_u64, lt_T, lt_F, le_T, le_F, nlt_T, nlt_F, nle_T, nle_F, List.take_of_length_le, gB, gcW, gcR, posIn, renA, renL, Chunk.ren, Chunk.refs, evOpD, touchD, stepC, isFresh, nFresh, freshOf, mkR, hole, evL, evH, opd, get, putD, ofVal, cellOf, loadE, behind, lenE, idxAddrE, idxE, addPtr, intE, strE, unE, convE, AV.int, AV.bool, AV.str, ivs, take, frameOf, firstRegion, refsA, refsL, one, cellsA, floatOk, apartT, List.map, if_true, if_false, E_P, E_glob0, reduceCtorEq, beq_self_eq_true, decide_true, decide_false, ↓reduceIte, Nat.reduceEqDiff, cond_true, cond_false, or_true, true_or, or_false, false_or, and_true, true_and, and_self, false_and, and_false, not_true, not_false_iff, Nat.reduceAdd, Nat.reduceSub, Nat.reduceMul, Nat.reduceLT, Nat.reduceLeDiff, Int.reduceToNat, Int.reduceLT, Int.reduceLE, Option.getD, Int.reduceMul, Int.reduceAdd, List.drop, List.take, Nat.reduceBEq, List.isEmpty, Int.reduceEq, Int.reduceNe, Int.reduceNeg, Int.reduceGT, Int.reduceGE, beq_true, beq_false, UInt8.reduceToNat, eqE, eq_self, foldE, maxE, minE, eq_T, eq_F, ndec, odec, adec, sdec, fillA, over, chop, List.replicate, leavesOk, leafOk, cellsEq, cellEq, E_byref, en55, ik62, hd]
  exact ⟨_, rfl⟩
theorem ik55 (s : List UInt8) (hs : (s.length : Int) < 100000) (H : Hp) : isoK E (callT E) 55 [.i (.str s), .clo (.func 56) [] []] H = some (.i (.v (.bool (s.any badB))), H) := isoK_val rfl rfl rfl (c55 s hs)
def trailB (s : List UInt8) : Bool := !s.any badB
theorem c38 (s : List UInt8) (hs : (s.length : Int) < 100000) : ∃ L, callT E 38 [.i (.str s)] [] = some (.i (.v (.bool (trailB s))), L) := by
  rw [callT_eq Tryd.func38 rfl fok38 (by simp [Tryd.ntmps38])]
  simp (disch := first | omega | (simp only [List.length_append, List.length_map, List.length_set, List.length_cons, List.length_nil, List.length_take, List.length_drop]; omega)) only [va0, va1, va2, va3, va4, va5, va6, va7, va8, va9, va10, va11, va12, va13, va14, vb0, vb1, vb2, vb3, w_i8, w_u8, w_i16, w_u16, w_i32, w_u32, w_i64, w_u64, lt_T, lt_F, le_T, le_F, nlt_T, nlt_F, nle_T, nle_F, List.take_of_length_le, gB, gcW, gcR, posIn, renA, renL, Chunk.ren, Chunk.refs, evOpD, touchD, stepC, isFresh, nFresh, freshOf, mkR, hole, evL, evH, opd, get, putD, ofVal, cellOf, loadE, behind, lenE, idxAddrE, idxE, addPtr, intE, strE, unE, convE, AV.int, AV.bool, AV.str, ivs, take, frameOf, firstRegion, refsA, refsL, one, cellsA, floatOk, apartT, List.map, if_true, if_false, E_P, E_glob0, reduceCtorEq, beq_self_eq_true, decide_true, decide_false, ↓reduceIte, Nat.reduceEqDiff, cond_true, cond_false, or_true, true_or, or_false, false_or, and_true, true_and, and_self, false_and, and_false, not_true, not_false_iff, Nat.reduceAdd, Nat.reduceSub, Nat.reduceMul, Nat.reduceLT, Nat.reduceLeDiff, Int.reduceToNat, Int.reduceLT, Int.reduceLE, Option.getD, Int.reduceMul, Int.reduceAdd, List.drop, List.take, Nat.reduceBEq, List.isEmpty, Int.reduceEq, Int.reduceNe, Int.reduceNeg, Int.reduceGT, Int.reduceGE, beq_true, beq_false, UInt8.reduceToNat, eqE, eq_self, foldE, maxE, minE, eq_T, eq_F, ndec, odec, adec, sdec, fillA, over, chop, List.replicate, leavesOk, leafOk, cellsEq, cellEq, E_byref, en38, ik55]
  exact ⟨_, rfl⟩
theorem ik38 (s : List UInt8) (hs : (s.length : Int) < 100000) (H : Hp) : isoK E (callT E) 38 [.i (.str s)] H = some (.i (.v (.bool (trailB s))), H) := isoK_val rfl rfl rfl (c38 s hs)
def limB (l : List Int) (s : List UInt8) : Bool := decide (l.length ≤ 16) && decide (s.length ≤ 2) && !l.any over9999
theorem c41 (l : List Int) (s : List UInt8) (hl : (l.length : Int) < 100000) (hs : (s.length : Int) < 100000) : ∃ L, callT E 41 [.i (.sl 1 (rows64 l) false), .i (.str s)] [] = some (.i (.v (.bool (limB l s))), L) := by
  have hr := rows64_len l
  unfold limB
  rw [callT_eq Tryd.func41 rfl fok41 (by simp [Tryd.ntmps41])]
  by_cases h1 : l.length ≤ 16 <;> by_cases h2 : s.length ≤ 2 <;> simp only [h1, h2, decide_true, decide_false, Bool.true_and, Bool.false_and, Bool.and_false] <;> simp (disch := first | omega | (simp only [List.length_append, List.length_map, List.length_set, List.length_cons, List.length_nil, List.length_take, List.length_drop, rows64_len]; omega)) only [va0, va1, va2, va3, va4, va5, va6, va7, va8, va9, va10, va11, va12, va13, va14, vb0, vb1, vb2, vb3, w_i8, w_u8, w_i16, w_u16, w_i32, w_u32, w_i64, w_u64, lt_T, lt_F, le_T, le_F, nlt_T, nlt_F, nle_T, nle_F, List.take_of_length_le, gB, gcW, gcR, posIn, renA, renL, Chunk.ren, Chunk.refs, evOpD, touchD, stepC, isFresh, nFresh, freshOf, mkR, hole, evL, evH, opd, get, putD, ofVal, cellOf, loadE, behind, lenE, idxAddrE, idxE, addPtr, intE, strE, unE, convE, AV.int, AV.bool, AV.str, ivs, take, frameOf, firstRegion, refsA, refsL, one, cellsA, floatOk, apartT, List.map, if_true, if_false, E_P, E_glob0, reduceCtorEq, beq_self_eq_true, decide_true, decide_false, ↓reduceIte, Nat.reduceEqDiff, cond_true, cond_false, or_true, true_or, or_false, false_or, and_true, true_and, and_self, false_and, and_false, not_true, not_false_iff, Nat.reduceAdd, Nat.reduceSub, Nat.reduceMul, Nat.reduceLT, Nat.reduceLeDiff, Int.reduceToNat, Int.reduceLT, Int.reduceLE, Option.getD, Int.reduceMul, Int.reduceAdd, List.drop, List.take, Nat.reduceBEq, List.isEmpty, Int.reduceEq, Int.reduceNe, Int.reduceNeg, Int.reduceGT, Int.reduceGE, beq_true, beq_false, UInt8.reduceToNat, eqE, eq_self, foldE, maxE, minE, eq_T, eq_F, ndec, odec, adec, sdec, fillA, over, chop, List.replicate, leavesOk, leafOk, cellsEq, cellEq, E_byref, en41, bs29, ik39, rows64_len, h1, h2] <;> exact ⟨_, rfl⟩
theorem ik41 (l : List Int) (s : List UInt8) (hl : (l.length : Int) < 100000) (hs : (s.length : Int) < 100000) (H : Hp) : isoK E (callT E) 41 [.i (.sl 1 (rows64 l) false), .i (.str s)] H = some (.i (.v (.bool (limB l s))), H) := isoK_val rfl rfl rfl (c41 l s hl hs)
def privB (b : Int) : Bool := decide (60 ≤ b) && decide (b ≤ 63)
theorem c37 (b : Int) : ∃ L, callT E 37 [.i (.v (.int .u8 b))] [] = some (.i (.v (.bool (privB b))), L) := by
  unfold privB
  rw [callT_eq Tryd.func37 rfl fok37 (by simp [Tryd.ntmps37])]
  by_cases h1 : 60 ≤ b <;> by_cases h2 : b ≤ 63 <;> simp only [h1, h2, decide_true, decide_false, Bool.true_and, Bool.false_and, Bool.and_false] <;> simp (disch := first | omega | (simp only [List.length_append, List.length_map, List.length_set, List.length_cons, List.length_nil, List.length_take, List.length_drop]; omega)) only [va0, va1, va2, va3, va4, va5, va6, va7, va8, va9, va10, va11, va12, va13, va14, vb0, vb1, vb2, vb3, w_i8, w_u8, w_i16, w_u16, w_i32, w_u32, w_i64, w_u64, lt_T, lt_F, le_T, le_F, nlt_T, nlt_F, nle_T, nle_F, List.take_of_length_le, gB, gcW, gcR, posIn, renA, renL, Chunk.ren, Chunk.refs, evOpD, touchD, stepC, isFresh, nFresh, freshOf, mkR, hole, evL, evH, opd, get, putD, ofVal, cellOf, loadE, behind, lenE, idxAddrE, idxE, addPtr, intE, strE, unE, convE, AV.int, AV.bool, AV.str, ivs, take, frameOf, firstRegion, refsA, refsL, one, cellsA, floatOk, apartT, List.map, if_true, if_false, E_P, E_glob0, reduceCtorEq, beq_self_eq_true, decide_true, decide_false, ↓reduceIte, Nat.reduceEqDiff, cond_true, cond_false, or_true, true_or, or_false, false_or, and_true, true_and, and_self, false_and, and_false, not_true, not_false_iff, Nat.reduceAdd, Nat.reduceSub, Nat.reduceMul, Nat.reduceLT, Nat.reduceLeDiff, Int.reduceToNat, Int.reduceLT, Int.reduceLE, Option.getD, Int.reduceMul, Int.reduceAdd, List.drop, List.take, Nat.reduceBEq, List.isEmpty, Int.reduceEq, Int.reduceNe, Int.reduceNeg, Int.reduceGT, Int.reduceGE, beq_true, beq_false, UInt8.reduceToNat, eqE, eq_self, foldE, maxE, minE, eq_T, eq_F, ndec, odec, adec, sdec, fillA, over, chop, List.replicate, leavesOk, leafOk, cellsEq, cellEq, E_byref, en37, h1, h2] <;> exact ⟨_, rfl⟩
theorem ik37 (b : Int) (H : Hp) : isoK E (callT E) 37 [.i (.v (.int .u8 b))] H = some (.i (.v (.bool (privB b))), H) := isoK_val rfl rfl rfl (c37 b)
end Go.VI

namespace Go.VI
open Go.Proofs
set_option maxRecDepth 100000
set_option linter.unusedSimpArgs false
set_option linter.unusedVariables false
set_option maxHeartbeats 4000000
structure Sq where
  (v mi lo hi : Int)
def sqC (s : Sq) : List AV := [.i (.v (.int .i32 s.v)), .i (.v (.int .i64 s.mi)), .i (.v (.int .u8 s.lo)), .i (.v (.int .u8 s.hi))]
theorem sqC_one (s : Sq) : (sqC s).all one = true := rfl
theorem sqC_len (s : Sq) : (sqC s).length = 4 := rfl
theorem sqC_refs (s : Sq) : refsL (sqC s) = [] := rfl
theorem sqC_ren (ρ : Nat → Option Nat) (s : Sq) : renL ρ (sqC s) = sqC s := rfl
def beginS (b : Int) : Sq :=
  let lo : Int := if b = 224 then 160 else if b = 240 then 144 else 128
  let hi : Int := if b = 237 then 159 else if b = 244 then 143 else 191
  if 194 ≤ b ∧ b ≤ 223 then ⟨b - 192, 1, lo, hi⟩ else if 224 ≤ b ∧ b ≤ 239 then ⟨b - 224, 2, lo, hi⟩ else if 240 ≤ b ∧ b ≤ 244 then ⟨b - 240, 3, lo, hi⟩ else ⟨0, 0, lo, hi⟩
theorem c47_all : ((List.range 256).all fun b => match call E 60 47 [.i (.v (.int .u8 b))] [] with
    | some (.agg [.i (.v (.int .i32 v)), .i (.v (.int .i64 m)), .i (.v (.int .u8 l)), .i (.v (.int .u8 h))], _) => v == (beginS b).v && m == (beginS b).mi && l == (beginS b).lo && h == (beginS b).hi
    | _ => false) = true := by kernel_rfl
theorem c47 (b : Int) (h0 : 0 ≤ b) (h1 : b ≤ 255) : ∃ L, callT E 47 [.i (.v (.int .u8 b))] [] = some (.agg (sqC (beginS b)), L) := by
  obtain ⟨n, rfl⟩ := Int.eq_ofNat_of_zero_le h0
  have := (List.all_eq_true.1 c47_all) n (by simp; omega)
  split at this
  · rename_i v m l h L hL
    simp only [Bool.and_eq_true, beq_iff_eq] at this
    obtain ⟨⟨⟨rfl, rfl⟩, rfl⟩, rfl⟩ := this
    exact ⟨L, callT_of hL⟩
  · cases this
theorem ik47 (b : Int) (H : Hp) (h0 : 0 ≤ b) (h1 : b ≤ 255) : isoK E (callT E) 47 [.i (.v (.int .u8 b))] H = some (.agg (sqC (beginS b)), H) := isoK_val rfl rfl rfl (c47 b h0 h1)
end Go.VI

namespace Go.VI
open Go.Proofs
set_option maxRecDepth 100000
set_option linter.unusedSimpArgs false
set_option linter.unusedVariables false
set_option maxHeartbeats 4000000
theorem pw6 : (2 : Int) ^ min 6 IntKind.i32.bits = 64 := by decide
theorem and63_all : ∀ n : Nat, n < 256 → bitsE .and .u8 (n : Int) 63 = some ((n : Int) % 64) := by decide +kernel
theorem and63 {b : Int} (h0 : 0 ≤ b) (h1 : b ≤ 255) : bitsE .and .u8 b 63 = some (b % 64) := by
  obtain ⟨n, rfl⟩ := Int.eq_ofNat_of_zero_le h0
  exact and63_all n (by omega)
theorem or64 {v c : Int} (h0 : 0 ≤ v) (h1 : v < 1048576) (h2 : 0 ≤ c) (h3 : c < 64) : bitsE .or .i32 (v * 64) c = some (v * 64 + c) := by
  obtain ⟨n, rfl⟩ := Int.eq_ofNat_of_zero_le h0
  obtain ⟨m, rfl⟩ := Int.eq_ofNat_of_zero_le h2
  have e1 : BitVec.ofInt 32 ((n : Int) * 64) = BitVec.ofNat 32 (n * 64) := by
    rw [show (n : Int) * 64 = ((n * 64 : Nat) : Int) by omega]; rfl
  have e2 : BitVec.ofInt 32 (m : Int) = BitVec.ofNat 32 m := rfl
  have e3 : n * 64 ||| m = n * 64 + m := by
    have := Nat.shiftLeft_add_eq_or_of_lt (i := 6) (b := m) (by omega) n
    rw [Nat.shiftLeft_eq, show (2 : Nat) ^ 6 = 64 from rfl] at this
    exact this.symm
  show some (IntKind.i32.wrap ((BitVec.ofInt 32 ((n : Int) * 64) ||| BitVec.ofInt 32 (m : Int)).toNat : Nat)) = _
  rw [e1, e2, BitVec.toNat_or, BitVec.toNat_ofNat, BitVec.toNat_ofNat, Nat.mod_eq_of_lt (by omega), Nat.mod_eq_of_lt (by omega), e3, w_i32 (by omega) (by omega)]
  congr 1
structure Dec where
  (s : Sq) (out : List Int) (st : Int)
def SqOK (s : Sq) : Prop := s.mi = 0 ∨ (128 ≤ s.lo ∧ s.hi ≤ 191 ∧ 0 ≤ s.v ∧ (s.mi = 1 ∧ s.v < 32768 ∨ s.mi = 2 ∧ s.v < 512 ∨ s.mi = 3 ∧ s.v < 8))
def stepD (d : Dec) (i b : Int) : Dec :=
  if 0 < d.s.mi ∧ d.s.lo ≤ b ∧ b ≤ d.s.hi then
    ⟨⟨d.s.v * 64 + b % 64, d.s.mi - 1, 128, 191⟩, if d.s.mi - 1 = 0 then d.out ++ [d.s.v * 64 + b % 64] else d.out, d.st⟩
  else
    let o := if 0 < d.s.mi then d.out ++ [65533] else d.out
    ⟨beginS b, if b < 128 then o ++ [b] else if (beginS b).mi = 0 then o ++ [65533] else o, i⟩
def runD : List UInt8 → Nat → Dec → Dec
  | [], _, d => d
  | b :: r, i, d => runD r (i + 1) (stepD d i b.toNat)
theorem beginS_all : ∀ n : Nat, n < 256 → ((beginS n).mi = 0 ∨ (128 ≤ (beginS n).lo ∧ (beginS n).hi ≤ 191 ∧ 0 ≤ (beginS n).v ∧ ((beginS n).mi = 1 ∧ (beginS n).v < 32768 ∨ (beginS n).mi = 2 ∧ (beginS n).v < 512 ∨ (beginS n).mi = 3 ∧ (beginS n).v < 8))) := by decide +kernel
theorem beginS_ok (b : Int) (h0 : 0 ≤ b) (h1 : b ≤ 255) : SqOK (beginS b) := by
  obtain ⟨n, rfl⟩ := Int.eq_ofNat_of_zero_le h0
  exact beginS_all n (by omega)
theorem stepD_ok {d : Dec} (h : SqOK d.s) (i b : Int) (h0 : 0 ≤ b) (h1 : b ≤ 255) : SqOK (stepD d i b).s := by
  unfold stepD
  split
  · rename_i hc
    obtain ⟨c1, c2, c3⟩ := hc
    unfold SqOK at h ⊢
    simp only
    omega
  · exact beginS_ok b h0 h1
def rows32 (l : List Int) : List (List IV) := l.map fun n => [.v (.int .i32 n)]
theorem rows32_len (l : List Int) : (rows32 l).length = l.length := by simp [rows32]
theorem rows32_snoc (l : List Int) (n : Int) : rows32 l ++ [[.v (.int .i32 n)]] = rows32 (l ++ [n]) := by simp [rows32]
theorem stepD_len (d : Dec) (i b : Int) : (stepD d i b).out.length ≤ d.out.length + 2 := by
  unfold stepD; simp only; repeat' split
  all_goals (simp; try omega)
theorem sqC_cn (B : Nat) (H : Hp) (s : Sq) : cnL B H (sqC s) = sqC s := by simp [sqC, cnL, cnA]
theorem sqC_0 (s : Sq) : (sqC s)[0]? = some (.i (.v (.int .i32 s.v))) := rfl
theorem sqC_1 (s : Sq) : (sqC s)[1]? = some (.i (.v (.int .i64 s.mi))) := rfl
theorem sqC_2 (s : Sq) : (sqC s)[2]? = some (.i (.v (.int .u8 s.lo))) := rfl
theorem sqC_3 (s : Sq) : (sqC s)[3]? = some (.i (.v (.int .u8 s.hi))) := rfl
theorem sqC_drop (s : Sq) : (sqC s).drop 4 = [] := rfl
theorem sqC_take (s : Sq) : (sqC s).take 4 = sqC s := rfl
theorem byte_at {t : List UInt8} {k : Nat} (h : k < t.length) : t[k]? = some t[k] := by simp [h]
theorem l28 (t : List UInt8) (ht : t.length < 100000) (k : Nat) (hk : k ≤ t.length) (d : Dec) (hs : SqOK d.s) (hl : d.out.length ≤ 2 * k) :
    rl E 0 28 (loopAt Tryd.f28 0) [(6, .i (.str t)), (7, .ref 0 0 0 d.out.length), (8, .ptr 1 0 0 0), (9, .i (.v (.int .i64 d.st))), (16, .i (.v (.int .i64 t.length))), (17, .i (.v (.int .i64 k)))] [.sl 1 0 (rows32 d.out) false, .box (sqC d.s)] =
      some (.exit 0, [(6, .i (.str t)), (7, .ref 0 0 0 (runD (t.drop k) k d).out.length), (8, .ptr 1 0 0 0), (9, .i (.v (.int .i64 (runD (t.drop k) k d).st))), (16, .i (.v (.int .i64 t.length))), (17, .i (.v (.int .i64 t.length))), (18, .i (.v (.bool false)))], [.sl 1 0 (rows32 (runD (t.drop k) k d).out) false, .box (sqC (runD (t.drop k) k d).s)]) := by
  rw [rl_step (fn := Tryd.f28) (k := 0) rfl]
  by_cases hlt : k < t.length
  · have hb := byte_at hlt
    have b1 := t[k].toNat_lt
    rw [List.drop_eq_getElem_cons hlt, runD]
    have ih := l28 t ht (k + 1) hlt (stepD d k t[k].toNat) (stepD_ok hs _ _ (by omega) (by omega)) (by have := stepD_len d k t[k].toNat; omega)
    unfold SqOK at hs
    generalize t[k] = b at *
    rw [← ih]
    clear ih
    (try simp (disch := first | omega | (simp only [List.length_append, List.length_map, List.length_set, List.length_cons, List.length_nil, List.length_take, List.length_drop, rows32_len]; omega)) only [va0, va1, va2, va3, va4, va5, va6, va7, va8, va9, va10, va11, va12, va13, va14, vb0, vb1, vb2, vb3, w_i8, w_u8, w_i16, w_u16, w_i32, w_u32, w_i64, w_u64, lt_T, lt_F, le_T, le_F, nlt_T, nlt_F, nle_T, nle_F, List.take_of_length_le, gB, gcW, gcR, posIn, renA, renL, Chunk.ren, Chunk.refs, evOpD, touchD, stepC, isFresh, nFresh, freshOf, mkR, hole, evL, evH, opd, get, putD, ofVal, cellOf, loadE, behind, lenE, idxAddrE, idxE, addPtr, intE, strE, unE, convE, AV.int, AV.bool, AV.str, ivs, take, frameOf, firstRegion, refsA, refsL, one, cellsA, floatOk, apartT, List.map, if_true, if_false, E_P, E_glob0, reduceCtorEq, beq_self_eq_true, decide_true, decide_false, ↓reduceIte, Nat.reduceEqDiff, cond_true, cond_false, or_true, true_or, or_false, false_or, and_true, true_and, and_self, false_and, and_false, not_true, not_false_iff, Nat.reduceAdd, Nat.reduceSub, Nat.reduceMul, Nat.reduceLT, Nat.reduceLeDiff, Int.reduceToNat, Int.reduceLT, Int.reduceLE, Option.getD, Int.reduceMul, Int.reduceAdd, List.drop, List.take, Nat.reduceBEq, List.isEmpty, Int.reduceEq, Int.reduceNe, Int.reduceNeg, Int.reduceGT, Int.reduceGE, beq_true, beq_false, UInt8.reduceToNat, eqE, eq_self, foldE, maxE, minE, eq_T, eq_F, ndec, odec, adec, sdec, fillA, over, chop, List.replicate, leavesOk, leafOk, cellsEq, cellEq, E_byref, en28, bs49, hb, sqC_drop, sqC_take, sqC_0, sqC_1, sqC_2, sqC_3, ik47, pw6, and63, or64, sqC_one, sqC_len, sqC_refs, sqC_ren, sqC_cn, rows32_len, rows32_snoc, show ∀ B fr H, execT E B 28 (Code.loop _) fr H = rlM E B 28 (loopAt Tryd.f28 0) [6, 7, 8, 9, 16, 17] [] (matF [(7, 1)] fr H).1 (matB [] (matF [(7, 1)] fr H).1 (matF [(7, 1)] fr H).2) from fun B fr H => rl_introM rfl mt28_6 mb28_6 zf28_6 hd28_6 fr H]) <;> repeat' ((first | rw [condK_ndec] | rw [condK_dec] | rw [condK_b] | rw [guK_ndec] | rw [guK_dec] | rw [guK_b] | rw [guT_ndec] | rw [guT_dec] | rw [guT_b] | rw [guD_dec] | rw [guD_b]) <;> split <;> (try subst_vars) <;> (try simp (disch := first | omega | (simp only [List.length_append, List.length_map, List.length_set, List.length_cons, List.length_nil, List.length_take, List.length_drop, rows32_len]; omega)) only [va0, va1, va2, va3, va4, va5, va6, va7, va8, va9, va10, va11, va12, va13, va14, vb0, vb1, vb2, vb3, w_i8, w_u8, w_i16, w_u16, w_i32, w_u32, w_i64, w_u64, lt_T, lt_F, le_T, le_F, nlt_T, nlt_F, nle_T, nle_F, List.take_of_length_le, gB, gcW, gcR, posIn, renA, renL, Chunk.ren, Chunk.refs, evOpD, touchD, stepC, isFresh, nFresh, freshOf, mkR, hole, evL, evH, opd, get, putD, ofVal, cellOf, loadE, behind, lenE, idxAddrE, idxE, addPtr, intE, strE, unE, convE, AV.int, AV.bool, AV.str, ivs, take, frameOf, firstRegion, refsA, refsL, one, cellsA, floatOk, apartT, List.map, if_true, if_false, E_P, E_glob0, reduceCtorEq, beq_self_eq_true, decide_true, decide_false, ↓reduceIte, Nat.reduceEqDiff, cond_true, cond_false, or_true, true_or, or_false, false_or, and_true, true_and, and_self, false_and, and_false, not_true, not_false_iff, Nat.reduceAdd, Nat.reduceSub, Nat.reduceMul, Nat.reduceLT, Nat.reduceLeDiff, Int.reduceToNat, Int.reduceLT, Int.reduceLE, Option.getD, Int.reduceMul, Int.reduceAdd, List.drop, List.take, Nat.reduceBEq, List.isEmpty, Int.reduceEq, Int.reduceNe, Int.reduceNeg, Int.reduceGT, Int.reduceGE, beq_true, beq_false, UInt8.reduceToNat, eqE, eq_self, foldE, maxE, minE, eq_T, eq_F, ndec, odec, adec, sdec, fillA, over, chop, List.replicate, leavesOk, leafOk, cellsEq, cellEq, E_byref, en28, bs49, hb, sqC_drop, sqC_take, sqC_0, sqC_1, sqC_2, sqC_3, ik47, pw6, and63, or64, sqC_one, sqC_len, sqC_refs, sqC_ren, sqC_cn, rows32_len, rows32_snoc, show ∀ B fr H, execT E B 28 (Code.loop _) fr H = rlM E B 28 (loopAt Tryd.f28 0) [6, 7, 8, 9, 16, 17] [] (matF [(7, 1)] fr H).1 (matB [] (matF [(7, 1)] fr H).1 (matF [(7, 1)] fr H).2) from fun B fr H => rl_introM rfl mt28_6 mb28_6 zf28_6 hd28_6 fr H]))
    all_goals generalize hX : stepD d k b.toNat = X
    all_goals unfold stepD at hX
    all_goals simp only at hX
    all_goals (repeat' split at hX)
    all_goals first | (exfalso; omega) | (subst hX; (try simp only [List.length_append, List.length_cons, List.length_nil, Nat.zero_add, Nat.reduceAdd, Nat.add_assoc, rows32_snoc]) <;> rfl) | trace_state
  · obtain rfl : k = t.length := by omega
    rw [List.drop_length, runD]
    simp (disch := first | omega | (simp only [List.length_append, List.length_map, List.length_set, List.length_cons, List.length_nil, List.length_take, List.length_drop]; omega)) only [va0, va1, va2, va3, va4, va5, va6, va7, va8, va9, va10, va11, va12, va13, va14, vb0, vb1, vb2, vb3, w_i8, w_u8, w_i16, w_u16, w_i32, w_u32, w_i64, w_u64, lt_T, lt_F, le_T, le_F, nlt_T, nlt_F, nle_T, nle_F, List.take_of_length_le, gB, gcW, gcR, posIn, renA, renL, Chunk.ren, Chunk.refs, evOpD, touchD, stepC, isFresh, nFresh, freshOf, mkR, hole, evL, evH, opd, get, putD, ofVal, cellOf, loadE, behind, lenE, idxAddrE, idxE, addPtr, intE, strE, unE, convE, AV.int, AV.bool, AV.str, ivs, take, frameOf, firstRegion, refsA, refsL, one, cellsA, floatOk, apartT, List.map, if_true, if_false, E_P, E_glob0, reduceCtorEq, beq_self_eq_true, decide_true, decide_false, ↓reduceIte, Nat.reduceEqDiff, cond_true, cond_false, or_true, true_or, or_false, false_or, and_true, true_and, and_self, false_and, and_false, not_true, not_false_iff, Nat.reduceAdd, Nat.reduceSub, Nat.reduceMul, Nat.reduceLT, Nat.reduceLeDiff, Int.reduceToNat, Int.reduceLT, Int.reduceLE, Option.getD, Int.reduceMul, Int.reduceAdd, List.drop, List.take, Nat.reduceBEq, List.isEmpty, Int.reduceEq, Int.reduceNe, Int.reduceNeg, Int.reduceGT, Int.reduceGE, beq_true, beq_false, UInt8.reduceToNat, eqE, eq_self, foldE, maxE, minE, eq_T, eq_F, ndec, odec, adec, sdec, fillA, over, chop, List.replicate, leavesOk, leafOk, cellsEq, cellEq, E_byref, en28, bs49]
termination_by t.length - k
end Go.VI

namespace Go.VI
open Go.Proofs
set_option maxRecDepth 100000
set_option linter.unusedSimpArgs false
set_option linter.unusedVariables false
set_option maxHeartbeats 4000000
theorem stepD_st {d : Dec} {i b : Int} : (stepD d i b).st = d.st ∨ (stepD d i b).st = i := by
  unfold stepD; simp only; split
  · exact .inl rfl
  · exact .inr rfl
theorem runD_st : ∀ (l : List UInt8) (i : Nat) (d : Dec), 0 ≤ d.st → d.st ≤ i → 0 ≤ (runD l i d).st ∧ (runD l i d).st ≤ i + l.length
  | [], i, d, h0, h1 => by simp only [runD, List.length_nil]; omega
  | b :: l, i, d, h0, h1 => by
    have hs := stepD_st (d := d) (i := i) (b := b.toNat)
    have ih := runD_st l (i + 1) (stepD d i b.toNat) (by omega) (by omega)
    simp only [runD, List.length_cons]
    omega
def sq0 : Sq := ⟨0, 0, 0, 0⟩
def decD (t : List UInt8) : Dec := runD t 0 ⟨sq0, [], 0⟩
def decOut (t : List UInt8) : List Int := (decD t).out
def decRest (t : List UInt8) : List UInt8 := if (decD t).s.mi = 0 then [] else t.drop (decD t).st.toNat
theorem l28_0 (t : List UInt8) (ht : (t.length : Int) < 100000) :
    rl E 0 28 (loopAt Tryd.f28 0) [(6, .i (.str t)), (7, .ref 0 0 0 0), (8, .ptr 1 0 0 0), (9, .i (.v (.int .i64 0))), (16, .i (.v (.int .i64 t.length))), (17, .i (.v (.int .i64 0)))] [.sl 1 0 [] false, .box [.i (.v (.int .i32 0)), .i (.v (.int .i64 0)), .i (.v (.int .u8 0)), .i (.v (.int .u8 0))]] =
      some (.exit 0, [(6, .i (.str t)), (7, .ref 0 0 0 (decD t).out.length), (8, .ptr 1 0 0 0), (9, .i (.v (.int .i64 (decD t).st))), (16, .i (.v (.int .i64 t.length))), (17, .i (.v (.int .i64 t.length))), (18, .i (.v (.bool false)))], [.sl 1 0 (rows32 (decD t).out) false, .box (sqC (decD t).s)]) :=
  l28 t (by omega) 0 (by omega) ⟨sq0, [], 0⟩ (.inl rfl) (Nat.zero_le _)
theorem c28 (p c : List UInt8) (ht : (p.length : Int) + c.length < 100000) : ∃ L, callT E 28 [.i (.str p), .i (.str c)] [] = some (.tup [.i (.sl 1 (rows32 (decOut (p ++ c))) false), .i (.str (decRest (p ++ c)))], L) := by
  have hlen : ((p ++ c).length : Int) < 100000 := by simp; omega
  have h := l28_0 (p ++ c) hlen
  obtain ⟨b1, b2⟩ := runD_st (p ++ c) 0 ⟨sq0, [], 0⟩ (Int.le_refl _) (Int.le_refl _)
  rw [show runD (p ++ c) 0 ⟨sq0, [], 0⟩ = decD (p ++ c) from rfl] at b1 b2
  unfold decOut decRest
  rw [callT_eq Tryd.func28 rfl fok28 (by simp [Tryd.ntmps28])]
  generalize hX : decD (p ++ c) = X at *
  simp only [List.length_append] at h b2 ⊢
  have hr := rows32_len X.out
  (try simp (disch := first | omega | (simp only [List.length_append, List.length_map, List.length_set, List.length_cons, List.length_nil, List.length_take, List.length_drop, rows32_len]; omega)) only [va0, va1, va2, va3, va4, va5, va6, va7, va8, va9, va10, va11, va12, va13, va14, vb0, vb1, vb2, vb3, w_i8, w_u8, w_i16, w_u16, w_i32, w_u32, w_i64, w_u64, lt_T, lt_F, le_T, le_F, nlt_T, nlt_F, nle_T, nle_F, List.take_of_length_le, gB, gcW, gcR, posIn, renA, renL, Chunk.ren, Chunk.refs, evOpD, touchD, stepC, isFresh, nFresh, freshOf, mkR, hole, evL, evH, opd, get, putD, ofVal, cellOf, loadE, behind, lenE, idxAddrE, idxE, addPtr, intE, strE, unE, convE, AV.int, AV.bool, AV.str, ivs, take, frameOf, firstRegion, refsA, refsL, one, cellsA, floatOk, apartT, List.map, if_true, if_false, E_P, E_glob0, reduceCtorEq, beq_self_eq_true, decide_true, decide_false, ↓reduceIte, Nat.reduceEqDiff, cond_true, cond_false, or_true, true_or, or_false, false_or, and_true, true_and, and_self, false_and, and_false, not_true, not_false_iff, Nat.reduceAdd, Nat.reduceSub, Nat.reduceMul, Nat.reduceLT, Nat.reduceLeDiff, Int.reduceToNat, Int.reduceLT, Int.reduceLE, Option.getD, Int.reduceMul, Int.reduceAdd, List.drop, List.take, Nat.reduceBEq, List.isEmpty, Int.reduceEq, Int.reduceNe, Int.reduceNeg, Int.reduceGT, Int.reduceGE, beq_true, beq_false, UInt8.reduceToNat, eqE, eq_self, foldE, maxE, minE, eq_T, eq_F, ndec, odec, adec, sdec, fillA, over, chop, List.replicate, leavesOk, leafOk, cellsEq, cellEq, E_byref, en28, bs49, h, sqC_drop, sqC_take, sqC_0, sqC_1, sqC_2, sqC_3, sqC_one, sqC_len, sqC_refs, sqC_ren, sqC_cn, show ∀ B fr H, execT E B 28 (Code.loop _) fr H = rlM E B 28 (loopAt Tryd.f28 0) [6, 7, 8, 9, 16, 17] [] (matF [(7, 1)] fr H).1 (matB [] (matF [(7, 1)] fr H).1 (matF [(7, 1)] fr H).2) from fun B fr H => rl_introM rfl mt28_6 mb28_6 zf28_6 hd28_6 fr H, List.take_of_length_le]) <;> repeat' ((first | rw [condK_ndec] | rw [condK_dec] | rw [condK_b] | rw [guK_ndec] | rw [guK_dec] | rw [guK_b] | rw [guT_ndec] | rw [guT_dec] | rw [guT_b] | rw [guD_dec] | rw [guD_b]) <;> split <;> (try subst_vars) <;> (try simp (disch := first | omega | (simp only [List.length_append, List.length_map, List.length_set, List.length_cons, List.length_nil, List.length_take, List.length_drop, rows32_len]; omega)) only [va0, va1, va2, va3, va4, va5, va6, va7, va8, va9, va10, va11, va12, va13, va14, vb0, vb1, vb2, vb3, w_i8, w_u8, w_i16, w_u16, w_i32, w_u32, w_i64, w_u64, lt_T, lt_F, le_T, le_F, nlt_T, nlt_F, nle_T, nle_F, List.take_of_length_le, gB, gcW, gcR, posIn, renA, renL, Chunk.ren, Chunk.refs, evOpD, touchD, stepC, isFresh, nFresh, freshOf, mkR, hole, evL, evH, opd, get, putD, ofVal, cellOf, loadE, behind, lenE, idxAddrE, idxE, addPtr, intE, strE, unE, convE, AV.int, AV.bool, AV.str, ivs, take, frameOf, firstRegion, refsA, refsL, one, cellsA, floatOk, apartT, List.map, if_true, if_false, E_P, E_glob0, reduceCtorEq, beq_self_eq_true, decide_true, decide_false, ↓reduceIte, Nat.reduceEqDiff, cond_true, cond_false, or_true, true_or, or_false, false_or, and_true, true_and, and_self, false_and, and_false, not_true, not_false_iff, Nat.reduceAdd, Nat.reduceSub, Nat.reduceMul, Nat.reduceLT, Nat.reduceLeDiff, Int.reduceToNat, Int.reduceLT, Int.reduceLE, Option.getD, Int.reduceMul, Int.reduceAdd, List.drop, List.take, Nat.reduceBEq, List.isEmpty, Int.reduceEq, Int.reduceNe, Int.reduceNeg, Int.reduceGT, Int.reduceGE, beq_true, beq_false, UInt8.reduceToNat, eqE, eq_self, foldE, maxE, minE, eq_T, eq_F, ndec, odec, adec, sdec, fillA, over, chop, List.replicate, leavesOk, leafOk, cellsEq, cellEq, E_byref, en28, bs49, h, sqC_drop, sqC_take, sqC_0, sqC_1, sqC_2, sqC_3, sqC_one, sqC_len, sqC_refs, sqC_ren, sqC_cn, show ∀ B fr H, execT E B 28 (Code.loop _) fr H = rlM E B 28 (loopAt Tryd.f28 0) [6, 7, 8, 9, 16, 17] [] (matF [(7, 1)] fr H).1 (matB [] (matF [(7, 1)] fr H).1 (matF [(7, 1)] fr H).2) from fun B fr H => rl_introM rfl mt28_6 mb28_6 zf28_6 hd28_6 fr H, List.take_of_length_le]))
  all_goals exact ⟨_, rfl⟩
theorem ik28 (p c : List UInt8) (ht : (p.length : Int) + c.length < 100000) (H : Hp) : isoK E (callT E) 28 [.i (.str p), .i (.str c)] H = some (.tup [.i (.sl 1 (rows32 (decOut (p ++ c))) false), .i (.str (decRest (p ++ c)))], H) := isoK_val rfl rfl rfl (c28 p c ht)
end Go.VI

namespace Go.VI
open Go.Proofs
set_option maxRecDepth 100000
set_option linter.unusedSimpArgs false
set_option linter.unusedVariables false
set_option maxHeartbeats 4000000
def rowsB (s : List UInt8) : List (List IV) := s.map fun b => [IV.v (.int .u8 b.toNat)]
theorem rowsB_len (s : List UInt8) : (rowsB s).length = s.length := by simp [rowsB]
theorem rowsB_at {s : List UInt8} {k : Nat} (h : k < s.length) : (rowsB s)[k]? = some [.v (.int .u8 s[k].toNat)] := by simp [rowsB, h]
theorem rowsB_app (a b : List UInt8) : rowsB a ++ rowsB b = rowsB (a ++ b) := by simp [rowsB]
theorem rowsB_snoc (a : List UInt8) (n : Int) (b : UInt8) (h : n = b.toNat) : rowsB a ++ [[.v (.int .u8 n)]] = rowsB (a ++ [b]) := by subst h; simp [rowsB]
theorem rowsB_num (a : List UInt8) : numsOf (rowsB a) = some (a.map fun b => (b.toNat : Int)) := numsOf_bytes a
theorem rowsB_take (a : List UInt8) (n : Nat) (h : a.length ≤ n) : (rowsB a).take n = rowsB a := List.take_of_length_le (by rw [rowsB_len]; exact h)
theorem bytes_map (a : List UInt8) : (a.map fun b => [IV.v (.int .u8 b.toNat)]) = rowsB a := rfl
end Go.VI

set_option linter.unusedSimpArgs false
set_option linter.unusedVariables false
namespace Go.VI
open Go.Proofs Go.Shelf Go.RowKit Go.Sort Go.Lib
variable {E : Env} {ρ : Ren} {I : Imm} {η : Eta} {H : Hp} {w : World}

theorem wpList_append_vi {ops : Array Oper} {rest : List Oper} {o : Oper} {a : Act} {Q : Exit → Act → World → Prop} (hgd : o.guard = none) (s x : Operand) (t t2 : TypeId)
    (ho : o.op = .call { callee := .builtin .append, args := #[s, x], argTypes := #[t, t2] }) {sa xa v : AV} {H' : Hp} (h : appendE E H t t2 sa xa = some (v, H')) (hC : Conc E I η H w)
    (ys yx : Value) (hs : a.eval s = ys) (hx : a.eval x = yx) (rs : RelA I η H sa ys) (rx : RelA I η H xa yx)
    (k : ∀ u w' I' η', Conc E I' η' H' w' → Trans I η w I' η' w' → Mono I η H I' η' H' → RelA I' η' H' v u → wpList E.P ops Q rest (a.put o.dst u) w') : wpList E.P ops Q (o :: rest) a w :=
  wpList_plain hgd fun _ hK => by
    obtain ⟨u, w', hr, I', η', k1, k2, k3, k4⟩ := append_ok (ty := o.type) hC h rs rx
    unfold Oper.wp execOp
    simp only [ho, resolve, invoke, builtin, Sem.run_bind, Sem.run_pure, Result.andThen_ok, List.map_toArray, List.map_cons, List.map_nil, hs, hx, hr]
    exact hK _ _ (k u w' I' η' k1 k2 k3 k4)

theorem conc_new (hC : Conc E I η H w) {w2 : World} {cs : Array Value} {elem : TypeId} {fz : Nat × Nat} (ho : w2.os = w.os) (ht : w2.tape = w.tape) (hu : w2.output = w.output) (hsz : w.heap.size < w2.heap.size)
    (hold : ∀ b, b < w.heap.size → w2.heap[b]? = w.heap[b]?) (hnew : w2.heap[w.heap.size]? = some (.cells cs elem fz)) :
    ∃ I', Conc E I' η H w2 ∧ Trans I η w I' η w2 ∧ Mono I η H I' η H ∧ I' w.heap.size = some (.cells cs elem fz) := by
  have hI0 : I w.heap.size = none := by
    cases hI : I w.heap.size with
    | none => rfl
    | some o => have := hC.imm _ _ hI; simp at this
  let I' : Imm := fun b => if b = w.heap.size then some (.cells cs elem fz) else I b
  have hle : I.le I' := by
    intro b o hb
    have : b ≠ w.heap.size := fun e => by rw [e, hI0] at hb; cases hb
    simp only [I', if_neg this, hb]
  have hm : Mono I η H I' η H := mono_of hle (Nat.le_refl _) fun c hc => CStep.same rfl rfl
  refine ⟨I', ⟨fun b o hb => ?_, fun c x hx => (hC.ch c x hx).mono rfl hle hm fun b n h => hold b (hC.sep _ _ _ h).2.1, hC.inj, fun c b n h => ?_, fun g cells hg => (hC.glob g cells hg).mono hle⟩,
    ⟨ho, ht, hu, Nat.le_of_lt hsz, fun b hb _ => hold b hb, hle, fun b hb => ?_, fun c b n h => .inr ⟨_, _, h⟩⟩, hm, by simp [I']⟩
  · by_cases e : b = w.heap.size
    · subst e; simp only [I', if_true, Option.some.injEq] at hb; rw [hnew, hb]
    · simp only [I', if_neg e] at hb
      have := hC.imm b o hb
      rw [hold b (Array.getElem?_eq_some_iff.1 this).1]; exact this
  · obtain ⟨h1, h2, h3⟩ := hC.sep _ _ _ h
    exact ⟨by simp only [I', if_neg (show b ≠ w.heap.size by omega), h1], by omega, h3⟩
  · by_cases e : b = w.heap.size
    · exact .inr (.inl (by omega))
    · simp only [I', if_neg e] at hb; exact .inl hb

theorem app_bytes {t t2 : TypeId} {s r : AV} {H' : Hp} {l : List UInt8} {ex : Bool} (ht : ∃ e, slO E.P t = some e) (h : appendE E H t t2 s (.i (.str l)) = some (r, H')) :
    appendE E H t t s (.i (.sl 1 (l.map fun b => [IV.v (.int .u8 b.toNat)]) ex)) = some (r, H') := by
  obtain ⟨e, he⟩ := ht
  unfold appendE at h ⊢
  rw [he] at h ⊢
  simp only [srcE, rowsE] at h ⊢
  simp only [he, Option.isSome_some, true_or, true_and]
  split at h
  · rename_i z b zv z' new ex' h1 h2 h3 h4
    simp only [Option.some.injEq, Prod.mk.injEq] at h4
    obtain ⟨rfl, rfl, rfl⟩ := h4
    simp only [h1, h2, h3]
    split at h
    · rename_i hc
      obtain ⟨c1, c2, c3, c4, c5, c6⟩ := hc
      rw [if_pos ⟨c1, c2, c3, c5, c6⟩]
      exact h
    · cases h
  · cases h

theorem powT_cell {g : Nat} (hC : Conc E I η H w) (hg : E.glob g = some powT) (j : Nat) (hj : j < 20) : w.cell? ⟨g, j, none⟩ = some (.int .u64 (Lib.pow10Tab.getD j 0)) := by
  have h := hC.glob g _ hg
  generalize hc : powT = cells at h
  generalize hp : Value.pointer (some ⟨g, 0, none⟩) = p at h
  cases h with
  | pt _ _ b off cs elem fz cv hI h1 h2 =>
    simp at hp
    obtain ⟨rfl, h0⟩ := hp
    subst hc
    have hjl : powT[j]? = some (.v (.int .u64 (Lib.pow10Tab.getD j 0))) := by
      have : j < Lib.pow10Tab.length := by rw [Lib.pow10Tab_length]; exact hj
      simp [powT, List.getD, this]
    have e1 := h1 j _ hjl
    have e2 := h2 j _ hjl
    generalize cv j = q at e1 e2
    cases e2 with
    | v x hx =>
      have e0 : off = 0 := by omega
      subst e0
      rw [Nat.zero_add] at e1
      simp [World.cell?, hC.imm _ _ hI, e1]
end Go.VI

set_option linter.unusedSimpArgs false
set_option linter.unusedVariables false
namespace Go.VI
open Go.Proofs Go.Shelf Go.RowKit Go.Sort Go.Lib
variable {E : Env} {ρ : Ren} {I : Imm} {η : Eta} {H : Hp} {w : World}

set_option maxHeartbeats 2000000 in
set_option maxRecDepth 100000 in
theorem vi_numDigits {P : Program} (L : LaysM.n284 P ρ) (u : Nat) (h1 : 1 ≤ u) (h2 : u < 18446744073709551616) (w : World)
    (htab : ∀ j, j < 20 → w.cell? ⟨ρ.g 17, j, none⟩ = some (.int .u64 (Lib.pow10Tab.getD j 0))) :
    Calls P (ρ.f 284) #[.int .u64 u] w fun e w' => e = .returned (.int .i64 (Lib.nDigits u)) ∧ w' = w := by
  have mixed := L.mixed
  have t53 := L.t53; have a53 := L.a53; have z53 := L.z53; have v53 := L.v53
  have t3 := L.t3; have a3 := L.a3; have z3 := L.z3; have v3 := L.v3
  have t212 := L.t212; have a212 := L.a212; have z212 := L.z212; have v212 := L.v212
  have t0 := L.t0; have a0 := L.a0; have z0 := L.z0; have v0 := L.v0
  have t4 := L.t4; have a4 := L.a4; have z4 := L.z4; have v4 := L.v4
  have e129 : ∀ args w, (callFunc (ρ.f 129) args).run P w = .ok (.enter (ρ.f 129) args) w := enters_of L.f129 (by kernel_rfl) rfl
  have e317 : ∀ args w, (callFunc (ρ.f 317) args).run P w = .ok (.enter (ρ.f 317) args) w := enters_of L.f317 (by kernel_rfl) rfl
  have e318 : ∀ args w, (callFunc (ρ.f 318) args).run P w = .ok (.enter (ρ.f 318) args) w := enters_of L.f318 (by kernel_rfl) rfl
  obtain ⟨hnd, h19⟩ := Lib.numDigits_eq u h1 h2
  have hL : Lib.bitLen u ≤ 64 := Lib.bitLen_le u 64 (Nat.le_refl _) h2
  have hcell : w.cell? ⟨(ρ.g 17), Lib.l10 (Lib.bitLen u), none⟩ = some (.int .u64 ((10 ^ Lib.l10 (Lib.bitLen u) : Nat) : Int)) := by
    rw [htab _ (by omega), Lib.pow10Tab_at _ (by omega)]
  have hto : ((u : Int)).toNat = u := by omega
  generalize hq : Lib.l10 (Lib.bitLen u) = q at hnd h19 hcell
  generalize hT : 10 ^ q = T at hnd hcell
  have h20 : q < 20 := by omega
  have Hnd := Lib.hid hnd
  clear hnd htab
  go_enter L.f284, Body.n284_ntmps ρ
  go_wp2_with (first
    | (go_at_fn (ρ.f 129); refine (Any.bits_Len64 { L with } _ _ (by omega) (by omega)).mono ?_; rintro e w' ⟨rfl, rfl⟩)
    | (go_at_fn (ρ.f 317); refine (Any.internal_strconv_log10Pow2 { L with } _ (by first | exact hL | (rw [hto]; exact hL)) _).mono ?_; rintro e w' ⟨rfl, rfl⟩)
    | (go_at_fn (ρ.f 318); refine (Any.internal_strconv_bool2_int { L with } _ _).mono ?_; rintro e w' ⟨rfl, rfl⟩))
  all_goals go_ret
  all_goals (
    refine ⟨?_, rfl⟩
    have hnd := Hnd.out
    congr 2
    split at hnd <;> simp_all <;> omega)

set_option maxHeartbeats 6400000 in
set_option maxRecDepth 100000 in
theorem vi_AppendUint_small (L : LaysM.n288 E.P ρ) (u : Nat) (hu : u < 100) (hC : Conc E I η H w) {s r : AV} {H' : Hp} {sv : Value} (rs : RelA I η H s sv)
    (h : appendE E H (ρ.t 37) (ρ.t 9) s (.i (.str (Lib.decDigits u))) = some (r, H')) :
    Calls E.P (ρ.f 288) #[sv, .int .u64 u, .int .i64 10] w fun e w' => ∃ x, e = .returned x ∧ After E I η H w H' w' fun I' η' => RelA I' η' H' r x := by
  have mixed := L.mixed
  have t5 := L.t5; have a5 := L.a5; have z5 := L.z5; have v5 := L.v5
  have t37 := L.t37; have u37 := run_underlying L.t37; have a37 := L.a37; have z37 := L.z37; have v37 := L.v37
  have t53 := L.t53; have a53 := L.a53; have z53 := L.z53; have v53 := L.v53
  have t3 := L.t3; have a3 := L.a3; have z3 := L.z3; have v3 := L.v3
  have t4 := L.t4; have a4 := L.a4; have z4 := L.z4; have v4 := L.v4
  have t9 := L.t9; have a9 := L.a9; have z9 := L.z9; have v9 := L.v9
  have t171 := L.t171; have a171 := L.a171; have z171 := L.z171; have v171 := L.v171
  have t0 := L.t0; have a0 := L.a0; have z0 := L.z0; have v0 := L.v0
  have t173 := L.t173; have a173 := L.a173; have z173 := L.z173; have v173 := L.v173
  have e283 : ∀ args w, (callFunc (ρ.f 283) args).run E.P w = .ok (.enter (ρ.f 283) args) w := enters_of L.f283 (by kernel_rfl) rfl
  go_enter L.f288, Body.n288_ntmps ρ
  go_wp2_with (first
    | (go_at_fn (ρ.f 283); refine (Any.internal_strconv_small { L with } u hu _).mono ?_; rintro e w' ⟨rfl, rfl⟩)
    | (at_builtin; refine wpList_append_vi rfl _ _ (ρ.t 37) (ρ.t 9) rfl h hC _ _ rfl rfl rs (.i _ _ (.str _)) ?_))
  intro x w1 I1 η1 hC1 hT1 hm1 hr1
  go_wp2
  go_ret
  exact ⟨x, rfl, I1, η1, hC1, hT1, hm1, hr1⟩

set_option maxHeartbeats 12800000 in
set_option maxRecDepth 100000 in
theorem vi_AppendUint_big (L : LaysM.n288 E.P ρ) (u : Nat) (hu : 100 ≤ u) (hu64 : u < 18446744073709551616) (hC : Conc E I η H w) {s r : AV} {H' : Hp} {sv : Value} (rs : RelA I η H s sv)
    (htab : ∀ j, j < 20 → w.cell? ⟨ρ.g 17, j, none⟩ = some (.int .u64 (Lib.pow10Tab.getD j 0)))
    (h : appendE E H (ρ.t 37) (ρ.t 9) s (.i (.str (Lib.decDigits u))) = some (r, H')) :
    Calls E.P (ρ.f 288) #[sv, .int .u64 u, .int .i64 10] w fun e w' => ∃ x, e = .returned x ∧ After E I η H w H' w' fun I' η' => RelA I' η' H' r x := by
  have mixed := L.mixed
  have t5 := L.t5; have a5 := L.a5; have z5 := L.z5; have v5 := L.v5
  have t37 := L.t37; have u37 := run_underlying L.t37; have a37 := L.a37; have z37 := L.z37; have v37 := L.v37
  have t53 := L.t53; have a53 := L.a53; have z53 := L.z53; have v53 := L.v53
  have t3 := L.t3; have a3 := L.a3; have z3 := L.z3; have v3 := L.v3
  have t4 := L.t4; have a4 := L.a4; have z4 := L.z4; have v4 := L.v4
  have t9 := L.t9; have a9 := L.a9; have z9 := L.z9; have v9 := L.v9
  have t171 := L.t171; have a171 := L.a171; have z171 := L.z171; have v171 := L.v171
  have t0 := L.t0; have a0 := L.a0; have z0 := L.z0; have v0 := L.v0
  have t173 := L.t173; have a173 := L.a173; have z173 := L.z173; have v173 := L.v173
  have e284 : ∀ args w, (callFunc (ρ.f 284) args).run E.P w = .ok (.enter (ρ.f 284) args) w := enters_of L.f284 (by kernel_rfl) rfl
  have e285 : ∀ args w, (callFunc (ρ.f 285) args).run E.P w = .ok (.enter (ρ.f 285) args) w := enters_of L.f285 (by kernel_rfl) rfl
  have hu1 : 1 ≤ u := by omega
  have hnd20 : Lib.nDigits u ≤ 20 := by have := Lib.numDigits_eq u hu1 hu64; split at this <;> omega
  have hal : E.P.arrayLen (ρ.t 171) = 24 := by simp [Program.arrayLen, L.t171]
  have hsl : ∀ W, (Instr.sliceAt (ρ.t 171) (.pointer (some ⟨w.heap.size, 0, none⟩)) none (some (.int .i64 (Lib.nDigits u : Int))) none).run E.P W = .ok (.slice (some ⟨w.heap.size, 0, none⟩) (Lib.nDigits u) 24) W := fun W => by
    rw [run_sliceAt_array_h W (ρ.t 171) ⟨w.heap.size, 0, none⟩ (by simp [Program.arrayLen, Program.elem, L.t171]) .i64 (Lib.nDigits u : Int) (by omega) (by rw [hal]; omega)]
    go_simp
  have hH0 := Lib.holds_zero0 w (ρ.t 171) (Lib.nDigits u) (by omega)
  have hfmt := Any.internal_strconv_formatBase10 { L with } w.heap.size 0 24 u (Array.replicate (Lib.nDigits u) 0) (w.alloc (.cells Lib.zeros24 (ρ.t 171))) hH0 (by rw [Array.size_replicate]; exact Lib.lt_pow_nDigits u) hu64 (by rw [Array.size_replicate]; omega)
  rw [Array.size_replicate] at hfmt
  have HH0 := Lib.hid hH0
  have iu : (100 : Int) ≤ (u : Int) := by omega
  have htab1 : ∀ o : Obj, ∀ j, j < 20 → (w.alloc o).cell? ⟨ρ.g 17, j, none⟩ = some (.int .u64 (Lib.pow10Tab.getD j 0)) := fun o j hj => by
    have h0 := htab j hj
    have hlt := World.block_lt_of_cell? w _ h0
    rw [World.cell?_of_block (heap_alloc_old w o hlt)]
    exact h0
  clear hH0 hal
  go_enter L.f288, Body.n288_ntmps ρ
  go_wp2_with (first
    | (go_at_fn (ρ.f 284); refine (vi_numDigits { L with } u hu1 hu64 _ (htab1 _)).mono ?_; rintro e w' ⟨rfl, rfl⟩))
  go_at_fn (ρ.f 285)
  refine hfmt.mono ?_
  rintro e w' ⟨rfl, k, v', dk, rfl, hF⟩
  have hcells : ∀ j u', (Lib.byteCells (Lib.decDigits u))[j]? = some u' → ((putRow (fun (b : UInt8) => Value.int .u8 (b.toNat : Int)) (w.alloc (.cells Lib.zeros24 (ρ.t 171))) w.heap.size 0 dk).drewN k).cell? ((⟨w.heap.size, 0, none⟩ : Addr).add j) = some u' := by
    intro j u' hj
    have hjl : j < (Lib.decDigits u).length := by
      have h5 := (List.getElem?_eq_some_iff.1 hj).1
      rwa [Lib.byteCells_length] at h5
    have e5 : (Lib.byteCells (Lib.decDigits u))[j]? = some (Value.int .u8 ((Lib.decDigits u)[j].toNat : Int)) := by simp [Lib.byteCells, hjl]
    rw [e5] at hj
    cases hj
    rw [Lib.row_is_numeral hF j hjl, Lib.add_plain, World.cell?_drewN]
    exact cell?_putRow (fun (b : UInt8) => Value.int .u8 (b.toNat : Int)) _ w.heap.size 0 _ dk HH0.out (by rw [hF.size, Array.size_replicate]) j (by rw [hF.size]; rw [Lib.decDigits_length] at hjl; exact hjl)
  obtain ⟨os, eo⟩ := Lib.fin_at w (.cells Lib.zeros24 (ρ.t 171)) dk k 0
  have ho2 : ((putRow (fun (b : UInt8) => Value.int .u8 (b.toNat : Int)) (w.alloc (.cells Lib.zeros24 (ρ.t 171))) w.heap.size 0 dk).drewN k).os = w.os := by rw [eo]; rfl
  have ht2 : ((putRow (fun (b : UInt8) => Value.int .u8 (b.toNat : Int)) (w.alloc (.cells Lib.zeros24 (ρ.t 171))) w.heap.size 0 dk).drewN k).tape = w.tape := by rw [eo]; rfl
  have hu2 : ((putRow (fun (b : UInt8) => Value.int .u8 (b.toNat : Int)) (w.alloc (.cells Lib.zeros24 (ρ.t 171))) w.heap.size 0 dk).drewN k).output = w.output := by rw [eo]; rfl
  have hold2 : ∀ b, b < w.heap.size → ((putRow (fun (b : UInt8) => Value.int .u8 (b.toNat : Int)) (w.alloc (.cells Lib.zeros24 (ρ.t 171))) w.heap.size 0 dk).drewN k).heap[b]? = w.heap[b]? := fun b hb => by rw [eo]; exact Lib.heap_grow_old w k os b hb
  have hlen0 : 0 < (Lib.decDigits u).length := by
    rw [Lib.decDigits_length]
    have h9 := Lib.lt_pow_nDigits u
    rcases Nat.eq_zero_or_pos (Lib.nDigits u) with e | e
    · rw [e] at h9; omega
    · exact e
  generalize (putRow (fun (b : UInt8) => Value.int .u8 (b.toNat : Int)) (w.alloc (.cells Lib.zeros24 (ρ.t 171))) w.heap.size 0 dk).drewN k = W2 at hcells ho2 ht2 hu2 hold2 ⊢
  clear eo HH0 hfmt
  -- the new block holds the digits
  obtain ⟨cs, elem, fz, hnew⟩ : ∃ cs elem fz, W2.heap[w.heap.size]? = some (.cells cs elem fz) := by
    have h0 := hcells 0 (Value.int .u8 ((Lib.decDigits u)[0].toNat : Int)) (by simp [Lib.byteCells, hlen0])
    simp only [World.cell?, Lib.add_plain] at h0
    split at h0
    · rename_i cs elem fz hh; exact ⟨cs, elem, fz, hh⟩
    · cases h0
  have hsz2 : w.heap.size < W2.heap.size := (Array.getElem?_eq_some_iff.1 hnew).1
  obtain ⟨I1, hC1, hT1, hm1, hI1⟩ := conc_new hC ho2 ht2 hu2 hsz2 hold2 hnew
  have hrow : RelI I1 (.sl 1 ((Lib.decDigits u).map fun b => [IV.v (.int .u8 b.toNat)]) false) (.slice (some ⟨w.heap.size, 0, none⟩) (Lib.nDigits u) 24) := by
    have hl : ((Lib.decDigits u).map fun b => [IV.v (.int .u8 b.toNat)]).length = Lib.nDigits u := by rw [List.length_map, Lib.decDigits_length]
    rw [← hl]
    refine .sl 1 _ false w.heap.size 0 24 cs elem fz (fun i _ => .int .u8 ((Lib.decDigits u).getD i 0).toNat) hI1 (by rw [hl]; omega) (fun e => by cases e) (fun i r hi => ?_) (fun i r j a hi ha => ?_) (fun i r j a hi ha => ?_)
    all_goals
      simp only [List.getElem?_map, Option.map_eq_some_iff] at hi
      obtain ⟨b, hb, rfl⟩ := hi
    · rfl
    · have hj : j = 0 := by
        have := (List.getElem?_eq_some_iff.1 ha).1
        simp at this; omega
      subst hj
      have h0 := hcells i (.int .u8 b.toNat) (by simp [Lib.byteCells, hb])
      simp only [World.cell?, Lib.add_plain, hnew] at h0
      simp [List.getD, hb]
      simpa using h0
    · have hj : j = 0 := by
        have := (List.getElem?_eq_some_iff.1 ha).1
        simp at this; omega
      subst hj
      simp at ha; subst ha
      simp [List.getD, hb]
      exact .v _ rfl
  have h' := app_bytes (ex := false) ⟨ρ.t 5, by simp [slO, L.t37]⟩ h
  go_wp2_with (at_builtin; refine wpList_append_vi rfl _ _ (ρ.t 37) (ρ.t 37) rfl h' hC1 _ _ rfl rfl (hm1 _ _ rs) (.i _ _ hrow) ?_)
  intro x w3 I2 η2 hC2 hT2 hm2 hr2
  go_wp2
  go_ret
  exact ⟨x, rfl, I2, η2, hC2, hT1.trans hT2, hm1.trans hm2, hr2⟩
end Go.VI

set_option linter.unusedSimpArgs false
set_option linter.unusedVariables false
namespace Go.VI
open Go.Proofs Go.Shelf Go.RowKit Go.Sort Go.Lib
variable {E : Env} {ρ : Ren} {I : Imm} {η : Eta} {H : Hp} {w : World}

set_option maxHeartbeats 6400000 in
set_option maxRecDepth 100000 in
theorem vi_AppendInt (L : LaysM.n249 E.P ρ) (u : Nat) (hu64 : u ≤ 9223372036854775807) (hC : Conc E I η H w) {s r : AV} {H' : Hp} {sv : Value} (rs : RelA I η H s sv)
    (htab : ∀ j, j < 20 → w.cell? ⟨ρ.g 17, j, none⟩ = some (.int .u64 (Lib.pow10Tab.getD j 0)))
    (h : appendE E H (ρ.t 37) (ρ.t 9) s (.i (.str (Lib.decDigits u))) = some (r, H')) :
    Calls E.P (ρ.f 249) #[sv, .int .i64 u, .int .i64 10] w fun e w' => ∃ x, e = .returned x ∧ After E I η H w H' w' fun I' η' => RelA I' η' H' r x := by
  have mixed := L.mixed
  have t5 := L.t5; have a5 := L.a5; have z5 := L.z5; have v5 := L.v5
  have t37 := L.t37; have u37 := run_underlying L.t37; have a37 := L.a37; have z37 := L.z37; have v37 := L.v37
  have t2 := L.t2; have a2 := L.a2; have z2 := L.z2; have v2 := L.v2
  have t3 := L.t3; have a3 := L.a3; have z3 := L.z3; have v3 := L.v3
  have t53 := L.t53; have a53 := L.a53; have z53 := L.z53; have v53 := L.v53
  have t4 := L.t4; have a4 := L.a4; have z4 := L.z4; have v4 := L.v4
  have e288 : ∀ args w, (callFunc (ρ.f 288) args).run E.P w = .ok (.enter (ρ.f 288) args) w := enters_of L.f288 (by kernel_rfl) rfl
  have hcall : Calls E.P (ρ.f 288) #[sv, .int .u64 u, .int .i64 10] w fun e w' => ∃ x, e = .returned x ∧ After E I η H w H' w' fun I' η' => RelA I' η' H' r x := by
    by_cases h100 : u < 100
    · exact vi_AppendUint_small { L with } u h100 hC rs h
    · exact vi_AppendUint_big { L with } u (by omega) (by omega) hC rs htab h
  have hn : ¬ ((u : Int) < 0) := by omega
  go_enter L.f249, Body.n249_ntmps ρ
  go_wp2_with (go_at_fn (ρ.f 288); refine (hcall).mono ?_; rintro e w2 ⟨v2, rfl, hA⟩)
  go_wp2
  first | go_ret | go_ret2
  exact ⟨v2, rfl, hA⟩

set_option maxRecDepth 100000 in
theorem vi_AppendIntP (L : LaysM.n176 E.P ρ) (u : Nat) (hu64 : u ≤ 9223372036854775807) (hC : Conc E I η H w) {s r : AV} {H' : Hp} {sv : Value} (rs : RelA I η H s sv)
    (htab : ∀ j, j < 20 → w.cell? ⟨ρ.g 17, j, none⟩ = some (.int .u64 (Lib.pow10Tab.getD j 0)))
    (h : appendE E H (ρ.t 37) (ρ.t 9) s (.i (.str (Lib.decDigits u))) = some (r, H')) :
    Calls E.P (ρ.f 176) #[sv, .int .i64 u, .int .i64 10] w fun e w' => ∃ x, e = .returned x ∧ After E I η H w H' w' fun I' η' => RelA I' η' H' r x := by
  have mixed := L.mixed
  have t5 := L.t5; have a5 := L.a5; have z5 := L.z5; have v5 := L.v5
  have t37 := L.t37; have u37 := run_underlying L.t37; have a37 := L.a37; have z37 := L.z37; have v37 := L.v37
  have t2 := L.t2; have a2 := L.a2; have z2 := L.z2; have v2 := L.v2
  have t3 := L.t3; have a3 := L.a3; have z3 := L.z3; have v3 := L.v3
  have e249 : ∀ args w, (callFunc (ρ.f 249) args).run E.P w = .ok (.enter (ρ.f 249) args) w := enters_of L.f249 (by kernel_rfl) rfl
  have hcall := vi_AppendInt { L with } u hu64 hC rs htab h
  go_enter L.f176, Body.n176_ntmps ρ
  go_wp2_with (go_at_fn (ρ.f 249); refine (hcall).mono ?_; rintro e w2 ⟨v2, rfl, hA⟩)
  go_wp2
  go_ret
  exact ⟨v2, rfl, hA⟩

theorem ext_appendInt (L : LaysM.n176 E.P ρ) (hg : E.glob (ρ.g 17) = some powT) : Ext1 E (ρ.f 176) (extAppendInt E.P (ρ.t 37) (ρ.t 9)) := by
  intro args H r H' hr I η w vs hC hA
  unfold extAppendInt at hr
  split at hr
  · rename_i s n b
    split at hr
    · rename_i hc
      obtain ⟨rfl, h0, h1⟩ := hc
      obtain ⟨x, y, z, rfl, r1, r2, r3⟩ := args_three hA
      obtain rfl := relA_v r2
      obtain rfl := relA_v r3
      obtain ⟨u, rfl⟩ : ∃ u : Nat, n = u := ⟨n.toNat, by omega⟩
      rw [appendE_P] at hr
      exact vi_AppendIntP L u (by omega) hC r1 (fun j hj => powT_cell hC hg j hj) hr
    · cases hr
  · cases hr
end Go.VI

namespace Go.VI
open Go.Proofs
set_option maxRecDepth 100000
set_option linter.unusedSimpArgs false
set_option linter.unusedVariables false
set_option maxHeartbeats 4000000
def lowB (n : Int) : Bool := decide (n < -1)
theorem c40 (n : Int) : ∃ L, callT E 40 [.i (.v (.int .i64 n))] [] = some (.i (.v (.bool (lowB n))), L) := by
  rw [callT_eq Tryd.func40 rfl fok40 (by simp [Tryd.ntmps40])]
  simp (disch := first | omega | (simp only [List.length_append, List.length_map, List.length_set, List.length_cons, List.length_nil, List.length_take, List.length_drop]; omega)) only [va0, va1, va2, va3, va4, va5, va6, va7, va8, va9, va10, va11, va12, va13, va14, vb0, vb1, vb2, vb3, w_i8, w_u8, w_i16, w_u16, w_i32, w_u32, w_i64, w_u64, lt_T, lt_F, le_T, le_F, nlt_T, nlt_F, nle_T, nle_F, List.take_of_length_le, gB, gcW, gcR, posIn, renA, renL, Chunk.ren, Chunk.refs, evOpD, touchD, stepC, isFresh, nFresh, freshOf, mkR, hole, evL, evH, opd, get, putD, ofVal, cellOf, loadE, behind, lenE, idxAddrE, idxE, addPtr, intE, strE, unE, convE, AV.int, AV.bool, AV.str, ivs, take, frameOf, firstRegion, refsA, refsL, one, cellsA, floatOk, apartT, List.map, if_true, if_false, E_P, E_glob0, reduceCtorEq, beq_self_eq_true, decide_true, decide_false, ↓reduceIte, Nat.reduceEqDiff, cond_true, cond_false, or_true, true_or, or_false, false_or, and_true, true_and, and_self, false_and, and_false, not_true, not_false_iff, Nat.reduceAdd, Nat.reduceSub, Nat.reduceMul, Nat.reduceLT, Nat.reduceLeDiff, Int.reduceToNat, Int.reduceLT, Int.reduceLE, Option.getD, Int.reduceMul, Int.reduceAdd, List.drop, List.take, Nat.reduceBEq, List.isEmpty, Int.reduceEq, Int.reduceNe, Int.reduceNeg, Int.reduceGT, Int.reduceGE, beq_true, beq_false, UInt8.reduceToNat, eqE, eq_self, foldE, maxE, minE, eq_T, eq_F, ndec, odec, adec, sdec, fillA, over, chop, List.replicate, leavesOk, leafOk, cellsEq, cellEq, E_byref, en40, lowB]
  exact ⟨_, rfl⟩
theorem ik40 (n : Int) (H : Hp) : isoK E (callT E) 40 [.i (.v (.int .i64 n))] H = some (.i (.v (.bool (lowB n))), H) := isoK_val rfl rfl rfl (c40 n)
theorem lf57 (l : List Int) (hl : l.length < 100000) (k : Nat) (hk : k ≤ l.length) : rl E 0 57 (loopAt Tryd.f57 0) [(0, .i (.sl 1 (rows64 l) false)), (1, .clo (.func 40) [] []), (7, .i (.v (.int .i64 l.length))), (8, .i (.v (.int .i64 k)))] [] =
    match ixF lowB (l.drop k) k with
    | some i => some (.ret, [(4, .i (.v (.int .i64 i)))], [])
    | none => some (.exit 0, [(0, .i (.sl 1 (rows64 l) false)), (1, .clo (.func 40) [] []), (7, .i (.v (.int .i64 l.length))), (8, .i (.v (.int .i64 l.length))), (9, .i (.v (.bool false)))], []) := by
  rw [rl_step (fn := Tryd.f57) (k := 0) rfl]
  by_cases hlt : k < l.length
  · have hrow := rows64_at hlt
    have ih := lf57 l hl (k + 1) hlt
    rw [List.drop_eq_getElem_cons hlt, ixF]
    generalize l[k] = a at *
    by_cases hp : lowB a = true
    · rw [if_pos hp]
      clear ih
      simp (disch := first | omega | (simp only [List.length_append, List.length_map, List.length_set, List.length_cons, List.length_nil, List.length_take, List.length_drop, rows64_len]; omega)) only [va0, va1, va2, va3, va4, va5, va6, va7, va8, va9, va10, va11, va12, va13, va14, vb0, vb1, vb2, vb3, w_i8, w_u8, w_i16, w_u16, w_i32, w_u32, w_i64, w_u64, lt_T, lt_F, le_T, le_F, nlt_T, nlt_F, nle_T, nle_F, List.take_of_length_le, gB, gcW, gcR, posIn, renA, renL, Chunk.ren, Chunk.refs, evOpD, touchD, stepC, isFresh, nFresh, freshOf, mkR, hole, evL, evH, opd, get, putD, ofVal, cellOf, loadE, behind, lenE, idxAddrE, idxE, addPtr, intE, strE, unE, convE, AV.int, AV.bool, AV.str, ivs, take, frameOf, firstRegion, refsA, refsL, one, cellsA, floatOk, apartT, List.map, if_true, if_false, E_P, E_glob0, reduceCtorEq, beq_self_eq_true, decide_true, decide_false, ↓reduceIte, Nat.reduceEqDiff, cond_true, cond_false, or_true, true_or, or_false, false_or, and_true, true_and, and_self, false_and, and_false, not_true, not_false_iff, Nat.reduceAdd, Nat.reduceSub, Nat.reduceMul, Nat.reduceLT, Nat.reduceLeDiff, Int.reduceToNat, Int.reduceLT, Int.reduceLE, Option.getD, Int.reduceMul, Int.reduceAdd, List.drop, List.take, Nat.reduceBEq, List.isEmpty, Int.reduceEq, Int.reduceNe, Int.reduceNeg, Int.reduceGT, Int.reduceGE, beq_true, beq_false, UInt8.reduceToNat, eqE, eq_self, foldE, maxE, minE, eq_T, eq_F, ndec, odec, adec, sdec, fillA, over, chop, List.replicate, leavesOk, leafOk, cellsEq, cellEq, E_byref, en57, bs29, hrow, rows64_len, ik40, hp, show ∀ B fr H, execT E B 57 (Code.loop _) fr H = rlG E B 57 (loopAt Tryd.f57 0) (gcn B (norm [0, 1, 7, 8] fr) H) from fun B fr H => rl_intro rfl mt57_2 mb57_2 zf57_2 hd57_2 fr H, ca40]
    · rw [if_neg hp, ← ih]
      clear ih
      rw [Bool.not_eq_true] at hp
      simp (disch := first | omega | (simp only [List.length_append, List.length_map, List.length_set, List.length_cons, List.length_nil, List.length_take, List.length_drop, rows64_len]; omega)) only [va0, va1, va2, va3, va4, va5, va6, va7, va8, va9, va10, va11, va12, va13, va14, vb0, vb1, vb2, vb3, w_i8, w_u8, w_i16, w_u16, w_i32, w_u32, w_i64, w_u64, lt_T, lt_F, le_T, le_F, nlt_T, nlt_F, nle_T, nle_F, List.take_of_length_le, gB, gcW, gcR, posIn, renA, renL, Chunk.ren, Chunk.refs, evOpD, touchD, stepC, isFresh, nFresh, freshOf, mkR, hole, evL, evH, opd, get, putD, ofVal, cellOf, loadE, behind, lenE, idxAddrE, idxE, addPtr, intE, strE, unE, convE, AV.int, AV.bool, AV.str, ivs, take, frameOf, firstRegion, refsA, refsL, one, cellsA, floatOk, apartT, List.map, if_true, if_false, E_P, E_glob0, reduceCtorEq, beq_self_eq_true, decide_true, decide_false, ↓reduceIte, Nat.reduceEqDiff, cond_true, cond_false, or_true, true_or, or_false, false_or, and_true, true_and, and_self, false_and, and_false, not_true, not_false_iff, Nat.reduceAdd, Nat.reduceSub, Nat.reduceMul, Nat.reduceLT, Nat.reduceLeDiff, Int.reduceToNat, Int.reduceLT, Int.reduceLE, Option.getD, Int.reduceMul, Int.reduceAdd, List.drop, List.take, Nat.reduceBEq, List.isEmpty, Int.reduceEq, Int.reduceNe, Int.reduceNeg, Int.reduceGT, Int.reduceGE, beq_true, beq_false, UInt8.reduceToNat, eqE, eq_self, foldE, maxE, minE, eq_T, eq_F, ndec, odec, adec, sdec, fillA, over, chop, List.replicate, leavesOk, leafOk, cellsEq, cellEq, E_byref, en57, bs29, hrow, rows64_len, ik40, hp, show ∀ B fr H, execT E B 57 (Code.loop _) fr H = rlG E B 57 (loopAt Tryd.f57 0) (gcn B (norm [0, 1, 7, 8] fr) H) from fun B fr H => rl_intro rfl mt57_2 mb57_2 zf57_2 hd57_2 fr H, ca40]
  · obtain rfl : k = l.length := by omega
    rw [List.drop_length, ixF]
    simp (disch := first | omega | (simp only [List.length_append, List.length_map, List.length_set, List.length_cons, List.length_nil, List.length_take, List.length_drop]; omega)) only [va0, va1, va2, va3, va4, va5, va6, va7, va8, va9, va10, va11, va12, va13, va14, vb0, vb1, vb2, vb3, w_i8, w_u8, w_i16, w_u16, w_i32, w_u32, w_i64, w_u64, lt_T, lt_F, le_T, le_F, nlt_T, nlt_F, nle_T, nle_F, List.take_of_length_le, gB, gcW, gcR, posIn, renA, renL, Chunk.ren, Chunk.refs, evOpD, touchD, stepC, isFresh, nFresh, freshOf, mkR, hole, evL, evH, opd, get, putD, ofVal, cellOf, loadE, behind, lenE, idxAddrE, idxE, addPtr, intE, strE, unE, convE, AV.int, AV.bool, AV.str, ivs, take, frameOf, firstRegion, refsA, refsL, one, cellsA, floatOk, apartT, List.map, if_true, if_false, E_P, E_glob0, reduceCtorEq, beq_self_eq_true, decide_true, decide_false, ↓reduceIte, Nat.reduceEqDiff, cond_true, cond_false, or_true, true_or, or_false, false_or, and_true, true_and, and_self, false_and, and_false, not_true, not_false_iff, Nat.reduceAdd, Nat.reduceSub, Nat.reduceMul, Nat.reduceLT, Nat.reduceLeDiff, Int.reduceToNat, Int.reduceLT, Int.reduceLE, Option.getD, Int.reduceMul, Int.reduceAdd, List.drop, List.take, Nat.reduceBEq, List.isEmpty, Int.reduceEq, Int.reduceNe, Int.reduceNeg, Int.reduceGT, Int.reduceGE, beq_true, beq_false, UInt8.reduceToNat, eqE, eq_self, foldE, maxE, minE, eq_T, eq_F, ndec, odec, adec, sdec, fillA, over, chop, List.replicate, leavesOk, leafOk, cellsEq, cellEq, E_byref, en57, bs29]
termination_by l.length - k
theorem cf57 (l : List Int) (hl : (l.length : Int) < 100000) : ∃ L, callT E 57 [.i (.sl 1 (rows64 l) false), .clo (.func 40) [] []] [] = some (.i (.v (.int .i64 (ixN (ixF lowB l 0)))), L) := by
  have h : rl E 0 57 (loopAt Tryd.f57 0) [(0, .i (.sl 1 (rows64 l) false)), (1, .clo (.func 40) [] []), (7, .i (.v (.int .i64 l.length))), (8, .i (.v (.int .i64 0)))] [] = _ := lf57 l (by omega) 0 (Nat.zero_le _)
  rw [List.drop_zero] at h
  rw [callT_eq Tryd.func57 rfl fok57 (by simp [Tryd.ntmps57])]
  cases hx : ixF lowB l 0 with
  | some i =>
    simp only [hx] at h
    simp (disch := first | omega | (simp only [List.length_append, List.length_map, List.length_set, List.length_cons, List.length_nil, List.length_take, List.length_drop, rows64_len]; omega)) only [va0, va1, va2, va3, va4, va5, va6, va7, va8, va9, va10, va11, va12, va13, va14, vb0, vb1, vb2, vb3, w_i8, w_u8, w_i16, w_u16, w_i32, w_u32, w_i64, w_u64, lt_T, lt_F, le_T, le_F, nlt_T, nlt_F, nle_T, nle_F, List.take_of_length_le, gB, gcW, gcR, posIn, renA, renL, Chunk.ren, Chunk.refs, evOpD, touchD, stepC, isFresh, nFresh, freshOf, mkR, hole, evL, evH, opd, get, putD, ofVal, cellOf, loadE, behind, lenE, idxAddrE, idxE, addPtr, intE, strE, unE, convE, AV.int, AV.bool, AV.str, ivs, take, frameOf, firstRegion, refsA, refsL, one, cellsA, floatOk, apartT, List.map, if_true, if_false, E_P, E_glob0, reduceCtorEq, beq_self_eq_true, decide_true, decide_false, ↓reduceIte, Nat.reduceEqDiff, cond_true, cond_false, or_true, true_or, or_false, false_or, and_true, true_and, and_self, false_and, and_false, not_true, not_false_iff, Nat.reduceAdd, Nat.reduceSub, Nat.reduceMul, Nat.reduceLT, Nat.reduceLeDiff, Int.reduceToNat, Int.reduceLT, Int.reduceLE, Option.getD, Int.reduceMul, Int.reduceAdd, List.drop, List.take, Nat.reduceBEq, List.isEmpty, Int.reduceEq, Int.reduceNe, Int.reduceNeg, Int.reduceGT, Int.reduceGE, beq_true, beq_false, UInt8.reduceToNat, eqE, eq_self, foldE, maxE, minE, eq_T, eq_F, ndec, odec, adec, sdec, fillA, over, chop, List.replicate, leavesOk, leafOk, cellsEq, cellEq, E_byref, en57, bs29, h, rows64_len, show ∀ B fr H, execT E B 57 (Code.loop _) fr H = rlG E B 57 (loopAt Tryd.f57 0) (gcn B (norm [0, 1, 7, 8] fr) H) from fun B fr H => rl_intro rfl mt57_2 mb57_2 zf57_2 hd57_2 fr H, ixN]
    exact ⟨_, rfl⟩
  | none =>
    simp only [hx] at h
    simp (disch := first | omega | (simp only [List.length_append, List.length_map, List.length_set, List.length_cons, List.length_nil, List.length_take, List.length_drop, rows64_len]; omega)) only [va0, va1, va2, va3, va4, va5, va6, va7, va8, va9, va10, va11, va12, va13, va14, vb0, vb1, vb2, vb3, w_i8, w_u8, w_i16, w_u16, w_i32, w_u32, w_i64, w_u64, lt_T, lt_F, le_T, le_F, nlt_T, nlt_F, nle_T, nle_F, List.take_of_length_le, gB, gcW, gcR, posIn, renA, renL, Chunk.ren, Chunk.refs, evOpD, touchD, stepC, isFresh, nFresh, freshOf, mkR, hole, evL, evH, opd, get, putD, ofVal, cellOf, loadE, behind, lenE, idxAddrE, idxE, addPtr, intE, strE, unE, convE, AV.int, AV.bool, AV.str, ivs, take, frameOf, firstRegion, refsA, refsL, one, cellsA, floatOk, apartT, List.map, if_true, if_false, E_P, E_glob0, reduceCtorEq, beq_self_eq_true, decide_true, decide_false, ↓reduceIte, Nat.reduceEqDiff, cond_true, cond_false, or_true, true_or, or_false, false_or, and_true, true_and, and_self, false_and, and_false, not_true, not_false_iff, Nat.reduceAdd, Nat.reduceSub, Nat.reduceMul, Nat.reduceLT, Nat.reduceLeDiff, Int.reduceToNat, Int.reduceLT, Int.reduceLE, Option.getD, Int.reduceMul, Int.reduceAdd, List.drop, List.take, Nat.reduceBEq, List.isEmpty, Int.reduceEq, Int.reduceNe, Int.reduceNeg, Int.reduceGT, Int.reduceGE, beq_true, beq_false, UInt8.reduceToNat, eqE, eq_self, foldE, maxE, minE, eq_T, eq_F, ndec, odec, adec, sdec, fillA, over, chop, List.replicate, leavesOk, leafOk, cellsEq, cellEq, E_byref, en57, bs29, h, rows64_len, show ∀ B fr H, execT E B 57 (Code.loop _) fr H = rlG E B 57 (loopAt Tryd.f57 0) (gcn B (norm [0, 1, 7, 8] fr) H) from fun B fr H => rl_intro rfl mt57_2 mb57_2 zf57_2 hd57_2 fr H, ixN]
    exact ⟨_, rfl⟩
theorem ikf57 (l : List Int) (hl : (l.length : Int) < 100000) (H : Hp) : isoK E (callT E) 57 [.i (.sl 1 (rows64 l) false), .clo (.func 40) [] []] H = some (.i (.v (.int .i64 (ixN (ixF lowB l 0)))), H) := isoK_val rfl rfl rfl (cf57 l hl)
theorem cf39 (l : List Int) (hl : (l.length : Int) < 100000) : ∃ L, callT E 39 [.i (.sl 1 (rows64 l) false), .clo (.func 40) [] []] [] = some (.i (.v (.bool (l.any lowB))), L) := by
  have hd : decide (0 ≤ ixN (ixF lowB l 0)) = l.any lowB := ixF_dec lowB l 0
  rw [callT_eq Tryd.func39 rfl fok39 (by simp [Tryd.ntmps39])]
  simp (disch := first | omega | (simp only [List.length_append, List.length_map, List.length_set, List.length_cons, List.length_nil, List.length_take, List.length_drop]; omega)) only [va0, va1, va2, va3, va4, va5, va6, va7, va8, va9, va10, va11, va12, va13, va14, vb0, vb1, vb2, vb3, w_i8, w_u8, w_i16, w_u16, w_i32, w_u32, w_i64, w_u64, lt_T, lt_F, le_T, le_F, nlt_T, nlt_F, nle_T, nle_F, List.take_of_length_le, gB, gcW, gcR, posIn, renA, renL, Chunk.ren, Chunk.refs, evOpD, touchD, stepC, isFresh, nFresh, freshOf, mkR, hole, evL, evH, opd, get, putD, ofVal, cellOf, loadE, behind, lenE, idxAddrE, idxE, addPtr, intE, strE, unE, convE, AV.int, AV.bool, AV.str, ivs, take, frameOf, firstRegion, refsA, refsL, one, cellsA, floatOk, apartT, List.map, if_true, if_false, E_P, E_glob0, reduceCtorEq, beq_self_eq_true, decide_true, decide_false, ↓reduceIte, Nat.reduceEqDiff, cond_true, cond_false, or_true, true_or, or_false, false_or, and_true, true_and, and_self, false_and, and_false, not_true, not_false_iff, Nat.reduceAdd, Nat.reduceSub, Nat.reduceMul, Nat.reduceLT, Nat.reduceLeDiff, Int.reduceToNat, Int.reduceLT, Int.reduceLE, Option.getD, Int.reduceMul, Int.reduceAdd, List.drop, List.take, Nat.reduceBEq, List.isEmpty, Int.reduceEq, Int.reduceNe, Int.reduceNeg, Int.reduceGT, Int.reduceGE, beq_true, beq_false, UInt8.reduceToNat, eqE, eq_self, foldE, maxE, minE, eq_T, eq_F, ndec, odec, adec, sdec, fillA, over, chop, List.replicate, leavesOk, leafOk, cellsEq, cellEq, E_byref, en39, bs29, ikf57, hd]
  exact ⟨_, rfl⟩
theorem ikf39 (l : List Int) (hl : (l.length : Int) < 100000) (H : Hp) : isoK E (callT E) 39 [.i (.sl 1 (rows64 l) false), .clo (.func 40) [] []] H = some (.i (.v (.bool (l.any lowB))), H) := isoK_val rfl rfl rfl (cf39 l hl)
def numB (n : Int) : List UInt8 := if 0 ≤ n then Lib.decDigits n.toNat else []
theorem numB_len (n : Int) (h : n ≤ 9223372036854775807) : (numB n).length ≤ 20 := by
  unfold numB
  split
  · rw [Lib.decDigits_length]
    by_cases h0 : n.toNat = 0
    · rw [h0, Lib.nDigits_small (by decide)]; decide
    · have := Lib.numDigits_eq n.toNat (by omega) (by omega)
      split at this <;> omega
  · simp
theorem ik42 {H : Hp} {c g n : Nat} {a : List UInt8} (x : Int) (h0 : 0 ≤ x) (h1 : x ≤ 9223372036854775807) (hn : n = a.length) (hl : n < 1000000) (hH : H[c]? = some (.sl 1 g (rowsB a) false)) :
    isoK E (callT E) 42 [.ref c g 0 n, .i (.v (.int .i64 x)), .i (.v (.int .i64 10))] H = some (.ref c (g + 1) 0 (n + (numB x).length), H.set c (.sl 1 (g + 1) (rowsB (a ++ numB x)) false)) := by
  have h20 := numB_len x h1
  have hx : Lib.decDigits x.toNat = numB x := by rw [numB, if_pos h0]
  refine isoK_app xk42 hH rfl ?_
  have e1 : (n : Int) = (rowsB a).length := by rw [rowsB_len, hn]
  subst hn
  simp only [extAppendInt]
  rw [if_pos ⟨trivial, h0, h1⟩, show appendE (envP Tryd.prog) = appendE E from appendE_P E, hx]
  generalize numB x = ds at *
  rw [ap_eq (z := 1) (by kernel_rfl)]
  simp only [srcE, bytes_map, apS, apV, apC, List.getElem?_cons_zero, rowsB_len, or_true, true_and, if_true, rowsB_take a _ (Nat.le_refl _), rowsB_app, Bool.false_and]
  rw [if_pos (by omega)]
  rfl
end Go.VI

namespace Go.VI
open Go.Proofs
set_option maxRecDepth 100000
set_option linter.unusedSimpArgs false
set_option linter.unusedVariables false
set_option maxHeartbeats 4000000
theorem fd {r : Int} (k n : Nat) (hk : k ≤ 31) (hn : 2 ^ k = n) (h0 : 0 < n) : r.fdiv (2 ^ min k IntKind.i32.bits) = r / n := by
  have : min k IntKind.i32.bits = k := by show min k 32 = k; omega
  rw [this]
  have h2 : ((2 : Int) ^ k) = (n : Int) := by rw [← hn]; simp
  rw [h2, Int.fdiv_eq_ediv_of_nonneg _ (by omega)]
theorem or_all : ∀ n : Nat, n < 64 → bitsE .or .u8 128 (n : Int) = some (128 + (n : Int)) ∧ (n < 32 → bitsE .or .u8 192 (n : Int) = some (192 + (n : Int))) ∧ (n < 16 → bitsE .or .u8 224 (n : Int) = some (224 + (n : Int))) ∧ (n < 8 → bitsE .or .u8 240 (n : Int) = some (240 + (n : Int))) := by decide +kernel
theorem or128 {v : Int} (h0 : 0 ≤ v) (h1 : v < 64) : bitsE .or .u8 128 v = some (128 + v) := by
  obtain ⟨n, rfl⟩ : ∃ n : Nat, v = n := ⟨v.toNat, by omega⟩
  exact (or_all n (by omega)).1
theorem or192 {v : Int} (h0 : 0 ≤ v) (h1 : v < 32) : bitsE .or .u8 192 v = some (192 + v) := by
  obtain ⟨n, rfl⟩ : ∃ n : Nat, v = n := ⟨v.toNat, by omega⟩
  exact (or_all n (by omega)).2.1 (by omega)
theorem or224 {v : Int} (h0 : 0 ≤ v) (h1 : v < 16) : bitsE .or .u8 224 v = some (224 + v) := by
  obtain ⟨n, rfl⟩ : ∃ n : Nat, v = n := ⟨v.toNat, by omega⟩
  exact (or_all n (by omega)).2.2.1 (by omega)
theorem or240 {v : Int} (h0 : 0 ≤ v) (h1 : v < 8) : bitsE .or .u8 240 v = some (240 + v) := by
  obtain ⟨n, rfl⟩ : ∃ n : Nat, v = n := ⟨v.toNat, by omega⟩
  exact (or_all n (by omega)).2.2.2 (by omega)
end Go.VI

namespace Go.VI
open Go.Proofs
set_option maxRecDepth 100000
set_option linter.unusedSimpArgs false
set_option linter.unusedVariables false
set_option maxHeartbeats 4000000
theorem rowsB_2 (a : List UInt8) (x y : Int) (hx : 0 ≤ x ∧ x < 256) (hy : 0 ≤ y ∧ y < 256) : rowsB a ++ [[.v (.int .u8 x)], [.v (.int .u8 y)]] = rowsB (a ++ [UInt8.ofNat x.toNat, UInt8.ofNat y.toNat]) := by
  have e : ∀ z : Int, 0 ≤ z ∧ z < 256 → ((UInt8.ofNat z.toNat).toNat : Int) = z := fun z h => by rw [UInt8.toNat_ofNat', Nat.mod_eq_of_lt (by omega)]; omega
  simp only [rowsB, List.map_append, List.map_cons, List.map_nil, e x hx, e y hy]
theorem c54_2 (r : Int) (h0 : 128 ≤ r) (h1 : r ≤ 2047) (a : List UInt8) (hl : a.length < 1000000) : ∃ L, callT E 54 [.ref 0 0 0 a.length, .i (.v (.int .i32 r))] [.sl 1 0 (rowsB a) false] =
    some (.ref 0 1 0 (a.length + 2), .sl 1 1 (rowsB (a ++ [UInt8.ofNat (192 + r / 64).toNat, UInt8.ofNat (128 + r % 64).toNat])) false :: L) := by
  have f1 := fd (r := r) 6 64 (by decide) (by decide) (by decide)
  have f2 : IntKind.u8.wrap (r / (64 : Nat)) = r / 64 := by rw [IntKind.wrap_u8']; omega
  have f3 : IntKind.u8.wrap r = r % 256 := by rw [IntKind.wrap_u8']
  have f4 := or192 (v := r / 64) (by omega) (by omega)
  have f5 := and63 (b := r % 256) (by omega) (by omega)
  have f6 : r % 256 % 64 = r % 64 := by omega
  have f7 := or128 (v := r % 64) (by omega) (by omega)
  rw [← rowsB_2 a (192 + r / 64) (128 + r % 64) (by omega) (by omega)]
  rw [callT_eq Tryd.func54 rfl fok54 (by simp [Tryd.ntmps54])]
  simp (disch := first | omega | (simp only [List.length_append, List.length_map, List.length_set, List.length_cons, List.length_nil, List.length_take, List.length_drop, rowsB_len]; omega)) only [va0, va1, va2, va3, va4, va5, va6, va7, va8, va9, va10, va11, va12, va13, va14, vb0, vb1, vb2, vb3, w_i8, w_u8, w_i16, w_u16, w_i32, w_u32, w_i64, w_u64, lt_T, lt_F, le_T, le_F, nlt_T, nlt_F, nle_T, nle_F, List.take_of_length_le, gB, gcW, gcR, posIn, renA, renL, Chunk.ren, Chunk.refs, evOpD, touchD, stepC, isFresh, nFresh, freshOf, mkR, hole, evL, evH, opd, get, putD, ofVal, cellOf, loadE, behind, lenE, idxAddrE, idxE, addPtr, intE, strE, unE, convE, AV.int, AV.bool, AV.str, ivs, take, frameOf, firstRegion, refsA, refsL, one, cellsA, floatOk, apartT, List.map, if_true, if_false, E_P, E_glob0, reduceCtorEq, beq_self_eq_true, decide_true, decide_false, ↓reduceIte, Nat.reduceEqDiff, cond_true, cond_false, or_true, true_or, or_false, false_or, and_true, true_and, and_self, false_and, and_false, not_true, not_false_iff, Nat.reduceAdd, Nat.reduceSub, Nat.reduceMul, Nat.reduceLT, Nat.reduceLeDiff, Int.reduceToNat, Int.reduceLT, Int.reduceLE, Option.getD, Int.reduceMul, Int.reduceAdd, List.drop, List.take, Nat.reduceBEq, List.isEmpty, Int.reduceEq, Int.reduceNe, Int.reduceNeg, Int.reduceGT, Int.reduceGE, beq_true, beq_false, UInt8.reduceToNat, eqE, eq_self, foldE, maxE, minE, eq_T, eq_F, ndec, odec, adec, sdec, fillA, over, chop, List.replicate, leavesOk, leafOk, cellsEq, cellEq, E_byref, en54, bs47, rowsB_len, f1, f2, f3, f4, f5, f6, f7, Option.map_some]
  exact ⟨_, rfl⟩
end Go.VI

namespace Go.VI
open Go.Proofs
set_option maxRecDepth 100000
set_option linter.unusedSimpArgs false
set_option linter.unusedVariables false
set_option maxHeartbeats 4000000
def by8 (l : List Int) : List UInt8 := l.map fun x => UInt8.ofNat x.toNat
theorem rowsB_by8 (a : List UInt8) (l : List Int) (h : ∀ x ∈ l, 0 ≤ x ∧ x < 256) : rowsB a ++ (l.map fun x => [IV.v (.int .u8 x)]) = rowsB (a ++ by8 l) := by
  have e : ∀ z : Int, 0 ≤ z ∧ z < 256 → ((UInt8.ofNat z.toNat).toNat : Int) = z := fun z h => by rw [UInt8.toNat_ofNat', Nat.mod_eq_of_lt (by omega)]; omega
  simp only [rowsB, by8, List.map_append, List.map_map, List.append_cancel_left_eq]
  exact List.map_congr_left fun x hx => by simp only [Function.comp, e x (h x hx)]
theorem c54_3 (r : Int) (h0 : 2048 ≤ r) (h1 : r ≤ 65535) (hs : r < 55296 ∨ 57343 < r) (a : List UInt8) (hl : a.length < 1000000) : ∃ L, callT E 54 [.ref 0 0 0 a.length, .i (.v (.int .i32 r))] [.sl 1 0 (rowsB a) false] =
    some (.ref 0 1 0 (a.length + 3), .sl 1 1 (rowsB (a ++ by8 [224 + r / 4096, 128 + r / 64 % 64, 128 + r % 64])) false :: L) := by
  have f1 : r.fdiv (2 ^ min 6 IntKind.i32.bits) = r / 64 := fd (r := r) 6 64 (by decide) (by decide) (by decide)
  have f0 : r.fdiv (2 ^ min 12 IntKind.i32.bits) = r / 4096 := fd (r := r) 12 4096 (by decide) (by decide) (by decide)
  have f2 : IntKind.u8.wrap (r / 4096) = r / 4096 := by rw [IntKind.wrap_u8']; omega
  have f3 : IntKind.u8.wrap r = r % 256 := by rw [IntKind.wrap_u8']
  have f8 : IntKind.u8.wrap (r / 64) = r / 64 % 256 := by rw [IntKind.wrap_u8']
  have f4 := or224 (v := r / 4096) (by omega) (by omega)
  have f5 := and63 (b := r % 256) (by omega) (by omega)
  have f6 : r % 256 % 64 = r % 64 := by omega
  have f7 := or128 (v := r % 64) (by omega) (by omega)
  have f9 := and63 (b := r / 64 % 256) (by omega) (by omega)
  have f10 : r / 64 % 256 % 64 = r / 64 % 64 := by omega
  have f11 := or128 (v := r / 64 % 64) (by omega) (by omega)
  rw [← rowsB_by8 a [224 + r / 4096, 128 + r / 64 % 64, 128 + r % 64] (by simp only [List.mem_cons, List.not_mem_nil, or_false]; rintro x (rfl | rfl | rfl) <;> omega)]
  by_cases hlo : r < 55296
  · rw [callT_eq Tryd.func54 rfl fok54 (by simp [Tryd.ntmps54])]
    simp (disch := first | omega | (simp only [List.length_append, List.length_map, List.length_set, List.length_cons, List.length_nil, List.length_take, List.length_drop, rowsB_len]; omega)) only [va0, va1, va2, va3, va4, va5, va6, va7, va8, va9, va10, va11, va12, va13, va14, vb0, vb1, vb2, vb3, w_i8, w_u8, w_i16, w_u16, w_i32, w_u32, w_i64, w_u64, lt_T, lt_F, le_T, le_F, nlt_T, nlt_F, nle_T, nle_F, List.take_of_length_le, gB, gcW, gcR, posIn, renA, renL, Chunk.ren, Chunk.refs, evOpD, touchD, stepC, isFresh, nFresh, freshOf, mkR, hole, evL, evH, opd, get, putD, ofVal, cellOf, loadE, behind, lenE, idxAddrE, idxE, addPtr, intE, strE, unE, convE, AV.int, AV.bool, AV.str, ivs, take, frameOf, firstRegion, refsA, refsL, one, cellsA, floatOk, apartT, List.map, if_true, if_false, E_P, E_glob0, reduceCtorEq, beq_self_eq_true, decide_true, decide_false, ↓reduceIte, Nat.reduceEqDiff, cond_true, cond_false, or_true, true_or, or_false, false_or, and_true, true_and, and_self, false_and, and_false, not_true, not_false_iff, Nat.reduceAdd, Nat.reduceSub, Nat.reduceMul, Nat.reduceLT, Nat.reduceLeDiff, Int.reduceToNat, Int.reduceLT, Int.reduceLE, Option.getD, Int.reduceMul, Int.reduceAdd, List.drop, List.take, Nat.reduceBEq, List.isEmpty, Int.reduceEq, Int.reduceNe, Int.reduceNeg, Int.reduceGT, Int.reduceGE, beq_true, beq_false, UInt8.reduceToNat, eqE, eq_self, foldE, maxE, minE, eq_T, eq_F, ndec, odec, adec, sdec, fillA, over, chop, List.replicate, leavesOk, leafOk, cellsEq, cellEq, E_byref, en54, bs47, rowsB_len, f0, f1, f2, f3, f4, f5, f6, f7, f8, f9, f10, f11, Option.map_some]
    exact ⟨_, rfl⟩
  · rw [callT_eq Tryd.func54 rfl fok54 (by simp [Tryd.ntmps54])]
    simp (disch := first | omega | (simp only [List.length_append, List.length_map, List.length_set, List.length_cons, List.length_nil, List.length_take, List.length_drop, rowsB_len]; omega)) only [va0, va1, va2, va3, va4, va5, va6, va7, va8, va9, va10, va11, va12, va13, va14, vb0, vb1, vb2, vb3, w_i8, w_u8, w_i16, w_u16, w_i32, w_u32, w_i64, w_u64, lt_T, lt_F, le_T, le_F, nlt_T, nlt_F, nle_T, nle_F, List.take_of_length_le, gB, gcW, gcR, posIn, renA, renL, Chunk.ren, Chunk.refs, evOpD, touchD, stepC, isFresh, nFresh, freshOf, mkR, hole, evL, evH, opd, get, putD, ofVal, cellOf, loadE, behind, lenE, idxAddrE, idxE, addPtr, intE, strE, unE, convE, AV.int, AV.bool, AV.str, ivs, take, frameOf, firstRegion, refsA, refsL, one, cellsA, floatOk, apartT, List.map, if_true, if_false, E_P, E_glob0, reduceCtorEq, beq_self_eq_true, decide_true, decide_false, ↓reduceIte, Nat.reduceEqDiff, cond_true, cond_false, or_true, true_or, or_false, false_or, and_true, true_and, and_self, false_and, and_false, not_true, not_false_iff, Nat.reduceAdd, Nat.reduceSub, Nat.reduceMul, Nat.reduceLT, Nat.reduceLeDiff, Int.reduceToNat, Int.reduceLT, Int.reduceLE, Option.getD, Int.reduceMul, Int.reduceAdd, List.drop, List.take, Nat.reduceBEq, List.isEmpty, Int.reduceEq, Int.reduceNe, Int.reduceNeg, Int.reduceGT, Int.reduceGE, beq_true, beq_false, UInt8.reduceToNat, eqE, eq_self, foldE, maxE, minE, eq_T, eq_F, ndec, odec, adec, sdec, fillA, over, chop, List.replicate, leavesOk, leafOk, cellsEq, cellEq, E_byref, en54, bs47, rowsB_len, f0, f1, f2, f3, f4, f5, f6, f7, f8, f9, f10, f11, Option.map_some]
    exact ⟨_, rfl⟩
end Go.VI

namespace Go.VI
open Go.Proofs
set_option maxRecDepth 100000
set_option linter.unusedSimpArgs false
set_option linter.unusedVariables false
set_option maxHeartbeats 4000000
theorem c54_4 (r : Int) (h0 : 65536 ≤ r) (h1 : r ≤ 1114111) (a : List UInt8) (hl : a.length < 1000000) : ∃ L, callT E 54 [.ref 0 0 0 a.length, .i (.v (.int .i32 r))] [.sl 1 0 (rowsB a) false] =
    some (.ref 0 1 0 (a.length + 4), .sl 1 1 (rowsB (a ++ by8 [240 + r / 262144, 128 + r / 4096 % 64, 128 + r / 64 % 64, 128 + r % 64])) false :: L) := by
  have f1 : r.fdiv (2 ^ min 6 IntKind.i32.bits) = r / 64 := fd (r := r) 6 64 (by decide) (by decide) (by decide)
  have f0 : r.fdiv (2 ^ min 12 IntKind.i32.bits) = r / 4096 := fd (r := r) 12 4096 (by decide) (by decide) (by decide)
  have f12 : r.fdiv (2 ^ min 18 IntKind.i32.bits) = r / 262144 := fd (r := r) 18 262144 (by decide) (by decide) (by decide)
  have f2 : IntKind.u8.wrap (r / 262144) = r / 262144 := by rw [IntKind.wrap_u8']; omega
  have f3 : IntKind.u8.wrap r = r % 256 := by rw [IntKind.wrap_u8']
  have f8 : IntKind.u8.wrap (r / 64) = r / 64 % 256 := by rw [IntKind.wrap_u8']
  have f13 : IntKind.u8.wrap (r / 4096) = r / 4096 % 256 := by rw [IntKind.wrap_u8']
  have f4 := or240 (v := r / 262144) (by omega) (by omega)
  have f5 := and63 (b := r % 256) (by omega) (by omega)
  have f6 : r % 256 % 64 = r % 64 := by omega
  have f7 := or128 (v := r % 64) (by omega) (by omega)
  have f9 := and63 (b := r / 64 % 256) (by omega) (by omega)
  have f10 : r / 64 % 256 % 64 = r / 64 % 64 := by omega
  have f11 := or128 (v := r / 64 % 64) (by omega) (by omega)
  have f14 := and63 (b := r / 4096 % 256) (by omega) (by omega)
  have f15 : r / 4096 % 256 % 64 = r / 4096 % 64 := by omega
  have f16 := or128 (v := r / 4096 % 64) (by omega) (by omega)
  rw [← rowsB_by8 a [240 + r / 262144, 128 + r / 4096 % 64, 128 + r / 64 % 64, 128 + r % 64] (by simp only [List.mem_cons, List.not_mem_nil, or_false]; rintro x (rfl | rfl | rfl | rfl) <;> omega)]
  rw [callT_eq Tryd.func54 rfl fok54 (by simp [Tryd.ntmps54])]
  simp (disch := first | omega | (simp only [List.length_append, List.length_map, List.length_set, List.length_cons, List.length_nil, List.length_take, List.length_drop, rowsB_len]; omega)) only [va0, va1, va2, va3, va4, va5, va6, va7, va8, va9, va10, va11, va12, va13, va14, vb0, vb1, vb2, vb3, w_i8, w_u8, w_i16, w_u16, w_i32, w_u32, w_i64, w_u64, lt_T, lt_F, le_T, le_F, nlt_T, nlt_F, nle_T, nle_F, List.take_of_length_le, gB, gcW, gcR, posIn, renA, renL, Chunk.ren, Chunk.refs, evOpD, touchD, stepC, isFresh, nFresh, freshOf, mkR, hole, evL, evH, opd, get, putD, ofVal, cellOf, loadE, behind, lenE, idxAddrE, idxE, addPtr, intE, strE, unE, convE, AV.int, AV.bool, AV.str, ivs, take, frameOf, firstRegion, refsA, refsL, one, cellsA, floatOk, apartT, List.map, if_true, if_false, E_P, E_glob0, reduceCtorEq, beq_self_eq_true, decide_true, decide_false, ↓reduceIte, Nat.reduceEqDiff, cond_true, cond_false, or_true, true_or, or_false, false_or, and_true, true_and, and_self, false_and, and_false, not_true, not_false_iff, Nat.reduceAdd, Nat.reduceSub, Nat.reduceMul, Nat.reduceLT, Nat.reduceLeDiff, Int.reduceToNat, Int.reduceLT, Int.reduceLE, Option.getD, Int.reduceMul, Int.reduceAdd, List.drop, List.take, Nat.reduceBEq, List.isEmpty, Int.reduceEq, Int.reduceNe, Int.reduceNeg, Int.reduceGT, Int.reduceGE, beq_true, beq_false, UInt8.reduceToNat, eqE, eq_self, foldE, maxE, minE, eq_T, eq_F, ndec, odec, adec, sdec, fillA, over, chop, List.replicate, leavesOk, leafOk, cellsEq, cellEq, E_byref, en54, bs47, rowsB_len, f0, f1, f2, f3, f4, f5, f6, f7, f8, f9, f10, f11, f12, f13, f14, f15, f16, Option.map_some]
  exact ⟨_, rfl⟩
end Go.VI

namespace Go.VI
open Go.Proofs
set_option maxRecDepth 100000
set_option linter.unusedSimpArgs false
set_option linter.unusedVariables false
set_option maxHeartbeats 4000000
theorem c54_e (r : Int) (hr : -2147483648 ≤ r ∧ r ≤ 2147483647) (h : r < 0 ∨ (55296 ≤ r ∧ r ≤ 57343) ∨ 1114111 < r) (a : List UInt8) (hl : a.length < 1000000) : ∃ L, callT E 54 [.ref 0 0 0 a.length, .i (.v (.int .i32 r))] [.sl 1 0 (rowsB a) false] =
    some (.ref 0 1 0 (a.length + 3), .sl 1 1 (rowsB (a ++ by8 [239, 191, 189])) false :: L) := by
  rw [← rowsB_by8 a [239, 191, 189] (by decide)]
  rcases h with h | h | h
  · have hw : IntKind.u32.wrap r = r + 4294967296 := by simp [IntKind.wrap, IntKind.bits, IntKind.signed]; omega
    rw [callT_eq Tryd.func54 rfl fok54 (by simp [Tryd.ntmps54])]
    simp (disch := first | omega | (simp only [List.length_append, List.length_map, List.length_set, List.length_cons, List.length_nil, List.length_take, List.length_drop, rowsB_len]; omega)) only [va0, va1, va2, va3, va4, va5, va6, va7, va8, va9, va10, va11, va12, va13, va14, vb0, vb1, vb2, vb3, w_i8, w_u8, w_i16, w_u16, w_i32, w_u32, w_i64, w_u64, lt_T, lt_F, le_T, le_F, nlt_T, nlt_F, nle_T, nle_F, List.take_of_length_le, gB, gcW, gcR, posIn, renA, renL, Chunk.ren, Chunk.refs, evOpD, touchD, stepC, isFresh, nFresh, freshOf, mkR, hole, evL, evH, opd, get, putD, ofVal, cellOf, loadE, behind, lenE, idxAddrE, idxE, addPtr, intE, strE, unE, convE, AV.int, AV.bool, AV.str, ivs, take, frameOf, firstRegion, refsA, refsL, one, cellsA, floatOk, apartT, List.map, if_true, if_false, E_P, E_glob0, reduceCtorEq, beq_self_eq_true, decide_true, decide_false, ↓reduceIte, Nat.reduceEqDiff, cond_true, cond_false, or_true, true_or, or_false, false_or, and_true, true_and, and_self, false_and, and_false, not_true, not_false_iff, Nat.reduceAdd, Nat.reduceSub, Nat.reduceMul, Nat.reduceLT, Nat.reduceLeDiff, Int.reduceToNat, Int.reduceLT, Int.reduceLE, Option.getD, Int.reduceMul, Int.reduceAdd, List.drop, List.take, Nat.reduceBEq, List.isEmpty, Int.reduceEq, Int.reduceNe, Int.reduceNeg, Int.reduceGT, Int.reduceGE, beq_true, beq_false, UInt8.reduceToNat, eqE, eq_self, foldE, maxE, minE, eq_T, eq_F, ndec, odec, adec, sdec, fillA, over, chop, List.replicate, leavesOk, leafOk, cellsEq, cellEq, E_byref, en54, bs47, rowsB_len, hw, List.map_cons, List.map_nil]
    exact ⟨_, rfl⟩
  · rw [callT_eq Tryd.func54 rfl fok54 (by simp [Tryd.ntmps54])]
    simp (disch := first | omega | (simp only [List.length_append, List.length_map, List.length_set, List.length_cons, List.length_nil, List.length_take, List.length_drop, rowsB_len]; omega)) only [va0, va1, va2, va3, va4, va5, va6, va7, va8, va9, va10, va11, va12, va13, va14, vb0, vb1, vb2, vb3, w_i8, w_u8, w_i16, w_u16, w_i32, w_u32, w_i64, w_u64, lt_T, lt_F, le_T, le_F, nlt_T, nlt_F, nle_T, nle_F, List.take_of_length_le, gB, gcW, gcR, posIn, renA, renL, Chunk.ren, Chunk.refs, evOpD, touchD, stepC, isFresh, nFresh, freshOf, mkR, hole, evL, evH, opd, get, putD, ofVal, cellOf, loadE, behind, lenE, idxAddrE, idxE, addPtr, intE, strE, unE, convE, AV.int, AV.bool, AV.str, ivs, take, frameOf, firstRegion, refsA, refsL, one, cellsA, floatOk, apartT, List.map, if_true, if_false, E_P, E_glob0, reduceCtorEq, beq_self_eq_true, decide_true, decide_false, ↓reduceIte, Nat.reduceEqDiff, cond_true, cond_false, or_true, true_or, or_false, false_or, and_true, true_and, and_self, false_and, and_false, not_true, not_false_iff, Nat.reduceAdd, Nat.reduceSub, Nat.reduceMul, Nat.reduceLT, Nat.reduceLeDiff, Int.reduceToNat, Int.reduceLT, Int.reduceLE, Option.getD, Int.reduceMul, Int.reduceAdd, List.drop, List.take, Nat.reduceBEq, List.isEmpty, Int.reduceEq, Int.reduceNe, Int.reduceNeg, Int.reduceGT, Int.reduceGE, beq_true, beq_false, UInt8.reduceToNat, eqE, eq_self, foldE, maxE, minE, eq_T, eq_F, ndec, odec, adec, sdec, fillA, over, chop, List.replicate, leavesOk, leafOk, cellsEq, cellEq, E_byref, en54, bs47, rowsB_len, List.map_cons, List.map_nil]
    exact ⟨_, rfl⟩
  · rw [callT_eq Tryd.func54 rfl fok54 (by simp [Tryd.ntmps54])]
    simp (disch := first | omega | (simp only [List.length_append, List.length_map, List.length_set, List.length_cons, List.length_nil, List.length_take, List.length_drop, rowsB_len]; omega)) only [va0, va1, va2, va3, va4, va5, va6, va7, va8, va9, va10, va11, va12, va13, va14, vb0, vb1, vb2, vb3, w_i8, w_u8, w_i16, w_u16, w_i32, w_u32, w_i64, w_u64, lt_T, lt_F, le_T, le_F, nlt_T, nlt_F, nle_T, nle_F, List.take_of_length_le, gB, gcW, gcR, posIn, renA, renL, Chunk.ren, Chunk.refs, evOpD, touchD, stepC, isFresh, nFresh, freshOf, mkR, hole, evL, evH, opd, get, putD, ofVal, cellOf, loadE, behind, lenE, idxAddrE, idxE, addPtr, intE, strE, unE, convE, AV.int, AV.bool, AV.str, ivs, take, frameOf, firstRegion, refsA, refsL, one, cellsA, floatOk, apartT, List.map, if_true, if_false, E_P, E_glob0, reduceCtorEq, beq_self_eq_true, decide_true, decide_false, ↓reduceIte, Nat.reduceEqDiff, cond_true, cond_false, or_true, true_or, or_false, false_or, and_true, true_and, and_self, false_and, and_false, not_true, not_false_iff, Nat.reduceAdd, Nat.reduceSub, Nat.reduceMul, Nat.reduceLT, Nat.reduceLeDiff, Int.reduceToNat, Int.reduceLT, Int.reduceLE, Option.getD, Int.reduceMul, Int.reduceAdd, List.drop, List.take, Nat.reduceBEq, List.isEmpty, Int.reduceEq, Int.reduceNe, Int.reduceNeg, Int.reduceGT, Int.reduceGE, beq_true, beq_false, UInt8.reduceToNat, eqE, eq_self, foldE, maxE, minE, eq_T, eq_F, ndec, odec, adec, sdec, fillA, over, chop, List.replicate, leavesOk, leafOk, cellsEq, cellEq, E_byref, en54, bs47, rowsB_len, List.map_cons, List.map_nil]
    exact ⟨_, rfl⟩
end Go.VI

