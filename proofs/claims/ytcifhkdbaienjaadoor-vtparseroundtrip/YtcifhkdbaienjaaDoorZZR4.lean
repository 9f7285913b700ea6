import Derived.Test.YtcifhkdbaienjaaDoorProg
import Derived.KernelRfl
import Derived.Laws.RangeAny
import Derived.Laws.RangeString
import Derived.Test.YtcifhkdbaienjaaDoorZZR3
set_option linter.unusedVariables false
set_option linter.defProp false
namespace Go.VI
open Go.Proofs
def keepT : List (Nat × List (Nat × List Nat)) := [
  (2, [(0, [])]),
  (3, [(0, [1, 2]), (1, [1, 2, 13]), (2, [4]), (3, [5, 6]), (4, [5, 21, 22, 23]), (5, [5, 21, 22, 23, 24]), (6, [5, 8, 21, 22, 23]), (7, [5, 21, 22, 23, 29]), (8, [4]), (9, [5, 21, 22, 23]), (10, [5, 9, 10]), (11, [4])]),
  (4, [(0, [1]), (1, [1, 8]), (2, [2]), (3, [1, 3, 4]), (4, [1, 3, 4, 5, 6]), (5, [2])]),
  (5, [(0, [1, 2, 3]), (1, [2, 3, 7]), (2, [2, 3, 7, 8, 9]), (3, [2, 3, 7, 8, 9, 10, 11]), (4, [2, 3, 7, 8, 10, 52]), (5, [6]), (6, [3, 7, 8, 10, 12]), (7, [3, 7, 13, 14]), (8, [6])]),
  (6, [(0, [2, 3, 4]), (1, [2, 3, 4, 7, 8]), (2, [2, 3, 4, 7, 8, 9, 10]), (3, [2, 4, 7, 9, 57]), (4, [6]), (5, [2, 4, 7, 9, 66]), (6, [6]), (7, [4, 7, 9, 11]), (8, [4, 12, 13]), (9, [6])]),
  (7, [(0, [0]), (1, [0, 12]), (2, [2]), (3, [0, 3]), (4, [0, 3, 14, 15, 16]), (5, [0, 3, 14, 15, 16, 17]), (6, [0, 3, 5, 14, 15, 16]), (7, [0, 3, 5, 14, 15, 16, 21]), (8, [2]), (9, [0, 3, 5, 6, 7, 14, 15, 16]), (10, [0, 3, 6, 7, 14, 15, 16, 31]), (11, [2]), (12, [0, 3, 6, 14, 15, 16, 33]), (13, [2]), (14, [0, 3, 14, 15, 16]), (15, [0, 3, 14, 15, 16]), (16, [0, 8, 9]), (17, [2])]),
  (8, [(0, [1, 2]), (1, [4])]),
  (9, [(0, []), (1, [1, 2]), (2, [0])]),
  (10, [(0, [1, 2, 4]), (1, [1, 2, 4, 6]), (2, [1, 2, 4, 6, 11]), (3, [1, 4, 6]), (4, [1, 4, 6, 7]), (5, [1, 4, 6, 7, 19]), (6, [1, 4, 6, 7]), (7, [1, 4, 6, 7, 47]), (8, [1, 4, 6, 7]), (9, [1, 4, 6, 7]), (10, [4, 5])]),
  (11, [(0, [1]), (1, [1, 3]), (2, [2]), (3, [12]), (4, [2]), (5, [2])]),
  (12, [(0, [1]), (1, [2])]),
  (13, [(0, [1]), (1, [1, 4]), (2, [1, 4, 11]), (3, [2, 3]), (4, [1, 5]), (5, [1, 5, 18]), (6, [1, 5, 18, 19]), (7, [2, 3]), (8, [1, 5, 18, 25]), (9, [2, 3]), (10, [1, 5, 18, 28]), (11, [2, 3]), (12, [1, 5, 35]), (13, [5, 6]), (14, [2, 3]), (15, [2, 3])]),
  (14, [(0, [1]), (1, [1, 4]), (2, [1, 4, 11]), (3, [2, 3]), (4, [1, 5]), (5, [1, 5, 18]), (6, [1, 5, 18, 19]), (7, [2, 3]), (8, [1, 5, 18, 25]), (9, [2, 3]), (10, [1, 5, 18, 28]), (11, [2, 3]), (12, [1, 5, 35]), (13, [5, 6]), (14, [2, 3]), (15, [2, 3])]),
  (15, [(0, [1]), (1, [1, 3]), (2, [1, 3, 11]), (3, [2]), (4, [1, 3, 11, 12]), (5, [1, 3]), (6, [1, 3, 4]), (7, [1, 3, 11, 45]), (8, [1, 3]), (9, [1, 3, 4]), (10, [1, 3, 11, 68]), (11, [1, 3]), (12, [1, 3]), (13, [1, 3, 4]), (14, [1, 3, 11, 104]), (15, [1, 3]), (16, [1, 3]), (17, [1, 3]), (18, [1, 3]), (19, [1, 3, 6]), (20, [1, 3, 4]), (21, [1, 3, 140]), (22, [1, 3]), (23, [1, 3, 4]), (24, [155]), (25, [2]), (26, [2])]),
  (16, [(0, [0, 1]), (1, [0, 1, 10]), (2, [4]), (3, [0, 1, 5]), (4, [0, 1, 5, 14]), (5, [0, 1, 5]), (6, [0, 1, 5, 26]), (7, [4]), (8, [4])]),
  (17, [(0, [1]), (1, [2])]),
  (18, [(0, [1]), (1, [1, 7]), (2, [1, 3, 4]), (3, [2]), (4, [1, 30]), (5, [2]), (6, [1, 32]), (7, [1, 32, 33]), (8, [2]), (9, [1, 32, 44]), (10, [2]), (11, [1, 32, 55]), (12, [1, 55]), (13, [2]), (14, [2])]),
  (19, [(0, [0, 3]), (1, [])]),
  (20, [(0, [0, 1, 8]), (1, [0, 1, 8, 9]), (2, [0, 1, 8, 11]), (3, [0, 1, 8, 13]), (4, [0, 1, 15]), (5, []), (6, [0, 1, 21]), (7, []), (8, [0, 1]), (9, []), (10, []), (11, [])]),
  (21, [(0, [1]), (1, [1, 3]), (2, [1, 3, 13]), (3, [1, 3, 13, 14]), (4, [1, 3]), (5, [1, 3, 4]), (6, [1, 3, 5]), (7, [1, 3, 53]), (8, [2]), (9, [1, 3, 13, 54]), (10, [1, 3]), (11, [1, 3, 76]), (12, [2]), (13, [1, 3, 13, 77]), (14, [1, 3]), (15, [1, 3, 119]), (16, [2]), (17, [1, 3, 13, 120]), (18, [1, 3]), (19, [1, 3, 8]), (20, [1, 3, 155]), (21, [2]), (22, [1, 3, 156]), (23, [1, 3]), (24, [1, 3, 170]), (25, [2]), (26, [2])]),
  (22, [(0, [0]), (1, [0, 3]), (2, [3, 6, 7, 8]), (3, [3, 6, 7, 8, 9]), (4, [3, 5, 6, 7, 8]), (5, [3, 6, 7, 8]), (6, [3, 6, 7, 8]), (7, [2])]),
  (23, [(0, [0, 1, 2]), (1, [0, 1, 2, 11]), (2, [0, 1, 2, 11]), (3, [0, 1, 2, 11]), (4, [6, 7]), (5, [0, 1, 2, 31]), (6, [6, 7]), (7, [0, 1, 2, 34]), (8, [6, 7]), (9, [0, 1, 2, 8]), (10, [0, 1, 2, 8, 40]), (11, [1, 2, 8]), (12, [2, 8, 45, 46, 47]), (13, [2, 8, 45, 46, 47, 48]), (14, [2, 8, 9, 10, 45, 46, 47]), (15, [2, 8, 10, 45, 46, 47, 53]), (16, [2, 8, 10, 45, 46, 47]), (17, [2, 8, 10, 45, 46, 47, 58]), (18, [2, 8, 45, 46, 47]), (19, [2, 8, 45, 46, 47]), (20, [6, 7])]),
  (24, [(0, [0]), (1, [0, 3]), (2, [0, 3, 4]), (3, [0, 3, 4, 10]), (4, [0, 3, 4]), (5, [0, 3, 4, 5]), (6, [0, 3, 4, 5, 30]), (7, [0, 3, 4, 5]), (8, [0, 3, 4]), (9, [0, 3, 4, 5, 52]), (10, [0, 3, 4]), (11, [0, 3, 4, 5, 60]), (12, [0, 3, 4]), (13, [0, 3, 4, 5, 74]), (14, [0, 3, 4]), (15, [2])]),
  (25, [(0, [0, 1, 2]), (1, [0, 1, 2, 29]), (2, [6, 7]), (3, [0, 1, 2, 8]), (4, [0, 1, 2, 8, 33]), (5, [0, 1, 2, 8]), (6, [0, 1, 2, 8, 40]), (7, [6, 7]), (8, [0, 1, 2, 9]), (9, [0, 1, 2, 9, 44]), (10, [0, 1, 2, 9]), (11, [0, 1, 2, 9, 51]), (12, [6, 7]), (13, [0, 1, 2, 10]), (14, [0, 1, 2, 10, 53]), (15, [1, 2, 10]), (16, [1, 2, 10, 11]), (17, [1, 2, 10, 11, 60]), (18, [1, 2, 10, 11]), (19, [1, 2, 10, 11, 67]), (20, [6, 7]), (21, [1, 2, 10, 11, 69]), (22, [1, 2, 10, 11]), (23, [1, 2, 10, 11, 76]), (24, [1, 2, 10, 11]), (25, [2, 10, 91]), (26, [6, 7]), (27, [6, 7])]),
  (26, [(0, [0, 1, 2, 3]), (1, [0, 2, 3, 13]), (2, [8]), (3, [0, 2, 3, 9]), (4, [0, 2, 3, 9, 17]), (5, [0, 2, 3, 9]), (6, [0, 2, 3, 9, 31]), (7, [8]), (8, [8])]),
  (27, [(0, [2, 3]), (1, [4])]),
  (28, [(0, [0, 1]), (1, [6]), (2, [6, 7]), (3, [6, 7, 8]), (4, [6, 7, 8, 9]), (5, [6, 7, 8, 9, 16, 17]), (6, [6, 7, 8, 9, 16, 17, 18]), (7, [6, 7, 8, 9, 10, 16, 17]), (8, [6, 7, 8, 9, 10, 11, 16, 17]), (9, [6, 7, 8, 9, 10, 11, 16, 17, 37]), (10, [6, 7, 8, 9, 16, 17]), (11, [6, 7, 8, 9, 16, 17, 51]), (12, [6, 7, 8, 9, 16, 17]), (13, [6, 7, 8, 10, 11, 16, 17, 59]), (14, [6, 7, 8, 10, 11, 16, 17]), (15, [6, 7, 8, 9, 11, 16, 17]), (16, [6, 7, 8, 9, 11, 16, 17, 66]), (17, [6, 7, 8, 9, 16, 17]), (18, [6, 7, 8, 9, 16, 17, 74]), (19, [6, 7, 8, 9, 16, 17]), (20, [6, 7, 8, 9, 16, 17]), (21, [6, 7, 9, 84]), (22, [4, 5]), (23, [4, 5])]),
  (29, [(0, [0, 4, 5]), (1, [6])]),
  (30, [(0, [0, 1, 11]), (1, [0, 4, 5]), (2, [0, 4]), (3, []), (4, [0, 1, 37]), (5, [0, 1]), (6, [0, 1]), (7, [0, 1, 45]), (8, []), (9, [0, 1, 45, 50]), (10, []), (11, [0, 1, 45, 54]), (12, [0, 1, 45, 54]), (13, [0, 1, 54])]),
  (31, [(0, [0, 2]), (1, [0, 2]), (2, [])]),
  (32, [(0, [])]),
  (33, [(0, [0, 1, 4]), (1, [0, 1, 4]), (2, [0, 1, 4, 14]), (3, []), (4, [0, 1, 4, 20]), (5, [0, 1, 4, 24]), (6, []), (7, [0, 1, 4, 30]), (8, []), (9, [0, 1, 4, 39]), (10, [])]),
  (34, [(0, [0, 1, 4]), (1, [0, 1, 4]), (2, [0, 1, 4, 18]), (3, [0, 1, 5, 6, 7, 8]), (4, [0, 1, 5, 6, 7, 27]), (5, []), (6, [0, 1, 4, 35]), (7, [0, 1, 4, 39]), (8, [])]),
  (35, [(0, [0, 1, 4]), (1, [0, 1, 6]), (2, []), (3, [0, 1, 4, 10]), (4, []), (5, [0, 1, 4, 14]), (6, []), (7, [0, 1, 4, 20]), (8, [0, 1, 20]), (9, [])]),
  (36, [(0, [0, 1]), (1, [0, 1, 7]), (2, [4]), (3, [4])]),
  (37, [(0, [0]), (1, [2])]),
  (38, [(0, [0]), (1, [2])]),
  (39, [(0, [0, 1]), (1, [4])]),
  (40, [(0, [0]), (1, [2])]),
  (41, [(0, [0, 1]), (1, [4])]),
  (42, [(0, [0, 1, 2]), (1, [6])]),
  (43, [(0, [0]), (1, [2])]),
  (44, [(0, [0]), (1, [2])]),
  (45, [(0, [0]), (1, [0, 3]), (2, [0, 3, 5]), (3, [0, 3]), (4, [0, 3]), (5, [2])]),
  (46, [(0, [0, 1]), (1, [0, 1, 10]), (2, [4]), (3, [0, 1, 5]), (4, [0, 1, 5, 14]), (5, [0, 1, 5]), (6, [0, 1, 5, 25]), (7, [4]), (8, [4])]),
  (47, [(0, [0, 2]), (1, [0, 2, 3]), (2, [0, 2, 3, 5]), (3, [0, 2, 3]), (4, [0, 2, 3, 17]), (5, [0, 2, 3]), (6, [0, 2, 3, 29]), (7, [0, 2, 3]), (8, [2, 3, 41]), (9, [2, 3, 41, 42]), (10, [2, 3]), (11, [2, 3, 41, 45]), (12, [2, 3]), (13, [2, 3, 41, 48]), (14, [2, 3]), (15, [2, 3, 51]), (16, [2, 3]), (17, [2])]),
  (48, [(0, [0, 1]), (1, [4])]),
  (49, [(0, [0, 1, 2]), (1, [4])]),
  (50, [(0, [0, 6, 7, 8]), (1, [0, 6, 7, 8, 9]), (2, [0, 5, 6, 7, 8]), (3, [0, 5, 6, 7, 8, 17]), (4, [0, 6, 7, 8]), (5, [0, 6, 7, 8])]),
  (51, [(0, [0, 1]), (1, [4]), (2, [0, 1, 5]), (3, []), (4, [0, 1, 10]), (5, []), (6, [0, 1, 19]), (7, []), (8, [0, 1, 26]), (9, [0, 1, 29]), (10, [0, 1]), (11, []), (12, [4])]),
  (52, [(0, [0, 1, 13]), (1, [])]),
  (53, [(0, [0]), (1, [0, 6]), (2, [0, 6, 19]), (3, [0, 6]), (4, [0, 6, 7]), (5, [0, 6, 7, 8, 9]), (6, [0, 6, 7, 8, 9, 10]), (7, [0, 6, 7, 8, 9, 10, 28]), (8, [0, 6, 7, 8, 9, 10]), (9, [0, 6, 7, 8, 9, 10, 11]), (10, [0, 6, 7, 8, 9, 10, 11, 35]), (11, [0, 6, 7, 8, 9, 10]), (12, [0, 6, 7, 8, 9, 10, 11, 43]), (13, [0, 6, 7, 8, 9, 10]), (14, [0, 6, 7, 9, 10, 53]), (15, [0, 6, 7, 9]), (16, [6, 7, 12]), (17, [2, 3, 4, 5]), (18, [6, 7, 12, 62]), (19, [2, 3, 4, 5]), (20, [6, 7, 12, 66]), (21, [2, 3, 4, 5])]),
  (54, [(0, [0, 1]), (1, [0, 1, 5]), (2, [4]), (3, [0, 1, 5, 11]), (4, [4]), (5, [0, 1, 5, 25]), (6, [0, 1, 5, 25]), (7, [4]), (8, [0, 1, 50]), (9, [4])]),
  (55, [(0, [0, 1]), (1, [4])]),
  (56, [(0, [0]), (1, [2])]),
  (57, [(0, [0, 1]), (1, [0, 1, 7, 8]), (2, [0, 1, 7, 8, 9]), (3, [0, 1, 5, 7, 8]), (4, [0, 1, 5, 7, 8, 16]), (5, [4]), (6, [0, 1, 7, 8]), (7, [4])]),
  (58, [(0, [0]), (1, [2])]),
  (59, [(0, [0, 1, 2]), (1, [0, 1, 2, 7]), (2, [0, 2, 7, 11]), (3, [0, 2, 7]), (4, [0, 2, 7]), (5, [6])]),
  (60, [(0, [0, 1]), (1, [0, 1, 7, 8]), (2, [0, 1, 7, 8, 9]), (3, [0, 1, 5, 7, 8]), (4, [0, 1, 5, 7, 8, 16]), (5, [4]), (6, [0, 1, 7, 8]), (7, [4])]),
  (61, [(0, [1]), (1, [])]),
  (62, [(0, [0, 1]), (1, [4])]),
  (63, [(0, [0, 1, 2]), (1, [0, 1, 2, 10]), (2, [0, 1, 12]), (3, [6]), (4, [0, 1, 7]), (5, [0, 1, 7, 8]), (6, [0, 7, 8]), (7, [6]), (8, [0]), (9, [6])]),
  (64, [(0, [0, 1, 2]), (1, [1, 2, 10]), (2, [1, 2, 10, 11, 12]), (3, [1, 2, 7, 8, 10]), (4, [1, 2, 7, 10, 19]), (5, [6]), (6, [6])]),
  (65, [(0, [0]), (1, [0, 4]), (2, [2]), (3, [2])]),
  (66, [(0, [0]), (1, [0, 3]), (2, [2])]),
  (67, [(0, [0, 1, 4]), (1, [0, 1, 4, 20]), (2, [0, 1, 4, 5]), (3, [0, 1, 4, 5]), (4, [0, 1, 4, 6, 7]), (5, [0, 1, 4, 6, 8, 9]), (6, [0, 1, 4, 8, 9, 10, 11]), (7, [0, 1, 4, 8, 10, 11]), (8, [0, 1, 4, 10, 11]), (9, [0, 1, 4, 10]), (10, [0, 1, 4]), (11, [0, 1, 4]), (12, [0, 4, 12]), (13, [0, 4, 12, 99]), (14, [0, 4, 12, 13]), (15, [0, 4, 12, 13]), (16, [0, 4, 12, 14, 15]), (17, [0, 4, 12, 14]), (18, [0, 4, 12]), (19, [0, 4, 12]), (20, [0, 4, 12, 139]), (21, [0, 4, 12, 16]), (22, [0, 4, 12, 16]), (23, [0, 4, 12]), (24, [0, 4, 12]), (25, [0, 12, 161]), (26, [])]),
  (68, [(0, [0, 1, 2, 3, 4, 10, 11]), (1, [0, 1, 2, 3, 4, 10, 11, 28]), (2, [0, 1, 2, 3, 4, 10, 11]), (3, [0, 1, 2, 3, 4, 10, 11, 12]), (4, [0, 1, 2, 3, 4, 10, 11, 12, 13]), (5, [0, 1, 2, 3, 4, 10, 11, 12, 13, 30]), (6, [0, 1, 2, 3, 4, 10, 11, 12, 13]), (7, [0, 1, 2, 3, 4, 10, 11, 12, 13, 34]), (8, [0, 1, 2, 3, 4, 10, 11, 12, 13, 14]), (9, [0, 1, 2, 3, 4, 10, 11, 12, 13, 14, 15]), (10, [0, 1, 3, 4, 10, 11, 12, 13, 14, 15, 16]), (11, [0, 1, 3, 4, 10, 11, 12, 13, 14, 15, 16, 46]), (12, [0, 1, 3, 4, 10, 11, 12, 13, 14, 15, 16]), (13, [0, 1, 3, 4, 10, 11, 12, 13, 14, 15, 16]), (14, [0, 1, 3, 4, 10, 11, 12, 13, 14, 15, 16]), (15, [0, 1, 3, 4, 10, 11, 12, 13]), (16, [0, 3, 4, 10, 11, 12, 13]), (17, [0, 1, 3, 4, 10, 11, 12, 13, 17]), (18, [0, 1, 3, 4, 10, 11, 12, 13, 17, 68]), (19, [0, 1, 3, 4, 10, 11, 12, 13, 17]), (20, [0, 1, 3, 4, 10, 11, 12, 13, 17, 18]), (21, [0, 3, 4, 10, 11, 12, 13, 17, 18]), (22, [0, 1, 3, 4, 10, 11, 12, 13, 17]), (23, [0, 1, 3, 4, 10, 11, 12, 13]), (24, [0, 3, 4, 10, 11, 12, 13]), (25, [0, 4, 10, 11, 12, 13, 89]), (26, [0, 4, 10, 11, 12, 13]), (27, [0, 4, 10, 11, 12, 13]), (28, [0, 10, 11, 12, 13, 94]), (29, [10, 11]), (30, [10, 11])]),
  (69, [(0, [0]), (1, [2])]),
  (70, [(0, [0, 2]), (1, [0, 2, 4]), (2, [0]), (3, [0, 2]), (4, [0, 2, 8]), (5, [0, 2]), (6, [0, 2]), (7, [0, 2, 14]), (8, [0, 2]), (9, [0, 2]), (10, [2])]),
  (71, [(0, [0]), (1, [3]), (2, [2]), (3, [2])]),
  (72, [(0, [0]), (1, [2])]),
  (73, [(0, [0]), (1, [2]), (2, [2])]),
  (74, [(0, [0]), (1, [0, 4]), (2, [2]), (3, [2])]),
  (75, [(0, [0]), (1, [0, 4]), (2, [2]), (3, [2])]),
  (97, [(0, []), (1, []), (2, [])])]
def headT : List (Nat × List (Nat × List Nat)) := [
  (3, [(5, [5, 21, 22, 23])]),
  (7, [(5, [0, 3, 14, 15, 16])]),
  (10, [(5, [1, 4, 6, 7])]),
  (16, [(4, [0, 1, 5])]),
  (22, [(3, [3, 6, 7, 8])]),
  (23, [(13, [2, 8, 45, 46, 47])]),
  (24, [(3, [0, 3, 4])]),
  (25, [(4, [0, 1, 2, 8]), (9, [0, 1, 2, 9]), (17, [1, 2, 10, 11])]),
  (26, [(4, [0, 2, 3, 9])]),
  (28, [(6, [6, 7, 8, 9, 16, 17])]),
  (45, [(2, [0, 3])]),
  (46, [(4, [0, 1, 5])]),
  (50, [(1, [0, 6, 7, 8])]),
  (53, [(7, [0, 6, 7, 8, 9, 10])]),
  (57, [(2, [0, 1, 7, 8])]),
  (60, [(2, [0, 1, 7, 8])]),
  (64, [(2, [1, 2, 10])]),
  (67, [(1, [0, 1, 4])]),
  (68, [(11, [0, 1, 3, 4, 10, 11, 12, 13, 14, 15, 16]), (18, [0, 1, 3, 4, 10, 11, 12, 13, 17])])]
def lk2 (t : List (Nat × List (Nat × List Nat))) (f i : Nat) : List Nat := match t.lookup f with | some l => (l.lookup i).getD [] | none => []
def floT : List (Nat × List (Nat × List (Nat × Nat))) := [
  (4, [(5, [(1, 2)])]),
  (5, [(7, [(3, 14), (8, 14), (10, 14)])]),
  (10, [(10, [(7, 8)])]),
  (16, [(6, [])]),
  (19, [(1, [(4, 6)])]),
  (21, [(7, []), (14, [(3, 5)]), (18, [(3, 9), (5, 9), (7, 9), (5, 11), (7, 11), (7, 13)])]),
  (28, [(23, [])]),
  (30, [(1, [(4, 6)])]),
  (46, [(6, [])]),
  (52, [(1, [(4, 6)])]),
  (53, [(3, []), (17, [])]),
  (67, [(7, []), (8, []), (9, []), (10, []), (17, []), (18, []), (23, [])])]
def lkF (t : List (Nat × List (Nat × List (Nat × Nat)))) (f i : Nat) : List (Nat × Nat) := match t.lookup f with | some l => (l.lookup i).getD [] | none => []
def matT : List (Nat × List (Nat × List (Nat × Nat))) := [(22, [(3, [(3, 1)])]), (23, [(13, [(8, 1)])]), (24, [(3, [(3, 1)])]), (28, [(6, [(7, 1)])]), (68, [(11, [(0, 1)]), (18, [(0, 1)])])]
def matbT : List (Nat × List (Nat × List (Nat × Nat × Nat))) := [(10, [(5, [(6, 3, 7)])]), (53, [(7, [(7, 0, 1)])])]
def frzT : List (Nat × List (Nat × List (Nat × Nat))) := []
def lkG {α : Type} (t : List (Nat × List (Nat × List α))) (f i : Nat) : List α := match t.lookup f with | some l => (l.lookup i).getD [] | none => []
def kindT : List (Nat × List (Option Nat)) := [(26, [some 7]), (29, [some 1]), (30, [none, none, none, none, none, some 1, none]), (31, [none, none, none, none, none, some 1, none]), (43, [none, none, none, some 7]), (44, [none, none, none, some 7]), (47, [some 1]), (49, [some 1])]
def argkT : List (Nat × List (List (Option Nat))) := [(4, [[none, none, none, none, none, some 1, none]]), (5, [[none, none, none, none, none, some 1, none]]), (6, [[none, none, none, none, none, some 1, none], [none, none, none, none, none, some 1, none]]), (7, [[some 7]]), (11, [[none, none, none, none, none, some 1, none]]), (12, [[none, none, none, none, none, some 1, none]]), (13, [[none, none, none, none, none, some 1, none]]), (14, [[none, none, none, none, none, some 1, none]]), (15, [[none, none, none, none, none, some 1, none]]), (16, [[some 7], [some 7]]), (19, [[], [none, none, none, none, none, some 1, none]]), (21, [[none, none, none, none, none, some 1, none]]), (22, [[some 1]]), (23, [[], [some 1]]), (24, [[some 1]]), (25, [[], [some 1]]), (27, [[none, none, none, none, none, some 1, none], [none, none, none, none, none, some 1, none]]), (36, [[some 1]]), (39, [[some 1]]), (41, [[some 1]]), (42, [[some 1]]), (46, [[some 1], [some 1]]), (48, [[some 1]]), (50, [[], [some 1]]), (54, [[some 1]]), (57, [[some 1]]), (59, [[some 1]]), (60, [[some 1]]), (63, [[some 1]]), (67, [[some 1]]), (68, [[some 1]])]
def reskT : List (Nat × List (List (Option Nat))) := [(10, [[], [some 7]]), (28, [[some 1]]), (36, [[some 1]]), (42, [[some 1]]), (53, [[], [some 1]]), (54, [[some 1]]), (59, [[some 1]]), (63, [[some 1]]), (68, [[some 1]])]
noncomputable def E : Env := { P := Tryd.prog, keep := lk2 keepT, head := lk2 headT, flo := lkF floT, hol := fun f i => [(5, 7)].contains (f, i), glob := fun g => if g = 0 then some powT else none, byref := fun f => [36, 42, 54].contains f, seq := fun f =>  none, ext := fun f => if f = 42 then some (extAppendInt Tryd.prog 47 9) else none, kinds := fun t => (kindT.lookup t).getD [], argk := fun f => (argkT.lookup f).getD [], resk := fun f => (reskT.lookup f).getD [], own := fun f => [36, 54].contains f, mat := lkG matT, matb := lkG matbT, frz := lkG frzT }
theorem E_P : E.P = Tryd.prog := rfl
theorem E_globI (g : Nat) (cells : List IV) (h : E.glob g = some cells) : (g = 0 ∧ cells = powT) ∨ False := by
  have h2 : (if g = 0 then some powT else none) = some cells := h
  (repeat (split at h2)) <;> simp_all
theorem E_glob0 : E.glob 0 = some powT := rfl
theorem E_extI (f : Nat) (h : List AV → Hp → Option (AV × Hp)) (hf : E.ext f = some h) : (f = 42 ∧ h = (extAppendInt Tryd.prog 47 9)) ∨ False := by
  have h2 : (if f = 42 then some (extAppendInt Tryd.prog 47 9) else none) = some h := hf
  (repeat (split at h2)) <;> simp_all
theorem xk42 : E.ext 42 = some (extAppendInt Tryd.prog 47 9) := rfl
theorem E_byref (f : Nat) : E.byref f = [36, 42, 54].contains f := rfl
theorem agg2 : aggO Tryd.prog 2 = some false := by kernel_rfl
theorem agg21 : aggO Tryd.prog 21 = some false := by kernel_rfl
theorem agg23 : aggO Tryd.prog 23 = some true := by kernel_rfl
theorem agg26 : aggO Tryd.prog 26 = some false := by kernel_rfl
theorem agg29 : aggO Tryd.prog 29 = some false := by kernel_rfl
theorem agg3 : aggO Tryd.prog 3 = some false := by kernel_rfl
theorem agg31 : aggO Tryd.prog 31 = some true := by kernel_rfl
theorem agg4 : aggO Tryd.prog 4 = some false := by kernel_rfl
theorem agg42 : aggO Tryd.prog 42 = some false := by kernel_rfl
theorem agg44 : aggO Tryd.prog 44 = some true := by kernel_rfl
theorem agg47 : aggO Tryd.prog 47 = some false := by kernel_rfl
theorem agg49 : aggO Tryd.prog 49 = some false := by kernel_rfl
theorem agg5 : aggO Tryd.prog 5 = some false := by kernel_rfl
theorem agg58 : aggO Tryd.prog 58 = some false := by kernel_rfl
theorem agg61 : aggO Tryd.prog 61 = some false := by kernel_rfl
theorem agg67 : aggO Tryd.prog 67 = some true := by kernel_rfl
theorem agg68 : aggO Tryd.prog 68 = some false := by kernel_rfl
theorem agg75 : aggO Tryd.prog 75 = some false := by kernel_rfl
theorem agg77 : aggO Tryd.prog 77 = some false := by kernel_rfl
theorem agg81 : aggO Tryd.prog 81 = some false := by kernel_rfl
theorem agg84 : aggO Tryd.prog 84 = some true := by kernel_rfl
theorem agg9 : aggO Tryd.prog 9 = some false := by kernel_rfl
theorem agg91 : aggO Tryd.prog 91 = some true := by kernel_rfl
theorem agg92 : aggO Tryd.prog 92 = some true := by kernel_rfl
theorem agg95 : aggO Tryd.prog 95 = some true := by kernel_rfl
theorem agg96 : aggO Tryd.prog 96 = some true := by kernel_rfl
theorem arr23 : arrO Tryd.prog 23 = none := by kernel_rfl
theorem arr26 : arrO Tryd.prog 26 = none := by kernel_rfl
theorem arr29 : arrO Tryd.prog 29 = none := by kernel_rfl
theorem arr31 : arrO Tryd.prog 31 = none := by kernel_rfl
theorem arr44 : arrO Tryd.prog 44 = none := by kernel_rfl
theorem arr47 : arrO Tryd.prog 47 = none := by kernel_rfl
theorem arr49 : arrO Tryd.prog 49 = none := by kernel_rfl
theorem arr67 : arrO Tryd.prog 67 = none := by kernel_rfl
theorem arr9 : arrO Tryd.prog 9 = none := by kernel_rfl
theorem arr91 : arrO Tryd.prog 91 = some (20, 81) := by kernel_rfl
theorem arr92 : arrO Tryd.prog 92 = some (65, 5) := by kernel_rfl
theorem arr95 : arrO Tryd.prog 95 = some (32, 5) := by kernel_rfl
theorem arr96 : arrO Tryd.prog 96 = some (64, 5) := by kernel_rfl
theorem arrz23 : arrO Tryd.prog 23 = none := by kernel_rfl
theorem arrz31 : arrO Tryd.prog 31 = none := by kernel_rfl
theorem arrz44 : arrO Tryd.prog 44 = none := by kernel_rfl
theorem arrz67 : arrO Tryd.prog 67 = none := by kernel_rfl
theorem arrz84 : arrO Tryd.prog 84 = some (24, 5) := by kernel_rfl
theorem arrz91 : arrO Tryd.prog 91 = some (20, 81) := by kernel_rfl
theorem arrz92 : arrO Tryd.prog 92 = some (65, 5) := by kernel_rfl
theorem arrz95 : arrO Tryd.prog 95 = some (32, 5) := by kernel_rfl
theorem arrz96 : arrO Tryd.prog 96 = some (64, 5) := by kernel_rfl
theorem eqg23 : eqgO Tryd.prog 23 = false := by kernel_rfl
theorem fld23_0 : fldO Tryd.prog 23 0 = some (0, 3) := by kernel_rfl
theorem fld23_1 : fldO Tryd.prog 23 1 = some (1, 9) := by kernel_rfl
theorem fld23_2 : fldO Tryd.prog 23 2 = some (2, 9) := by kernel_rfl
theorem fld31_0 : fldO Tryd.prog 31 0 = some (0, 3) := by kernel_rfl
theorem fld31_1 : fldO Tryd.prog 31 1 = some (1, 21) := by kernel_rfl
theorem fld31_2 : fldO Tryd.prog 31 2 = some (2, 5) := by kernel_rfl
theorem fld31_3 : fldO Tryd.prog 31 3 = some (3, 5) := by kernel_rfl
theorem fld31_4 : fldO Tryd.prog 31 4 = some (4, 9) := by kernel_rfl
theorem fld31_5 : fldO Tryd.prog 31 5 = some (5, 29) := by kernel_rfl
theorem fld31_6 : fldO Tryd.prog 31 6 = some (6, 9) := by kernel_rfl
theorem fld44_0 : fldO Tryd.prog 44 0 = some (0, 23) := by kernel_rfl
theorem fld44_1 : fldO Tryd.prog 44 1 = some (3, 26) := by kernel_rfl
theorem fld67_0 : fldO Tryd.prog 67 0 = some (0, 21) := by kernel_rfl
theorem fld67_1 : fldO Tryd.prog 67 1 = some (1, 3) := by kernel_rfl
theorem fld67_2 : fldO Tryd.prog 67 2 = some (2, 5) := by kernel_rfl
theorem fld67_3 : fldO Tryd.prog 67 3 = some (3, 5) := by kernel_rfl
theorem kind2 : kindO Tryd.prog 2 = some .i64 := by kernel_rfl
theorem kind21 : kindO Tryd.prog 21 = some .i32 := by kernel_rfl
theorem kind23 : kindO Tryd.prog 23 = none := by kernel_rfl
theorem kind26 : kindO Tryd.prog 26 = none := by kernel_rfl
theorem kind29 : kindO Tryd.prog 29 = none := by kernel_rfl
theorem kind3 : kindO Tryd.prog 3 = some .i64 := by kernel_rfl
theorem kind31 : kindO Tryd.prog 31 = none := by kernel_rfl
theorem kind4 : kindO Tryd.prog 4 = none := by kernel_rfl
theorem kind42 : kindO Tryd.prog 42 = none := by kernel_rfl
theorem kind47 : kindO Tryd.prog 47 = none := by kernel_rfl
theorem kind49 : kindO Tryd.prog 49 = none := by kernel_rfl
theorem kind5 : kindO Tryd.prog 5 = some .u8 := by kernel_rfl
theorem kind58 : kindO Tryd.prog 58 = none := by kernel_rfl
theorem kind61 : kindO Tryd.prog 61 = none := by kernel_rfl
theorem kind68 : kindO Tryd.prog 68 = some .u64 := by kernel_rfl
theorem kind75 : kindO Tryd.prog 75 = some .u32 := by kernel_rfl
theorem kind77 : kindO Tryd.prog 77 = none := by kernel_rfl
theorem kind81 : kindO Tryd.prog 81 = some .u64 := by kernel_rfl
theorem kind84 : kindO Tryd.prog 84 = none := by kernel_rfl
theorem kind9 : kindO Tryd.prog 9 = none := by kernel_rfl
theorem kind91 : kindO Tryd.prog 91 = none := by kernel_rfl
theorem kind92 : kindO Tryd.prog 92 = none := by kernel_rfl
theorem kind95 : kindO Tryd.prog 95 = none := by kernel_rfl
theorem kind96 : kindO Tryd.prog 96 = none := by kernel_rfl
theorem lv23 : leaves Tryd.prog 9 23 = some [.int .i64, .str, .str] := by kernel_rfl
theorem pl23 : placesO Tryd.prog 23 = some [(0, 1), (1, 1), (2, 1)] := by kernel_rfl
theorem pl31 : placesO Tryd.prog 31 = some [(0, 1), (1, 1), (2, 1), (3, 1), (4, 1), (5, 1), (6, 1)] := by kernel_rfl
theorem pl44 : placesO Tryd.prog 44 = some [(0, 3), (3, 1)] := by kernel_rfl
theorem pl67 : placesO Tryd.prog 67 = some [(0, 1), (1, 1), (2, 1), (3, 1)] := by kernel_rfl
theorem sl2 : slO Tryd.prog 2 = none := by kernel_rfl
theorem sl21 : slO Tryd.prog 21 = none := by kernel_rfl
theorem sl23 : slO Tryd.prog 23 = none := by kernel_rfl
theorem sl26 : slO Tryd.prog 26 = some 31 := by kernel_rfl
theorem sl29 : slO Tryd.prog 29 = some 3 := by kernel_rfl
theorem sl3 : slO Tryd.prog 3 = none := by kernel_rfl
theorem sl31 : slO Tryd.prog 31 = none := by kernel_rfl
theorem sl4 : slO Tryd.prog 4 = none := by kernel_rfl
theorem sl42 : slO Tryd.prog 42 = none := by kernel_rfl
theorem sl47 : slO Tryd.prog 47 = some 5 := by kernel_rfl
theorem sl49 : slO Tryd.prog 49 = some 21 := by kernel_rfl
theorem sl5 : slO Tryd.prog 5 = none := by kernel_rfl
theorem sl58 : slO Tryd.prog 58 = none := by kernel_rfl
theorem sl61 : slO Tryd.prog 61 = none := by kernel_rfl
theorem sl68 : slO Tryd.prog 68 = none := by kernel_rfl
theorem sl75 : slO Tryd.prog 75 = none := by kernel_rfl
theorem sl77 : slO Tryd.prog 77 = none := by kernel_rfl
theorem sl81 : slO Tryd.prog 81 = none := by kernel_rfl
theorem sl84 : slO Tryd.prog 84 = none := by kernel_rfl
theorem sl9 : slO Tryd.prog 9 = none := by kernel_rfl
theorem sl91 : slO Tryd.prog 91 = none := by kernel_rfl
theorem sl92 : slO Tryd.prog 92 = none := by kernel_rfl
theorem sl95 : slO Tryd.prog 95 = none := by kernel_rfl
theorem sl96 : slO Tryd.prog 96 = none := by kernel_rfl
theorem str2 : isStrO Tryd.prog 2 = false := by kernel_rfl
theorem str21 : isStrO Tryd.prog 21 = false := by kernel_rfl
theorem str23 : isStrO Tryd.prog 23 = false := by kernel_rfl
theorem str26 : isStrO Tryd.prog 26 = false := by kernel_rfl
theorem str29 : isStrO Tryd.prog 29 = false := by kernel_rfl
theorem str3 : isStrO Tryd.prog 3 = false := by kernel_rfl
theorem str31 : isStrO Tryd.prog 31 = false := by kernel_rfl
theorem str4 : isStrO Tryd.prog 4 = false := by kernel_rfl
theorem str42 : isStrO Tryd.prog 42 = false := by kernel_rfl
theorem str47 : isStrO Tryd.prog 47 = false := by kernel_rfl
theorem str49 : isStrO Tryd.prog 49 = false := by kernel_rfl
theorem str5 : isStrO Tryd.prog 5 = false := by kernel_rfl
theorem str58 : isStrO Tryd.prog 58 = false := by kernel_rfl
theorem str61 : isStrO Tryd.prog 61 = false := by kernel_rfl
theorem str68 : isStrO Tryd.prog 68 = false := by kernel_rfl
theorem str75 : isStrO Tryd.prog 75 = false := by kernel_rfl
theorem str77 : isStrO Tryd.prog 77 = false := by kernel_rfl
theorem str81 : isStrO Tryd.prog 81 = false := by kernel_rfl
theorem str84 : isStrO Tryd.prog 84 = false := by kernel_rfl
theorem str9 : isStrO Tryd.prog 9 = true := by kernel_rfl
theorem str91 : isStrO Tryd.prog 91 = false := by kernel_rfl
theorem str92 : isStrO Tryd.prog 92 = false := by kernel_rfl
theorem str95 : isStrO Tryd.prog 95 = false := by kernel_rfl
theorem str96 : isStrO Tryd.prog 96 = false := by kernel_rfl
theorem sz21 : szO Tryd.prog 21 = some 1 := by kernel_rfl
theorem sz23 : szO Tryd.prog 23 = some 3 := by kernel_rfl
theorem sz26 : szO Tryd.prog 26 = some 1 := by kernel_rfl
theorem sz29 : szO Tryd.prog 29 = some 1 := by kernel_rfl
theorem sz3 : szO Tryd.prog 3 = some 1 := by kernel_rfl
theorem sz31 : szO Tryd.prog 31 = some 7 := by kernel_rfl
theorem sz44 : szO Tryd.prog 44 = some 4 := by kernel_rfl
theorem sz5 : szO Tryd.prog 5 = some 1 := by kernel_rfl
theorem sz67 : szO Tryd.prog 67 = some 4 := by kernel_rfl
theorem sz81 : szO Tryd.prog 81 = some 1 := by kernel_rfl
theorem sz84 : szO Tryd.prog 84 = some 24 := by kernel_rfl
theorem sz9 : szO Tryd.prog 9 = some 1 := by kernel_rfl
theorem sz91 : szO Tryd.prog 91 = some 20 := by kernel_rfl
theorem sz92 : szO Tryd.prog 92 = some 65 := by kernel_rfl
theorem sz95 : szO Tryd.prog 95 = some 32 := by kernel_rfl
theorem sz96 : szO Tryd.prog 96 = some 64 := by kernel_rfl
theorem und4 : Tryd.prog.underlying 4 = some .bool := by kernel_rfl
theorem zero21 : zeroO Tryd.prog 21 = some (.i (.v (.int .i32 0))) := by kernel_rfl
theorem zero23 : zeroO Tryd.prog 23 = some (.agg [.i (.v (.int .i64 0)), .i (.str []), .i (.str [])]) := by kernel_rfl
theorem zero29 : zeroO Tryd.prog 29 = some (.i (.sl 0 [] true)) := by kernel_rfl
theorem zero3 : zeroO Tryd.prog 3 = some (.i (.v (.int .i64 0))) := by kernel_rfl
theorem zero31 : zeroO Tryd.prog 31 = some (.agg [.i (.v (.int .i64 0)), .i (.v (.int .i32 0)), .i (.v (.int .u8 0)), .i (.v (.int .u8 0)), .i (.str []), .i (.sl 0 [] true), .i (.str [])]) := by kernel_rfl
theorem zero44 : zeroO Tryd.prog 44 = some (.agg [.i (.v (.int .i64 0)), .i (.str []), .i (.str []), .i (.sl 0 [] true)]) := by kernel_rfl
theorem zero5 : zeroO Tryd.prog 5 = some (.i (.v (.int .u8 0))) := by kernel_rfl
theorem zero67 : zeroO Tryd.prog 67 = some (.agg [.i (.v (.int .i32 0)), .i (.v (.int .i64 0)), .i (.v (.int .u8 0)), .i (.v (.int .u8 0))]) := by kernel_rfl
theorem zero84 : zeroO Tryd.prog 84 = some (.agg [.i (.v (.int .u8 0)), .i (.v (.int .u8 0)), .i (.v (.int .u8 0)), .i (.v (.int .u8 0)), .i (.v (.int .u8 0)), .i (.v (.int .u8 0)), .i (.v (.int .u8 0)), .i (.v (.int .u8 0)), .i (.v (.int .u8 0)), .i (.v (.int .u8 0)), .i (.v (.int .u8 0)), .i (.v (.int .u8 0)), .i (.v (.int .u8 0)), .i (.v (.int .u8 0)), .i (.v (.int .u8 0)), .i (.v (.int .u8 0)), .i (.v (.int .u8 0)), .i (.v (.int .u8 0)), .i (.v (.int .u8 0)), .i (.v (.int .u8 0)), .i (.v (.int .u8 0)), .i (.v (.int .u8 0)), .i (.v (.int .u8 0)), .i (.v (.int .u8 0))]) := by kernel_rfl
theorem zero91 : zeroO Tryd.prog 91 = some (.agg [.i (.v (.int .u64 0)), .i (.v (.int .u64 0)), .i (.v (.int .u64 0)), .i (.v (.int .u64 0)), .i (.v (.int .u64 0)), .i (.v (.int .u64 0)), .i (.v (.int .u64 0)), .i (.v (.int .u64 0)), .i (.v (.int .u64 0)), .i (.v (.int .u64 0)), .i (.v (.int .u64 0)), .i (.v (.int .u64 0)), .i (.v (.int .u64 0)), .i (.v (.int .u64 0)), .i (.v (.int .u64 0)), .i (.v (.int .u64 0)), .i (.v (.int .u64 0)), .i (.v (.int .u64 0)), .i (.v (.int .u64 0)), .i (.v (.int .u64 0))]) := by kernel_rfl
theorem zero92 : zeroO Tryd.prog 92 = some (.agg [.i (.v (.int .u8 0)), .i (.v (.int .u8 0)), .i (.v (.int .u8 0)), .i (.v (.int .u8 0)), .i (.v (.int .u8 0)), .i (.v (.int .u8 0)), .i (.v (.int .u8 0)), .i (.v (.int .u8 0)), .i (.v (.int .u8 0)), .i (.v (.int .u8 0)), .i (.v (.int .u8 0)), .i (.v (.int .u8 0)), .i (.v (.int .u8 0)), .i (.v (.int .u8 0)), .i (.v (.int .u8 0)), .i (.v (.int .u8 0)), .i (.v (.int .u8 0)), .i (.v (.int .u8 0)), .i (.v (.int .u8 0)), .i (.v (.int .u8 0)), .i (.v (.int .u8 0)), .i (.v (.int .u8 0)), .i (.v (.int .u8 0)), .i (.v (.int .u8 0)), .i (.v (.int .u8 0)), .i (.v (.int .u8 0)), .i (.v (.int .u8 0)), .i (.v (.int .u8 0)), .i (.v (.int .u8 0)), .i (.v (.int .u8 0)), .i (.v (.int .u8 0)), .i (.v (.int .u8 0)), .i (.v (.int .u8 0)), .i (.v (.int .u8 0)), .i (.v (.int .u8 0)), .i (.v (.int .u8 0)), .i (.v (.int .u8 0)), .i (.v (.int .u8 0)), .i (.v (.int .u8 0)), .i (.v (.int .u8 0)), .i (.v (.int .u8 0)), .i (.v (.int .u8 0)), .i (.v (.int .u8 0)), .i (.v (.int .u8 0)), .i (.v (.int .u8 0)), .i (.v (.int .u8 0)), .i (.v (.int .u8 0)), .i (.v (.int .u8 0)), .i (.v (.int .u8 0)), .i (.v (.int .u8 0)), .i (.v (.int .u8 0)), .i (.v (.int .u8 0)), .i (.v (.int .u8 0)), .i (.v (.int .u8 0)), .i (.v (.int .u8 0)), .i (.v (.int .u8 0)), .i (.v (.int .u8 0)), .i (.v (.int .u8 0)), .i (.v (.int .u8 0)), .i (.v (.int .u8 0)), .i (.v (.int .u8 0)), .i (.v (.int .u8 0)), .i (.v (.int .u8 0)), .i (.v (.int .u8 0)), .i (.v (.int .u8 0))]) := by kernel_rfl
theorem zero95 : zeroO Tryd.prog 95 = some (.agg [.i (.v (.int .u8 0)), .i (.v (.int .u8 0)), .i (.v (.int .u8 0)), .i (.v (.int .u8 0)), .i (.v (.int .u8 0)), .i (.v (.int .u8 0)), .i (.v (.int .u8 0)), .i (.v (.int .u8 0)), .i (.v (.int .u8 0)), .i (.v (.int .u8 0)), .i (.v (.int .u8 0)), .i (.v (.int .u8 0)), .i (.v (.int .u8 0)), .i (.v (.int .u8 0)), .i (.v (.int .u8 0)), .i (.v (.int .u8 0)), .i (.v (.int .u8 0)), .i (.v (.int .u8 0)), .i (.v (.int .u8 0)), .i (.v (.int .u8 0)), .i (.v (.int .u8 0)), .i (.v (.int .u8 0)), .i (.v (.int .u8 0)), .i (.v (.int .u8 0)), .i (.v (.int .u8 0)), .i (.v (.int .u8 0)), .i (.v (.int .u8 0)), .i (.v (.int .u8 0)), .i (.v (.int .u8 0)), .i (.v (.int .u8 0)), .i (.v (.int .u8 0)), .i (.v (.int .u8 0))]) := by kernel_rfl
theorem zero96 : zeroO Tryd.prog 96 = some (.agg [.i (.v (.int .u8 0)), .i (.v (.int .u8 0)), .i (.v (.int .u8 0)), .i (.v (.int .u8 0)), .i (.v (.int .u8 0)), .i (.v (.int .u8 0)), .i (.v (.int .u8 0)), .i (.v (.int .u8 0)), .i (.v (.int .u8 0)), .i (.v (.int .u8 0)), .i (.v (.int .u8 0)), .i (.v (.int .u8 0)), .i (.v (.int .u8 0)), .i (.v (.int .u8 0)), .i (.v (.int .u8 0)), .i (.v (.int .u8 0)), .i (.v (.int .u8 0)), .i (.v (.int .u8 0)), .i (.v (.int .u8 0)), .i (.v (.int .u8 0)), .i (.v (.int .u8 0)), .i (.v (.int .u8 0)), .i (.v (.int .u8 0)), .i (.v (.int .u8 0)), .i (.v (.int .u8 0)), .i (.v (.int .u8 0)), .i (.v (.int .u8 0)), .i (.v (.int .u8 0)), .i (.v (.int .u8 0)), .i (.v (.int .u8 0)), .i (.v (.int .u8 0)), .i (.v (.int .u8 0)), .i (.v (.int .u8 0)), .i (.v (.int .u8 0)), .i (.v (.int .u8 0)), .i (.v (.int .u8 0)), .i (.v (.int .u8 0)), .i (.v (.int .u8 0)), .i (.v (.int .u8 0)), .i (.v (.int .u8 0)), .i (.v (.int .u8 0)), .i (.v (.int .u8 0)), .i (.v (.int .u8 0)), .i (.v (.int .u8 0)), .i (.v (.int .u8 0)), .i (.v (.int .u8 0)), .i (.v (.int .u8 0)), .i (.v (.int .u8 0)), .i (.v (.int .u8 0)), .i (.v (.int .u8 0)), .i (.v (.int .u8 0)), .i (.v (.int .u8 0)), .i (.v (.int .u8 0)), .i (.v (.int .u8 0)), .i (.v (.int .u8 0)), .i (.v (.int .u8 0)), .i (.v (.int .u8 0)), .i (.v (.int .u8 0)), .i (.v (.int .u8 0)), .i (.v (.int .u8 0)), .i (.v (.int .u8 0)), .i (.v (.int .u8 0)), .i (.v (.int .u8 0)), .i (.v (.int .u8 0))]) := by kernel_rfl
theorem fok7 : fnOk E 7 = true := by kernel_rfl
theorem ent7 : enterOk E 7 = true := by kernel_rfl
theorem ent9 : enterOk E 9 = true := by kernel_rfl
theorem fok10 : fnOk E 10 = true := by kernel_rfl
theorem ent10 : enterOk E 10 = true := by kernel_rfl
theorem fok11 : fnOk E 11 = true := by kernel_rfl
theorem ent11 : enterOk E 11 = true := by kernel_rfl
theorem fok12 : fnOk E 12 = true := by kernel_rfl
theorem ent12 : enterOk E 12 = true := by kernel_rfl
theorem fok13 : fnOk E 13 = true := by kernel_rfl
theorem ent13 : enterOk E 13 = true := by kernel_rfl
theorem fok16 : fnOk E 16 = true := by kernel_rfl
theorem ent16 : enterOk E 16 = true := by kernel_rfl
theorem fok17 : fnOk E 17 = true := by kernel_rfl
theorem ent17 : enterOk E 17 = true := by kernel_rfl
theorem fok18 : fnOk E 18 = true := by kernel_rfl
theorem ent18 : enterOk E 18 = true := by kernel_rfl
theorem fok19 : fnOk E 19 = true := by kernel_rfl
theorem ent19 : enterOk E 19 = true := by kernel_rfl
theorem fok20 : fnOk E 20 = true := by kernel_rfl
theorem ent20 : enterOk E 20 = true := by kernel_rfl
theorem fok21 : fnOk E 21 = true := by kernel_rfl
theorem ent21 : enterOk E 21 = true := by kernel_rfl
theorem fok22 : fnOk E 22 = true := by kernel_rfl
theorem ent22 : enterOk E 22 = true := by kernel_rfl
theorem fok23 : fnOk E 23 = true := by kernel_rfl
theorem ent23 : enterOk E 23 = true := by kernel_rfl
theorem fok27 : fnOk E 27 = true := by kernel_rfl
theorem ent27 : enterOk E 27 = true := by kernel_rfl
theorem fok28 : fnOk E 28 = true := by kernel_rfl
theorem ent28 : enterOk E 28 = true := by kernel_rfl
theorem fok29 : fnOk E 29 = true := by kernel_rfl
theorem ent29 : enterOk E 29 = true := by kernel_rfl
theorem fok30 : fnOk E 30 = true := by kernel_rfl
theorem ent30 : enterOk E 30 = true := by kernel_rfl
theorem fok31 : fnOk E 31 = true := by kernel_rfl
theorem ent31 : enterOk E 31 = true := by kernel_rfl
theorem fok32 : fnOk E 32 = true := by kernel_rfl
theorem ent32 : enterOk E 32 = true := by kernel_rfl
theorem fok33 : fnOk E 33 = true := by kernel_rfl
theorem ent33 : enterOk E 33 = true := by kernel_rfl
theorem fok34 : fnOk E 34 = true := by kernel_rfl
theorem ent34 : enterOk E 34 = true := by kernel_rfl
theorem fok35 : fnOk E 35 = true := by kernel_rfl
theorem ent35 : enterOk E 35 = true := by kernel_rfl
theorem fok36 : fnOk E 36 = true := by kernel_rfl
theorem ent36 : enterOk E 36 = true := by kernel_rfl
theorem fok37 : fnOk E 37 = true := by kernel_rfl
theorem ent37 : enterOk E 37 = true := by kernel_rfl
theorem fok38 : fnOk E 38 = true := by kernel_rfl
theorem ent38 : enterOk E 38 = true := by kernel_rfl
theorem fok39 : fnOk E 39 = true := by kernel_rfl
theorem ent39 : enterOk E 39 = true := by kernel_rfl
theorem fok40 : fnOk E 40 = true := by kernel_rfl
theorem ent40 : enterOk E 40 = true := by kernel_rfl
theorem fok41 : fnOk E 41 = true := by kernel_rfl
theorem ent41 : enterOk E 41 = true := by kernel_rfl
theorem ent42 : enterOk E 42 = true := by kernel_rfl
theorem fok46 : fnOk E 46 = true := by kernel_rfl
theorem ent46 : enterOk E 46 = true := by kernel_rfl
theorem ent47 : enterOk E 47 = true := by kernel_rfl
theorem fok48 : fnOk E 48 = true := by kernel_rfl
theorem ent48 : enterOk E 48 = true := by kernel_rfl
theorem fok49 : fnOk E 49 = true := by kernel_rfl
theorem ent49 : enterOk E 49 = true := by kernel_rfl
theorem fok50 : fnOk E 50 = true := by kernel_rfl
theorem ent50 : enterOk E 50 = true := by kernel_rfl
theorem fok51 : fnOk E 51 = true := by kernel_rfl
theorem ent51 : enterOk E 51 = true := by kernel_rfl
theorem fok52 : fnOk E 52 = true := by kernel_rfl
theorem ent52 : enterOk E 52 = true := by kernel_rfl
theorem fok53 : fnOk E 53 = true := by kernel_rfl
theorem ent53 : enterOk E 53 = true := by kernel_rfl
theorem fok54 : fnOk E 54 = true := by kernel_rfl
theorem ent54 : enterOk E 54 = true := by kernel_rfl
theorem fok55 : fnOk E 55 = true := by kernel_rfl
theorem ent55 : enterOk E 55 = true := by kernel_rfl
theorem fok56 : fnOk E 56 = true := by kernel_rfl
theorem ent56 : enterOk E 56 = true := by kernel_rfl
theorem fok57 : fnOk E 57 = true := by kernel_rfl
theorem ent57 : enterOk E 57 = true := by kernel_rfl
theorem fok58 : fnOk E 58 = true := by kernel_rfl
theorem ent58 : enterOk E 58 = true := by kernel_rfl
theorem fok60 : fnOk E 60 = true := by kernel_rfl
theorem ent60 : enterOk E 60 = true := by kernel_rfl
theorem fok61 : fnOk E 61 = true := by kernel_rfl
theorem ent61 : enterOk E 61 = true := by kernel_rfl
theorem fok62 : fnOk E 62 = true := by kernel_rfl
theorem ent62 : enterOk E 62 = true := by kernel_rfl
theorem fok64 : fnOk E 64 = true := by kernel_rfl
theorem ent64 : enterOk E 64 = true := by kernel_rfl
theorem res7 : Tryd.f7.results = #[.tmp 2] := rfl
theorem res10 : Tryd.f10.results = #[.cell 4 23, .tmp 5] := rfl
theorem res11 : Tryd.f11.results = #[.tmp 2] := rfl
theorem res12 : Tryd.f12.results = #[.tmp 2] := rfl
theorem res13 : Tryd.f13.results = #[.tmp 2, .tmp 3] := rfl
theorem res16 : Tryd.f16.results = #[.tmp 4] := rfl
theorem res17 : Tryd.f17.results = #[.tmp 2] := rfl
theorem res18 : Tryd.f18.results = #[.tmp 2] := rfl
theorem res19 : Tryd.f19.results = #[] := rfl
theorem res20 : Tryd.f20.results = #[] := rfl
theorem res21 : Tryd.f21.results = #[.tmp 2] := rfl
theorem res22 : Tryd.f22.results = #[.tmp 2] := rfl
theorem res23 : Tryd.f23.results = #[.tmp 6, .tmp 7] := rfl
theorem res27 : Tryd.f27.results = #[.tmp 4] := rfl
theorem res28 : Tryd.f28.results = #[.tmp 4, .tmp 5] := rfl
theorem res29 : Tryd.f29.results = #[.tmp 6] := rfl
theorem res30 : Tryd.f30.results = #[] := rfl
theorem res31 : Tryd.f31.results = #[] := rfl
theorem res32 : Tryd.f32.results = #[] := rfl
theorem res33 : Tryd.f33.results = #[] := rfl
theorem res34 : Tryd.f34.results = #[] := rfl
theorem res35 : Tryd.f35.results = #[] := rfl
theorem res36 : Tryd.f36.results = #[.tmp 4] := rfl
theorem res37 : Tryd.f37.results = #[.tmp 2] := rfl
theorem res38 : Tryd.f38.results = #[.tmp 2] := rfl
theorem res39 : Tryd.f39.results = #[.tmp 4] := rfl
theorem res40 : Tryd.f40.results = #[.tmp 2] := rfl
theorem res41 : Tryd.f41.results = #[.tmp 4] := rfl
theorem res46 : Tryd.f46.results = #[.tmp 4] := rfl
theorem res48 : Tryd.f48.results = #[.tmp 4] := rfl
theorem res49 : Tryd.f49.results = #[.tmp 4] := rfl
theorem res50 : Tryd.f50.results = #[] := rfl
theorem res51 : Tryd.f51.results = #[.tmp 4] := rfl
theorem res52 : Tryd.f52.results = #[] := rfl
theorem res53 : Tryd.f53.results = #[.tmp 2, .tmp 3, .tmp 4, .tmp 5] := rfl
theorem res54 : Tryd.f54.results = #[.tmp 4] := rfl
theorem res55 : Tryd.f55.results = #[.tmp 4] := rfl
theorem res56 : Tryd.f56.results = #[.tmp 2] := rfl
theorem res57 : Tryd.f57.results = #[.tmp 4] := rfl
theorem res58 : Tryd.f58.results = #[.tmp 2] := rfl
theorem res60 : Tryd.f60.results = #[.tmp 4] := rfl
theorem res61 : Tryd.f61.results = #[] := rfl
theorem res62 : Tryd.f62.results = #[.tmp 4] := rfl
theorem res64 : Tryd.f64.results = #[.tmp 6] := rfl
theorem kp7_0 : E.keep 7 0 = [0] := by kernel_rfl
theorem kp7_1 : E.keep 7 1 = [0, 12] := by kernel_rfl
theorem kp7_2 : E.keep 7 2 = [2] := by kernel_rfl
theorem kp7_3 : E.keep 7 3 = [0, 3] := by kernel_rfl
theorem kp7_4 : E.keep 7 4 = [0, 3, 14, 15, 16] := by kernel_rfl
theorem kp7_5 : E.keep 7 5 = [0, 3, 14, 15, 16, 17] := by kernel_rfl
theorem kp7_6 : E.keep 7 6 = [0, 3, 5, 14, 15, 16] := by kernel_rfl
theorem kp7_7 : E.keep 7 7 = [0, 3, 5, 14, 15, 16, 21] := by kernel_rfl
theorem kp7_8 : E.keep 7 8 = [2] := by kernel_rfl
theorem kp7_9 : E.keep 7 9 = [0, 3, 5, 6, 7, 14, 15, 16] := by kernel_rfl
theorem kp7_10 : E.keep 7 10 = [0, 3, 6, 7, 14, 15, 16, 31] := by kernel_rfl
theorem kp7_11 : E.keep 7 11 = [2] := by kernel_rfl
theorem kp7_12 : E.keep 7 12 = [0, 3, 6, 14, 15, 16, 33] := by kernel_rfl
theorem kp7_13 : E.keep 7 13 = [2] := by kernel_rfl
theorem kp7_14 : E.keep 7 14 = [0, 3, 14, 15, 16] := by kernel_rfl
theorem kp7_15 : E.keep 7 15 = [0, 3, 14, 15, 16] := by kernel_rfl
theorem kp7_16 : E.keep 7 16 = [0, 8, 9] := by kernel_rfl
theorem kp7_17 : E.keep 7 17 = [2] := by kernel_rfl
theorem kp10_0 : E.keep 10 0 = [1, 2, 4] := by kernel_rfl
theorem kp10_1 : E.keep 10 1 = [1, 2, 4, 6] := by kernel_rfl
theorem kp10_2 : E.keep 10 2 = [1, 2, 4, 6, 11] := by kernel_rfl
theorem kp10_3 : E.keep 10 3 = [1, 4, 6] := by kernel_rfl
theorem kp10_4 : E.keep 10 4 = [1, 4, 6, 7] := by kernel_rfl
theorem kp10_5 : E.keep 10 5 = [1, 4, 6, 7, 19] := by kernel_rfl
theorem kp10_6 : E.keep 10 6 = [1, 4, 6, 7] := by kernel_rfl
theorem kp10_7 : E.keep 10 7 = [1, 4, 6, 7, 47] := by kernel_rfl
theorem kp10_8 : E.keep 10 8 = [1, 4, 6, 7] := by kernel_rfl
theorem kp10_9 : E.keep 10 9 = [1, 4, 6, 7] := by kernel_rfl
theorem kp10_10 : E.keep 10 10 = [4, 5] := by kernel_rfl
theorem kp11_0 : E.keep 11 0 = [1] := by kernel_rfl
theorem kp11_1 : E.keep 11 1 = [1, 3] := by kernel_rfl
theorem kp11_2 : E.keep 11 2 = [2] := by kernel_rfl
theorem kp11_3 : E.keep 11 3 = [12] := by kernel_rfl
theorem kp11_4 : E.keep 11 4 = [2] := by kernel_rfl
theorem kp11_5 : E.keep 11 5 = [2] := by kernel_rfl
theorem kp12_0 : E.keep 12 0 = [1] := by kernel_rfl
theorem kp12_1 : E.keep 12 1 = [2] := by kernel_rfl
theorem kp13_0 : E.keep 13 0 = [1] := by kernel_rfl
theorem kp13_1 : E.keep 13 1 = [1, 4] := by kernel_rfl
theorem kp13_2 : E.keep 13 2 = [1, 4, 11] := by kernel_rfl
theorem kp13_3 : E.keep 13 3 = [2, 3] := by kernel_rfl
theorem kp13_4 : E.keep 13 4 = [1, 5] := by kernel_rfl
theorem kp13_5 : E.keep 13 5 = [1, 5, 18] := by kernel_rfl
theorem kp13_6 : E.keep 13 6 = [1, 5, 18, 19] := by kernel_rfl
theorem kp13_7 : E.keep 13 7 = [2, 3] := by kernel_rfl
theorem kp13_8 : E.keep 13 8 = [1, 5, 18, 25] := by kernel_rfl
theorem kp13_9 : E.keep 13 9 = [2, 3] := by kernel_rfl
theorem kp13_10 : E.keep 13 10 = [1, 5, 18, 28] := by kernel_rfl
theorem kp13_11 : E.keep 13 11 = [2, 3] := by kernel_rfl
theorem kp13_12 : E.keep 13 12 = [1, 5, 35] := by kernel_rfl
theorem kp13_13 : E.keep 13 13 = [5, 6] := by kernel_rfl
theorem kp13_14 : E.keep 13 14 = [2, 3] := by kernel_rfl
theorem kp13_15 : E.keep 13 15 = [2, 3] := by kernel_rfl
theorem kp16_0 : E.keep 16 0 = [0, 1] := by kernel_rfl
theorem kp16_1 : E.keep 16 1 = [0, 1, 10] := by kernel_rfl
theorem kp16_2 : E.keep 16 2 = [4] := by kernel_rfl
theorem kp16_3 : E.keep 16 3 = [0, 1, 5] := by kernel_rfl
theorem kp16_4 : E.keep 16 4 = [0, 1, 5, 14] := by kernel_rfl
theorem kp16_5 : E.keep 16 5 = [0, 1, 5] := by kernel_rfl
theorem kp16_6 : E.keep 16 6 = [0, 1, 5, 26] := by kernel_rfl
theorem kp16_7 : E.keep 16 7 = [4] := by kernel_rfl
theorem kp16_8 : E.keep 16 8 = [4] := by kernel_rfl
theorem kp17_0 : E.keep 17 0 = [1] := by kernel_rfl
theorem kp17_1 : E.keep 17 1 = [2] := by kernel_rfl
theorem kp18_0 : E.keep 18 0 = [1] := by kernel_rfl
theorem kp18_1 : E.keep 18 1 = [1, 7] := by kernel_rfl
theorem kp18_2 : E.keep 18 2 = [1, 3, 4] := by kernel_rfl
theorem kp18_3 : E.keep 18 3 = [2] := by kernel_rfl
theorem kp18_4 : E.keep 18 4 = [1, 30] := by kernel_rfl
theorem kp18_5 : E.keep 18 5 = [2] := by kernel_rfl
theorem kp18_6 : E.keep 18 6 = [1, 32] := by kernel_rfl
theorem kp18_7 : E.keep 18 7 = [1, 32, 33] := by kernel_rfl
theorem kp18_8 : E.keep 18 8 = [2] := by kernel_rfl
theorem kp18_9 : E.keep 18 9 = [1, 32, 44] := by kernel_rfl
theorem kp18_10 : E.keep 18 10 = [2] := by kernel_rfl
theorem kp18_11 : E.keep 18 11 = [1, 32, 55] := by kernel_rfl
theorem kp18_12 : E.keep 18 12 = [1, 55] := by kernel_rfl
theorem kp18_13 : E.keep 18 13 = [2] := by kernel_rfl
theorem kp18_14 : E.keep 18 14 = [2] := by kernel_rfl
theorem kp19_0 : E.keep 19 0 = [0, 3] := by kernel_rfl
theorem kp19_1 : E.keep 19 1 = [] := by kernel_rfl
theorem kp20_0 : E.keep 20 0 = [0, 1, 8] := by kernel_rfl
theorem kp20_1 : E.keep 20 1 = [0, 1, 8, 9] := by kernel_rfl
theorem kp20_2 : E.keep 20 2 = [0, 1, 8, 11] := by kernel_rfl
theorem kp20_3 : E.keep 20 3 = [0, 1, 8, 13] := by kernel_rfl
theorem kp20_4 : E.keep 20 4 = [0, 1, 15] := by kernel_rfl
theorem kp20_5 : E.keep 20 5 = [] := by kernel_rfl
theorem kp20_6 : E.keep 20 6 = [0, 1, 21] := by kernel_rfl
theorem kp20_7 : E.keep 20 7 = [] := by kernel_rfl
theorem kp20_8 : E.keep 20 8 = [0, 1] := by kernel_rfl
theorem kp20_9 : E.keep 20 9 = [] := by kernel_rfl
theorem kp20_10 : E.keep 20 10 = [] := by kernel_rfl
theorem kp20_11 : E.keep 20 11 = [] := by kernel_rfl
theorem kp21_0 : E.keep 21 0 = [1] := by kernel_rfl
theorem kp21_1 : E.keep 21 1 = [1, 3] := by kernel_rfl
theorem kp21_2 : E.keep 21 2 = [1, 3, 13] := by kernel_rfl
theorem kp21_3 : E.keep 21 3 = [1, 3, 13, 14] := by kernel_rfl
theorem kp21_4 : E.keep 21 4 = [1, 3] := by kernel_rfl
theorem kp21_5 : E.keep 21 5 = [1, 3, 4] := by kernel_rfl
theorem kp21_6 : E.keep 21 6 = [1, 3, 5] := by kernel_rfl
theorem kp21_7 : E.keep 21 7 = [1, 3, 53] := by kernel_rfl
theorem kp21_8 : E.keep 21 8 = [2] := by kernel_rfl
theorem kp21_9 : E.keep 21 9 = [1, 3, 13, 54] := by kernel_rfl
theorem kp21_10 : E.keep 21 10 = [1, 3] := by kernel_rfl
theorem kp21_11 : E.keep 21 11 = [1, 3, 76] := by kernel_rfl
theorem kp21_12 : E.keep 21 12 = [2] := by kernel_rfl
theorem kp21_13 : E.keep 21 13 = [1, 3, 13, 77] := by kernel_rfl
theorem kp21_14 : E.keep 21 14 = [1, 3] := by kernel_rfl
theorem kp21_15 : E.keep 21 15 = [1, 3, 119] := by kernel_rfl
theorem kp21_16 : E.keep 21 16 = [2] := by kernel_rfl
theorem kp21_17 : E.keep 21 17 = [1, 3, 13, 120] := by kernel_rfl
theorem kp21_18 : E.keep 21 18 = [1, 3] := by kernel_rfl
theorem kp21_19 : E.keep 21 19 = [1, 3, 8] := by kernel_rfl
theorem kp21_20 : E.keep 21 20 = [1, 3, 155] := by kernel_rfl
theorem kp21_21 : E.keep 21 21 = [2] := by kernel_rfl
theorem kp21_22 : E.keep 21 22 = [1, 3, 156] := by kernel_rfl
theorem kp21_23 : E.keep 21 23 = [1, 3] := by kernel_rfl
theorem kp21_24 : E.keep 21 24 = [1, 3, 170] := by kernel_rfl
theorem kp21_25 : E.keep 21 25 = [2] := by kernel_rfl
theorem kp21_26 : E.keep 21 26 = [2] := by kernel_rfl
theorem kp22_0 : E.keep 22 0 = [0] := by kernel_rfl
theorem kp22_1 : E.keep 22 1 = [0, 3] := by kernel_rfl
theorem kp22_2 : E.keep 22 2 = [3, 6, 7, 8] := by kernel_rfl
theorem kp22_3 : E.keep 22 3 = [3, 6, 7, 8, 9] := by kernel_rfl
theorem kp22_4 : E.keep 22 4 = [3, 5, 6, 7, 8] := by kernel_rfl
theorem kp22_5 : E.keep 22 5 = [3, 6, 7, 8] := by kernel_rfl
theorem kp22_6 : E.keep 22 6 = [3, 6, 7, 8] := by kernel_rfl
theorem kp22_7 : E.keep 22 7 = [2] := by kernel_rfl
theorem kp23_0 : E.keep 23 0 = [0, 1, 2] := by kernel_rfl
theorem kp23_1 : E.keep 23 1 = [0, 1, 2, 11] := by kernel_rfl
theorem kp23_2 : E.keep 23 2 = [0, 1, 2, 11] := by kernel_rfl
theorem kp23_3 : E.keep 23 3 = [0, 1, 2, 11] := by kernel_rfl
theorem kp23_4 : E.keep 23 4 = [6, 7] := by kernel_rfl
theorem kp23_5 : E.keep 23 5 = [0, 1, 2, 31] := by kernel_rfl
theorem kp23_6 : E.keep 23 6 = [6, 7] := by kernel_rfl
theorem kp23_7 : E.keep 23 7 = [0, 1, 2, 34] := by kernel_rfl
theorem kp23_8 : E.keep 23 8 = [6, 7] := by kernel_rfl
theorem kp23_9 : E.keep 23 9 = [0, 1, 2, 8] := by kernel_rfl
theorem kp23_10 : E.keep 23 10 = [0, 1, 2, 8, 40] := by kernel_rfl
theorem kp23_11 : E.keep 23 11 = [1, 2, 8] := by kernel_rfl
theorem kp23_12 : E.keep 23 12 = [2, 8, 45, 46, 47] := by kernel_rfl
theorem kp23_13 : E.keep 23 13 = [2, 8, 45, 46, 47, 48] := by kernel_rfl
theorem kp23_14 : E.keep 23 14 = [2, 8, 9, 10, 45, 46, 47] := by kernel_rfl
theorem kp23_15 : E.keep 23 15 = [2, 8, 10, 45, 46, 47, 53] := by kernel_rfl
theorem kp23_16 : E.keep 23 16 = [2, 8, 10, 45, 46, 47] := by kernel_rfl
theorem kp23_17 : E.keep 23 17 = [2, 8, 10, 45, 46, 47, 58] := by kernel_rfl
theorem kp23_18 : E.keep 23 18 = [2, 8, 45, 46, 47] := by kernel_rfl
theorem kp23_19 : E.keep 23 19 = [2, 8, 45, 46, 47] := by kernel_rfl
theorem kp23_20 : E.keep 23 20 = [6, 7] := by kernel_rfl
theorem kp27_0 : E.keep 27 0 = [2, 3] := by kernel_rfl
theorem kp27_1 : E.keep 27 1 = [4] := by kernel_rfl
theorem kp28_0 : E.keep 28 0 = [0, 1] := by kernel_rfl
theorem kp28_1 : E.keep 28 1 = [6] := by kernel_rfl
theorem kp28_2 : E.keep 28 2 = [6, 7] := by kernel_rfl
theorem kp28_3 : E.keep 28 3 = [6, 7, 8] := by kernel_rfl
theorem kp28_4 : E.keep 28 4 = [6, 7, 8, 9] := by kernel_rfl
theorem kp28_5 : E.keep 28 5 = [6, 7, 8, 9, 16, 17] := by kernel_rfl
theorem kp28_6 : E.keep 28 6 = [6, 7, 8, 9, 16, 17, 18] := by kernel_rfl
theorem kp28_7 : E.keep 28 7 = [6, 7, 8, 9, 10, 16, 17] := by kernel_rfl
theorem kp28_8 : E.keep 28 8 = [6, 7, 8, 9, 10, 11, 16, 17] := by kernel_rfl
theorem kp28_9 : E.keep 28 9 = [6, 7, 8, 9, 10, 11, 16, 17, 37] := by kernel_rfl
theorem kp28_10 : E.keep 28 10 = [6, 7, 8, 9, 16, 17] := by kernel_rfl
theorem kp28_11 : E.keep 28 11 = [6, 7, 8, 9, 16, 17, 51] := by kernel_rfl
theorem kp28_12 : E.keep 28 12 = [6, 7, 8, 9, 16, 17] := by kernel_rfl
theorem kp28_13 : E.keep 28 13 = [6, 7, 8, 10, 11, 16, 17, 59] := by kernel_rfl
theorem kp28_14 : E.keep 28 14 = [6, 7, 8, 10, 11, 16, 17] := by kernel_rfl
theorem kp28_15 : E.keep 28 15 = [6, 7, 8, 9, 11, 16, 17] := by kernel_rfl
theorem kp28_16 : E.keep 28 16 = [6, 7, 8, 9, 11, 16, 17, 66] := by kernel_rfl
theorem kp28_17 : E.keep 28 17 = [6, 7, 8, 9, 16, 17] := by kernel_rfl
theorem kp28_18 : E.keep 28 18 = [6, 7, 8, 9, 16, 17, 74] := by kernel_rfl
theorem kp28_19 : E.keep 28 19 = [6, 7, 8, 9, 16, 17] := by kernel_rfl
theorem kp28_20 : E.keep 28 20 = [6, 7, 8, 9, 16, 17] := by kernel_rfl
theorem kp28_21 : E.keep 28 21 = [6, 7, 9, 84] := by kernel_rfl
theorem kp28_22 : E.keep 28 22 = [4, 5] := by kernel_rfl
theorem kp28_23 : E.keep 28 23 = [4, 5] := by kernel_rfl
theorem kp29_0 : E.keep 29 0 = [0, 4, 5] := by kernel_rfl
theorem kp29_1 : E.keep 29 1 = [6] := by kernel_rfl
theorem kp30_0 : E.keep 30 0 = [0, 1, 11] := by kernel_rfl
theorem kp30_1 : E.keep 30 1 = [0, 4, 5] := by kernel_rfl
theorem kp30_2 : E.keep 30 2 = [0, 4] := by kernel_rfl
theorem kp30_3 : E.keep 30 3 = [] := by kernel_rfl
theorem kp30_4 : E.keep 30 4 = [0, 1, 37] := by kernel_rfl
theorem kp30_5 : E.keep 30 5 = [0, 1] := by kernel_rfl
theorem kp30_6 : E.keep 30 6 = [0, 1] := by kernel_rfl
theorem kp30_7 : E.keep 30 7 = [0, 1, 45] := by kernel_rfl
theorem kp30_8 : E.keep 30 8 = [] := by kernel_rfl
theorem kp30_9 : E.keep 30 9 = [0, 1, 45, 50] := by kernel_rfl
theorem kp30_10 : E.keep 30 10 = [] := by kernel_rfl
theorem kp30_11 : E.keep 30 11 = [0, 1, 45, 54] := by kernel_rfl
theorem kp30_12 : E.keep 30 12 = [0, 1, 45, 54] := by kernel_rfl
theorem kp30_13 : E.keep 30 13 = [0, 1, 54] := by kernel_rfl
theorem kp31_0 : E.keep 31 0 = [0, 2] := by kernel_rfl
theorem kp31_1 : E.keep 31 1 = [0, 2] := by kernel_rfl
theorem kp31_2 : E.keep 31 2 = [] := by kernel_rfl
theorem kp32_0 : E.keep 32 0 = [] := by kernel_rfl
theorem kp33_0 : E.keep 33 0 = [0, 1, 4] := by kernel_rfl
theorem kp33_1 : E.keep 33 1 = [0, 1, 4] := by kernel_rfl
theorem kp33_2 : E.keep 33 2 = [0, 1, 4, 14] := by kernel_rfl
theorem kp33_3 : E.keep 33 3 = [] := by kernel_rfl
theorem kp33_4 : E.keep 33 4 = [0, 1, 4, 20] := by kernel_rfl
theorem kp33_5 : E.keep 33 5 = [0, 1, 4, 24] := by kernel_rfl
theorem kp33_6 : E.keep 33 6 = [] := by kernel_rfl
theorem kp33_7 : E.keep 33 7 = [0, 1, 4, 30] := by kernel_rfl
theorem kp33_8 : E.keep 33 8 = [] := by kernel_rfl
theorem kp33_9 : E.keep 33 9 = [0, 1, 4, 39] := by kernel_rfl
theorem kp33_10 : E.keep 33 10 = [] := by kernel_rfl
theorem kp34_0 : E.keep 34 0 = [0, 1, 4] := by kernel_rfl
theorem kp34_1 : E.keep 34 1 = [0, 1, 4] := by kernel_rfl
theorem kp34_2 : E.keep 34 2 = [0, 1, 4, 18] := by kernel_rfl
theorem kp34_3 : E.keep 34 3 = [0, 1, 5, 6, 7, 8] := by kernel_rfl
theorem kp34_4 : E.keep 34 4 = [0, 1, 5, 6, 7, 27] := by kernel_rfl
theorem kp34_5 : E.keep 34 5 = [] := by kernel_rfl
theorem kp34_6 : E.keep 34 6 = [0, 1, 4, 35] := by kernel_rfl
theorem kp34_7 : E.keep 34 7 = [0, 1, 4, 39] := by kernel_rfl
theorem kp34_8 : E.keep 34 8 = [] := by kernel_rfl
theorem kp35_0 : E.keep 35 0 = [0, 1, 4] := by kernel_rfl
theorem kp35_1 : E.keep 35 1 = [0, 1, 6] := by kernel_rfl
theorem kp35_2 : E.keep 35 2 = [] := by kernel_rfl
theorem kp35_3 : E.keep 35 3 = [0, 1, 4, 10] := by kernel_rfl
theorem kp35_4 : E.keep 35 4 = [] := by kernel_rfl
theorem kp35_5 : E.keep 35 5 = [0, 1, 4, 14] := by kernel_rfl
theorem kp35_6 : E.keep 35 6 = [] := by kernel_rfl
theorem kp35_7 : E.keep 35 7 = [0, 1, 4, 20] := by kernel_rfl
theorem kp35_8 : E.keep 35 8 = [0, 1, 20] := by kernel_rfl
theorem kp35_9 : E.keep 35 9 = [] := by kernel_rfl
theorem kp36_0 : E.keep 36 0 = [0, 1] := by kernel_rfl
theorem kp36_1 : E.keep 36 1 = [0, 1, 7] := by kernel_rfl
theorem kp36_2 : E.keep 36 2 = [4] := by kernel_rfl
theorem kp36_3 : E.keep 36 3 = [4] := by kernel_rfl
theorem kp37_0 : E.keep 37 0 = [0] := by kernel_rfl
theorem kp37_1 : E.keep 37 1 = [2] := by kernel_rfl
theorem kp38_0 : E.keep 38 0 = [0] := by kernel_rfl
theorem kp38_1 : E.keep 38 1 = [2] := by kernel_rfl
theorem kp39_0 : E.keep 39 0 = [0, 1] := by kernel_rfl
theorem kp39_1 : E.keep 39 1 = [4] := by kernel_rfl
theorem kp40_0 : E.keep 40 0 = [0] := by kernel_rfl
theorem kp40_1 : E.keep 40 1 = [2] := by kernel_rfl
theorem kp41_0 : E.keep 41 0 = [0, 1] := by kernel_rfl
theorem kp41_1 : E.keep 41 1 = [4] := by kernel_rfl
theorem kp46_0 : E.keep 46 0 = [0, 1] := by kernel_rfl
theorem kp46_1 : E.keep 46 1 = [0, 1, 10] := by kernel_rfl
theorem kp46_2 : E.keep 46 2 = [4] := by kernel_rfl
theorem kp46_3 : E.keep 46 3 = [0, 1, 5] := by kernel_rfl
theorem kp46_4 : E.keep 46 4 = [0, 1, 5, 14] := by kernel_rfl
theorem kp46_5 : E.keep 46 5 = [0, 1, 5] := by kernel_rfl
theorem kp46_6 : E.keep 46 6 = [0, 1, 5, 25] := by kernel_rfl
theorem kp46_7 : E.keep 46 7 = [4] := by kernel_rfl
theorem kp46_8 : E.keep 46 8 = [4] := by kernel_rfl
theorem kp48_0 : E.keep 48 0 = [0, 1] := by kernel_rfl
theorem kp48_1 : E.keep 48 1 = [4] := by kernel_rfl
theorem kp49_0 : E.keep 49 0 = [0, 1, 2] := by kernel_rfl
theorem kp49_1 : E.keep 49 1 = [4] := by kernel_rfl
theorem kp50_0 : E.keep 50 0 = [0, 6, 7, 8] := by kernel_rfl
theorem kp50_1 : E.keep 50 1 = [0, 6, 7, 8, 9] := by kernel_rfl
theorem kp50_2 : E.keep 50 2 = [0, 5, 6, 7, 8] := by kernel_rfl
theorem kp50_3 : E.keep 50 3 = [0, 5, 6, 7, 8, 17] := by kernel_rfl
theorem kp50_4 : E.keep 50 4 = [0, 6, 7, 8] := by kernel_rfl
theorem kp50_5 : E.keep 50 5 = [0, 6, 7, 8] := by kernel_rfl
theorem kp51_0 : E.keep 51 0 = [0, 1] := by kernel_rfl
theorem kp51_1 : E.keep 51 1 = [4] := by kernel_rfl
theorem kp51_2 : E.keep 51 2 = [0, 1, 5] := by kernel_rfl
theorem kp51_3 : E.keep 51 3 = [] := by kernel_rfl
theorem kp51_4 : E.keep 51 4 = [0, 1, 10] := by kernel_rfl
theorem kp51_5 : E.keep 51 5 = [] := by kernel_rfl
theorem kp51_6 : E.keep 51 6 = [0, 1, 19] := by kernel_rfl
theorem kp51_7 : E.keep 51 7 = [] := by kernel_rfl
theorem kp51_8 : E.keep 51 8 = [0, 1, 26] := by kernel_rfl
theorem kp51_9 : E.keep 51 9 = [0, 1, 29] := by kernel_rfl
theorem kp51_10 : E.keep 51 10 = [0, 1] := by kernel_rfl
theorem kp51_11 : E.keep 51 11 = [] := by kernel_rfl
theorem kp51_12 : E.keep 51 12 = [4] := by kernel_rfl
theorem kp52_0 : E.keep 52 0 = [0, 1, 13] := by kernel_rfl
theorem kp52_1 : E.keep 52 1 = [] := by kernel_rfl
theorem kp53_0 : E.keep 53 0 = [0] := by kernel_rfl
theorem kp53_1 : E.keep 53 1 = [0, 6] := by kernel_rfl
theorem kp53_2 : E.keep 53 2 = [0, 6, 19] := by kernel_rfl
theorem kp53_3 : E.keep 53 3 = [0, 6] := by kernel_rfl
theorem kp53_4 : E.keep 53 4 = [0, 6, 7] := by kernel_rfl
theorem kp53_5 : E.keep 53 5 = [0, 6, 7, 8, 9] := by kernel_rfl
theorem kp53_6 : E.keep 53 6 = [0, 6, 7, 8, 9, 10] := by kernel_rfl
theorem kp53_7 : E.keep 53 7 = [0, 6, 7, 8, 9, 10, 28] := by kernel_rfl
theorem kp53_8 : E.keep 53 8 = [0, 6, 7, 8, 9, 10] := by kernel_rfl
theorem kp53_9 : E.keep 53 9 = [0, 6, 7, 8, 9, 10, 11] := by kernel_rfl
theorem kp53_10 : E.keep 53 10 = [0, 6, 7, 8, 9, 10, 11, 35] := by kernel_rfl
theorem kp53_11 : E.keep 53 11 = [0, 6, 7, 8, 9, 10] := by kernel_rfl
theorem kp53_12 : E.keep 53 12 = [0, 6, 7, 8, 9, 10, 11, 43] := by kernel_rfl
theorem kp53_13 : E.keep 53 13 = [0, 6, 7, 8, 9, 10] := by kernel_rfl
theorem kp53_14 : E.keep 53 14 = [0, 6, 7, 9, 10, 53] := by kernel_rfl
theorem kp53_15 : E.keep 53 15 = [0, 6, 7, 9] := by kernel_rfl
theorem kp53_16 : E.keep 53 16 = [6, 7, 12] := by kernel_rfl
theorem kp53_17 : E.keep 53 17 = [2, 3, 4, 5] := by kernel_rfl
theorem kp53_18 : E.keep 53 18 = [6, 7, 12, 62] := by kernel_rfl
theorem kp53_19 : E.keep 53 19 = [2, 3, 4, 5] := by kernel_rfl
theorem kp53_20 : E.keep 53 20 = [6, 7, 12, 66] := by kernel_rfl
theorem kp53_21 : E.keep 53 21 = [2, 3, 4, 5] := by kernel_rfl
theorem kp54_0 : E.keep 54 0 = [0, 1] := by kernel_rfl
theorem kp54_1 : E.keep 54 1 = [0, 1, 5] := by kernel_rfl
theorem kp54_2 : E.keep 54 2 = [4] := by kernel_rfl
theorem kp54_3 : E.keep 54 3 = [0, 1, 5, 11] := by kernel_rfl
theorem kp54_4 : E.keep 54 4 = [4] := by kernel_rfl
theorem kp54_5 : E.keep 54 5 = [0, 1, 5, 25] := by kernel_rfl
theorem kp54_6 : E.keep 54 6 = [0, 1, 5, 25] := by kernel_rfl
theorem kp54_7 : E.keep 54 7 = [4] := by kernel_rfl
theorem kp54_8 : E.keep 54 8 = [0, 1, 50] := by kernel_rfl
theorem kp54_9 : E.keep 54 9 = [4] := by kernel_rfl
theorem kp55_0 : E.keep 55 0 = [0, 1] := by kernel_rfl
theorem kp55_1 : E.keep 55 1 = [4] := by kernel_rfl
theorem kp56_0 : E.keep 56 0 = [0] := by kernel_rfl
theorem kp56_1 : E.keep 56 1 = [2] := by kernel_rfl
theorem kp57_0 : E.keep 57 0 = [0, 1] := by kernel_rfl
theorem kp57_1 : E.keep 57 1 = [0, 1, 7, 8] := by kernel_rfl
theorem kp57_2 : E.keep 57 2 = [0, 1, 7, 8, 9] := by kernel_rfl
theorem kp57_3 : E.keep 57 3 = [0, 1, 5, 7, 8] := by kernel_rfl
theorem kp57_4 : E.keep 57 4 = [0, 1, 5, 7, 8, 16] := by kernel_rfl
theorem kp57_5 : E.keep 57 5 = [4] := by kernel_rfl
theorem kp57_6 : E.keep 57 6 = [0, 1, 7, 8] := by kernel_rfl
theorem kp57_7 : E.keep 57 7 = [4] := by kernel_rfl
theorem kp58_0 : E.keep 58 0 = [0] := by kernel_rfl
theorem kp58_1 : E.keep 58 1 = [2] := by kernel_rfl
theorem kp60_0 : E.keep 60 0 = [0, 1] := by kernel_rfl
theorem kp60_1 : E.keep 60 1 = [0, 1, 7, 8] := by kernel_rfl
theorem kp60_2 : E.keep 60 2 = [0, 1, 7, 8, 9] := by kernel_rfl
theorem kp60_3 : E.keep 60 3 = [0, 1, 5, 7, 8] := by kernel_rfl
theorem kp60_4 : E.keep 60 4 = [0, 1, 5, 7, 8, 16] := by kernel_rfl
theorem kp60_5 : E.keep 60 5 = [4] := by kernel_rfl
theorem kp60_6 : E.keep 60 6 = [0, 1, 7, 8] := by kernel_rfl
theorem kp60_7 : E.keep 60 7 = [4] := by kernel_rfl
theorem kp61_0 : E.keep 61 0 = [1] := by kernel_rfl
theorem kp61_1 : E.keep 61 1 = [] := by kernel_rfl
theorem kp62_0 : E.keep 62 0 = [0, 1] := by kernel_rfl
theorem kp62_1 : E.keep 62 1 = [4] := by kernel_rfl
theorem kp64_0 : E.keep 64 0 = [0, 1, 2] := by kernel_rfl
theorem kp64_1 : E.keep 64 1 = [1, 2, 10] := by kernel_rfl
theorem kp64_2 : E.keep 64 2 = [1, 2, 10, 11, 12] := by kernel_rfl
theorem kp64_3 : E.keep 64 3 = [1, 2, 7, 8, 10] := by kernel_rfl
theorem kp64_4 : E.keep 64 4 = [1, 2, 7, 10, 19] := by kernel_rfl
theorem kp64_5 : E.keep 64 5 = [6] := by kernel_rfl
theorem kp64_6 : E.keep 64 6 = [6] := by kernel_rfl
theorem hd7_5 : E.head 7 5 = [0, 3, 14, 15, 16] := by kernel_rfl
theorem hd10_5 : E.head 10 5 = [1, 4, 6, 7] := by kernel_rfl
theorem hd16_4 : E.head 16 4 = [0, 1, 5] := by kernel_rfl
theorem hd22_3 : E.head 22 3 = [3, 6, 7, 8] := by kernel_rfl
theorem hd23_13 : E.head 23 13 = [2, 8, 45, 46, 47] := by kernel_rfl
theorem hd28_6 : E.head 28 6 = [6, 7, 8, 9, 16, 17] := by kernel_rfl
theorem hd46_4 : E.head 46 4 = [0, 1, 5] := by kernel_rfl
theorem hd50_1 : E.head 50 1 = [0, 6, 7, 8] := by kernel_rfl
theorem hd53_7 : E.head 53 7 = [0, 6, 7, 8, 9, 10] := by kernel_rfl
theorem hd57_2 : E.head 57 2 = [0, 1, 7, 8] := by kernel_rfl
theorem hd60_2 : E.head 60 2 = [0, 1, 7, 8] := by kernel_rfl
theorem hd64_2 : E.head 64 2 = [1, 2, 10] := by kernel_rfl
theorem fl10_10 : E.flo 10 10 = [(7, 8)] := by kernel_rfl
theorem ho10_10 : E.hol 10 10 = false := by kernel_rfl
theorem dr10_10 (B : Nat) (fr : Fr) (H : Hp) (ops : Array Oper) : execT E B 10 (.region 10 ops true) fr H = regTK E 10 10 (evT E (callT E) ops.toList ops.toList fr H) := execT_draw ho10_10 ops
theorem fl16_6 : E.flo 16 6 = [] := by kernel_rfl
theorem ho16_6 : E.hol 16 6 = false := by kernel_rfl
theorem dr16_6 (B : Nat) (fr : Fr) (H : Hp) (ops : Array Oper) : execT E B 16 (.region 6 ops true) fr H = regK E 16 6 (evOps E (callT E) ops.toList ops.toList fr H) := execT_draw0 ho16_6 fl16_6 ops
theorem fl19_1 : E.flo 19 1 = [(4, 6)] := by kernel_rfl
theorem ho19_1 : E.hol 19 1 = false := by kernel_rfl
theorem dr19_1 (B : Nat) (fr : Fr) (H : Hp) (ops : Array Oper) : execT E B 19 (.region 1 ops true) fr H = regTK E 19 1 (evT E (callT E) ops.toList ops.toList fr H) := execT_draw ho19_1 ops
theorem fl21_7 : E.flo 21 7 = [] := by kernel_rfl
theorem ho21_7 : E.hol 21 7 = false := by kernel_rfl
theorem dr21_7 (B : Nat) (fr : Fr) (H : Hp) (ops : Array Oper) : execT E B 21 (.region 7 ops true) fr H = regK E 21 7 (evOps E (callT E) ops.toList ops.toList fr H) := execT_draw0 ho21_7 fl21_7 ops
theorem fl21_14 : E.flo 21 14 = [(3, 5)] := by kernel_rfl
theorem ho21_14 : E.hol 21 14 = false := by kernel_rfl
theorem dr21_14 (B : Nat) (fr : Fr) (H : Hp) (ops : Array Oper) : execT E B 21 (.region 14 ops true) fr H = regTK E 21 14 (evT E (callT E) ops.toList ops.toList fr H) := execT_draw ho21_14 ops
theorem fl21_18 : E.flo 21 18 = [(3, 9), (5, 9), (7, 9), (5, 11), (7, 11), (7, 13)] := by kernel_rfl
theorem ho21_18 : E.hol 21 18 = false := by kernel_rfl
theorem dr21_18 (B : Nat) (fr : Fr) (H : Hp) (ops : Array Oper) : execT E B 21 (.region 18 ops true) fr H = regTK E 21 18 (evT E (callT E) ops.toList ops.toList fr H) := execT_draw ho21_18 ops
theorem fl28_23 : E.flo 28 23 = [] := by kernel_rfl
theorem ho28_23 : E.hol 28 23 = false := by kernel_rfl
theorem dr28_23 (B : Nat) (fr : Fr) (H : Hp) (ops : Array Oper) : execT E B 28 (.region 23 ops true) fr H = regK E 28 23 (evOps E (callT E) ops.toList ops.toList fr H) := execT_draw0 ho28_23 fl28_23 ops
theorem fl30_1 : E.flo 30 1 = [(4, 6)] := by kernel_rfl
theorem ho30_1 : E.hol 30 1 = false := by kernel_rfl
theorem dr30_1 (B : Nat) (fr : Fr) (H : Hp) (ops : Array Oper) : execT E B 30 (.region 1 ops true) fr H = regTK E 30 1 (evT E (callT E) ops.toList ops.toList fr H) := execT_draw ho30_1 ops
theorem fl46_6 : E.flo 46 6 = [] := by kernel_rfl
theorem ho46_6 : E.hol 46 6 = false := by kernel_rfl
theorem dr46_6 (B : Nat) (fr : Fr) (H : Hp) (ops : Array Oper) : execT E B 46 (.region 6 ops true) fr H = regK E 46 6 (evOps E (callT E) ops.toList ops.toList fr H) := execT_draw0 ho46_6 fl46_6 ops
theorem fl52_1 : E.flo 52 1 = [(4, 6)] := by kernel_rfl
theorem ho52_1 : E.hol 52 1 = false := by kernel_rfl
theorem dr52_1 (B : Nat) (fr : Fr) (H : Hp) (ops : Array Oper) : execT E B 52 (.region 1 ops true) fr H = regTK E 52 1 (evT E (callT E) ops.toList ops.toList fr H) := execT_draw ho52_1 ops
theorem fl53_3 : E.flo 53 3 = [] := by kernel_rfl
theorem ho53_3 : E.hol 53 3 = false := by kernel_rfl
theorem dr53_3 (B : Nat) (fr : Fr) (H : Hp) (ops : Array Oper) : execT E B 53 (.region 3 ops true) fr H = regK E 53 3 (evOps E (callT E) ops.toList ops.toList fr H) := execT_draw0 ho53_3 fl53_3 ops
theorem fl53_17 : E.flo 53 17 = [] := by kernel_rfl
theorem ho53_17 : E.hol 53 17 = false := by kernel_rfl
theorem dr53_17 (B : Nat) (fr : Fr) (H : Hp) (ops : Array Oper) : execT E B 53 (.region 17 ops true) fr H = regK E 53 17 (evOps E (callT E) ops.toList ops.toList fr H) := execT_draw0 ho53_17 fl53_17 ops
theorem mt7_5 : E.mat 7 5 = [] := by kernel_rfl
theorem mb7_5 : E.matb 7 5 = [] := by kernel_rfl
theorem zf7_5 : E.frz 7 5 = [] := by kernel_rfl
theorem mt10_5 : E.mat 10 5 = [] := by kernel_rfl
theorem mb10_5 : E.matb 10 5 = [(6, 3, 7)] := by kernel_rfl
theorem zf10_5 : E.frz 10 5 = [] := by kernel_rfl
theorem mt16_4 : E.mat 16 4 = [] := by kernel_rfl
theorem mb16_4 : E.matb 16 4 = [] := by kernel_rfl
theorem zf16_4 : E.frz 16 4 = [] := by kernel_rfl
theorem mt22_3 : E.mat 22 3 = [(3, 1)] := by kernel_rfl
theorem mb22_3 : E.matb 22 3 = [] := by kernel_rfl
theorem zf22_3 : E.frz 22 3 = [] := by kernel_rfl
theorem mt23_13 : E.mat 23 13 = [(8, 1)] := by kernel_rfl
theorem mb23_13 : E.matb 23 13 = [] := by kernel_rfl
theorem zf23_13 : E.frz 23 13 = [] := by kernel_rfl
theorem mt28_6 : E.mat 28 6 = [(7, 1)] := by kernel_rfl
theorem mb28_6 : E.matb 28 6 = [] := by kernel_rfl
theorem zf28_6 : E.frz 28 6 = [] := by kernel_rfl
theorem mt46_4 : E.mat 46 4 = [] := by kernel_rfl
theorem mb46_4 : E.matb 46 4 = [] := by kernel_rfl
theorem zf46_4 : E.frz 46 4 = [] := by kernel_rfl
theorem mt50_1 : E.mat 50 1 = [] := by kernel_rfl
theorem mb50_1 : E.matb 50 1 = [] := by kernel_rfl
theorem zf50_1 : E.frz 50 1 = [] := by kernel_rfl
theorem mt53_7 : E.mat 53 7 = [] := by kernel_rfl
theorem mb53_7 : E.matb 53 7 = [(7, 0, 1)] := by kernel_rfl
theorem zf53_7 : E.frz 53 7 = [] := by kernel_rfl
theorem mt57_2 : E.mat 57 2 = [] := by kernel_rfl
theorem mb57_2 : E.matb 57 2 = [] := by kernel_rfl
theorem zf57_2 : E.frz 57 2 = [] := by kernel_rfl
theorem mt60_2 : E.mat 60 2 = [] := by kernel_rfl
theorem mb60_2 : E.matb 60 2 = [] := by kernel_rfl
theorem zf60_2 : E.frz 60 2 = [] := by kernel_rfl
theorem mt64_2 : E.mat 64 2 = [] := by kernel_rfl
theorem mb64_2 : E.matb 64 2 = [] := by kernel_rfl
theorem zf64_2 : E.frz 64 2 = [] := by kernel_rfl
theorem rk7 : E.resk 7 = [] := by kernel_rfl
theorem ow7 : E.own 7 = false := by kernel_rfl
theorem ak9 : E.argk 9 = [] := by kernel_rfl
theorem pe9 (args : List AV) (H : Hp) : prepE E 9 H args = peP E 9 (prep H args) := prepE_v rfl args
theorem cr9 (args : List AV) (H : Hp) : calleeR E 9 args H = crK args (peP E 9 (prep H args)) := (cr_prep args).trans (by rw [pe9])
theorem ci9 (args : List AV) (H : Hp) : callIso E (callT E) 9 args H = prepK E (callT E) 9 (peP E 9 (prep H args)) := (iso_prep args).trans (by rw [pe9])
theorem ak10 : E.argk 10 = [] := by kernel_rfl
theorem rk10 : E.resk 10 = [[], [some 7]] := by kernel_rfl
theorem ow10 : E.own 10 = false := by kernel_rfl
theorem pe10 (args : List AV) (H : Hp) : prepE E 10 H args = peP E 10 (prep H args) := prepE_v rfl args
theorem cr10 (args : List AV) (H : Hp) : calleeR E 10 args H = crK args (peP E 10 (prep H args)) := (cr_prep args).trans (by rw [pe10])
theorem ci10 (args : List AV) (H : Hp) : callIso E (callT E) 10 args H = prepK E (callT E) 10 (peP E 10 (prep H args)) := (iso_prep args).trans (by rw [pe10])
theorem ak11 : E.argk 11 = [[none, none, none, none, none, some 1, none]] := by kernel_rfl
theorem rk11 : E.resk 11 = [] := by kernel_rfl
theorem ow11 : E.own 11 = false := by kernel_rfl
theorem pe11 (args : List AV) (H : Hp) : prepE E 11 H args = peP E 11 (prep H args) := prepE_v rfl args
theorem cr11 (args : List AV) (H : Hp) : calleeR E 11 args H = crK args (peP E 11 (prep H args)) := (cr_prep args).trans (by rw [pe11])
theorem ci11 (args : List AV) (H : Hp) : callIso E (callT E) 11 args H = prepK E (callT E) 11 (peP E 11 (prep H args)) := (iso_prep args).trans (by rw [pe11])
theorem ak12 : E.argk 12 = [[none, none, none, none, none, some 1, none]] := by kernel_rfl
theorem rk12 : E.resk 12 = [] := by kernel_rfl
theorem ow12 : E.own 12 = false := by kernel_rfl
theorem pe12 (args : List AV) (H : Hp) : prepE E 12 H args = peP E 12 (prep H args) := prepE_v rfl args
theorem cr12 (args : List AV) (H : Hp) : calleeR E 12 args H = crK args (peP E 12 (prep H args)) := (cr_prep args).trans (by rw [pe12])
theorem ci12 (args : List AV) (H : Hp) : callIso E (callT E) 12 args H = prepK E (callT E) 12 (peP E 12 (prep H args)) := (iso_prep args).trans (by rw [pe12])
theorem ak13 : E.argk 13 = [[none, none, none, none, none, some 1, none]] := by kernel_rfl
theorem rk13 : E.resk 13 = [] := by kernel_rfl
theorem ow13 : E.own 13 = false := by kernel_rfl
theorem pe13 (args : List AV) (H : Hp) : prepE E 13 H args = peP E 13 (prep H args) := prepE_v rfl args
theorem cr13 (args : List AV) (H : Hp) : calleeR E 13 args H = crK args (peP E 13 (prep H args)) := (cr_prep args).trans (by rw [pe13])
theorem ci13 (args : List AV) (H : Hp) : callIso E (callT E) 13 args H = prepK E (callT E) 13 (peP E 13 (prep H args)) := (iso_prep args).trans (by rw [pe13])
theorem ak16 : E.argk 16 = [[some 7], [some 7]] := by kernel_rfl
theorem rk16 : E.resk 16 = [] := by kernel_rfl
theorem ow16 : E.own 16 = false := by kernel_rfl
theorem pe16 (args : List AV) (H : Hp) : prepE E 16 H args = peP E 16 (prep H args) := prepE_v rfl args
theorem cr16 (args : List AV) (H : Hp) : calleeR E 16 args H = crK args (peP E 16 (prep H args)) := (cr_prep args).trans (by rw [pe16])
theorem ci16 (args : List AV) (H : Hp) : callIso E (callT E) 16 args H = prepK E (callT E) 16 (peP E 16 (prep H args)) := (iso_prep args).trans (by rw [pe16])
theorem ak17 : E.argk 17 = [] := by kernel_rfl
theorem rk17 : E.resk 17 = [] := by kernel_rfl
theorem ow17 : E.own 17 = false := by kernel_rfl
theorem pe17 (args : List AV) (H : Hp) : prepE E 17 H args = peP E 17 (prep H args) := prepE_v rfl args
theorem cr17 (args : List AV) (H : Hp) : calleeR E 17 args H = crK args (peP E 17 (prep H args)) := (cr_prep args).trans (by rw [pe17])
theorem ci17 (args : List AV) (H : Hp) : callIso E (callT E) 17 args H = prepK E (callT E) 17 (peP E 17 (prep H args)) := (iso_prep args).trans (by rw [pe17])
theorem ak18 : E.argk 18 = [] := by kernel_rfl
theorem rk18 : E.resk 18 = [] := by kernel_rfl
theorem ow18 : E.own 18 = false := by kernel_rfl
theorem pe18 (args : List AV) (H : Hp) : prepE E 18 H args = peP E 18 (prep H args) := prepE_v rfl args
theorem cr18 (args : List AV) (H : Hp) : calleeR E 18 args H = crK args (peP E 18 (prep H args)) := (cr_prep args).trans (by rw [pe18])
theorem ci18 (args : List AV) (H : Hp) : callIso E (callT E) 18 args H = prepK E (callT E) 18 (peP E 18 (prep H args)) := (iso_prep args).trans (by rw [pe18])
theorem ak19 : E.argk 19 = [[], [none, none, none, none, none, some 1, none]] := by kernel_rfl
theorem rk19 : E.resk 19 = [] := by kernel_rfl
theorem ow19 : E.own 19 = false := by kernel_rfl
theorem pe19 (args : List AV) (H : Hp) : prepE E 19 H args = peP E 19 (prep H args) := prepE_v rfl args
theorem cr19 (args : List AV) (H : Hp) : calleeR E 19 args H = crK args (peP E 19 (prep H args)) := (cr_prep args).trans (by rw [pe19])
theorem ci19 (args : List AV) (H : Hp) : callIso E (callT E) 19 args H = prepK E (callT E) 19 (peP E 19 (prep H args)) := (iso_prep args).trans (by rw [pe19])
theorem ak20 : E.argk 20 = [] := by kernel_rfl
theorem rk20 : E.resk 20 = [] := by kernel_rfl
theorem ow20 : E.own 20 = false := by kernel_rfl
theorem pe20 (args : List AV) (H : Hp) : prepE E 20 H args = peP E 20 (prep H args) := prepE_v rfl args
theorem cr20 (args : List AV) (H : Hp) : calleeR E 20 args H = crK args (peP E 20 (prep H args)) := (cr_prep args).trans (by rw [pe20])
theorem ci20 (args : List AV) (H : Hp) : callIso E (callT E) 20 args H = prepK E (callT E) 20 (peP E 20 (prep H args)) := (iso_prep args).trans (by rw [pe20])
theorem ak21 : E.argk 21 = [[none, none, none, none, none, some 1, none]] := by kernel_rfl
theorem rk21 : E.resk 21 = [] := by kernel_rfl
theorem ow21 : E.own 21 = false := by kernel_rfl
theorem pe21 (args : List AV) (H : Hp) : prepE E 21 H args = peP E 21 (prep H args) := prepE_v rfl args
theorem cr21 (args : List AV) (H : Hp) : calleeR E 21 args H = crK args (peP E 21 (prep H args)) := (cr_prep args).trans (by rw [pe21])
theorem ci21 (args : List AV) (H : Hp) : callIso E (callT E) 21 args H = prepK E (callT E) 21 (peP E 21 (prep H args)) := (iso_prep args).trans (by rw [pe21])
theorem ak22 : E.argk 22 = [[some 1]] := by kernel_rfl
theorem rk22 : E.resk 22 = [] := by kernel_rfl
theorem ow22 : E.own 22 = false := by kernel_rfl
theorem pe22 (args : List AV) (H : Hp) : prepE E 22 H args = peP E 22 (prep H args) := prepE_v rfl args
theorem cr22 (args : List AV) (H : Hp) : calleeR E 22 args H = crK args (peP E 22 (prep H args)) := (cr_prep args).trans (by rw [pe22])
theorem ci22 (args : List AV) (H : Hp) : callIso E (callT E) 22 args H = prepK E (callT E) 22 (peP E 22 (prep H args)) := (iso_prep args).trans (by rw [pe22])
theorem ak23 : E.argk 23 = [[], [some 1]] := by kernel_rfl
theorem rk23 : E.resk 23 = [] := by kernel_rfl
theorem ow23 : E.own 23 = false := by kernel_rfl
theorem pe23 (args : List AV) (H : Hp) : prepE E 23 H args = peP E 23 (prep H args) := prepE_v rfl args
theorem cr23 (args : List AV) (H : Hp) : calleeR E 23 args H = crK args (peP E 23 (prep H args)) := (cr_prep args).trans (by rw [pe23])
theorem ci23 (args : List AV) (H : Hp) : callIso E (callT E) 23 args H = prepK E (callT E) 23 (peP E 23 (prep H args)) := (iso_prep args).trans (by rw [pe23])
theorem ak27 : E.argk 27 = [[none, none, none, none, none, some 1, none], [none, none, none, none, none, some 1, none]] := by kernel_rfl
theorem rk27 : E.resk 27 = [] := by kernel_rfl
theorem ow27 : E.own 27 = false := by kernel_rfl
theorem pe27 (args : List AV) (H : Hp) : prepE E 27 H args = peP E 27 (prep H args) := prepE_v rfl args
theorem cr27 (args : List AV) (H : Hp) : calleeR E 27 args H = crK args (peP E 27 (prep H args)) := (cr_prep args).trans (by rw [pe27])
theorem ci27 (args : List AV) (H : Hp) : callIso E (callT E) 27 args H = prepK E (callT E) 27 (peP E 27 (prep H args)) := (iso_prep args).trans (by rw [pe27])
theorem ak28 : E.argk 28 = [] := by kernel_rfl
theorem rk28 : E.resk 28 = [[some 1]] := by kernel_rfl
theorem ow28 : E.own 28 = false := by kernel_rfl
theorem pe28 (args : List AV) (H : Hp) : prepE E 28 H args = peP E 28 (prep H args) := prepE_v rfl args
theorem cr28 (args : List AV) (H : Hp) : calleeR E 28 args H = crK args (peP E 28 (prep H args)) := (cr_prep args).trans (by rw [pe28])
theorem ci28 (args : List AV) (H : Hp) : callIso E (callT E) 28 args H = prepK E (callT E) 28 (peP E 28 (prep H args)) := (iso_prep args).trans (by rw [pe28])
theorem ak29 : E.argk 29 = [] := by kernel_rfl
theorem rk29 : E.resk 29 = [] := by kernel_rfl
theorem ow29 : E.own 29 = false := by kernel_rfl
theorem pe29 (args : List AV) (H : Hp) : prepE E 29 H args = peP E 29 (prep H args) := prepE_v rfl args
theorem cr29 (args : List AV) (H : Hp) : calleeR E 29 args H = crK args (peP E 29 (prep H args)) := (cr_prep args).trans (by rw [pe29])
theorem ci29 (args : List AV) (H : Hp) : callIso E (callT E) 29 args H = prepK E (callT E) 29 (peP E 29 (prep H args)) := (iso_prep args).trans (by rw [pe29])
theorem ak30 : E.argk 30 = [] := by kernel_rfl
theorem rk30 : E.resk 30 = [] := by kernel_rfl
theorem ow30 : E.own 30 = false := by kernel_rfl
theorem pe30 (args : List AV) (H : Hp) : prepE E 30 H args = peP E 30 (prep H args) := prepE_v rfl args
theorem cr30 (args : List AV) (H : Hp) : calleeR E 30 args H = crK args (peP E 30 (prep H args)) := (cr_prep args).trans (by rw [pe30])
theorem ci30 (args : List AV) (H : Hp) : callIso E (callT E) 30 args H = prepK E (callT E) 30 (peP E 30 (prep H args)) := (iso_prep args).trans (by rw [pe30])
theorem ak31 : E.argk 31 = [] := by kernel_rfl
theorem rk31 : E.resk 31 = [] := by kernel_rfl
theorem ow31 : E.own 31 = false := by kernel_rfl
theorem pe31 (args : List AV) (H : Hp) : prepE E 31 H args = peP E 31 (prep H args) := prepE_v rfl args
theorem cr31 (args : List AV) (H : Hp) : calleeR E 31 args H = crK args (peP E 31 (prep H args)) := (cr_prep args).trans (by rw [pe31])
theorem ci31 (args : List AV) (H : Hp) : callIso E (callT E) 31 args H = prepK E (callT E) 31 (peP E 31 (prep H args)) := (iso_prep args).trans (by rw [pe31])
theorem ak32 : E.argk 32 = [] := by kernel_rfl
theorem rk32 : E.resk 32 = [] := by kernel_rfl
theorem ow32 : E.own 32 = false := by kernel_rfl
theorem pe32 (args : List AV) (H : Hp) : prepE E 32 H args = peP E 32 (prep H args) := prepE_v rfl args
theorem cr32 (args : List AV) (H : Hp) : calleeR E 32 args H = crK args (peP E 32 (prep H args)) := (cr_prep args).trans (by rw [pe32])
theorem ci32 (args : List AV) (H : Hp) : callIso E (callT E) 32 args H = prepK E (callT E) 32 (peP E 32 (prep H args)) := (iso_prep args).trans (by rw [pe32])
theorem ak33 : E.argk 33 = [] := by kernel_rfl
theorem rk33 : E.resk 33 = [] := by kernel_rfl
theorem ow33 : E.own 33 = false := by kernel_rfl
theorem pe33 (args : List AV) (H : Hp) : prepE E 33 H args = peP E 33 (prep H args) := prepE_v rfl args
theorem cr33 (args : List AV) (H : Hp) : calleeR E 33 args H = crK args (peP E 33 (prep H args)) := (cr_prep args).trans (by rw [pe33])
theorem ci33 (args : List AV) (H : Hp) : callIso E (callT E) 33 args H = prepK E (callT E) 33 (peP E 33 (prep H args)) := (iso_prep args).trans (by rw [pe33])
theorem ak34 : E.argk 34 = [] := by kernel_rfl
theorem rk34 : E.resk 34 = [] := by kernel_rfl
theorem ow34 : E.own 34 = false := by kernel_rfl
theorem pe34 (args : List AV) (H : Hp) : prepE E 34 H args = peP E 34 (prep H args) := prepE_v rfl args
theorem cr34 (args : List AV) (H : Hp) : calleeR E 34 args H = crK args (peP E 34 (prep H args)) := (cr_prep args).trans (by rw [pe34])
theorem ci34 (args : List AV) (H : Hp) : callIso E (callT E) 34 args H = prepK E (callT E) 34 (peP E 34 (prep H args)) := (iso_prep args).trans (by rw [pe34])
theorem ak35 : E.argk 35 = [] := by kernel_rfl
theorem rk35 : E.resk 35 = [] := by kernel_rfl
theorem ow35 : E.own 35 = false := by kernel_rfl
theorem pe35 (args : List AV) (H : Hp) : prepE E 35 H args = peP E 35 (prep H args) := prepE_v rfl args
theorem cr35 (args : List AV) (H : Hp) : calleeR E 35 args H = crK args (peP E 35 (prep H args)) := (cr_prep args).trans (by rw [pe35])
theorem ci35 (args : List AV) (H : Hp) : callIso E (callT E) 35 args H = prepK E (callT E) 35 (peP E 35 (prep H args)) := (iso_prep args).trans (by rw [pe35])
theorem ak36 : E.argk 36 = [[some 1]] := by kernel_rfl
theorem rk36 : E.resk 36 = [[some 1]] := by kernel_rfl
theorem ow36 : E.own 36 = true := by kernel_rfl
theorem pe36 (args : List AV) (H : Hp) : prepE E 36 H args = some (matL (E.argk 36) args H) := prepE_r rfl args
theorem cr36 (args : List AV) (H : Hp) : calleeR E 36 args H = crK args (some (matL (E.argk 36) args H)) := (cr_prep args).trans (by rw [pe36])
theorem ci36 (args : List AV) (H : Hp) : callIso E (callT E) 36 args H = prepK E (callT E) 36 (some (matL (E.argk 36) args H)) := (iso_prep args).trans (by rw [pe36])
theorem ak37 : E.argk 37 = [] := by kernel_rfl
theorem rk37 : E.resk 37 = [] := by kernel_rfl
theorem ow37 : E.own 37 = false := by kernel_rfl
theorem pe37 (args : List AV) (H : Hp) : prepE E 37 H args = peP E 37 (prep H args) := prepE_v rfl args
theorem cr37 (args : List AV) (H : Hp) : calleeR E 37 args H = crK args (peP E 37 (prep H args)) := (cr_prep args).trans (by rw [pe37])
theorem ci37 (args : List AV) (H : Hp) : callIso E (callT E) 37 args H = prepK E (callT E) 37 (peP E 37 (prep H args)) := (iso_prep args).trans (by rw [pe37])
theorem ak38 : E.argk 38 = [] := by kernel_rfl
theorem rk38 : E.resk 38 = [] := by kernel_rfl
theorem ow38 : E.own 38 = false := by kernel_rfl
theorem pe38 (args : List AV) (H : Hp) : prepE E 38 H args = peP E 38 (prep H args) := prepE_v rfl args
theorem cr38 (args : List AV) (H : Hp) : calleeR E 38 args H = crK args (peP E 38 (prep H args)) := (cr_prep args).trans (by rw [pe38])
theorem ci38 (args : List AV) (H : Hp) : callIso E (callT E) 38 args H = prepK E (callT E) 38 (peP E 38 (prep H args)) := (iso_prep args).trans (by rw [pe38])
theorem ak39 : E.argk 39 = [[some 1]] := by kernel_rfl
theorem rk39 : E.resk 39 = [] := by kernel_rfl
theorem ow39 : E.own 39 = false := by kernel_rfl
theorem pe39 (args : List AV) (H : Hp) : prepE E 39 H args = peP E 39 (prep H args) := prepE_v rfl args
theorem cr39 (args : List AV) (H : Hp) : calleeR E 39 args H = crK args (peP E 39 (prep H args)) := (cr_prep args).trans (by rw [pe39])
theorem ci39 (args : List AV) (H : Hp) : callIso E (callT E) 39 args H = prepK E (callT E) 39 (peP E 39 (prep H args)) := (iso_prep args).trans (by rw [pe39])
theorem ak40 : E.argk 40 = [] := by kernel_rfl
theorem rk40 : E.resk 40 = [] := by kernel_rfl
theorem ow40 : E.own 40 = false := by kernel_rfl
theorem pe40 (args : List AV) (H : Hp) : prepE E 40 H args = peP E 40 (prep H args) := prepE_v rfl args
theorem cr40 (args : List AV) (H : Hp) : calleeR E 40 args H = crK args (peP E 40 (prep H args)) := (cr_prep args).trans (by rw [pe40])
theorem ci40 (args : List AV) (H : Hp) : callIso E (callT E) 40 args H = prepK E (callT E) 40 (peP E 40 (prep H args)) := (iso_prep args).trans (by rw [pe40])
theorem ak41 : E.argk 41 = [[some 1]] := by kernel_rfl
theorem rk41 : E.resk 41 = [] := by kernel_rfl
theorem ow41 : E.own 41 = false := by kernel_rfl
theorem pe41 (args : List AV) (H : Hp) : prepE E 41 H args = peP E 41 (prep H args) := prepE_v rfl args
theorem cr41 (args : List AV) (H : Hp) : calleeR E 41 args H = crK args (peP E 41 (prep H args)) := (cr_prep args).trans (by rw [pe41])
theorem ci41 (args : List AV) (H : Hp) : callIso E (callT E) 41 args H = prepK E (callT E) 41 (peP E 41 (prep H args)) := (iso_prep args).trans (by rw [pe41])
theorem ak42 : E.argk 42 = [[some 1]] := by kernel_rfl
theorem pe42 (args : List AV) (H : Hp) : prepE E 42 H args = some (matL (E.argk 42) args H) := prepE_r rfl args
theorem cr42 (args : List AV) (H : Hp) : calleeR E 42 args H = crK args (some (matL (E.argk 42) args H)) := (cr_prep args).trans (by rw [pe42])
theorem ci42 (args : List AV) (H : Hp) : callIso E (callT E) 42 args H = prepK E (callT E) 42 (some (matL (E.argk 42) args H)) := (iso_prep args).trans (by rw [pe42])
theorem ak46 : E.argk 46 = [[some 1], [some 1]] := by kernel_rfl
theorem rk46 : E.resk 46 = [] := by kernel_rfl
theorem ow46 : E.own 46 = false := by kernel_rfl
theorem pe46 (args : List AV) (H : Hp) : prepE E 46 H args = peP E 46 (prep H args) := prepE_v rfl args
theorem cr46 (args : List AV) (H : Hp) : calleeR E 46 args H = crK args (peP E 46 (prep H args)) := (cr_prep args).trans (by rw [pe46])
theorem ci46 (args : List AV) (H : Hp) : callIso E (callT E) 46 args H = prepK E (callT E) 46 (peP E 46 (prep H args)) := (iso_prep args).trans (by rw [pe46])
theorem ak47 : E.argk 47 = [] := by kernel_rfl
theorem pe47 (args : List AV) (H : Hp) : prepE E 47 H args = peP E 47 (prep H args) := prepE_v rfl args
theorem cr47 (args : List AV) (H : Hp) : calleeR E 47 args H = crK args (peP E 47 (prep H args)) := (cr_prep args).trans (by rw [pe47])
theorem ci47 (args : List AV) (H : Hp) : callIso E (callT E) 47 args H = prepK E (callT E) 47 (peP E 47 (prep H args)) := (iso_prep args).trans (by rw [pe47])
theorem ak48 : E.argk 48 = [[some 1]] := by kernel_rfl
theorem rk48 : E.resk 48 = [] := by kernel_rfl
theorem ow48 : E.own 48 = false := by kernel_rfl
theorem pe48 (args : List AV) (H : Hp) : prepE E 48 H args = peP E 48 (prep H args) := prepE_v rfl args
theorem cr48 (args : List AV) (H : Hp) : calleeR E 48 args H = crK args (peP E 48 (prep H args)) := (cr_prep args).trans (by rw [pe48])
theorem ci48 (args : List AV) (H : Hp) : callIso E (callT E) 48 args H = prepK E (callT E) 48 (peP E 48 (prep H args)) := (iso_prep args).trans (by rw [pe48])
theorem ak49 : E.argk 49 = [] := by kernel_rfl
theorem rk49 : E.resk 49 = [] := by kernel_rfl
theorem ow49 : E.own 49 = false := by kernel_rfl
theorem pe49 (args : List AV) (H : Hp) : prepE E 49 H args = peP E 49 (prep H args) := prepE_v rfl args
theorem cr49 (args : List AV) (H : Hp) : calleeR E 49 args H = crK args (peP E 49 (prep H args)) := (cr_prep args).trans (by rw [pe49])
theorem ci49 (args : List AV) (H : Hp) : callIso E (callT E) 49 args H = prepK E (callT E) 49 (peP E 49 (prep H args)) := (iso_prep args).trans (by rw [pe49])
theorem ak50 : E.argk 50 = [[], [some 1]] := by kernel_rfl
theorem rk50 : E.resk 50 = [] := by kernel_rfl
theorem ow50 : E.own 50 = false := by kernel_rfl
theorem pe50 (args : List AV) (H : Hp) : prepE E 50 H args = peP E 50 (prep H args) := prepE_v rfl args
theorem cr50 (args : List AV) (H : Hp) : calleeR E 50 args H = crK args (peP E 50 (prep H args)) := (cr_prep args).trans (by rw [pe50])
theorem ci50 (args : List AV) (H : Hp) : callIso E (callT E) 50 args H = prepK E (callT E) 50 (peP E 50 (prep H args)) := (iso_prep args).trans (by rw [pe50])
theorem ak51 : E.argk 51 = [] := by kernel_rfl
theorem rk51 : E.resk 51 = [] := by kernel_rfl
theorem ow51 : E.own 51 = false := by kernel_rfl
theorem pe51 (args : List AV) (H : Hp) : prepE E 51 H args = peP E 51 (prep H args) := prepE_v rfl args
theorem cr51 (args : List AV) (H : Hp) : calleeR E 51 args H = crK args (peP E 51 (prep H args)) := (cr_prep args).trans (by rw [pe51])
theorem ci51 (args : List AV) (H : Hp) : callIso E (callT E) 51 args H = prepK E (callT E) 51 (peP E 51 (prep H args)) := (iso_prep args).trans (by rw [pe51])
theorem ak52 : E.argk 52 = [] := by kernel_rfl
theorem rk52 : E.resk 52 = [] := by kernel_rfl
theorem ow52 : E.own 52 = false := by kernel_rfl
theorem pe52 (args : List AV) (H : Hp) : prepE E 52 H args = peP E 52 (prep H args) := prepE_v rfl args
theorem cr52 (args : List AV) (H : Hp) : calleeR E 52 args H = crK args (peP E 52 (prep H args)) := (cr_prep args).trans (by rw [pe52])
theorem ci52 (args : List AV) (H : Hp) : callIso E (callT E) 52 args H = prepK E (callT E) 52 (peP E 52 (prep H args)) := (iso_prep args).trans (by rw [pe52])
theorem ak53 : E.argk 53 = [] := by kernel_rfl
theorem rk53 : E.resk 53 = [[], [some 1]] := by kernel_rfl
theorem ow53 : E.own 53 = false := by kernel_rfl
theorem pe53 (args : List AV) (H : Hp) : prepE E 53 H args = peP E 53 (prep H args) := prepE_v rfl args
theorem cr53 (args : List AV) (H : Hp) : calleeR E 53 args H = crK args (peP E 53 (prep H args)) := (cr_prep args).trans (by rw [pe53])
theorem ci53 (args : List AV) (H : Hp) : callIso E (callT E) 53 args H = prepK E (callT E) 53 (peP E 53 (prep H args)) := (iso_prep args).trans (by rw [pe53])
theorem ak54 : E.argk 54 = [[some 1]] := by kernel_rfl
theorem rk54 : E.resk 54 = [[some 1]] := by kernel_rfl
theorem ow54 : E.own 54 = true := by kernel_rfl
theorem pe54 (args : List AV) (H : Hp) : prepE E 54 H args = some (matL (E.argk 54) args H) := prepE_r rfl args
theorem cr54 (args : List AV) (H : Hp) : calleeR E 54 args H = crK args (some (matL (E.argk 54) args H)) := (cr_prep args).trans (by rw [pe54])
theorem ci54 (args : List AV) (H : Hp) : callIso E (callT E) 54 args H = prepK E (callT E) 54 (some (matL (E.argk 54) args H)) := (iso_prep args).trans (by rw [pe54])
theorem ak55 : E.argk 55 = [] := by kernel_rfl
theorem rk55 : E.resk 55 = [] := by kernel_rfl
theorem ow55 : E.own 55 = false := by kernel_rfl
theorem pe55 (args : List AV) (H : Hp) : prepE E 55 H args = peP E 55 (prep H args) := prepE_v rfl args
theorem cr55 (args : List AV) (H : Hp) : calleeR E 55 args H = crK args (peP E 55 (prep H args)) := (cr_prep args).trans (by rw [pe55])
theorem ci55 (args : List AV) (H : Hp) : callIso E (callT E) 55 args H = prepK E (callT E) 55 (peP E 55 (prep H args)) := (iso_prep args).trans (by rw [pe55])
theorem ak56 : E.argk 56 = [] := by kernel_rfl
theorem rk56 : E.resk 56 = [] := by kernel_rfl
theorem ow56 : E.own 56 = false := by kernel_rfl
theorem pe56 (args : List AV) (H : Hp) : prepE E 56 H args = peP E 56 (prep H args) := prepE_v rfl args
theorem cr56 (args : List AV) (H : Hp) : calleeR E 56 args H = crK args (peP E 56 (prep H args)) := (cr_prep args).trans (by rw [pe56])
theorem ci56 (args : List AV) (H : Hp) : callIso E (callT E) 56 args H = prepK E (callT E) 56 (peP E 56 (prep H args)) := (iso_prep args).trans (by rw [pe56])
theorem ak57 : E.argk 57 = [[some 1]] := by kernel_rfl
theorem rk57 : E.resk 57 = [] := by kernel_rfl
theorem ow57 : E.own 57 = false := by kernel_rfl
theorem pe57 (args : List AV) (H : Hp) : prepE E 57 H args = peP E 57 (prep H args) := prepE_v rfl args
theorem cr57 (args : List AV) (H : Hp) : calleeR E 57 args H = crK args (peP E 57 (prep H args)) := (cr_prep args).trans (by rw [pe57])
theorem ci57 (args : List AV) (H : Hp) : callIso E (callT E) 57 args H = prepK E (callT E) 57 (peP E 57 (prep H args)) := (iso_prep args).trans (by rw [pe57])
theorem ak58 : E.argk 58 = [] := by kernel_rfl
theorem rk58 : E.resk 58 = [] := by kernel_rfl
theorem ow58 : E.own 58 = false := by kernel_rfl
theorem pe58 (args : List AV) (H : Hp) : prepE E 58 H args = peP E 58 (prep H args) := prepE_v rfl args
theorem cr58 (args : List AV) (H : Hp) : calleeR E 58 args H = crK args (peP E 58 (prep H args)) := (cr_prep args).trans (by rw [pe58])
theorem ci58 (args : List AV) (H : Hp) : callIso E (callT E) 58 args H = prepK E (callT E) 58 (peP E 58 (prep H args)) := (iso_prep args).trans (by rw [pe58])
theorem ak60 : E.argk 60 = [[some 1]] := by kernel_rfl
theorem rk60 : E.resk 60 = [] := by kernel_rfl
theorem ow60 : E.own 60 = false := by kernel_rfl
theorem pe60 (args : List AV) (H : Hp) : prepE E 60 H args = peP E 60 (prep H args) := prepE_v rfl args
theorem cr60 (args : List AV) (H : Hp) : calleeR E 60 args H = crK args (peP E 60 (prep H args)) := (cr_prep args).trans (by rw [pe60])
theorem ci60 (args : List AV) (H : Hp) : callIso E (callT E) 60 args H = prepK E (callT E) 60 (peP E 60 (prep H args)) := (iso_prep args).trans (by rw [pe60])
theorem ak61 : E.argk 61 = [] := by kernel_rfl
theorem rk61 : E.resk 61 = [] := by kernel_rfl
theorem ow61 : E.own 61 = false := by kernel_rfl
theorem pe61 (args : List AV) (H : Hp) : prepE E 61 H args = peP E 61 (prep H args) := prepE_v rfl args
theorem cr61 (args : List AV) (H : Hp) : calleeR E 61 args H = crK args (peP E 61 (prep H args)) := (cr_prep args).trans (by rw [pe61])
theorem ci61 (args : List AV) (H : Hp) : callIso E (callT E) 61 args H = prepK E (callT E) 61 (peP E 61 (prep H args)) := (iso_prep args).trans (by rw [pe61])
theorem ak62 : E.argk 62 = [] := by kernel_rfl
theorem rk62 : E.resk 62 = [] := by kernel_rfl
theorem ow62 : E.own 62 = false := by kernel_rfl
theorem pe62 (args : List AV) (H : Hp) : prepE E 62 H args = peP E 62 (prep H args) := prepE_v rfl args
theorem cr62 (args : List AV) (H : Hp) : calleeR E 62 args H = crK args (peP E 62 (prep H args)) := (cr_prep args).trans (by rw [pe62])
theorem ci62 (args : List AV) (H : Hp) : callIso E (callT E) 62 args H = prepK E (callT E) 62 (peP E 62 (prep H args)) := (iso_prep args).trans (by rw [pe62])
theorem ak64 : E.argk 64 = [] := by kernel_rfl
theorem rk64 : E.resk 64 = [] := by kernel_rfl
theorem ow64 : E.own 64 = false := by kernel_rfl
theorem pe64 (args : List AV) (H : Hp) : prepE E 64 H args = peP E 64 (prep H args) := prepE_v rfl args
theorem cr64 (args : List AV) (H : Hp) : calleeR E 64 args H = crK args (peP E 64 (prep H args)) := (cr_prep args).trans (by rw [pe64])
theorem ci64 (args : List AV) (H : Hp) : callIso E (callT E) 64 args H = prepK E (callT E) 64 (peP E 64 (prep H args)) := (iso_prep args).trans (by rw [pe64])
theorem bd23 (parts : List (Nat × AV)) : buildE E 23 parts = aggK (fillS [(0, 1), (1, 1), (2, 1)] [.i (.v (.int .i64 0)), .i (.str []), .i (.str [])] parts) := bd_struct (by kernel_rfl) (by kernel_rfl) (by kernel_rfl) parts
theorem bd31 (parts : List (Nat × AV)) : buildE E 31 parts = aggK (fillS [(0, 1), (1, 1), (2, 1), (3, 1), (4, 1), (5, 1), (6, 1)] [.i (.v (.int .i64 0)), .i (.v (.int .i32 0)), .i (.v (.int .u8 0)), .i (.v (.int .u8 0)), .i (.str []), .i (.sl 0 [] true), .i (.str [])] parts) := bd_struct (by kernel_rfl) (by kernel_rfl) (by kernel_rfl) parts
theorem bd44 (parts : List (Nat × AV)) : buildE E 44 parts = aggK (fillS [(0, 3), (3, 1)] [.i (.v (.int .i64 0)), .i (.str []), .i (.str []), .i (.sl 0 [] true)] parts) := bd_struct (by kernel_rfl) (by kernel_rfl) (by kernel_rfl) parts
theorem bd67 (parts : List (Nat × AV)) : buildE E 67 parts = aggK (fillS [(0, 1), (1, 1), (2, 1), (3, 1)] [.i (.v (.int .i32 0)), .i (.v (.int .i64 0)), .i (.v (.int .u8 0)), .i (.v (.int .u8 0))] parts) := bd_struct (by kernel_rfl) (by kernel_rfl) (by kernel_rfl) parts
theorem bd84 (parts : List (Nat × AV)) : buildE E 84 parts = aggK (fillA 1 [.i (.v (.int .u8 0)), .i (.v (.int .u8 0)), .i (.v (.int .u8 0)), .i (.v (.int .u8 0)), .i (.v (.int .u8 0)), .i (.v (.int .u8 0)), .i (.v (.int .u8 0)), .i (.v (.int .u8 0)), .i (.v (.int .u8 0)), .i (.v (.int .u8 0)), .i (.v (.int .u8 0)), .i (.v (.int .u8 0)), .i (.v (.int .u8 0)), .i (.v (.int .u8 0)), .i (.v (.int .u8 0)), .i (.v (.int .u8 0)), .i (.v (.int .u8 0)), .i (.v (.int .u8 0)), .i (.v (.int .u8 0)), .i (.v (.int .u8 0)), .i (.v (.int .u8 0)), .i (.v (.int .u8 0)), .i (.v (.int .u8 0)), .i (.v (.int .u8 0))] parts) := bd_arr (n := 24) (e := 5) (by kernel_rfl) (by kernel_rfl) (by kernel_rfl) parts
theorem bd91 (parts : List (Nat × AV)) : buildE E 91 parts = aggK (fillA 1 [.i (.v (.int .u64 0)), .i (.v (.int .u64 0)), .i (.v (.int .u64 0)), .i (.v (.int .u64 0)), .i (.v (.int .u64 0)), .i (.v (.int .u64 0)), .i (.v (.int .u64 0)), .i (.v (.int .u64 0)), .i (.v (.int .u64 0)), .i (.v (.int .u64 0)), .i (.v (.int .u64 0)), .i (.v (.int .u64 0)), .i (.v (.int .u64 0)), .i (.v (.int .u64 0)), .i (.v (.int .u64 0)), .i (.v (.int .u64 0)), .i (.v (.int .u64 0)), .i (.v (.int .u64 0)), .i (.v (.int .u64 0)), .i (.v (.int .u64 0))] parts) := bd_arr (n := 20) (e := 81) (by kernel_rfl) (by kernel_rfl) (by kernel_rfl) parts
theorem bd92 (parts : List (Nat × AV)) : buildE E 92 parts = aggK (fillA 1 [.i (.v (.int .u8 0)), .i (.v (.int .u8 0)), .i (.v (.int .u8 0)), .i (.v (.int .u8 0)), .i (.v (.int .u8 0)), .i (.v (.int .u8 0)), .i (.v (.int .u8 0)), .i (.v (.int .u8 0)), .i (.v (.int .u8 0)), .i (.v (.int .u8 0)), .i (.v (.int .u8 0)), .i (.v (.int .u8 0)), .i (.v (.int .u8 0)), .i (.v (.int .u8 0)), .i (.v (.int .u8 0)), .i (.v (.int .u8 0)), .i (.v (.int .u8 0)), .i (.v (.int .u8 0)), .i (.v (.int .u8 0)), .i (.v (.int .u8 0)), .i (.v (.int .u8 0)), .i (.v (.int .u8 0)), .i (.v (.int .u8 0)), .i (.v (.int .u8 0)), .i (.v (.int .u8 0)), .i (.v (.int .u8 0)), .i (.v (.int .u8 0)), .i (.v (.int .u8 0)), .i (.v (.int .u8 0)), .i (.v (.int .u8 0)), .i (.v (.int .u8 0)), .i (.v (.int .u8 0)), .i (.v (.int .u8 0)), .i (.v (.int .u8 0)), .i (.v (.int .u8 0)), .i (.v (.int .u8 0)), .i (.v (.int .u8 0)), .i (.v (.int .u8 0)), .i (.v (.int .u8 0)), .i (.v (.int .u8 0)), .i (.v (.int .u8 0)), .i (.v (.int .u8 0)), .i (.v (.int .u8 0)), .i (.v (.int .u8 0)), .i (.v (.int .u8 0)), .i (.v (.int .u8 0)), .i (.v (.int .u8 0)), .i (.v (.int .u8 0)), .i (.v (.int .u8 0)), .i (.v (.int .u8 0)), .i (.v (.int .u8 0)), .i (.v (.int .u8 0)), .i (.v (.int .u8 0)), .i (.v (.int .u8 0)), .i (.v (.int .u8 0)), .i (.v (.int .u8 0)), .i (.v (.int .u8 0)), .i (.v (.int .u8 0)), .i (.v (.int .u8 0)), .i (.v (.int .u8 0)), .i (.v (.int .u8 0)), .i (.v (.int .u8 0)), .i (.v (.int .u8 0)), .i (.v (.int .u8 0)), .i (.v (.int .u8 0))] parts) := bd_arr (n := 65) (e := 5) (by kernel_rfl) (by kernel_rfl) (by kernel_rfl) parts
theorem bd95 (parts : List (Nat × AV)) : buildE E 95 parts = aggK (fillA 1 [.i (.v (.int .u8 0)), .i (.v (.int .u8 0)), .i (.v (.int .u8 0)), .i (.v (.int .u8 0)), .i (.v (.int .u8 0)), .i (.v (.int .u8 0)), .i (.v (.int .u8 0)), .i (.v (.int .u8 0)), .i (.v (.int .u8 0)), .i (.v (.int .u8 0)), .i (.v (.int .u8 0)), .i (.v (.int .u8 0)), .i (.v (.int .u8 0)), .i (.v (.int .u8 0)), .i (.v (.int .u8 0)), .i (.v (.int .u8 0)), .i (.v (.int .u8 0)), .i (.v (.int .u8 0)), .i (.v (.int .u8 0)), .i (.v (.int .u8 0)), .i (.v (.int .u8 0)), .i (.v (.int .u8 0)), .i (.v (.int .u8 0)), .i (.v (.int .u8 0)), .i (.v (.int .u8 0)), .i (.v (.int .u8 0)), .i (.v (.int .u8 0)), .i (.v (.int .u8 0)), .i (.v (.int .u8 0)), .i (.v (.int .u8 0)), .i (.v (.int .u8 0)), .i (.v (.int .u8 0))] parts) := bd_arr (n := 32) (e := 5) (by kernel_rfl) (by kernel_rfl) (by kernel_rfl) parts
theorem bd96 (parts : List (Nat × AV)) : buildE E 96 parts = aggK (fillA 1 [.i (.v (.int .u8 0)), .i (.v (.int .u8 0)), .i (.v (.int .u8 0)), .i (.v (.int .u8 0)), .i (.v (.int .u8 0)), .i (.v (.int .u8 0)), .i (.v (.int .u8 0)), .i (.v (.int .u8 0)), .i (.v (.int .u8 0)), .i (.v (.int .u8 0)), .i (.v (.int .u8 0)), .i (.v (.int .u8 0)), .i (.v (.int .u8 0)), .i (.v (.int .u8 0)), .i (.v (.int .u8 0)), .i (.v (.int .u8 0)), .i (.v (.int .u8 0)), .i (.v (.int .u8 0)), .i (.v (.int .u8 0)), .i (.v (.int .u8 0)), .i (.v (.int .u8 0)), .i (.v (.int .u8 0)), .i (.v (.int .u8 0)), .i (.v (.int .u8 0)), .i (.v (.int .u8 0)), .i (.v (.int .u8 0)), .i (.v (.int .u8 0)), .i (.v (.int .u8 0)), .i (.v (.int .u8 0)), .i (.v (.int .u8 0)), .i (.v (.int .u8 0)), .i (.v (.int .u8 0)), .i (.v (.int .u8 0)), .i (.v (.int .u8 0)), .i (.v (.int .u8 0)), .i (.v (.int .u8 0)), .i (.v (.int .u8 0)), .i (.v (.int .u8 0)), .i (.v (.int .u8 0)), .i (.v (.int .u8 0)), .i (.v (.int .u8 0)), .i (.v (.int .u8 0)), .i (.v (.int .u8 0)), .i (.v (.int .u8 0)), .i (.v (.int .u8 0)), .i (.v (.int .u8 0)), .i (.v (.int .u8 0)), .i (.v (.int .u8 0)), .i (.v (.int .u8 0)), .i (.v (.int .u8 0)), .i (.v (.int .u8 0)), .i (.v (.int .u8 0)), .i (.v (.int .u8 0)), .i (.v (.int .u8 0)), .i (.v (.int .u8 0)), .i (.v (.int .u8 0)), .i (.v (.int .u8 0)), .i (.v (.int .u8 0)), .i (.v (.int .u8 0)), .i (.v (.int .u8 0)), .i (.v (.int .u8 0)), .i (.v (.int .u8 0)), .i (.v (.int .u8 0)), .i (.v (.int .u8 0))] parts) := bd_arr (n := 64) (e := 5) (by kernel_rfl) (by kernel_rfl) (by kernel_rfl) parts
theorem cv2_81 (cl : CallF) (fr : Fr) (H : Hp) (x : Operand) : evOp E cl (.convert 2 81 x) fr H = pK H (convE E 2 81 (opd E fr x)) := op_convert _ _ _ (by kernel_rfl) (by kernel_rfl)
theorem cv3_5 (cl : CallF) (fr : Fr) (H : Hp) (x : Operand) : evOp E cl (.convert 3 5 x) fr H = pK H (convE E 3 5 (opd E fr x)) := op_convert _ _ _ (by kernel_rfl) (by kernel_rfl)
theorem cv3_68 (cl : CallF) (fr : Fr) (H : Hp) (x : Operand) : evOp E cl (.convert 3 68 x) fr H = pK H (convE E 3 68 (opd E fr x)) := op_convert _ _ _ (by kernel_rfl) (by kernel_rfl)
theorem cv3_81 (cl : CallF) (fr : Fr) (H : Hp) (x : Operand) : evOp E cl (.convert 3 81 x) fr H = pK H (convE E 3 81 (opd E fr x)) := op_convert _ _ _ (by kernel_rfl) (by kernel_rfl)
theorem cv5_3 (cl : CallF) (fr : Fr) (H : Hp) (x : Operand) : evOp E cl (.convert 5 3 x) fr H = pK H (convE E 5 3 (opd E fr x)) := op_convert _ _ _ (by kernel_rfl) (by kernel_rfl)
theorem cv5_21 (cl : CallF) (fr : Fr) (H : Hp) (x : Operand) : evOp E cl (.convert 5 21 x) fr H = pK H (convE E 5 21 (opd E fr x)) := op_convert _ _ _ (by kernel_rfl) (by kernel_rfl)
theorem cv9_47 (cl : CallF) (fr : Fr) (H : Hp) (x : Operand) : evOp E cl (.convert 9 47 x) fr H = cvK H (opd E fr x) := op_convB (by kernel_rfl) (by kernel_rfl) x
theorem cv21_5 (cl : CallF) (fr : Fr) (H : Hp) (x : Operand) : evOp E cl (.convert 21 5 x) fr H = pK H (convE E 21 5 (opd E fr x)) := op_convert _ _ _ (by kernel_rfl) (by kernel_rfl)
theorem cv21_75 (cl : CallF) (fr : Fr) (H : Hp) (x : Operand) : evOp E cl (.convert 21 75 x) fr H = pK H (convE E 21 75 (opd E fr x)) := op_convert _ _ _ (by kernel_rfl) (by kernel_rfl)
theorem cv47_9 (cl : CallF) (fr : Fr) (H : Hp) (x : Operand) : evOp E cl (.convert 47 9 x) fr H = pK H (cvS (rowsE H (opd E fr x))) := op_cvS (e := 5) (by kernel_rfl) (by kernel_rfl) (by kernel_rfl) (by kernel_rfl) x
theorem cv68_75 (cl : CallF) (fr : Fr) (H : Hp) (x : Operand) : evOp E cl (.convert 68 75 x) fr H = pK H (convE E 68 75 (opd E fr x)) := op_convert _ _ _ (by kernel_rfl) (by kernel_rfl)
theorem cv75_5 (cl : CallF) (fr : Fr) (H : Hp) (x : Operand) : evOp E cl (.convert 75 5 x) fr H = pK H (convE E 75 5 (opd E fr x)) := op_convert _ _ _ (by kernel_rfl) (by kernel_rfl)
theorem cv81_3 (cl : CallF) (fr : Fr) (H : Hp) (x : Operand) : evOp E cl (.convert 81 3 x) fr H = pK H (convE E 81 3 (opd E fr x)) := op_convert _ _ _ (by kernel_rfl) (by kernel_rfl)
theorem cv81_5 (cl : CallF) (fr : Fr) (H : Hp) (x : Operand) : evOp E cl (.convert 81 5 x) fr H = pK H (convE E 81 5 (opd E fr x)) := op_convert _ _ _ (by kernel_rfl) (by kernel_rfl)
theorem cv81_75 (cl : CallF) (fr : Fr) (H : Hp) (x : Operand) : evOp E cl (.convert 81 75 x) fr H = pK H (convE E 81 75 (opd E fr x)) := op_convert _ _ _ (by kernel_rfl) (by kernel_rfl)
theorem sx9 (H : Hp) (s : List UInt8) (lo hi : Option AV) : sliceE E H 9 (.i (.str s)) lo hi none = slSK s (bnd 0 lo) (bnd s.length hi) := sl_str (by kernel_rfl) s lo hi
theorem ap26_26 (H : Hp) (s x : AV) : appendE E H 26 26 s x = apS 7 H s (srcE H x) := ap_eq (by kernel_rfl) H s x
theorem ap29_29 (H : Hp) (s x : AV) : appendE E H 29 29 s x = apS 1 H s (srcE H x) := ap_eq (by kernel_rfl) H s x
theorem ap47_9 (H : Hp) (s x : AV) : appendE E H 47 9 s x = apS 1 H s (srcE H x) := ap_eq (by kernel_rfl) H s x
theorem ap47_47 (H : Hp) (s x : AV) : appendE E H 47 47 s x = apS 1 H s (srcE H x) := ap_eq (by kernel_rfl) H s x
theorem ap49_49 (H : Hp) (s x : AV) : appendE E H 49 49 s x = apS 1 H s (srcE H x) := ap_eq (by kernel_rfl) H s x
theorem bs26 (H : Hp) (n : Nat) (hn : n * 7 ≤ 16777216) (parts : List (Nat × AV)) : buildSliceE E H 26 n parts = bsF [none, none, none, none, none, some 1, none] 7 n H (fillA 7 (List.replicate n [.i (.v (.int .i64 0)), .i (.v (.int .i32 0)), .i (.v (.int .u8 0)), .i (.v (.int .u8 0)), .i (.str []), .i (.sl 0 [] true), .i (.str [])]).flatten parts) := bs_eq (by kernel_rfl) H n hn parts
theorem br26 (n : Nat) (parts : List (Nat × AV)) : buildRefs E 26 n parts = brK (fillA 7 (List.replicate n [.i (.v (.int .i64 0)), .i (.v (.int .i32 0)), .i (.v (.int .u8 0)), .i (.v (.int .u8 0)), .i (.str []), .i (.sl 0 [] true), .i (.str [])]).flatten parts) := br_eq (ks := [none, none, none, none, none, some 1, none]) (by kernel_rfl) n parts
theorem ms26 (H : Hp) (k k' : IntKind) (n m : Int) : makeSliceE E H 26 (.i (.v (.int k n))) (.i (.v (.int k' m))) = if 0 ≤ n ∧ n = m ∧ n < 1073741824 then some (.ref H.length 0 0 n.toNat, H ++ [.sl 7 0 (List.replicate n.toNat [.v (.int .i64 0), .v (.int .i32 0), .v (.int .u8 0), .v (.int .u8 0), .str [], .sl 1 [] false, .str []]) true]) else none := ms_eq (by kernel_rfl) H k k' n m
theorem bs29 (H : Hp) (n : Nat) (hn : n * 1 ≤ 16777216) (parts : List (Nat × AV)) : buildSliceE E H 29 n parts = bsF [] 1 n H (fillA 1 (List.replicate n [.i (.v (.int .i64 0))]).flatten parts) := bs_eq (by kernel_rfl) H n hn parts
theorem br29 (n : Nat) (parts : List (Nat × AV)) : buildRefs E 29 n parts = brK (fillA 1 (List.replicate n [.i (.v (.int .i64 0))]).flatten parts) := br_eq (ks := []) (by kernel_rfl) n parts
theorem ms29 (H : Hp) (k k' : IntKind) (n m : Int) : makeSliceE E H 29 (.i (.v (.int k n))) (.i (.v (.int k' m))) = if 0 ≤ n ∧ n = m ∧ n < 1073741824 then some (.ref H.length 0 0 n.toNat, H ++ [.sl 1 0 (List.replicate n.toNat [.v (.int .i64 0)]) true]) else none := ms_eq (by kernel_rfl) H k k' n m
theorem bs47 (H : Hp) (n : Nat) (hn : n * 1 ≤ 16777216) (parts : List (Nat × AV)) : buildSliceE E H 47 n parts = bsF [] 1 n H (fillA 1 (List.replicate n [.i (.v (.int .u8 0))]).flatten parts) := bs_eq (by kernel_rfl) H n hn parts
theorem br47 (n : Nat) (parts : List (Nat × AV)) : buildRefs E 47 n parts = brK (fillA 1 (List.replicate n [.i (.v (.int .u8 0))]).flatten parts) := br_eq (ks := []) (by kernel_rfl) n parts
theorem ms47 (H : Hp) (k k' : IntKind) (n m : Int) : makeSliceE E H 47 (.i (.v (.int k n))) (.i (.v (.int k' m))) = if 0 ≤ n ∧ n = m ∧ n < 1073741824 then some (.ref H.length 0 0 n.toNat, H ++ [.sl 1 0 (List.replicate n.toNat [.v (.int .u8 0)]) true]) else none := ms_eq (by kernel_rfl) H k k' n m
theorem bs49 (H : Hp) (n : Nat) (hn : n * 1 ≤ 16777216) (parts : List (Nat × AV)) : buildSliceE E H 49 n parts = bsF [] 1 n H (fillA 1 (List.replicate n [.i (.v (.int .i32 0))]).flatten parts) := bs_eq (by kernel_rfl) H n hn parts
theorem br49 (n : Nat) (parts : List (Nat × AV)) : buildRefs E 49 n parts = brK (fillA 1 (List.replicate n [.i (.v (.int .i32 0))]).flatten parts) := br_eq (ks := []) (by kernel_rfl) n parts
theorem ms49 (H : Hp) (k k' : IntKind) (n m : Int) : makeSliceE E H 49 (.i (.v (.int k n))) (.i (.v (.int k' m))) = if 0 ≤ n ∧ n = m ∧ n < 1073741824 then some (.ref H.length 0 0 n.toNat, H ++ [.sl 1 0 (List.replicate n.toNat [.v (.int .i32 0)]) true]) else none := ms_eq (by kernel_rfl) H k k' n m
theorem st21 (H : Hp) (c g r k : Nat) (v : AV) : storeE E H 21 (.ptr c g r k) v = if (cellsA v).length = 1 ∧ (cellsA v).all one = true then stC [] 1 H c g r k (cellsA v) H[c]? else none := st_eq sz21 H c g r k v
theorem st23 (H : Hp) (c g r k : Nat) (v : AV) : storeE E H 23 (.ptr c g r k) v = if (cellsA v).length = 3 ∧ (cellsA v).all one = true then stC [] 3 H c g r k (cellsA v) H[c]? else none := st_eq sz23 H c g r k v
theorem st26 (H : Hp) (c g r k : Nat) (v : AV) : storeE E H 26 (.ptr c g r k) v = if (cellsA v).length = 1 ∧ (cellsA v).all one = true then stC [some 7] 1 H c g r k (cellsA v) H[c]? else none := st_eq sz26 H c g r k v
theorem st29 (H : Hp) (c g r k : Nat) (v : AV) : storeE E H 29 (.ptr c g r k) v = if (cellsA v).length = 1 ∧ (cellsA v).all one = true then stC [some 1] 1 H c g r k (cellsA v) H[c]? else none := st_eq sz29 H c g r k v
theorem st3 (H : Hp) (c g r k : Nat) (v : AV) : storeE E H 3 (.ptr c g r k) v = if (cellsA v).length = 1 ∧ (cellsA v).all one = true then stC [] 1 H c g r k (cellsA v) H[c]? else none := st_eq sz3 H c g r k v
theorem st31 (H : Hp) (c g r k : Nat) (v : AV) : storeE E H 31 (.ptr c g r k) v = if (cellsA v).length = 7 ∧ (cellsA v).all one = true then stC [none, none, none, none, none, some 1, none] 7 H c g r k (cellsA v) H[c]? else none := st_eq sz31 H c g r k v
theorem st44 (H : Hp) (c g r k : Nat) (v : AV) : storeE E H 44 (.ptr c g r k) v = if (cellsA v).length = 4 ∧ (cellsA v).all one = true then stC [none, none, none, some 7] 4 H c g r k (cellsA v) H[c]? else none := st_eq sz44 H c g r k v
theorem st5 (H : Hp) (c g r k : Nat) (v : AV) : storeE E H 5 (.ptr c g r k) v = if (cellsA v).length = 1 ∧ (cellsA v).all one = true then stC [] 1 H c g r k (cellsA v) H[c]? else none := st_eq sz5 H c g r k v
theorem st67 (H : Hp) (c g r k : Nat) (v : AV) : storeE E H 67 (.ptr c g r k) v = if (cellsA v).length = 4 ∧ (cellsA v).all one = true then stC [] 4 H c g r k (cellsA v) H[c]? else none := st_eq sz67 H c g r k v
theorem st81 (H : Hp) (c g r k : Nat) (v : AV) : storeE E H 81 (.ptr c g r k) v = if (cellsA v).length = 1 ∧ (cellsA v).all one = true then stC [] 1 H c g r k (cellsA v) H[c]? else none := st_eq sz81 H c g r k v
theorem st84 (H : Hp) (c g r k : Nat) (v : AV) : storeE E H 84 (.ptr c g r k) v = if (cellsA v).length = 24 ∧ (cellsA v).all one = true then stC [] 24 H c g r k (cellsA v) H[c]? else none := st_eq sz84 H c g r k v
theorem st9 (H : Hp) (c g r k : Nat) (v : AV) : storeE E H 9 (.ptr c g r k) v = if (cellsA v).length = 1 ∧ (cellsA v).all one = true then stC [] 1 H c g r k (cellsA v) H[c]? else none := st_eq sz9 H c g r k v
theorem st91 (H : Hp) (c g r k : Nat) (v : AV) : storeE E H 91 (.ptr c g r k) v = if (cellsA v).length = 20 ∧ (cellsA v).all one = true then stC [] 20 H c g r k (cellsA v) H[c]? else none := st_eq sz91 H c g r k v
theorem st92 (H : Hp) (c g r k : Nat) (v : AV) : storeE E H 92 (.ptr c g r k) v = if (cellsA v).length = 65 ∧ (cellsA v).all one = true then stC [] 65 H c g r k (cellsA v) H[c]? else none := st_eq sz92 H c g r k v
theorem st95 (H : Hp) (c g r k : Nat) (v : AV) : storeE E H 95 (.ptr c g r k) v = if (cellsA v).length = 32 ∧ (cellsA v).all one = true then stC [] 32 H c g r k (cellsA v) H[c]? else none := st_eq sz95 H c g r k v
theorem st96 (H : Hp) (c g r k : Nat) (v : AV) : storeE E H 96 (.ptr c g r k) v = if (cellsA v).length = 64 ∧ (cellsA v).all one = true then stC [] 64 H c g r k (cellsA v) H[c]? else none := st_eq sz96 H c g r k v
def en7 := And.intro @ent7 (And.intro @res7 (And.intro @rk7 (And.intro @ow7 (And.intro @kp7_0 (And.intro @kp7_1 (And.intro @kp7_2 (And.intro @kp7_3 (And.intro @kp7_4 (And.intro @kp7_5 (And.intro @kp7_6 (And.intro @kp7_7 (And.intro @kp7_8 (And.intro @kp7_9 (And.intro @kp7_10 (And.intro @kp7_11 (And.intro @kp7_12 (And.intro @kp7_13 (And.intro @kp7_14 (And.intro @kp7_15 (And.intro @kp7_16 (And.intro @kp7_17 (And.intro @hd7_5 (And.intro @ent9 (And.intro @ci9 (And.intro @cr9 (And.intro @ak9 (And.intro @ent10 (And.intro @ci10 (And.intro @cr10 (And.intro @ak10 (And.intro @ent11 (And.intro @ci11 (And.intro @cr11 (And.intro @ak11 (And.intro @ent12 (And.intro @ci12 (And.intro @cr12 (And.intro @ak12 (And.intro @ent13 (And.intro @ci13 (And.intro @cr13 (And.intro @ak13 (And.intro @ent16 (And.intro @ci16 (And.intro @cr16 (And.intro @ak16 (And.intro @ent17 (And.intro @ci17 (And.intro @cr17 (And.intro @ak17 (And.intro @agg23 (And.intro @agg26 (And.intro @agg31 (And.intro @agg9 (And.intro @arr23 (And.intro @arr26 (And.intro @arrz23 (And.intro @arrz31 (And.intro @eqg23 (And.intro @kind23 (And.intro @kind26 (And.intro @kind31 (And.intro @kind9 (And.intro @cv47_9 (And.intro @cv9_47 (And.intro @lv23 (And.intro @pl23 (And.intro @pl31 (And.intro @sl23 (And.intro @sl26 (And.intro @ms26 (And.intro @br26 (And.intro @ap26_26 (And.intro @sl31 (And.intro @sl9 (And.intro @sx9 (And.intro @str23 (And.intro @str26 (And.intro @str31 (And.intro @str9 (And.intro @sz23 (And.intro @st23 (And.intro @sz31 (And.intro @st31 (And.intro @zero23 (And.intro @bd23 (And.intro @zero31 (@bd31))))))))))))))))))))))))))))))))))))))))))))))))))))))))))))))))))))))))))))))))))))))))
def en10 := And.intro @ent10 (And.intro @res10 (And.intro @rk10 (And.intro @ow10 (And.intro @kp10_0 (And.intro @kp10_1 (And.intro @kp10_2 (And.intro @kp10_3 (And.intro @kp10_4 (And.intro @kp10_5 (And.intro @kp10_6 (And.intro @kp10_7 (And.intro @kp10_8 (And.intro @kp10_9 (And.intro @kp10_10 (And.intro @hd10_5 (And.intro @fl10_10 (And.intro @dr10_10 (And.intro @ent18 (And.intro @ci18 (And.intro @cr18 (And.intro @ak18 (And.intro @ent19 (And.intro @ci19 (And.intro @cr19 (And.intro @ak19 (And.intro @ent20 (And.intro @ci20 (And.intro @cr20 (And.intro @ak20 (And.intro @agg21 (And.intro @agg23 (And.intro @agg26 (And.intro @agg3 (And.intro @agg31 (And.intro @agg42 (And.intro @agg44 (And.intro @agg5 (And.intro @agg9 (And.intro @arr31 (And.intro @arr44 (And.intro @arr9 (And.intro @arrz23 (And.intro @arrz31 (And.intro @arrz44 (And.intro @fld23_0 (And.intro @fld23_1 (And.intro @fld31_0 (And.intro @fld31_1 (And.intro @fld44_0 (And.intro @fld44_1 (And.intro @kind21 (And.intro @cv21_75 (And.intro @cv21_5 (And.intro @cv5_21 (And.intro @kind23 (And.intro @kind31 (And.intro @kind42 (And.intro @kind5 (And.intro @cv5_3 (And.intro @cv81_5 (And.intro @cv75_5 (And.intro @cv3_5 (And.intro @kind9 (And.intro @cv47_9 (And.intro @cv9_47 (And.intro @pl23 (And.intro @pl31 (And.intro @pl44 (And.intro @sl21 (And.intro @sl23 (And.intro @sl31 (And.intro @sl42 (And.intro @sl5 (And.intro @sl9 (And.intro @sx9 (And.intro @str21 (And.intro @str23 (And.intro @str31 (And.intro @str42 (And.intro @str5 (And.intro @str9 (And.intro @sz21 (And.intro @st21 (And.intro @sz23 (And.intro @st23 (And.intro @sz26 (And.intro @st26 (And.intro @sz3 (And.intro @st3 (And.intro @sz31 (And.intro @st31 (And.intro @sz44 (And.intro @st44 (And.intro @sz9 (And.intro @st9 (And.intro @zero23 (And.intro @bd23 (And.intro @zero31 (And.intro @bd31 (And.intro @zero44 (@bd44)))))))))))))))))))))))))))))))))))))))))))))))))))))))))))))))))))))))))))))))))))))))))))))))))))))
def en11 := And.intro @ent11 (And.intro @res11 (And.intro @rk11 (And.intro @ow11 (And.intro @kp11_0 (And.intro @kp11_1 (And.intro @kp11_2 (And.intro @kp11_3 (And.intro @kp11_4 (And.intro @kp11_5 (And.intro @ent21 (And.intro @ci21 (And.intro @cr21 (And.intro @ak21 (And.intro @agg3 (And.intro @agg31 (And.intro @fld31_0 (And.intro @kind31 (And.intro @sl31 (And.intro @str31 (And.intro @sz3 (And.intro @st3 (And.intro @sz31 (@st31)))))))))))))))))))))))
def en12 := And.intro @ent12 (And.intro @res12 (And.intro @rk12 (And.intro @ow12 (And.intro @kp12_0 (And.intro @kp12_1 (And.intro @agg29 (And.intro @agg3 (And.intro @agg9 (And.intro @fld31_4 (And.intro @fld31_5 (And.intro @fld31_6 (And.intro @kind29 (And.intro @kind3 (And.intro @cv5_3 (And.intro @cv3_81 (And.intro @cv81_3 (And.intro @cv3_5 (And.intro @cv3_68 (And.intro @kind9 (And.intro @cv47_9 (And.intro @cv9_47 (And.intro @sl29 (And.intro @ms29 (And.intro @br29 (And.intro @ap29_29 (And.intro @sl9 (And.intro @sx9 (And.intro @str29 (And.intro @str9 (And.intro @sz29 (And.intro @st29 (And.intro @sz3 (And.intro @st3 (And.intro @sz9 (And.intro @st9 (@zero3))))))))))))))))))))))))))))))))))))
def en13 := And.intro @ent13 (And.intro @res13 (And.intro @rk13 (And.intro @ow13 (And.intro @kp13_0 (And.intro @kp13_1 (And.intro @kp13_2 (And.intro @kp13_3 (And.intro @kp13_4 (And.intro @kp13_5 (And.intro @kp13_6 (And.intro @kp13_7 (And.intro @kp13_8 (And.intro @kp13_9 (And.intro @kp13_10 (And.intro @kp13_11 (And.intro @kp13_12 (And.intro @kp13_13 (And.intro @kp13_14 (And.intro @kp13_15 (And.intro @ent11 (And.intro @ci11 (And.intro @cr11 (And.intro @ak11 (And.intro @ent22 (And.intro @ci22 (And.intro @cr22 (And.intro @ak22 (And.intro @ent23 (And.intro @ci23 (And.intro @cr23 (And.intro @ak23 (And.intro @agg21 (And.intro @agg29 (And.intro @agg3 (And.intro @agg31 (And.intro @agg47 (And.intro @agg49 (And.intro @agg5 (And.intro @agg9 (And.intro @fld31_0 (And.intro @fld31_1 (And.intro @fld31_2 (And.intro @fld31_3 (And.intro @fld31_4 (And.intro @fld31_5 (And.intro @fld31_6 (And.intro @kind21 (And.intro @cv21_75 (And.intro @cv21_5 (And.intro @cv5_21 (And.intro @kind29 (And.intro @kind3 (And.intro @cv5_3 (And.intro @cv3_81 (And.intro @cv81_3 (And.intro @cv3_5 (And.intro @cv3_68 (And.intro @kind31 (And.intro @kind47 (And.intro @cv47_9 (And.intro @cv9_47 (And.intro @kind49 (And.intro @kind5 (And.intro @cv81_5 (And.intro @cv75_5 (And.intro @kind9 (And.intro @sl29 (And.intro @ms29 (And.intro @br29 (And.intro @ap29_29 (And.intro @sl31 (And.intro @sl47 (And.intro @ms47 (And.intro @br47 (And.intro @ap47_47 (And.intro @ap47_9 (And.intro @sl49 (And.intro @ms49 (And.intro @br49 (And.intro @ap49_49 (And.intro @sl5 (And.intro @sl9 (And.intro @sx9 (And.intro @str29 (And.intro @str31 (And.intro @str47 (And.intro @str49 (And.intro @str5 (And.intro @str9 (And.intro @sz21 (And.intro @st21 (And.intro @sz29 (And.intro @st29 (And.intro @sz3 (And.intro @st3 (And.intro @sz31 (And.intro @st31 (And.intro @sz5 (And.intro @st5 (And.intro @sz9 (And.intro @st9 (And.intro @zero21 (And.intro @zero3 (@zero5))))))))))))))))))))))))))))))))))))))))))))))))))))))))))))))))))))))))))))))))))))))))))))))))))))))))
def en16 := And.intro @ent16 (And.intro @res16 (And.intro @rk16 (And.intro @ow16 (And.intro @kp16_0 (And.intro @kp16_1 (And.intro @kp16_2 (And.intro @kp16_3 (And.intro @kp16_4 (And.intro @kp16_5 (And.intro @kp16_6 (And.intro @kp16_7 (And.intro @kp16_8 (And.intro @hd16_4 (And.intro @fl16_6 (And.intro @dr16_6 (And.intro @ent27 (And.intro @ci27 (And.intro @cr27 (And.intro @ak27 (And.intro @agg26 (And.intro @agg31 (And.intro @arr26 (And.intro @arrz31 (And.intro @kind26 (And.intro @kind31 (And.intro @pl31 (And.intro @sl26 (And.intro @ms26 (And.intro @br26 (And.intro @ap26_26 (And.intro @sl31 (And.intro @str26 (And.intro @str31 (And.intro @sz31 (And.intro @st31 (And.intro @zero31 (@bd31)))))))))))))))))))))))))))))))))))))
def en17 := And.intro @ent17 (And.intro @res17 (And.intro @rk17 (And.intro @ow17 (And.intro @kp17_0 (And.intro @kp17_1 (And.intro @ent18 (And.intro @ci18 (And.intro @cr18 (And.intro @ak18 (And.intro @agg23 (And.intro @arr23 (And.intro @arrz23 (And.intro @eqg23 (And.intro @kind23 (And.intro @lv23 (And.intro @pl23 (And.intro @sl23 (And.intro @str23 (And.intro @sz23 (And.intro @st23 (And.intro @zero23 (@bd23))))))))))))))))))))))
def en18 := And.intro @ent18 (And.intro @res18 (And.intro @rk18 (And.intro @ow18 (And.intro @kp18_0 (And.intro @kp18_1 (And.intro @kp18_2 (And.intro @kp18_3 (And.intro @kp18_4 (And.intro @kp18_5 (And.intro @kp18_6 (And.intro @kp18_7 (And.intro @kp18_8 (And.intro @kp18_9 (And.intro @kp18_10 (And.intro @kp18_11 (And.intro @kp18_12 (And.intro @kp18_13 (And.intro @kp18_14 (And.intro @ent28 (And.intro @ci28 (And.intro @cr28 (And.intro @ak28 (And.intro @ent29 (And.intro @ci29 (And.intro @cr29 (And.intro @ak29 (And.intro @agg21 (And.intro @agg3 (And.intro @agg49 (And.intro @agg5 (And.intro @agg9 (And.intro @fld23_0 (And.intro @fld23_1 (And.intro @fld23_2 (And.intro @kind21 (And.intro @cv21_75 (And.intro @cv21_5 (And.intro @cv5_21 (And.intro @kind49 (And.intro @kind5 (And.intro @cv5_3 (And.intro @cv81_5 (And.intro @cv75_5 (And.intro @cv3_5 (And.intro @kind9 (And.intro @cv47_9 (And.intro @cv9_47 (And.intro @sl49 (And.intro @ms49 (And.intro @br49 (And.intro @ap49_49 (And.intro @sl5 (And.intro @sl9 (And.intro @sx9 (And.intro @str49 (And.intro @str5 (And.intro @str9 (And.intro @sz21 (And.intro @st21 (And.intro @sz3 (And.intro @st3 (And.intro @sz9 (And.intro @st9 (@zero21))))))))))))))))))))))))))))))))))))))))))))))))))))))))))))))))
def en19 := And.intro @ent19 (And.intro @res19 (And.intro @rk19 (And.intro @ow19 (And.intro @kp19_0 (And.intro @kp19_1 (And.intro @fl19_1 (And.intro @dr19_1 (And.intro @agg26 (And.intro @agg31 (And.intro @arrz31 (And.intro @fld44_1 (And.intro @kind26 (And.intro @kind31 (And.intro @pl31 (And.intro @sl26 (And.intro @ms26 (And.intro @br26 (And.intro @ap26_26 (And.intro @str26 (And.intro @sz26 (And.intro @st26 (And.intro @sz31 (And.intro @st31 (And.intro @zero31 (@bd31)))))))))))))))))))))))))
def en20 := And.intro @ent20 (And.intro @res20 (And.intro @rk20 (And.intro @ow20 (And.intro @kp20_0 (And.intro @kp20_1 (And.intro @kp20_2 (And.intro @kp20_3 (And.intro @kp20_4 (And.intro @kp20_5 (And.intro @kp20_6 (And.intro @kp20_7 (And.intro @kp20_8 (And.intro @kp20_9 (And.intro @kp20_10 (And.intro @kp20_11 (And.intro @ent30 (And.intro @ci30 (And.intro @cr30 (And.intro @ak30 (And.intro @ent31 (And.intro @ci31 (And.intro @cr31 (And.intro @ak31 (And.intro @ent32 (And.intro @ci32 (And.intro @cr32 (And.intro @ak32 (And.intro @ent33 (And.intro @ci33 (And.intro @cr33 (And.intro @ak33 (And.intro @ent34 (And.intro @ci34 (And.intro @cr34 (And.intro @ak34 (And.intro @ent35 (And.intro @ci35 (And.intro @cr35 (And.intro @ak35 (And.intro @agg23 (And.intro @agg3 (And.intro @agg42 (And.intro @agg5 (And.intro @fld23_0 (And.intro @fld44_0 (And.intro @kind3 (And.intro @cv5_3 (And.intro @cv3_81 (And.intro @cv81_3 (And.intro @cv3_5 (And.intro @cv3_68 (And.intro @kind42 (And.intro @kind5 (And.intro @cv21_5 (And.intro @cv81_5 (And.intro @cv5_21 (And.intro @cv75_5 (And.intro @sl3 (And.intro @sl42 (And.intro @sl5 (And.intro @str3 (And.intro @str42 (And.intro @str5 (And.intro @sz23 (And.intro @st23 (And.intro @sz3 (@st3)))))))))))))))))))))))))))))))))))))))))))))))))))))))))))))))))))
def en21 := And.intro @ent21 (And.intro @res21 (And.intro @rk21 (And.intro @ow21 (And.intro @kp21_0 (And.intro @kp21_1 (And.intro @kp21_2 (And.intro @kp21_3 (And.intro @kp21_4 (And.intro @kp21_5 (And.intro @kp21_6 (And.intro @kp21_7 (And.intro @kp21_8 (And.intro @kp21_9 (And.intro @kp21_10 (And.intro @kp21_11 (And.intro @kp21_12 (And.intro @kp21_13 (And.intro @kp21_14 (And.intro @kp21_15 (And.intro @kp21_16 (And.intro @kp21_17 (And.intro @kp21_18 (And.intro @kp21_19 (And.intro @kp21_20 (And.intro @kp21_21 (And.intro @kp21_22 (And.intro @kp21_23 (And.intro @kp21_24 (And.intro @kp21_25 (And.intro @kp21_26 (And.intro @fl21_7 (And.intro @dr21_7 (And.intro @fl21_14 (And.intro @dr21_14 (And.intro @fl21_18 (And.intro @dr21_18 (And.intro @ent22 (And.intro @ci22 (And.intro @cr22 (And.intro @ak22 (And.intro @ent23 (And.intro @ci23 (And.intro @cr23 (And.intro @ak23 (And.intro @ent28 (And.intro @ci28 (And.intro @cr28 (And.intro @ak28 (And.intro @ent29 (And.intro @ci29 (And.intro @cr29 (And.intro @ak29 (And.intro @agg21 (And.intro @agg29 (And.intro @agg3 (And.intro @agg31 (And.intro @agg49 (And.intro @agg5 (And.intro @agg9 (And.intro @arr31 (And.intro @arr49 (And.intro @arrz31 (And.intro @fld31_0 (And.intro @fld31_1 (And.intro @fld31_2 (And.intro @fld31_3 (And.intro @fld31_4 (And.intro @fld31_5 (And.intro @fld31_6 (And.intro @kind21 (And.intro @cv21_75 (And.intro @cv21_5 (And.intro @cv5_21 (And.intro @kind29 (And.intro @kind3 (And.intro @cv5_3 (And.intro @cv3_81 (And.intro @cv81_3 (And.intro @cv3_5 (And.intro @cv3_68 (And.intro @kind49 (And.intro @kind5 (And.intro @cv81_5 (And.intro @cv75_5 (And.intro @kind9 (And.intro @cv47_9 (And.intro @cv9_47 (And.intro @pl31 (And.intro @sl29 (And.intro @ms29 (And.intro @br29 (And.intro @ap29_29 (And.intro @sl49 (And.intro @ms49 (And.intro @br49 (And.intro @ap49_49 (And.intro @sl5 (And.intro @sl9 (And.intro @sx9 (And.intro @str29 (And.intro @str49 (And.intro @str5 (And.intro @str9 (And.intro @sz21 (And.intro @st21 (And.intro @sz29 (And.intro @st29 (And.intro @sz3 (And.intro @st3 (And.intro @sz31 (And.intro @st31 (And.intro @sz5 (And.intro @st5 (And.intro @sz9 (And.intro @st9 (And.intro @zero21 (And.intro @zero3 (And.intro @zero31 (@bd31)))))))))))))))))))))))))))))))))))))))))))))))))))))))))))))))))))))))))))))))))))))))))))))))))))))))))))))))))))))))
def en22 := And.intro @ent22 (And.intro @res22 (And.intro @rk22 (And.intro @ow22 (And.intro @kp22_0 (And.intro @kp22_1 (And.intro @kp22_2 (And.intro @kp22_3 (And.intro @kp22_4 (And.intro @kp22_5 (And.intro @kp22_6 (And.intro @kp22_7 (And.intro @hd22_3 (And.intro @ent36 (And.intro @ci36 (And.intro @cr36 (And.intro @ak36 (And.intro @agg21 (And.intro @agg47 (And.intro @agg49 (And.intro @agg5 (And.intro @agg9 (And.intro @arr49 (And.intro @kind21 (And.intro @cv21_75 (And.intro @cv21_5 (And.intro @cv5_21 (And.intro @kind47 (And.intro @cv47_9 (And.intro @cv9_47 (And.intro @kind49 (And.intro @kind5 (And.intro @cv5_3 (And.intro @cv81_5 (And.intro @cv75_5 (And.intro @cv3_5 (And.intro @kind9 (And.intro @sl21 (And.intro @sl47 (And.intro @ms47 (And.intro @br47 (And.intro @ap47_47 (And.intro @ap47_9 (And.intro @sl49 (And.intro @ms49 (And.intro @br49 (And.intro @ap49_49 (And.intro @sl9 (And.intro @sx9 (And.intro @str21 (And.intro @str47 (And.intro @str49 (And.intro @str9 (And.intro @sz21 (And.intro @st21 (And.intro @sz5 (And.intro @st5 (And.intro @zero21 (@zero5))))))))))))))))))))))))))))))))))))))))))))))))))))))))))
def en23 := And.intro @ent23 (And.intro @res23 (And.intro @rk23 (And.intro @ow23 (And.intro @kp23_0 (And.intro @kp23_1 (And.intro @kp23_2 (And.intro @kp23_3 (And.intro @kp23_4 (And.intro @kp23_5 (And.intro @kp23_6 (And.intro @kp23_7 (And.intro @kp23_8 (And.intro @kp23_9 (And.intro @kp23_10 (And.intro @kp23_11 (And.intro @kp23_12 (And.intro @kp23_13 (And.intro @kp23_14 (And.intro @kp23_15 (And.intro @kp23_16 (And.intro @kp23_17 (And.intro @kp23_18 (And.intro @kp23_19 (And.intro @kp23_20 (And.intro @hd23_13 (And.intro @ent37 (And.intro @ci37 (And.intro @cr37 (And.intro @ak37 (And.intro @ent38 (And.intro @ci38 (And.intro @cr38 (And.intro @ak38 (And.intro @ent39 (And.intro @ci39 (And.intro @cr39 (And.intro @ak39 (And.intro @ent41 (And.intro @ci41 (And.intro @cr41 (And.intro @ak41 (And.intro @ent42 (And.intro @ci42 (And.intro @cr42 (And.intro @ak42 (And.intro @xk42 (And.intro @agg2 (And.intro @agg29 (And.intro @agg3 (And.intro @agg47 (And.intro @agg5 (And.intro @agg61 (And.intro @agg9 (And.intro @arr29 (And.intro @kind2 (And.intro @cv2_81 (And.intro @kind29 (And.intro @kind3 (And.intro @cv5_3 (And.intro @cv3_81 (And.intro @cv81_3 (And.intro @cv3_5 (And.intro @cv3_68 (And.intro @kind47 (And.intro @cv47_9 (And.intro @cv9_47 (And.intro @kind5 (And.intro @cv21_5 (And.intro @cv81_5 (And.intro @cv5_21 (And.intro @cv75_5 (And.intro @kind61 (And.intro @kind9 (And.intro @sl2 (And.intro @sl29 (And.intro @ms29 (And.intro @br29 (And.intro @ap29_29 (And.intro @sl3 (And.intro @sl47 (And.intro @ms47 (And.intro @br47 (And.intro @ap47_47 (And.intro @ap47_9 (And.intro @sl5 (And.intro @sl61 (And.intro @sl9 (And.intro @sx9 (And.intro @str2 (And.intro @str29 (And.intro @str3 (And.intro @str47 (And.intro @str5 (And.intro @str61 (And.intro @str9 (And.intro @sz3 (And.intro @st3 (And.intro @sz5 (And.intro @st5 (And.intro @zero3 (@zero5)))))))))))))))))))))))))))))))))))))))))))))))))))))))))))))))))))))))))))))))))))))))))))))))))))))
def en27 := And.intro @ent27 (And.intro @res27 (And.intro @rk27 (And.intro @ow27 (And.intro @kp27_0 (And.intro @kp27_1 (And.intro @ent46 (And.intro @ci46 (And.intro @cr46 (And.intro @ak46 (And.intro @agg21 (And.intro @agg29 (And.intro @agg3 (And.intro @agg5 (And.intro @agg9 (And.intro @fld31_0 (And.intro @fld31_1 (And.intro @fld31_2 (And.intro @fld31_3 (And.intro @fld31_4 (And.intro @fld31_5 (And.intro @fld31_6 (And.intro @kind29 (And.intro @kind3 (And.intro @cv5_3 (And.intro @cv3_81 (And.intro @cv81_3 (And.intro @cv3_5 (And.intro @cv3_68 (And.intro @sl29 (And.intro @ms29 (And.intro @br29 (And.intro @ap29_29 (And.intro @str29 (And.intro @str9 (And.intro @sx9 (And.intro @cv47_9 (And.intro @cv9_47 (And.intro @sz21 (And.intro @st21 (And.intro @sz29 (And.intro @st29 (And.intro @sz3 (And.intro @st3 (And.intro @sz5 (And.intro @st5 (And.intro @sz9 (And.intro @st9 (@zero3))))))))))))))))))))))))))))))))))))))))))))))))
def en28 := And.intro @ent28 (And.intro @res28 (And.intro @rk28 (And.intro @ow28 (And.intro @kp28_0 (And.intro @kp28_1 (And.intro @kp28_2 (And.intro @kp28_3 (And.intro @kp28_4 (And.intro @kp28_5 (And.intro @kp28_6 (And.intro @kp28_7 (And.intro @kp28_8 (And.intro @kp28_9 (And.intro @kp28_10 (And.intro @kp28_11 (And.intro @kp28_12 (And.intro @kp28_13 (And.intro @kp28_14 (And.intro @kp28_15 (And.intro @kp28_16 (And.intro @kp28_17 (And.intro @kp28_18 (And.intro @kp28_19 (And.intro @kp28_20 (And.intro @kp28_21 (And.intro @kp28_22 (And.intro @kp28_23 (And.intro @hd28_6 (And.intro @fl28_23 (And.intro @dr28_23 (And.intro @ent47 (And.intro @ci47 (And.intro @cr47 (And.intro @ak47 (And.intro @agg21 (And.intro @agg3 (And.intro @agg49 (And.intro @agg5 (And.intro @agg67 (And.intro @agg9 (And.intro @arr67 (And.intro @arr9 (And.intro @arrz67 (And.intro @fld67_0 (And.intro @fld67_1 (And.intro @fld67_2 (And.intro @fld67_3 (And.intro @kind21 (And.intro @cv21_75 (And.intro @cv21_5 (And.intro @cv5_21 (And.intro @kind49 (And.intro @kind5 (And.intro @cv5_3 (And.intro @cv81_5 (And.intro @cv75_5 (And.intro @cv3_5 (And.intro @kind9 (And.intro @cv47_9 (And.intro @cv9_47 (And.intro @pl67 (And.intro @sl21 (And.intro @sl49 (And.intro @ms49 (And.intro @br49 (And.intro @ap49_49 (And.intro @sl5 (And.intro @sl9 (And.intro @sx9 (And.intro @str21 (And.intro @str49 (And.intro @str5 (And.intro @str9 (And.intro @sz21 (And.intro @st21 (And.intro @sz3 (And.intro @st3 (And.intro @sz5 (And.intro @st5 (And.intro @sz67 (And.intro @st67 (And.intro @zero21 (And.intro @zero67 (@bd67))))))))))))))))))))))))))))))))))))))))))))))))))))))))))))))))))))))))))))))))))))
def en29 := And.intro @ent29 (And.intro @res29 (And.intro @rk29 (And.intro @ow29 (And.intro @kp29_0 (And.intro @kp29_1 (And.intro @ent48 (And.intro @ci48 (And.intro @cr48 (And.intro @ak48 (And.intro @ent49 (And.intro @ci49 (And.intro @cr49 (And.intro @ak49 (And.intro @agg47 (And.intro @agg5 (And.intro @agg58 (And.intro @agg9 (And.intro @kind47 (And.intro @cv47_9 (And.intro @cv9_47 (And.intro @kind5 (And.intro @cv5_3 (And.intro @cv21_5 (And.intro @cv81_5 (And.intro @cv5_21 (And.intro @cv75_5 (And.intro @cv3_5 (And.intro @kind58 (And.intro @kind9 (And.intro @sl47 (And.intro @ms47 (And.intro @br47 (And.intro @ap47_47 (And.intro @ap47_9 (And.intro @sl58 (And.intro @sl9 (And.intro @sx9 (And.intro @str47 (And.intro @str58 (And.intro @str9 (And.intro @sz5 (And.intro @st5 (@zero5)))))))))))))))))))))))))))))))))))))))))))
def en30 := And.intro @ent30 (And.intro @res30 (And.intro @rk30 (And.intro @ow30 (And.intro @kp30_0 (And.intro @kp30_1 (And.intro @kp30_2 (And.intro @kp30_3 (And.intro @kp30_4 (And.intro @kp30_5 (And.intro @kp30_6 (And.intro @kp30_7 (And.intro @kp30_8 (And.intro @kp30_9 (And.intro @kp30_10 (And.intro @kp30_11 (And.intro @kp30_12 (And.intro @kp30_13 (And.intro @fl30_1 (And.intro @dr30_1 (And.intro @ent19 (And.intro @ci19 (And.intro @cr19 (And.intro @ak19 (And.intro @ent28 (And.intro @ci28 (And.intro @cr28 (And.intro @ak28 (And.intro @ent32 (And.intro @ci32 (And.intro @cr32 (And.intro @ak32 (And.intro @ent50 (And.intro @ci50 (And.intro @cr50 (And.intro @ak50 (And.intro @agg21 (And.intro @agg23 (And.intro @agg3 (And.intro @agg31 (And.intro @agg42 (And.intro @agg47 (And.intro @agg49 (And.intro @agg5 (And.intro @agg9 (And.intro @arr31 (And.intro @arrz31 (And.intro @fld23_1 (And.intro @fld31_0 (And.intro @fld31_1 (And.intro @fld31_2 (And.intro @fld44_0 (And.intro @kind21 (And.intro @cv21_75 (And.intro @cv21_5 (And.intro @cv5_21 (And.intro @kind3 (And.intro @cv5_3 (And.intro @cv3_81 (And.intro @cv81_3 (And.intro @cv3_5 (And.intro @cv3_68 (And.intro @kind31 (And.intro @kind42 (And.intro @kind47 (And.intro @cv47_9 (And.intro @cv9_47 (And.intro @kind49 (And.intro @kind5 (And.intro @cv81_5 (And.intro @cv75_5 (And.intro @kind9 (And.intro @pl31 (And.intro @sl3 (And.intro @sl31 (And.intro @sl42 (And.intro @sl47 (And.intro @ms47 (And.intro @br47 (And.intro @ap47_47 (And.intro @ap47_9 (And.intro @sl49 (And.intro @ms49 (And.intro @br49 (And.intro @ap49_49 (And.intro @sl9 (And.intro @sx9 (And.intro @str3 (And.intro @str31 (And.intro @str42 (And.intro @str47 (And.intro @str49 (And.intro @str9 (And.intro @sz21 (And.intro @st21 (And.intro @sz23 (And.intro @st23 (And.intro @sz3 (And.intro @st3 (And.intro @sz31 (And.intro @st31 (And.intro @sz5 (And.intro @st5 (And.intro @sz9 (And.intro @st9 (And.intro @zero21 (And.intro @zero31 (And.intro @bd31 (@zero5))))))))))))))))))))))))))))))))))))))))))))))))))))))))))))))))))))))))))))))))))))))))))))))))))))))))))))
def en31 := And.intro @ent31 (And.intro @res31 (And.intro @rk31 (And.intro @ow31 (And.intro @kp31_0 (And.intro @kp31_1 (And.intro @kp31_2 (And.intro @ent19 (And.intro @ci19 (And.intro @cr19 (And.intro @ak19 (And.intro @ent32 (And.intro @ci32 (And.intro @cr32 (And.intro @ak32 (And.intro @agg23 (And.intro @agg3 (And.intro @agg31 (And.intro @agg42 (And.intro @agg9 (And.intro @arr31 (And.intro @arrz31 (And.intro @fld23_2 (And.intro @fld31_0 (And.intro @fld31_6 (And.intro @fld44_0 (And.intro @kind3 (And.intro @cv5_3 (And.intro @cv3_81 (And.intro @cv81_3 (And.intro @cv3_5 (And.intro @cv3_68 (And.intro @kind31 (And.intro @kind42 (And.intro @pl31 (And.intro @sl3 (And.intro @sl31 (And.intro @sl42 (And.intro @str3 (And.intro @str31 (And.intro @str42 (And.intro @sz23 (And.intro @st23 (And.intro @sz3 (And.intro @st3 (And.intro @sz31 (And.intro @st31 (And.intro @sz9 (And.intro @st9 (And.intro @zero31 (@bd31))))))))))))))))))))))))))))))))))))))))))))))))))
def en32 := And.intro @ent32 (And.intro @res32 (And.intro @rk32 (And.intro @ow32 (And.intro @kp32_0 (And.intro @agg23 (And.intro @agg3 (And.intro @arr23 (And.intro @arrz23 (And.intro @fld23_0 (And.intro @fld44_0 (And.intro @pl23 (And.intro @sz23 (And.intro @st23 (And.intro @sz3 (And.intro @st3 (And.intro @zero23 (@bd23)))))))))))))))))
def en33 := And.intro @ent33 (And.intro @res33 (And.intro @rk33 (And.intro @ow33 (And.intro @kp33_0 (And.intro @kp33_1 (And.intro @kp33_2 (And.intro @kp33_3 (And.intro @kp33_4 (And.intro @kp33_5 (And.intro @kp33_6 (And.intro @kp33_7 (And.intro @kp33_8 (And.intro @kp33_9 (And.intro @kp33_10 (And.intro @ent19 (And.intro @ci19 (And.intro @cr19 (And.intro @ak19 (And.intro @ent32 (And.intro @ci32 (And.intro @cr32 (And.intro @ak32 (And.intro @ent51 (And.intro @ci51 (And.intro @cr51 (And.intro @ak51 (And.intro @ent52 (And.intro @ci52 (And.intro @cr52 (And.intro @ak52 (And.intro @agg23 (And.intro @agg3 (And.intro @agg31 (And.intro @agg42 (And.intro @agg5 (And.intro @agg9 (And.intro @arr31 (And.intro @arrz31 (And.intro @fld23_2 (And.intro @fld31_0 (And.intro @fld31_2 (And.intro @fld31_4 (And.intro @fld44_0 (And.intro @kind3 (And.intro @cv5_3 (And.intro @cv3_81 (And.intro @cv81_3 (And.intro @cv3_5 (And.intro @cv3_68 (And.intro @kind31 (And.intro @kind42 (And.intro @kind5 (And.intro @cv21_5 (And.intro @cv81_5 (And.intro @cv5_21 (And.intro @cv75_5 (And.intro @kind9 (And.intro @cv47_9 (And.intro @cv9_47 (And.intro @pl31 (And.intro @sl3 (And.intro @sl31 (And.intro @sl42 (And.intro @sl5 (And.intro @sl9 (And.intro @sx9 (And.intro @str3 (And.intro @str31 (And.intro @str42 (And.intro @str5 (And.intro @str9 (And.intro @sz23 (And.intro @st23 (And.intro @sz3 (And.intro @st3 (And.intro @sz31 (And.intro @st31 (And.intro @sz5 (And.intro @st5 (And.intro @sz9 (And.intro @st9 (And.intro @zero31 (@bd31)))))))))))))))))))))))))))))))))))))))))))))))))))))))))))))))))))))))))))))))))))
def en34 := And.intro @ent34 (And.intro @res34 (And.intro @rk34 (And.intro @ow34 (And.intro @kp34_0 (And.intro @kp34_1 (And.intro @kp34_2 (And.intro @kp34_3 (And.intro @kp34_4 (And.intro @kp34_5 (And.intro @kp34_6 (And.intro @kp34_7 (And.intro @kp34_8 (And.intro @ent19 (And.intro @ci19 (And.intro @cr19 (And.intro @ak19 (And.intro @ent32 (And.intro @ci32 (And.intro @cr32 (And.intro @ak32 (And.intro @ent51 (And.intro @ci51 (And.intro @cr51 (And.intro @ak51 (And.intro @ent52 (And.intro @ci52 (And.intro @cr52 (And.intro @ak52 (And.intro @ent53 (And.intro @ci53 (And.intro @cr53 (And.intro @ak53 (And.intro @agg23 (And.intro @agg29 (And.intro @agg3 (And.intro @agg31 (And.intro @agg42 (And.intro @agg5 (And.intro @agg9 (And.intro @arr31 (And.intro @arrz31 (And.intro @fld23_2 (And.intro @fld31_0 (And.intro @fld31_2 (And.intro @fld31_3 (And.intro @fld31_4 (And.intro @fld31_5 (And.intro @fld44_0 (And.intro @kind3 (And.intro @cv5_3 (And.intro @cv3_81 (And.intro @cv81_3 (And.intro @cv3_5 (And.intro @cv3_68 (And.intro @kind31 (And.intro @kind42 (And.intro @kind5 (And.intro @cv21_5 (And.intro @cv81_5 (And.intro @cv5_21 (And.intro @cv75_5 (And.intro @kind9 (And.intro @cv47_9 (And.intro @cv9_47 (And.intro @pl31 (And.intro @sl3 (And.intro @sl31 (And.intro @sl42 (And.intro @sl5 (And.intro @sl9 (And.intro @sx9 (And.intro @str3 (And.intro @str31 (And.intro @str42 (And.intro @str5 (And.intro @str9 (And.intro @sz23 (And.intro @st23 (And.intro @sz29 (And.intro @st29 (And.intro @sz3 (And.intro @st3 (And.intro @sz31 (And.intro @st31 (And.intro @sz5 (And.intro @st5 (And.intro @sz9 (And.intro @st9 (And.intro @zero31 (@bd31))))))))))))))))))))))))))))))))))))))))))))))))))))))))))))))))))))))))))))))))))))))))))
def en35 := And.intro @ent35 (And.intro @res35 (And.intro @rk35 (And.intro @ow35 (And.intro @kp35_0 (And.intro @kp35_1 (And.intro @kp35_2 (And.intro @kp35_3 (And.intro @kp35_4 (And.intro @kp35_5 (And.intro @kp35_6 (And.intro @kp35_7 (And.intro @kp35_8 (And.intro @kp35_9 (And.intro @ent31 (And.intro @ci31 (And.intro @cr31 (And.intro @ak31 (And.intro @ent32 (And.intro @ci32 (And.intro @cr32 (And.intro @ak32 (And.intro @ent52 (And.intro @ci52 (And.intro @cr52 (And.intro @ak52 (And.intro @agg23 (And.intro @agg3 (And.intro @agg42 (And.intro @agg5 (And.intro @fld23_0 (And.intro @fld44_0 (And.intro @kind3 (And.intro @cv5_3 (And.intro @cv3_81 (And.intro @cv81_3 (And.intro @cv3_5 (And.intro @cv3_68 (And.intro @kind42 (And.intro @kind5 (And.intro @cv21_5 (And.intro @cv81_5 (And.intro @cv5_21 (And.intro @cv75_5 (And.intro @sl3 (And.intro @sl42 (And.intro @sl5 (And.intro @str3 (And.intro @str42 (And.intro @str5 (And.intro @sz23 (And.intro @st23 (And.intro @sz3 (@st3)))))))))))))))))))))))))))))))))))))))))))))))))))))
def en36 := And.intro @ent36 (And.intro @res36 (And.intro @rk36 (And.intro @ow36 (And.intro @kp36_0 (And.intro @kp36_1 (And.intro @kp36_2 (And.intro @kp36_3 (And.intro @ent54 (And.intro @ci54 (And.intro @cr54 (And.intro @ak54 (And.intro @agg21 (And.intro @agg47 (And.intro @agg5 (And.intro @agg75 (And.intro @kind21 (And.intro @cv21_75 (And.intro @cv21_5 (And.intro @cv5_21 (And.intro @kind47 (And.intro @cv47_9 (And.intro @cv9_47 (And.intro @kind5 (And.intro @cv5_3 (And.intro @cv81_5 (And.intro @cv75_5 (And.intro @cv3_5 (And.intro @kind75 (And.intro @cv81_75 (And.intro @cv68_75 (And.intro @sl21 (And.intro @sl47 (And.intro @ms47 (And.intro @br47 (And.intro @ap47_47 (And.intro @ap47_9 (And.intro @sl5 (And.intro @sl75 (And.intro @str21 (And.intro @str47 (And.intro @str5 (And.intro @str75 (And.intro @sz5 (And.intro @st5 (@zero5)))))))))))))))))))))))))))))))))))))))))))))
def en37 := And.intro @ent37 (And.intro @res37 (And.intro @rk37 (And.intro @ow37 (And.intro @kp37_0 (@kp37_1)))))
def en38 := And.intro @ent38 (And.intro @res38 (And.intro @rk38 (And.intro @ow38 (And.intro @kp38_0 (And.intro @kp38_1 (And.intro @ent55 (And.intro @ci55 (And.intro @cr55 (And.intro @ak55 (And.intro @agg77 (And.intro @agg9 (And.intro @kind77 (And.intro @kind9 (And.intro @cv47_9 (And.intro @cv9_47 (And.intro @sl77 (And.intro @sl9 (And.intro @sx9 (And.intro @str77 (@str9))))))))))))))))))))
def en39 := And.intro @ent39 (And.intro @res39 (And.intro @rk39 (And.intro @ow39 (And.intro @kp39_0 (And.intro @kp39_1 (And.intro @ent57 (And.intro @ci57 (And.intro @cr57 (And.intro @ak57 (And.intro @agg29 (And.intro @agg3 (And.intro @agg61 (And.intro @kind29 (And.intro @kind3 (And.intro @cv5_3 (And.intro @cv3_81 (And.intro @cv81_3 (And.intro @cv3_5 (And.intro @cv3_68 (And.intro @kind61 (And.intro @sl29 (And.intro @ms29 (And.intro @br29 (And.intro @ap29_29 (And.intro @sl61 (And.intro @str29 (And.intro @str61 (And.intro @sz3 (And.intro @st3 (@zero3))))))))))))))))))))))))))))))
def en40 := And.intro @ent40 (And.intro @res40 (And.intro @rk40 (And.intro @ow40 (And.intro @kp40_0 (@kp40_1)))))
def en41 := And.intro @ent41 (And.intro @res41 (And.intro @rk41 (And.intro @ow41 (And.intro @kp41_0 (And.intro @kp41_1 (And.intro @ent39 (And.intro @ci39 (And.intro @cr39 (And.intro @ak39 (And.intro @agg29 (And.intro @agg3 (And.intro @agg61 (And.intro @agg9 (And.intro @kind29 (And.intro @kind3 (And.intro @cv5_3 (And.intro @cv3_81 (And.intro @cv81_3 (And.intro @cv3_5 (And.intro @cv3_68 (And.intro @kind61 (And.intro @kind9 (And.intro @cv47_9 (And.intro @cv9_47 (And.intro @sl29 (And.intro @ms29 (And.intro @br29 (And.intro @ap29_29 (And.intro @sl61 (And.intro @sl9 (And.intro @sx9 (And.intro @str29 (And.intro @str61 (And.intro @str9 (And.intro @sz3 (And.intro @st3 (@zero3)))))))))))))))))))))))))))))))))))))
def en46 := And.intro @ent46 (And.intro @res46 (And.intro @rk46 (And.intro @ow46 (And.intro @kp46_0 (And.intro @kp46_1 (And.intro @kp46_2 (And.intro @kp46_3 (And.intro @kp46_4 (And.intro @kp46_5 (And.intro @kp46_6 (And.intro @kp46_7 (And.intro @kp46_8 (And.intro @hd46_4 (And.intro @fl46_6 (And.intro @dr46_6 (And.intro @agg29 (And.intro @agg3 (And.intro @arr29 (And.intro @kind29 (And.intro @kind3 (And.intro @cv5_3 (And.intro @cv3_81 (And.intro @cv81_3 (And.intro @cv3_5 (And.intro @cv3_68 (And.intro @sl29 (And.intro @ms29 (And.intro @br29 (And.intro @ap29_29 (And.intro @str29 (And.intro @sz3 (And.intro @st3 (@zero3)))))))))))))))))))))))))))))))))
def en48 := And.intro @ent48 (And.intro @res48 (And.intro @rk48 (And.intro @ow48 (And.intro @kp48_0 (And.intro @kp48_1 (And.intro @ent60 (And.intro @ci60 (And.intro @cr60 (And.intro @ak60 (And.intro @agg47 (And.intro @agg5 (And.intro @agg58 (And.intro @kind47 (And.intro @cv47_9 (And.intro @cv9_47 (And.intro @kind5 (And.intro @cv5_3 (And.intro @cv21_5 (And.intro @cv81_5 (And.intro @cv5_21 (And.intro @cv75_5 (And.intro @cv3_5 (And.intro @kind58 (And.intro @sl47 (And.intro @ms47 (And.intro @br47 (And.intro @ap47_47 (And.intro @ap47_9 (And.intro @sl58 (And.intro @str47 (And.intro @str58 (And.intro @sz5 (And.intro @st5 (@zero5))))))))))))))))))))))))))))))))))
def en49 := And.intro @ent49 (And.intro @res49 (And.intro @rk49 (And.intro @ow49 (And.intro @kp49_0 (And.intro @kp49_1 (And.intro @agg5 (And.intro @sz5 (@st5))))))))
def en50 := And.intro @ent50 (And.intro @res50 (And.intro @rk50 (And.intro @ow50 (And.intro @kp50_0 (And.intro @kp50_1 (And.intro @kp50_2 (And.intro @kp50_3 (And.intro @kp50_4 (And.intro @kp50_5 (And.intro @hd50_1 (And.intro @ent19 (And.intro @ci19 (And.intro @cr19 (And.intro @ak19 (And.intro @agg21 (And.intro @agg3 (And.intro @agg31 (And.intro @agg42 (And.intro @agg49 (And.intro @arr31 (And.intro @arr49 (And.intro @arrz31 (And.intro @fld31_0 (And.intro @fld31_1 (And.intro @kind21 (And.intro @cv21_75 (And.intro @cv21_5 (And.intro @cv5_21 (And.intro @kind31 (And.intro @kind42 (And.intro @kind49 (And.intro @pl31 (And.intro @sl31 (And.intro @sl42 (And.intro @sl49 (And.intro @ms49 (And.intro @br49 (And.intro @ap49_49 (And.intro @str31 (And.intro @str42 (And.intro @str49 (And.intro @sz21 (And.intro @st21 (And.intro @sz3 (And.intro @st3 (And.intro @sz31 (And.intro @st31 (And.intro @zero21 (And.intro @zero31 (@bd31))))))))))))))))))))))))))))))))))))))))))))))))))
def en51 := And.intro @ent51 (And.intro @res51 (And.intro @rk51 (And.intro @ow51 (And.intro @kp51_0 (And.intro @kp51_1 (And.intro @kp51_2 (And.intro @kp51_3 (And.intro @kp51_4 (And.intro @kp51_5 (And.intro @kp51_6 (And.intro @kp51_7 (And.intro @kp51_8 (And.intro @kp51_9 (And.intro @kp51_10 (And.intro @kp51_11 (And.intro @kp51_12 (And.intro @ent19 (And.intro @ci19 (And.intro @cr19 (And.intro @ak19 (And.intro @ent30 (And.intro @ci30 (And.intro @cr30 (And.intro @ak30 (And.intro @ent32 (And.intro @ci32 (And.intro @cr32 (And.intro @ak32 (And.intro @agg3 (And.intro @agg31 (And.intro @agg42 (And.intro @agg5 (And.intro @arr31 (And.intro @arrz31 (And.intro @fld31_0 (And.intro @fld31_2 (And.intro @kind3 (And.intro @cv5_3 (And.intro @cv3_81 (And.intro @cv81_3 (And.intro @cv3_5 (And.intro @cv3_68 (And.intro @kind31 (And.intro @kind42 (And.intro @kind5 (And.intro @cv21_5 (And.intro @cv81_5 (And.intro @cv5_21 (And.intro @cv75_5 (And.intro @pl31 (And.intro @sl3 (And.intro @sl31 (And.intro @sl42 (And.intro @sl5 (And.intro @str3 (And.intro @str31 (And.intro @str42 (And.intro @str5 (And.intro @sz3 (And.intro @st3 (And.intro @sz31 (And.intro @st31 (And.intro @sz5 (And.intro @st5 (And.intro @zero31 (@bd31))))))))))))))))))))))))))))))))))))))))))))))))))))))))))))))))))
def en52 := And.intro @ent52 (And.intro @res52 (And.intro @rk52 (And.intro @ow52 (And.intro @kp52_0 (And.intro @kp52_1 (And.intro @fl52_1 (And.intro @dr52_1 (And.intro @agg23 (And.intro @agg47 (And.intro @agg5 (And.intro @agg9 (And.intro @fld23_2 (And.intro @fld44_0 (And.intro @kind47 (And.intro @cv47_9 (And.intro @cv9_47 (And.intro @kind5 (And.intro @cv5_3 (And.intro @cv21_5 (And.intro @cv81_5 (And.intro @cv5_21 (And.intro @cv75_5 (And.intro @cv3_5 (And.intro @kind9 (And.intro @sl47 (And.intro @ms47 (And.intro @br47 (And.intro @ap47_47 (And.intro @ap47_9 (And.intro @sl9 (And.intro @sx9 (And.intro @str47 (And.intro @str9 (And.intro @sz23 (And.intro @st23 (And.intro @sz5 (And.intro @st5 (And.intro @sz9 (And.intro @st9 (@zero5))))))))))))))))))))))))))))))))))))))))
def en53 := And.intro @ent53 (And.intro @res53 (And.intro @rk53 (And.intro @ow53 (And.intro @kp53_0 (And.intro @kp53_1 (And.intro @kp53_2 (And.intro @kp53_3 (And.intro @kp53_4 (And.intro @kp53_5 (And.intro @kp53_6 (And.intro @kp53_7 (And.intro @kp53_8 (And.intro @kp53_9 (And.intro @kp53_10 (And.intro @kp53_11 (And.intro @kp53_12 (And.intro @kp53_13 (And.intro @kp53_14 (And.intro @kp53_15 (And.intro @kp53_16 (And.intro @kp53_17 (And.intro @kp53_18 (And.intro @kp53_19 (And.intro @kp53_20 (And.intro @kp53_21 (And.intro @hd53_7 (And.intro @fl53_3 (And.intro @dr53_3 (And.intro @fl53_17 (And.intro @dr53_17 (And.intro @ent37 (And.intro @ci37 (And.intro @cr37 (And.intro @ak37 (And.intro @ent38 (And.intro @ci38 (And.intro @cr38 (And.intro @ak38 (And.intro @ent41 (And.intro @ci41 (And.intro @cr41 (And.intro @ak41 (And.intro @ent61 (And.intro @ci61 (And.intro @cr61 (And.intro @ak61 (And.intro @agg29 (And.intro @agg3 (And.intro @agg5 (And.intro @agg9 (And.intro @arr9 (And.intro @kind29 (And.intro @kind3 (And.intro @cv5_3 (And.intro @cv3_81 (And.intro @cv81_3 (And.intro @cv3_5 (And.intro @cv3_68 (And.intro @kind5 (And.intro @cv21_5 (And.intro @cv81_5 (And.intro @cv5_21 (And.intro @cv75_5 (And.intro @kind9 (And.intro @cv47_9 (And.intro @cv9_47 (And.intro @sl29 (And.intro @ms29 (And.intro @br29 (And.intro @ap29_29 (And.intro @sl3 (And.intro @sl5 (And.intro @sl9 (And.intro @sx9 (And.intro @str29 (And.intro @str3 (And.intro @str5 (And.intro @str9 (And.intro @sz29 (And.intro @st29 (And.intro @sz3 (And.intro @st3 (And.intro @zero29 (@zero3))))))))))))))))))))))))))))))))))))))))))))))))))))))))))))))))))))))))))))))))))))
def en54 := And.intro @ent54 (And.intro @res54 (And.intro @rk54 (And.intro @ow54 (And.intro @kp54_0 (And.intro @kp54_1 (And.intro @kp54_2 (And.intro @kp54_3 (And.intro @kp54_4 (And.intro @kp54_5 (And.intro @kp54_6 (And.intro @kp54_7 (And.intro @kp54_8 (And.intro @kp54_9 (And.intro @agg21 (And.intro @agg47 (And.intro @agg5 (And.intro @agg75 (And.intro @kind21 (And.intro @cv21_75 (And.intro @cv21_5 (And.intro @cv5_21 (And.intro @kind47 (And.intro @cv47_9 (And.intro @cv9_47 (And.intro @kind5 (And.intro @cv5_3 (And.intro @cv81_5 (And.intro @cv75_5 (And.intro @cv3_5 (And.intro @kind75 (And.intro @cv81_75 (And.intro @cv68_75 (And.intro @sl21 (And.intro @sl47 (And.intro @ms47 (And.intro @br47 (And.intro @ap47_47 (And.intro @ap47_9 (And.intro @sl5 (And.intro @sl75 (And.intro @str21 (And.intro @str47 (And.intro @str5 (And.intro @str75 (And.intro @sz5 (And.intro @st5 (@zero5)))))))))))))))))))))))))))))))))))))))))))))))
def en55 := And.intro @ent55 (And.intro @res55 (And.intro @rk55 (And.intro @ow55 (And.intro @kp55_0 (And.intro @kp55_1 (And.intro @ent62 (And.intro @ci62 (And.intro @cr62 (And.intro @ak62 (And.intro @agg77 (And.intro @agg9 (And.intro @kind77 (And.intro @kind9 (And.intro @cv47_9 (And.intro @cv9_47 (And.intro @sl77 (And.intro @sl9 (And.intro @sx9 (And.intro @str77 (@str9))))))))))))))))))))
def en56 := And.intro @ent56 (And.intro @res56 (And.intro @rk56 (And.intro @ow56 (And.intro @kp56_0 (@kp56_1)))))
def en57 := And.intro @ent57 (And.intro @res57 (And.intro @rk57 (And.intro @ow57 (And.intro @kp57_0 (And.intro @kp57_1 (And.intro @kp57_2 (And.intro @kp57_3 (And.intro @kp57_4 (And.intro @kp57_5 (And.intro @kp57_6 (And.intro @kp57_7 (And.intro @hd57_2 (And.intro @agg29 (And.intro @agg3 (And.intro @arr29 (And.intro @kind29 (And.intro @kind3 (And.intro @cv5_3 (And.intro @cv3_81 (And.intro @cv81_3 (And.intro @cv3_5 (And.intro @cv3_68 (And.intro @sl29 (And.intro @ms29 (And.intro @br29 (And.intro @ap29_29 (And.intro @sl3 (And.intro @str29 (And.intro @str3 (And.intro @sz3 (And.intro @st3 (@zero3))))))))))))))))))))))))))))))))
def en58 := And.intro @ent58 (And.intro @res58 (And.intro @rk58 (And.intro @ow58 (And.intro @kp58_0 (@kp58_1)))))
def en60 := And.intro @ent60 (And.intro @res60 (And.intro @rk60 (And.intro @ow60 (And.intro @kp60_0 (And.intro @kp60_1 (And.intro @kp60_2 (And.intro @kp60_3 (And.intro @kp60_4 (And.intro @kp60_5 (And.intro @kp60_6 (And.intro @kp60_7 (And.intro @hd60_2 (And.intro @agg47 (And.intro @agg5 (And.intro @arr47 (And.intro @kind47 (And.intro @cv47_9 (And.intro @cv9_47 (And.intro @kind5 (And.intro @cv5_3 (And.intro @cv21_5 (And.intro @cv81_5 (And.intro @cv5_21 (And.intro @cv75_5 (And.intro @cv3_5 (And.intro @sl47 (And.intro @ms47 (And.intro @br47 (And.intro @ap47_47 (And.intro @ap47_9 (And.intro @sl5 (And.intro @str47 (And.intro @str5 (And.intro @sz5 (And.intro @st5 (@zero5))))))))))))))))))))))))))))))))))))
def en61 := And.intro @ent61 (And.intro @res61 (And.intro @rk61 (And.intro @ow61 (And.intro @kp61_0 (And.intro @kp61_1 (And.intro @agg29 (And.intro @agg3 (And.intro @kind29 (And.intro @kind3 (And.intro @cv5_3 (And.intro @cv3_81 (And.intro @cv81_3 (And.intro @cv3_5 (And.intro @cv3_68 (And.intro @sl29 (And.intro @ms29 (And.intro @br29 (And.intro @ap29_29 (And.intro @str29 (And.intro @sz29 (And.intro @st29 (And.intro @sz3 (And.intro @st3 (@zero3))))))))))))))))))))))))
def en62 := And.intro @ent62 (And.intro @res62 (And.intro @rk62 (And.intro @ow62 (And.intro @kp62_0 (And.intro @kp62_1 (And.intro @ent64 (And.intro @ci64 (And.intro @cr64 (And.intro @ak64 (And.intro @agg4 (And.intro @agg77 (And.intro @agg9 (And.intro @kind4 (And.intro @kind77 (And.intro @kind9 (And.intro @cv47_9 (And.intro @cv9_47 (And.intro @sl4 (And.intro @sl77 (And.intro @sl9 (And.intro @sx9 (And.intro @str4 (And.intro @str77 (@str9))))))))))))))))))))))))
def en64 := And.intro @ent64 (And.intro @res64 (And.intro @rk64 (And.intro @ow64 (And.intro @kp64_0 (And.intro @kp64_1 (And.intro @kp64_2 (And.intro @kp64_3 (And.intro @kp64_4 (And.intro @kp64_5 (And.intro @kp64_6 (And.intro @hd64_2 (And.intro @agg21 (And.intro @kind21 (And.intro @cv21_75 (And.intro @cv21_5 (And.intro @cv5_21 (And.intro @sl21 (And.intro @str21 (And.intro @str9 (And.intro @sx9 (And.intro @cv47_9 (And.intro @cv9_47 (@und4)))))))))))))))))))))))
def ca40 := And.intro @ent40 (And.intro @ci40 (And.intro @cr40 (@ak40)))
def ca49 := And.intro @ent49 (And.intro @ci49 (And.intro @cr49 (@ak49)))
def ca56 := And.intro @ent56 (And.intro @ci56 (And.intro @cr56 (@ak56)))
def ca58 := And.intro @ent58 (And.intro @ci58 (And.intro @cr58 (@ak58)))
def tyaa := And.intro @agg2 (And.intro @agg21 (And.intro @agg23 (And.intro @agg26 (And.intro @agg29 (And.intro @agg3 (And.intro @agg31 (And.intro @agg4 (And.intro @agg42 (And.intro @agg44 (And.intro @agg47 (And.intro @agg49 (And.intro @agg5 (And.intro @agg58 (And.intro @agg61 (And.intro @agg67 (And.intro @agg68 (And.intro @agg75 (And.intro @agg77 (And.intro @agg81 (And.intro @agg84 (And.intro @agg9 (And.intro @agg91 (And.intro @agg92 (@agg95))))))))))))))))))))))))
def tyab := And.intro @agg96 (And.intro @arr23 (And.intro @arr26 (And.intro @arr29 (And.intro @arr31 (And.intro @arr44 (And.intro @arr47 (And.intro @arr49 (And.intro @arr67 (And.intro @arr9 (And.intro @arr91 (And.intro @arr92 (And.intro @arr95 (And.intro @arr96 (And.intro @arrz23 (And.intro @arrz31 (And.intro @arrz44 (And.intro @arrz67 (And.intro @arrz84 (And.intro @arrz91 (And.intro @arrz92 (And.intro @arrz95 (And.intro @arrz96 (And.intro @eqg23 (@fld23_0))))))))))))))))))))))))
def tyac := And.intro @fld23_1 (And.intro @fld23_2 (And.intro @fld31_0 (And.intro @fld31_1 (And.intro @fld31_2 (And.intro @fld31_3 (And.intro @fld31_4 (And.intro @fld31_5 (And.intro @fld31_6 (And.intro @fld44_0 (And.intro @fld44_1 (And.intro @fld67_0 (And.intro @fld67_1 (And.intro @fld67_2 (And.intro @fld67_3 (And.intro @kind2 (And.intro @cv2_81 (And.intro @kind21 (And.intro @cv21_75 (And.intro @cv21_5 (And.intro @cv5_21 (And.intro @kind23 (And.intro @kind26 (And.intro @kind29 (@kind3))))))))))))))))))))))))
def tyad := And.intro @cv5_3 (And.intro @cv3_81 (And.intro @cv81_3 (And.intro @cv3_5 (And.intro @cv3_68 (And.intro @kind31 (And.intro @kind4 (And.intro @kind42 (And.intro @kind47 (And.intro @cv47_9 (And.intro @cv9_47 (And.intro @kind49 (And.intro @kind5 (And.intro @cv81_5 (And.intro @cv75_5 (And.intro @kind58 (And.intro @kind61 (And.intro @kind68 (And.intro @cv68_75 (And.intro @kind75 (And.intro @cv81_75 (And.intro @kind77 (And.intro @kind81 (And.intro @kind84 (@kind9))))))))))))))))))))))))
def tyae := And.intro @kind91 (And.intro @kind92 (And.intro @kind95 (And.intro @kind96 (And.intro @lv23 (And.intro @pl23 (And.intro @pl31 (And.intro @pl44 (And.intro @pl67 (And.intro @sl2 (And.intro @sl21 (And.intro @sl23 (@sl26))))))))))))
def tyaf := And.intro @ms26 (And.intro @br26 (And.intro @ap26_26 (And.intro @sl29 (And.intro @ms29 (And.intro @br29 (And.intro @ap29_29 (And.intro @sl3 (And.intro @sl31 (@sl4)))))))))
def tyag := And.intro @sl42 (And.intro @sl47 (And.intro @ms47 (And.intro @br47 (And.intro @ap47_47 (And.intro @ap47_9 (And.intro @sl49 (And.intro @ms49 (And.intro @br49 (And.intro @ap49_49 (And.intro @sl5 (@sl58)))))))))))
def tyah := And.intro @sl61 (And.intro @sl68 (And.intro @sl75 (And.intro @sl77 (@sl81))))
def tyai := And.intro @sl84 (And.intro @sl9 (And.intro @sx9 (And.intro @sl91 (And.intro @sl92 (@sl95)))))
def tyaj := And.intro @sl96 (And.intro @str2 (And.intro @str21 (And.intro @str23 (And.intro @str26 (And.intro @str29 (And.intro @str3 (And.intro @str31 (And.intro @str4 (And.intro @str42 (And.intro @str47 (And.intro @str49 (And.intro @str5 (And.intro @str58 (And.intro @str61 (And.intro @str68 (@str75))))))))))))))))
def tyak := And.intro @str77 (And.intro @str81 (And.intro @str84 (And.intro @str9 (And.intro @str91 (And.intro @str92 (And.intro @str95 (And.intro @str96 (And.intro @sz21 (And.intro @st21 (And.intro @sz23 (And.intro @st23 (And.intro @sz26 (And.intro @st26 (And.intro @sz29 (And.intro @st29 (And.intro @sz3 (And.intro @st3 (And.intro @sz31 (And.intro @st31 (And.intro @sz44 (And.intro @st44 (And.intro @sz5 (And.intro @st5 (@sz67))))))))))))))))))))))))
def tyal := And.intro @st67 (And.intro @sz81 (And.intro @st81 (And.intro @sz84 (And.intro @st84 (And.intro @sz9 (And.intro @st9 (And.intro @sz91 (And.intro @st91 (And.intro @sz92 (And.intro @st92 (And.intro @sz95 (And.intro @st95 (And.intro @sz96 (And.intro @st96 (And.intro @und4 (And.intro @zero21 (And.intro @zero23 (And.intro @bd23 (And.intro @zero29 (And.intro @zero3 (@zero31)))))))))))))))))))))
def tyam := And.intro @bd31 (And.intro @zero44 (And.intro @bd44 (And.intro @zero5 (And.intro @zero67 (And.intro @bd67 (And.intro @zero84 (And.intro @bd84 (And.intro @zero91 (And.intro @bd91 (And.intro @zero92 (And.intro @bd92 (And.intro @zero95 (And.intro @bd95 (And.intro @zero96 (@bd96)))))))))))))))
end Go.VI

namespace Go.VI
open Go.Proofs
set_option maxRecDepth 100000
set_option linter.unusedSimpArgs false
set_option linter.unusedVariables false
set_option maxHeartbeats 4000000
def rows64 (l : List Int) : List (List IV) := l.map fun n => [.v (.int .i64 n)]
theorem rows64_len (l : List Int) : (rows64 l).length = l.length := by simp [rows64]
theorem rows64_snoc (l : List Int) (n : Int) : rows64 l ++ [[.v (.int .i64 n)]] = rows64 (l ++ [n]) := by simp [rows64]
theorem rows64_at {l : List Int} {k : Nat} (h : k < l.length) : (rows64 l)[k]? = some [.v (.int .i64 l[k])] := by simp [rows64, h]
def ixF {α : Type} (P : α → Bool) : List α → Nat → Option Nat
  | [], _ => none
  | a :: l, k => if P a then some k else ixF P l (k + 1)
def ixN : Option Nat → Int
  | some n => n
  | none => -1
theorem ixF_any {α : Type} (P : α → Bool) : ∀ (l : List α) (k : Nat), (0 ≤ ixN (ixF P l k)) = (l.any P = true)
  | [], k => by simp [ixF, ixN]
  | a :: l, k => by
    have ih := ixF_any P l (k + 1)
    simp only [ixF, List.any_cons]
    by_cases h : P a = true
    · simp [h, ixN]
    · simp only [h, Bool.false_eq_true, if_false, Bool.false_or]
      rw [ih]
theorem ixF_dec {α : Type} (P : α → Bool) (l : List α) (k : Nat) : decide (0 ≤ ixN (ixF P l k)) = l.any P := by
  have h := ixF_any P l k
  cases hb : l.any P with
  | true => rw [hb] at h; exact decide_eq_true (h.mpr rfl)
  | false => rw [hb] at h; exact decide_eq_false (fun hc => by have := h.mp hc; cases this)
def over9999 (n : Int) : Bool := decide (9999 < n)
theorem c58 (n : Int) : ∃ L, callT E 58 [.i (.v (.int .i64 n))] [] = some (.i (.v (.bool (over9999 n))), L) := by
  rw [callT_eq Tryd.func58 rfl fok58 (by simp [Tryd.ntmps58])]
  simp (disch := first | omega | (simp only [List.length_append, List.length_map, List.length_set, List.length_cons, List.length_nil, List.length_take, List.length_drop]; omega)) only [va0, va1, va2, va3, va4, va5, va6, va7, va8, va9, va10, va11, va12, va13, va14, va15, vb0, vb1, vb2, vb3, w_i8, w_u8, w_i16, w_u16, w_i32, w_u32, w_i64, w_u64, lt_T, lt_F, le_T, le_F, nlt_T, nlt_F, nle_T, nle_F, List.take_of_length_le, gB, gcW, gcR, posIn, renA, renL, Chunk.ren, Chunk.refs, evOpD, touchD, stepC, isFresh, nFresh, freshOf, mkR, hole, evL, evH, opd, get, putD, ofVal, cellOf, loadE, behind, lenE, idxAddrE, idxE, addPtr, intE, strE, unE, convE, AV.int, AV.bool, AV.str, ivs, take, frameOf, firstRegion, refsA, refsL, one, cellsA, floatOk, apartT, List.map, if_true, if_false, E_P, E_glob0, reduceCtorEq, beq_self_eq_true, decide_true, decide_false, ↓reduceIte, Nat.reduceEqDiff, cond_true, cond_false, or_true, true_or, or_false, false_or, and_true, true_and, and_self, false_and, and_false, not_true, not_false_iff, Nat.reduceAdd, Nat.reduceSub, Nat.reduceMul, Nat.reduceLT, Nat.reduceLeDiff, Int.reduceToNat, Int.reduceLT, Int.reduceLE, Option.getD, Int.reduceMul, Int.reduceAdd, List.drop, List.take, Nat.reduceBEq, List.isEmpty, Int.reduceEq, Int.reduceNe, Int.reduceNeg, Int.reduceGT, Int.reduceGE, beq_true, beq_false, UInt8.reduceToNat, eqE, eq_self, foldE, maxE, minE, eq_T, eq_F, ndec, odec, adec, sdec, fillA, over, chop, List.replicate, leavesOk, leafOk, cellsEq, cellEq, E_byref, en58, over9999]
  exact ⟨_, rfl⟩
theorem ik58 (n : Int) (H : Hp) : isoK E (callT E) 58 [.i (.v (.int .i64 n))] H = some (.i (.v (.bool (over9999 n))), H) := isoK_val rfl rfl rfl (c58 n)
theorem l57 (l : List Int) (hl : l.length < 9223372036854775808) (k : Nat) (hk : k ≤ l.length) : rl E 0 57 (loopAt Tryd.f57 0) [(0, .i (.sl 1 (rows64 l) false)), (1, .clo (.func 58) [] []), (7, .i (.v (.int .i64 l.length))), (8, .i (.v (.int .i64 k)))] [] = 
    match ixF over9999 (l.drop k) k with 
    | some i => some (.ret, [(4, .i (.v (.int .i64 i)))], []) 
    | none => some (.exit 0, [(0, .i (.sl 1 (rows64 l) false)), (1, .clo (.func 58) [] []), (7, .i (.v (.int .i64 l.length))), (8, .i (.v (.int .i64 l.length))), (9, .i (.v (.bool false)))], []) := by 
  rw [rl_step (fn := Tryd.f57) (k := 0) rfl] 
  by_cases hlt : k < l.length 
  · have hrow := rows64_at hlt 
    have ih := l57 l hl (k + 1) hlt 
    rw [List.drop_eq_getElem_cons hlt, ixF] 
    generalize l[k] = a at * 
    by_cases hp : over9999 a = true 
    · rw [if_pos hp] 
      clear ih 
      simp (disch := first | omega | (simp only [List.length_append, List.length_map, List.length_set, List.length_cons, List.length_nil, List.length_take, List.length_drop, rows64_len]; omega)) only [va0, va1, va2, va3, va4, va5, va6, va7, va8, va9, va10, va11, va12, va13, va14, va15, vb0, vb1, vb2, vb3, w_i8, w_u8, w_i16, w_u16, w_i32, w_u32, w_i64, w_u64, lt_T, lt_F, le_T, le_F, nlt_T, nlt_F, nle_T, nle_F, List.take_of_length_le, gB, gcW, gcR, posIn, renA, renL, Chunk.ren, Chunk.refs, evOpD, touchD, stepC, isFresh, nFresh, freshOf, mkR, hole, evL, evH, opd, get, putD, ofVal, cellOf, loadE, behind, lenE, idxAddrE, idxE, addPtr, intE, strE, unE, convE, AV.int, AV.bool, AV.str, ivs, take, frameOf, firstRegion, refsA, refsL, one, cellsA, floatOk, apartT, List.map, if_true, if_false, E_P, E_glob0, reduceCtorEq, beq_self_eq_true, decide_true, decide_false, ↓reduceIte, Nat.reduceEqDiff, cond_true, cond_false, or_true, true_or, or_false, false_or, and_true, true_and, and_self, false_and, and_false, not_true, not_false_iff, Nat.reduceAdd, Nat.reduceSub, Nat.reduceMul, Nat.reduceLT, Nat.reduceLeDiff, Int.reduceToNat, Int.reduceLT, Int.reduceLE, Option.getD, Int.reduceMul, Int.reduceAdd, List.drop, List.take, Nat.reduceBEq, List.isEmpty, Int.reduceEq, Int.reduceNe, Int.reduceNeg, Int.reduceGT, Int.reduceGE, beq_true, beq_false, UInt8.reduceToNat, eqE, eq_self, foldE, maxE, minE, eq_T, eq_F, ndec, odec, adec, sdec, fillA, over, chop, List.replicate, leavesOk, leafOk, cellsEq, cellEq, E_byref, en57, bs29, hrow, rows64_len, ik58, hp, show ∀ B fr H, execT E B 57 (Code.loop _) fr H = rlG E B 57 (loopAt Tryd.f57 0) (gcn B (norm [0, 1, 7, 8] fr) H) from fun B fr H => rl_intro rfl mt57_2 mb57_2 zf57_2 hd57_2 fr H, ca58] 
    · rw [if_neg hp, ← ih] 
      clear ih 
      rw [Bool.not_eq_true] at hp 
      simp (disch := first | omega | (simp only [List.length_append, List.length_map, List.length_set, List.length_cons, List.length_nil, List.length_take, List.length_drop, rows64_len]; omega)) only [va0, va1, va2, va3, va4, va5, va6, va7, va8, va9, va10, va11, va12, va13, va14, va15, vb0, vb1, vb2, vb3, w_i8, w_u8, w_i16, w_u16, w_i32, w_u32, w_i64, w_u64, lt_T, lt_F, le_T, le_F, nlt_T, nlt_F, nle_T, nle_F, List.take_of_length_le, gB, gcW, gcR, posIn, renA, renL, Chunk.ren, Chunk.refs, evOpD, touchD, stepC, isFresh, nFresh, freshOf, mkR, hole, evL, evH, opd, get, putD, ofVal, cellOf, loadE, behind, lenE, idxAddrE, idxE, addPtr, intE, strE, unE, convE, AV.int, AV.bool, AV.str, ivs, take, frameOf, firstRegion, refsA, refsL, one, cellsA, floatOk, apartT, List.map, if_true, if_false, E_P, E_glob0, reduceCtorEq, beq_self_eq_true, decide_true, decide_false, ↓reduceIte, Nat.reduceEqDiff, cond_true, cond_false, or_true, true_or, or_false, false_or, and_true, true_and, and_self, false_and, and_false, not_true, not_false_iff, Nat.reduceAdd, Nat.reduceSub, Nat.reduceMul, Nat.reduceLT, Nat.reduceLeDiff, Int.reduceToNat, Int.reduceLT, Int.reduceLE, Option.getD, Int.reduceMul, Int.reduceAdd, List.drop, List.take, Nat.reduceBEq, List.isEmpty, Int.reduceEq, Int.reduceNe, Int.reduceNeg, Int.reduceGT, Int.reduceGE, beq_true, beq_false, UInt8.reduceToNat, eqE, eq_self, foldE, maxE, minE, eq_T, eq_F, ndec, odec, adec, sdec, fillA, over, chop, List.replicate, leavesOk, leafOk, cellsEq, cellEq, E_byref, en57, bs29, hrow, rows64_len, ik58, hp, show ∀ B fr H, execT E B 57 (Code.loop _) fr H = rlG E B 57 (loopAt Tryd.f57 0) (gcn B (norm [0, 1, 7, 8] fr) H) from fun B fr H => rl_intro rfl mt57_2 mb57_2 zf57_2 hd57_2 fr H, ca58] 
  · obtain rfl : k = l.length := by omega 
    rw [List.drop_length, ixF] 
    simp (disch := first | omega | (simp only [List.length_append, List.length_map, List.length_set, List.length_cons, List.length_nil, List.length_take, List.length_drop]; omega)) only [va0, va1, va2, va3, va4, va5, va6, va7, va8, va9, va10, va11, va12, va13, va14, va15, vb0, vb1, vb2, vb3, w_i8, w_u8, w_i16, w_u16, w_i32, w_u32, w_i64, w_u64, lt_T, lt_F, le_T, le_F, nlt_T, nlt_F, nle_T, nle_F, List.take_of_length_le, gB, gcW, gcR, posIn, renA, renL, Chunk.ren, Chunk.refs, evOpD, touchD, stepC, isFresh, nFresh, freshOf, mkR, hole, evL, evH, opd, get, putD, ofVal, cellOf, loadE, behind, lenE, idxAddrE, idxE, addPtr, intE, strE, unE, convE, AV.int, AV.bool, AV.str, ivs, take, frameOf, firstRegion, refsA, refsL, one, cellsA, floatOk, apartT, List.map, if_true, if_false, E_P, E_glob0, reduceCtorEq, beq_self_eq_true, decide_true, decide_false, ↓reduceIte, Nat.reduceEqDiff, cond_true, cond_false, or_true, true_or, or_false, false_or, and_true, true_and, and_self, false_and, and_false, not_true, not_false_iff, Nat.reduceAdd, Nat.reduceSub, Nat.reduceMul, Nat.reduceLT, Nat.reduceLeDiff, Int.reduceToNat, Int.reduceLT, Int.reduceLE, Option.getD, Int.reduceMul, Int.reduceAdd, List.drop, List.take, Nat.reduceBEq, List.isEmpty, Int.reduceEq, Int.reduceNe, Int.reduceNeg, Int.reduceGT, Int.reduceGE, beq_true, beq_false, UInt8.reduceToNat, eqE, eq_self, foldE, maxE, minE, eq_T, eq_F, ndec, odec, adec, sdec, fillA, over, chop, List.replicate, leavesOk, leafOk, cellsEq, cellEq, E_byref, en57, bs29] 
termination_by l.length - k
theorem c57 (l : List Int) (hl : (l.length : Int) < 9223372036854775808) : ∃ L, callT E 57 [.i (.sl 1 (rows64 l) false), .clo (.func 58) [] []] [] = some (.i (.v (.int .i64 (ixN (ixF over9999 l 0)))), L) := by 
  have h : rl E 0 57 (loopAt Tryd.f57 0) [(0, .i (.sl 1 (rows64 l) false)), (1, .clo (.func 58) [] []), (7, .i (.v (.int .i64 l.length))), (8, .i (.v (.int .i64 0)))] [] = _ := l57 l (by omega) 0 (Nat.zero_le _) 
  rw [List.drop_zero] at h 
  rw [callT_eq Tryd.func57 rfl fok57 (by simp [Tryd.ntmps57])] 
  cases hx : ixF over9999 l 0 with 
  | some i => 
    simp only [hx] at h 
    simp (disch := first | omega | (simp only [List.length_append, List.length_map, List.length_set, List.length_cons, List.length_nil, List.length_take, List.length_drop, rows64_len]; omega)) only [va0, va1, va2, va3, va4, va5, va6, va7, va8, va9, va10, va11, va12, va13, va14, va15, vb0, vb1, vb2, vb3, w_i8, w_u8, w_i16, w_u16, w_i32, w_u32, w_i64, w_u64, lt_T, lt_F, le_T, le_F, nlt_T, nlt_F, nle_T, nle_F, List.take_of_length_le, gB, gcW, gcR, posIn, renA, renL, Chunk.ren, Chunk.refs, evOpD, touchD, stepC, isFresh, nFresh, freshOf, mkR, hole, evL, evH, opd, get, putD, ofVal, cellOf, loadE, behind, lenE, idxAddrE, idxE, addPtr, intE, strE, unE, convE, AV.int, AV.bool, AV.str, ivs, take, frameOf, firstRegion, refsA, refsL, one, cellsA, floatOk, apartT, List.map, if_true, if_false, E_P, E_glob0, reduceCtorEq, beq_self_eq_true, decide_true, decide_false, ↓reduceIte, Nat.reduceEqDiff, cond_true, cond_false, or_true, true_or, or_false, false_or, and_true, true_and, and_self, false_and, and_false, not_true, not_false_iff, Nat.reduceAdd, Nat.reduceSub, Nat.reduceMul, Nat.reduceLT, Nat.reduceLeDiff, Int.reduceToNat, Int.reduceLT, Int.reduceLE, Option.getD, Int.reduceMul, Int.reduceAdd, List.drop, List.take, Nat.reduceBEq, List.isEmpty, Int.reduceEq, Int.reduceNe, Int.reduceNeg, Int.reduceGT, Int.reduceGE, beq_true, beq_false, UInt8.reduceToNat, eqE, eq_self, foldE, maxE, minE, eq_T, eq_F, ndec, odec, adec, sdec, fillA, over, chop, List.replicate, leavesOk, leafOk, cellsEq, cellEq, E_byref, en57, bs29, h, rows64_len, show ∀ B fr H, execT E B 57 (Code.loop _) fr H = rlG E B 57 (loopAt Tryd.f57 0) (gcn B (norm [0, 1, 7, 8] fr) H) from fun B fr H => rl_intro rfl mt57_2 mb57_2 zf57_2 hd57_2 fr H, ixN] 
    exact ⟨_, rfl⟩ 
  | none => 
    simp only [hx] at h 
    simp (disch := first | omega | (simp only [List.length_append, List.length_map, List.length_set, List.length_cons, List.length_nil, List.length_take, List.length_drop, rows64_len]; omega)) only [va0, va1, va2, va3, va4, va5, va6, va7, va8, va9, va10, va11, va12, va13, va14, va15, vb0, vb1, vb2, vb3, w_i8, w_u8, w_i16, w_u16, w_i32, w_u32, w_i64, w_u64, lt_T, lt_F, le_T, le_F, nlt_T, nlt_F, nle_T, nle_F, List.take_of_length_le, gB, gcW, gcR, posIn, renA, renL, Chunk.ren, Chunk.refs, evOpD, touchD, stepC, isFresh, nFresh, freshOf, mkR, hole, evL, evH, opd, get, putD, ofVal, cellOf, loadE, behind, lenE, idxAddrE, idxE, addPtr, intE, strE, unE, convE, AV.int, AV.bool, AV.str, ivs, take, frameOf, firstRegion, refsA, refsL, one, cellsA, floatOk, apartT, List.map, if_true, if_false, E_P, E_glob0, reduceCtorEq, beq_self_eq_true, decide_true, decide_false, ↓reduceIte, Nat.reduceEqDiff, cond_true, cond_false, or_true, true_or, or_false, false_or, and_true, true_and, and_self, false_and, and_false, not_true, not_false_iff, Nat.reduceAdd, Nat.reduceSub, Nat.reduceMul, Nat.reduceLT, Nat.reduceLeDiff, Int.reduceToNat, Int.reduceLT, Int.reduceLE, Option.getD, Int.reduceMul, Int.reduceAdd, List.drop, List.take, Nat.reduceBEq, List.isEmpty, Int.reduceEq, Int.reduceNe, Int.reduceNeg, Int.reduceGT, Int.reduceGE, beq_true, beq_false, UInt8.reduceToNat, eqE, eq_self, foldE, maxE, minE, eq_T, eq_F, ndec, odec, adec, sdec, fillA, over, chop, List.replicate, leavesOk, leafOk, cellsEq, cellEq, E_byref, en57, bs29, h, rows64_len, show ∀ B fr H, execT E B 57 (Code.loop _) fr H = rlG E B 57 (loopAt Tryd.f57 0) (gcn B (norm [0, 1, 7, 8] fr) H) from fun B fr H => rl_intro rfl mt57_2 mb57_2 zf57_2 hd57_2 fr H, ixN] 
    exact ⟨_, rfl⟩ 
theorem ik57 (l : List Int) (hl : (l.length : Int) < 9223372036854775808) (H : Hp) : isoK E (callT E) 57 [.i (.sl 1 (rows64 l) false), .clo (.func 58) [] []] H = some (.i (.v (.int .i64 (ixN (ixF over9999 l 0)))), H) := isoK_val rfl rfl rfl (c57 l hl) 
theorem c39 (l : List Int) (hl : (l.length : Int) < 9223372036854775808) : ∃ L, callT E 39 [.i (.sl 1 (rows64 l) false), .clo (.func 58) [] []] [] = some (.i (.v (.bool (l.any over9999))), L) := by 
  have hd : decide (0 ≤ ixN (ixF over9999 l 0)) = l.any over9999 := ixF_dec over9999 l 0 
  rw [callT_eq Tryd.func39 rfl fok39 (by simp [Tryd.ntmps39])] 
  simp (disch := first | omega | (simp only [List.length_append, List.length_map, List.length_set, List.length_cons, List.length_nil, List.length_take, List.length_drop]; omega)) only [va0, va1, va2, va3, va4, va5, va6, va7, va8, va9, va10, va11, va12, va13, va14, va15, vb0, vb1, vb2, vb3, w_i8, w_u8, w_i16, w_u16, w_i32, w_u32, w_i64, w_u64, lt_T, lt_F, le_T, le_F, nlt_T, nlt_F, nle_T, nle_F, List.take_of_length_le, gB, gcW, gcR, posIn, renA, renL, Chunk.ren, Chunk.refs, evOpD, touchD, stepC, isFresh, nFresh, freshOf, mkR, hole, evL, evH, opd, get, putD, ofVal, cellOf, loadE, behind, lenE, idxAddrE, idxE, addPtr, intE, strE, unE, convE, AV.int, AV.bool, AV.str, ivs, take, frameOf, firstRegion, refsA, refsL, one, cellsA, floatOk, apartT, List.map, if_true, if_false, E_P, E_glob0, reduceCtorEq, beq_self_eq_true, decide_true, decide_false, ↓reduceIte, Nat.reduceEqDiff, cond_true, cond_false, or_true, true_or, or_false, false_or, and_true, true_and, and_self, false_and, and_false, not_true, not_false_iff, Nat.reduceAdd, Nat.reduceSub, Nat.reduceMul, Nat.reduceLT, Nat.reduceLeDiff, Int.reduceToNat, Int.reduceLT, Int.reduceLE, Option.getD, Int.reduceMul, Int.reduceAdd, List.drop, List.take, Nat.reduceBEq, List.isEmpty, Int.reduceEq, Int.reduceNe, Int.reduceNeg, Int.reduceGT, Int.reduceGE, beq_true, beq_false, UInt8.reduceToNat, eqE, eq_self, foldE, maxE, minE, eq_T, eq_F, ndec, odec, adec, sdec, fillA, over, chop, List.replicate, leavesOk, leafOk, cellsEq, cellEq, E_byref, en39, bs29, ik57, hd] 
  exact ⟨_, rfl⟩ 
theorem ik39 (l : List Int) (hl : (l.length : Int) < 9223372036854775808) (H : Hp) : isoK E (callT E) 39 [.i (.sl 1 (rows64 l) false), .clo (.func 58) [] []] H = some (.i (.v (.bool (l.any over9999))), H) := isoK_val rfl rfl rfl (c39 l hl)
def badInter (n : Int) : Bool := decide (n < 32) || decide (47 < n)
theorem c56 (n : Int) : ∃ L, callT E 56 [.i (.v (.int .i32 n))] [] = some (.i (.v (.bool (badInter n))), L) := by
  rw [callT_eq Tryd.func56 rfl fok56 (by simp [Tryd.ntmps56])]
  by_cases h1 : n < 32 <;> by_cases h2 : 47 < n <;> simp (disch := first | omega | (simp only [List.length_append, List.length_map, List.length_set, List.length_cons, List.length_nil, List.length_take, List.length_drop]; omega)) only [va0, va1, va2, va3, va4, va5, va6, va7, va8, va9, va10, va11, va12, va13, va14, va15, vb0, vb1, vb2, vb3, w_i8, w_u8, w_i16, w_u16, w_i32, w_u32, w_i64, w_u64, lt_T, lt_F, le_T, le_F, nlt_T, nlt_F, nle_T, nle_F, List.take_of_length_le, gB, gcW, gcR, posIn, renA, renL, Chunk.ren, Chunk.refs, evOpD, touchD, stepC, isFresh, nFresh, freshOf, mkR, hole, evL, evH, opd, get, putD, ofVal, cellOf, loadE, behind, lenE, idxAddrE, idxE, addPtr, intE, strE, unE, convE, AV.int, AV.bool, AV.str, ivs, take, frameOf, firstRegion, refsA, refsL, one, cellsA, floatOk, apartT, List.map, if_true, if_false, E_P, E_glob0, reduceCtorEq, beq_self_eq_true, decide_true, decide_false, ↓reduceIte, Nat.reduceEqDiff, cond_true, cond_false, or_true, true_or, or_false, false_or, and_true, true_and, and_self, false_and, and_false, not_true, not_false_iff, Nat.reduceAdd, Nat.reduceSub, Nat.reduceMul, Nat.reduceLT, Nat.reduceLeDiff, Int.reduceToNat, Int.reduceLT, Int.reduceLE, Option.getD, Int.reduceMul, Int.reduceAdd, List.drop, List.take, Nat.reduceBEq, List.isEmpty, Int.reduceEq, Int.reduceNe, Int.reduceNeg, Int.reduceGT, Int.reduceGE, beq_true, beq_false, UInt8.reduceToNat, eqE, eq_self, foldE, maxE, minE, eq_T, eq_F, ndec, odec, adec, sdec, fillA, over, chop, List.replicate, leavesOk, leafOk, cellsEq, cellEq, E_byref, en56, badInter, h1, h2, decide_eq_true_eq, not_false_eq_true] <;> exact ⟨_, rfl⟩
theorem ik56 (n : Int) (H : Hp) : isoK E (callT E) 56 [.i (.v (.int .i32 n))] H = some (.i (.v (.bool (badInter n))), H) := isoK_val rfl rfl rfl (c56 n)
end Go.VI

namespace Go.VI
open Go.Proofs
set_option maxRecDepth 100000
set_option linter.unusedSimpArgs false
set_option linter.unusedVariables false
set_option maxHeartbeats 4000000
theorem dec_lo (s : List UInt8) (pos : Nat) (h : pos < s.length) (ha : s[pos].toNat < 128) : Utf8.decode ⟨⟨s⟩⟩ pos = (s[pos].toNat, 1) := decode_ascii ⟨⟨s⟩⟩ pos h ha
theorem dec_hi (s : List UInt8) (pos : Nat) (h : pos < s.length) (ha : 128 ≤ s[pos].toNat) : 128 ≤ (Utf8.decode ⟨⟨s⟩⟩ pos).1 := (decode_high ⟨⟨s⟩⟩ pos h ha).1
def badB (b : UInt8) : Bool := decide (b.toNat < 32) || decide (47 < b.toNat)
theorem l64 (s : List UInt8) (hs : s.length < 9223372036854775808) (k : Nat) (hk : k ≤ s.length) : ∃ p, rl E 0 64 (loopAt Tryd.f64 0) [(1, .clo (.func 56) [] []), (2, .i (.v (.bool true))), (10, .ptr 0 0 0 0)] [.iter s k] =
    match ixF badB (s.drop k) k with
    | some i => some (.ret, [(6, .i (.v (.int .i64 i)))], [.iter s p])
    | none => some (.exit 0, [(1, .clo (.func 56) [] []), (2, .i (.v (.bool true))), (10, .ptr 0 0 0 0), (11, .tup [.i (.v (.bool false))]), (12, .i (.v (.bool false)))], [.iter s s.length]) := by
  rw [rl_step (fn := Tryd.f64) (k := 0) rfl]
  by_cases hlt : k < s.length
  · rw [List.drop_eq_getElem_cons hlt, ixF]
    by_cases ha : s[k].toNat < 128
    · have hd := dec_lo s k hlt ha
      have hbb : badInter s[k].toNat = badB s[k] := by simp only [badInter, badB]; congr 1 <;> rw [decide_eq_decide] <;> omega
      obtain ⟨p, ih⟩ := l64 s hs (k + 1) hlt
      by_cases hp : badB s[k] = true
      · rw [if_pos hp]
        clear ih
        rw [hp] at hbb
        simp (disch := first | omega | (simp only [List.length_append, List.length_map, List.length_set, List.length_cons, List.length_nil, List.length_take, List.length_drop]; omega)) only [va0, va1, va2, va3, va4, va5, va6, va7, va8, va9, va10, va11, va12, va13, va14, va15, vb0, vb1, vb2, vb3, w_i8, w_u8, w_i16, w_u16, w_i32, w_u32, w_i64, w_u64, lt_T, lt_F, le_T, le_F, nlt_T, nlt_F, nle_T, nle_F, List.take_of_length_le, gB, gcW, gcR, posIn, renA, renL, Chunk.ren, Chunk.refs, evOpD, touchD, stepC, isFresh, nFresh, freshOf, mkR, hole, evL, evH, opd, get, putD, ofVal, cellOf, loadE, behind, lenE, idxAddrE, idxE, addPtr, intE, strE, unE, convE, AV.int, AV.bool, AV.str, ivs, take, frameOf, firstRegion, refsA, refsL, one, cellsA, floatOk, apartT, List.map, if_true, if_false, E_P, E_glob0, reduceCtorEq, beq_self_eq_true, decide_true, decide_false, ↓reduceIte, Nat.reduceEqDiff, cond_true, cond_false, or_true, true_or, or_false, false_or, and_true, true_and, and_self, false_and, and_false, not_true, not_false_iff, Nat.reduceAdd, Nat.reduceSub, Nat.reduceMul, Nat.reduceLT, Nat.reduceLeDiff, Int.reduceToNat, Int.reduceLT, Int.reduceLE, Option.getD, Int.reduceMul, Int.reduceAdd, List.drop, List.take, Nat.reduceBEq, List.isEmpty, Int.reduceEq, Int.reduceNe, Int.reduceNeg, Int.reduceGT, Int.reduceGE, beq_true, beq_false, UInt8.reduceToNat, eqE, eq_self, foldE, maxE, minE, eq_T, eq_F, ndec, odec, adec, sdec, fillA, over, chop, List.replicate, leavesOk, leafOk, cellsEq, cellEq, E_byref, en64, hd, ik56, hbb, hlt, show ∀ B fr H, execT E B 64 (Code.loop _) fr H = rlG E B 64 (loopAt Tryd.f64 0) (gcn B (norm [1, 2, 10] fr) H) from fun B fr H => rl_intro rfl mt64_2 mb64_2 zf64_2 hd64_2 fr H, ca56]
        exact ⟨_, rfl⟩
      · rw [if_neg hp]
        refine ⟨p, ?_⟩
        rw [← ih]
        clear ih
        rw [Bool.not_eq_true] at hp
        rw [hp] at hbb
        simp (disch := first | omega | (simp only [List.length_append, List.length_map, List.length_set, List.length_cons, List.length_nil, List.length_take, List.length_drop]; omega)) only [va0, va1, va2, va3, va4, va5, va6, va7, va8, va9, va10, va11, va12, va13, va14, va15, vb0, vb1, vb2, vb3, w_i8, w_u8, w_i16, w_u16, w_i32, w_u32, w_i64, w_u64, lt_T, lt_F, le_T, le_F, nlt_T, nlt_F, nle_T, nle_F, List.take_of_length_le, gB, gcW, gcR, posIn, renA, renL, Chunk.ren, Chunk.refs, evOpD, touchD, stepC, isFresh, nFresh, freshOf, mkR, hole, evL, evH, opd, get, putD, ofVal, cellOf, loadE, behind, lenE, idxAddrE, idxE, addPtr, intE, strE, unE, convE, AV.int, AV.bool, AV.str, ivs, take, frameOf, firstRegion, refsA, refsL, one, cellsA, floatOk, apartT, List.map, if_true, if_false, E_P, E_glob0, reduceCtorEq, beq_self_eq_true, decide_true, decide_false, ↓reduceIte, Nat.reduceEqDiff, cond_true, cond_false, or_true, true_or, or_false, false_or, and_true, true_and, and_self, false_and, and_false, not_true, not_false_iff, Nat.reduceAdd, Nat.reduceSub, Nat.reduceMul, Nat.reduceLT, Nat.reduceLeDiff, Int.reduceToNat, Int.reduceLT, Int.reduceLE, Option.getD, Int.reduceMul, Int.reduceAdd, List.drop, List.take, Nat.reduceBEq, List.isEmpty, Int.reduceEq, Int.reduceNe, Int.reduceNeg, Int.reduceGT, Int.reduceGE, beq_true, beq_false, UInt8.reduceToNat, eqE, eq_self, foldE, maxE, minE, eq_T, eq_F, ndec, odec, adec, sdec, fillA, over, chop, List.replicate, leavesOk, leafOk, cellsEq, cellEq, E_byref, en64, hd, ik56, hbb, hlt, show ∀ B fr H, execT E B 64 (Code.loop _) fr H = rlG E B 64 (loopAt Tryd.f64 0) (gcn B (norm [1, 2, 10] fr) H) from fun B fr H => rl_intro rfl mt64_2 mb64_2 zf64_2 hd64_2 fr H, ca56]
    · have hd := dec_hi s k hlt (by omega)
      have hp : badB s[k] = true := by simp [badB]; omega
      have hbb : badInter (Utf8.decode ⟨⟨s⟩⟩ k).1 = true := by simp [badInter]; omega
      rw [if_pos hp]
      simp (disch := first | omega | (simp only [List.length_append, List.length_map, List.length_set, List.length_cons, List.length_nil, List.length_take, List.length_drop]; omega)) only [va0, va1, va2, va3, va4, va5, va6, va7, va8, va9, va10, va11, va12, va13, va14, va15, vb0, vb1, vb2, vb3, w_i8, w_u8, w_i16, w_u16, w_i32, w_u32, w_i64, w_u64, lt_T, lt_F, le_T, le_F, nlt_T, nlt_F, nle_T, nle_F, List.take_of_length_le, gB, gcW, gcR, posIn, renA, renL, Chunk.ren, Chunk.refs, evOpD, touchD, stepC, isFresh, nFresh, freshOf, mkR, hole, evL, evH, opd, get, putD, ofVal, cellOf, loadE, behind, lenE, idxAddrE, idxE, addPtr, intE, strE, unE, convE, AV.int, AV.bool, AV.str, ivs, take, frameOf, firstRegion, refsA, refsL, one, cellsA, floatOk, apartT, List.map, if_true, if_false, E_P, E_glob0, reduceCtorEq, beq_self_eq_true, decide_true, decide_false, ↓reduceIte, Nat.reduceEqDiff, cond_true, cond_false, or_true, true_or, or_false, false_or, and_true, true_and, and_self, false_and, and_false, not_true, not_false_iff, Nat.reduceAdd, Nat.reduceSub, Nat.reduceMul, Nat.reduceLT, Nat.reduceLeDiff, Int.reduceToNat, Int.reduceLT, Int.reduceLE, Option.getD, Int.reduceMul, Int.reduceAdd, List.drop, List.take, Nat.reduceBEq, List.isEmpty, Int.reduceEq, Int.reduceNe, Int.reduceNeg, Int.reduceGT, Int.reduceGE, beq_true, beq_false, UInt8.reduceToNat, eqE, eq_self, foldE, maxE, minE, eq_T, eq_F, ndec, odec, adec, sdec, fillA, over, chop, List.replicate, leavesOk, leafOk, cellsEq, cellEq, E_byref, en64, ik56, hbb, hlt, show ∀ B fr H, execT E B 64 (Code.loop _) fr H = rlG E B 64 (loopAt Tryd.f64 0) (gcn B (norm [1, 2, 10] fr) H) from fun B fr H => rl_intro rfl mt64_2 mb64_2 zf64_2 hd64_2 fr H, ca56]
      exact ⟨_, rfl⟩
  · obtain rfl : k = s.length := by omega
    rw [List.drop_length, ixF]
    simp (disch := first | omega | (simp only [List.length_append, List.length_map, List.length_set, List.length_cons, List.length_nil, List.length_take, List.length_drop]; omega)) only [va0, va1, va2, va3, va4, va5, va6, va7, va8, va9, va10, va11, va12, va13, va14, va15, vb0, vb1, vb2, vb3, w_i8, w_u8, w_i16, w_u16, w_i32, w_u32, w_i64, w_u64, lt_T, lt_F, le_T, le_F, nlt_T, nlt_F, nle_T, nle_F, List.take_of_length_le, gB, gcW, gcR, posIn, renA, renL, Chunk.ren, Chunk.refs, evOpD, touchD, stepC, isFresh, nFresh, freshOf, mkR, hole, evL, evH, opd, get, putD, ofVal, cellOf, loadE, behind, lenE, idxAddrE, idxE, addPtr, intE, strE, unE, convE, AV.int, AV.bool, AV.str, ivs, take, frameOf, firstRegion, refsA, refsL, one, cellsA, floatOk, apartT, List.map, if_true, if_false, E_P, E_glob0, reduceCtorEq, beq_self_eq_true, decide_true, decide_false, ↓reduceIte, Nat.reduceEqDiff, cond_true, cond_false, or_true, true_or, or_false, false_or, and_true, true_and, and_self, false_and, and_false, not_true, not_false_iff, Nat.reduceAdd, Nat.reduceSub, Nat.reduceMul, Nat.reduceLT, Nat.reduceLeDiff, Int.reduceToNat, Int.reduceLT, Int.reduceLE, Option.getD, Int.reduceMul, Int.reduceAdd, List.drop, List.take, Nat.reduceBEq, List.isEmpty, Int.reduceEq, Int.reduceNe, Int.reduceNeg, Int.reduceGT, Int.reduceGE, beq_true, beq_false, UInt8.reduceToNat, eqE, eq_self, foldE, maxE, minE, eq_T, eq_F, ndec, odec, adec, sdec, fillA, over, chop, List.replicate, leavesOk, leafOk, cellsEq, cellEq, E_byref, en64]
    exact ⟨0, trivial⟩
termination_by s.length - k
theorem c64 (s : List UInt8) (hs : (s.length : Int) < 9223372036854775808) : ∃ L, callT E 64 [.i (.str s), .clo (.func 56) [] [], .i (.v (.bool true))] [] = some (.i (.v (.int .i64 (ixN (ixF badB s 0)))), L) := by
  obtain ⟨p, h⟩ := l64 s (by omega) 0 (Nat.zero_le _)
  rw [List.drop_zero] at h
  rw [callT_eq Tryd.func64 rfl fok64 (by simp [Tryd.ntmps64])]
  cases hx : ixF badB s 0 with
  | some i =>
    simp only [hx] at h
    simp (disch := first | omega | (simp only [List.length_append, List.length_map, List.length_set, List.length_cons, List.length_nil, List.length_take, List.length_drop]; omega)) only [va0, va1, va2, va3, va4, va5, va6, va7, va8, va9, va10, va11, va12, va13, va14, va15, vb0, vb1, vb2, vb3, w_i8, w_u8, w_i16, w_u16, w_i32, w_u32, w_i64, w_u64, lt_T, lt_F, le_T, le_F, nlt_T, nlt_F, nle_T, nle_F, List.take_of_length_le, gB, gcW, gcR, posIn, renA, renL, Chunk.ren, Chunk.refs, evOpD, touchD, stepC, isFresh, nFresh, freshOf, mkR, hole, evL, evH, opd, get, putD, ofVal, cellOf, loadE, behind, lenE, idxAddrE, idxE, addPtr, intE, strE, unE, convE, AV.int, AV.bool, AV.str, ivs, take, frameOf, firstRegion, refsA, refsL, one, cellsA, floatOk, apartT, List.map, if_true, if_false, E_P, E_glob0, reduceCtorEq, beq_self_eq_true, decide_true, decide_false, ↓reduceIte, Nat.reduceEqDiff, cond_true, cond_false, or_true, true_or, or_false, false_or, and_true, true_and, and_self, false_and, and_false, not_true, not_false_iff, Nat.reduceAdd, Nat.reduceSub, Nat.reduceMul, Nat.reduceLT, Nat.reduceLeDiff, Int.reduceToNat, Int.reduceLT, Int.reduceLE, Option.getD, Int.reduceMul, Int.reduceAdd, List.drop, List.take, Nat.reduceBEq, List.isEmpty, Int.reduceEq, Int.reduceNe, Int.reduceNeg, Int.reduceGT, Int.reduceGE, beq_true, beq_false, UInt8.reduceToNat, eqE, eq_self, foldE, maxE, minE, eq_T, eq_F, ndec, odec, adec, sdec, fillA, over, chop, List.replicate, leavesOk, leafOk, cellsEq, cellEq, E_byref, en64, h, show ∀ B fr H, execT E B 64 (Code.loop _) fr H = rlG E B 64 (loopAt Tryd.f64 0) (gcn B (norm [1, 2, 10] fr) H) from fun B fr H => rl_intro rfl mt64_2 mb64_2 zf64_2 hd64_2 fr H, ixN]
    exact ⟨_, rfl⟩
  | none =>
    simp only [hx] at h
    simp (disch := first | omega | (simp only [List.length_append, List.length_map, List.length_set, List.length_cons, List.length_nil, List.length_take, List.length_drop]; omega)) only [va0, va1, va2, va3, va4, va5, va6, va7, va8, va9, va10, va11, va12, va13, va14, va15, vb0, vb1, vb2, vb3, w_i8, w_u8, w_i16, w_u16, w_i32, w_u32, w_i64, w_u64, lt_T, lt_F, le_T, le_F, nlt_T, nlt_F, nle_T, nle_F, List.take_of_length_le, gB, gcW, gcR, posIn, renA, renL, Chunk.ren, Chunk.refs, evOpD, touchD, stepC, isFresh, nFresh, freshOf, mkR, hole, evL, evH, opd, get, putD, ofVal, cellOf, loadE, behind, lenE, idxAddrE, idxE, addPtr, intE, strE, unE, convE, AV.int, AV.bool, AV.str, ivs, take, frameOf, firstRegion, refsA, refsL, one, cellsA, floatOk, apartT, List.map, if_true, if_false, E_P, E_glob0, reduceCtorEq, beq_self_eq_true, decide_true, decide_false, ↓reduceIte, Nat.reduceEqDiff, cond_true, cond_false, or_true, true_or, or_false, false_or, and_true, true_and, and_self, false_and, and_false, not_true, not_false_iff, Nat.reduceAdd, Nat.reduceSub, Nat.reduceMul, Nat.reduceLT, Nat.reduceLeDiff, Int.reduceToNat, Int.reduceLT, Int.reduceLE, Option.getD, Int.reduceMul, Int.reduceAdd, List.drop, List.take, Nat.reduceBEq, List.isEmpty, Int.reduceEq, Int.reduceNe, Int.reduceNeg, Int.reduceGT, Int.reduceGE, beq_true, beq_false, UInt8.reduceToNat, eqE, eq_self, foldE, maxE, minE, eq_T, eq_F, ndec, odec, adec, sdec, fillA, over, chop, List.replicate, leavesOk, leafOk, cellsEq, cellEq, E_byref, en64, h, show ∀ B fr H, execT E B 64 (Code.loop _) fr H = rlG E B 64 (loopAt Tryd.f64 0) (gcn B (norm [1, 2, 10] fr) H) from fun B fr H => rl_intro rfl mt64_2 mb64_2 zf64_2 hd64_2 fr H, ixN]
    exact ⟨_, rfl⟩
theorem ik64 (s : List UInt8) (hs : (s.length : Int) < 9223372036854775808) (H : Hp) : isoK E (callT E) 64 [.i (.str s), .clo (.func 56) [] [], .i (.v (.bool true))] H = some (.i (.v (.int .i64 (ixN (ixF badB s 0)))), H) := isoK_val rfl rfl rfl (c64 s hs)
theorem c62 (s : List UInt8) (hs : (s.length : Int) < 9223372036854775808) : ∃ L, callT E 62 [.i (.str s), .clo (.func 56) [] []] [] = some (.i (.v (.int .i64 (ixN (ixF badB s 0)))), L) := by
  rw [callT_eq Tryd.func62 rfl fok62 (by simp [Tryd.ntmps62])]
  simp (disch := first | omega | (simp only [List.length_append, List.length_map, List.length_set, List.length_cons, List.length_nil, List.length_take, List.length_drop]; omega)) only [va0, va1, va2, va3, va4, va5, va6, va7, va8, va9, va10, va11, va12, va13, va14, va15, vb0, vb1, vb2, vb3, w_i8, w_u8, w_i16, w_u16, w_i32, w_u32, w_i64, w_u64, lt_T, lt_F, le_T, le_F, nlt_T, nlt_F, nle_T, nle_F, List.take_of_length_le, gB, gcW, gcR, posIn, renA, renL, Chunk.ren, Chunk.refs, evOpD, touchD, stepC, isFresh, nFresh, freshOf, mkR, hole, evL, evH, opd, get, putD, ofVal, cellOf, loadE, behind, lenE, idxAddrE, idxE, addPtr, intE, strE, unE, convE, AV.int, AV.bool, AV.str, ivs, take, frameOf, firstRegion, refsA, refsL, one, cellsA, floatOk, apartT, List.map, if_true, if_false, E_P, E_glob0, reduceCtorEq, beq_self_eq_true, decide_true, decide_false, ↓reduceIte, Nat.reduceEqDiff, cond_true, cond_false, or_true, true_or, or_false, false_or, and_true, true_and, and_self, false_and, and_false, not_true, not_false_iff, Nat.reduceAdd, Nat.reduceSub, Nat.reduceMul, Nat.reduceLT, Nat.reduceLeDiff, Int.reduceToNat, Int.reduceLT, Int.reduceLE, Option.getD, Int.reduceMul, Int.reduceAdd, List.drop, List.take, Nat.reduceBEq, List.isEmpty, Int.reduceEq, Int.reduceNe, Int.reduceNeg, Int.reduceGT, Int.reduceGE, beq_true, beq_false, UInt8.reduceToNat, eqE, eq_self, foldE, maxE, minE, eq_T, eq_F, ndec, odec, adec, sdec, fillA, over, chop, List.replicate, leavesOk, leafOk, cellsEq, cellEq, E_byref, en62, ik64]
  exact ⟨_, rfl⟩
theorem ik62 (s : List UInt8) (hs : (s.length : Int) < 9223372036854775808) (H : Hp) : isoK E (callT E) 62 [.i (.str s), .clo (.func 56) [] []] H = some (.i (.v (.int .i64 (ixN (ixF badB s 0)))), H) := isoK_val rfl rfl rfl (c62 s hs)
theorem c55 (s : List UInt8) (hs : (s.length : Int) < 9223372036854775808) : ∃ L, callT E 55 [.i (.str s), .clo (.func 56) [] []] [] = some (.i (.v (.bool (s.any badB))), L) := by
  have hd : decide (0 ≤ ixN (ixF badB s 0)) = s.any badB := ixF_dec badB s 0
  rw [callT_eq Tryd.func55 rfl fok55 (by simp [Tryd.ntmps55])]
  simp (disch := first | omega | (simp only [List.length_append, List.length_map, List.length_set, List.length_cons, List.length_nil, List.length_take, List.length_drop]; omega)) only [va0, va1, va2, va3, va4, va5, va6, va7, va8, va9, va10, va11, va12, va13, va14, va15, vb0, vb1, vb2, vb3, w_i8, w_u8, w_i16, w_u16, w_i32, w_u32, w_i64, w_u64, lt_T, lt_F, le_T, le_F, nlt_T, nlt_F, nle_T, nle_F, List.take_of_length_le, gB, gcW, gcR, posIn, renA, renL, Chunk.ren, Chunk.refs, evOpD, touchD, stepC, isFresh, nFresh, freshOf, mkR, hole, evL, evH, opd, get, putD, ofVal, cellOf, loadE, behind, lenE, idxAddrE, idxE, addPtr, intE, strE, unE, convE, AV.int, AV.bool, AV.str, ivs, take, frameOf, firstRegion, refsA, refsL, one, cellsA, floatOk, apartT, List.map, if_true, if_false, E_P, E_glob0, reduceCtorEq, beq_self_eq_true, decide_true, decide_false, ↓reduceIte, Nat.reduceEqDiff, cond_true, cond_false, or_true, true_or, or_false, false_or, and_true, true_and, and_self, false_and, and_false, not_true, not_false_iff, Nat.reduceAdd, Nat.reduceSub, Nat.reduceMul, Nat.reduceLT, Nat.reduceLeDiff, Int.reduceToNat, Int.reduceLT, Int.reduceLE, Option.getD, Int.reduceMul, Int.reduceAdd, List.drop, List.take, Nat.reduceBEq, List.isEmpty, Int.reduceEq, Int.reduceNe, Int.reduceNeg, Int.reduceGT, Int.reduceGE, beq_true, beq_false, UInt8.reduceToNat, eqE, eq_self, foldE, maxE, minE, eq_T, eq_F, ndec, odec, adec, sdec, fillA, over, chop, List.replicate, leavesOk, leafOk, cellsEq, cellEq, E_byref, en55, ik62, hd]
  exact ⟨_, rfl⟩
theorem ik55 (s : List UInt8) (hs : (s.length : Int) < 9223372036854775808) (H : Hp) : isoK E (callT E) 55 [.i (.str s), .clo (.func 56) [] []] H = some (.i (.v (.bool (s.any badB))), H) := isoK_val rfl rfl rfl (c55 s hs)
def trailB (s : List UInt8) : Bool := !s.any badB
theorem c38 (s : List UInt8) (hs : (s.length : Int) < 9223372036854775808) : ∃ L, callT E 38 [.i (.str s)] [] = some (.i (.v (.bool (trailB s))), L) := by
  rw [callT_eq Tryd.func38 rfl fok38 (by simp [Tryd.ntmps38])]
  simp (disch := first | omega | (simp only [List.length_append, List.length_map, List.length_set, List.length_cons, List.length_nil, List.length_take, List.length_drop]; omega)) only [va0, va1, va2, va3, va4, va5, va6, va7, va8, va9, va10, va11, va12, va13, va14, va15, vb0, vb1, vb2, vb3, w_i8, w_u8, w_i16, w_u16, w_i32, w_u32, w_i64, w_u64, lt_T, lt_F, le_T, le_F, nlt_T, nlt_F, nle_T, nle_F, List.take_of_length_le, gB, gcW, gcR, posIn, renA, renL, Chunk.ren, Chunk.refs, evOpD, touchD, stepC, isFresh, nFresh, freshOf, mkR, hole, evL, evH, opd, get, putD, ofVal, cellOf, loadE, behind, lenE, idxAddrE, idxE, addPtr, intE, strE, unE, convE, AV.int, AV.bool, AV.str, ivs, take, frameOf, firstRegion, refsA, refsL, one, cellsA, floatOk, apartT, List.map, if_true, if_false, E_P, E_glob0, reduceCtorEq, beq_self_eq_true, decide_true, decide_false, ↓reduceIte, Nat.reduceEqDiff, cond_true, cond_false, or_true, true_or, or_false, false_or, and_true, true_and, and_self, false_and, and_false, not_true, not_false_iff, Nat.reduceAdd, Nat.reduceSub, Nat.reduceMul, Nat.reduceLT, Nat.reduceLeDiff, Int.reduceToNat, Int.reduceLT, Int.reduceLE, Option.getD, Int.reduceMul, Int.reduceAdd, List.drop, List.take, Nat.reduceBEq, List.isEmpty, Int.reduceEq, Int.reduceNe, Int.reduceNeg, Int.reduceGT, Int.reduceGE, beq_true, beq_false, UInt8.reduceToNat, eqE, eq_self, foldE, maxE, minE, eq_T, eq_F, ndec, odec, adec, sdec, fillA, over, chop, List.replicate, leavesOk, leafOk, cellsEq, cellEq, E_byref, en38, ik55]
  exact ⟨_, rfl⟩
theorem ik38 (s : List UInt8) (hs : (s.length : Int) < 9223372036854775808) (H : Hp) : isoK E (callT E) 38 [.i (.str s)] H = some (.i (.v (.bool (trailB s))), H) := isoK_val rfl rfl rfl (c38 s hs)
def limB (l : List Int) (s : List UInt8) : Bool := decide (l.length ≤ 16) && decide (s.length ≤ 2) && !l.any over9999
theorem c41 (l : List Int) (s : List UInt8) (hl : (l.length : Int) < 9223372036854775808) (hs : (s.length : Int) < 9223372036854775808) : ∃ L, callT E 41 [.i (.sl 1 (rows64 l) false), .i (.str s)] [] = some (.i (.v (.bool (limB l s))), L) := by
  have hr := rows64_len l
  unfold limB
  rw [callT_eq Tryd.func41 rfl fok41 (by simp [Tryd.ntmps41])]
  by_cases h1 : l.length ≤ 16 <;> by_cases h2 : s.length ≤ 2 <;> simp only [h1, h2, decide_true, decide_false, Bool.true_and, Bool.false_and, Bool.and_false] <;> simp (disch := first | omega | (simp only [List.length_append, List.length_map, List.length_set, List.length_cons, List.length_nil, List.length_take, List.length_drop, rows64_len]; omega)) only [va0, va1, va2, va3, va4, va5, va6, va7, va8, va9, va10, va11, va12, va13, va14, va15, vb0, vb1, vb2, vb3, w_i8, w_u8, w_i16, w_u16, w_i32, w_u32, w_i64, w_u64, lt_T, lt_F, le_T, le_F, nlt_T, nlt_F, nle_T, nle_F, List.take_of_length_le, gB, gcW, gcR, posIn, renA, renL, Chunk.ren, Chunk.refs, evOpD, touchD, stepC, isFresh, nFresh, freshOf, mkR, hole, evL, evH, opd, get, putD, ofVal, cellOf, loadE, behind, lenE, idxAddrE, idxE, addPtr, intE, strE, unE, convE, AV.int, AV.bool, AV.str, ivs, take, frameOf, firstRegion, refsA, refsL, one, cellsA, floatOk, apartT, List.map, if_true, if_false, E_P, E_glob0, reduceCtorEq, beq_self_eq_true, decide_true, decide_false, ↓reduceIte, Nat.reduceEqDiff, cond_true, cond_false, or_true, true_or, or_false, false_or, and_true, true_and, and_self, false_and, and_false, not_true, not_false_iff, Nat.reduceAdd, Nat.reduceSub, Nat.reduceMul, Nat.reduceLT, Nat.reduceLeDiff, Int.reduceToNat, Int.reduceLT, Int.reduceLE, Option.getD, Int.reduceMul, Int.reduceAdd, List.drop, List.take, Nat.reduceBEq, List.isEmpty, Int.reduceEq, Int.reduceNe, Int.reduceNeg, Int.reduceGT, Int.reduceGE, beq_true, beq_false, UInt8.reduceToNat, eqE, eq_self, foldE, maxE, minE, eq_T, eq_F, ndec, odec, adec, sdec, fillA, over, chop, List.replicate, leavesOk, leafOk, cellsEq, cellEq, E_byref, en41, bs29, ik39, rows64_len, h1, h2] <;> exact ⟨_, rfl⟩
theorem ik41 (l : List Int) (s : List UInt8) (hl : (l.length : Int) < 9223372036854775808) (hs : (s.length : Int) < 9223372036854775808) (H : Hp) : isoK E (callT E) 41 [.i (.sl 1 (rows64 l) false), .i (.str s)] H = some (.i (.v (.bool (limB l s))), H) := isoK_val rfl rfl rfl (c41 l s hl hs)
def privB (b : Int) : Bool := decide (60 ≤ b) && decide (b ≤ 63)
theorem c37 (b : Int) : ∃ L, callT E 37 [.i (.v (.int .u8 b))] [] = some (.i (.v (.bool (privB b))), L) := by
  unfold privB
  rw [callT_eq Tryd.func37 rfl fok37 (by simp [Tryd.ntmps37])]
  by_cases h1 : 60 ≤ b <;> by_cases h2 : b ≤ 63 <;> simp only [h1, h2, decide_true, decide_false, Bool.true_and, Bool.false_and, Bool.and_false] <;> simp (disch := first | omega | (simp only [List.length_append, List.length_map, List.length_set, List.length_cons, List.length_nil, List.length_take, List.length_drop]; omega)) only [va0, va1, va2, va3, va4, va5, va6, va7, va8, va9, va10, va11, va12, va13, va14, va15, vb0, vb1, vb2, vb3, w_i8, w_u8, w_i16, w_u16, w_i32, w_u32, w_i64, w_u64, lt_T, lt_F, le_T, le_F, nlt_T, nlt_F, nle_T, nle_F, List.take_of_length_le, gB, gcW, gcR, posIn, renA, renL, Chunk.ren, Chunk.refs, evOpD, touchD, stepC, isFresh, nFresh, freshOf, mkR, hole, evL, evH, opd, get, putD, ofVal, cellOf, loadE, behind, lenE, idxAddrE, idxE, addPtr, intE, strE, unE, convE, AV.int, AV.bool, AV.str, ivs, take, frameOf, firstRegion, refsA, refsL, one, cellsA, floatOk, apartT, List.map, if_true, if_false, E_P, E_glob0, reduceCtorEq, beq_self_eq_true, decide_true, decide_false, ↓reduceIte, Nat.reduceEqDiff, cond_true, cond_false, or_true, true_or, or_false, false_or, and_true, true_and, and_self, false_and, and_false, not_true, not_false_iff, Nat.reduceAdd, Nat.reduceSub, Nat.reduceMul, Nat.reduceLT, Nat.reduceLeDiff, Int.reduceToNat, Int.reduceLT, Int.reduceLE, Option.getD, Int.reduceMul, Int.reduceAdd, List.drop, List.take, Nat.reduceBEq, List.isEmpty, Int.reduceEq, Int.reduceNe, Int.reduceNeg, Int.reduceGT, Int.reduceGE, beq_true, beq_false, UInt8.reduceToNat, eqE, eq_self, foldE, maxE, minE, eq_T, eq_F, ndec, odec, adec, sdec, fillA, over, chop, List.replicate, leavesOk, leafOk, cellsEq, cellEq, E_byref, en37, h1, h2] <;> exact ⟨_, rfl⟩
theorem ik37 (b : Int) (H : Hp) : isoK E (callT E) 37 [.i (.v (.int .u8 b))] H = some (.i (.v (.bool (privB b))), H) := isoK_val rfl rfl rfl (c37 b)
end Go.VI

namespace Go.VI
open Go.Proofs
set_option maxRecDepth 100000
set_option linter.unusedSimpArgs false
set_option linter.unusedVariables false
set_option maxHeartbeats 4000000
structure Sq where
  (v mi lo hi : Int)
def sqC (s : Sq) : List AV := [.i (.v (.int .i32 s.v)), .i (.v (.int .i64 s.mi)), .i (.v (.int .u8 s.lo)), .i (.v (.int .u8 s.hi))]
theorem sqC_one (s : Sq) : (sqC s).all one = true := rfl
theorem sqC_len (s : Sq) : (sqC s).length = 4 := rfl
theorem sqC_refs (s : Sq) : refsL (sqC s) = [] := rfl
theorem sqC_ren (ρ : Nat → Option Nat) (s : Sq) : renL ρ (sqC s) = sqC s := rfl
def beginS (b : Int) : Sq :=
  let lo : Int := if b = 224 then 160 else if b = 240 then 144 else 128
  let hi : Int := if b = 237 then 159 else if b = 244 then 143 else 191
  if 194 ≤ b ∧ b ≤ 223 then ⟨b - 192, 1, lo, hi⟩ else if 224 ≤ b ∧ b ≤ 239 then ⟨b - 224, 2, lo, hi⟩ else if 240 ≤ b ∧ b ≤ 244 then ⟨b - 240, 3, lo, hi⟩ else ⟨0, 0, lo, hi⟩
theorem c47_all : ((List.range 256).all fun b => match call E 60 47 [.i (.v (.int .u8 b))] [] with
    | some (.agg [.i (.v (.int .i32 v)), .i (.v (.int .i64 m)), .i (.v (.int .u8 l)), .i (.v (.int .u8 h))], _) => v == (beginS b).v && m == (beginS b).mi && l == (beginS b).lo && h == (beginS b).hi
    | _ => false) = true := by kernel_rfl
theorem c47 (b : Int) (h0 : 0 ≤ b) (h1 : b ≤ 255) : ∃ L, callT E 47 [.i (.v (.int .u8 b))] [] = some (.agg (sqC (beginS b)), L) := by
  obtain ⟨n, rfl⟩ := Int.eq_ofNat_of_zero_le h0
  have := (List.all_eq_true.1 c47_all) n (by simp; omega)
  split at this
  · rename_i v m l h L hL
    simp only [Bool.and_eq_true, beq_iff_eq] at this
    obtain ⟨⟨⟨rfl, rfl⟩, rfl⟩, rfl⟩ := this
    exact ⟨L, callT_of hL⟩
  · cases this
theorem ik47 (b : Int) (H : Hp) (h0 : 0 ≤ b) (h1 : b ≤ 255) : isoK E (callT E) 47 [.i (.v (.int .u8 b))] H = some (.agg (sqC (beginS b)), H) := isoK_val rfl rfl rfl (c47 b h0 h1)
end Go.VI

namespace Go.VI
open Go.Proofs
set_option maxRecDepth 100000
set_option linter.unusedSimpArgs false
set_option linter.unusedVariables false
set_option maxHeartbeats 4000000
theorem pw6 : (2 : Int) ^ min 6 IntKind.i32.bits = 64 := by decide
theorem and63_all : ∀ n : Nat, n < 256 → bitsE .and .u8 (n : Int) 63 = some ((n : Int) % 64) := by decide +kernel
theorem and63 {b : Int} (h0 : 0 ≤ b) (h1 : b ≤ 255) : bitsE .and .u8 b 63 = some (b % 64) := by
  obtain ⟨n, rfl⟩ := Int.eq_ofNat_of_zero_le h0
  exact and63_all n (by omega)
theorem or64 {v c : Int} (h0 : 0 ≤ v) (h1 : v < 1048576) (h2 : 0 ≤ c) (h3 : c < 64) : bitsE .or .i32 (v * 64) c = some (v * 64 + c) := by
  obtain ⟨n, rfl⟩ := Int.eq_ofNat_of_zero_le h0
  obtain ⟨m, rfl⟩ := Int.eq_ofNat_of_zero_le h2
  have e1 : BitVec.ofInt 32 ((n : Int) * 64) = BitVec.ofNat 32 (n * 64) := by
    rw [show (n : Int) * 64 = ((n * 64 : Nat) : Int) by omega]; rfl
  have e2 : BitVec.ofInt 32 (m : Int) = BitVec.ofNat 32 m := rfl
  have e3 : n * 64 ||| m = n * 64 + m := by
    have := Nat.shiftLeft_add_eq_or_of_lt (i := 6) (b := m) (by omega) n
    rw [Nat.shiftLeft_eq, show (2 : Nat) ^ 6 = 64 from rfl] at this
    exact this.symm
  show some (IntKind.i32.wrap ((BitVec.ofInt 32 ((n : Int) * 64) ||| BitVec.ofInt 32 (m : Int)).toNat : Nat)) = _
  rw [e1, e2, BitVec.toNat_or, BitVec.toNat_ofNat, BitVec.toNat_ofNat, Nat.mod_eq_of_lt (by omega), Nat.mod_eq_of_lt (by omega), e3, w_i32 (by omega) (by omega)]
  congr 1
structure Dec where
  (s : Sq) (out : List Int) (st : Int)
def SqOK (s : Sq) : Prop := s.mi = 0 ∨ (128 ≤ s.lo ∧ s.hi ≤ 191 ∧ 0 ≤ s.v ∧ (s.mi = 1 ∧ s.v < 32768 ∨ s.mi = 2 ∧ s.v < 512 ∨ s.mi = 3 ∧ s.v < 8))
def stepD (d : Dec) (i b : Int) : Dec :=
  if 0 < d.s.mi ∧ d.s.lo ≤ b ∧ b ≤ d.s.hi then
    ⟨⟨d.s.v * 64 + b % 64, d.s.mi - 1, 128, 191⟩, if d.s.mi - 1 = 0 then d.out ++ [d.s.v * 64 + b % 64] else d.out, d.st⟩
  else
    let o := if 0 < d.s.mi then d.out ++ [65533] else d.out
    ⟨beginS b, if b < 128 then o ++ [b] else if (beginS b).mi = 0 then o ++ [65533] else o, i⟩
def runD : List UInt8 → Nat → Dec → Dec
  | [], _, d => d
  | b :: r, i, d => runD r (i + 1) (stepD d i b.toNat)
theorem beginS_all : ∀ n : Nat, n < 256 → ((beginS n).mi = 0 ∨ (128 ≤ (beginS n).lo ∧ (beginS n).hi ≤ 191 ∧ 0 ≤ (beginS n).v ∧ ((beginS n).mi = 1 ∧ (beginS n).v < 32768 ∨ (beginS n).mi = 2 ∧ (beginS n).v < 512 ∨ (beginS n).mi = 3 ∧ (beginS n).v < 8))) := by decide +kernel
theorem beginS_ok (b : Int) (h0 : 0 ≤ b) (h1 : b ≤ 255) : SqOK (beginS b) := by
  obtain ⟨n, rfl⟩ := Int.eq_ofNat_of_zero_le h0
  exact beginS_all n (by omega)
theorem stepD_ok {d : Dec} (h : SqOK d.s) (i b : Int) (h0 : 0 ≤ b) (h1 : b ≤ 255) : SqOK (stepD d i b).s := by
  unfold stepD
  split
  · rename_i hc
    obtain ⟨c1, c2, c3⟩ := hc
    unfold SqOK at h ⊢
    simp only
    omega
  · exact beginS_ok b h0 h1
def rows32 (l : List Int) : List (List IV) := l.map fun n => [.v (.int .i32 n)]
theorem rows32_len (l : List Int) : (rows32 l).length = l.length := by simp [rows32]
theorem rows32_snoc (l : List Int) (n : Int) : rows32 l ++ [[.v (.int .i32 n)]] = rows32 (l ++ [n]) := by simp [rows32]
theorem stepD_len (d : Dec) (i b : Int) : (stepD d i b).out.length ≤ d.out.length + 2 := by
  unfold stepD; simp only; repeat' split
  all_goals (simp; try omega)
theorem sqC_cn (B : Nat) (H : Hp) (s : Sq) : cnL B H (sqC s) = sqC s := by simp [sqC, cnL, cnA]
theorem sqC_0 (s : Sq) : (sqC s)[0]? = some (.i (.v (.int .i32 s.v))) := rfl
theorem sqC_1 (s : Sq) : (sqC s)[1]? = some (.i (.v (.int .i64 s.mi))) := rfl
theorem sqC_2 (s : Sq) : (sqC s)[2]? = some (.i (.v (.int .u8 s.lo))) := rfl
theorem sqC_3 (s : Sq) : (sqC s)[3]? = some (.i (.v (.int .u8 s.hi))) := rfl
theorem sqC_drop (s : Sq) : (sqC s).drop 4 = [] := rfl
theorem sqC_take (s : Sq) : (sqC s).take 4 = sqC s := rfl
theorem byte_at {t : List UInt8} {k : Nat} (h : k < t.length) : t[k]? = some t[k] := by simp [h]
theorem l28 (t : List UInt8) (ht : t.length < 100000) (k : Nat) (hk : k ≤ t.length) (d : Dec) (hs : SqOK d.s) (hl : d.out.length ≤ 2 * k) :
    rl E 0 28 (loopAt Tryd.f28 0) [(6, .i (.str t)), (7, .ref 0 0 0 d.out.length), (8, .ptr 1 0 0 0), (9, .i (.v (.int .i64 d.st))), (16, .i (.v (.int .i64 t.length))), (17, .i (.v (.int .i64 k)))] [.sl 1 0 (rows32 d.out) false, .box (sqC d.s)] =
      some (.exit 0, [(6, .i (.str t)), (7, .ref 0 0 0 (runD (t.drop k) k d).out.length), (8, .ptr 1 0 0 0), (9, .i (.v (.int .i64 (runD (t.drop k) k d).st))), (16, .i (.v (.int .i64 t.length))), (17, .i (.v (.int .i64 t.length))), (18, .i (.v (.bool false)))], [.sl 1 0 (rows32 (runD (t.drop k) k d).out) false, .box (sqC (runD (t.drop k) k d).s)]) := by
  rw [rl_step (fn := Tryd.f28) (k := 0) rfl]
  by_cases hlt : k < t.length
  · have hb := byte_at hlt
    have b1 := t[k].toNat_lt
    rw [List.drop_eq_getElem_cons hlt, runD]
    have ih := l28 t ht (k + 1) hlt (stepD d k t[k].toNat) (stepD_ok hs _ _ (by omega) (by omega)) (by have := stepD_len d k t[k].toNat; omega)
    unfold SqOK at hs
    generalize t[k] = b at *
    rw [← ih]
    clear ih
    (try simp (disch := first | omega | (simp only [List.length_append, List.length_map, List.length_set, List.length_cons, List.length_nil, List.length_take, List.length_drop, rows32_len]; omega)) only [va0, va1, va2, va3, va4, va5, va6, va7, va8, va9, va10, va11, va12, va13, va14, va15, vb0, vb1, vb2, vb3, w_i8, w_u8, w_i16, w_u16, w_i32, w_u32, w_i64, w_u64, lt_T, lt_F, le_T, le_F, nlt_T, nlt_F, nle_T, nle_F, List.take_of_length_le, gB, gcW, gcR, posIn, renA, renL, Chunk.ren, Chunk.refs, evOpD, touchD, stepC, isFresh, nFresh, freshOf, mkR, hole, evL, evH, opd, get, putD, ofVal, cellOf, loadE, behind, lenE, idxAddrE, idxE, addPtr, intE, strE, unE, convE, AV.int, AV.bool, AV.str, ivs, take, frameOf, firstRegion, refsA, refsL, one, cellsA, floatOk, apartT, List.map, if_true, if_false, E_P, E_glob0, reduceCtorEq, beq_self_eq_true, decide_true, decide_false, ↓reduceIte, Nat.reduceEqDiff, cond_true, cond_false, or_true, true_or, or_false, false_or, and_true, true_and, and_self, false_and, and_false, not_true, not_false_iff, Nat.reduceAdd, Nat.reduceSub, Nat.reduceMul, Nat.reduceLT, Nat.reduceLeDiff, Int.reduceToNat, Int.reduceLT, Int.reduceLE, Option.getD, Int.reduceMul, Int.reduceAdd, List.drop, List.take, Nat.reduceBEq, List.isEmpty, Int.reduceEq, Int.reduceNe, Int.reduceNeg, Int.reduceGT, Int.reduceGE, beq_true, beq_false, UInt8.reduceToNat, eqE, eq_self, foldE, maxE, minE, eq_T, eq_F, ndec, odec, adec, sdec, fillA, over, chop, List.replicate, leavesOk, leafOk, cellsEq, cellEq, E_byref, en28, bs49, hb, sqC_drop, sqC_take, sqC_0, sqC_1, sqC_2, sqC_3, ik47, pw6, and63, or64, sqC_one, sqC_len, sqC_refs, sqC_ren, sqC_cn, rows32_len, rows32_snoc, show ∀ B fr H, execT E B 28 (Code.loop _) fr H = rlM E B 28 (loopAt Tryd.f28 0) [6, 7, 8, 9, 16, 17] [] (matF [(7, 1)] fr H).1 (matB [] (matF [(7, 1)] fr H).1 (matF [(7, 1)] fr H).2) from fun B fr H => rl_introM rfl mt28_6 mb28_6 zf28_6 hd28_6 fr H]) <;> repeat' ((first | rw [condK_ndec] | rw [condK_dec] | rw [condK_b] | rw [guK_ndec] | rw [guK_dec] | rw [guK_b] | rw [guT_ndec] | rw [guT_dec] | rw [guT_b] | rw [guD_dec] | rw [guD_b]) <;> split <;> (try subst_vars) <;> (try simp (disch := first | omega | (simp only [List.length_append, List.length_map, List.length_set, List.length_cons, List.length_nil, List.length_take, List.length_drop, rows32_len]; omega)) only [va0, va1, va2, va3, va4, va5, va6, va7, va8, va9, va10, va11, va12, va13, va14, va15, vb0, vb1, vb2, vb3, w_i8, w_u8, w_i16, w_u16, w_i32, w_u32, w_i64, w_u64, lt_T, lt_F, le_T, le_F, nlt_T, nlt_F, nle_T, nle_F, List.take_of_length_le, gB, gcW, gcR, posIn, renA, renL, Chunk.ren, Chunk.refs, evOpD, touchD, stepC, isFresh, nFresh, freshOf, mkR, hole, evL, evH, opd, get, putD, ofVal, cellOf, loadE, behind, lenE, idxAddrE, idxE, addPtr, intE, strE, unE, convE, AV.int, AV.bool, AV.str, ivs, take, frameOf, firstRegion, refsA, refsL, one, cellsA, floatOk, apartT, List.map, if_true, if_false, E_P, E_glob0, reduceCtorEq, beq_self_eq_true, decide_true, decide_false, ↓reduceIte, Nat.reduceEqDiff, cond_true, cond_false, or_true, true_or, or_false, false_or, and_true, true_and, and_self, false_and, and_false, not_true, not_false_iff, Nat.reduceAdd, Nat.reduceSub, Nat.reduceMul, Nat.reduceLT, Nat.reduceLeDiff, Int.reduceToNat, Int.reduceLT, Int.reduceLE, Option.getD, Int.reduceMul, Int.reduceAdd, List.drop, List.take, Nat.reduceBEq, List.isEmpty, Int.reduceEq, Int.reduceNe, Int.reduceNeg, Int.reduceGT, Int.reduceGE, beq_true, beq_false, UInt8.reduceToNat, eqE, eq_self, foldE, maxE, minE, eq_T, eq_F, ndec, odec, adec, sdec, fillA, over, chop, List.replicate, leavesOk, leafOk, cellsEq, cellEq, E_byref, en28, bs49, hb, sqC_drop, sqC_take, sqC_0, sqC_1, sqC_2, sqC_3, ik47, pw6, and63, or64, sqC_one, sqC_len, sqC_refs, sqC_ren, sqC_cn, rows32_len, rows32_snoc, show ∀ B fr H, execT E B 28 (Code.loop _) fr H = rlM E B 28 (loopAt Tryd.f28 0) [6, 7, 8, 9, 16, 17] [] (matF [(7, 1)] fr H).1 (matB [] (matF [(7, 1)] fr H).1 (matF [(7, 1)] fr H).2) from fun B fr H => rl_introM rfl mt28_6 mb28_6 zf28_6 hd28_6 fr H]))
    all_goals generalize hX : stepD d k b.toNat = X
    all_goals unfold stepD at hX
    all_goals simp only at hX
    all_goals (repeat' split at hX)
    all_goals first | (exfalso; omega) | (subst hX; (try simp only [List.length_append, List.length_cons, List.length_nil, Nat.zero_add, Nat.reduceAdd, Nat.add_assoc, rows32_snoc]) <;> rfl) | trace_state
  · obtain rfl : k = t.length := by omega
    rw [List.drop_length, runD]
    simp (disch := first | omega | (simp only [List.length_append, List.length_map, List.length_set, List.length_cons, List.length_nil, List.length_take, List.length_drop]; omega)) only [va0, va1, va2, va3, va4, va5, va6, va7, va8, va9, va10, va11, va12, va13, va14, va15, vb0, vb1, vb2, vb3, w_i8, w_u8, w_i16, w_u16, w_i32, w_u32, w_i64, w_u64, lt_T, lt_F, le_T, le_F, nlt_T, nlt_F, nle_T, nle_F, List.take_of_length_le, gB, gcW, gcR, posIn, renA, renL, Chunk.ren, Chunk.refs, evOpD, touchD, stepC, isFresh, nFresh, freshOf, mkR, hole, evL, evH, opd, get, putD, ofVal, cellOf, loadE, behind, lenE, idxAddrE, idxE, addPtr, intE, strE, unE, convE, AV.int, AV.bool, AV.str, ivs, take, frameOf, firstRegion, refsA, refsL, one, cellsA, floatOk, apartT, List.map, if_true, if_false, E_P, E_glob0, reduceCtorEq, beq_self_eq_true, decide_true, decide_false, ↓reduceIte, Nat.reduceEqDiff, cond_true, cond_false, or_true, true_or, or_false, false_or, and_true, true_and, and_self, false_and, and_false, not_true, not_false_iff, Nat.reduceAdd, Nat.reduceSub, Nat.reduceMul, Nat.reduceLT, Nat.reduceLeDiff, Int.reduceToNat, Int.reduceLT, Int.reduceLE, Option.getD, Int.reduceMul, Int.reduceAdd, List.drop, List.take, Nat.reduceBEq, List.isEmpty, Int.reduceEq, Int.reduceNe, Int.reduceNeg, Int.reduceGT, Int.reduceGE, beq_true, beq_false, UInt8.reduceToNat, eqE, eq_self, foldE, maxE, minE, eq_T, eq_F, ndec, odec, adec, sdec, fillA, over, chop, List.replicate, leavesOk, leafOk, cellsEq, cellEq, E_byref, en28, bs49]
termination_by t.length - k
end Go.VI

namespace Go.VI
open Go.Proofs
set_option maxRecDepth 100000
set_option linter.unusedSimpArgs false
set_option linter.unusedVariables false
set_option maxHeartbeats 4000000
theorem stepD_st {d : Dec} {i b : Int} : (stepD d i b).st = d.st ∨ (stepD d i b).st = i := by
  unfold stepD; simp only; split
  · exact .inl rfl
  · exact .inr rfl
theorem runD_st : ∀ (l : List UInt8) (i : Nat) (d : Dec), 0 ≤ d.st → d.st ≤ i → 0 ≤ (runD l i d).st ∧ (runD l i d).st ≤ i + l.length
  | [], i, d, h0, h1 => by simp only [runD, List.length_nil]; omega
  | b :: l, i, d, h0, h1 => by
    have hs := stepD_st (d := d) (i := i) (b := b.toNat)
    have ih := runD_st l (i + 1) (stepD d i b.toNat) (by omega) (by omega)
    simp only [runD, List.length_cons]
    omega
def sq0 : Sq := ⟨0, 0, 0, 0⟩
def decD (t : List UInt8) : Dec := runD t 0 ⟨sq0, [], 0⟩
def decOut (t : List UInt8) : List Int := (decD t).out
def decRest (t : List UInt8) : List UInt8 := if (decD t).s.mi = 0 then [] else t.drop (decD t).st.toNat
theorem l28_0 (t : List UInt8) (ht : (t.length : Int) < 100000) :
    rl E 0 28 (loopAt Tryd.f28 0) [(6, .i (.str t)), (7, .ref 0 0 0 0), (8, .ptr 1 0 0 0), (9, .i (.v (.int .i64 0))), (16, .i (.v (.int .i64 t.length))), (17, .i (.v (.int .i64 0)))] [.sl 1 0 [] false, .box [.i (.v (.int .i32 0)), .i (.v (.int .i64 0)), .i (.v (.int .u8 0)), .i (.v (.int .u8 0))]] =
      some (.exit 0, [(6, .i (.str t)), (7, .ref 0 0 0 (decD t).out.length), (8, .ptr 1 0 0 0), (9, .i (.v (.int .i64 (decD t).st))), (16, .i (.v (.int .i64 t.length))), (17, .i (.v (.int .i64 t.length))), (18, .i (.v (.bool false)))], [.sl 1 0 (rows32 (decD t).out) false, .box (sqC (decD t).s)]) :=
  l28 t (by omega) 0 (by omega) ⟨sq0, [], 0⟩ (.inl rfl) (Nat.zero_le _)
theorem c28 (p c : List UInt8) (ht : (p.length : Int) + c.length < 100000) : ∃ L, callT E 28 [.i (.str p), .i (.str c)] [] = some (.tup [.i (.sl 1 (rows32 (decOut (p ++ c))) false), .i (.str (decRest (p ++ c)))], L) := by
  have hlen : ((p ++ c).length : Int) < 100000 := by simp; omega
  have h := l28_0 (p ++ c) hlen
  obtain ⟨b1, b2⟩ := runD_st (p ++ c) 0 ⟨sq0, [], 0⟩ (Int.le_refl _) (Int.le_refl _)
  rw [show runD (p ++ c) 0 ⟨sq0, [], 0⟩ = decD (p ++ c) from rfl] at b1 b2
  unfold decOut decRest
  rw [callT_eq Tryd.func28 rfl fok28 (by simp [Tryd.ntmps28])]
  generalize hX : decD (p ++ c) = X at *
  simp only [List.length_append] at h b2 ⊢
  have hr := rows32_len X.out
  (try simp (disch := first | omega | (simp only [List.length_append, List.length_map, List.length_set, List.length_cons, List.length_nil, List.length_take, List.length_drop, rows32_len]; omega)) only [va0, va1, va2, va3, va4, va5, va6, va7, va8, va9, va10, va11, va12, va13, va14, va15, vb0, vb1, vb2, vb3, w_i8, w_u8, w_i16, w_u16, w_i32, w_u32, w_i64, w_u64, lt_T, lt_F, le_T, le_F, nlt_T, nlt_F, nle_T, nle_F, List.take_of_length_le, gB, gcW, gcR, posIn, renA, renL, Chunk.ren, Chunk.refs, evOpD, touchD, stepC, isFresh, nFresh, freshOf, mkR, hole, evL, evH, opd, get, putD, ofVal, cellOf, loadE, behind, lenE, idxAddrE, idxE, addPtr, intE, strE, unE, convE, AV.int, AV.bool, AV.str, ivs, take, frameOf, firstRegion, refsA, refsL, one, cellsA, floatOk, apartT, List.map, if_true, if_false, E_P, E_glob0, reduceCtorEq, beq_self_eq_true, decide_true, decide_false, ↓reduceIte, Nat.reduceEqDiff, cond_true, cond_false, or_true, true_or, or_false, false_or, and_true, true_and, and_self, false_and, and_false, not_true, not_false_iff, Nat.reduceAdd, Nat.reduceSub, Nat.reduceMul, Nat.reduceLT, Nat.reduceLeDiff, Int.reduceToNat, Int.reduceLT, Int.reduceLE, Option.getD, Int.reduceMul, Int.reduceAdd, List.drop, List.take, Nat.reduceBEq, List.isEmpty, Int.reduceEq, Int.reduceNe, Int.reduceNeg, Int.reduceGT, Int.reduceGE, beq_true, beq_false, UInt8.reduceToNat, eqE, eq_self, foldE, maxE, minE, eq_T, eq_F, ndec, odec, adec, sdec, fillA, over, chop, List.replicate, leavesOk, leafOk, cellsEq, cellEq, E_byref, en28, bs49, h, sqC_drop, sqC_take, sqC_0, sqC_1, sqC_2, sqC_3, sqC_one, sqC_len, sqC_refs, sqC_ren, sqC_cn, show ∀ B fr H, execT E B 28 (Code.loop _) fr H = rlM E B 28 (loopAt Tryd.f28 0) [6, 7, 8, 9, 16, 17] [] (matF [(7, 1)] fr H).1 (matB [] (matF [(7, 1)] fr H).1 (matF [(7, 1)] fr H).2) from fun B fr H => rl_introM rfl mt28_6 mb28_6 zf28_6 hd28_6 fr H, List.take_of_length_le]) <;> repeat' ((first | rw [condK_ndec] | rw [condK_dec] | rw [condK_b] | rw [guK_ndec] | rw [guK_dec] | rw [guK_b] | rw [guT_ndec] | rw [guT_dec] | rw [guT_b] | rw [guD_dec] | rw [guD_b]) <;> split <;> (try subst_vars) <;> (try simp (disch := first | omega | (simp only [List.length_append, List.length_map, List.length_set, List.length_cons, List.length_nil, List.length_take, List.length_drop, rows32_len]; omega)) only [va0, va1, va2, va3, va4, va5, va6, va7, va8, va9, va10, va11, va12, va13, va14, va15, vb0, vb1, vb2, vb3, w_i8, w_u8, w_i16, w_u16, w_i32, w_u32, w_i64, w_u64, lt_T, lt_F, le_T, le_F, nlt_T, nlt_F, nle_T, nle_F, List.take_of_length_le, gB, gcW, gcR, posIn, renA, renL, Chunk.ren, Chunk.refs, evOpD, touchD, stepC, isFresh, nFresh, freshOf, mkR, hole, evL, evH, opd, get, putD, ofVal, cellOf, loadE, behind, lenE, idxAddrE, idxE, addPtr, intE, strE, unE, convE, AV.int, AV.bool, AV.str, ivs, take, frameOf, firstRegion, refsA, refsL, one, cellsA, floatOk, apartT, List.map, if_true, if_false, E_P, E_glob0, reduceCtorEq, beq_self_eq_true, decide_true, decide_false, ↓reduceIte, Nat.reduceEqDiff, cond_true, cond_false, or_true, true_or, or_false, false_or, and_true, true_and, and_self, false_and, and_false, not_true, not_false_iff, Nat.reduceAdd, Nat.reduceSub, Nat.reduceMul, Nat.reduceLT, Nat.reduceLeDiff, Int.reduceToNat, Int.reduceLT, Int.reduceLE, Option.getD, Int.reduceMul, Int.reduceAdd, List.drop, List.take, Nat.reduceBEq, List.isEmpty, Int.reduceEq, Int.reduceNe, Int.reduceNeg, Int.reduceGT, Int.reduceGE, beq_true, beq_false, UInt8.reduceToNat, eqE, eq_self, foldE, maxE, minE, eq_T, eq_F, ndec, odec, adec, sdec, fillA, over, chop, List.replicate, leavesOk, leafOk, cellsEq, cellEq, E_byref, en28, bs49, h, sqC_drop, sqC_take, sqC_0, sqC_1, sqC_2, sqC_3, sqC_one, sqC_len, sqC_refs, sqC_ren, sqC_cn, show ∀ B fr H, execT E B 28 (Code.loop _) fr H = rlM E B 28 (loopAt Tryd.f28 0) [6, 7, 8, 9, 16, 17] [] (matF [(7, 1)] fr H).1 (matB [] (matF [(7, 1)] fr H).1 (matF [(7, 1)] fr H).2) from fun B fr H => rl_introM rfl mt28_6 mb28_6 zf28_6 hd28_6 fr H, List.take_of_length_le]))
  all_goals exact ⟨_, rfl⟩
theorem ik28 (p c : List UInt8) (ht : (p.length : Int) + c.length < 100000) (H : Hp) : isoK E (callT E) 28 [.i (.str p), .i (.str c)] H = some (.tup [.i (.sl 1 (rows32 (decOut (p ++ c))) false), .i (.str (decRest (p ++ c)))], H) := isoK_val rfl rfl rfl (c28 p c ht)
end Go.VI

namespace Go.VI
open Go.Proofs
set_option maxRecDepth 100000
set_option linter.unusedSimpArgs false
set_option linter.unusedVariables false
set_option maxHeartbeats 4000000
theorem c61 (l : List Int) (n : Int) (hl : (l.length : Int) < 100000) : ∃ L, callT E 61 [.ptr 0 0 0 0, .ptr 2 0 0 0] [.box [.ref 1 0 0 l.length], .sl 1 0 (rows64 l) false, .box [.i (.v (.int .i64 n))]] =
    some (.tup [], .box [.ref 1 1 0 (l.length + 1)] :: .sl 1 1 (rows64 (l ++ [n])) false :: .box [.i (.v (.int .i64 (-1)))] :: L) := by
  have hr := rows64_len l
  rw [callT_eq Tryd.func61 rfl fok61 (by simp [Tryd.ntmps61])]
  simp (disch := first | omega | (simp only [List.length_append, List.length_map, List.length_set, List.length_cons, List.length_nil, List.length_take, List.length_drop, rows64_len]; omega)) only [va0, va1, va2, va3, va4, va5, va6, va7, va8, va9, va10, va11, va12, va13, va14, va15, vb0, vb1, vb2, vb3, w_i8, w_u8, w_i16, w_u16, w_i32, w_u32, w_i64, w_u64, lt_T, lt_F, le_T, le_F, nlt_T, nlt_F, nle_T, nle_F, List.take_of_length_le, gB, gcW, gcR, posIn, renA, renL, Chunk.ren, Chunk.refs, evOpD, touchD, stepC, isFresh, nFresh, freshOf, mkR, hole, evL, evH, opd, get, putD, ofVal, cellOf, loadE, behind, lenE, idxAddrE, idxE, addPtr, intE, strE, unE, convE, AV.int, AV.bool, AV.str, ivs, take, frameOf, firstRegion, refsA, refsL, one, cellsA, floatOk, apartT, List.map, if_true, if_false, E_P, E_glob0, reduceCtorEq, beq_self_eq_true, decide_true, decide_false, ↓reduceIte, Nat.reduceEqDiff, cond_true, cond_false, or_true, true_or, or_false, false_or, and_true, true_and, and_self, false_and, and_false, not_true, not_false_iff, Nat.reduceAdd, Nat.reduceSub, Nat.reduceMul, Nat.reduceLT, Nat.reduceLeDiff, Int.reduceToNat, Int.reduceLT, Int.reduceLE, Option.getD, Int.reduceMul, Int.reduceAdd, List.drop, List.take, Nat.reduceBEq, List.isEmpty, Int.reduceEq, Int.reduceNe, Int.reduceNeg, Int.reduceGT, Int.reduceGE, beq_true, beq_false, UInt8.reduceToNat, eqE, eq_self, foldE, maxE, minE, eq_T, eq_F, ndec, odec, adec, sdec, fillA, over, chop, List.replicate, leavesOk, leafOk, cellsEq, cellEq, E_byref, en61, bs29, rows64_len, rows64_snoc]
  exact ⟨_, rfl⟩
theorem ik61 (l : List Int) (n : Int) (hl : (l.length : Int) < 100000) : isoK E (callT E) 61 [.ptr 0 0 0 0, .ptr 2 0 0 0] [.box [.ref 1 0 0 l.length], .sl 1 0 (rows64 l) false, .box [.i (.v (.int .i64 n))]] =
    some (.tup [], [.box [.ref 1 1 0 (l.length + 1)], .sl 1 1 (rows64 (l ++ [n])) false, .box [.i (.v (.int .i64 (-1)))]]) := by
  obtain ⟨L, h⟩ := c61 l n hl
  rw [isoK_R rfl]
  simp (disch := first | omega | (simp only [List.length_append, List.length_map, List.length_set, List.length_cons, List.length_nil, List.length_take, List.length_drop]; omega)) only [va0, va1, va2, va3, va4, va5, va6, va7, va8, va9, va10, va11, va12, va13, va14, va15, vb0, vb1, vb2, vb3, w_i8, w_u8, w_i16, w_u16, w_i32, w_u32, w_i64, w_u64, lt_T, lt_F, le_T, le_F, nlt_T, nlt_F, nle_T, nle_F, List.take_of_length_le, gB, gcW, gcR, posIn, renA, renL, Chunk.ren, Chunk.refs, evOpD, touchD, stepC, isFresh, nFresh, freshOf, mkR, hole, evL, evH, opd, get, putD, ofVal, cellOf, loadE, behind, lenE, idxAddrE, idxE, addPtr, intE, strE, unE, convE, AV.int, AV.bool, AV.str, ivs, take, frameOf, firstRegion, refsA, refsL, one, cellsA, floatOk, apartT, List.map, if_true, if_false, E_P, E_glob0, reduceCtorEq, beq_self_eq_true, decide_true, decide_false, ↓reduceIte, Nat.reduceEqDiff, cond_true, cond_false, or_true, true_or, or_false, false_or, and_true, true_and, and_self, false_and, and_false, not_true, not_false_iff, Nat.reduceAdd, Nat.reduceSub, Nat.reduceMul, Nat.reduceLT, Nat.reduceLeDiff, Int.reduceToNat, Int.reduceLT, Int.reduceLE, Option.getD, Int.reduceMul, Int.reduceAdd, List.drop, List.take, Nat.reduceBEq, List.isEmpty, Int.reduceEq, Int.reduceNe, Int.reduceNeg, Int.reduceGT, Int.reduceGE, beq_true, beq_false, UInt8.reduceToNat, eqE, eq_self, foldE, maxE, minE, eq_T, eq_F, ndec, odec, adec, sdec, fillA, over, chop, List.replicate, leavesOk, leafOk, cellsEq, cellEq, E_byref, tyaa, tyab, tyac, tyad, tyae, tyaf, tyag, tyah, tyai, tyaj, tyak, tyal, tyam, bs26, bs29, bs47, bs49, isoL, h, isoB_some, isoF, backRen, setAll, List.take_succ_cons, List.take_zero]
def stepP (l : List Int) (n c : Int) : Option (List Int × Int) := if c = 59 then some (l ++ [n], -1) else if c < 48 then none else if 57 < c then none else some (l, min (10 * max n 0 + (c - 48)) 10000)
def runP : List UInt8 → List Int → Int → List Int × Int × List UInt8
  | [], l, n => (l, n, [])
  | b :: r, l, n => match stepP l n b.toNat with
    | none => (l, n, b :: r)
    | some (l', n') => runP r l' n'
theorem runP_len : ∀ (t : List UInt8) (l : List Int) (n : Int), (runP t l n).1.length ≤ l.length + t.length ∧ (runP t l n).2.2.length ≤ t.length
  | [], l, n => by simp [runP]
  | b :: r, l, n => by
    simp only [runP]
    cases h : stepP l n b.toNat with
    | none => simp only [List.length_cons]; omega
    | some p =>
      obtain ⟨l', n'⟩ := p
      have ih := runP_len r l' n'
      have : l'.length ≤ l.length + 1 := by
        unfold stepP at h
        split at h
        · cases h; simp
        · split at h
          · cases h
          · split at h
            · cases h
            · cases h; omega
      simp only [List.length_cons] at ih ⊢
      omega
theorem l53 (s : List UInt8) (hs : s.length < 50000) (m : AV) (hm : ∃ x, m = .i (.v (.int .u8 x))) (k : Nat) (hk : k ≤ s.length) (l : List Int) (n : Int) (hl : l.length ≤ k) (hn : -1 ≤ n ∧ n ≤ 10000) :
    ∃ fr, rl E 0 53 (loopAt Tryd.f53 0) [(0, .i (.str s)), (6, m), (7, .ptr 0 0 0 0), (8, .ptr 2 0 0 0), (9, .i (.v (.int .i64 k))), (10, .clo (.func 61) [] [.ptr 0 0 0 0, .ptr 2 0 0 0])]
      [.box [.ref 1 0 0 l.length], .sl 1 0 (rows64 l) false, .box [.i (.v (.int .i64 n))]] =
      some (.exit 0, fr, [.box [.ref 1 0 0 (runP (s.drop k) l n).1.length], .sl 1 0 (rows64 (runP (s.drop k) l n).1) false, .box [.i (.v (.int .i64 (runP (s.drop k) l n).2.1))]]) ∧
      get 0 fr = .i (.str s) ∧ get 6 fr = m ∧ get 7 fr = .ptr 0 0 0 0 ∧ get 8 fr = .ptr 2 0 0 0 ∧ get 9 fr = .i (.v (.int .i64 (s.length - (runP (s.drop k) l n).2.2.length))) ∧ get 10 fr = .clo (.func 61) [] [.ptr 0 0 0 0, .ptr 2 0 0 0] := by
  obtain ⟨mx, rfl⟩ := hm
  rw [rl_step (fn := Tryd.f53) (k := 0) rfl]
  by_cases hlt : k < s.length
  · have hb := byte_at hlt
    have b1 := s[k].toNat_lt
    rw [List.drop_eq_getElem_cons hlt, runP]
    have hlen : (s.drop (k + 1)).length = s.length - (k + 1) := List.length_drop
    by_cases h1 : (s[k].toNat : Int) = 59
    · have hst : stepP l n s[k].toNat = some (l ++ [n], -1) := by rw [stepP, if_pos h1]
      obtain ⟨fr, e, f⟩ := l53 s hs _ ⟨mx, rfl⟩ (k + 1) hlt (l ++ [n]) (-1) (by simp; omega) (by omega)
      simp only [hst]
      refine ⟨fr, Eq.trans ?_ e, f⟩
      clear e f hst hlen
      have hik := ik61 l n (by omega)
      generalize s[k] = b at *
      simp (disch := first | omega | (simp only [List.length_append, List.length_map, List.length_set, List.length_cons, List.length_nil, List.length_take, List.length_drop, rows64_len]; omega)) only [va0, va1, va2, va3, va4, va5, va6, va7, va8, va9, va10, va11, va12, va13, va14, va15, vb0, vb1, vb2, vb3, w_i8, w_u8, w_i16, w_u16, w_i32, w_u32, w_i64, w_u64, lt_T, lt_F, le_T, le_F, nlt_T, nlt_F, nle_T, nle_F, List.take_of_length_le, gB, gcW, gcR, posIn, renA, renL, Chunk.ren, Chunk.refs, evOpD, touchD, stepC, isFresh, nFresh, freshOf, mkR, hole, evL, evH, opd, get, putD, ofVal, cellOf, loadE, behind, lenE, idxAddrE, idxE, addPtr, intE, strE, unE, convE, AV.int, AV.bool, AV.str, ivs, take, frameOf, firstRegion, refsA, refsL, one, cellsA, floatOk, apartT, List.map, if_true, if_false, E_P, E_glob0, reduceCtorEq, beq_self_eq_true, decide_true, decide_false, ↓reduceIte, Nat.reduceEqDiff, cond_true, cond_false, or_true, true_or, or_false, false_or, and_true, true_and, and_self, false_and, and_false, not_true, not_false_iff, Nat.reduceAdd, Nat.reduceSub, Nat.reduceMul, Nat.reduceLT, Nat.reduceLeDiff, Int.reduceToNat, Int.reduceLT, Int.reduceLE, Option.getD, Int.reduceMul, Int.reduceAdd, List.drop, List.take, Nat.reduceBEq, List.isEmpty, Int.reduceEq, Int.reduceNe, Int.reduceNeg, Int.reduceGT, Int.reduceGE, beq_true, beq_false, UInt8.reduceToNat, eqE, eq_self, foldE, maxE, minE, eq_T, eq_F, ndec, odec, adec, sdec, fillA, over, chop, List.replicate, leavesOk, leafOk, cellsEq, cellEq, E_byref, en53, bs29, hb, h1, hik, rows64_len, List.length_append, show ∀ B fr H, execT E B 53 (Code.loop _) fr H = rlM E B 53 (loopAt Tryd.f53 0) [0, 6, 7, 8, 9, 10] [] (matF [] fr H).1 (matB [(7, 0, 1)] (matF [] fr H).1 (matF [] fr H).2) from fun B fr H => rl_introM rfl mt53_7 mb53_7 zf53_7 hd53_7 fr H]
    · by_cases h2 : (s[k].toNat : Int) < 48 ∨ 57 < (s[k].toNat : Int)
      · have hst : stepP l n s[k].toNat = none := by
          rw [stepP, if_neg h1]
          split
          · rfl
          · rw [if_pos (by omega)]
        simp only [hst]
        clear hst
        have hle : (s[k] :: s.drop (k + 1)).length = s.length - k := by simp only [List.length_cons, List.length_drop]; omega
        rw [hle]
        have hcast : ((s.length : Int) - ((s.length - k : Nat) : Int)) = k := by omega
        rw [hcast]
        generalize s[k] = b at *
        by_cases h3 : (b.toNat : Int) < 48
        · simp (disch := first | omega | (simp only [List.length_append, List.length_map, List.length_set, List.length_cons, List.length_nil, List.length_take, List.length_drop, rows64_len]; omega)) only [va0, va1, va2, va3, va4, va5, va6, va7, va8, va9, va10, va11, va12, va13, va14, va15, vb0, vb1, vb2, vb3, w_i8, w_u8, w_i16, w_u16, w_i32, w_u32, w_i64, w_u64, lt_T, lt_F, le_T, le_F, nlt_T, nlt_F, nle_T, nle_F, List.take_of_length_le, gB, gcW, gcR, posIn, renA, renL, Chunk.ren, Chunk.refs, evOpD, touchD, stepC, isFresh, nFresh, freshOf, mkR, hole, evL, evH, opd, get, putD, ofVal, cellOf, loadE, behind, lenE, idxAddrE, idxE, addPtr, intE, strE, unE, convE, AV.int, AV.bool, AV.str, ivs, take, frameOf, firstRegion, refsA, refsL, one, cellsA, floatOk, apartT, List.map, if_true, if_false, E_P, E_glob0, reduceCtorEq, beq_self_eq_true, decide_true, decide_false, ↓reduceIte, Nat.reduceEqDiff, cond_true, cond_false, or_true, true_or, or_false, false_or, and_true, true_and, and_self, false_and, and_false, not_true, not_false_iff, Nat.reduceAdd, Nat.reduceSub, Nat.reduceMul, Nat.reduceLT, Nat.reduceLeDiff, Int.reduceToNat, Int.reduceLT, Int.reduceLE, Option.getD, Int.reduceMul, Int.reduceAdd, List.drop, List.take, Nat.reduceBEq, List.isEmpty, Int.reduceEq, Int.reduceNe, Int.reduceNeg, Int.reduceGT, Int.reduceGE, beq_true, beq_false, UInt8.reduceToNat, eqE, eq_self, foldE, maxE, minE, eq_T, eq_F, ndec, odec, adec, sdec, fillA, over, chop, List.replicate, leavesOk, leafOk, cellsEq, cellEq, E_byref, en53, bs29, hb, h1, h3, rows64_len, show ∀ B fr H, execT E B 53 (Code.loop _) fr H = rlM E B 53 (loopAt Tryd.f53 0) [0, 6, 7, 8, 9, 10] [] (matF [] fr H).1 (matB [(7, 0, 1)] (matF [] fr H).1 (matF [] fr H).2) from fun B fr H => rl_introM rfl mt53_7 mb53_7 zf53_7 hd53_7 fr H]
          exact ⟨_, rfl, rfl, rfl, rfl, rfl, rfl, rfl⟩
        · have h4 : 57 < (b.toNat : Int) := by omega
          simp (disch := first | omega | (simp only [List.length_append, List.length_map, List.length_set, List.length_cons, List.length_nil, List.length_take, List.length_drop, rows64_len]; omega)) only [va0, va1, va2, va3, va4, va5, va6, va7, va8, va9, va10, va11, va12, va13, va14, va15, vb0, vb1, vb2, vb3, w_i8, w_u8, w_i16, w_u16, w_i32, w_u32, w_i64, w_u64, lt_T, lt_F, le_T, le_F, nlt_T, nlt_F, nle_T, nle_F, List.take_of_length_le, gB, gcW, gcR, posIn, renA, renL, Chunk.ren, Chunk.refs, evOpD, touchD, stepC, isFresh, nFresh, freshOf, mkR, hole, evL, evH, opd, get, putD, ofVal, cellOf, loadE, behind, lenE, idxAddrE, idxE, addPtr, intE, strE, unE, convE, AV.int, AV.bool, AV.str, ivs, take, frameOf, firstRegion, refsA, refsL, one, cellsA, floatOk, apartT, List.map, if_true, if_false, E_P, E_glob0, reduceCtorEq, beq_self_eq_true, decide_true, decide_false, ↓reduceIte, Nat.reduceEqDiff, cond_true, cond_false, or_true, true_or, or_false, false_or, and_true, true_and, and_self, false_and, and_false, not_true, not_false_iff, Nat.reduceAdd, Nat.reduceSub, Nat.reduceMul, Nat.reduceLT, Nat.reduceLeDiff, Int.reduceToNat, Int.reduceLT, Int.reduceLE, Option.getD, Int.reduceMul, Int.reduceAdd, List.drop, List.take, Nat.reduceBEq, List.isEmpty, Int.reduceEq, Int.reduceNe, Int.reduceNeg, Int.reduceGT, Int.reduceGE, beq_true, beq_false, UInt8.reduceToNat, eqE, eq_self, foldE, maxE, minE, eq_T, eq_F, ndec, odec, adec, sdec, fillA, over, chop, List.replicate, leavesOk, leafOk, cellsEq, cellEq, E_byref, en53, bs29, hb, h1, h3, h4, rows64_len, show ∀ B fr H, execT E B 53 (Code.loop _) fr H = rlM E B 53 (loopAt Tryd.f53 0) [0, 6, 7, 8, 9, 10] [] (matF [] fr H).1 (matB [(7, 0, 1)] (matF [] fr H).1 (matF [] fr H).2) from fun B fr H => rl_introM rfl mt53_7 mb53_7 zf53_7 hd53_7 fr H]
          exact ⟨_, rfl, rfl, rfl, rfl, rfl, rfl, rfl⟩
      · have hst : stepP l n s[k].toNat = some (l, min (10 * max n 0 + (s[k].toNat - 48)) 10000) := by
          rw [stepP, if_neg h1, if_neg (by omega), if_neg (by omega)]
        obtain ⟨fr, e, f⟩ := l53 s hs _ ⟨mx, rfl⟩ (k + 1) hlt l (min (10 * max n 0 + (s[k].toNat - 48)) 10000) (by omega) (by omega)
        simp only [hst]
        refine ⟨fr, Eq.trans ?_ e, f⟩
        clear e f hst hlen
        generalize s[k] = b at *
        simp (disch := first | omega | (simp only [List.length_append, List.length_map, List.length_set, List.length_cons, List.length_nil, List.length_take, List.length_drop, rows64_len]; omega)) only [va0, va1, va2, va3, va4, va5, va6, va7, va8, va9, va10, va11, va12, va13, va14, va15, vb0, vb1, vb2, vb3, w_i8, w_u8, w_i16, w_u16, w_i32, w_u32, w_i64, w_u64, lt_T, lt_F, le_T, le_F, nlt_T, nlt_F, nle_T, nle_F, List.take_of_length_le, gB, gcW, gcR, posIn, renA, renL, Chunk.ren, Chunk.refs, evOpD, touchD, stepC, isFresh, nFresh, freshOf, mkR, hole, evL, evH, opd, get, putD, ofVal, cellOf, loadE, behind, lenE, idxAddrE, idxE, addPtr, intE, strE, unE, convE, AV.int, AV.bool, AV.str, ivs, take, frameOf, firstRegion, refsA, refsL, one, cellsA, floatOk, apartT, List.map, if_true, if_false, E_P, E_glob0, reduceCtorEq, beq_self_eq_true, decide_true, decide_false, ↓reduceIte, Nat.reduceEqDiff, cond_true, cond_false, or_true, true_or, or_false, false_or, and_true, true_and, and_self, false_and, and_false, not_true, not_false_iff, Nat.reduceAdd, Nat.reduceSub, Nat.reduceMul, Nat.reduceLT, Nat.reduceLeDiff, Int.reduceToNat, Int.reduceLT, Int.reduceLE, Option.getD, Int.reduceMul, Int.reduceAdd, List.drop, List.take, Nat.reduceBEq, List.isEmpty, Int.reduceEq, Int.reduceNe, Int.reduceNeg, Int.reduceGT, Int.reduceGE, beq_true, beq_false, UInt8.reduceToNat, eqE, eq_self, foldE, maxE, minE, eq_T, eq_F, ndec, odec, adec, sdec, fillA, over, chop, List.replicate, leavesOk, leafOk, cellsEq, cellEq, E_byref, en53, bs29, hb, h1, rows64_len, show ∀ B fr H, execT E B 53 (Code.loop _) fr H = rlM E B 53 (loopAt Tryd.f53 0) [0, 6, 7, 8, 9, 10] [] (matF [] fr H).1 (matB [(7, 0, 1)] (matF [] fr H).1 (matF [] fr H).2) from fun B fr H => rl_introM rfl mt53_7 mb53_7 zf53_7 hd53_7 fr H]
  · obtain rfl : k = s.length := by omega
    rw [List.drop_length, runP]
    simp (disch := first | omega | (simp only [List.length_append, List.length_map, List.length_set, List.length_cons, List.length_nil, List.length_take, List.length_drop]; omega)) only [va0, va1, va2, va3, va4, va5, va6, va7, va8, va9, va10, va11, va12, va13, va14, va15, vb0, vb1, vb2, vb3, w_i8, w_u8, w_i16, w_u16, w_i32, w_u32, w_i64, w_u64, lt_T, lt_F, le_T, le_F, nlt_T, nlt_F, nle_T, nle_F, List.take_of_length_le, gB, gcW, gcR, posIn, renA, renL, Chunk.ren, Chunk.refs, evOpD, touchD, stepC, isFresh, nFresh, freshOf, mkR, hole, evL, evH, opd, get, putD, ofVal, cellOf, loadE, behind, lenE, idxAddrE, idxE, addPtr, intE, strE, unE, convE, AV.int, AV.bool, AV.str, ivs, take, frameOf, firstRegion, refsA, refsL, one, cellsA, floatOk, apartT, List.map, if_true, if_false, E_P, E_glob0, reduceCtorEq, beq_self_eq_true, decide_true, decide_false, ↓reduceIte, Nat.reduceEqDiff, cond_true, cond_false, or_true, true_or, or_false, false_or, and_true, true_and, and_self, false_and, and_false, not_true, not_false_iff, Nat.reduceAdd, Nat.reduceSub, Nat.reduceMul, Nat.reduceLT, Nat.reduceLeDiff, Int.reduceToNat, Int.reduceLT, Int.reduceLE, Option.getD, Int.reduceMul, Int.reduceAdd, List.drop, List.take, Nat.reduceBEq, List.isEmpty, Int.reduceEq, Int.reduceNe, Int.reduceNeg, Int.reduceGT, Int.reduceGE, beq_true, beq_false, UInt8.reduceToNat, eqE, eq_self, foldE, maxE, minE, eq_T, eq_F, ndec, odec, adec, sdec, fillA, over, chop, List.replicate, leavesOk, leafOk, cellsEq, cellEq, E_byref, en53, bs29]
    exact ⟨_, rfl, rfl, rfl, rfl, rfl, by simp [get], rfl⟩
termination_by s.length - k
def markP (s : List UInt8) : Int × List UInt8 := match s with
  | [] => (0, [])
  | b :: r => if privB b.toNat then (b.toNat, r) else (0, b :: r)
def parR (t : List UInt8) : List Int × List UInt8 :=
  (if (runP t [] (-1)).2.2.length < t.length then (runP t [] (-1)).1 ++ [(runP t [] (-1)).2.1] else (runP t [] (-1)).1, (runP t [] (-1)).2.2)
def parseS (s : List UInt8) : Int × List Int × List UInt8 × Int :=
  if trailB (parR (markP s).2).2 = false then (0, [], [], 3) else if limB (parR (markP s).2).1 (parR (markP s).2).2 = false then (0, [], [], 5) else ((markP s).1, (parR (markP s).2).1, (parR (markP s).2).2, 0)
def parseA (p : Int × List Int × List UInt8 × Int) : AV := .tup [.i (.v (.int .u8 p.1)), .i (.sl 1 (rows64 p.2.1) false), .i (.str p.2.2.1), .i (.v (.int .i64 p.2.2.2))]
theorem runP_suf : ∀ (t : List UInt8) (l : List Int) (n : Int), ∃ k, k ≤ t.length ∧ (runP t l n).2.2 = t.drop k ∧ (runP t l n).2.2.length = t.length - k
  | [], l, n => ⟨0, by simp [runP]⟩
  | b :: r, l, n => by
    simp only [runP]
    cases h : stepP l n b.toNat with
    | none => exact ⟨0, by simp⟩
    | some p =>
      obtain ⟨k, h1, h2, h3⟩ := runP_suf r p.1 p.2
      exact ⟨k + 1, by simpa using h1, by simpa using h2, by simpa using h3⟩
theorem c53 (s : List UInt8) (hs : (s.length : Int) < 50000) : ∃ L, callT E 53 [.i (.str s)] [] = some (parseA (parseS s), L) := by
  have main : ∀ (t : List UInt8) (m : Int), t.length < 50000 → ∃ fr, rl E 0 53 (loopAt Tryd.f53 0) [(0, .i (.str t)), (6, .i (.v (.int .u8 m))), (7, .ptr 0 0 0 0), (8, .ptr 2 0 0 0), (9, .i (.v (.int .i64 0))), (10, .clo (.func 61) [] [.ptr 0 0 0 0, .ptr 2 0 0 0])]
      [.box [.ref 1 0 0 0], .sl 1 0 [] false, .box [.i (.v (.int .i64 (-1)))]] = _ ∧ _ := fun t m h => l53 t h (.i (.v (.int .u8 m))) ⟨_, rfl⟩ 0 (Nat.zero_le _) [] (-1) (by simp) (by omega)
  have hp : ∃ m t, markP s = (m, t) ∧ t.length < 50000 ∧ (s = [] ∧ m = 0 ∧ t = [] ∨ ∃ b r, s = b :: r ∧ (privB b.toNat = true ∧ m = b.toNat ∧ t = r ∨ privB b.toNat = false ∧ m = 0 ∧ t = b :: r)) := by
    cases s with
    | nil => exact ⟨0, [], rfl, by simp, .inl ⟨rfl, rfl, rfl⟩⟩
    | cons b r =>
      simp only [List.length_cons] at hs
      by_cases h : privB b.toNat = true
      · exact ⟨b.toNat, r, by simp [markP, h], by omega, .inr ⟨b, r, rfl, .inl ⟨h, rfl, rfl⟩⟩⟩
      · exact ⟨0, b :: r, by simp [markP, h], by simp only [List.length_cons]; omega, .inr ⟨b, r, rfl, .inr ⟨by simpa using h, rfl, rfl⟩⟩⟩
  obtain ⟨m, t, hm, ht, hcase⟩ := hp
  obtain ⟨fr, e, f0, f6, f7, f8, f9, f10⟩ := main t m ht
  rw [List.drop_zero] at e f9
  obtain ⟨k, k1, k2, k3⟩ := runP_suf t [] (-1)
  obtain ⟨n1, n2⟩ := runP_len t [] (-1)
  unfold parseS
  rw [hm]
  simp only [parR]
  generalize (runP t [] (-1)).1 = l at *
  generalize (runP t [] (-1)).2.1 = n at *
  generalize hr : (runP t [] (-1)).2.2 = rest at *
  have hrl : (rest.length : Int) = t.length - k := by omega
  have hfin : t.drop k = rest := k2.symm
  simp only [List.length_nil, Nat.zero_add] at n1
  rw [show ((t.length : Int) - rest.length) = k by omega] at f9
  have hik := ik61 l n (by omega)
  have hcond : (rest.length < t.length) ↔ 0 < (k : Int) := by omega
  simp only [hcond]
  clear hm main n2 k2 k3 hr hcond
  have hl1 := rows64_len l
  rcases hcase with ⟨rfl, rfl, rfl⟩ | ⟨b, r, rfl, ⟨hb, rfl, rfl⟩ | ⟨hb, rfl, rfl⟩⟩
  · obtain rfl : k = 0 := by simpa using k1
    obtain rfl : l = [] := by simpa using n1
    subst hfin
    have ht : trailB [] = true := rfl
    have hlm : limB [] [] = true := rfl
    simp only [List.drop_zero, List.drop_nil, ht, hlm, Int.natCast_zero, Int.lt_irrefl, if_false, reduceCtorEq]
    simp only [Int.natCast_zero] at f9
    rw [callT_eq Tryd.func53 rfl fok53 (by simp [Tryd.ntmps53])]
    have hik2 := fun H => ik41 [] [] (by simp) (by simp) H
    simp only [show rows64 [] = [] from rfl] at hik2 e
    simp (disch := first | omega | (simp only [List.length_append, List.length_map, List.length_set, List.length_cons, List.length_nil, List.length_take, List.length_drop, rows64_len]; omega)) only [va0, va1, va2, va3, va4, va5, va6, va7, va8, va9, va10, va11, va12, va13, va14, va15, vb0, vb1, vb2, vb3, w_i8, w_u8, w_i16, w_u16, w_i32, w_u32, w_i64, w_u64, lt_T, lt_F, le_T, le_F, nlt_T, nlt_F, nle_T, nle_F, List.take_of_length_le, gB, gcW, gcR, posIn, renA, renL, Chunk.ren, Chunk.refs, evOpD, touchD, stepC, isFresh, nFresh, freshOf, mkR, hole, evL, evH, opd, get, putD, ofVal, cellOf, loadE, behind, lenE, idxAddrE, idxE, addPtr, intE, strE, unE, convE, AV.int, AV.bool, AV.str, ivs, take, frameOf, firstRegion, refsA, refsL, one, cellsA, floatOk, apartT, List.map, if_true, if_false, E_P, E_glob0, reduceCtorEq, beq_self_eq_true, decide_true, decide_false, ↓reduceIte, Nat.reduceEqDiff, cond_true, cond_false, or_true, true_or, or_false, false_or, and_true, true_and, and_self, false_and, and_false, not_true, not_false_iff, Nat.reduceAdd, Nat.reduceSub, Nat.reduceMul, Nat.reduceLT, Nat.reduceLeDiff, Int.reduceToNat, Int.reduceLT, Int.reduceLE, Option.getD, Int.reduceMul, Int.reduceAdd, List.drop, List.take, Nat.reduceBEq, List.isEmpty, Int.reduceEq, Int.reduceNe, Int.reduceNeg, Int.reduceGT, Int.reduceGE, beq_true, beq_false, UInt8.reduceToNat, eqE, eq_self, foldE, maxE, minE, eq_T, eq_F, ndec, odec, adec, sdec, fillA, over, chop, List.replicate, leavesOk, leafOk, cellsEq, cellEq, E_byref, en53, bs29, e, f0, f6, f7, f8, f9, f10, hik, ht, hlm, hik2, ik38, rows64_len, List.take_nil, List.drop_nil, show ∀ B fr H, execT E B 53 (Code.loop _) fr H = rlM E B 53 (loopAt Tryd.f53 0) [0, 6, 7, 8, 9, 10] [] (matF [] fr H).1 (matB [(7, 0, 1)] (matF [] fr H).1 (matF [] fr H).2) from fun B fr H => rl_introM rfl mt53_7 mb53_7 zf53_7 hd53_7 fr H]
    exact ⟨_, rfl⟩
  · have hcl : ((b :: t).length : Int) = (t.length : Int) + 1 := rfl 
    (try simp only [List.length_cons] at ht k1 n1 hrl) 
    rw [callT_eq Tryd.func53 rfl fok53 (by simp [Tryd.ntmps53])] 
    by_cases hk : 0 < (k : Int) 
    all_goals (first | rw [if_pos hk] | rw [if_neg hk]) 
    all_goals cases htr : trailB rest 
    all_goals simp only [if_true, if_false, reduceCtorEq] 
    all_goals cases hlm : limB (l ++ [n]) rest <;> cases hlm2 : limB l rest 
    all_goals simp (disch := first | omega | (simp only [List.length_append, List.length_map, List.length_set, List.length_cons, List.length_nil, List.length_take, List.length_drop, rows64_len]; omega)) only [va0, va1, va2, va3, va4, va5, va6, va7, va8, va9, va10, va11, va12, va13, va14, va15, vb0, vb1, vb2, vb3, w_i8, w_u8, w_i16, w_u16, w_i32, w_u32, w_i64, w_u64, lt_T, lt_F, le_T, le_F, nlt_T, nlt_F, nle_T, nle_F, List.take_of_length_le, gB, gcW, gcR, posIn, renA, renL, Chunk.ren, Chunk.refs, evOpD, touchD, stepC, isFresh, nFresh, freshOf, mkR, hole, evL, evH, opd, get, putD, ofVal, cellOf, loadE, behind, lenE, idxAddrE, idxE, addPtr, intE, strE, unE, convE, AV.int, AV.bool, AV.str, ivs, take, frameOf, firstRegion, refsA, refsL, one, cellsA, floatOk, apartT, List.map, if_true, if_false, E_P, E_glob0, reduceCtorEq, beq_self_eq_true, decide_true, decide_false, ↓reduceIte, Nat.reduceEqDiff, cond_true, cond_false, or_true, true_or, or_false, false_or, and_true, true_and, and_self, false_and, and_false, not_true, not_false_iff, Nat.reduceAdd, Nat.reduceSub, Nat.reduceMul, Nat.reduceLT, Nat.reduceLeDiff, Int.reduceToNat, Int.reduceLT, Int.reduceLE, Option.getD, Int.reduceMul, Int.reduceAdd, List.drop, List.take, Nat.reduceBEq, List.isEmpty, Int.reduceEq, Int.reduceNe, Int.reduceNeg, Int.reduceGT, Int.reduceGE, beq_true, beq_false, UInt8.reduceToNat, eqE, eq_self, foldE, maxE, minE, eq_T, eq_F, ndec, odec, adec, sdec, fillA, over, chop, List.replicate, leavesOk, leafOk, cellsEq, cellEq, E_byref, en53, bs29, hcl, e, f0, f6, f7, f8, f9, f10, hik, hb, hk, hfin, hlm, hlm2, ik37, ik38, ik41, htr, rows64_len, List.length_append, List.take_of_length_le, List.length_cons, show ∀ B fr H, execT E B 53 (Code.loop _) fr H = rlM E B 53 (loopAt Tryd.f53 0) [0, 6, 7, 8, 9, 10] [] (matF [] fr H).1 (matB [(7, 0, 1)] (matF [] fr H).1 (matF [] fr H).2) from fun B fr H => rl_introM rfl mt53_7 mb53_7 zf53_7 hd53_7 fr H] 
    all_goals exact ⟨_, rfl⟩
  · have hcl : ((b :: r).length : Int) = (r.length : Int) + 1 := rfl 
    (try simp only [List.length_cons] at ht k1 n1 hrl) 
    rw [callT_eq Tryd.func53 rfl fok53 (by simp [Tryd.ntmps53])] 
    by_cases hk : 0 < (k : Int) 
    all_goals (first | rw [if_pos hk] | rw [if_neg hk]) 
    all_goals cases htr : trailB rest 
    all_goals simp only [if_true, if_false, reduceCtorEq] 
    all_goals cases hlm : limB (l ++ [n]) rest <;> cases hlm2 : limB l rest 
    all_goals simp (disch := first | omega | (simp only [List.length_append, List.length_map, List.length_set, List.length_cons, List.length_nil, List.length_take, List.length_drop, rows64_len]; omega)) only [va0, va1, va2, va3, va4, va5, va6, va7, va8, va9, va10, va11, va12, va13, va14, va15, vb0, vb1, vb2, vb3, w_i8, w_u8, w_i16, w_u16, w_i32, w_u32, w_i64, w_u64, lt_T, lt_F, le_T, le_F, nlt_T, nlt_F, nle_T, nle_F, List.take_of_length_le, gB, gcW, gcR, posIn, renA, renL, Chunk.ren, Chunk.refs, evOpD, touchD, stepC, isFresh, nFresh, freshOf, mkR, hole, evL, evH, opd, get, putD, ofVal, cellOf, loadE, behind, lenE, idxAddrE, idxE, addPtr, intE, strE, unE, convE, AV.int, AV.bool, AV.str, ivs, take, frameOf, firstRegion, refsA, refsL, one, cellsA, floatOk, apartT, List.map, if_true, if_false, E_P, E_glob0, reduceCtorEq, beq_self_eq_true, decide_true, decide_false, ↓reduceIte, Nat.reduceEqDiff, cond_true, cond_false, or_true, true_or, or_false, false_or, and_true, true_and, and_self, false_and, and_false, not_true, not_false_iff, Nat.reduceAdd, Nat.reduceSub, Nat.reduceMul, Nat.reduceLT, Nat.reduceLeDiff, Int.reduceToNat, Int.reduceLT, Int.reduceLE, Option.getD, Int.reduceMul, Int.reduceAdd, List.drop, List.take, Nat.reduceBEq, List.isEmpty, Int.reduceEq, Int.reduceNe, Int.reduceNeg, Int.reduceGT, Int.reduceGE, beq_true, beq_false, UInt8.reduceToNat, eqE, eq_self, foldE, maxE, minE, eq_T, eq_F, ndec, odec, adec, sdec, fillA, over, chop, List.replicate, leavesOk, leafOk, cellsEq, cellEq, E_byref, en53, bs29, hcl, e, f0, f6, f7, f8, f9, f10, hik, hb, hk, hfin, hlm, hlm2, ik37, ik38, ik41, htr, rows64_len, List.length_append, List.take_of_length_le, List.length_cons, show ∀ B fr H, execT E B 53 (Code.loop _) fr H = rlM E B 53 (loopAt Tryd.f53 0) [0, 6, 7, 8, 9, 10] [] (matF [] fr H).1 (matB [(7, 0, 1)] (matF [] fr H).1 (matF [] fr H).2) from fun B fr H => rl_introM rfl mt53_7 mb53_7 zf53_7 hd53_7 fr H] 
    all_goals exact ⟨_, rfl⟩
theorem ik53 (s : List UInt8) (hs : (s.length : Int) < 50000) (H : Hp) : isoK E (callT E) 53 [.i (.str s)] H = some (parseA (parseS s), H) := isoK_val rfl rfl rfl (c53 s hs)
end Go.VI

