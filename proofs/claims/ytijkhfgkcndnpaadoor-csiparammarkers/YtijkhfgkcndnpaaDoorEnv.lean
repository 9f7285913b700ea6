/- VI: the environment of this seat: which slots live behind each region, and closed facts on the types. Printed by program. -/
import Derived.Test.YtijkhfgkcndnpaaDoorProg
import Derived.Test.YtijkhfgkcndnpaaDoorVC
import Derived.KernelRfl
set_option linter.unusedVariables false
set_option linter.defProp false
namespace Go.VI
open Go.Proofs
def keepT : List (Nat × List (Nat × List Nat)) := [
  (2, [(0, [])]),
  (3, [(0, [0]), (1, [0, 13]), (2, [2]), (3, [0, 3, 4, 5, 6]), (4, [3, 4, 5, 6, 7, 8, 9, 10]), (5, [2])]),
  (4, [(0, [0, 1, 2]), (1, [0, 1, 2, 20]), (2, [6]), (3, [0, 1, 2, 7, 8]), (4, [0, 1, 2, 7, 30]), (5, [6]), (6, [0, 1, 2, 9, 10, 11, 12]), (7, [6])]),
  (5, [(0, [0]), (1, [0, 15]), (2, [2]), (3, [0, 3, 4, 5, 6]), (4, [0, 3, 4, 5, 25]), (5, [2]), (6, [0, 3, 4, 5, 7, 8]), (7, [0, 3, 4, 5, 7, 8, 9, 10, 11, 12]), (8, [2])]),
  (6, [(0, [0, 1, 2]), (1, [0, 1, 2, 21]), (2, [6]), (3, [0, 1, 2, 7, 8, 9, 10]), (4, [0, 1, 2, 11]), (5, [0, 1, 2, 11, 58]), (6, [6]), (7, [11, 12, 13, 14, 15]), (8, [6])]),
  (7, [(0, [0, 1, 2]), (1, [0, 1, 2, 19]), (2, [6]), (3, [0, 1, 2, 7, 8]), (4, [1, 7, 8, 9, 10]), (5, [1, 7, 8, 9, 10, 11]), (6, [1, 7, 8, 9, 10, 11, 38]), (7, [1, 7, 8, 9, 10, 11]), (8, [1, 7, 8, 9, 10, 11, 47]), (9, [6]), (10, [6])]),
  (8, [(0, [0, 1, 2]), (1, [0, 1, 2, 10]), (2, [6]), (3, [0, 1, 2, 7]), (4, [0, 1, 2, 7, 30]), (5, [6]), (6, [6])]),
  (9, [(0, [0, 1]), (1, [0, 1, 40]), (2, [4]), (3, [0, 1, 6, 8]), (4, [0, 1, 6, 8, 10, 12]), (5, [0, 1, 6, 8, 10, 12, 57]), (6, [0, 1, 6, 8, 10, 12]), (7, [0, 1, 6, 8, 10, 12, 60]), (8, [0, 1, 6, 8, 10, 12]), (9, [6, 8, 10, 12, 14, 16]), (10, [6, 10, 14, 16, 85]), (11, [4]), (12, [4])]),
  (10, [(0, [0, 1, 2]), (1, [0, 1, 2, 28]), (2, [6]), (3, [0, 1, 2, 8, 10]), (4, [0, 2, 8, 10, 11]), (5, [0, 8, 10, 11, 12]), (6, [8, 10, 11, 12, 13, 14, 15, 16]), (7, [8, 10, 11, 12, 13, 14, 15, 16, 59]), (8, [6]), (9, [6])]),
  (11, [(0, []), (1, [1, 2, 3, 4]), (2, [1, 2, 3, 4, 5, 6]), (3, [0])]),
  (12, [(0, [0]), (1, [0, 6]), (2, [0, 6, 19]), (3, [0, 6]), (4, [0, 6, 7]), (5, [0, 6, 7, 8, 9]), (6, [0, 6, 7, 8, 9, 10]), (7, [0, 6, 7, 8, 9, 10, 28]), (8, [0, 6, 7, 8, 9, 10]), (9, [0, 6, 7, 8, 9, 10, 11]), (10, [0, 6, 7, 8, 9, 10, 11, 35]), (11, [0, 6, 7, 8, 9, 10]), (12, [0, 6, 7, 8, 9, 10, 11, 43]), (13, [0, 6, 7, 8, 9, 10]), (14, [0, 6, 7, 9, 10, 53]), (15, [0, 6, 7, 9]), (16, [6, 7, 12]), (17, [2, 3, 4, 5]), (18, [6, 7, 12, 62]), (19, [2, 3, 4, 5]), (20, [6, 7, 12, 66]), (21, [2, 3, 4, 5])]),
  (13, [(0, [0]), (1, [0, 6]), (2, [0, 6, 7]), (3, [0, 6, 7, 23]), (4, [0, 6]), (5, [0, 6, 7]), (6, [0, 6, 7, 8]), (7, [0, 6, 7, 8, 48]), (8, [0, 6, 7, 8]), (9, [6, 9, 10]), (10, [6, 9, 10, 11]), (11, [6, 9, 10, 11, 61]), (12, [6, 9, 10, 11]), (13, [6, 9, 10, 11, 68]), (14, [2, 3, 4, 5]), (15, [6, 9, 10, 12]), (16, [6, 9, 10, 12, 13]), (17, [6, 9, 10, 12, 13, 72]), (18, [6, 9, 10, 12, 13]), (19, [6, 9, 10, 12, 13, 14]), (20, [6, 9, 10, 12, 13, 14, 79]), (21, [6, 9, 10, 12, 13, 14]), (22, [6, 9, 10, 12, 13, 14, 85]), (23, [6, 9, 10, 12, 13, 14]), (24, [6, 9, 10, 12, 13, 14, 15]), (25, [6, 9, 10, 12, 13, 14, 15, 96]), (26, [6, 9, 10, 12, 13, 14, 15]), (27, [6, 9, 10, 12, 13, 14, 15]), (28, [6, 9, 10, 12, 13, 14, 15, 106]), (29, [6, 9, 10, 12, 13, 14]), (30, [6, 9, 10, 12, 13, 14, 15]), (31, [6, 9, 10, 12, 13, 14]), (32, [6, 10, 12, 123]), (33, [2, 3, 4, 5]), (34, [2, 3, 4, 5])]),
  (14, [(0, [0, 1]), (1, [0, 1, 10]), (2, [4]), (3, [0, 1, 5]), (4, [0, 1, 5, 14]), (5, [0, 1, 5]), (6, [0, 1, 5, 25]), (7, [4]), (8, [4])]),
  (15, [(0, [0, 1, 2]), (1, [0, 1, 2, 11]), (2, [0, 1, 2, 11]), (3, [0, 1, 2, 11]), (4, [6, 7]), (5, [0, 1, 2, 31]), (6, [6, 7]), (7, [0, 1, 2, 34]), (8, [6, 7]), (9, [0, 1, 2, 8]), (10, [0, 1, 2, 8, 40]), (11, [1, 2, 8]), (12, [2, 8, 45, 46, 47]), (13, [2, 8, 45, 46, 47, 48]), (14, [2, 8, 9, 10, 45, 46, 47]), (15, [2, 8, 10, 45, 46, 47, 53]), (16, [2, 8, 10, 45, 46, 47]), (17, [2, 8, 10, 45, 46, 47, 58]), (18, [2, 8, 45, 46, 47]), (19, [2, 8, 45, 46, 47]), (20, [6, 7])]),
  (16, [(0, [0, 1, 2]), (1, [0, 1, 2, 29]), (2, [6, 7]), (3, [0, 1, 2, 8]), (4, [0, 1, 2, 8, 33]), (5, [0, 1, 2, 8]), (6, [0, 1, 2, 8, 40]), (7, [6, 7]), (8, [0, 1, 2, 9]), (9, [0, 1, 2, 9, 44]), (10, [0, 1, 2, 9]), (11, [0, 1, 2, 9, 51]), (12, [6, 7]), (13, [0, 1, 2, 10]), (14, [0, 1, 2, 10, 53]), (15, [1, 2, 10]), (16, [1, 2, 10, 11]), (17, [1, 2, 10, 11, 60]), (18, [1, 2, 10, 11]), (19, [1, 2, 10, 11, 67]), (20, [6, 7]), (21, [1, 2, 10, 11, 69]), (22, [1, 2, 10, 11]), (23, [1, 2, 10, 11, 76]), (24, [1, 2, 10, 11]), (25, [2, 10, 91]), (26, [6, 7]), (27, [6, 7])]),
  (17, [(0, [0, 1, 2]), (1, [0, 1, 2, 21]), (2, [6]), (3, [6])]),
  (18, [(0, [0, 1, 2]), (1, [0, 1, 2, 21]), (2, [6]), (3, [6])]),
  (19, [(0, [0]), (1, [2])]),
  (20, [(0, [0]), (1, [2])]),
  (21, [(0, [1]), (1, [])]),
  (22, [(0, [0]), (1, [2])]),
  (23, [(0, [0, 1]), (1, [4])]),
  (24, [(0, [0]), (1, [2])]),
  (25, [(0, [0]), (1, [2])]),
  (26, [(0, [0, 1]), (1, [4])]),
  (27, [(0, [0]), (1, [2])]),
  (28, [(0, [0, 1, 2]), (1, [6])]),
  (29, [(0, [0]), (1, [0, 3]), (2, [0, 3, 5]), (3, [0, 3]), (4, [0, 3]), (5, [2])]),
  (30, [(0, [0, 1]), (1, [0, 1, 12]), (2, [4]), (3, [0, 1, 21]), (4, [4]), (5, [0, 1, 5, 6]), (6, [0, 1, 5, 34]), (7, [4]), (8, [4])]),
  (31, [(0, [0, 1]), (1, [4])]),
  (32, [(0, [0]), (1, [2])]),
  (33, [(0, [0]), (1, [2])]),
  (34, [(0, [0, 1]), (1, [0, 1, 7, 8]), (2, [0, 1, 7, 8, 9]), (3, [0, 1, 5, 7, 8]), (4, [0, 1, 5, 7, 8, 16]), (5, [4]), (6, [0, 1, 7, 8]), (7, [4])]),
  (35, [(0, [0, 1, 2]), (1, [0, 1, 2, 7]), (2, [0, 2, 7, 11]), (3, [0, 2, 7]), (4, [0, 2, 7]), (5, [6])]),
  (36, [(0, [0, 1]), (1, [0, 1, 13]), (2, [0, 1]), (3, [4])]),
  (37, [(0, [0, 1]), (1, [0, 1, 16]), (2, [0, 1]), (3, [4])]),
  (38, [(0, [0, 2]), (1, [0, 2, 4]), (2, [0, 2, 4, 9]), (3, [0, 2, 4]), (4, [0, 2, 4, 5]), (5, [0, 2, 4, 5, 16]), (6, [2, 3]), (7, [0, 2, 4]), (8, [2, 3])]),
  (39, [(0, [0, 1]), (1, [0, 1, 7]), (2, [0, 1, 12]), (3, [0, 1]), (4, [4])]),
  (40, [(0, [0, 1]), (1, [0, 1, 7]), (2, [0, 1, 15]), (3, [0, 1]), (4, [4])]),
  (41, [(0, [0, 1]), (1, [0, 1, 9]), (2, [0, 1, 5, 6]), (3, [0, 1, 6, 18]), (4, [0, 1]), (5, [4])]),
  (42, [(0, [0, 1]), (1, [0, 1, 9]), (2, [0, 1, 5, 6]), (3, [0, 1, 5, 6, 17]), (4, [0, 1, 5, 6]), (5, [0, 1, 6, 26]), (6, [0, 1]), (7, [4])]),
  (43, [(0, [0, 1]), (1, [4])]),
  (44, [(0, [0, 1, 2]), (1, [0, 1, 2, 10]), (2, [0, 1, 12]), (3, [6]), (4, [0, 1, 7]), (5, [0, 1, 7, 8]), (6, [0, 7, 8]), (7, [6]), (8, [0]), (9, [6])]),
  (45, [(0, [0, 1]), (1, [4])]),
  (46, [(0, [0]), (1, [0, 10]), (2, [2, 3]), (3, [2, 3])]),
  (47, [(0, [0, 1]), (1, [4])]),
  (48, [(0, [0]), (1, [0, 4]), (2, [0, 4, 10]), (3, [2, 3]), (4, [0, 4, 5]), (5, [0, 2, 4, 5]), (6, [0, 2, 4, 5, 18]), (7, [2, 3]), (8, [0, 4, 5, 6]), (9, [0, 4, 5, 6]), (10, [0, 4, 5, 6, 27]), (11, [0, 4, 5, 6]), (12, [0, 4, 5, 6, 33]), (13, [0, 4, 5, 35]), (14, [0, 4, 5]), (15, [2, 3, 4, 5]), (16, [2, 3, 48]), (17, [2, 3]), (18, [2, 3])]),
  (49, [(0, [0, 1, 2]), (1, [1, 2, 10]), (2, [1, 2, 10, 11, 12]), (3, [1, 2, 7, 8, 10]), (4, [1, 2, 7, 10, 19]), (5, [6]), (6, [6])]),
  (50, [(0, [0]), (1, [0, 4]), (2, [2]), (3, [2])]),
  (51, [(0, [0]), (1, [0, 3]), (2, [2])]),
  (52, [(0, [0, 1, 4]), (1, [0, 1, 4, 20]), (2, [0, 1, 4, 5]), (3, [0, 1, 4, 5]), (4, [0, 1, 4, 6, 7]), (5, [0, 1, 4, 6, 8, 9]), (6, [0, 1, 4, 8, 9, 10, 11]), (7, [0, 1, 4, 8, 10, 11]), (8, [0, 1, 4, 10, 11]), (9, [0, 1, 4, 10]), (10, [0, 1, 4]), (11, [0, 1, 4]), (12, [0, 4, 12]), (13, [0, 4, 12, 99]), (14, [0, 4, 12, 13]), (15, [0, 4, 12, 13]), (16, [0, 4, 12, 14, 15]), (17, [0, 4, 12, 14]), (18, [0, 4, 12]), (19, [0, 4, 12]), (20, [0, 4, 12, 139]), (21, [0, 4, 12, 16]), (22, [0, 4, 12, 16]), (23, [0, 4, 12]), (24, [0, 4, 12]), (25, [0, 12, 161]), (26, [])]),
  (53, [(0, [0, 1, 2, 3, 4, 10, 11]), (1, [0, 1, 2, 3, 4, 10, 11, 28]), (2, [0, 1, 2, 3, 4, 10, 11]), (3, [0, 1, 2, 3, 4, 10, 11, 12]), (4, [0, 1, 2, 3, 4, 10, 11, 12, 13]), (5, [0, 1, 2, 3, 4, 10, 11, 12, 13, 30]), (6, [0, 1, 2, 3, 4, 10, 11, 12, 13]), (7, [0, 1, 2, 3, 4, 10, 11, 12, 13, 34]), (8, [0, 1, 2, 3, 4, 10, 11, 12, 13, 14]), (9, [0, 1, 2, 3, 4, 10, 11, 12, 13, 14, 15]), (10, [0, 1, 3, 4, 10, 11, 12, 13, 14, 15, 16]), (11, [0, 1, 3, 4, 10, 11, 12, 13, 14, 15, 16, 46]), (12, [0, 1, 3, 4, 10, 11, 12, 13, 14, 15, 16]), (13, [0, 1, 3, 4, 10, 11, 12, 13, 14, 15, 16]), (14, [0, 1, 3, 4, 10, 11, 12, 13, 14, 15, 16]), (15, [0, 1, 3, 4, 10, 11, 12, 13]), (16, [0, 3, 4, 10, 11, 12, 13]), (17, [0, 1, 3, 4, 10, 11, 12, 13, 17]), (18, [0, 1, 3, 4, 10, 11, 12, 13, 17, 68]), (19, [0, 1, 3, 4, 10, 11, 12, 13, 17]), (20, [0, 1, 3, 4, 10, 11, 12, 13, 17, 18]), (21, [0, 3, 4, 10, 11, 12, 13, 17, 18]), (22, [0, 1, 3, 4, 10, 11, 12, 13, 17]), (23, [0, 1, 3, 4, 10, 11, 12, 13]), (24, [0, 3, 4, 10, 11, 12, 13]), (25, [0, 4, 10, 11, 12, 13, 89]), (26, [0, 4, 10, 11, 12, 13]), (27, [0, 4, 10, 11, 12, 13]), (28, [0, 10, 11, 12, 13, 94]), (29, [10, 11]), (30, [10, 11])]),
  (54, [(0, [0]), (1, [0, 4]), (2, [0, 4, 16]), (3, [2, 3]), (4, [0, 4, 5]), (5, [0, 4, 5, 6]), (6, [0, 4, 5, 6, 23]), (7, [0, 7]), (8, [2, 3]), (9, [0, 4, 5, 6, 8]), (10, [0, 4, 5, 8, 9]), (11, [0, 5, 8, 9, 45]), (12, [2, 3]), (13, [0, 5, 8, 9, 10]), (14, [0, 5, 8, 10, 57]), (15, [2, 3]), (16, [0, 5, 8, 10, 59]), (17, [2, 3]), (18, [0, 5, 8, 10, 11]), (19, [0, 5, 8, 10, 11, 75]), (20, [2, 3]), (21, [0, 5, 10, 11, 77]), (22, [2, 3]), (23, [5, 10, 11, 12]), (24, [5, 10, 11, 12, 98]), (25, [2, 3]), (26, [2, 3])]),
  (55, [(0, [0, 1]), (1, [0, 7]), (2, [0, 7, 8]), (3, [0, 7, 8, 9]), (4, [0, 7, 8, 9]), (5, [0, 7, 8, 9, 26]), (6, [0, 7, 8, 9, 33]), (7, [0, 7, 8, 9, 11]), (8, [0, 7, 8, 9, 11, 43]), (9, [4]), (10, [0, 7, 8, 9]), (11, [0, 7, 8, 9, 12]), (12, [0, 7, 8, 9, 12, 51]), (13, [0, 7, 8, 9, 12]), (14, [0, 7, 8, 9, 12, 64]), (15, [4]), (16, [0, 7, 8, 9, 10]), (17, [0, 7, 8, 9, 10]), (18, [0, 7, 8, 9, 98]), (19, [4]), (20, [8, 9, 13]), (21, [8, 9, 13, 108]), (22, [4]), (23, [0, 7, 8, 9, 14]), (24, [0, 7, 8, 9, 14, 15]), (25, [0, 7, 8, 9, 14, 15, 124]), (26, [0, 7, 8, 9, 14, 15]), (27, [0, 7, 8, 9, 14, 15, 139]), (28, [0, 7, 8, 9, 14, 15, 16]), (29, [0, 7, 8, 9, 14, 15, 16, 143]), (30, [0, 7, 8, 9, 14, 15, 16]), (31, [0, 7, 8, 9, 14, 15, 16, 156]), (32, [4]), (33, [4]), (34, [0, 1, 160]), (35, [4]), (36, [0, 1, 171]), (37, [175]), (38, [175, 176, 177]), (39, [5, 6, 175]), (40, [5, 175, 181]), (41, [4]), (42, [4]), (43, [0, 1, 183]), (44, [4])]),
  (56, [(0, [0]), (1, [2])]),
  (57, [(0, [0]), (1, [2])]),
  (58, [(0, [0, 2]), (1, [0, 2, 4]), (2, [0]), (3, [0, 2]), (4, [0, 2, 8]), (5, [0, 2]), (6, [0, 2]), (7, [0, 2, 14]), (8, [0, 2]), (9, [0, 2]), (10, [2])]),
  (59, [(0, [0]), (1, [3]), (2, [2]), (3, [2])]),
  (60, [(0, [0]), (1, [2])]),
  (61, [(0, [0]), (1, [2]), (2, [2])]),
  (62, [(0, [0, 1]), (1, [4])]),
  (63, [(0, [0]), (1, [0, 3]), (2, [2]), (3, [10]), (4, [2]), (5, [2])]),
  (64, [(0, [0]), (1, [2])]),
  (66, [(0, [0]), (1, [0, 4]), (2, [2]), (3, [2])]),
  (67, [(0, [0]), (1, [0, 4]), (2, [2]), (3, [2])]),
  (68, [(0, [0, 1]), (1, [4])]),
  (93, [(0, []), (1, []), (2, []), (3, [])])]
def headT : List (Nat × List (Nat × List Nat)) := [
  (7, [(6, [1, 7, 8, 9, 10, 11])]),
  (12, [(7, [0, 6, 7, 8, 9, 10])]),
  (13, [(7, [0, 6, 7, 8]), (11, [6, 9, 10, 11]), (20, [6, 9, 10, 12, 13, 14])]),
  (14, [(4, [0, 1, 5])]),
  (15, [(13, [2, 8, 45, 46, 47])]),
  (16, [(4, [0, 1, 2, 8]), (9, [0, 1, 2, 9]), (17, [1, 2, 10, 11])]),
  (29, [(2, [0, 3])]),
  (34, [(2, [0, 1, 7, 8])]),
  (36, [(1, [0, 1])]),
  (37, [(1, [0, 1])]),
  (38, [(2, [0, 2, 4])]),
  (39, [(1, [0, 1])]),
  (40, [(1, [0, 1])]),
  (41, [(1, [0, 1])]),
  (42, [(1, [0, 1])]),
  (48, [(10, [0, 4, 5, 6])]),
  (49, [(2, [1, 2, 10])]),
  (52, [(1, [0, 1, 4])]),
  (53, [(11, [0, 1, 3, 4, 10, 11, 12, 13, 14, 15, 16]), (18, [0, 1, 3, 4, 10, 11, 12, 13, 17])]),
  (55, [(5, [0, 7, 8, 9]), (12, [0, 7, 8, 9, 12]), (25, [0, 7, 8, 9, 14, 15]), (29, [0, 7, 8, 9, 14, 15, 16]), (38, [175])])]
def lk2 (t : List (Nat × List (Nat × List Nat))) (f i : Nat) : List Nat := match t.lookup f with | some l => (l.lookup i).getD [] | none => []
def floT : List (Nat × List (Nat × List (Nat × Nat))) := [
  (12, [(3, []), (17, [])]),
  (13, [(9, [])]),
  (14, [(6, [])]),
  (30, [(4, [])]),
  (52, [(7, []), (8, []), (9, []), (10, []), (17, []), (18, []), (23, [])]),
  (55, [(6, []), (7, []), (14, []), (31, [])])]
def lkF (t : List (Nat × List (Nat × List (Nat × Nat)))) (f i : Nat) : List (Nat × Nat) := match t.lookup f with | some l => (l.lookup i).getD [] | none => []
def matT : List (Nat × List (Nat × List (Nat × Nat))) := [(13, [(20, [(12, 1)])]), (15, [(13, [(8, 1)])]), (53, [(11, [(0, 1)]), (18, [(0, 1)])])]
def matbT : List (Nat × List (Nat × List (Nat × Nat × Nat))) := [(12, [(7, [(7, 0, 1)])])]
def frzT : List (Nat × List (Nat × List (Nat × Nat))) := []
def lkG {α : Type} (t : List (Nat × List (Nat × List α))) (f i : Nat) : List α := match t.lookup f with | some l => (l.lookup i).getD [] | none => []
def kindT : List (Nat × List (Option Nat)) := [(23, [some 1]), (32, [some 1])]
def argkT : List (Nat × List (List (Option Nat))) := [(4, [[], [some 1]]), (7, [[], [some 1]]), (8, [[some 1]]), (14, [[some 1], [some 1]]), (15, [[], [some 1]]), (16, [[], [some 1]]), (17, [[some 1]]), (18, [[some 1]]), (23, [[some 1]]), (26, [[some 1]]), (28, [[some 1]]), (34, [[some 1]]), (35, [[some 1]]), (44, [[some 1]]), (52, [[some 1]]), (53, [[some 1]])]
def reskT : List (Nat × List (List (Option Nat))) := [(12, [[], [some 1]]), (13, [[], [some 1]]), (28, [[some 1]]), (35, [[some 1]]), (44, [[some 1]]), (53, [[some 1]])]
noncomputable def E : Env := { P := Tryd.prog, keep := lk2 keepT, head := lk2 headT, flo := lkF floT, hol := fun f i => false, glob := fun g => if g = 0 then some powT else none, byref := fun f => [28].contains f, ext := fun f => if f = 28 then some (extAppendInt Tryd.prog 32 9) else if f = 30 then some extTrim else none, kinds := fun t => (kindT.lookup t).getD [], argk := fun f => (argkT.lookup f).getD [], resk := fun f => (reskT.lookup f).getD [], own := fun f => false, mat := lkG matT, matb := lkG matbT, frz := lkG frzT }
theorem E_P : E.P = Tryd.prog := rfl
theorem E_globI (g : Nat) (cells : List IV) (h : E.glob g = some cells) : (g = 0 ∧ cells = powT) ∨ False := by
  have h2 : (if g = 0 then some powT else none) = some cells := h
  (repeat (split at h2)) <;> simp_all
theorem E_glob0 : E.glob 0 = some powT := rfl
theorem E_extI (f : Nat) (h : List AV → Hp → Option (AV × Hp)) (hf : E.ext f = some h) : (f = 28 ∧ h = (extAppendInt Tryd.prog 32 9)) ∨ (f = 30 ∧ h = extTrim) ∨ False := by
  have h2 : (if f = 28 then some (extAppendInt Tryd.prog 32 9) else if f = 30 then some extTrim else none) = some h := hf
  (repeat (split at h2)) <;> simp_all
theorem xn2 : E.ext 2 = none := rfl
theorem xn3 : E.ext 3 = none := rfl
theorem xn4 : E.ext 4 = none := rfl
theorem xn5 : E.ext 5 = none := rfl
theorem xn6 : E.ext 6 = none := rfl
theorem xn7 : E.ext 7 = none := rfl
theorem xn8 : E.ext 8 = none := rfl
theorem xn9 : E.ext 9 = none := rfl
theorem xn10 : E.ext 10 = none := rfl
theorem xn11 : E.ext 11 = none := rfl
theorem xn12 : E.ext 12 = none := rfl
theorem xn13 : E.ext 13 = none := rfl
theorem xn14 : E.ext 14 = none := rfl
theorem xn15 : E.ext 15 = none := rfl
theorem xn16 : E.ext 16 = none := rfl
theorem xn17 : E.ext 17 = none := rfl
theorem xn18 : E.ext 18 = none := rfl
theorem xn19 : E.ext 19 = none := rfl
theorem xn20 : E.ext 20 = none := rfl
theorem xn21 : E.ext 21 = none := rfl
theorem xn22 : E.ext 22 = none := rfl
theorem xn23 : E.ext 23 = none := rfl
theorem xn24 : E.ext 24 = none := rfl
theorem xn25 : E.ext 25 = none := rfl
theorem xn26 : E.ext 26 = none := rfl
theorem xn27 : E.ext 27 = none := rfl
theorem xk28 : E.ext 28 = some (extAppendInt Tryd.prog 32 9) := rfl
theorem xn29 : E.ext 29 = none := rfl
theorem xk30 : E.ext 30 = some extTrim := rfl
theorem xn31 : E.ext 31 = none := rfl
theorem xn32 : E.ext 32 = none := rfl
theorem xn33 : E.ext 33 = none := rfl
theorem xn34 : E.ext 34 = none := rfl
theorem xn35 : E.ext 35 = none := rfl
theorem xn36 : E.ext 36 = none := rfl
theorem xn37 : E.ext 37 = none := rfl
theorem xn38 : E.ext 38 = none := rfl
theorem xn39 : E.ext 39 = none := rfl
theorem xn40 : E.ext 40 = none := rfl
theorem xn41 : E.ext 41 = none := rfl
theorem xn42 : E.ext 42 = none := rfl
theorem xn43 : E.ext 43 = none := rfl
theorem xn44 : E.ext 44 = none := rfl
theorem xn45 : E.ext 45 = none := rfl
theorem xn46 : E.ext 46 = none := rfl
theorem xn47 : E.ext 47 = none := rfl
theorem xn48 : E.ext 48 = none := rfl
theorem xn49 : E.ext 49 = none := rfl
theorem xn50 : E.ext 50 = none := rfl
theorem xn51 : E.ext 51 = none := rfl
theorem xn52 : E.ext 52 = none := rfl
theorem xn53 : E.ext 53 = none := rfl
theorem xn54 : E.ext 54 = none := rfl
theorem xn55 : E.ext 55 = none := rfl
theorem xn56 : E.ext 56 = none := rfl
theorem xn57 : E.ext 57 = none := rfl
theorem xn58 : E.ext 58 = none := rfl
theorem xn59 : E.ext 59 = none := rfl
theorem xn60 : E.ext 60 = none := rfl
theorem xn61 : E.ext 61 = none := rfl
theorem xn62 : E.ext 62 = none := rfl
theorem xn63 : E.ext 63 = none := rfl
theorem xn64 : E.ext 64 = none := rfl
theorem xn66 : E.ext 66 = none := rfl
theorem xn67 : E.ext 67 = none := rfl
theorem xn68 : E.ext 68 = none := rfl
theorem xn93 : E.ext 93 = none := rfl
theorem E_byref (f : Nat) : E.byref f = [28].contains f := rfl
theorem agg2 : aggO Tryd.prog 2 = some false := by kernel_rfl
theorem agg21 : aggO Tryd.prog 21 = some false := by kernel_rfl
theorem agg23 : aggO Tryd.prog 23 = some false := by kernel_rfl
theorem agg3 : aggO Tryd.prog 3 = some false := by kernel_rfl
theorem agg32 : aggO Tryd.prog 32 = some false := by kernel_rfl
theorem agg4 : aggO Tryd.prog 4 = some false := by kernel_rfl
theorem agg41 : aggO Tryd.prog 41 = some false := by kernel_rfl
theorem agg46 : aggO Tryd.prog 46 = some false := by kernel_rfl
theorem agg5 : aggO Tryd.prog 5 = some false := by kernel_rfl
theorem agg50 : aggO Tryd.prog 50 = some true := by kernel_rfl
theorem agg54 : aggO Tryd.prog 54 = some false := by kernel_rfl
theorem agg56 : aggO Tryd.prog 56 = some false := by kernel_rfl
theorem agg62 : aggO Tryd.prog 62 = some true := by kernel_rfl
theorem agg70 : aggO Tryd.prog 70 = some true := by kernel_rfl
theorem agg71 : aggO Tryd.prog 71 = some false := by kernel_rfl
theorem agg72 : aggO Tryd.prog 72 = some true := by kernel_rfl
theorem agg73 : aggO Tryd.prog 73 = some false := by kernel_rfl
theorem agg75 : aggO Tryd.prog 75 = some true := by kernel_rfl
theorem agg77 : aggO Tryd.prog 77 = some true := by kernel_rfl
theorem agg78 : aggO Tryd.prog 78 = some true := by kernel_rfl
theorem agg82 : aggO Tryd.prog 82 = some true := by kernel_rfl
theorem agg83 : aggO Tryd.prog 83 = some true := by kernel_rfl
theorem agg9 : aggO Tryd.prog 9 = some false := by kernel_rfl
theorem arr23 : arrO Tryd.prog 23 = none := by kernel_rfl
theorem arr32 : arrO Tryd.prog 32 = none := by kernel_rfl
theorem arr50 : arrO Tryd.prog 50 = some (256, 4) := by kernel_rfl
theorem arr70 : arrO Tryd.prog 70 = some (20, 56) := by kernel_rfl
theorem arr72 : arrO Tryd.prog 72 = some (65, 5) := by kernel_rfl
theorem arr75 : arrO Tryd.prog 75 = some (256, 5) := by kernel_rfl
theorem arr77 : arrO Tryd.prog 77 = none := by kernel_rfl
theorem arr78 : arrO Tryd.prog 78 = some (16, 77) := by kernel_rfl
theorem arr82 : arrO Tryd.prog 82 = some (32, 5) := by kernel_rfl
theorem arr83 : arrO Tryd.prog 83 = some (64, 5) := by kernel_rfl
theorem arr9 : arrO Tryd.prog 9 = none := by kernel_rfl
theorem arrz50 : arrO Tryd.prog 50 = some (256, 4) := by kernel_rfl
theorem arrz62 : arrO Tryd.prog 62 = some (24, 5) := by kernel_rfl
theorem arrz70 : arrO Tryd.prog 70 = some (20, 56) := by kernel_rfl
theorem arrz72 : arrO Tryd.prog 72 = some (65, 5) := by kernel_rfl
theorem arrz77 : arrO Tryd.prog 77 = none := by kernel_rfl
theorem arrz78 : arrO Tryd.prog 78 = some (16, 77) := by kernel_rfl
theorem arrz82 : arrO Tryd.prog 82 = some (32, 5) := by kernel_rfl
theorem arrz83 : arrO Tryd.prog 83 = some (64, 5) := by kernel_rfl
theorem fld77_0 : fldO Tryd.prog 77 0 = some (0, 5) := by kernel_rfl
theorem fld77_1 : fldO Tryd.prog 77 1 = some (1, 5) := by kernel_rfl
theorem kind2 : kindO Tryd.prog 2 = some .i64 := by kernel_rfl
theorem kind21 : kindO Tryd.prog 21 = some .i32 := by kernel_rfl
theorem kind23 : kindO Tryd.prog 23 = none := by kernel_rfl
theorem kind3 : kindO Tryd.prog 3 = some .i64 := by kernel_rfl
theorem kind32 : kindO Tryd.prog 32 = none := by kernel_rfl
theorem kind4 : kindO Tryd.prog 4 = none := by kernel_rfl
theorem kind41 : kindO Tryd.prog 41 = none := by kernel_rfl
theorem kind46 : kindO Tryd.prog 46 = none := by kernel_rfl
theorem kind5 : kindO Tryd.prog 5 = some .u8 := by kernel_rfl
theorem kind50 : kindO Tryd.prog 50 = none := by kernel_rfl
theorem kind54 : kindO Tryd.prog 54 = none := by kernel_rfl
theorem kind56 : kindO Tryd.prog 56 = some .u64 := by kernel_rfl
theorem kind62 : kindO Tryd.prog 62 = none := by kernel_rfl
theorem kind70 : kindO Tryd.prog 70 = none := by kernel_rfl
theorem kind71 : kindO Tryd.prog 71 = some .u32 := by kernel_rfl
theorem kind72 : kindO Tryd.prog 72 = none := by kernel_rfl
theorem kind73 : kindO Tryd.prog 73 = some .u64 := by kernel_rfl
theorem kind75 : kindO Tryd.prog 75 = none := by kernel_rfl
theorem kind78 : kindO Tryd.prog 78 = none := by kernel_rfl
theorem kind82 : kindO Tryd.prog 82 = none := by kernel_rfl
theorem kind83 : kindO Tryd.prog 83 = none := by kernel_rfl
theorem kind9 : kindO Tryd.prog 9 = none := by kernel_rfl
theorem pl77 : placesO Tryd.prog 77 = some [(0, 1), (1, 1)] := by kernel_rfl
theorem sl2 : slO Tryd.prog 2 = none := by kernel_rfl
theorem sl21 : slO Tryd.prog 21 = none := by kernel_rfl
theorem sl23 : slO Tryd.prog 23 = some 3 := by kernel_rfl
theorem sl3 : slO Tryd.prog 3 = none := by kernel_rfl
theorem sl32 : slO Tryd.prog 32 = some 5 := by kernel_rfl
theorem sl4 : slO Tryd.prog 4 = none := by kernel_rfl
theorem sl41 : slO Tryd.prog 41 = none := by kernel_rfl
theorem sl46 : slO Tryd.prog 46 = none := by kernel_rfl
theorem sl5 : slO Tryd.prog 5 = none := by kernel_rfl
theorem sl50 : slO Tryd.prog 50 = none := by kernel_rfl
theorem sl54 : slO Tryd.prog 54 = none := by kernel_rfl
theorem sl56 : slO Tryd.prog 56 = none := by kernel_rfl
theorem sl62 : slO Tryd.prog 62 = none := by kernel_rfl
theorem sl70 : slO Tryd.prog 70 = none := by kernel_rfl
theorem sl71 : slO Tryd.prog 71 = none := by kernel_rfl
theorem sl72 : slO Tryd.prog 72 = none := by kernel_rfl
theorem sl73 : slO Tryd.prog 73 = none := by kernel_rfl
theorem sl75 : slO Tryd.prog 75 = none := by kernel_rfl
theorem sl78 : slO Tryd.prog 78 = none := by kernel_rfl
theorem sl82 : slO Tryd.prog 82 = none := by kernel_rfl
theorem sl83 : slO Tryd.prog 83 = none := by kernel_rfl
theorem sl9 : slO Tryd.prog 9 = none := by kernel_rfl
theorem str2 : isStrO Tryd.prog 2 = false := by kernel_rfl
theorem str21 : isStrO Tryd.prog 21 = false := by kernel_rfl
theorem str23 : isStrO Tryd.prog 23 = false := by kernel_rfl
theorem str3 : isStrO Tryd.prog 3 = false := by kernel_rfl
theorem str32 : isStrO Tryd.prog 32 = false := by kernel_rfl
theorem str4 : isStrO Tryd.prog 4 = false := by kernel_rfl
theorem str41 : isStrO Tryd.prog 41 = false := by kernel_rfl
theorem str46 : isStrO Tryd.prog 46 = false := by kernel_rfl
theorem str5 : isStrO Tryd.prog 5 = false := by kernel_rfl
theorem str50 : isStrO Tryd.prog 50 = false := by kernel_rfl
theorem str54 : isStrO Tryd.prog 54 = false := by kernel_rfl
theorem str56 : isStrO Tryd.prog 56 = false := by kernel_rfl
theorem str62 : isStrO Tryd.prog 62 = false := by kernel_rfl
theorem str70 : isStrO Tryd.prog 70 = false := by kernel_rfl
theorem str71 : isStrO Tryd.prog 71 = false := by kernel_rfl
theorem str72 : isStrO Tryd.prog 72 = false := by kernel_rfl
theorem str73 : isStrO Tryd.prog 73 = false := by kernel_rfl
theorem str75 : isStrO Tryd.prog 75 = false := by kernel_rfl
theorem str78 : isStrO Tryd.prog 78 = false := by kernel_rfl
theorem str82 : isStrO Tryd.prog 82 = false := by kernel_rfl
theorem str83 : isStrO Tryd.prog 83 = false := by kernel_rfl
theorem str9 : isStrO Tryd.prog 9 = true := by kernel_rfl
theorem sz23 : szO Tryd.prog 23 = some 1 := by kernel_rfl
theorem sz3 : szO Tryd.prog 3 = some 1 := by kernel_rfl
theorem sz4 : szO Tryd.prog 4 = some 1 := by kernel_rfl
theorem sz5 : szO Tryd.prog 5 = some 1 := by kernel_rfl
theorem sz50 : szO Tryd.prog 50 = some 256 := by kernel_rfl
theorem sz56 : szO Tryd.prog 56 = some 1 := by kernel_rfl
theorem sz62 : szO Tryd.prog 62 = some 24 := by kernel_rfl
theorem sz70 : szO Tryd.prog 70 = some 20 := by kernel_rfl
theorem sz72 : szO Tryd.prog 72 = some 65 := by kernel_rfl
theorem sz77 : szO Tryd.prog 77 = some 2 := by kernel_rfl
theorem sz78 : szO Tryd.prog 78 = some 32 := by kernel_rfl
theorem sz82 : szO Tryd.prog 82 = some 32 := by kernel_rfl
theorem sz83 : szO Tryd.prog 83 = some 64 := by kernel_rfl
theorem und4 : Tryd.prog.underlying 4 = some .bool := by kernel_rfl
theorem zero23 : zeroO Tryd.prog 23 = some (.i (.sl 0 [] true)) := by kernel_rfl
theorem zero3 : zeroO Tryd.prog 3 = some (.i (.v (.int .i64 0))) := by kernel_rfl
theorem zero5 : zeroO Tryd.prog 5 = some (.i (.v (.int .u8 0))) := by kernel_rfl
theorem zero50 : zeroO Tryd.prog 50 = some (.agg [.i (.v (.bool false)), .i (.v (.bool false)), .i (.v (.bool false)), .i (.v (.bool false)), .i (.v (.bool false)), .i (.v (.bool false)), .i (.v (.bool false)), .i (.v (.bool false)), .i (.v (.bool false)), .i (.v (.bool false)), .i (.v (.bool false)), .i (.v (.bool false)), .i (.v (.bool false)), .i (.v (.bool false)), .i (.v (.bool false)), .i (.v (.bool false)), .i (.v (.bool false)), .i (.v (.bool false)), .i (.v (.bool false)), .i (.v (.bool false)), .i (.v (.bool false)), .i (.v (.bool false)), .i (.v (.bool false)), .i (.v (.bool false)), .i (.v (.bool false)), .i (.v (.bool false)), .i (.v (.bool false)), .i (.v (.bool false)), .i (.v (.bool false)), .i (.v (.bool false)), .i (.v (.bool false)), .i (.v (.bool false)), .i (.v (.bool false)), .i (.v (.bool false)), .i (.v (.bool false)), .i (.v (.bool false)), .i (.v (.bool false)), .i (.v (.bool false)), .i (.v (.bool false)), .i (.v (.bool false)), .i (.v (.bool false)), .i (.v (.bool false)), .i (.v (.bool false)), .i (.v (.bool false)), .i (.v (.bool false)), .i (.v (.bool false)), .i (.v (.bool false)), .i (.v (.bool false)), .i (.v (.bool false)), .i (.v (.bool false)), .i (.v (.bool false)), .i (.v (.bool false)), .i (.v (.bool false)), .i (.v (.bool false)), .i (.v (.bool false)), .i (.v (.bool false)), .i (.v (.bool false)), .i (.v (.bool false)), .i (.v (.bool false)), .i (.v (.bool false)), .i (.v (.bool false)), .i (.v (.bool false)), .i (.v (.bool false)), .i (.v (.bool false)), .i (.v (.bool false)), .i (.v (.bool false)), .i (.v (.bool false)), .i (.v (.bool false)), .i (.v (.bool false)), .i (.v (.bool false)), .i (.v (.bool false)), .i (.v (.bool false)), .i (.v (.bool false)), .i (.v (.bool false)), .i (.v (.bool false)), .i (.v (.bool false)), .i (.v (.bool false)), .i (.v (.bool false)), .i (.v (.bool false)), .i (.v (.bool false)), .i (.v (.bool false)), .i (.v (.bool false)), .i (.v (.bool false)), .i (.v (.bool false)), .i (.v (.bool false)), .i (.v (.bool false)), .i (.v (.bool false)), .i (.v (.bool false)), .i (.v (.bool false)), .i (.v (.bool false)), .i (.v (.bool false)), .i (.v (.bool false)), .i (.v (.bool false)), .i (.v (.bool false)), .i (.v (.bool false)), .i (.v (.bool false)), .i (.v (.bool false)), .i (.v (.bool false)), .i (.v (.bool false)), .i (.v (.bool false)), .i (.v (.bool false)), .i (.v (.bool false)), .i (.v (.bool false)), .i (.v (.bool false)), .i (.v (.bool false)), .i (.v (.bool false)), .i (.v (.bool false)), .i (.v (.bool false)), .i (.v (.bool false)), .i (.v (.bool false)), .i (.v (.bool false)), .i (.v (.bool false)), .i (.v (.bool false)), .i (.v (.bool false)), .i (.v (.bool false)), .i (.v (.bool false)), .i (.v (.bool false)), .i (.v (.bool false)), .i (.v (.bool false)), .i (.v (.bool false)), .i (.v (.bool false)), .i (.v (.bool false)), .i (.v (.bool false)), .i (.v (.bool false)), .i (.v (.bool false)), .i (.v (.bool false)), .i (.v (.bool false)), .i (.v (.bool false)), .i (.v (.bool false)), .i (.v (.bool false)), .i (.v (.bool false)), .i (.v (.bool false)), .i (.v (.bool false)), .i (.v (.bool false)), .i (.v (.bool false)), .i (.v (.bool false)), .i (.v (.bool false)), .i (.v (.bool false)), .i (.v (.bool false)), .i (.v (.bool false)), .i (.v (.bool false)), .i (.v (.bool false)), .i (.v (.bool false)), .i (.v (.bool false)), .i (.v (.bool false)), .i (.v (.bool false)), .i (.v (.bool false)), .i (.v (.bool false)), .i (.v (.bool false)), .i (.v (.bool false)), .i (.v (.bool false)), .i (.v (.bool false)), .i (.v (.bool false)), .i (.v (.bool false)), .i (.v (.bool false)), .i (.v (.bool false)), .i (.v (.bool false)), .i (.v (.bool false)), .i (.v (.bool false)), .i (.v (.bool false)), .i (.v (.bool false)), .i (.v (.bool false)), .i (.v (.bool false)), .i (.v (.bool false)), .i (.v (.bool false)), .i (.v (.bool false)), .i (.v (.bool false)), .i (.v (.bool false)), .i (.v (.bool false)), .i (.v (.bool false)), .i (.v (.bool false)), .i (.v (.bool false)), .i (.v (.bool false)), .i (.v (.bool false)), .i (.v (.bool false)), .i (.v (.bool false)), .i (.v (.bool false)), .i (.v (.bool false)), .i (.v (.bool false)), .i (.v (.bool false)), .i (.v (.bool false)), .i (.v (.bool false)), .i (.v (.bool false)), .i (.v (.bool false)), .i (.v (.bool false)), .i (.v (.bool false)), .i (.v (.bool false)), .i (.v (.bool false)), .i (.v (.bool false)), .i (.v (.bool false)), .i (.v (.bool false)), .i (.v (.bool false)), .i (.v (.bool false)), .i (.v (.bool false)), .i (.v (.bool false)), .i (.v (.bool false)), .i (.v (.bool false)), .i (.v (.bool false)), .i (.v (.bool false)), .i (.v (.bool false)), .i (.v (.bool false)), .i (.v (.bool false)), .i (.v (.bool false)), .i (.v (.bool false)), .i (.v (.bool false)), .i (.v (.bool false)), .i (.v (.bool false)), .i (.v (.bool false)), .i (.v (.bool false)), .i (.v (.bool false)), .i (.v (.bool false)), .i (.v (.bool false)), .i (.v (.bool false)), .i (.v (.bool false)), .i (.v (.bool false)), .i (.v (.bool false)), .i (.v (.bool false)), .i (.v (.bool false)), .i (.v (.bool false)), .i (.v (.bool false)), .i (.v (.bool false)), .i (.v (.bool false)), .i (.v (.bool false)), .i (.v (.bool false)), .i (.v (.bool false)), .i (.v (.bool false)), .i (.v (.bool false)), .i (.v (.bool false)), .i (.v (.bool false)), .i (.v (.bool false)), .i (.v (.bool false)), .i (.v (.bool false)), .i (.v (.bool false)), .i (.v (.bool false)), .i (.v (.bool false)), .i (.v (.bool false)), .i (.v (.bool false)), .i (.v (.bool false)), .i (.v (.bool false)), .i (.v (.bool false)), .i (.v (.bool false)), .i (.v (.bool false)), .i (.v (.bool false)), .i (.v (.bool false)), .i (.v (.bool false)), .i (.v (.bool false)), .i (.v (.bool false)), .i (.v (.bool false)), .i (.v (.bool false)), .i (.v (.bool false)), .i (.v (.bool false)), .i (.v (.bool false)), .i (.v (.bool false)), .i (.v (.bool false)), .i (.v (.bool false)), .i (.v (.bool false))]) := by kernel_rfl
theorem zero62 : zeroO Tryd.prog 62 = some (.agg [.i (.v (.int .u8 0)), .i (.v (.int .u8 0)), .i (.v (.int .u8 0)), .i (.v (.int .u8 0)), .i (.v (.int .u8 0)), .i (.v (.int .u8 0)), .i (.v (.int .u8 0)), .i (.v (.int .u8 0)), .i (.v (.int .u8 0)), .i (.v (.int .u8 0)), .i (.v (.int .u8 0)), .i (.v (.int .u8 0)), .i (.v (.int .u8 0)), .i (.v (.int .u8 0)), .i (.v (.int .u8 0)), .i (.v (.int .u8 0)), .i (.v (.int .u8 0)), .i (.v (.int .u8 0)), .i (.v (.int .u8 0)), .i (.v (.int .u8 0)), .i (.v (.int .u8 0)), .i (.v (.int .u8 0)), .i (.v (.int .u8 0)), .i (.v (.int .u8 0))]) := by kernel_rfl
theorem zero70 : zeroO Tryd.prog 70 = some (.agg [.i (.v (.int .u64 0)), .i (.v (.int .u64 0)), .i (.v (.int .u64 0)), .i (.v (.int .u64 0)), .i (.v (.int .u64 0)), .i (.v (.int .u64 0)), .i (.v (.int .u64 0)), .i (.v (.int .u64 0)), .i (.v (.int .u64 0)), .i (.v (.int .u64 0)), .i (.v (.int .u64 0)), .i (.v (.int .u64 0)), .i (.v (.int .u64 0)), .i (.v (.int .u64 0)), .i (.v (.int .u64 0)), .i (.v (.int .u64 0)), .i (.v (.int .u64 0)), .i (.v (.int .u64 0)), .i (.v (.int .u64 0)), .i (.v (.int .u64 0))]) := by kernel_rfl
theorem zero72 : zeroO Tryd.prog 72 = some (.agg [.i (.v (.int .u8 0)), .i (.v (.int .u8 0)), .i (.v (.int .u8 0)), .i (.v (.int .u8 0)), .i (.v (.int .u8 0)), .i (.v (.int .u8 0)), .i (.v (.int .u8 0)), .i (.v (.int .u8 0)), .i (.v (.int .u8 0)), .i (.v (.int .u8 0)), .i (.v (.int .u8 0)), .i (.v (.int .u8 0)), .i (.v (.int .u8 0)), .i (.v (.int .u8 0)), .i (.v (.int .u8 0)), .i (.v (.int .u8 0)), .i (.v (.int .u8 0)), .i (.v (.int .u8 0)), .i (.v (.int .u8 0)), .i (.v (.int .u8 0)), .i (.v (.int .u8 0)), .i (.v (.int .u8 0)), .i (.v (.int .u8 0)), .i (.v (.int .u8 0)), .i (.v (.int .u8 0)), .i (.v (.int .u8 0)), .i (.v (.int .u8 0)), .i (.v (.int .u8 0)), .i (.v (.int .u8 0)), .i (.v (.int .u8 0)), .i (.v (.int .u8 0)), .i (.v (.int .u8 0)), .i (.v (.int .u8 0)), .i (.v (.int .u8 0)), .i (.v (.int .u8 0)), .i (.v (.int .u8 0)), .i (.v (.int .u8 0)), .i (.v (.int .u8 0)), .i (.v (.int .u8 0)), .i (.v (.int .u8 0)), .i (.v (.int .u8 0)), .i (.v (.int .u8 0)), .i (.v (.int .u8 0)), .i (.v (.int .u8 0)), .i (.v (.int .u8 0)), .i (.v (.int .u8 0)), .i (.v (.int .u8 0)), .i (.v (.int .u8 0)), .i (.v (.int .u8 0)), .i (.v (.int .u8 0)), .i (.v (.int .u8 0)), .i (.v (.int .u8 0)), .i (.v (.int .u8 0)), .i (.v (.int .u8 0)), .i (.v (.int .u8 0)), .i (.v (.int .u8 0)), .i (.v (.int .u8 0)), .i (.v (.int .u8 0)), .i (.v (.int .u8 0)), .i (.v (.int .u8 0)), .i (.v (.int .u8 0)), .i (.v (.int .u8 0)), .i (.v (.int .u8 0)), .i (.v (.int .u8 0)), .i (.v (.int .u8 0))]) := by kernel_rfl
theorem zero77 : zeroO Tryd.prog 77 = some (.agg [.i (.v (.int .u8 0)), .i (.v (.int .u8 0))]) := by kernel_rfl
theorem zero78 : zeroO Tryd.prog 78 = some (.agg [.i (.v (.int .u8 0)), .i (.v (.int .u8 0)), .i (.v (.int .u8 0)), .i (.v (.int .u8 0)), .i (.v (.int .u8 0)), .i (.v (.int .u8 0)), .i (.v (.int .u8 0)), .i (.v (.int .u8 0)), .i (.v (.int .u8 0)), .i (.v (.int .u8 0)), .i (.v (.int .u8 0)), .i (.v (.int .u8 0)), .i (.v (.int .u8 0)), .i (.v (.int .u8 0)), .i (.v (.int .u8 0)), .i (.v (.int .u8 0)), .i (.v (.int .u8 0)), .i (.v (.int .u8 0)), .i (.v (.int .u8 0)), .i (.v (.int .u8 0)), .i (.v (.int .u8 0)), .i (.v (.int .u8 0)), .i (.v (.int .u8 0)), .i (.v (.int .u8 0)), .i (.v (.int .u8 0)), .i (.v (.int .u8 0)), .i (.v (.int .u8 0)), .i (.v (.int .u8 0)), .i (.v (.int .u8 0)), .i (.v (.int .u8 0)), .i (.v (.int .u8 0)), .i (.v (.int .u8 0))]) := by kernel_rfl
theorem zero82 : zeroO Tryd.prog 82 = some (.agg [.i (.v (.int .u8 0)), .i (.v (.int .u8 0)), .i (.v (.int .u8 0)), .i (.v (.int .u8 0)), .i (.v (.int .u8 0)), .i (.v (.int .u8 0)), .i (.v (.int .u8 0)), .i (.v (.int .u8 0)), .i (.v (.int .u8 0)), .i (.v (.int .u8 0)), .i (.v (.int .u8 0)), .i (.v (.int .u8 0)), .i (.v (.int .u8 0)), .i (.v (.int .u8 0)), .i (.v (.int .u8 0)), .i (.v (.int .u8 0)), .i (.v (.int .u8 0)), .i (.v (.int .u8 0)), .i (.v (.int .u8 0)), .i (.v (.int .u8 0)), .i (.v (.int .u8 0)), .i (.v (.int .u8 0)), .i (.v (.int .u8 0)), .i (.v (.int .u8 0)), .i (.v (.int .u8 0)), .i (.v (.int .u8 0)), .i (.v (.int .u8 0)), .i (.v (.int .u8 0)), .i (.v (.int .u8 0)), .i (.v (.int .u8 0)), .i (.v (.int .u8 0)), .i (.v (.int .u8 0))]) := by kernel_rfl
theorem zero83 : zeroO Tryd.prog 83 = some (.agg [.i (.v (.int .u8 0)), .i (.v (.int .u8 0)), .i (.v (.int .u8 0)), .i (.v (.int .u8 0)), .i (.v (.int .u8 0)), .i (.v (.int .u8 0)), .i (.v (.int .u8 0)), .i (.v (.int .u8 0)), .i (.v (.int .u8 0)), .i (.v (.int .u8 0)), .i (.v (.int .u8 0)), .i (.v (.int .u8 0)), .i (.v (.int .u8 0)), .i (.v (.int .u8 0)), .i (.v (.int .u8 0)), .i (.v (.int .u8 0)), .i (.v (.int .u8 0)), .i (.v (.int .u8 0)), .i (.v (.int .u8 0)), .i (.v (.int .u8 0)), .i (.v (.int .u8 0)), .i (.v (.int .u8 0)), .i (.v (.int .u8 0)), .i (.v (.int .u8 0)), .i (.v (.int .u8 0)), .i (.v (.int .u8 0)), .i (.v (.int .u8 0)), .i (.v (.int .u8 0)), .i (.v (.int .u8 0)), .i (.v (.int .u8 0)), .i (.v (.int .u8 0)), .i (.v (.int .u8 0)), .i (.v (.int .u8 0)), .i (.v (.int .u8 0)), .i (.v (.int .u8 0)), .i (.v (.int .u8 0)), .i (.v (.int .u8 0)), .i (.v (.int .u8 0)), .i (.v (.int .u8 0)), .i (.v (.int .u8 0)), .i (.v (.int .u8 0)), .i (.v (.int .u8 0)), .i (.v (.int .u8 0)), .i (.v (.int .u8 0)), .i (.v (.int .u8 0)), .i (.v (.int .u8 0)), .i (.v (.int .u8 0)), .i (.v (.int .u8 0)), .i (.v (.int .u8 0)), .i (.v (.int .u8 0)), .i (.v (.int .u8 0)), .i (.v (.int .u8 0)), .i (.v (.int .u8 0)), .i (.v (.int .u8 0)), .i (.v (.int .u8 0)), .i (.v (.int .u8 0)), .i (.v (.int .u8 0)), .i (.v (.int .u8 0)), .i (.v (.int .u8 0)), .i (.v (.int .u8 0)), .i (.v (.int .u8 0)), .i (.v (.int .u8 0)), .i (.v (.int .u8 0)), .i (.v (.int .u8 0))]) := by kernel_rfl
theorem fok2 : fnOk E 2 = true := by kernel_rfl
theorem ent2 : enterOk E 2 = true := by kernel_rfl
theorem fok3 : fnOk E 3 = true := by kernel_rfl
theorem ent3 : enterOk E 3 = true := by kernel_rfl
theorem fok4 : fnOk E 4 = true := by kernel_rfl
theorem ent4 : enterOk E 4 = true := by kernel_rfl
theorem fok5 : fnOk E 5 = true := by kernel_rfl
theorem ent5 : enterOk E 5 = true := by kernel_rfl
theorem fok6 : fnOk E 6 = true := by kernel_rfl
theorem ent6 : enterOk E 6 = true := by kernel_rfl
theorem fok7 : fnOk E 7 = true := by kernel_rfl
theorem ent7 : enterOk E 7 = true := by kernel_rfl
theorem fok8 : fnOk E 8 = true := by kernel_rfl
theorem ent8 : enterOk E 8 = true := by kernel_rfl
theorem fok9 : fnOk E 9 = true := by kernel_rfl
theorem ent9 : enterOk E 9 = true := by kernel_rfl
theorem fok10 : fnOk E 10 = true := by kernel_rfl
theorem ent10 : enterOk E 10 = true := by kernel_rfl
theorem fok11 : fnOk E 11 = true := by kernel_rfl
theorem ent11 : enterOk E 11 = true := by kernel_rfl
theorem fok12 : fnOk E 12 = true := by kernel_rfl
theorem ent12 : enterOk E 12 = true := by kernel_rfl
theorem fok13 : fnOk E 13 = true := by kernel_rfl
theorem ent13 : enterOk E 13 = true := by kernel_rfl
theorem fok14 : fnOk E 14 = true := by kernel_rfl
theorem ent14 : enterOk E 14 = true := by kernel_rfl
theorem fok15 : fnOk E 15 = true := by kernel_rfl
theorem ent15 : enterOk E 15 = true := by kernel_rfl
theorem fok16 : fnOk E 16 = true := by kernel_rfl
theorem ent16 : enterOk E 16 = true := by kernel_rfl
theorem fok17 : fnOk E 17 = true := by kernel_rfl
theorem ent17 : enterOk E 17 = true := by kernel_rfl
theorem fok18 : fnOk E 18 = true := by kernel_rfl
theorem ent18 : enterOk E 18 = true := by kernel_rfl
theorem fok19 : fnOk E 19 = true := by kernel_rfl
theorem ent19 : enterOk E 19 = true := by kernel_rfl
theorem fok20 : fnOk E 20 = true := by kernel_rfl
theorem ent20 : enterOk E 20 = true := by kernel_rfl
theorem fok21 : fnOk E 21 = true := by kernel_rfl
theorem ent21 : enterOk E 21 = true := by kernel_rfl
theorem fok22 : fnOk E 22 = true := by kernel_rfl
theorem ent22 : enterOk E 22 = true := by kernel_rfl
theorem fok23 : fnOk E 23 = true := by kernel_rfl
theorem ent23 : enterOk E 23 = true := by kernel_rfl
theorem fok24 : fnOk E 24 = true := by kernel_rfl
theorem ent24 : enterOk E 24 = true := by kernel_rfl
theorem fok25 : fnOk E 25 = true := by kernel_rfl
theorem ent25 : enterOk E 25 = true := by kernel_rfl
theorem fok26 : fnOk E 26 = true := by kernel_rfl
theorem ent26 : enterOk E 26 = true := by kernel_rfl
theorem fok27 : fnOk E 27 = true := by kernel_rfl
theorem ent27 : enterOk E 27 = true := by kernel_rfl
theorem fok28 : fnOk E 28 = true := by kernel_rfl
theorem ent28 : enterOk E 28 = true := by kernel_rfl
theorem fok29 : fnOk E 29 = true := by kernel_rfl
theorem ent29 : enterOk E 29 = true := by kernel_rfl
theorem fok30 : fnOk E 30 = true := by kernel_rfl
theorem ent30 : enterOk E 30 = true := by kernel_rfl
theorem fok31 : fnOk E 31 = true := by kernel_rfl
theorem ent31 : enterOk E 31 = true := by kernel_rfl
theorem fok32 : fnOk E 32 = true := by kernel_rfl
theorem ent32 : enterOk E 32 = true := by kernel_rfl
theorem fok33 : fnOk E 33 = true := by kernel_rfl
theorem ent33 : enterOk E 33 = true := by kernel_rfl
theorem fok34 : fnOk E 34 = true := by kernel_rfl
theorem ent34 : enterOk E 34 = true := by kernel_rfl
theorem fok35 : fnOk E 35 = true := by kernel_rfl
theorem ent35 : enterOk E 35 = true := by kernel_rfl
theorem fok36 : fnOk E 36 = true := by kernel_rfl
theorem ent36 : enterOk E 36 = true := by kernel_rfl
theorem fok37 : fnOk E 37 = true := by kernel_rfl
theorem ent37 : enterOk E 37 = true := by kernel_rfl
theorem fok38 : fnOk E 38 = true := by kernel_rfl
theorem ent38 : enterOk E 38 = true := by kernel_rfl
theorem fok39 : fnOk E 39 = true := by kernel_rfl
theorem ent39 : enterOk E 39 = true := by kernel_rfl
theorem fok40 : fnOk E 40 = true := by kernel_rfl
theorem ent40 : enterOk E 40 = true := by kernel_rfl
theorem fok41 : fnOk E 41 = true := by kernel_rfl
theorem ent41 : enterOk E 41 = true := by kernel_rfl
theorem fok42 : fnOk E 42 = true := by kernel_rfl
theorem ent42 : enterOk E 42 = true := by kernel_rfl
theorem fok43 : fnOk E 43 = true := by kernel_rfl
theorem ent43 : enterOk E 43 = true := by kernel_rfl
theorem fok44 : fnOk E 44 = true := by kernel_rfl
theorem ent44 : enterOk E 44 = true := by kernel_rfl
theorem fok45 : fnOk E 45 = true := by kernel_rfl
theorem ent45 : enterOk E 45 = true := by kernel_rfl
theorem fok46 : fnOk E 46 = true := by kernel_rfl
theorem ent46 : enterOk E 46 = true := by kernel_rfl
theorem fok47 : fnOk E 47 = true := by kernel_rfl
theorem ent47 : enterOk E 47 = true := by kernel_rfl
theorem fok48 : fnOk E 48 = true := by kernel_rfl
theorem ent48 : enterOk E 48 = true := by kernel_rfl
theorem fok49 : fnOk E 49 = true := by kernel_rfl
theorem ent49 : enterOk E 49 = true := by kernel_rfl
theorem fok50 : fnOk E 50 = true := by kernel_rfl
theorem ent50 : enterOk E 50 = true := by kernel_rfl
theorem fok51 : fnOk E 51 = true := by kernel_rfl
theorem ent51 : enterOk E 51 = true := by kernel_rfl
theorem fok52 : fnOk E 52 = true := by kernel_rfl
theorem ent52 : enterOk E 52 = true := by kernel_rfl
theorem fok53 : fnOk E 53 = true := by kernel_rfl
theorem ent53 : enterOk E 53 = true := by kernel_rfl
theorem fok54 : fnOk E 54 = true := by kernel_rfl
theorem ent54 : enterOk E 54 = true := by kernel_rfl
theorem ent55 : enterOk E 55 = true := by kernel_rfl
theorem fok56 : fnOk E 56 = true := by kernel_rfl
theorem ent56 : enterOk E 56 = true := by kernel_rfl
theorem fok57 : fnOk E 57 = true := by kernel_rfl
theorem ent57 : enterOk E 57 = true := by kernel_rfl
theorem fok58 : fnOk E 58 = true := by kernel_rfl
theorem ent58 : enterOk E 58 = true := by kernel_rfl
theorem fok59 : fnOk E 59 = true := by kernel_rfl
theorem ent59 : enterOk E 59 = true := by kernel_rfl
theorem fok60 : fnOk E 60 = true := by kernel_rfl
theorem ent60 : enterOk E 60 = true := by kernel_rfl
theorem fok61 : fnOk E 61 = true := by kernel_rfl
theorem ent61 : enterOk E 61 = true := by kernel_rfl
theorem fok62 : fnOk E 62 = true := by kernel_rfl
theorem ent62 : enterOk E 62 = true := by kernel_rfl
theorem fok63 : fnOk E 63 = true := by kernel_rfl
theorem ent63 : enterOk E 63 = true := by kernel_rfl
theorem fok64 : fnOk E 64 = true := by kernel_rfl
theorem ent64 : enterOk E 64 = true := by kernel_rfl
theorem fok66 : fnOk E 66 = true := by kernel_rfl
theorem ent66 : enterOk E 66 = true := by kernel_rfl
theorem fok67 : fnOk E 67 = true := by kernel_rfl
theorem ent67 : enterOk E 67 = true := by kernel_rfl
theorem fok68 : fnOk E 68 = true := by kernel_rfl
theorem ent68 : enterOk E 68 = true := by kernel_rfl
theorem fok93 : fnOk E 93 = true := by kernel_rfl
theorem ent93 : enterOk E 93 = true := by kernel_rfl
theorem res2 : Tryd.f2.results = #[] := rfl
theorem res3 : Tryd.f3.results = #[.tmp 2] := rfl
theorem res4 : Tryd.f4.results = #[.tmp 6] := rfl
theorem res5 : Tryd.f5.results = #[.tmp 2] := rfl
theorem res6 : Tryd.f6.results = #[.tmp 6] := rfl
theorem res7 : Tryd.f7.results = #[.tmp 6] := rfl
theorem res8 : Tryd.f8.results = #[.tmp 6] := rfl
theorem res9 : Tryd.f9.results = #[.tmp 4] := rfl
theorem res10 : Tryd.f10.results = #[.tmp 6] := rfl
theorem res11 : Tryd.f11.results = #[.tmp 0] := rfl
theorem res12 : Tryd.f12.results = #[.tmp 2, .tmp 3, .tmp 4, .tmp 5] := rfl
theorem res13 : Tryd.f13.results = #[.tmp 2, .tmp 3, .tmp 4, .tmp 5] := rfl
theorem res14 : Tryd.f14.results = #[.tmp 4] := rfl
theorem res15 : Tryd.f15.results = #[.tmp 6, .tmp 7] := rfl
theorem res16 : Tryd.f16.results = #[.tmp 6, .tmp 7] := rfl
theorem res17 : Tryd.f17.results = #[.tmp 6] := rfl
theorem res18 : Tryd.f18.results = #[.tmp 6] := rfl
theorem res19 : Tryd.f19.results = #[.tmp 2] := rfl
theorem res20 : Tryd.f20.results = #[.tmp 2] := rfl
theorem res21 : Tryd.f21.results = #[] := rfl
theorem res22 : Tryd.f22.results = #[.tmp 2] := rfl
theorem res23 : Tryd.f23.results = #[.tmp 4] := rfl
theorem res24 : Tryd.f24.results = #[.tmp 2] := rfl
theorem res25 : Tryd.f25.results = #[.tmp 2] := rfl
theorem res26 : Tryd.f26.results = #[.tmp 4] := rfl
theorem res27 : Tryd.f27.results = #[.tmp 2] := rfl
theorem res28 : Tryd.f28.results = #[.tmp 6] := rfl
theorem res29 : Tryd.f29.results = #[.tmp 2] := rfl
theorem res30 : Tryd.f30.results = #[.tmp 4] := rfl
theorem res31 : Tryd.f31.results = #[.tmp 4] := rfl
theorem res32 : Tryd.f32.results = #[.tmp 2] := rfl
theorem res33 : Tryd.f33.results = #[.tmp 2] := rfl
theorem res34 : Tryd.f34.results = #[.tmp 4] := rfl
theorem res35 : Tryd.f35.results = #[.tmp 6] := rfl
theorem res36 : Tryd.f36.results = #[.tmp 4] := rfl
theorem res37 : Tryd.f37.results = #[.tmp 4] := rfl
theorem res38 : Tryd.f38.results = #[.cell 2 50, .tmp 3] := rfl
theorem res39 : Tryd.f39.results = #[.tmp 4] := rfl
theorem res40 : Tryd.f40.results = #[.tmp 4] := rfl
theorem res41 : Tryd.f41.results = #[.tmp 4] := rfl
theorem res42 : Tryd.f42.results = #[.tmp 4] := rfl
theorem res43 : Tryd.f43.results = #[.tmp 4] := rfl
theorem res44 : Tryd.f44.results = #[.tmp 6] := rfl
theorem res45 : Tryd.f45.results = #[.tmp 4] := rfl
theorem res46 : Tryd.f46.results = #[.tmp 2, .tmp 3] := rfl
theorem res47 : Tryd.f47.results = #[.tmp 4] := rfl
theorem res48 : Tryd.f48.results = #[.tmp 2, .tmp 3] := rfl
theorem res49 : Tryd.f49.results = #[.tmp 6] := rfl
theorem res50 : Tryd.f50.results = #[.tmp 2] := rfl
theorem res51 : Tryd.f51.results = #[.tmp 2] := rfl
theorem res52 : Tryd.f52.results = #[] := rfl
theorem res53 : Tryd.f53.results = #[.tmp 10, .tmp 11] := rfl
theorem res54 : Tryd.f54.results = #[.tmp 2, .tmp 3] := rfl
theorem res55 : Tryd.f55.results = #[.tmp 4] := rfl
theorem res56 : Tryd.f56.results = #[.tmp 2] := rfl
theorem res57 : Tryd.f57.results = #[.tmp 2] := rfl
theorem res58 : Tryd.f58.results = #[.tmp 2] := rfl
theorem res59 : Tryd.f59.results = #[.tmp 2] := rfl
theorem res60 : Tryd.f60.results = #[.tmp 2] := rfl
theorem res61 : Tryd.f61.results = #[.tmp 2] := rfl
theorem res62 : Tryd.f62.results = #[.tmp 4] := rfl
theorem res63 : Tryd.f63.results = #[.tmp 2] := rfl
theorem res64 : Tryd.f64.results = #[.tmp 2] := rfl
theorem res66 : Tryd.f66.results = #[.tmp 2] := rfl
theorem res67 : Tryd.f67.results = #[.tmp 2] := rfl
theorem res68 : Tryd.f68.results = #[.tmp 4] := rfl
theorem res93 : Tryd.f93.results = #[] := rfl
theorem kp2_0 : E.keep 2 0 = [] := by kernel_rfl
theorem kp3_0 : E.keep 3 0 = [0] := by kernel_rfl
theorem kp3_1 : E.keep 3 1 = [0, 13] := by kernel_rfl
theorem kp3_2 : E.keep 3 2 = [2] := by kernel_rfl
theorem kp3_3 : E.keep 3 3 = [0, 3, 4, 5, 6] := by kernel_rfl
theorem kp3_4 : E.keep 3 4 = [3, 4, 5, 6, 7, 8, 9, 10] := by kernel_rfl
theorem kp3_5 : E.keep 3 5 = [2] := by kernel_rfl
theorem kp4_0 : E.keep 4 0 = [0, 1, 2] := by kernel_rfl
theorem kp4_1 : E.keep 4 1 = [0, 1, 2, 20] := by kernel_rfl
theorem kp4_2 : E.keep 4 2 = [6] := by kernel_rfl
theorem kp4_3 : E.keep 4 3 = [0, 1, 2, 7, 8] := by kernel_rfl
theorem kp4_4 : E.keep 4 4 = [0, 1, 2, 7, 30] := by kernel_rfl
theorem kp4_5 : E.keep 4 5 = [6] := by kernel_rfl
theorem kp4_6 : E.keep 4 6 = [0, 1, 2, 9, 10, 11, 12] := by kernel_rfl
theorem kp4_7 : E.keep 4 7 = [6] := by kernel_rfl
theorem kp5_0 : E.keep 5 0 = [0] := by kernel_rfl
theorem kp5_1 : E.keep 5 1 = [0, 15] := by kernel_rfl
theorem kp5_2 : E.keep 5 2 = [2] := by kernel_rfl
theorem kp5_3 : E.keep 5 3 = [0, 3, 4, 5, 6] := by kernel_rfl
theorem kp5_4 : E.keep 5 4 = [0, 3, 4, 5, 25] := by kernel_rfl
theorem kp5_5 : E.keep 5 5 = [2] := by kernel_rfl
theorem kp5_6 : E.keep 5 6 = [0, 3, 4, 5, 7, 8] := by kernel_rfl
theorem kp5_7 : E.keep 5 7 = [0, 3, 4, 5, 7, 8, 9, 10, 11, 12] := by kernel_rfl
theorem kp5_8 : E.keep 5 8 = [2] := by kernel_rfl
theorem kp6_0 : E.keep 6 0 = [0, 1, 2] := by kernel_rfl
theorem kp6_1 : E.keep 6 1 = [0, 1, 2, 21] := by kernel_rfl
theorem kp6_2 : E.keep 6 2 = [6] := by kernel_rfl
theorem kp6_3 : E.keep 6 3 = [0, 1, 2, 7, 8, 9, 10] := by kernel_rfl
theorem kp6_4 : E.keep 6 4 = [0, 1, 2, 11] := by kernel_rfl
theorem kp6_5 : E.keep 6 5 = [0, 1, 2, 11, 58] := by kernel_rfl
theorem kp6_6 : E.keep 6 6 = [6] := by kernel_rfl
theorem kp6_7 : E.keep 6 7 = [11, 12, 13, 14, 15] := by kernel_rfl
theorem kp6_8 : E.keep 6 8 = [6] := by kernel_rfl
theorem kp7_0 : E.keep 7 0 = [0, 1, 2] := by kernel_rfl
theorem kp7_1 : E.keep 7 1 = [0, 1, 2, 19] := by kernel_rfl
theorem kp7_2 : E.keep 7 2 = [6] := by kernel_rfl
theorem kp7_3 : E.keep 7 3 = [0, 1, 2, 7, 8] := by kernel_rfl
theorem kp7_4 : E.keep 7 4 = [1, 7, 8, 9, 10] := by kernel_rfl
theorem kp7_5 : E.keep 7 5 = [1, 7, 8, 9, 10, 11] := by kernel_rfl
theorem kp7_6 : E.keep 7 6 = [1, 7, 8, 9, 10, 11, 38] := by kernel_rfl
theorem kp7_7 : E.keep 7 7 = [1, 7, 8, 9, 10, 11] := by kernel_rfl
theorem kp7_8 : E.keep 7 8 = [1, 7, 8, 9, 10, 11, 47] := by kernel_rfl
theorem kp7_9 : E.keep 7 9 = [6] := by kernel_rfl
theorem kp7_10 : E.keep 7 10 = [6] := by kernel_rfl
theorem kp8_0 : E.keep 8 0 = [0, 1, 2] := by kernel_rfl
theorem kp8_1 : E.keep 8 1 = [0, 1, 2, 10] := by kernel_rfl
theorem kp8_2 : E.keep 8 2 = [6] := by kernel_rfl
theorem kp8_3 : E.keep 8 3 = [0, 1, 2, 7] := by kernel_rfl
theorem kp8_4 : E.keep 8 4 = [0, 1, 2, 7, 30] := by kernel_rfl
theorem kp8_5 : E.keep 8 5 = [6] := by kernel_rfl
theorem kp8_6 : E.keep 8 6 = [6] := by kernel_rfl
theorem kp9_0 : E.keep 9 0 = [0, 1] := by kernel_rfl
theorem kp9_1 : E.keep 9 1 = [0, 1, 40] := by kernel_rfl
theorem kp9_2 : E.keep 9 2 = [4] := by kernel_rfl
theorem kp9_3 : E.keep 9 3 = [0, 1, 6, 8] := by kernel_rfl
theorem kp9_4 : E.keep 9 4 = [0, 1, 6, 8, 10, 12] := by kernel_rfl
theorem kp9_5 : E.keep 9 5 = [0, 1, 6, 8, 10, 12, 57] := by kernel_rfl
theorem kp9_6 : E.keep 9 6 = [0, 1, 6, 8, 10, 12] := by kernel_rfl
theorem kp9_7 : E.keep 9 7 = [0, 1, 6, 8, 10, 12, 60] := by kernel_rfl
theorem kp9_8 : E.keep 9 8 = [0, 1, 6, 8, 10, 12] := by kernel_rfl
theorem kp9_9 : E.keep 9 9 = [6, 8, 10, 12, 14, 16] := by kernel_rfl
theorem kp9_10 : E.keep 9 10 = [6, 10, 14, 16, 85] := by kernel_rfl
theorem kp9_11 : E.keep 9 11 = [4] := by kernel_rfl
theorem kp9_12 : E.keep 9 12 = [4] := by kernel_rfl
theorem kp10_0 : E.keep 10 0 = [0, 1, 2] := by kernel_rfl
theorem kp10_1 : E.keep 10 1 = [0, 1, 2, 28] := by kernel_rfl
theorem kp10_2 : E.keep 10 2 = [6] := by kernel_rfl
theorem kp10_3 : E.keep 10 3 = [0, 1, 2, 8, 10] := by kernel_rfl
theorem kp10_4 : E.keep 10 4 = [0, 2, 8, 10, 11] := by kernel_rfl
theorem kp10_5 : E.keep 10 5 = [0, 8, 10, 11, 12] := by kernel_rfl
theorem kp10_6 : E.keep 10 6 = [8, 10, 11, 12, 13, 14, 15, 16] := by kernel_rfl
theorem kp10_7 : E.keep 10 7 = [8, 10, 11, 12, 13, 14, 15, 16, 59] := by kernel_rfl
theorem kp10_8 : E.keep 10 8 = [6] := by kernel_rfl
theorem kp10_9 : E.keep 10 9 = [6] := by kernel_rfl
theorem kp11_0 : E.keep 11 0 = [] := by kernel_rfl
theorem kp11_1 : E.keep 11 1 = [1, 2, 3, 4] := by kernel_rfl
theorem kp11_2 : E.keep 11 2 = [1, 2, 3, 4, 5, 6] := by kernel_rfl
theorem kp11_3 : E.keep 11 3 = [0] := by kernel_rfl
theorem kp12_0 : E.keep 12 0 = [0] := by kernel_rfl
theorem kp12_1 : E.keep 12 1 = [0, 6] := by kernel_rfl
theorem kp12_2 : E.keep 12 2 = [0, 6, 19] := by kernel_rfl
theorem kp12_3 : E.keep 12 3 = [0, 6] := by kernel_rfl
theorem kp12_4 : E.keep 12 4 = [0, 6, 7] := by kernel_rfl
theorem kp12_5 : E.keep 12 5 = [0, 6, 7, 8, 9] := by kernel_rfl
theorem kp12_6 : E.keep 12 6 = [0, 6, 7, 8, 9, 10] := by kernel_rfl
theorem kp12_7 : E.keep 12 7 = [0, 6, 7, 8, 9, 10, 28] := by kernel_rfl
theorem kp12_8 : E.keep 12 8 = [0, 6, 7, 8, 9, 10] := by kernel_rfl
theorem kp12_9 : E.keep 12 9 = [0, 6, 7, 8, 9, 10, 11] := by kernel_rfl
theorem kp12_10 : E.keep 12 10 = [0, 6, 7, 8, 9, 10, 11, 35] := by kernel_rfl
theorem kp12_11 : E.keep 12 11 = [0, 6, 7, 8, 9, 10] := by kernel_rfl
theorem kp12_12 : E.keep 12 12 = [0, 6, 7, 8, 9, 10, 11, 43] := by kernel_rfl
theorem kp12_13 : E.keep 12 13 = [0, 6, 7, 8, 9, 10] := by kernel_rfl
theorem kp12_14 : E.keep 12 14 = [0, 6, 7, 9, 10, 53] := by kernel_rfl
theorem kp12_15 : E.keep 12 15 = [0, 6, 7, 9] := by kernel_rfl
theorem kp12_16 : E.keep 12 16 = [6, 7, 12] := by kernel_rfl
theorem kp12_17 : E.keep 12 17 = [2, 3, 4, 5] := by kernel_rfl
theorem kp12_18 : E.keep 12 18 = [6, 7, 12, 62] := by kernel_rfl
theorem kp12_19 : E.keep 12 19 = [2, 3, 4, 5] := by kernel_rfl
theorem kp12_20 : E.keep 12 20 = [6, 7, 12, 66] := by kernel_rfl
theorem kp12_21 : E.keep 12 21 = [2, 3, 4, 5] := by kernel_rfl
theorem kp13_0 : E.keep 13 0 = [0] := by kernel_rfl
theorem kp13_1 : E.keep 13 1 = [0, 6] := by kernel_rfl
theorem kp13_2 : E.keep 13 2 = [0, 6, 7] := by kernel_rfl
theorem kp13_3 : E.keep 13 3 = [0, 6, 7, 23] := by kernel_rfl
theorem kp13_4 : E.keep 13 4 = [0, 6] := by kernel_rfl
theorem kp13_5 : E.keep 13 5 = [0, 6, 7] := by kernel_rfl
theorem kp13_6 : E.keep 13 6 = [0, 6, 7, 8] := by kernel_rfl
theorem kp13_7 : E.keep 13 7 = [0, 6, 7, 8, 48] := by kernel_rfl
theorem kp13_8 : E.keep 13 8 = [0, 6, 7, 8] := by kernel_rfl
theorem kp13_9 : E.keep 13 9 = [6, 9, 10] := by kernel_rfl
theorem kp13_10 : E.keep 13 10 = [6, 9, 10, 11] := by kernel_rfl
theorem kp13_11 : E.keep 13 11 = [6, 9, 10, 11, 61] := by kernel_rfl
theorem kp13_12 : E.keep 13 12 = [6, 9, 10, 11] := by kernel_rfl
theorem kp13_13 : E.keep 13 13 = [6, 9, 10, 11, 68] := by kernel_rfl
theorem kp13_14 : E.keep 13 14 = [2, 3, 4, 5] := by kernel_rfl
theorem kp13_15 : E.keep 13 15 = [6, 9, 10, 12] := by kernel_rfl
theorem kp13_16 : E.keep 13 16 = [6, 9, 10, 12, 13] := by kernel_rfl
theorem kp13_17 : E.keep 13 17 = [6, 9, 10, 12, 13, 72] := by kernel_rfl
theorem kp13_18 : E.keep 13 18 = [6, 9, 10, 12, 13] := by kernel_rfl
theorem kp13_19 : E.keep 13 19 = [6, 9, 10, 12, 13, 14] := by kernel_rfl
theorem kp13_20 : E.keep 13 20 = [6, 9, 10, 12, 13, 14, 79] := by kernel_rfl
theorem kp13_21 : E.keep 13 21 = [6, 9, 10, 12, 13, 14] := by kernel_rfl
theorem kp13_22 : E.keep 13 22 = [6, 9, 10, 12, 13, 14, 85] := by kernel_rfl
theorem kp13_23 : E.keep 13 23 = [6, 9, 10, 12, 13, 14] := by kernel_rfl
theorem kp13_24 : E.keep 13 24 = [6, 9, 10, 12, 13, 14, 15] := by kernel_rfl
theorem kp13_25 : E.keep 13 25 = [6, 9, 10, 12, 13, 14, 15, 96] := by kernel_rfl
theorem kp13_26 : E.keep 13 26 = [6, 9, 10, 12, 13, 14, 15] := by kernel_rfl
theorem kp13_27 : E.keep 13 27 = [6, 9, 10, 12, 13, 14, 15] := by kernel_rfl
theorem kp13_28 : E.keep 13 28 = [6, 9, 10, 12, 13, 14, 15, 106] := by kernel_rfl
theorem kp13_29 : E.keep 13 29 = [6, 9, 10, 12, 13, 14] := by kernel_rfl
theorem kp13_30 : E.keep 13 30 = [6, 9, 10, 12, 13, 14, 15] := by kernel_rfl
theorem kp13_31 : E.keep 13 31 = [6, 9, 10, 12, 13, 14] := by kernel_rfl
theorem kp13_32 : E.keep 13 32 = [6, 10, 12, 123] := by kernel_rfl
theorem kp13_33 : E.keep 13 33 = [2, 3, 4, 5] := by kernel_rfl
theorem kp13_34 : E.keep 13 34 = [2, 3, 4, 5] := by kernel_rfl
theorem kp14_0 : E.keep 14 0 = [0, 1] := by kernel_rfl
theorem kp14_1 : E.keep 14 1 = [0, 1, 10] := by kernel_rfl
theorem kp14_2 : E.keep 14 2 = [4] := by kernel_rfl
theorem kp14_3 : E.keep 14 3 = [0, 1, 5] := by kernel_rfl
theorem kp14_4 : E.keep 14 4 = [0, 1, 5, 14] := by kernel_rfl
theorem kp14_5 : E.keep 14 5 = [0, 1, 5] := by kernel_rfl
theorem kp14_6 : E.keep 14 6 = [0, 1, 5, 25] := by kernel_rfl
theorem kp14_7 : E.keep 14 7 = [4] := by kernel_rfl
theorem kp14_8 : E.keep 14 8 = [4] := by kernel_rfl
theorem kp15_0 : E.keep 15 0 = [0, 1, 2] := by kernel_rfl
theorem kp15_1 : E.keep 15 1 = [0, 1, 2, 11] := by kernel_rfl
theorem kp15_2 : E.keep 15 2 = [0, 1, 2, 11] := by kernel_rfl
theorem kp15_3 : E.keep 15 3 = [0, 1, 2, 11] := by kernel_rfl
theorem kp15_4 : E.keep 15 4 = [6, 7] := by kernel_rfl
theorem kp15_5 : E.keep 15 5 = [0, 1, 2, 31] := by kernel_rfl
theorem kp15_6 : E.keep 15 6 = [6, 7] := by kernel_rfl
theorem kp15_7 : E.keep 15 7 = [0, 1, 2, 34] := by kernel_rfl
theorem kp15_8 : E.keep 15 8 = [6, 7] := by kernel_rfl
theorem kp15_9 : E.keep 15 9 = [0, 1, 2, 8] := by kernel_rfl
theorem kp15_10 : E.keep 15 10 = [0, 1, 2, 8, 40] := by kernel_rfl
theorem kp15_11 : E.keep 15 11 = [1, 2, 8] := by kernel_rfl
theorem kp15_12 : E.keep 15 12 = [2, 8, 45, 46, 47] := by kernel_rfl
theorem kp15_13 : E.keep 15 13 = [2, 8, 45, 46, 47, 48] := by kernel_rfl
theorem kp15_14 : E.keep 15 14 = [2, 8, 9, 10, 45, 46, 47] := by kernel_rfl
theorem kp15_15 : E.keep 15 15 = [2, 8, 10, 45, 46, 47, 53] := by kernel_rfl
theorem kp15_16 : E.keep 15 16 = [2, 8, 10, 45, 46, 47] := by kernel_rfl
theorem kp15_17 : E.keep 15 17 = [2, 8, 10, 45, 46, 47, 58] := by kernel_rfl
theorem kp15_18 : E.keep 15 18 = [2, 8, 45, 46, 47] := by kernel_rfl
theorem kp15_19 : E.keep 15 19 = [2, 8, 45, 46, 47] := by kernel_rfl
theorem kp15_20 : E.keep 15 20 = [6, 7] := by kernel_rfl
theorem kp16_0 : E.keep 16 0 = [0, 1, 2] := by kernel_rfl
theorem kp16_1 : E.keep 16 1 = [0, 1, 2, 29] := by kernel_rfl
theorem kp16_2 : E.keep 16 2 = [6, 7] := by kernel_rfl
theorem kp16_3 : E.keep 16 3 = [0, 1, 2, 8] := by kernel_rfl
theorem kp16_4 : E.keep 16 4 = [0, 1, 2, 8, 33] := by kernel_rfl
theorem kp16_5 : E.keep 16 5 = [0, 1, 2, 8] := by kernel_rfl
theorem kp16_6 : E.keep 16 6 = [0, 1, 2, 8, 40] := by kernel_rfl
theorem kp16_7 : E.keep 16 7 = [6, 7] := by kernel_rfl
theorem kp16_8 : E.keep 16 8 = [0, 1, 2, 9] := by kernel_rfl
theorem kp16_9 : E.keep 16 9 = [0, 1, 2, 9, 44] := by kernel_rfl
theorem kp16_10 : E.keep 16 10 = [0, 1, 2, 9] := by kernel_rfl
theorem kp16_11 : E.keep 16 11 = [0, 1, 2, 9, 51] := by kernel_rfl
theorem kp16_12 : E.keep 16 12 = [6, 7] := by kernel_rfl
theorem kp16_13 : E.keep 16 13 = [0, 1, 2, 10] := by kernel_rfl
theorem kp16_14 : E.keep 16 14 = [0, 1, 2, 10, 53] := by kernel_rfl
theorem kp16_15 : E.keep 16 15 = [1, 2, 10] := by kernel_rfl
theorem kp16_16 : E.keep 16 16 = [1, 2, 10, 11] := by kernel_rfl
theorem kp16_17 : E.keep 16 17 = [1, 2, 10, 11, 60] := by kernel_rfl
theorem kp16_18 : E.keep 16 18 = [1, 2, 10, 11] := by kernel_rfl
theorem kp16_19 : E.keep 16 19 = [1, 2, 10, 11, 67] := by kernel_rfl
theorem kp16_20 : E.keep 16 20 = [6, 7] := by kernel_rfl
theorem kp16_21 : E.keep 16 21 = [1, 2, 10, 11, 69] := by kernel_rfl
theorem kp16_22 : E.keep 16 22 = [1, 2, 10, 11] := by kernel_rfl
theorem kp16_23 : E.keep 16 23 = [1, 2, 10, 11, 76] := by kernel_rfl
theorem kp16_24 : E.keep 16 24 = [1, 2, 10, 11] := by kernel_rfl
theorem kp16_25 : E.keep 16 25 = [2, 10, 91] := by kernel_rfl
theorem kp16_26 : E.keep 16 26 = [6, 7] := by kernel_rfl
theorem kp16_27 : E.keep 16 27 = [6, 7] := by kernel_rfl
theorem kp17_0 : E.keep 17 0 = [0, 1, 2] := by kernel_rfl
theorem kp17_1 : E.keep 17 1 = [0, 1, 2, 21] := by kernel_rfl
theorem kp17_2 : E.keep 17 2 = [6] := by kernel_rfl
theorem kp17_3 : E.keep 17 3 = [6] := by kernel_rfl
theorem kp18_0 : E.keep 18 0 = [0, 1, 2] := by kernel_rfl
theorem kp18_1 : E.keep 18 1 = [0, 1, 2, 21] := by kernel_rfl
theorem kp18_2 : E.keep 18 2 = [6] := by kernel_rfl
theorem kp18_3 : E.keep 18 3 = [6] := by kernel_rfl
theorem kp19_0 : E.keep 19 0 = [0] := by kernel_rfl
theorem kp19_1 : E.keep 19 1 = [2] := by kernel_rfl
theorem kp20_0 : E.keep 20 0 = [0] := by kernel_rfl
theorem kp20_1 : E.keep 20 1 = [2] := by kernel_rfl
theorem kp21_0 : E.keep 21 0 = [1] := by kernel_rfl
theorem kp21_1 : E.keep 21 1 = [] := by kernel_rfl
theorem kp22_0 : E.keep 22 0 = [0] := by kernel_rfl
theorem kp22_1 : E.keep 22 1 = [2] := by kernel_rfl
theorem kp23_0 : E.keep 23 0 = [0, 1] := by kernel_rfl
theorem kp23_1 : E.keep 23 1 = [4] := by kernel_rfl
theorem kp24_0 : E.keep 24 0 = [0] := by kernel_rfl
theorem kp24_1 : E.keep 24 1 = [2] := by kernel_rfl
theorem kp25_0 : E.keep 25 0 = [0] := by kernel_rfl
theorem kp25_1 : E.keep 25 1 = [2] := by kernel_rfl
theorem kp26_0 : E.keep 26 0 = [0, 1] := by kernel_rfl
theorem kp26_1 : E.keep 26 1 = [4] := by kernel_rfl
theorem kp27_0 : E.keep 27 0 = [0] := by kernel_rfl
theorem kp27_1 : E.keep 27 1 = [2] := by kernel_rfl
theorem kp28_0 : E.keep 28 0 = [0, 1, 2] := by kernel_rfl
theorem kp28_1 : E.keep 28 1 = [6] := by kernel_rfl
theorem kp29_0 : E.keep 29 0 = [0] := by kernel_rfl
theorem kp29_1 : E.keep 29 1 = [0, 3] := by kernel_rfl
theorem kp29_2 : E.keep 29 2 = [0, 3, 5] := by kernel_rfl
theorem kp29_3 : E.keep 29 3 = [0, 3] := by kernel_rfl
theorem kp29_4 : E.keep 29 4 = [0, 3] := by kernel_rfl
theorem kp29_5 : E.keep 29 5 = [2] := by kernel_rfl
theorem kp30_0 : E.keep 30 0 = [0, 1] := by kernel_rfl
theorem kp30_1 : E.keep 30 1 = [0, 1, 12] := by kernel_rfl
theorem kp30_2 : E.keep 30 2 = [4] := by kernel_rfl
theorem kp30_3 : E.keep 30 3 = [0, 1, 21] := by kernel_rfl
theorem kp30_4 : E.keep 30 4 = [4] := by kernel_rfl
theorem kp30_5 : E.keep 30 5 = [0, 1, 5, 6] := by kernel_rfl
theorem kp30_6 : E.keep 30 6 = [0, 1, 5, 34] := by kernel_rfl
theorem kp30_7 : E.keep 30 7 = [4] := by kernel_rfl
theorem kp30_8 : E.keep 30 8 = [4] := by kernel_rfl
theorem kp31_0 : E.keep 31 0 = [0, 1] := by kernel_rfl
theorem kp31_1 : E.keep 31 1 = [4] := by kernel_rfl
theorem kp32_0 : E.keep 32 0 = [0] := by kernel_rfl
theorem kp32_1 : E.keep 32 1 = [2] := by kernel_rfl
theorem kp33_0 : E.keep 33 0 = [0] := by kernel_rfl
theorem kp33_1 : E.keep 33 1 = [2] := by kernel_rfl
theorem kp34_0 : E.keep 34 0 = [0, 1] := by kernel_rfl
theorem kp34_1 : E.keep 34 1 = [0, 1, 7, 8] := by kernel_rfl
theorem kp34_2 : E.keep 34 2 = [0, 1, 7, 8, 9] := by kernel_rfl
theorem kp34_3 : E.keep 34 3 = [0, 1, 5, 7, 8] := by kernel_rfl
theorem kp34_4 : E.keep 34 4 = [0, 1, 5, 7, 8, 16] := by kernel_rfl
theorem kp34_5 : E.keep 34 5 = [4] := by kernel_rfl
theorem kp34_6 : E.keep 34 6 = [0, 1, 7, 8] := by kernel_rfl
theorem kp34_7 : E.keep 34 7 = [4] := by kernel_rfl
theorem kp35_0 : E.keep 35 0 = [0, 1, 2] := by kernel_rfl
theorem kp35_1 : E.keep 35 1 = [0, 1, 2, 7] := by kernel_rfl
theorem kp35_2 : E.keep 35 2 = [0, 2, 7, 11] := by kernel_rfl
theorem kp35_3 : E.keep 35 3 = [0, 2, 7] := by kernel_rfl
theorem kp35_4 : E.keep 35 4 = [0, 2, 7] := by kernel_rfl
theorem kp35_5 : E.keep 35 5 = [6] := by kernel_rfl
theorem kp36_0 : E.keep 36 0 = [0, 1] := by kernel_rfl
theorem kp36_1 : E.keep 36 1 = [0, 1, 13] := by kernel_rfl
theorem kp36_2 : E.keep 36 2 = [0, 1] := by kernel_rfl
theorem kp36_3 : E.keep 36 3 = [4] := by kernel_rfl
theorem kp37_0 : E.keep 37 0 = [0, 1] := by kernel_rfl
theorem kp37_1 : E.keep 37 1 = [0, 1, 16] := by kernel_rfl
theorem kp37_2 : E.keep 37 2 = [0, 1] := by kernel_rfl
theorem kp37_3 : E.keep 37 3 = [4] := by kernel_rfl
theorem kp38_0 : E.keep 38 0 = [0, 2] := by kernel_rfl
theorem kp38_1 : E.keep 38 1 = [0, 2, 4] := by kernel_rfl
theorem kp38_2 : E.keep 38 2 = [0, 2, 4, 9] := by kernel_rfl
theorem kp38_3 : E.keep 38 3 = [0, 2, 4] := by kernel_rfl
theorem kp38_4 : E.keep 38 4 = [0, 2, 4, 5] := by kernel_rfl
theorem kp38_5 : E.keep 38 5 = [0, 2, 4, 5, 16] := by kernel_rfl
theorem kp38_6 : E.keep 38 6 = [2, 3] := by kernel_rfl
theorem kp38_7 : E.keep 38 7 = [0, 2, 4] := by kernel_rfl
theorem kp38_8 : E.keep 38 8 = [2, 3] := by kernel_rfl
theorem kp39_0 : E.keep 39 0 = [0, 1] := by kernel_rfl
theorem kp39_1 : E.keep 39 1 = [0, 1, 7] := by kernel_rfl
theorem kp39_2 : E.keep 39 2 = [0, 1, 12] := by kernel_rfl
theorem kp39_3 : E.keep 39 3 = [0, 1] := by kernel_rfl
theorem kp39_4 : E.keep 39 4 = [4] := by kernel_rfl
theorem kp40_0 : E.keep 40 0 = [0, 1] := by kernel_rfl
theorem kp40_1 : E.keep 40 1 = [0, 1, 7] := by kernel_rfl
theorem kp40_2 : E.keep 40 2 = [0, 1, 15] := by kernel_rfl
theorem kp40_3 : E.keep 40 3 = [0, 1] := by kernel_rfl
theorem kp40_4 : E.keep 40 4 = [4] := by kernel_rfl
theorem kp41_0 : E.keep 41 0 = [0, 1] := by kernel_rfl
theorem kp41_1 : E.keep 41 1 = [0, 1, 9] := by kernel_rfl
theorem kp41_2 : E.keep 41 2 = [0, 1, 5, 6] := by kernel_rfl
theorem kp41_3 : E.keep 41 3 = [0, 1, 6, 18] := by kernel_rfl
theorem kp41_4 : E.keep 41 4 = [0, 1] := by kernel_rfl
theorem kp41_5 : E.keep 41 5 = [4] := by kernel_rfl
theorem kp42_0 : E.keep 42 0 = [0, 1] := by kernel_rfl
theorem kp42_1 : E.keep 42 1 = [0, 1, 9] := by kernel_rfl
theorem kp42_2 : E.keep 42 2 = [0, 1, 5, 6] := by kernel_rfl
theorem kp42_3 : E.keep 42 3 = [0, 1, 5, 6, 17] := by kernel_rfl
theorem kp42_4 : E.keep 42 4 = [0, 1, 5, 6] := by kernel_rfl
theorem kp42_5 : E.keep 42 5 = [0, 1, 6, 26] := by kernel_rfl
theorem kp42_6 : E.keep 42 6 = [0, 1] := by kernel_rfl
theorem kp42_7 : E.keep 42 7 = [4] := by kernel_rfl
theorem kp43_0 : E.keep 43 0 = [0, 1] := by kernel_rfl
theorem kp43_1 : E.keep 43 1 = [4] := by kernel_rfl
theorem kp44_0 : E.keep 44 0 = [0, 1, 2] := by kernel_rfl
theorem kp44_1 : E.keep 44 1 = [0, 1, 2, 10] := by kernel_rfl
theorem kp44_2 : E.keep 44 2 = [0, 1, 12] := by kernel_rfl
theorem kp44_3 : E.keep 44 3 = [6] := by kernel_rfl
theorem kp44_4 : E.keep 44 4 = [0, 1, 7] := by kernel_rfl
theorem kp44_5 : E.keep 44 5 = [0, 1, 7, 8] := by kernel_rfl
theorem kp44_6 : E.keep 44 6 = [0, 7, 8] := by kernel_rfl
theorem kp44_7 : E.keep 44 7 = [6] := by kernel_rfl
theorem kp44_8 : E.keep 44 8 = [0] := by kernel_rfl
theorem kp44_9 : E.keep 44 9 = [6] := by kernel_rfl
theorem kp45_0 : E.keep 45 0 = [0, 1] := by kernel_rfl
theorem kp45_1 : E.keep 45 1 = [4] := by kernel_rfl
theorem kp46_0 : E.keep 46 0 = [0] := by kernel_rfl
theorem kp46_1 : E.keep 46 1 = [0, 10] := by kernel_rfl
theorem kp46_2 : E.keep 46 2 = [2, 3] := by kernel_rfl
theorem kp46_3 : E.keep 46 3 = [2, 3] := by kernel_rfl
theorem kp47_0 : E.keep 47 0 = [0, 1] := by kernel_rfl
theorem kp47_1 : E.keep 47 1 = [4] := by kernel_rfl
theorem kp48_0 : E.keep 48 0 = [0] := by kernel_rfl
theorem kp48_1 : E.keep 48 1 = [0, 4] := by kernel_rfl
theorem kp48_2 : E.keep 48 2 = [0, 4, 10] := by kernel_rfl
theorem kp48_3 : E.keep 48 3 = [2, 3] := by kernel_rfl
theorem kp48_4 : E.keep 48 4 = [0, 4, 5] := by kernel_rfl
theorem kp48_5 : E.keep 48 5 = [0, 2, 4, 5] := by kernel_rfl
theorem kp48_6 : E.keep 48 6 = [0, 2, 4, 5, 18] := by kernel_rfl
theorem kp48_7 : E.keep 48 7 = [2, 3] := by kernel_rfl
theorem kp48_8 : E.keep 48 8 = [0, 4, 5, 6] := by kernel_rfl
theorem kp48_9 : E.keep 48 9 = [0, 4, 5, 6] := by kernel_rfl
theorem kp48_10 : E.keep 48 10 = [0, 4, 5, 6, 27] := by kernel_rfl
theorem kp48_11 : E.keep 48 11 = [0, 4, 5, 6] := by kernel_rfl
theorem kp48_12 : E.keep 48 12 = [0, 4, 5, 6, 33] := by kernel_rfl
theorem kp48_13 : E.keep 48 13 = [0, 4, 5, 35] := by kernel_rfl
theorem kp48_14 : E.keep 48 14 = [0, 4, 5] := by kernel_rfl
theorem kp48_15 : E.keep 48 15 = [2, 3, 4, 5] := by kernel_rfl
theorem kp48_16 : E.keep 48 16 = [2, 3, 48] := by kernel_rfl
theorem kp48_17 : E.keep 48 17 = [2, 3] := by kernel_rfl
theorem kp48_18 : E.keep 48 18 = [2, 3] := by kernel_rfl
theorem kp49_0 : E.keep 49 0 = [0, 1, 2] := by kernel_rfl
theorem kp49_1 : E.keep 49 1 = [1, 2, 10] := by kernel_rfl
theorem kp49_2 : E.keep 49 2 = [1, 2, 10, 11, 12] := by kernel_rfl
theorem kp49_3 : E.keep 49 3 = [1, 2, 7, 8, 10] := by kernel_rfl
theorem kp49_4 : E.keep 49 4 = [1, 2, 7, 10, 19] := by kernel_rfl
theorem kp49_5 : E.keep 49 5 = [6] := by kernel_rfl
theorem kp49_6 : E.keep 49 6 = [6] := by kernel_rfl
theorem kp50_0 : E.keep 50 0 = [0] := by kernel_rfl
theorem kp50_1 : E.keep 50 1 = [0, 4] := by kernel_rfl
theorem kp50_2 : E.keep 50 2 = [2] := by kernel_rfl
theorem kp50_3 : E.keep 50 3 = [2] := by kernel_rfl
theorem kp51_0 : E.keep 51 0 = [0] := by kernel_rfl
theorem kp51_1 : E.keep 51 1 = [0, 3] := by kernel_rfl
theorem kp51_2 : E.keep 51 2 = [2] := by kernel_rfl
theorem kp52_0 : E.keep 52 0 = [0, 1, 4] := by kernel_rfl
theorem kp52_1 : E.keep 52 1 = [0, 1, 4, 20] := by kernel_rfl
theorem kp52_2 : E.keep 52 2 = [0, 1, 4, 5] := by kernel_rfl
theorem kp52_3 : E.keep 52 3 = [0, 1, 4, 5] := by kernel_rfl
theorem kp52_4 : E.keep 52 4 = [0, 1, 4, 6, 7] := by kernel_rfl
theorem kp52_5 : E.keep 52 5 = [0, 1, 4, 6, 8, 9] := by kernel_rfl
theorem kp52_6 : E.keep 52 6 = [0, 1, 4, 8, 9, 10, 11] := by kernel_rfl
theorem kp52_7 : E.keep 52 7 = [0, 1, 4, 8, 10, 11] := by kernel_rfl
theorem kp52_8 : E.keep 52 8 = [0, 1, 4, 10, 11] := by kernel_rfl
theorem kp52_9 : E.keep 52 9 = [0, 1, 4, 10] := by kernel_rfl
theorem kp52_10 : E.keep 52 10 = [0, 1, 4] := by kernel_rfl
theorem kp52_11 : E.keep 52 11 = [0, 1, 4] := by kernel_rfl
theorem kp52_12 : E.keep 52 12 = [0, 4, 12] := by kernel_rfl
theorem kp52_13 : E.keep 52 13 = [0, 4, 12, 99] := by kernel_rfl
theorem kp52_14 : E.keep 52 14 = [0, 4, 12, 13] := by kernel_rfl
theorem kp52_15 : E.keep 52 15 = [0, 4, 12, 13] := by kernel_rfl
theorem kp52_16 : E.keep 52 16 = [0, 4, 12, 14, 15] := by kernel_rfl
theorem kp52_17 : E.keep 52 17 = [0, 4, 12, 14] := by kernel_rfl
theorem kp52_18 : E.keep 52 18 = [0, 4, 12] := by kernel_rfl
theorem kp52_19 : E.keep 52 19 = [0, 4, 12] := by kernel_rfl
theorem kp52_20 : E.keep 52 20 = [0, 4, 12, 139] := by kernel_rfl
theorem kp52_21 : E.keep 52 21 = [0, 4, 12, 16] := by kernel_rfl
theorem kp52_22 : E.keep 52 22 = [0, 4, 12, 16] := by kernel_rfl
theorem kp52_23 : E.keep 52 23 = [0, 4, 12] := by kernel_rfl
theorem kp52_24 : E.keep 52 24 = [0, 4, 12] := by kernel_rfl
theorem kp52_25 : E.keep 52 25 = [0, 12, 161] := by kernel_rfl
theorem kp52_26 : E.keep 52 26 = [] := by kernel_rfl
theorem kp53_0 : E.keep 53 0 = [0, 1, 2, 3, 4, 10, 11] := by kernel_rfl
theorem kp53_1 : E.keep 53 1 = [0, 1, 2, 3, 4, 10, 11, 28] := by kernel_rfl
theorem kp53_2 : E.keep 53 2 = [0, 1, 2, 3, 4, 10, 11] := by kernel_rfl
theorem kp53_3 : E.keep 53 3 = [0, 1, 2, 3, 4, 10, 11, 12] := by kernel_rfl
theorem kp53_4 : E.keep 53 4 = [0, 1, 2, 3, 4, 10, 11, 12, 13] := by kernel_rfl
theorem kp53_5 : E.keep 53 5 = [0, 1, 2, 3, 4, 10, 11, 12, 13, 30] := by kernel_rfl
theorem kp53_6 : E.keep 53 6 = [0, 1, 2, 3, 4, 10, 11, 12, 13] := by kernel_rfl
theorem kp53_7 : E.keep 53 7 = [0, 1, 2, 3, 4, 10, 11, 12, 13, 34] := by kernel_rfl
theorem kp53_8 : E.keep 53 8 = [0, 1, 2, 3, 4, 10, 11, 12, 13, 14] := by kernel_rfl
theorem kp53_9 : E.keep 53 9 = [0, 1, 2, 3, 4, 10, 11, 12, 13, 14, 15] := by kernel_rfl
theorem kp53_10 : E.keep 53 10 = [0, 1, 3, 4, 10, 11, 12, 13, 14, 15, 16] := by kernel_rfl
theorem kp53_11 : E.keep 53 11 = [0, 1, 3, 4, 10, 11, 12, 13, 14, 15, 16, 46] := by kernel_rfl
theorem kp53_12 : E.keep 53 12 = [0, 1, 3, 4, 10, 11, 12, 13, 14, 15, 16] := by kernel_rfl
theorem kp53_13 : E.keep 53 13 = [0, 1, 3, 4, 10, 11, 12, 13, 14, 15, 16] := by kernel_rfl
theorem kp53_14 : E.keep 53 14 = [0, 1, 3, 4, 10, 11, 12, 13, 14, 15, 16] := by kernel_rfl
theorem kp53_15 : E.keep 53 15 = [0, 1, 3, 4, 10, 11, 12, 13] := by kernel_rfl
theorem kp53_16 : E.keep 53 16 = [0, 3, 4, 10, 11, 12, 13] := by kernel_rfl
theorem kp53_17 : E.keep 53 17 = [0, 1, 3, 4, 10, 11, 12, 13, 17] := by kernel_rfl
theorem kp53_18 : E.keep 53 18 = [0, 1, 3, 4, 10, 11, 12, 13, 17, 68] := by kernel_rfl
theorem kp53_19 : E.keep 53 19 = [0, 1, 3, 4, 10, 11, 12, 13, 17] := by kernel_rfl
theorem kp53_20 : E.keep 53 20 = [0, 1, 3, 4, 10, 11, 12, 13, 17, 18] := by kernel_rfl
theorem kp53_21 : E.keep 53 21 = [0, 3, 4, 10, 11, 12, 13, 17, 18] := by kernel_rfl
theorem kp53_22 : E.keep 53 22 = [0, 1, 3, 4, 10, 11, 12, 13, 17] := by kernel_rfl
theorem kp53_23 : E.keep 53 23 = [0, 1, 3, 4, 10, 11, 12, 13] := by kernel_rfl
theorem kp53_24 : E.keep 53 24 = [0, 3, 4, 10, 11, 12, 13] := by kernel_rfl
theorem kp53_25 : E.keep 53 25 = [0, 4, 10, 11, 12, 13, 89] := by kernel_rfl
theorem kp53_26 : E.keep 53 26 = [0, 4, 10, 11, 12, 13] := by kernel_rfl
theorem kp53_27 : E.keep 53 27 = [0, 4, 10, 11, 12, 13] := by kernel_rfl
theorem kp53_28 : E.keep 53 28 = [0, 10, 11, 12, 13, 94] := by kernel_rfl
theorem kp53_29 : E.keep 53 29 = [10, 11] := by kernel_rfl
theorem kp53_30 : E.keep 53 30 = [10, 11] := by kernel_rfl
theorem kp54_0 : E.keep 54 0 = [0] := by kernel_rfl
theorem kp54_1 : E.keep 54 1 = [0, 4] := by kernel_rfl
theorem kp54_2 : E.keep 54 2 = [0, 4, 16] := by kernel_rfl
theorem kp54_3 : E.keep 54 3 = [2, 3] := by kernel_rfl
theorem kp54_4 : E.keep 54 4 = [0, 4, 5] := by kernel_rfl
theorem kp54_5 : E.keep 54 5 = [0, 4, 5, 6] := by kernel_rfl
theorem kp54_6 : E.keep 54 6 = [0, 4, 5, 6, 23] := by kernel_rfl
theorem kp54_7 : E.keep 54 7 = [0, 7] := by kernel_rfl
theorem kp54_8 : E.keep 54 8 = [2, 3] := by kernel_rfl
theorem kp54_9 : E.keep 54 9 = [0, 4, 5, 6, 8] := by kernel_rfl
theorem kp54_10 : E.keep 54 10 = [0, 4, 5, 8, 9] := by kernel_rfl
theorem kp54_11 : E.keep 54 11 = [0, 5, 8, 9, 45] := by kernel_rfl
theorem kp54_12 : E.keep 54 12 = [2, 3] := by kernel_rfl
theorem kp54_13 : E.keep 54 13 = [0, 5, 8, 9, 10] := by kernel_rfl
theorem kp54_14 : E.keep 54 14 = [0, 5, 8, 10, 57] := by kernel_rfl
theorem kp54_15 : E.keep 54 15 = [2, 3] := by kernel_rfl
theorem kp54_16 : E.keep 54 16 = [0, 5, 8, 10, 59] := by kernel_rfl
theorem kp54_17 : E.keep 54 17 = [2, 3] := by kernel_rfl
theorem kp54_18 : E.keep 54 18 = [0, 5, 8, 10, 11] := by kernel_rfl
theorem kp54_19 : E.keep 54 19 = [0, 5, 8, 10, 11, 75] := by kernel_rfl
theorem kp54_20 : E.keep 54 20 = [2, 3] := by kernel_rfl
theorem kp54_21 : E.keep 54 21 = [0, 5, 10, 11, 77] := by kernel_rfl
theorem kp54_22 : E.keep 54 22 = [2, 3] := by kernel_rfl
theorem kp54_23 : E.keep 54 23 = [5, 10, 11, 12] := by kernel_rfl
theorem kp54_24 : E.keep 54 24 = [5, 10, 11, 12, 98] := by kernel_rfl
theorem kp54_25 : E.keep 54 25 = [2, 3] := by kernel_rfl
theorem kp54_26 : E.keep 54 26 = [2, 3] := by kernel_rfl
theorem kp55_0 : E.keep 55 0 = [0, 1] := by kernel_rfl
theorem kp55_1 : E.keep 55 1 = [0, 7] := by kernel_rfl
theorem kp55_2 : E.keep 55 2 = [0, 7, 8] := by kernel_rfl
theorem kp55_3 : E.keep 55 3 = [0, 7, 8, 9] := by kernel_rfl
theorem kp55_4 : E.keep 55 4 = [0, 7, 8, 9] := by kernel_rfl
theorem kp55_5 : E.keep 55 5 = [0, 7, 8, 9, 26] := by kernel_rfl
theorem kp55_6 : E.keep 55 6 = [0, 7, 8, 9, 33] := by kernel_rfl
theorem kp55_7 : E.keep 55 7 = [0, 7, 8, 9, 11] := by kernel_rfl
theorem kp55_8 : E.keep 55 8 = [0, 7, 8, 9, 11, 43] := by kernel_rfl
theorem kp55_9 : E.keep 55 9 = [4] := by kernel_rfl
theorem kp55_10 : E.keep 55 10 = [0, 7, 8, 9] := by kernel_rfl
theorem kp55_11 : E.keep 55 11 = [0, 7, 8, 9, 12] := by kernel_rfl
theorem kp55_12 : E.keep 55 12 = [0, 7, 8, 9, 12, 51] := by kernel_rfl
theorem kp55_13 : E.keep 55 13 = [0, 7, 8, 9, 12] := by kernel_rfl
theorem kp55_14 : E.keep 55 14 = [0, 7, 8, 9, 12, 64] := by kernel_rfl
theorem kp55_15 : E.keep 55 15 = [4] := by kernel_rfl
theorem kp55_16 : E.keep 55 16 = [0, 7, 8, 9, 10] := by kernel_rfl
theorem kp55_17 : E.keep 55 17 = [0, 7, 8, 9, 10] := by kernel_rfl
theorem kp55_18 : E.keep 55 18 = [0, 7, 8, 9, 98] := by kernel_rfl
theorem kp55_19 : E.keep 55 19 = [4] := by kernel_rfl
theorem kp55_20 : E.keep 55 20 = [8, 9, 13] := by kernel_rfl
theorem kp55_21 : E.keep 55 21 = [8, 9, 13, 108] := by kernel_rfl
theorem kp55_22 : E.keep 55 22 = [4] := by kernel_rfl
theorem kp55_23 : E.keep 55 23 = [0, 7, 8, 9, 14] := by kernel_rfl
theorem kp55_24 : E.keep 55 24 = [0, 7, 8, 9, 14, 15] := by kernel_rfl
theorem kp55_25 : E.keep 55 25 = [0, 7, 8, 9, 14, 15, 124] := by kernel_rfl
theorem kp55_26 : E.keep 55 26 = [0, 7, 8, 9, 14, 15] := by kernel_rfl
theorem kp55_27 : E.keep 55 27 = [0, 7, 8, 9, 14, 15, 139] := by kernel_rfl
theorem kp55_28 : E.keep 55 28 = [0, 7, 8, 9, 14, 15, 16] := by kernel_rfl
theorem kp55_29 : E.keep 55 29 = [0, 7, 8, 9, 14, 15, 16, 143] := by kernel_rfl
theorem kp55_30 : E.keep 55 30 = [0, 7, 8, 9, 14, 15, 16] := by kernel_rfl
theorem kp55_31 : E.keep 55 31 = [0, 7, 8, 9, 14, 15, 16, 156] := by kernel_rfl
theorem kp55_32 : E.keep 55 32 = [4] := by kernel_rfl
theorem kp55_33 : E.keep 55 33 = [4] := by kernel_rfl
theorem kp55_34 : E.keep 55 34 = [0, 1, 160] := by kernel_rfl
theorem kp55_35 : E.keep 55 35 = [4] := by kernel_rfl
theorem kp55_36 : E.keep 55 36 = [0, 1, 171] := by kernel_rfl
theorem kp55_37 : E.keep 55 37 = [175] := by kernel_rfl
theorem kp55_38 : E.keep 55 38 = [175, 176, 177] := by kernel_rfl
theorem kp55_39 : E.keep 55 39 = [5, 6, 175] := by kernel_rfl
theorem kp55_40 : E.keep 55 40 = [5, 175, 181] := by kernel_rfl
theorem kp55_41 : E.keep 55 41 = [4] := by kernel_rfl
theorem kp55_42 : E.keep 55 42 = [4] := by kernel_rfl
theorem kp55_43 : E.keep 55 43 = [0, 1, 183] := by kernel_rfl
theorem kp55_44 : E.keep 55 44 = [4] := by kernel_rfl
theorem kp56_0 : E.keep 56 0 = [0] := by kernel_rfl
theorem kp56_1 : E.keep 56 1 = [2] := by kernel_rfl
theorem kp57_0 : E.keep 57 0 = [0] := by kernel_rfl
theorem kp57_1 : E.keep 57 1 = [2] := by kernel_rfl
theorem kp58_0 : E.keep 58 0 = [0, 2] := by kernel_rfl
theorem kp58_1 : E.keep 58 1 = [0, 2, 4] := by kernel_rfl
theorem kp58_2 : E.keep 58 2 = [0] := by kernel_rfl
theorem kp58_3 : E.keep 58 3 = [0, 2] := by kernel_rfl
theorem kp58_4 : E.keep 58 4 = [0, 2, 8] := by kernel_rfl
theorem kp58_5 : E.keep 58 5 = [0, 2] := by kernel_rfl
theorem kp58_6 : E.keep 58 6 = [0, 2] := by kernel_rfl
theorem kp58_7 : E.keep 58 7 = [0, 2, 14] := by kernel_rfl
theorem kp58_8 : E.keep 58 8 = [0, 2] := by kernel_rfl
theorem kp58_9 : E.keep 58 9 = [0, 2] := by kernel_rfl
theorem kp58_10 : E.keep 58 10 = [2] := by kernel_rfl
theorem kp59_0 : E.keep 59 0 = [0] := by kernel_rfl
theorem kp59_1 : E.keep 59 1 = [3] := by kernel_rfl
theorem kp59_2 : E.keep 59 2 = [2] := by kernel_rfl
theorem kp59_3 : E.keep 59 3 = [2] := by kernel_rfl
theorem kp60_0 : E.keep 60 0 = [0] := by kernel_rfl
theorem kp60_1 : E.keep 60 1 = [2] := by kernel_rfl
theorem kp61_0 : E.keep 61 0 = [0] := by kernel_rfl
theorem kp61_1 : E.keep 61 1 = [2] := by kernel_rfl
theorem kp61_2 : E.keep 61 2 = [2] := by kernel_rfl
theorem kp62_0 : E.keep 62 0 = [0, 1] := by kernel_rfl
theorem kp62_1 : E.keep 62 1 = [4] := by kernel_rfl
theorem kp63_0 : E.keep 63 0 = [0] := by kernel_rfl
theorem kp63_1 : E.keep 63 1 = [0, 3] := by kernel_rfl
theorem kp63_2 : E.keep 63 2 = [2] := by kernel_rfl
theorem kp63_3 : E.keep 63 3 = [10] := by kernel_rfl
theorem kp63_4 : E.keep 63 4 = [2] := by kernel_rfl
theorem kp63_5 : E.keep 63 5 = [2] := by kernel_rfl
theorem kp64_0 : E.keep 64 0 = [0] := by kernel_rfl
theorem kp64_1 : E.keep 64 1 = [2] := by kernel_rfl
theorem kp66_0 : E.keep 66 0 = [0] := by kernel_rfl
theorem kp66_1 : E.keep 66 1 = [0, 4] := by kernel_rfl
theorem kp66_2 : E.keep 66 2 = [2] := by kernel_rfl
theorem kp66_3 : E.keep 66 3 = [2] := by kernel_rfl
theorem kp67_0 : E.keep 67 0 = [0] := by kernel_rfl
theorem kp67_1 : E.keep 67 1 = [0, 4] := by kernel_rfl
theorem kp67_2 : E.keep 67 2 = [2] := by kernel_rfl
theorem kp67_3 : E.keep 67 3 = [2] := by kernel_rfl
theorem kp68_0 : E.keep 68 0 = [0, 1] := by kernel_rfl
theorem kp68_1 : E.keep 68 1 = [4] := by kernel_rfl
theorem kp93_0 : E.keep 93 0 = [] := by kernel_rfl
theorem kp93_1 : E.keep 93 1 = [] := by kernel_rfl
theorem kp93_2 : E.keep 93 2 = [] := by kernel_rfl
theorem kp93_3 : E.keep 93 3 = [] := by kernel_rfl
theorem hd7_6 : E.head 7 6 = [1, 7, 8, 9, 10, 11] := by kernel_rfl
theorem hd12_7 : E.head 12 7 = [0, 6, 7, 8, 9, 10] := by kernel_rfl
theorem hd13_7 : E.head 13 7 = [0, 6, 7, 8] := by kernel_rfl
theorem hd13_11 : E.head 13 11 = [6, 9, 10, 11] := by kernel_rfl
theorem hd13_20 : E.head 13 20 = [6, 9, 10, 12, 13, 14] := by kernel_rfl
theorem hd14_4 : E.head 14 4 = [0, 1, 5] := by kernel_rfl
theorem hd15_13 : E.head 15 13 = [2, 8, 45, 46, 47] := by kernel_rfl
theorem hd16_4 : E.head 16 4 = [0, 1, 2, 8] := by kernel_rfl
theorem hd16_9 : E.head 16 9 = [0, 1, 2, 9] := by kernel_rfl
theorem hd16_17 : E.head 16 17 = [1, 2, 10, 11] := by kernel_rfl
theorem hd29_2 : E.head 29 2 = [0, 3] := by kernel_rfl
theorem hd34_2 : E.head 34 2 = [0, 1, 7, 8] := by kernel_rfl
theorem hd36_1 : E.head 36 1 = [0, 1] := by kernel_rfl
theorem hd37_1 : E.head 37 1 = [0, 1] := by kernel_rfl
theorem hd38_2 : E.head 38 2 = [0, 2, 4] := by kernel_rfl
theorem hd39_1 : E.head 39 1 = [0, 1] := by kernel_rfl
theorem hd40_1 : E.head 40 1 = [0, 1] := by kernel_rfl
theorem hd41_1 : E.head 41 1 = [0, 1] := by kernel_rfl
theorem hd42_1 : E.head 42 1 = [0, 1] := by kernel_rfl
theorem hd48_10 : E.head 48 10 = [0, 4, 5, 6] := by kernel_rfl
theorem hd49_2 : E.head 49 2 = [1, 2, 10] := by kernel_rfl
theorem hd52_1 : E.head 52 1 = [0, 1, 4] := by kernel_rfl
theorem hd53_11 : E.head 53 11 = [0, 1, 3, 4, 10, 11, 12, 13, 14, 15, 16] := by kernel_rfl
theorem hd53_18 : E.head 53 18 = [0, 1, 3, 4, 10, 11, 12, 13, 17] := by kernel_rfl
theorem hd55_5 : E.head 55 5 = [0, 7, 8, 9] := by kernel_rfl
theorem hd55_12 : E.head 55 12 = [0, 7, 8, 9, 12] := by kernel_rfl
theorem hd55_25 : E.head 55 25 = [0, 7, 8, 9, 14, 15] := by kernel_rfl
theorem hd55_29 : E.head 55 29 = [0, 7, 8, 9, 14, 15, 16] := by kernel_rfl
theorem hd55_38 : E.head 55 38 = [175] := by kernel_rfl
theorem fl12_3 : E.flo 12 3 = [] := by kernel_rfl
theorem ho12_3 : E.hol 12 3 = false := by kernel_rfl
theorem dr12_3 (B : Nat) (fr : Fr) (H : Hp) (ops : Array Oper) : execT E B 12 (.region 3 ops true) fr H = regK E 12 3 (evOps E (callT E) ops.toList ops.toList fr H) := execT_draw0 ho12_3 fl12_3 ops
theorem fl12_17 : E.flo 12 17 = [] := by kernel_rfl
theorem ho12_17 : E.hol 12 17 = false := by kernel_rfl
theorem dr12_17 (B : Nat) (fr : Fr) (H : Hp) (ops : Array Oper) : execT E B 12 (.region 17 ops true) fr H = regK E 12 17 (evOps E (callT E) ops.toList ops.toList fr H) := execT_draw0 ho12_17 fl12_17 ops
theorem fl13_9 : E.flo 13 9 = [] := by kernel_rfl
theorem ho13_9 : E.hol 13 9 = false := by kernel_rfl
theorem dr13_9 (B : Nat) (fr : Fr) (H : Hp) (ops : Array Oper) : execT E B 13 (.region 9 ops true) fr H = regK E 13 9 (evOps E (callT E) ops.toList ops.toList fr H) := execT_draw0 ho13_9 fl13_9 ops
theorem fl14_6 : E.flo 14 6 = [] := by kernel_rfl
theorem ho14_6 : E.hol 14 6 = false := by kernel_rfl
theorem dr14_6 (B : Nat) (fr : Fr) (H : Hp) (ops : Array Oper) : execT E B 14 (.region 6 ops true) fr H = regK E 14 6 (evOps E (callT E) ops.toList ops.toList fr H) := execT_draw0 ho14_6 fl14_6 ops
theorem fl30_4 : E.flo 30 4 = [] := by kernel_rfl
theorem ho30_4 : E.hol 30 4 = false := by kernel_rfl
theorem dr30_4 (B : Nat) (fr : Fr) (H : Hp) (ops : Array Oper) : execT E B 30 (.region 4 ops true) fr H = regK E 30 4 (evOps E (callT E) ops.toList ops.toList fr H) := execT_draw0 ho30_4 fl30_4 ops
theorem fl52_7 : E.flo 52 7 = [] := by kernel_rfl
theorem ho52_7 : E.hol 52 7 = false := by kernel_rfl
theorem dr52_7 (B : Nat) (fr : Fr) (H : Hp) (ops : Array Oper) : execT E B 52 (.region 7 ops true) fr H = regK E 52 7 (evOps E (callT E) ops.toList ops.toList fr H) := execT_draw0 ho52_7 fl52_7 ops
theorem fl52_8 : E.flo 52 8 = [] := by kernel_rfl
theorem ho52_8 : E.hol 52 8 = false := by kernel_rfl
theorem dr52_8 (B : Nat) (fr : Fr) (H : Hp) (ops : Array Oper) : execT E B 52 (.region 8 ops true) fr H = regK E 52 8 (evOps E (callT E) ops.toList ops.toList fr H) := execT_draw0 ho52_8 fl52_8 ops
theorem fl52_9 : E.flo 52 9 = [] := by kernel_rfl
theorem ho52_9 : E.hol 52 9 = false := by kernel_rfl
theorem dr52_9 (B : Nat) (fr : Fr) (H : Hp) (ops : Array Oper) : execT E B 52 (.region 9 ops true) fr H = regK E 52 9 (evOps E (callT E) ops.toList ops.toList fr H) := execT_draw0 ho52_9 fl52_9 ops
theorem fl52_10 : E.flo 52 10 = [] := by kernel_rfl
theorem ho52_10 : E.hol 52 10 = false := by kernel_rfl
theorem dr52_10 (B : Nat) (fr : Fr) (H : Hp) (ops : Array Oper) : execT E B 52 (.region 10 ops true) fr H = regK E 52 10 (evOps E (callT E) ops.toList ops.toList fr H) := execT_draw0 ho52_10 fl52_10 ops
theorem fl52_17 : E.flo 52 17 = [] := by kernel_rfl
theorem ho52_17 : E.hol 52 17 = false := by kernel_rfl
theorem dr52_17 (B : Nat) (fr : Fr) (H : Hp) (ops : Array Oper) : execT E B 52 (.region 17 ops true) fr H = regK E 52 17 (evOps E (callT E) ops.toList ops.toList fr H) := execT_draw0 ho52_17 fl52_17 ops
theorem fl52_18 : E.flo 52 18 = [] := by kernel_rfl
theorem ho52_18 : E.hol 52 18 = false := by kernel_rfl
theorem dr52_18 (B : Nat) (fr : Fr) (H : Hp) (ops : Array Oper) : execT E B 52 (.region 18 ops true) fr H = regK E 52 18 (evOps E (callT E) ops.toList ops.toList fr H) := execT_draw0 ho52_18 fl52_18 ops
theorem fl52_23 : E.flo 52 23 = [] := by kernel_rfl
theorem ho52_23 : E.hol 52 23 = false := by kernel_rfl
theorem dr52_23 (B : Nat) (fr : Fr) (H : Hp) (ops : Array Oper) : execT E B 52 (.region 23 ops true) fr H = regK E 52 23 (evOps E (callT E) ops.toList ops.toList fr H) := execT_draw0 ho52_23 fl52_23 ops
theorem fl55_6 : E.flo 55 6 = [] := by kernel_rfl
theorem ho55_6 : E.hol 55 6 = false := by kernel_rfl
theorem dr55_6 (B : Nat) (fr : Fr) (H : Hp) (ops : Array Oper) : execT E B 55 (.region 6 ops true) fr H = regK E 55 6 (evOps E (callT E) ops.toList ops.toList fr H) := execT_draw0 ho55_6 fl55_6 ops
theorem fl55_7 : E.flo 55 7 = [] := by kernel_rfl
theorem ho55_7 : E.hol 55 7 = false := by kernel_rfl
theorem dr55_7 (B : Nat) (fr : Fr) (H : Hp) (ops : Array Oper) : execT E B 55 (.region 7 ops true) fr H = regK E 55 7 (evOps E (callT E) ops.toList ops.toList fr H) := execT_draw0 ho55_7 fl55_7 ops
theorem fl55_14 : E.flo 55 14 = [] := by kernel_rfl
theorem ho55_14 : E.hol 55 14 = false := by kernel_rfl
theorem dr55_14 (B : Nat) (fr : Fr) (H : Hp) (ops : Array Oper) : execT E B 55 (.region 14 ops true) fr H = regK E 55 14 (evOps E (callT E) ops.toList ops.toList fr H) := execT_draw0 ho55_14 fl55_14 ops
theorem fl55_31 : E.flo 55 31 = [] := by kernel_rfl
theorem ho55_31 : E.hol 55 31 = false := by kernel_rfl
theorem dr55_31 (B : Nat) (fr : Fr) (H : Hp) (ops : Array Oper) : execT E B 55 (.region 31 ops true) fr H = regK E 55 31 (evOps E (callT E) ops.toList ops.toList fr H) := execT_draw0 ho55_31 fl55_31 ops
theorem mt7_6 : E.mat 7 6 = [] := by kernel_rfl
theorem mb7_6 : E.matb 7 6 = [] := by kernel_rfl
theorem zf7_6 : E.frz 7 6 = [] := by kernel_rfl
theorem mt12_7 : E.mat 12 7 = [] := by kernel_rfl
theorem mb12_7 : E.matb 12 7 = [(7, 0, 1)] := by kernel_rfl
theorem zf12_7 : E.frz 12 7 = [] := by kernel_rfl
theorem mt13_7 : E.mat 13 7 = [] := by kernel_rfl
theorem mb13_7 : E.matb 13 7 = [] := by kernel_rfl
theorem zf13_7 : E.frz 13 7 = [] := by kernel_rfl
theorem mt13_11 : E.mat 13 11 = [] := by kernel_rfl
theorem mb13_11 : E.matb 13 11 = [] := by kernel_rfl
theorem zf13_11 : E.frz 13 11 = [] := by kernel_rfl
theorem mt13_20 : E.mat 13 20 = [(12, 1)] := by kernel_rfl
theorem mb13_20 : E.matb 13 20 = [] := by kernel_rfl
theorem zf13_20 : E.frz 13 20 = [] := by kernel_rfl
theorem mt14_4 : E.mat 14 4 = [] := by kernel_rfl
theorem mb14_4 : E.matb 14 4 = [] := by kernel_rfl
theorem zf14_4 : E.frz 14 4 = [] := by kernel_rfl
theorem mt15_13 : E.mat 15 13 = [(8, 1)] := by kernel_rfl
theorem mb15_13 : E.matb 15 13 = [] := by kernel_rfl
theorem zf15_13 : E.frz 15 13 = [] := by kernel_rfl
theorem mt16_4 : E.mat 16 4 = [] := by kernel_rfl
theorem mb16_4 : E.matb 16 4 = [] := by kernel_rfl
theorem zf16_4 : E.frz 16 4 = [] := by kernel_rfl
theorem mt16_9 : E.mat 16 9 = [] := by kernel_rfl
theorem mb16_9 : E.matb 16 9 = [] := by kernel_rfl
theorem zf16_9 : E.frz 16 9 = [] := by kernel_rfl
theorem mt16_17 : E.mat 16 17 = [] := by kernel_rfl
theorem mb16_17 : E.matb 16 17 = [] := by kernel_rfl
theorem zf16_17 : E.frz 16 17 = [] := by kernel_rfl
theorem mt29_2 : E.mat 29 2 = [] := by kernel_rfl
theorem mb29_2 : E.matb 29 2 = [] := by kernel_rfl
theorem zf29_2 : E.frz 29 2 = [] := by kernel_rfl
theorem mt34_2 : E.mat 34 2 = [] := by kernel_rfl
theorem mb34_2 : E.matb 34 2 = [] := by kernel_rfl
theorem zf34_2 : E.frz 34 2 = [] := by kernel_rfl
theorem mt36_1 : E.mat 36 1 = [] := by kernel_rfl
theorem mb36_1 : E.matb 36 1 = [] := by kernel_rfl
theorem zf36_1 : E.frz 36 1 = [] := by kernel_rfl
theorem mt37_1 : E.mat 37 1 = [] := by kernel_rfl
theorem mb37_1 : E.matb 37 1 = [] := by kernel_rfl
theorem zf37_1 : E.frz 37 1 = [] := by kernel_rfl
theorem mt38_2 : E.mat 38 2 = [] := by kernel_rfl
theorem mb38_2 : E.matb 38 2 = [] := by kernel_rfl
theorem zf38_2 : E.frz 38 2 = [] := by kernel_rfl
theorem mt39_1 : E.mat 39 1 = [] := by kernel_rfl
theorem mb39_1 : E.matb 39 1 = [] := by kernel_rfl
theorem zf39_1 : E.frz 39 1 = [] := by kernel_rfl
theorem mt40_1 : E.mat 40 1 = [] := by kernel_rfl
theorem mb40_1 : E.matb 40 1 = [] := by kernel_rfl
theorem zf40_1 : E.frz 40 1 = [] := by kernel_rfl
theorem mt41_1 : E.mat 41 1 = [] := by kernel_rfl
theorem mb41_1 : E.matb 41 1 = [] := by kernel_rfl
theorem zf41_1 : E.frz 41 1 = [] := by kernel_rfl
theorem mt42_1 : E.mat 42 1 = [] := by kernel_rfl
theorem mb42_1 : E.matb 42 1 = [] := by kernel_rfl
theorem zf42_1 : E.frz 42 1 = [] := by kernel_rfl
theorem mt48_10 : E.mat 48 10 = [] := by kernel_rfl
theorem mb48_10 : E.matb 48 10 = [] := by kernel_rfl
theorem zf48_10 : E.frz 48 10 = [] := by kernel_rfl
theorem mt49_2 : E.mat 49 2 = [] := by kernel_rfl
theorem mb49_2 : E.matb 49 2 = [] := by kernel_rfl
theorem zf49_2 : E.frz 49 2 = [] := by kernel_rfl
theorem mt52_1 : E.mat 52 1 = [] := by kernel_rfl
theorem mb52_1 : E.matb 52 1 = [] := by kernel_rfl
theorem zf52_1 : E.frz 52 1 = [] := by kernel_rfl
theorem mt53_11 : E.mat 53 11 = [(0, 1)] := by kernel_rfl
theorem mb53_11 : E.matb 53 11 = [] := by kernel_rfl
theorem zf53_11 : E.frz 53 11 = [] := by kernel_rfl
theorem mt53_18 : E.mat 53 18 = [(0, 1)] := by kernel_rfl
theorem mb53_18 : E.matb 53 18 = [] := by kernel_rfl
theorem zf53_18 : E.frz 53 18 = [] := by kernel_rfl
theorem mt55_5 : E.mat 55 5 = [] := by kernel_rfl
theorem mb55_5 : E.matb 55 5 = [] := by kernel_rfl
theorem zf55_5 : E.frz 55 5 = [] := by kernel_rfl
theorem mt55_12 : E.mat 55 12 = [] := by kernel_rfl
theorem mb55_12 : E.matb 55 12 = [] := by kernel_rfl
theorem zf55_12 : E.frz 55 12 = [] := by kernel_rfl
theorem mt55_25 : E.mat 55 25 = [] := by kernel_rfl
theorem mb55_25 : E.matb 55 25 = [] := by kernel_rfl
theorem zf55_25 : E.frz 55 25 = [] := by kernel_rfl
theorem mt55_29 : E.mat 55 29 = [] := by kernel_rfl
theorem mb55_29 : E.matb 55 29 = [] := by kernel_rfl
theorem zf55_29 : E.frz 55 29 = [] := by kernel_rfl
theorem mt55_38 : E.mat 55 38 = [] := by kernel_rfl
theorem mb55_38 : E.matb 55 38 = [] := by kernel_rfl
theorem zf55_38 : E.frz 55 38 = [] := by kernel_rfl
theorem ak2 : E.argk 2 = [] := by kernel_rfl
theorem rk2 : E.resk 2 = [] := by kernel_rfl
theorem ow2 : E.own 2 = false := by kernel_rfl
theorem pe2 (args : List AV) (H : Hp) : prepE E 2 H args = peP E 2 (prep H args) := prepE_v rfl args
theorem cr2 (args : List AV) (H : Hp) : calleeR E 2 args H = crK args (peP E 2 (prep H args)) := (cr_prep args).trans (by rw [pe2])
theorem ci2 (args : List AV) (H : Hp) : callIso E (callT E) 2 args H = prepK E (callT E) 2 (peP E 2 (prep H args)) := (iso_prep args).trans (by rw [pe2])
theorem ak3 : E.argk 3 = [] := by kernel_rfl
theorem rk3 : E.resk 3 = [] := by kernel_rfl
theorem ow3 : E.own 3 = false := by kernel_rfl
theorem pe3 (args : List AV) (H : Hp) : prepE E 3 H args = peP E 3 (prep H args) := prepE_v rfl args
theorem cr3 (args : List AV) (H : Hp) : calleeR E 3 args H = crK args (peP E 3 (prep H args)) := (cr_prep args).trans (by rw [pe3])
theorem ci3 (args : List AV) (H : Hp) : callIso E (callT E) 3 args H = prepK E (callT E) 3 (peP E 3 (prep H args)) := (iso_prep args).trans (by rw [pe3])
theorem ak4 : E.argk 4 = [[], [some 1]] := by kernel_rfl
theorem rk4 : E.resk 4 = [] := by kernel_rfl
theorem ow4 : E.own 4 = false := by kernel_rfl
theorem pe4 (args : List AV) (H : Hp) : prepE E 4 H args = peP E 4 (prep H args) := prepE_v rfl args
theorem cr4 (args : List AV) (H : Hp) : calleeR E 4 args H = crK args (peP E 4 (prep H args)) := (cr_prep args).trans (by rw [pe4])
theorem ci4 (args : List AV) (H : Hp) : callIso E (callT E) 4 args H = prepK E (callT E) 4 (peP E 4 (prep H args)) := (iso_prep args).trans (by rw [pe4])
theorem ak5 : E.argk 5 = [] := by kernel_rfl
theorem rk5 : E.resk 5 = [] := by kernel_rfl
theorem ow5 : E.own 5 = false := by kernel_rfl
theorem pe5 (args : List AV) (H : Hp) : prepE E 5 H args = peP E 5 (prep H args) := prepE_v rfl args
theorem cr5 (args : List AV) (H : Hp) : calleeR E 5 args H = crK args (peP E 5 (prep H args)) := (cr_prep args).trans (by rw [pe5])
theorem ci5 (args : List AV) (H : Hp) : callIso E (callT E) 5 args H = prepK E (callT E) 5 (peP E 5 (prep H args)) := (iso_prep args).trans (by rw [pe5])
theorem ak6 : E.argk 6 = [] := by kernel_rfl
theorem rk6 : E.resk 6 = [] := by kernel_rfl
theorem ow6 : E.own 6 = false := by kernel_rfl
theorem pe6 (args : List AV) (H : Hp) : prepE E 6 H args = peP E 6 (prep H args) := prepE_v rfl args
theorem cr6 (args : List AV) (H : Hp) : calleeR E 6 args H = crK args (peP E 6 (prep H args)) := (cr_prep args).trans (by rw [pe6])
theorem ci6 (args : List AV) (H : Hp) : callIso E (callT E) 6 args H = prepK E (callT E) 6 (peP E 6 (prep H args)) := (iso_prep args).trans (by rw [pe6])
theorem ak7 : E.argk 7 = [[], [some 1]] := by kernel_rfl
theorem rk7 : E.resk 7 = [] := by kernel_rfl
theorem ow7 : E.own 7 = false := by kernel_rfl
theorem pe7 (args : List AV) (H : Hp) : prepE E 7 H args = peP E 7 (prep H args) := prepE_v rfl args
theorem cr7 (args : List AV) (H : Hp) : calleeR E 7 args H = crK args (peP E 7 (prep H args)) := (cr_prep args).trans (by rw [pe7])
theorem ci7 (args : List AV) (H : Hp) : callIso E (callT E) 7 args H = prepK E (callT E) 7 (peP E 7 (prep H args)) := (iso_prep args).trans (by rw [pe7])
theorem ak8 : E.argk 8 = [[some 1]] := by kernel_rfl
theorem rk8 : E.resk 8 = [] := by kernel_rfl
theorem ow8 : E.own 8 = false := by kernel_rfl
theorem pe8 (args : List AV) (H : Hp) : prepE E 8 H args = peP E 8 (prep H args) := prepE_v rfl args
theorem cr8 (args : List AV) (H : Hp) : calleeR E 8 args H = crK args (peP E 8 (prep H args)) := (cr_prep args).trans (by rw [pe8])
theorem ci8 (args : List AV) (H : Hp) : callIso E (callT E) 8 args H = prepK E (callT E) 8 (peP E 8 (prep H args)) := (iso_prep args).trans (by rw [pe8])
theorem ak9 : E.argk 9 = [] := by kernel_rfl
theorem rk9 : E.resk 9 = [] := by kernel_rfl
theorem ow9 : E.own 9 = false := by kernel_rfl
theorem pe9 (args : List AV) (H : Hp) : prepE E 9 H args = peP E 9 (prep H args) := prepE_v rfl args
theorem cr9 (args : List AV) (H : Hp) : calleeR E 9 args H = crK args (peP E 9 (prep H args)) := (cr_prep args).trans (by rw [pe9])
theorem ci9 (args : List AV) (H : Hp) : callIso E (callT E) 9 args H = prepK E (callT E) 9 (peP E 9 (prep H args)) := (iso_prep args).trans (by rw [pe9])
theorem ak10 : E.argk 10 = [] := by kernel_rfl
theorem rk10 : E.resk 10 = [] := by kernel_rfl
theorem ow10 : E.own 10 = false := by kernel_rfl
theorem pe10 (args : List AV) (H : Hp) : prepE E 10 H args = peP E 10 (prep H args) := prepE_v rfl args
theorem cr10 (args : List AV) (H : Hp) : calleeR E 10 args H = crK args (peP E 10 (prep H args)) := (cr_prep args).trans (by rw [pe10])
theorem ci10 (args : List AV) (H : Hp) : callIso E (callT E) 10 args H = prepK E (callT E) 10 (peP E 10 (prep H args)) := (iso_prep args).trans (by rw [pe10])
theorem ak11 : E.argk 11 = [] := by kernel_rfl
theorem rk11 : E.resk 11 = [] := by kernel_rfl
theorem ow11 : E.own 11 = false := by kernel_rfl
theorem pe11 (args : List AV) (H : Hp) : prepE E 11 H args = peP E 11 (prep H args) := prepE_v rfl args
theorem cr11 (args : List AV) (H : Hp) : calleeR E 11 args H = crK args (peP E 11 (prep H args)) := (cr_prep args).trans (by rw [pe11])
theorem ci11 (args : List AV) (H : Hp) : callIso E (callT E) 11 args H = prepK E (callT E) 11 (peP E 11 (prep H args)) := (iso_prep args).trans (by rw [pe11])
theorem ak12 : E.argk 12 = [] := by kernel_rfl
theorem rk12 : E.resk 12 = [[], [some 1]] := by kernel_rfl
theorem ow12 : E.own 12 = false := by kernel_rfl
theorem pe12 (args : List AV) (H : Hp) : prepE E 12 H args = peP E 12 (prep H args) := prepE_v rfl args
theorem cr12 (args : List AV) (H : Hp) : calleeR E 12 args H = crK args (peP E 12 (prep H args)) := (cr_prep args).trans (by rw [pe12])
theorem ci12 (args : List AV) (H : Hp) : callIso E (callT E) 12 args H = prepK E (callT E) 12 (peP E 12 (prep H args)) := (iso_prep args).trans (by rw [pe12])
theorem ak13 : E.argk 13 = [] := by kernel_rfl
theorem rk13 : E.resk 13 = [[], [some 1]] := by kernel_rfl
theorem ow13 : E.own 13 = false := by kernel_rfl
theorem pe13 (args : List AV) (H : Hp) : prepE E 13 H args = peP E 13 (prep H args) := prepE_v rfl args
theorem cr13 (args : List AV) (H : Hp) : calleeR E 13 args H = crK args (peP E 13 (prep H args)) := (cr_prep args).trans (by rw [pe13])
theorem ci13 (args : List AV) (H : Hp) : callIso E (callT E) 13 args H = prepK E (callT E) 13 (peP E 13 (prep H args)) := (iso_prep args).trans (by rw [pe13])
theorem ak14 : E.argk 14 = [[some 1], [some 1]] := by kernel_rfl
theorem rk14 : E.resk 14 = [] := by kernel_rfl
theorem ow14 : E.own 14 = false := by kernel_rfl
theorem pe14 (args : List AV) (H : Hp) : prepE E 14 H args = peP E 14 (prep H args) := prepE_v rfl args
theorem cr14 (args : List AV) (H : Hp) : calleeR E 14 args H = crK args (peP E 14 (prep H args)) := (cr_prep args).trans (by rw [pe14])
theorem ci14 (args : List AV) (H : Hp) : callIso E (callT E) 14 args H = prepK E (callT E) 14 (peP E 14 (prep H args)) := (iso_prep args).trans (by rw [pe14])
theorem ak15 : E.argk 15 = [[], [some 1]] := by kernel_rfl
theorem rk15 : E.resk 15 = [] := by kernel_rfl
theorem ow15 : E.own 15 = false := by kernel_rfl
theorem pe15 (args : List AV) (H : Hp) : prepE E 15 H args = peP E 15 (prep H args) := prepE_v rfl args
theorem cr15 (args : List AV) (H : Hp) : calleeR E 15 args H = crK args (peP E 15 (prep H args)) := (cr_prep args).trans (by rw [pe15])
theorem ci15 (args : List AV) (H : Hp) : callIso E (callT E) 15 args H = prepK E (callT E) 15 (peP E 15 (prep H args)) := (iso_prep args).trans (by rw [pe15])
theorem ak16 : E.argk 16 = [[], [some 1]] := by kernel_rfl
theorem rk16 : E.resk 16 = [] := by kernel_rfl
theorem ow16 : E.own 16 = false := by kernel_rfl
theorem pe16 (args : List AV) (H : Hp) : prepE E 16 H args = peP E 16 (prep H args) := prepE_v rfl args
theorem cr16 (args : List AV) (H : Hp) : calleeR E 16 args H = crK args (peP E 16 (prep H args)) := (cr_prep args).trans (by rw [pe16])
theorem ci16 (args : List AV) (H : Hp) : callIso E (callT E) 16 args H = prepK E (callT E) 16 (peP E 16 (prep H args)) := (iso_prep args).trans (by rw [pe16])
theorem ak17 : E.argk 17 = [[some 1]] := by kernel_rfl
theorem rk17 : E.resk 17 = [] := by kernel_rfl
theorem ow17 : E.own 17 = false := by kernel_rfl
theorem pe17 (args : List AV) (H : Hp) : prepE E 17 H args = peP E 17 (prep H args) := prepE_v rfl args
theorem cr17 (args : List AV) (H : Hp) : calleeR E 17 args H = crK args (peP E 17 (prep H args)) := (cr_prep args).trans (by rw [pe17])
theorem ci17 (args : List AV) (H : Hp) : callIso E (callT E) 17 args H = prepK E (callT E) 17 (peP E 17 (prep H args)) := (iso_prep args).trans (by rw [pe17])
theorem ak18 : E.argk 18 = [[some 1]] := by kernel_rfl
theorem rk18 : E.resk 18 = [] := by kernel_rfl
theorem ow18 : E.own 18 = false := by kernel_rfl
theorem pe18 (args : List AV) (H : Hp) : prepE E 18 H args = peP E 18 (prep H args) := prepE_v rfl args
theorem cr18 (args : List AV) (H : Hp) : calleeR E 18 args H = crK args (peP E 18 (prep H args)) := (cr_prep args).trans (by rw [pe18])
theorem ci18 (args : List AV) (H : Hp) : callIso E (callT E) 18 args H = prepK E (callT E) 18 (peP E 18 (prep H args)) := (iso_prep args).trans (by rw [pe18])
theorem ak19 : E.argk 19 = [] := by kernel_rfl
theorem rk19 : E.resk 19 = [] := by kernel_rfl
theorem ow19 : E.own 19 = false := by kernel_rfl
theorem pe19 (args : List AV) (H : Hp) : prepE E 19 H args = peP E 19 (prep H args) := prepE_v rfl args
theorem cr19 (args : List AV) (H : Hp) : calleeR E 19 args H = crK args (peP E 19 (prep H args)) := (cr_prep args).trans (by rw [pe19])
theorem ci19 (args : List AV) (H : Hp) : callIso E (callT E) 19 args H = prepK E (callT E) 19 (peP E 19 (prep H args)) := (iso_prep args).trans (by rw [pe19])
theorem ak20 : E.argk 20 = [] := by kernel_rfl
theorem rk20 : E.resk 20 = [] := by kernel_rfl
theorem ow20 : E.own 20 = false := by kernel_rfl
theorem pe20 (args : List AV) (H : Hp) : prepE E 20 H args = peP E 20 (prep H args) := prepE_v rfl args
theorem cr20 (args : List AV) (H : Hp) : calleeR E 20 args H = crK args (peP E 20 (prep H args)) := (cr_prep args).trans (by rw [pe20])
theorem ci20 (args : List AV) (H : Hp) : callIso E (callT E) 20 args H = prepK E (callT E) 20 (peP E 20 (prep H args)) := (iso_prep args).trans (by rw [pe20])
theorem ak21 : E.argk 21 = [] := by kernel_rfl
theorem rk21 : E.resk 21 = [] := by kernel_rfl
theorem ow21 : E.own 21 = false := by kernel_rfl
theorem pe21 (args : List AV) (H : Hp) : prepE E 21 H args = peP E 21 (prep H args) := prepE_v rfl args
theorem cr21 (args : List AV) (H : Hp) : calleeR E 21 args H = crK args (peP E 21 (prep H args)) := (cr_prep args).trans (by rw [pe21])
theorem ci21 (args : List AV) (H : Hp) : callIso E (callT E) 21 args H = prepK E (callT E) 21 (peP E 21 (prep H args)) := (iso_prep args).trans (by rw [pe21])
theorem ak22 : E.argk 22 = [] := by kernel_rfl
theorem rk22 : E.resk 22 = [] := by kernel_rfl
theorem ow22 : E.own 22 = false := by kernel_rfl
theorem pe22 (args : List AV) (H : Hp) : prepE E 22 H args = peP E 22 (prep H args) := prepE_v rfl args
theorem cr22 (args : List AV) (H : Hp) : calleeR E 22 args H = crK args (peP E 22 (prep H args)) := (cr_prep args).trans (by rw [pe22])
theorem ci22 (args : List AV) (H : Hp) : callIso E (callT E) 22 args H = prepK E (callT E) 22 (peP E 22 (prep H args)) := (iso_prep args).trans (by rw [pe22])
theorem ak23 : E.argk 23 = [[some 1]] := by kernel_rfl
theorem rk23 : E.resk 23 = [] := by kernel_rfl
theorem ow23 : E.own 23 = false := by kernel_rfl
theorem pe23 (args : List AV) (H : Hp) : prepE E 23 H args = peP E 23 (prep H args) := prepE_v rfl args
theorem cr23 (args : List AV) (H : Hp) : calleeR E 23 args H = crK args (peP E 23 (prep H args)) := (cr_prep args).trans (by rw [pe23])
theorem ci23 (args : List AV) (H : Hp) : callIso E (callT E) 23 args H = prepK E (callT E) 23 (peP E 23 (prep H args)) := (iso_prep args).trans (by rw [pe23])
theorem ak24 : E.argk 24 = [] := by kernel_rfl
theorem rk24 : E.resk 24 = [] := by kernel_rfl
theorem ow24 : E.own 24 = false := by kernel_rfl
theorem pe24 (args : List AV) (H : Hp) : prepE E 24 H args = peP E 24 (prep H args) := prepE_v rfl args
theorem cr24 (args : List AV) (H : Hp) : calleeR E 24 args H = crK args (peP E 24 (prep H args)) := (cr_prep args).trans (by rw [pe24])
theorem ci24 (args : List AV) (H : Hp) : callIso E (callT E) 24 args H = prepK E (callT E) 24 (peP E 24 (prep H args)) := (iso_prep args).trans (by rw [pe24])
theorem ak25 : E.argk 25 = [] := by kernel_rfl
theorem rk25 : E.resk 25 = [] := by kernel_rfl
theorem ow25 : E.own 25 = false := by kernel_rfl
theorem pe25 (args : List AV) (H : Hp) : prepE E 25 H args = peP E 25 (prep H args) := prepE_v rfl args
theorem cr25 (args : List AV) (H : Hp) : calleeR E 25 args H = crK args (peP E 25 (prep H args)) := (cr_prep args).trans (by rw [pe25])
theorem ci25 (args : List AV) (H : Hp) : callIso E (callT E) 25 args H = prepK E (callT E) 25 (peP E 25 (prep H args)) := (iso_prep args).trans (by rw [pe25])
theorem ak26 : E.argk 26 = [[some 1]] := by kernel_rfl
theorem rk26 : E.resk 26 = [] := by kernel_rfl
theorem ow26 : E.own 26 = false := by kernel_rfl
theorem pe26 (args : List AV) (H : Hp) : prepE E 26 H args = peP E 26 (prep H args) := prepE_v rfl args
theorem cr26 (args : List AV) (H : Hp) : calleeR E 26 args H = crK args (peP E 26 (prep H args)) := (cr_prep args).trans (by rw [pe26])
theorem ci26 (args : List AV) (H : Hp) : callIso E (callT E) 26 args H = prepK E (callT E) 26 (peP E 26 (prep H args)) := (iso_prep args).trans (by rw [pe26])
theorem ak27 : E.argk 27 = [] := by kernel_rfl
theorem rk27 : E.resk 27 = [] := by kernel_rfl
theorem ow27 : E.own 27 = false := by kernel_rfl
theorem pe27 (args : List AV) (H : Hp) : prepE E 27 H args = peP E 27 (prep H args) := prepE_v rfl args
theorem cr27 (args : List AV) (H : Hp) : calleeR E 27 args H = crK args (peP E 27 (prep H args)) := (cr_prep args).trans (by rw [pe27])
theorem ci27 (args : List AV) (H : Hp) : callIso E (callT E) 27 args H = prepK E (callT E) 27 (peP E 27 (prep H args)) := (iso_prep args).trans (by rw [pe27])
theorem ak28 : E.argk 28 = [[some 1]] := by kernel_rfl
theorem rk28 : E.resk 28 = [[some 1]] := by kernel_rfl
theorem ow28 : E.own 28 = false := by kernel_rfl
theorem pe28 (args : List AV) (H : Hp) : prepE E 28 H args = some (matL (E.argk 28) args H) := prepE_r rfl args
theorem cr28 (args : List AV) (H : Hp) : calleeR E 28 args H = crK args (some (matL (E.argk 28) args H)) := (cr_prep args).trans (by rw [pe28])
theorem ci28 (args : List AV) (H : Hp) : callIso E (callT E) 28 args H = prepK E (callT E) 28 (some (matL (E.argk 28) args H)) := (iso_prep args).trans (by rw [pe28])
theorem ak29 : E.argk 29 = [] := by kernel_rfl
theorem rk29 : E.resk 29 = [] := by kernel_rfl
theorem ow29 : E.own 29 = false := by kernel_rfl
theorem pe29 (args : List AV) (H : Hp) : prepE E 29 H args = peP E 29 (prep H args) := prepE_v rfl args
theorem cr29 (args : List AV) (H : Hp) : calleeR E 29 args H = crK args (peP E 29 (prep H args)) := (cr_prep args).trans (by rw [pe29])
theorem ci29 (args : List AV) (H : Hp) : callIso E (callT E) 29 args H = prepK E (callT E) 29 (peP E 29 (prep H args)) := (iso_prep args).trans (by rw [pe29])
theorem ak30 : E.argk 30 = [] := by kernel_rfl
theorem rk30 : E.resk 30 = [] := by kernel_rfl
theorem ow30 : E.own 30 = false := by kernel_rfl
theorem pe30 (args : List AV) (H : Hp) : prepE E 30 H args = peP E 30 (prep H args) := prepE_v rfl args
theorem cr30 (args : List AV) (H : Hp) : calleeR E 30 args H = crK args (peP E 30 (prep H args)) := (cr_prep args).trans (by rw [pe30])
theorem ci30 (args : List AV) (H : Hp) : callIso E (callT E) 30 args H = prepK E (callT E) 30 (peP E 30 (prep H args)) := (iso_prep args).trans (by rw [pe30])
theorem ak31 : E.argk 31 = [] := by kernel_rfl
theorem rk31 : E.resk 31 = [] := by kernel_rfl
theorem ow31 : E.own 31 = false := by kernel_rfl
theorem pe31 (args : List AV) (H : Hp) : prepE E 31 H args = peP E 31 (prep H args) := prepE_v rfl args
theorem cr31 (args : List AV) (H : Hp) : calleeR E 31 args H = crK args (peP E 31 (prep H args)) := (cr_prep args).trans (by rw [pe31])
theorem ci31 (args : List AV) (H : Hp) : callIso E (callT E) 31 args H = prepK E (callT E) 31 (peP E 31 (prep H args)) := (iso_prep args).trans (by rw [pe31])
theorem ak32 : E.argk 32 = [] := by kernel_rfl
theorem rk32 : E.resk 32 = [] := by kernel_rfl
theorem ow32 : E.own 32 = false := by kernel_rfl
theorem pe32 (args : List AV) (H : Hp) : prepE E 32 H args = peP E 32 (prep H args) := prepE_v rfl args
theorem cr32 (args : List AV) (H : Hp) : calleeR E 32 args H = crK args (peP E 32 (prep H args)) := (cr_prep args).trans (by rw [pe32])
theorem ci32 (args : List AV) (H : Hp) : callIso E (callT E) 32 args H = prepK E (callT E) 32 (peP E 32 (prep H args)) := (iso_prep args).trans (by rw [pe32])
theorem ak33 : E.argk 33 = [] := by kernel_rfl
theorem rk33 : E.resk 33 = [] := by kernel_rfl
theorem ow33 : E.own 33 = false := by kernel_rfl
theorem pe33 (args : List AV) (H : Hp) : prepE E 33 H args = peP E 33 (prep H args) := prepE_v rfl args
theorem cr33 (args : List AV) (H : Hp) : calleeR E 33 args H = crK args (peP E 33 (prep H args)) := (cr_prep args).trans (by rw [pe33])
theorem ci33 (args : List AV) (H : Hp) : callIso E (callT E) 33 args H = prepK E (callT E) 33 (peP E 33 (prep H args)) := (iso_prep args).trans (by rw [pe33])
theorem ak34 : E.argk 34 = [[some 1]] := by kernel_rfl
theorem rk34 : E.resk 34 = [] := by kernel_rfl
theorem ow34 : E.own 34 = false := by kernel_rfl
theorem pe34 (args : List AV) (H : Hp) : prepE E 34 H args = peP E 34 (prep H args) := prepE_v rfl args
theorem cr34 (args : List AV) (H : Hp) : calleeR E 34 args H = crK args (peP E 34 (prep H args)) := (cr_prep args).trans (by rw [pe34])
theorem ci34 (args : List AV) (H : Hp) : callIso E (callT E) 34 args H = prepK E (callT E) 34 (peP E 34 (prep H args)) := (iso_prep args).trans (by rw [pe34])
theorem ak35 : E.argk 35 = [[some 1]] := by kernel_rfl
theorem rk35 : E.resk 35 = [[some 1]] := by kernel_rfl
theorem ow35 : E.own 35 = false := by kernel_rfl
theorem pe35 (args : List AV) (H : Hp) : prepE E 35 H args = peP E 35 (prep H args) := prepE_v rfl args
theorem cr35 (args : List AV) (H : Hp) : calleeR E 35 args H = crK args (peP E 35 (prep H args)) := (cr_prep args).trans (by rw [pe35])
theorem ci35 (args : List AV) (H : Hp) : callIso E (callT E) 35 args H = prepK E (callT E) 35 (peP E 35 (prep H args)) := (iso_prep args).trans (by rw [pe35])
theorem ak36 : E.argk 36 = [] := by kernel_rfl
theorem rk36 : E.resk 36 = [] := by kernel_rfl
theorem ow36 : E.own 36 = false := by kernel_rfl
theorem pe36 (args : List AV) (H : Hp) : prepE E 36 H args = peP E 36 (prep H args) := prepE_v rfl args
theorem cr36 (args : List AV) (H : Hp) : calleeR E 36 args H = crK args (peP E 36 (prep H args)) := (cr_prep args).trans (by rw [pe36])
theorem ci36 (args : List AV) (H : Hp) : callIso E (callT E) 36 args H = prepK E (callT E) 36 (peP E 36 (prep H args)) := (iso_prep args).trans (by rw [pe36])
theorem ak37 : E.argk 37 = [] := by kernel_rfl
theorem rk37 : E.resk 37 = [] := by kernel_rfl
theorem ow37 : E.own 37 = false := by kernel_rfl
theorem pe37 (args : List AV) (H : Hp) : prepE E 37 H args = peP E 37 (prep H args) := prepE_v rfl args
theorem cr37 (args : List AV) (H : Hp) : calleeR E 37 args H = crK args (peP E 37 (prep H args)) := (cr_prep args).trans (by rw [pe37])
theorem ci37 (args : List AV) (H : Hp) : callIso E (callT E) 37 args H = prepK E (callT E) 37 (peP E 37 (prep H args)) := (iso_prep args).trans (by rw [pe37])
theorem ak38 : E.argk 38 = [] := by kernel_rfl
theorem rk38 : E.resk 38 = [] := by kernel_rfl
theorem ow38 : E.own 38 = false := by kernel_rfl
theorem pe38 (args : List AV) (H : Hp) : prepE E 38 H args = peP E 38 (prep H args) := prepE_v rfl args
theorem cr38 (args : List AV) (H : Hp) : calleeR E 38 args H = crK args (peP E 38 (prep H args)) := (cr_prep args).trans (by rw [pe38])
theorem ci38 (args : List AV) (H : Hp) : callIso E (callT E) 38 args H = prepK E (callT E) 38 (peP E 38 (prep H args)) := (iso_prep args).trans (by rw [pe38])
theorem ak39 : E.argk 39 = [] := by kernel_rfl
theorem rk39 : E.resk 39 = [] := by kernel_rfl
theorem ow39 : E.own 39 = false := by kernel_rfl
theorem pe39 (args : List AV) (H : Hp) : prepE E 39 H args = peP E 39 (prep H args) := prepE_v rfl args
theorem cr39 (args : List AV) (H : Hp) : calleeR E 39 args H = crK args (peP E 39 (prep H args)) := (cr_prep args).trans (by rw [pe39])
theorem ci39 (args : List AV) (H : Hp) : callIso E (callT E) 39 args H = prepK E (callT E) 39 (peP E 39 (prep H args)) := (iso_prep args).trans (by rw [pe39])
theorem ak40 : E.argk 40 = [] := by kernel_rfl
theorem rk40 : E.resk 40 = [] := by kernel_rfl
theorem ow40 : E.own 40 = false := by kernel_rfl
theorem pe40 (args : List AV) (H : Hp) : prepE E 40 H args = peP E 40 (prep H args) := prepE_v rfl args
theorem cr40 (args : List AV) (H : Hp) : calleeR E 40 args H = crK args (peP E 40 (prep H args)) := (cr_prep args).trans (by rw [pe40])
theorem ci40 (args : List AV) (H : Hp) : callIso E (callT E) 40 args H = prepK E (callT E) 40 (peP E 40 (prep H args)) := (iso_prep args).trans (by rw [pe40])
theorem ak41 : E.argk 41 = [] := by kernel_rfl
theorem rk41 : E.resk 41 = [] := by kernel_rfl
theorem ow41 : E.own 41 = false := by kernel_rfl
theorem pe41 (args : List AV) (H : Hp) : prepE E 41 H args = peP E 41 (prep H args) := prepE_v rfl args
theorem cr41 (args : List AV) (H : Hp) : calleeR E 41 args H = crK args (peP E 41 (prep H args)) := (cr_prep args).trans (by rw [pe41])
theorem ci41 (args : List AV) (H : Hp) : callIso E (callT E) 41 args H = prepK E (callT E) 41 (peP E 41 (prep H args)) := (iso_prep args).trans (by rw [pe41])
theorem ak42 : E.argk 42 = [] := by kernel_rfl
theorem rk42 : E.resk 42 = [] := by kernel_rfl
theorem ow42 : E.own 42 = false := by kernel_rfl
theorem pe42 (args : List AV) (H : Hp) : prepE E 42 H args = peP E 42 (prep H args) := prepE_v rfl args
theorem cr42 (args : List AV) (H : Hp) : calleeR E 42 args H = crK args (peP E 42 (prep H args)) := (cr_prep args).trans (by rw [pe42])
theorem ci42 (args : List AV) (H : Hp) : callIso E (callT E) 42 args H = prepK E (callT E) 42 (peP E 42 (prep H args)) := (iso_prep args).trans (by rw [pe42])
theorem ak43 : E.argk 43 = [] := by kernel_rfl
theorem rk43 : E.resk 43 = [] := by kernel_rfl
theorem ow43 : E.own 43 = false := by kernel_rfl
theorem pe43 (args : List AV) (H : Hp) : prepE E 43 H args = peP E 43 (prep H args) := prepE_v rfl args
theorem cr43 (args : List AV) (H : Hp) : calleeR E 43 args H = crK args (peP E 43 (prep H args)) := (cr_prep args).trans (by rw [pe43])
theorem ci43 (args : List AV) (H : Hp) : callIso E (callT E) 43 args H = prepK E (callT E) 43 (peP E 43 (prep H args)) := (iso_prep args).trans (by rw [pe43])
theorem ak44 : E.argk 44 = [[some 1]] := by kernel_rfl
theorem rk44 : E.resk 44 = [[some 1]] := by kernel_rfl
theorem ow44 : E.own 44 = false := by kernel_rfl
theorem pe44 (args : List AV) (H : Hp) : prepE E 44 H args = peP E 44 (prep H args) := prepE_v rfl args
theorem cr44 (args : List AV) (H : Hp) : calleeR E 44 args H = crK args (peP E 44 (prep H args)) := (cr_prep args).trans (by rw [pe44])
theorem ci44 (args : List AV) (H : Hp) : callIso E (callT E) 44 args H = prepK E (callT E) 44 (peP E 44 (prep H args)) := (iso_prep args).trans (by rw [pe44])
theorem ak45 : E.argk 45 = [] := by kernel_rfl
theorem rk45 : E.resk 45 = [] := by kernel_rfl
theorem ow45 : E.own 45 = false := by kernel_rfl
theorem pe45 (args : List AV) (H : Hp) : prepE E 45 H args = peP E 45 (prep H args) := prepE_v rfl args
theorem cr45 (args : List AV) (H : Hp) : calleeR E 45 args H = crK args (peP E 45 (prep H args)) := (cr_prep args).trans (by rw [pe45])
theorem ci45 (args : List AV) (H : Hp) : callIso E (callT E) 45 args H = prepK E (callT E) 45 (peP E 45 (prep H args)) := (iso_prep args).trans (by rw [pe45])
theorem ak46 : E.argk 46 = [] := by kernel_rfl
theorem rk46 : E.resk 46 = [] := by kernel_rfl
theorem ow46 : E.own 46 = false := by kernel_rfl
theorem pe46 (args : List AV) (H : Hp) : prepE E 46 H args = peP E 46 (prep H args) := prepE_v rfl args
theorem cr46 (args : List AV) (H : Hp) : calleeR E 46 args H = crK args (peP E 46 (prep H args)) := (cr_prep args).trans (by rw [pe46])
theorem ci46 (args : List AV) (H : Hp) : callIso E (callT E) 46 args H = prepK E (callT E) 46 (peP E 46 (prep H args)) := (iso_prep args).trans (by rw [pe46])
theorem ak47 : E.argk 47 = [] := by kernel_rfl
theorem rk47 : E.resk 47 = [] := by kernel_rfl
theorem ow47 : E.own 47 = false := by kernel_rfl
theorem pe47 (args : List AV) (H : Hp) : prepE E 47 H args = peP E 47 (prep H args) := prepE_v rfl args
theorem cr47 (args : List AV) (H : Hp) : calleeR E 47 args H = crK args (peP E 47 (prep H args)) := (cr_prep args).trans (by rw [pe47])
theorem ci47 (args : List AV) (H : Hp) : callIso E (callT E) 47 args H = prepK E (callT E) 47 (peP E 47 (prep H args)) := (iso_prep args).trans (by rw [pe47])
theorem ak48 : E.argk 48 = [] := by kernel_rfl
theorem rk48 : E.resk 48 = [] := by kernel_rfl
theorem ow48 : E.own 48 = false := by kernel_rfl
theorem pe48 (args : List AV) (H : Hp) : prepE E 48 H args = peP E 48 (prep H args) := prepE_v rfl args
theorem cr48 (args : List AV) (H : Hp) : calleeR E 48 args H = crK args (peP E 48 (prep H args)) := (cr_prep args).trans (by rw [pe48])
theorem ci48 (args : List AV) (H : Hp) : callIso E (callT E) 48 args H = prepK E (callT E) 48 (peP E 48 (prep H args)) := (iso_prep args).trans (by rw [pe48])
theorem ak49 : E.argk 49 = [] := by kernel_rfl
theorem rk49 : E.resk 49 = [] := by kernel_rfl
theorem ow49 : E.own 49 = false := by kernel_rfl
theorem pe49 (args : List AV) (H : Hp) : prepE E 49 H args = peP E 49 (prep H args) := prepE_v rfl args
theorem cr49 (args : List AV) (H : Hp) : calleeR E 49 args H = crK args (peP E 49 (prep H args)) := (cr_prep args).trans (by rw [pe49])
theorem ci49 (args : List AV) (H : Hp) : callIso E (callT E) 49 args H = prepK E (callT E) 49 (peP E 49 (prep H args)) := (iso_prep args).trans (by rw [pe49])
theorem ak50 : E.argk 50 = [] := by kernel_rfl
theorem rk50 : E.resk 50 = [] := by kernel_rfl
theorem ow50 : E.own 50 = false := by kernel_rfl
theorem pe50 (args : List AV) (H : Hp) : prepE E 50 H args = peP E 50 (prep H args) := prepE_v rfl args
theorem cr50 (args : List AV) (H : Hp) : calleeR E 50 args H = crK args (peP E 50 (prep H args)) := (cr_prep args).trans (by rw [pe50])
theorem ci50 (args : List AV) (H : Hp) : callIso E (callT E) 50 args H = prepK E (callT E) 50 (peP E 50 (prep H args)) := (iso_prep args).trans (by rw [pe50])
theorem ak51 : E.argk 51 = [] := by kernel_rfl
theorem rk51 : E.resk 51 = [] := by kernel_rfl
theorem ow51 : E.own 51 = false := by kernel_rfl
theorem pe51 (args : List AV) (H : Hp) : prepE E 51 H args = peP E 51 (prep H args) := prepE_v rfl args
theorem cr51 (args : List AV) (H : Hp) : calleeR E 51 args H = crK args (peP E 51 (prep H args)) := (cr_prep args).trans (by rw [pe51])
theorem ci51 (args : List AV) (H : Hp) : callIso E (callT E) 51 args H = prepK E (callT E) 51 (peP E 51 (prep H args)) := (iso_prep args).trans (by rw [pe51])
theorem ak52 : E.argk 52 = [[some 1]] := by kernel_rfl
theorem rk52 : E.resk 52 = [] := by kernel_rfl
theorem ow52 : E.own 52 = false := by kernel_rfl
theorem pe52 (args : List AV) (H : Hp) : prepE E 52 H args = peP E 52 (prep H args) := prepE_v rfl args
theorem cr52 (args : List AV) (H : Hp) : calleeR E 52 args H = crK args (peP E 52 (prep H args)) := (cr_prep args).trans (by rw [pe52])
theorem ci52 (args : List AV) (H : Hp) : callIso E (callT E) 52 args H = prepK E (callT E) 52 (peP E 52 (prep H args)) := (iso_prep args).trans (by rw [pe52])
theorem ak53 : E.argk 53 = [[some 1]] := by kernel_rfl
theorem rk53 : E.resk 53 = [[some 1]] := by kernel_rfl
theorem ow53 : E.own 53 = false := by kernel_rfl
theorem pe53 (args : List AV) (H : Hp) : prepE E 53 H args = peP E 53 (prep H args) := prepE_v rfl args
theorem cr53 (args : List AV) (H : Hp) : calleeR E 53 args H = crK args (peP E 53 (prep H args)) := (cr_prep args).trans (by rw [pe53])
theorem ci53 (args : List AV) (H : Hp) : callIso E (callT E) 53 args H = prepK E (callT E) 53 (peP E 53 (prep H args)) := (iso_prep args).trans (by rw [pe53])
theorem ak54 : E.argk 54 = [] := by kernel_rfl
theorem rk54 : E.resk 54 = [] := by kernel_rfl
theorem ow54 : E.own 54 = false := by kernel_rfl
theorem pe54 (args : List AV) (H : Hp) : prepE E 54 H args = peP E 54 (prep H args) := prepE_v rfl args
theorem cr54 (args : List AV) (H : Hp) : calleeR E 54 args H = crK args (peP E 54 (prep H args)) := (cr_prep args).trans (by rw [pe54])
theorem ci54 (args : List AV) (H : Hp) : callIso E (callT E) 54 args H = prepK E (callT E) 54 (peP E 54 (prep H args)) := (iso_prep args).trans (by rw [pe54])
theorem ak55 : E.argk 55 = [] := by kernel_rfl
theorem rk55 : E.resk 55 = [] := by kernel_rfl
theorem ow55 : E.own 55 = false := by kernel_rfl
theorem pe55 (args : List AV) (H : Hp) : prepE E 55 H args = peP E 55 (prep H args) := prepE_v rfl args
theorem cr55 (args : List AV) (H : Hp) : calleeR E 55 args H = crK args (peP E 55 (prep H args)) := (cr_prep args).trans (by rw [pe55])
theorem ci55 (args : List AV) (H : Hp) : callIso E (callT E) 55 args H = prepK E (callT E) 55 (peP E 55 (prep H args)) := (iso_prep args).trans (by rw [pe55])
theorem ak56 : E.argk 56 = [] := by kernel_rfl
theorem rk56 : E.resk 56 = [] := by kernel_rfl
theorem ow56 : E.own 56 = false := by kernel_rfl
theorem pe56 (args : List AV) (H : Hp) : prepE E 56 H args = peP E 56 (prep H args) := prepE_v rfl args
theorem cr56 (args : List AV) (H : Hp) : calleeR E 56 args H = crK args (peP E 56 (prep H args)) := (cr_prep args).trans (by rw [pe56])
theorem ci56 (args : List AV) (H : Hp) : callIso E (callT E) 56 args H = prepK E (callT E) 56 (peP E 56 (prep H args)) := (iso_prep args).trans (by rw [pe56])
theorem ak57 : E.argk 57 = [] := by kernel_rfl
theorem rk57 : E.resk 57 = [] := by kernel_rfl
theorem ow57 : E.own 57 = false := by kernel_rfl
theorem pe57 (args : List AV) (H : Hp) : prepE E 57 H args = peP E 57 (prep H args) := prepE_v rfl args
theorem cr57 (args : List AV) (H : Hp) : calleeR E 57 args H = crK args (peP E 57 (prep H args)) := (cr_prep args).trans (by rw [pe57])
theorem ci57 (args : List AV) (H : Hp) : callIso E (callT E) 57 args H = prepK E (callT E) 57 (peP E 57 (prep H args)) := (iso_prep args).trans (by rw [pe57])
theorem ak58 : E.argk 58 = [] := by kernel_rfl
theorem rk58 : E.resk 58 = [] := by kernel_rfl
theorem ow58 : E.own 58 = false := by kernel_rfl
theorem pe58 (args : List AV) (H : Hp) : prepE E 58 H args = peP E 58 (prep H args) := prepE_v rfl args
theorem cr58 (args : List AV) (H : Hp) : calleeR E 58 args H = crK args (peP E 58 (prep H args)) := (cr_prep args).trans (by rw [pe58])
theorem ci58 (args : List AV) (H : Hp) : callIso E (callT E) 58 args H = prepK E (callT E) 58 (peP E 58 (prep H args)) := (iso_prep args).trans (by rw [pe58])
theorem ak59 : E.argk 59 = [] := by kernel_rfl
theorem rk59 : E.resk 59 = [] := by kernel_rfl
theorem ow59 : E.own 59 = false := by kernel_rfl
theorem pe59 (args : List AV) (H : Hp) : prepE E 59 H args = peP E 59 (prep H args) := prepE_v rfl args
theorem cr59 (args : List AV) (H : Hp) : calleeR E 59 args H = crK args (peP E 59 (prep H args)) := (cr_prep args).trans (by rw [pe59])
theorem ci59 (args : List AV) (H : Hp) : callIso E (callT E) 59 args H = prepK E (callT E) 59 (peP E 59 (prep H args)) := (iso_prep args).trans (by rw [pe59])
theorem ak60 : E.argk 60 = [] := by kernel_rfl
theorem rk60 : E.resk 60 = [] := by kernel_rfl
theorem ow60 : E.own 60 = false := by kernel_rfl
theorem pe60 (args : List AV) (H : Hp) : prepE E 60 H args = peP E 60 (prep H args) := prepE_v rfl args
theorem cr60 (args : List AV) (H : Hp) : calleeR E 60 args H = crK args (peP E 60 (prep H args)) := (cr_prep args).trans (by rw [pe60])
theorem ci60 (args : List AV) (H : Hp) : callIso E (callT E) 60 args H = prepK E (callT E) 60 (peP E 60 (prep H args)) := (iso_prep args).trans (by rw [pe60])
theorem ak61 : E.argk 61 = [] := by kernel_rfl
theorem rk61 : E.resk 61 = [] := by kernel_rfl
theorem ow61 : E.own 61 = false := by kernel_rfl
theorem pe61 (args : List AV) (H : Hp) : prepE E 61 H args = peP E 61 (prep H args) := prepE_v rfl args
theorem cr61 (args : List AV) (H : Hp) : calleeR E 61 args H = crK args (peP E 61 (prep H args)) := (cr_prep args).trans (by rw [pe61])
theorem ci61 (args : List AV) (H : Hp) : callIso E (callT E) 61 args H = prepK E (callT E) 61 (peP E 61 (prep H args)) := (iso_prep args).trans (by rw [pe61])
theorem ak62 : E.argk 62 = [] := by kernel_rfl
theorem rk62 : E.resk 62 = [] := by kernel_rfl
theorem ow62 : E.own 62 = false := by kernel_rfl
theorem pe62 (args : List AV) (H : Hp) : prepE E 62 H args = peP E 62 (prep H args) := prepE_v rfl args
theorem cr62 (args : List AV) (H : Hp) : calleeR E 62 args H = crK args (peP E 62 (prep H args)) := (cr_prep args).trans (by rw [pe62])
theorem ci62 (args : List AV) (H : Hp) : callIso E (callT E) 62 args H = prepK E (callT E) 62 (peP E 62 (prep H args)) := (iso_prep args).trans (by rw [pe62])
theorem ak63 : E.argk 63 = [] := by kernel_rfl
theorem rk63 : E.resk 63 = [] := by kernel_rfl
theorem ow63 : E.own 63 = false := by kernel_rfl
theorem pe63 (args : List AV) (H : Hp) : prepE E 63 H args = peP E 63 (prep H args) := prepE_v rfl args
theorem cr63 (args : List AV) (H : Hp) : calleeR E 63 args H = crK args (peP E 63 (prep H args)) := (cr_prep args).trans (by rw [pe63])
theorem ci63 (args : List AV) (H : Hp) : callIso E (callT E) 63 args H = prepK E (callT E) 63 (peP E 63 (prep H args)) := (iso_prep args).trans (by rw [pe63])
theorem ak64 : E.argk 64 = [] := by kernel_rfl
theorem rk64 : E.resk 64 = [] := by kernel_rfl
theorem ow64 : E.own 64 = false := by kernel_rfl
theorem pe64 (args : List AV) (H : Hp) : prepE E 64 H args = peP E 64 (prep H args) := prepE_v rfl args
theorem cr64 (args : List AV) (H : Hp) : calleeR E 64 args H = crK args (peP E 64 (prep H args)) := (cr_prep args).trans (by rw [pe64])
theorem ci64 (args : List AV) (H : Hp) : callIso E (callT E) 64 args H = prepK E (callT E) 64 (peP E 64 (prep H args)) := (iso_prep args).trans (by rw [pe64])
theorem ak66 : E.argk 66 = [] := by kernel_rfl
theorem rk66 : E.resk 66 = [] := by kernel_rfl
theorem ow66 : E.own 66 = false := by kernel_rfl
theorem pe66 (args : List AV) (H : Hp) : prepE E 66 H args = peP E 66 (prep H args) := prepE_v rfl args
theorem cr66 (args : List AV) (H : Hp) : calleeR E 66 args H = crK args (peP E 66 (prep H args)) := (cr_prep args).trans (by rw [pe66])
theorem ci66 (args : List AV) (H : Hp) : callIso E (callT E) 66 args H = prepK E (callT E) 66 (peP E 66 (prep H args)) := (iso_prep args).trans (by rw [pe66])
theorem ak67 : E.argk 67 = [] := by kernel_rfl
theorem rk67 : E.resk 67 = [] := by kernel_rfl
theorem ow67 : E.own 67 = false := by kernel_rfl
theorem pe67 (args : List AV) (H : Hp) : prepE E 67 H args = peP E 67 (prep H args) := prepE_v rfl args
theorem cr67 (args : List AV) (H : Hp) : calleeR E 67 args H = crK args (peP E 67 (prep H args)) := (cr_prep args).trans (by rw [pe67])
theorem ci67 (args : List AV) (H : Hp) : callIso E (callT E) 67 args H = prepK E (callT E) 67 (peP E 67 (prep H args)) := (iso_prep args).trans (by rw [pe67])
theorem ak68 : E.argk 68 = [] := by kernel_rfl
theorem rk68 : E.resk 68 = [] := by kernel_rfl
theorem ow68 : E.own 68 = false := by kernel_rfl
theorem pe68 (args : List AV) (H : Hp) : prepE E 68 H args = peP E 68 (prep H args) := prepE_v rfl args
theorem cr68 (args : List AV) (H : Hp) : calleeR E 68 args H = crK args (peP E 68 (prep H args)) := (cr_prep args).trans (by rw [pe68])
theorem ci68 (args : List AV) (H : Hp) : callIso E (callT E) 68 args H = prepK E (callT E) 68 (peP E 68 (prep H args)) := (iso_prep args).trans (by rw [pe68])
theorem ak93 : E.argk 93 = [] := by kernel_rfl
theorem rk93 : E.resk 93 = [] := by kernel_rfl
theorem ow93 : E.own 93 = false := by kernel_rfl
theorem pe93 (args : List AV) (H : Hp) : prepE E 93 H args = peP E 93 (prep H args) := prepE_v rfl args
theorem cr93 (args : List AV) (H : Hp) : calleeR E 93 args H = crK args (peP E 93 (prep H args)) := (cr_prep args).trans (by rw [pe93])
theorem ci93 (args : List AV) (H : Hp) : callIso E (callT E) 93 args H = prepK E (callT E) 93 (peP E 93 (prep H args)) := (iso_prep args).trans (by rw [pe93])
theorem bd50 (parts : List (Nat × AV)) : buildE E 50 parts = aggK (fillA 1 [.i (.v (.bool false)), .i (.v (.bool false)), .i (.v (.bool false)), .i (.v (.bool false)), .i (.v (.bool false)), .i (.v (.bool false)), .i (.v (.bool false)), .i (.v (.bool false)), .i (.v (.bool false)), .i (.v (.bool false)), .i (.v (.bool false)), .i (.v (.bool false)), .i (.v (.bool false)), .i (.v (.bool false)), .i (.v (.bool false)), .i (.v (.bool false)), .i (.v (.bool false)), .i (.v (.bool false)), .i (.v (.bool false)), .i (.v (.bool false)), .i (.v (.bool false)), .i (.v (.bool false)), .i (.v (.bool false)), .i (.v (.bool false)), .i (.v (.bool false)), .i (.v (.bool false)), .i (.v (.bool false)), .i (.v (.bool false)), .i (.v (.bool false)), .i (.v (.bool false)), .i (.v (.bool false)), .i (.v (.bool false)), .i (.v (.bool false)), .i (.v (.bool false)), .i (.v (.bool false)), .i (.v (.bool false)), .i (.v (.bool false)), .i (.v (.bool false)), .i (.v (.bool false)), .i (.v (.bool false)), .i (.v (.bool false)), .i (.v (.bool false)), .i (.v (.bool false)), .i (.v (.bool false)), .i (.v (.bool false)), .i (.v (.bool false)), .i (.v (.bool false)), .i (.v (.bool false)), .i (.v (.bool false)), .i (.v (.bool false)), .i (.v (.bool false)), .i (.v (.bool false)), .i (.v (.bool false)), .i (.v (.bool false)), .i (.v (.bool false)), .i (.v (.bool false)), .i (.v (.bool false)), .i (.v (.bool false)), .i (.v (.bool false)), .i (.v (.bool false)), .i (.v (.bool false)), .i (.v (.bool false)), .i (.v (.bool false)), .i (.v (.bool false)), .i (.v (.bool false)), .i (.v (.bool false)), .i (.v (.bool false)), .i (.v (.bool false)), .i (.v (.bool false)), .i (.v (.bool false)), .i (.v (.bool false)), .i (.v (.bool false)), .i (.v (.bool false)), .i (.v (.bool false)), .i (.v (.bool false)), .i (.v (.bool false)), .i (.v (.bool false)), .i (.v (.bool false)), .i (.v (.bool false)), .i (.v (.bool false)), .i (.v (.bool false)), .i (.v (.bool false)), .i (.v (.bool false)), .i (.v (.bool false)), .i (.v (.bool false)), .i (.v (.bool false)), .i (.v (.bool false)), .i (.v (.bool false)), .i (.v (.bool false)), .i (.v (.bool false)), .i (.v (.bool false)), .i (.v (.bool false)), .i (.v (.bool false)), .i (.v (.bool false)), .i (.v (.bool false)), .i (.v (.bool false)), .i (.v (.bool false)), .i (.v (.bool false)), .i (.v (.bool false)), .i (.v (.bool false)), .i (.v (.bool false)), .i (.v (.bool false)), .i (.v (.bool false)), .i (.v (.bool false)), .i (.v (.bool false)), .i (.v (.bool false)), .i (.v (.bool false)), .i (.v (.bool false)), .i (.v (.bool false)), .i (.v (.bool false)), .i (.v (.bool false)), .i (.v (.bool false)), .i (.v (.bool false)), .i (.v (.bool false)), .i (.v (.bool false)), .i (.v (.bool false)), .i (.v (.bool false)), .i (.v (.bool false)), .i (.v (.bool false)), .i (.v (.bool false)), .i (.v (.bool false)), .i (.v (.bool false)), .i (.v (.bool false)), .i (.v (.bool false)), .i (.v (.bool false)), .i (.v (.bool false)), .i (.v (.bool false)), .i (.v (.bool false)), .i (.v (.bool false)), .i (.v (.bool false)), .i (.v (.bool false)), .i (.v (.bool false)), .i (.v (.bool false)), .i (.v (.bool false)), .i (.v (.bool false)), .i (.v (.bool false)), .i (.v (.bool false)), .i (.v (.bool false)), .i (.v (.bool false)), .i (.v (.bool false)), .i (.v (.bool false)), .i (.v (.bool false)), .i (.v (.bool false)), .i (.v (.bool false)), .i (.v (.bool false)), .i (.v (.bool false)), .i (.v (.bool false)), .i (.v (.bool false)), .i (.v (.bool false)), .i (.v (.bool false)), .i (.v (.bool false)), .i (.v (.bool false)), .i (.v (.bool false)), .i (.v (.bool false)), .i (.v (.bool false)), .i (.v (.bool false)), .i (.v (.bool false)), .i (.v (.bool false)), .i (.v (.bool false)), .i (.v (.bool false)), .i (.v (.bool false)), .i (.v (.bool false)), .i (.v (.bool false)), .i (.v (.bool false)), .i (.v (.bool false)), .i (.v (.bool false)), .i (.v (.bool false)), .i (.v (.bool false)), .i (.v (.bool false)), .i (.v (.bool false)), .i (.v (.bool false)), .i (.v (.bool false)), .i (.v (.bool false)), .i (.v (.bool false)), .i (.v (.bool false)), .i (.v (.bool false)), .i (.v (.bool false)), .i (.v (.bool false)), .i (.v (.bool false)), .i (.v (.bool false)), .i (.v (.bool false)), .i (.v (.bool false)), .i (.v (.bool false)), .i (.v (.bool false)), .i (.v (.bool false)), .i (.v (.bool false)), .i (.v (.bool false)), .i (.v (.bool false)), .i (.v (.bool false)), .i (.v (.bool false)), .i (.v (.bool false)), .i (.v (.bool false)), .i (.v (.bool false)), .i (.v (.bool false)), .i (.v (.bool false)), .i (.v (.bool false)), .i (.v (.bool false)), .i (.v (.bool false)), .i (.v (.bool false)), .i (.v (.bool false)), .i (.v (.bool false)), .i (.v (.bool false)), .i (.v (.bool false)), .i (.v (.bool false)), .i (.v (.bool false)), .i (.v (.bool false)), .i (.v (.bool false)), .i (.v (.bool false)), .i (.v (.bool false)), .i (.v (.bool false)), .i (.v (.bool false)), .i (.v (.bool false)), .i (.v (.bool false)), .i (.v (.bool false)), .i (.v (.bool false)), .i (.v (.bool false)), .i (.v (.bool false)), .i (.v (.bool false)), .i (.v (.bool false)), .i (.v (.bool false)), .i (.v (.bool false)), .i (.v (.bool false)), .i (.v (.bool false)), .i (.v (.bool false)), .i (.v (.bool false)), .i (.v (.bool false)), .i (.v (.bool false)), .i (.v (.bool false)), .i (.v (.bool false)), .i (.v (.bool false)), .i (.v (.bool false)), .i (.v (.bool false)), .i (.v (.bool false)), .i (.v (.bool false)), .i (.v (.bool false)), .i (.v (.bool false)), .i (.v (.bool false)), .i (.v (.bool false)), .i (.v (.bool false)), .i (.v (.bool false)), .i (.v (.bool false)), .i (.v (.bool false)), .i (.v (.bool false)), .i (.v (.bool false)), .i (.v (.bool false)), .i (.v (.bool false)), .i (.v (.bool false)), .i (.v (.bool false)), .i (.v (.bool false)), .i (.v (.bool false)), .i (.v (.bool false)), .i (.v (.bool false)), .i (.v (.bool false)), .i (.v (.bool false)), .i (.v (.bool false)), .i (.v (.bool false))] parts) := bd_arr (n := 256) (e := 4) (by kernel_rfl) (by kernel_rfl) (by kernel_rfl) parts
theorem bd62 (parts : List (Nat × AV)) : buildE E 62 parts = aggK (fillA 1 [.i (.v (.int .u8 0)), .i (.v (.int .u8 0)), .i (.v (.int .u8 0)), .i (.v (.int .u8 0)), .i (.v (.int .u8 0)), .i (.v (.int .u8 0)), .i (.v (.int .u8 0)), .i (.v (.int .u8 0)), .i (.v (.int .u8 0)), .i (.v (.int .u8 0)), .i (.v (.int .u8 0)), .i (.v (.int .u8 0)), .i (.v (.int .u8 0)), .i (.v (.int .u8 0)), .i (.v (.int .u8 0)), .i (.v (.int .u8 0)), .i (.v (.int .u8 0)), .i (.v (.int .u8 0)), .i (.v (.int .u8 0)), .i (.v (.int .u8 0)), .i (.v (.int .u8 0)), .i (.v (.int .u8 0)), .i (.v (.int .u8 0)), .i (.v (.int .u8 0))] parts) := bd_arr (n := 24) (e := 5) (by kernel_rfl) (by kernel_rfl) (by kernel_rfl) parts
theorem bd70 (parts : List (Nat × AV)) : buildE E 70 parts = aggK (fillA 1 [.i (.v (.int .u64 0)), .i (.v (.int .u64 0)), .i (.v (.int .u64 0)), .i (.v (.int .u64 0)), .i (.v (.int .u64 0)), .i (.v (.int .u64 0)), .i (.v (.int .u64 0)), .i (.v (.int .u64 0)), .i (.v (.int .u64 0)), .i (.v (.int .u64 0)), .i (.v (.int .u64 0)), .i (.v (.int .u64 0)), .i (.v (.int .u64 0)), .i (.v (.int .u64 0)), .i (.v (.int .u64 0)), .i (.v (.int .u64 0)), .i (.v (.int .u64 0)), .i (.v (.int .u64 0)), .i (.v (.int .u64 0)), .i (.v (.int .u64 0))] parts) := bd_arr (n := 20) (e := 56) (by kernel_rfl) (by kernel_rfl) (by kernel_rfl) parts
theorem bd72 (parts : List (Nat × AV)) : buildE E 72 parts = aggK (fillA 1 [.i (.v (.int .u8 0)), .i (.v (.int .u8 0)), .i (.v (.int .u8 0)), .i (.v (.int .u8 0)), .i (.v (.int .u8 0)), .i (.v (.int .u8 0)), .i (.v (.int .u8 0)), .i (.v (.int .u8 0)), .i (.v (.int .u8 0)), .i (.v (.int .u8 0)), .i (.v (.int .u8 0)), .i (.v (.int .u8 0)), .i (.v (.int .u8 0)), .i (.v (.int .u8 0)), .i (.v (.int .u8 0)), .i (.v (.int .u8 0)), .i (.v (.int .u8 0)), .i (.v (.int .u8 0)), .i (.v (.int .u8 0)), .i (.v (.int .u8 0)), .i (.v (.int .u8 0)), .i (.v (.int .u8 0)), .i (.v (.int .u8 0)), .i (.v (.int .u8 0)), .i (.v (.int .u8 0)), .i (.v (.int .u8 0)), .i (.v (.int .u8 0)), .i (.v (.int .u8 0)), .i (.v (.int .u8 0)), .i (.v (.int .u8 0)), .i (.v (.int .u8 0)), .i (.v (.int .u8 0)), .i (.v (.int .u8 0)), .i (.v (.int .u8 0)), .i (.v (.int .u8 0)), .i (.v (.int .u8 0)), .i (.v (.int .u8 0)), .i (.v (.int .u8 0)), .i (.v (.int .u8 0)), .i (.v (.int .u8 0)), .i (.v (.int .u8 0)), .i (.v (.int .u8 0)), .i (.v (.int .u8 0)), .i (.v (.int .u8 0)), .i (.v (.int .u8 0)), .i (.v (.int .u8 0)), .i (.v (.int .u8 0)), .i (.v (.int .u8 0)), .i (.v (.int .u8 0)), .i (.v (.int .u8 0)), .i (.v (.int .u8 0)), .i (.v (.int .u8 0)), .i (.v (.int .u8 0)), .i (.v (.int .u8 0)), .i (.v (.int .u8 0)), .i (.v (.int .u8 0)), .i (.v (.int .u8 0)), .i (.v (.int .u8 0)), .i (.v (.int .u8 0)), .i (.v (.int .u8 0)), .i (.v (.int .u8 0)), .i (.v (.int .u8 0)), .i (.v (.int .u8 0)), .i (.v (.int .u8 0)), .i (.v (.int .u8 0))] parts) := bd_arr (n := 65) (e := 5) (by kernel_rfl) (by kernel_rfl) (by kernel_rfl) parts
theorem bd77 (parts : List (Nat × AV)) : buildE E 77 parts = aggK (fillS [(0, 1), (1, 1)] [.i (.v (.int .u8 0)), .i (.v (.int .u8 0))] parts) := bd_struct (by kernel_rfl) (by kernel_rfl) (by kernel_rfl) parts
theorem bd78 (parts : List (Nat × AV)) : buildE E 78 parts = aggK (fillA 2 [.i (.v (.int .u8 0)), .i (.v (.int .u8 0)), .i (.v (.int .u8 0)), .i (.v (.int .u8 0)), .i (.v (.int .u8 0)), .i (.v (.int .u8 0)), .i (.v (.int .u8 0)), .i (.v (.int .u8 0)), .i (.v (.int .u8 0)), .i (.v (.int .u8 0)), .i (.v (.int .u8 0)), .i (.v (.int .u8 0)), .i (.v (.int .u8 0)), .i (.v (.int .u8 0)), .i (.v (.int .u8 0)), .i (.v (.int .u8 0)), .i (.v (.int .u8 0)), .i (.v (.int .u8 0)), .i (.v (.int .u8 0)), .i (.v (.int .u8 0)), .i (.v (.int .u8 0)), .i (.v (.int .u8 0)), .i (.v (.int .u8 0)), .i (.v (.int .u8 0)), .i (.v (.int .u8 0)), .i (.v (.int .u8 0)), .i (.v (.int .u8 0)), .i (.v (.int .u8 0)), .i (.v (.int .u8 0)), .i (.v (.int .u8 0)), .i (.v (.int .u8 0)), .i (.v (.int .u8 0))] parts) := bd_arr (n := 16) (e := 77) (by kernel_rfl) (by kernel_rfl) (by kernel_rfl) parts
theorem bd82 (parts : List (Nat × AV)) : buildE E 82 parts = aggK (fillA 1 [.i (.v (.int .u8 0)), .i (.v (.int .u8 0)), .i (.v (.int .u8 0)), .i (.v (.int .u8 0)), .i (.v (.int .u8 0)), .i (.v (.int .u8 0)), .i (.v (.int .u8 0)), .i (.v (.int .u8 0)), .i (.v (.int .u8 0)), .i (.v (.int .u8 0)), .i (.v (.int .u8 0)), .i (.v (.int .u8 0)), .i (.v (.int .u8 0)), .i (.v (.int .u8 0)), .i (.v (.int .u8 0)), .i (.v (.int .u8 0)), .i (.v (.int .u8 0)), .i (.v (.int .u8 0)), .i (.v (.int .u8 0)), .i (.v (.int .u8 0)), .i (.v (.int .u8 0)), .i (.v (.int .u8 0)), .i (.v (.int .u8 0)), .i (.v (.int .u8 0)), .i (.v (.int .u8 0)), .i (.v (.int .u8 0)), .i (.v (.int .u8 0)), .i (.v (.int .u8 0)), .i (.v (.int .u8 0)), .i (.v (.int .u8 0)), .i (.v (.int .u8 0)), .i (.v (.int .u8 0))] parts) := bd_arr (n := 32) (e := 5) (by kernel_rfl) (by kernel_rfl) (by kernel_rfl) parts
theorem bd83 (parts : List (Nat × AV)) : buildE E 83 parts = aggK (fillA 1 [.i (.v (.int .u8 0)), .i (.v (.int .u8 0)), .i (.v (.int .u8 0)), .i (.v (.int .u8 0)), .i (.v (.int .u8 0)), .i (.v (.int .u8 0)), .i (.v (.int .u8 0)), .i (.v (.int .u8 0)), .i (.v (.int .u8 0)), .i (.v (.int .u8 0)), .i (.v (.int .u8 0)), .i (.v (.int .u8 0)), .i (.v (.int .u8 0)), .i (.v (.int .u8 0)), .i (.v (.int .u8 0)), .i (.v (.int .u8 0)), .i (.v (.int .u8 0)), .i (.v (.int .u8 0)), .i (.v (.int .u8 0)), .i (.v (.int .u8 0)), .i (.v (.int .u8 0)), .i (.v (.int .u8 0)), .i (.v (.int .u8 0)), .i (.v (.int .u8 0)), .i (.v (.int .u8 0)), .i (.v (.int .u8 0)), .i (.v (.int .u8 0)), .i (.v (.int .u8 0)), .i (.v (.int .u8 0)), .i (.v (.int .u8 0)), .i (.v (.int .u8 0)), .i (.v (.int .u8 0)), .i (.v (.int .u8 0)), .i (.v (.int .u8 0)), .i (.v (.int .u8 0)), .i (.v (.int .u8 0)), .i (.v (.int .u8 0)), .i (.v (.int .u8 0)), .i (.v (.int .u8 0)), .i (.v (.int .u8 0)), .i (.v (.int .u8 0)), .i (.v (.int .u8 0)), .i (.v (.int .u8 0)), .i (.v (.int .u8 0)), .i (.v (.int .u8 0)), .i (.v (.int .u8 0)), .i (.v (.int .u8 0)), .i (.v (.int .u8 0)), .i (.v (.int .u8 0)), .i (.v (.int .u8 0)), .i (.v (.int .u8 0)), .i (.v (.int .u8 0)), .i (.v (.int .u8 0)), .i (.v (.int .u8 0)), .i (.v (.int .u8 0)), .i (.v (.int .u8 0)), .i (.v (.int .u8 0)), .i (.v (.int .u8 0)), .i (.v (.int .u8 0)), .i (.v (.int .u8 0)), .i (.v (.int .u8 0)), .i (.v (.int .u8 0)), .i (.v (.int .u8 0)), .i (.v (.int .u8 0))] parts) := bd_arr (n := 64) (e := 5) (by kernel_rfl) (by kernel_rfl) (by kernel_rfl) parts
theorem cv2_56 (cl : CallF) (fr : Fr) (H : Hp) (x : Operand) : evOp E cl (.convert 2 56 x) fr H = pK H (convE E 2 56 (opd E fr x)) := op_convert _ _ _ (by kernel_rfl) (by kernel_rfl)
theorem cv3_5 (cl : CallF) (fr : Fr) (H : Hp) (x : Operand) : evOp E cl (.convert 3 5 x) fr H = pK H (convE E 3 5 (opd E fr x)) := op_convert _ _ _ (by kernel_rfl) (by kernel_rfl)
theorem cv3_56 (cl : CallF) (fr : Fr) (H : Hp) (x : Operand) : evOp E cl (.convert 3 56 x) fr H = pK H (convE E 3 56 (opd E fr x)) := op_convert _ _ _ (by kernel_rfl) (by kernel_rfl)
theorem cv3_73 (cl : CallF) (fr : Fr) (H : Hp) (x : Operand) : evOp E cl (.convert 3 73 x) fr H = pK H (convE E 3 73 (opd E fr x)) := op_convert _ _ _ (by kernel_rfl) (by kernel_rfl)
theorem cv5_3 (cl : CallF) (fr : Fr) (H : Hp) (x : Operand) : evOp E cl (.convert 5 3 x) fr H = pK H (convE E 5 3 (opd E fr x)) := op_convert _ _ _ (by kernel_rfl) (by kernel_rfl)
theorem cv5_21 (cl : CallF) (fr : Fr) (H : Hp) (x : Operand) : evOp E cl (.convert 5 21 x) fr H = pK H (convE E 5 21 (opd E fr x)) := op_convert _ _ _ (by kernel_rfl) (by kernel_rfl)
theorem cv21_5 (cl : CallF) (fr : Fr) (H : Hp) (x : Operand) : evOp E cl (.convert 21 5 x) fr H = pK H (convE E 21 5 (opd E fr x)) := op_convert _ _ _ (by kernel_rfl) (by kernel_rfl)
theorem cv21_9 (cl : CallF) (fr : Fr) (H : Hp) (x : Operand) : evOp E cl (.convert 21 9 x) fr H = pK H (convE E 21 9 (opd E fr x)) := op_convert _ _ _ (by kernel_rfl) (by kernel_rfl)
theorem cv32_9 (cl : CallF) (fr : Fr) (H : Hp) (x : Operand) : evOp E cl (.convert 32 9 x) fr H = pK H (cvS (rowsE H (opd E fr x))) := op_cvS (e := 5) (by kernel_rfl) (by kernel_rfl) (by kernel_rfl) (by kernel_rfl) x
theorem cv56_3 (cl : CallF) (fr : Fr) (H : Hp) (x : Operand) : evOp E cl (.convert 56 3 x) fr H = pK H (convE E 56 3 (opd E fr x)) := op_convert _ _ _ (by kernel_rfl) (by kernel_rfl)
theorem cv56_5 (cl : CallF) (fr : Fr) (H : Hp) (x : Operand) : evOp E cl (.convert 56 5 x) fr H = pK H (convE E 56 5 (opd E fr x)) := op_convert _ _ _ (by kernel_rfl) (by kernel_rfl)
theorem cv56_71 (cl : CallF) (fr : Fr) (H : Hp) (x : Operand) : evOp E cl (.convert 56 71 x) fr H = pK H (convE E 56 71 (opd E fr x)) := op_convert _ _ _ (by kernel_rfl) (by kernel_rfl)
theorem cv71_5 (cl : CallF) (fr : Fr) (H : Hp) (x : Operand) : evOp E cl (.convert 71 5 x) fr H = pK H (convE E 71 5 (opd E fr x)) := op_convert _ _ _ (by kernel_rfl) (by kernel_rfl)
theorem cv73_71 (cl : CallF) (fr : Fr) (H : Hp) (x : Operand) : evOp E cl (.convert 73 71 x) fr H = pK H (convE E 73 71 (opd E fr x)) := op_convert _ _ _ (by kernel_rfl) (by kernel_rfl)
theorem sx9 (H : Hp) (s : List UInt8) (lo hi : Option AV) : sliceE E H 9 (.i (.str s)) lo hi none = slSK s (bnd 0 lo) (bnd s.length hi) := sl_str (by kernel_rfl) s lo hi
theorem ap23_23 (H : Hp) (s x : AV) : appendE E H 23 23 s x = apS 1 H s (srcE H x) := ap_eq (by kernel_rfl) H s x
theorem ap32_9 (H : Hp) (s x : AV) : appendE E H 32 9 s x = apS 1 H s (srcE H x) := ap_eq (by kernel_rfl) H s x
theorem ap32_32 (H : Hp) (s x : AV) : appendE E H 32 32 s x = apS 1 H s (srcE H x) := ap_eq (by kernel_rfl) H s x
theorem bs23 (H : Hp) (n : Nat) (hn : n * 1 ≤ 16777216) (parts : List (Nat × AV)) : buildSliceE E H 23 n parts = bsF [] 1 n H (fillA 1 (List.replicate n [.i (.v (.int .i64 0))]).flatten parts) := bs_eq (by kernel_rfl) H n hn parts
theorem br23 (n : Nat) (parts : List (Nat × AV)) : buildRefs E 23 n parts = brK (fillA 1 (List.replicate n [.i (.v (.int .i64 0))]).flatten parts) := br_eq (ks := []) (by kernel_rfl) n parts
theorem ms23 (H : Hp) (k k' : IntKind) (n m : Int) : makeSliceE E H 23 (.i (.v (.int k n))) (.i (.v (.int k' m))) = if 0 ≤ n ∧ n = m ∧ n < 1073741824 then some (.ref H.length 0 0 n.toNat, H ++ [.sl 1 0 (List.replicate n.toNat [.v (.int .i64 0)]) true]) else none := ms_eq (by kernel_rfl) H k k' n m
theorem bs32 (H : Hp) (n : Nat) (hn : n * 1 ≤ 16777216) (parts : List (Nat × AV)) : buildSliceE E H 32 n parts = bsF [] 1 n H (fillA 1 (List.replicate n [.i (.v (.int .u8 0))]).flatten parts) := bs_eq (by kernel_rfl) H n hn parts
theorem br32 (n : Nat) (parts : List (Nat × AV)) : buildRefs E 32 n parts = brK (fillA 1 (List.replicate n [.i (.v (.int .u8 0))]).flatten parts) := br_eq (ks := []) (by kernel_rfl) n parts
theorem ms32 (H : Hp) (k k' : IntKind) (n m : Int) : makeSliceE E H 32 (.i (.v (.int k n))) (.i (.v (.int k' m))) = if 0 ≤ n ∧ n = m ∧ n < 1073741824 then some (.ref H.length 0 0 n.toNat, H ++ [.sl 1 0 (List.replicate n.toNat [.v (.int .u8 0)]) true]) else none := ms_eq (by kernel_rfl) H k k' n m
theorem st23 (H : Hp) (c g r k : Nat) (v : AV) : storeE E H 23 (.ptr c g r k) v = if (cellsA v).length = 1 ∧ (cellsA v).all one = true then stC [some 1] 1 H c g r k (cellsA v) H[c]? else none := st_eq sz23 H c g r k v
theorem st3 (H : Hp) (c g r k : Nat) (v : AV) : storeE E H 3 (.ptr c g r k) v = if (cellsA v).length = 1 ∧ (cellsA v).all one = true then stC [] 1 H c g r k (cellsA v) H[c]? else none := st_eq sz3 H c g r k v
theorem st4 (H : Hp) (c g r k : Nat) (v : AV) : storeE E H 4 (.ptr c g r k) v = if (cellsA v).length = 1 ∧ (cellsA v).all one = true then stC [] 1 H c g r k (cellsA v) H[c]? else none := st_eq sz4 H c g r k v
theorem st5 (H : Hp) (c g r k : Nat) (v : AV) : storeE E H 5 (.ptr c g r k) v = if (cellsA v).length = 1 ∧ (cellsA v).all one = true then stC [] 1 H c g r k (cellsA v) H[c]? else none := st_eq sz5 H c g r k v
theorem st50 (H : Hp) (c g r k : Nat) (v : AV) : storeE E H 50 (.ptr c g r k) v = if (cellsA v).length = 256 ∧ (cellsA v).all one = true then stC [] 256 H c g r k (cellsA v) H[c]? else none := st_eq sz50 H c g r k v
theorem st56 (H : Hp) (c g r k : Nat) (v : AV) : storeE E H 56 (.ptr c g r k) v = if (cellsA v).length = 1 ∧ (cellsA v).all one = true then stC [] 1 H c g r k (cellsA v) H[c]? else none := st_eq sz56 H c g r k v
theorem st62 (H : Hp) (c g r k : Nat) (v : AV) : storeE E H 62 (.ptr c g r k) v = if (cellsA v).length = 24 ∧ (cellsA v).all one = true then stC [] 24 H c g r k (cellsA v) H[c]? else none := st_eq sz62 H c g r k v
theorem st70 (H : Hp) (c g r k : Nat) (v : AV) : storeE E H 70 (.ptr c g r k) v = if (cellsA v).length = 20 ∧ (cellsA v).all one = true then stC [] 20 H c g r k (cellsA v) H[c]? else none := st_eq sz70 H c g r k v
theorem st72 (H : Hp) (c g r k : Nat) (v : AV) : storeE E H 72 (.ptr c g r k) v = if (cellsA v).length = 65 ∧ (cellsA v).all one = true then stC [] 65 H c g r k (cellsA v) H[c]? else none := st_eq sz72 H c g r k v
theorem st77 (H : Hp) (c g r k : Nat) (v : AV) : storeE E H 77 (.ptr c g r k) v = if (cellsA v).length = 2 ∧ (cellsA v).all one = true then stC [] 2 H c g r k (cellsA v) H[c]? else none := st_eq sz77 H c g r k v
theorem st78 (H : Hp) (c g r k : Nat) (v : AV) : storeE E H 78 (.ptr c g r k) v = if (cellsA v).length = 32 ∧ (cellsA v).all one = true then stC [] 32 H c g r k (cellsA v) H[c]? else none := st_eq sz78 H c g r k v
theorem st82 (H : Hp) (c g r k : Nat) (v : AV) : storeE E H 82 (.ptr c g r k) v = if (cellsA v).length = 32 ∧ (cellsA v).all one = true then stC [] 32 H c g r k (cellsA v) H[c]? else none := st_eq sz82 H c g r k v
theorem st83 (H : Hp) (c g r k : Nat) (v : AV) : storeE E H 83 (.ptr c g r k) v = if (cellsA v).length = 64 ∧ (cellsA v).all one = true then stC [] 64 H c g r k (cellsA v) H[c]? else none := st_eq sz83 H c g r k v
-- en2: 
def en2 := And.intro @ent2 (And.intro @res2 (And.intro @rk2 (And.intro @ow2 (@kp2_0))))
-- en3: bs23
def en3 := And.intro @ent3 (And.intro @res3 (And.intro @rk3 (And.intro @ow3 (And.intro @kp3_0 (And.intro @kp3_1 (And.intro @kp3_2 (And.intro @kp3_3 (And.intro @kp3_4 (And.intro @kp3_5 (And.intro @ent11 (And.intro @ci11 (And.intro @cr11 (And.intro @ak11 (And.intro @ent12 (And.intro @ci12 (And.intro @cr12 (And.intro @ak12 (And.intro @ent13 (And.intro @ci13 (And.intro @cr13 (And.intro @ak13 (And.intro @ent14 (And.intro @ci14 (And.intro @cr14 (And.intro @ak14 (And.intro @agg23 (And.intro @agg3 (And.intro @agg9 (And.intro @kind23 (And.intro @kind3 (And.intro @cv3_56 (And.intro @cv3_5 (And.intro @cv3_73 (And.intro @cv5_3 (And.intro @cv56_3 (And.intro @kind9 (And.intro @cv32_9 (And.intro @cv21_9 (And.intro @sl23 (And.intro @ms23 (And.intro @br23 (And.intro @ap23_23 (And.intro @sl9 (And.intro @sx9 (And.intro @str23 (And.intro @str9 (And.intro @sz3 (And.intro @st3 (@zero3)))))))))))))))))))))))))))))))))))))))))))))))))
-- en4: bs23
def en4 := And.intro @ent4 (And.intro @res4 (And.intro @rk4 (And.intro @ow4 (And.intro @kp4_0 (And.intro @kp4_1 (And.intro @kp4_2 (And.intro @kp4_3 (And.intro @kp4_4 (And.intro @kp4_5 (And.intro @kp4_6 (And.intro @kp4_7 (And.intro @ent11 (And.intro @ci11 (And.intro @cr11 (And.intro @ak11 (And.intro @ent12 (And.intro @ci12 (And.intro @cr12 (And.intro @ak12 (And.intro @ent14 (And.intro @ci14 (And.intro @cr14 (And.intro @ak14 (And.intro @ent15 (And.intro @ci15 (And.intro @cr15 (And.intro @ak15 (And.intro @agg23 (And.intro @agg3 (And.intro @agg5 (And.intro @agg9 (And.intro @kind23 (And.intro @kind3 (And.intro @cv3_56 (And.intro @cv3_5 (And.intro @cv3_73 (And.intro @cv5_3 (And.intro @cv56_3 (And.intro @kind5 (And.intro @cv71_5 (And.intro @cv5_21 (And.intro @cv21_5 (And.intro @cv56_5 (And.intro @kind9 (And.intro @cv32_9 (And.intro @cv21_9 (And.intro @sl23 (And.intro @ms23 (And.intro @br23 (And.intro @ap23_23 (And.intro @sl5 (And.intro @sl9 (And.intro @sx9 (And.intro @str23 (And.intro @str5 (And.intro @str9 (And.intro @sz3 (And.intro @st3 (@zero3)))))))))))))))))))))))))))))))))))))))))))))))))))))))))))
-- en5: bs23
def en5 := And.intro @ent5 (And.intro @res5 (And.intro @rk5 (And.intro @ow5 (And.intro @kp5_0 (And.intro @kp5_1 (And.intro @kp5_2 (And.intro @kp5_3 (And.intro @kp5_4 (And.intro @kp5_5 (And.intro @kp5_6 (And.intro @kp5_7 (And.intro @kp5_8 (And.intro @ent11 (And.intro @ci11 (And.intro @cr11 (And.intro @ak11 (And.intro @ent12 (And.intro @ci12 (And.intro @cr12 (And.intro @ak12 (And.intro @ent14 (And.intro @ci14 (And.intro @cr14 (And.intro @ak14 (And.intro @ent15 (And.intro @ci15 (And.intro @cr15 (And.intro @ak15 (And.intro @agg23 (And.intro @agg3 (And.intro @agg5 (And.intro @agg9 (And.intro @kind23 (And.intro @kind3 (And.intro @cv3_56 (And.intro @cv3_5 (And.intro @cv3_73 (And.intro @cv5_3 (And.intro @cv56_3 (And.intro @kind5 (And.intro @cv71_5 (And.intro @cv5_21 (And.intro @cv21_5 (And.intro @cv56_5 (And.intro @kind9 (And.intro @cv32_9 (And.intro @cv21_9 (And.intro @sl23 (And.intro @ms23 (And.intro @br23 (And.intro @ap23_23 (And.intro @sl5 (And.intro @sl9 (And.intro @sx9 (And.intro @str23 (And.intro @str5 (And.intro @str9 (And.intro @sz3 (And.intro @st3 (@zero3))))))))))))))))))))))))))))))))))))))))))))))))))))))))))))
-- en6: bs23, bs32
def en6 := And.intro @ent6 (And.intro @res6 (And.intro @rk6 (And.intro @ow6 (And.intro @kp6_0 (And.intro @kp6_1 (And.intro @kp6_2 (And.intro @kp6_3 (And.intro @kp6_4 (And.intro @kp6_5 (And.intro @kp6_6 (And.intro @kp6_7 (And.intro @kp6_8 (And.intro @ent11 (And.intro @ci11 (And.intro @cr11 (And.intro @ak11 (And.intro @ent12 (And.intro @ci12 (And.intro @cr12 (And.intro @ak12 (And.intro @agg23 (And.intro @agg3 (And.intro @agg32 (And.intro @agg5 (And.intro @agg9 (And.intro @kind23 (And.intro @kind3 (And.intro @cv3_56 (And.intro @cv3_5 (And.intro @cv3_73 (And.intro @cv5_3 (And.intro @cv56_3 (And.intro @kind32 (And.intro @cv32_9 (And.intro @kind5 (And.intro @cv71_5 (And.intro @cv5_21 (And.intro @cv21_5 (And.intro @cv56_5 (And.intro @kind9 (And.intro @cv21_9 (And.intro @sl23 (And.intro @ms23 (And.intro @br23 (And.intro @ap23_23 (And.intro @sl32 (And.intro @ms32 (And.intro @br32 (And.intro @ap32_32 (And.intro @ap32_9 (And.intro @sl9 (And.intro @sx9 (And.intro @str23 (And.intro @str32 (And.intro @str9 (And.intro @sz3 (And.intro @st3 (And.intro @sz5 (And.intro @st5 (And.intro @zero3 (@zero5)))))))))))))))))))))))))))))))))))))))))))))))))))))))))))))
-- en7: bs23
def en7 := And.intro @ent7 (And.intro @res7 (And.intro @rk7 (And.intro @ow7 (And.intro @kp7_0 (And.intro @kp7_1 (And.intro @kp7_2 (And.intro @kp7_3 (And.intro @kp7_4 (And.intro @kp7_5 (And.intro @kp7_6 (And.intro @kp7_7 (And.intro @kp7_8 (And.intro @kp7_9 (And.intro @kp7_10 (And.intro @hd7_6 (And.intro @ent11 (And.intro @ci11 (And.intro @cr11 (And.intro @ak11 (And.intro @ent15 (And.intro @ci15 (And.intro @cr15 (And.intro @ak15 (And.intro @ent16 (And.intro @ci16 (And.intro @cr16 (And.intro @ak16 (And.intro @ent17 (And.intro @ci17 (And.intro @cr17 (And.intro @ak17 (And.intro @ent18 (And.intro @ci18 (And.intro @cr18 (And.intro @ak18 (And.intro @agg23 (And.intro @agg3 (And.intro @agg5 (And.intro @agg9 (And.intro @kind23 (And.intro @kind3 (And.intro @cv3_56 (And.intro @cv3_5 (And.intro @cv3_73 (And.intro @cv5_3 (And.intro @cv56_3 (And.intro @kind5 (And.intro @cv71_5 (And.intro @cv5_21 (And.intro @cv21_5 (And.intro @cv56_5 (And.intro @kind9 (And.intro @cv32_9 (And.intro @cv21_9 (And.intro @sl23 (And.intro @ms23 (And.intro @br23 (And.intro @ap23_23 (And.intro @sl3 (And.intro @sl5 (And.intro @sl9 (And.intro @sx9 (And.intro @str23 (And.intro @str3 (And.intro @str5 (And.intro @str9 (And.intro @sz3 (And.intro @st3 (@zero3)))))))))))))))))))))))))))))))))))))))))))))))))))))))))))))))))))))
-- en8: bs23
def en8 := And.intro @ent8 (And.intro @res8 (And.intro @rk8 (And.intro @ow8 (And.intro @kp8_0 (And.intro @kp8_1 (And.intro @kp8_2 (And.intro @kp8_3 (And.intro @kp8_4 (And.intro @kp8_5 (And.intro @kp8_6 (And.intro @ent11 (And.intro @ci11 (And.intro @cr11 (And.intro @ak11 (And.intro @ent17 (And.intro @ci17 (And.intro @cr17 (And.intro @ak17 (And.intro @agg23 (And.intro @agg3 (And.intro @arr23 (And.intro @kind23 (And.intro @kind3 (And.intro @cv3_56 (And.intro @cv3_5 (And.intro @cv3_73 (And.intro @cv5_3 (And.intro @cv56_3 (And.intro @sl23 (And.intro @ms23 (And.intro @br23 (And.intro @ap23_23 (And.intro @sl3 (And.intro @str23 (And.intro @str3 (And.intro @sz3 (And.intro @st3 (@zero3))))))))))))))))))))))))))))))))))))))
-- en9: bs23
def en9 := And.intro @ent9 (And.intro @res9 (And.intro @rk9 (And.intro @ow9 (And.intro @kp9_0 (And.intro @kp9_1 (And.intro @kp9_2 (And.intro @kp9_3 (And.intro @kp9_4 (And.intro @kp9_5 (And.intro @kp9_6 (And.intro @kp9_7 (And.intro @kp9_8 (And.intro @kp9_9 (And.intro @kp9_10 (And.intro @kp9_11 (And.intro @kp9_12 (And.intro @ent11 (And.intro @ci11 (And.intro @cr11 (And.intro @ak11 (And.intro @ent12 (And.intro @ci12 (And.intro @cr12 (And.intro @ak12 (And.intro @ent14 (And.intro @ci14 (And.intro @cr14 (And.intro @ak14 (And.intro @ent19 (And.intro @ci19 (And.intro @cr19 (And.intro @ak19 (And.intro @agg23 (And.intro @agg3 (And.intro @agg9 (And.intro @kind23 (And.intro @kind3 (And.intro @cv3_56 (And.intro @cv3_5 (And.intro @cv3_73 (And.intro @cv5_3 (And.intro @cv56_3 (And.intro @kind9 (And.intro @cv32_9 (And.intro @cv21_9 (And.intro @sl23 (And.intro @ms23 (And.intro @br23 (And.intro @ap23_23 (And.intro @sl9 (And.intro @sx9 (And.intro @str23 (And.intro @str9 (And.intro @sz3 (And.intro @st3 (@zero3))))))))))))))))))))))))))))))))))))))))))))))))))))))))
-- en10: bs23, bs32
def en10 := And.intro @ent10 (And.intro @res10 (And.intro @rk10 (And.intro @ow10 (And.intro @kp10_0 (And.intro @kp10_1 (And.intro @kp10_2 (And.intro @kp10_3 (And.intro @kp10_4 (And.intro @kp10_5 (And.intro @kp10_6 (And.intro @kp10_7 (And.intro @kp10_8 (And.intro @kp10_9 (And.intro @ent11 (And.intro @ci11 (And.intro @cr11 (And.intro @ak11 (And.intro @ent12 (And.intro @ci12 (And.intro @cr12 (And.intro @ak12 (And.intro @ent14 (And.intro @ci14 (And.intro @cr14 (And.intro @ak14 (And.intro @ent19 (And.intro @ci19 (And.intro @cr19 (And.intro @ak19 (And.intro @agg23 (And.intro @agg3 (And.intro @agg32 (And.intro @agg5 (And.intro @agg9 (And.intro @arr9 (And.intro @kind23 (And.intro @kind3 (And.intro @cv3_56 (And.intro @cv3_5 (And.intro @cv3_73 (And.intro @cv5_3 (And.intro @cv56_3 (And.intro @kind32 (And.intro @cv32_9 (And.intro @kind5 (And.intro @cv71_5 (And.intro @cv5_21 (And.intro @cv21_5 (And.intro @cv56_5 (And.intro @kind9 (And.intro @cv21_9 (And.intro @sl23 (And.intro @ms23 (And.intro @br23 (And.intro @ap23_23 (And.intro @sl32 (And.intro @ms32 (And.intro @br32 (And.intro @ap32_32 (And.intro @ap32_9 (And.intro @sl9 (And.intro @sx9 (And.intro @str23 (And.intro @str32 (And.intro @str9 (And.intro @sz3 (And.intro @st3 (And.intro @sz5 (And.intro @st5 (And.intro @zero3 (@zero5)))))))))))))))))))))))))))))))))))))))))))))))))))))))))))))))))))))))
-- en11: bs23
def en11 := And.intro @ent11 (And.intro @res11 (And.intro @rk11 (And.intro @ow11 (And.intro @kp11_0 (And.intro @kp11_1 (And.intro @kp11_2 (And.intro @kp11_3 (And.intro @ent12 (And.intro @ci12 (And.intro @cr12 (And.intro @ak12 (And.intro @ent14 (And.intro @ci14 (And.intro @cr14 (And.intro @ak14 (And.intro @ent15 (And.intro @ci15 (And.intro @cr15 (And.intro @ak15 (And.intro @agg23 (And.intro @agg3 (And.intro @agg5 (And.intro @agg9 (And.intro @kind23 (And.intro @kind3 (And.intro @cv3_56 (And.intro @cv3_5 (And.intro @cv3_73 (And.intro @cv5_3 (And.intro @cv56_3 (And.intro @kind5 (And.intro @cv71_5 (And.intro @cv5_21 (And.intro @cv21_5 (And.intro @cv56_5 (And.intro @kind9 (And.intro @cv32_9 (And.intro @cv21_9 (And.intro @sl23 (And.intro @ms23 (And.intro @br23 (And.intro @ap23_23 (And.intro @sl5 (And.intro @sl9 (And.intro @sx9 (And.intro @str23 (And.intro @str5 (And.intro @str9 (And.intro @sz3 (And.intro @st3 (@zero3)))))))))))))))))))))))))))))))))))))))))))))))))))
-- en12: bs23
def en12 := And.intro @ent12 (And.intro @res12 (And.intro @rk12 (And.intro @ow12 (And.intro @kp12_0 (And.intro @kp12_1 (And.intro @kp12_2 (And.intro @kp12_3 (And.intro @kp12_4 (And.intro @kp12_5 (And.intro @kp12_6 (And.intro @kp12_7 (And.intro @kp12_8 (And.intro @kp12_9 (And.intro @kp12_10 (And.intro @kp12_11 (And.intro @kp12_12 (And.intro @kp12_13 (And.intro @kp12_14 (And.intro @kp12_15 (And.intro @kp12_16 (And.intro @kp12_17 (And.intro @kp12_18 (And.intro @kp12_19 (And.intro @kp12_20 (And.intro @kp12_21 (And.intro @hd12_7 (And.intro @fl12_3 (And.intro @dr12_3 (And.intro @fl12_17 (And.intro @dr12_17 (And.intro @ent20 (And.intro @ci20 (And.intro @cr20 (And.intro @ak20 (And.intro @ent21 (And.intro @ci21 (And.intro @cr21 (And.intro @ak21 (And.intro @ent22 (And.intro @ci22 (And.intro @cr22 (And.intro @ak22 (And.intro @ent23 (And.intro @ci23 (And.intro @cr23 (And.intro @ak23 (And.intro @agg23 (And.intro @agg3 (And.intro @agg5 (And.intro @agg9 (And.intro @arr9 (And.intro @kind23 (And.intro @kind3 (And.intro @cv3_56 (And.intro @cv3_5 (And.intro @cv3_73 (And.intro @cv5_3 (And.intro @cv56_3 (And.intro @kind5 (And.intro @cv71_5 (And.intro @cv5_21 (And.intro @cv21_5 (And.intro @cv56_5 (And.intro @kind9 (And.intro @cv32_9 (And.intro @cv21_9 (And.intro @sl23 (And.intro @ms23 (And.intro @br23 (And.intro @ap23_23 (And.intro @sl3 (And.intro @sl5 (And.intro @sl9 (And.intro @sx9 (And.intro @str23 (And.intro @str3 (And.intro @str5 (And.intro @str9 (And.intro @sz23 (And.intro @st23 (And.intro @sz3 (And.intro @st3 (And.intro @zero23 (@zero3))))))))))))))))))))))))))))))))))))))))))))))))))))))))))))))))))))))))))))))))))))
-- en13: bs23
def en13 := And.intro @ent13 (And.intro @res13 (And.intro @rk13 (And.intro @ow13 (And.intro @kp13_0 (And.intro @kp13_1 (And.intro @kp13_2 (And.intro @kp13_3 (And.intro @kp13_4 (And.intro @kp13_5 (And.intro @kp13_6 (And.intro @kp13_7 (And.intro @kp13_8 (And.intro @kp13_9 (And.intro @kp13_10 (And.intro @kp13_11 (And.intro @kp13_12 (And.intro @kp13_13 (And.intro @kp13_14 (And.intro @kp13_15 (And.intro @kp13_16 (And.intro @kp13_17 (And.intro @kp13_18 (And.intro @kp13_19 (And.intro @kp13_20 (And.intro @kp13_21 (And.intro @kp13_22 (And.intro @kp13_23 (And.intro @kp13_24 (And.intro @kp13_25 (And.intro @kp13_26 (And.intro @kp13_27 (And.intro @kp13_28 (And.intro @kp13_29 (And.intro @kp13_30 (And.intro @kp13_31 (And.intro @kp13_32 (And.intro @kp13_33 (And.intro @kp13_34 (And.intro @hd13_7 (And.intro @hd13_11 (And.intro @hd13_20 (And.intro @fl13_9 (And.intro @dr13_9 (And.intro @ent24 (And.intro @ci24 (And.intro @cr24 (And.intro @ak24 (And.intro @ent25 (And.intro @ci25 (And.intro @cr25 (And.intro @ak25 (And.intro @agg23 (And.intro @agg3 (And.intro @agg5 (And.intro @agg9 (And.intro @arr23 (And.intro @arr9 (And.intro @kind23 (And.intro @kind3 (And.intro @cv3_56 (And.intro @cv3_5 (And.intro @cv3_73 (And.intro @cv5_3 (And.intro @cv56_3 (And.intro @kind5 (And.intro @cv71_5 (And.intro @cv5_21 (And.intro @cv21_5 (And.intro @cv56_5 (And.intro @kind9 (And.intro @cv32_9 (And.intro @cv21_9 (And.intro @sl23 (And.intro @ms23 (And.intro @br23 (And.intro @ap23_23 (And.intro @sl3 (And.intro @sl5 (And.intro @sl9 (And.intro @sx9 (And.intro @str23 (And.intro @str3 (And.intro @str5 (And.intro @str9 (And.intro @sz3 (And.intro @st3 (@zero3)))))))))))))))))))))))))))))))))))))))))))))))))))))))))))))))))))))))))))))))))))))))
-- en14: bs23
def en14 := And.intro @ent14 (And.intro @res14 (And.intro @rk14 (And.intro @ow14 (And.intro @kp14_0 (And.intro @kp14_1 (And.intro @kp14_2 (And.intro @kp14_3 (And.intro @kp14_4 (And.intro @kp14_5 (And.intro @kp14_6 (And.intro @kp14_7 (And.intro @kp14_8 (And.intro @hd14_4 (And.intro @fl14_6 (And.intro @dr14_6 (And.intro @agg23 (And.intro @agg3 (And.intro @arr23 (And.intro @kind23 (And.intro @kind3 (And.intro @cv3_56 (And.intro @cv3_5 (And.intro @cv3_73 (And.intro @cv5_3 (And.intro @cv56_3 (And.intro @sl23 (And.intro @ms23 (And.intro @br23 (And.intro @ap23_23 (And.intro @str23 (And.intro @sz3 (And.intro @st3 (@zero3)))))))))))))))))))))))))))))))))
-- en15: bs23, bs32
def en15 := And.intro @ent15 (And.intro @res15 (And.intro @rk15 (And.intro @ow15 (And.intro @kp15_0 (And.intro @kp15_1 (And.intro @kp15_2 (And.intro @kp15_3 (And.intro @kp15_4 (And.intro @kp15_5 (And.intro @kp15_6 (And.intro @kp15_7 (And.intro @kp15_8 (And.intro @kp15_9 (And.intro @kp15_10 (And.intro @kp15_11 (And.intro @kp15_12 (And.intro @kp15_13 (And.intro @kp15_14 (And.intro @kp15_15 (And.intro @kp15_16 (And.intro @kp15_17 (And.intro @kp15_18 (And.intro @kp15_19 (And.intro @kp15_20 (And.intro @hd15_13 (And.intro @ent20 (And.intro @ci20 (And.intro @cr20 (And.intro @ak20 (And.intro @ent22 (And.intro @ci22 (And.intro @cr22 (And.intro @ak22 (And.intro @ent23 (And.intro @ci23 (And.intro @cr23 (And.intro @ak23 (And.intro @ent26 (And.intro @ci26 (And.intro @cr26 (And.intro @ak26 (And.intro @ent28 (And.intro @ci28 (And.intro @cr28 (And.intro @ak28 (And.intro @xk28 (And.intro @agg2 (And.intro @agg23 (And.intro @agg3 (And.intro @agg32 (And.intro @agg41 (And.intro @agg5 (And.intro @agg9 (And.intro @arr23 (And.intro @kind2 (And.intro @cv2_56 (And.intro @kind23 (And.intro @kind3 (And.intro @cv3_56 (And.intro @cv3_5 (And.intro @cv3_73 (And.intro @cv5_3 (And.intro @cv56_3 (And.intro @kind32 (And.intro @cv32_9 (And.intro @kind41 (And.intro @kind5 (And.intro @cv71_5 (And.intro @cv5_21 (And.intro @cv21_5 (And.intro @cv56_5 (And.intro @kind9 (And.intro @cv21_9 (And.intro @sl2 (And.intro @sl23 (And.intro @ms23 (And.intro @br23 (And.intro @ap23_23 (And.intro @sl3 (And.intro @sl32 (And.intro @ms32 (And.intro @br32 (And.intro @ap32_32 (And.intro @ap32_9 (And.intro @sl41 (And.intro @sl5 (And.intro @sl9 (And.intro @sx9 (And.intro @str2 (And.intro @str23 (And.intro @str3 (And.intro @str32 (And.intro @str41 (And.intro @str5 (And.intro @str9 (And.intro @sz3 (And.intro @st3 (And.intro @sz5 (And.intro @st5 (And.intro @zero3 (@zero5)))))))))))))))))))))))))))))))))))))))))))))))))))))))))))))))))))))))))))))))))))))))))))))))))))))
-- en16: bs23, bs32
def en16 := And.intro @ent16 (And.intro @res16 (And.intro @rk16 (And.intro @ow16 (And.intro @kp16_0 (And.intro @kp16_1 (And.intro @kp16_2 (And.intro @kp16_3 (And.intro @kp16_4 (And.intro @kp16_5 (And.intro @kp16_6 (And.intro @kp16_7 (And.intro @kp16_8 (And.intro @kp16_9 (And.intro @kp16_10 (And.intro @kp16_11 (And.intro @kp16_12 (And.intro @kp16_13 (And.intro @kp16_14 (And.intro @kp16_15 (And.intro @kp16_16 (And.intro @kp16_17 (And.intro @kp16_18 (And.intro @kp16_19 (And.intro @kp16_20 (And.intro @kp16_21 (And.intro @kp16_22 (And.intro @kp16_23 (And.intro @kp16_24 (And.intro @kp16_25 (And.intro @kp16_26 (And.intro @kp16_27 (And.intro @hd16_4 (And.intro @hd16_9 (And.intro @hd16_17 (And.intro @ent24 (And.intro @ci24 (And.intro @cr24 (And.intro @ak24 (And.intro @ent25 (And.intro @ci25 (And.intro @cr25 (And.intro @ak25 (And.intro @ent29 (And.intro @ci29 (And.intro @cr29 (And.intro @ak29 (And.intro @agg23 (And.intro @agg3 (And.intro @agg32 (And.intro @agg5 (And.intro @agg9 (And.intro @arr23 (And.intro @arr9 (And.intro @kind23 (And.intro @kind3 (And.intro @cv3_56 (And.intro @cv3_5 (And.intro @cv3_73 (And.intro @cv5_3 (And.intro @cv56_3 (And.intro @kind32 (And.intro @cv32_9 (And.intro @kind5 (And.intro @cv71_5 (And.intro @cv5_21 (And.intro @cv21_5 (And.intro @cv56_5 (And.intro @kind9 (And.intro @cv21_9 (And.intro @sl23 (And.intro @ms23 (And.intro @br23 (And.intro @ap23_23 (And.intro @sl3 (And.intro @sl32 (And.intro @ms32 (And.intro @br32 (And.intro @ap32_32 (And.intro @ap32_9 (And.intro @sl5 (And.intro @sl9 (And.intro @sx9 (And.intro @str23 (And.intro @str3 (And.intro @str32 (And.intro @str5 (And.intro @str9 (And.intro @sz3 (And.intro @st3 (And.intro @sz5 (And.intro @st5 (And.intro @zero3 (@zero5)))))))))))))))))))))))))))))))))))))))))))))))))))))))))))))))))))))))))))))))))))))))))))))
-- en17: bs23
def en17 := And.intro @ent17 (And.intro @res17 (And.intro @rk17 (And.intro @ow17 (And.intro @kp17_0 (And.intro @kp17_1 (And.intro @kp17_2 (And.intro @kp17_3 (And.intro @agg23 (And.intro @agg3 (And.intro @arr23 (And.intro @kind23 (And.intro @kind3 (And.intro @cv3_56 (And.intro @cv3_5 (And.intro @cv3_73 (And.intro @cv5_3 (And.intro @cv56_3 (And.intro @sl23 (And.intro @ms23 (And.intro @br23 (And.intro @ap23_23 (And.intro @str23 (And.intro @sz3 (And.intro @st3 (@zero3)))))))))))))))))))))))))
-- en18: bs23
def en18 := And.intro @ent18 (And.intro @res18 (And.intro @rk18 (And.intro @ow18 (And.intro @kp18_0 (And.intro @kp18_1 (And.intro @kp18_2 (And.intro @kp18_3 (And.intro @agg23 (And.intro @agg3 (And.intro @arr23 (And.intro @kind23 (And.intro @kind3 (And.intro @cv3_56 (And.intro @cv3_5 (And.intro @cv3_73 (And.intro @cv5_3 (And.intro @cv56_3 (And.intro @sl23 (And.intro @ms23 (And.intro @br23 (And.intro @ap23_23 (And.intro @str23 (And.intro @sz3 (And.intro @st3 (@zero3)))))))))))))))))))))))))
-- en19: 
def en19 := And.intro @ent19 (And.intro @res19 (And.intro @rk19 (And.intro @ow19 (And.intro @kp19_0 (And.intro @kp19_1 (And.intro @ent30 (And.intro @ci30 (And.intro @cr30 (And.intro @ak30 (And.intro @xk30 (And.intro @agg9 (And.intro @kind9 (And.intro @cv32_9 (And.intro @cv21_9 (And.intro @sl9 (And.intro @sx9 (@str9)))))))))))))))))
-- en20: 
def en20 := And.intro @ent20 (And.intro @res20 (And.intro @rk20 (And.intro @ow20 (And.intro @kp20_0 (@kp20_1)))))
-- en21: bs23
def en21 := And.intro @ent21 (And.intro @res21 (And.intro @rk21 (And.intro @ow21 (And.intro @kp21_0 (And.intro @kp21_1 (And.intro @agg23 (And.intro @agg3 (And.intro @kind23 (And.intro @kind3 (And.intro @cv3_56 (And.intro @cv3_5 (And.intro @cv3_73 (And.intro @cv5_3 (And.intro @cv56_3 (And.intro @sl23 (And.intro @ms23 (And.intro @br23 (And.intro @ap23_23 (And.intro @str23 (And.intro @sz23 (And.intro @st23 (And.intro @sz3 (And.intro @st3 (@zero3))))))))))))))))))))))))
-- en22: 
def en22 := And.intro @ent22 (And.intro @res22 (And.intro @rk22 (And.intro @ow22 (And.intro @kp22_0 (And.intro @kp22_1 (And.intro @ent31 (And.intro @ci31 (And.intro @cr31 (And.intro @ak31 (And.intro @agg46 (And.intro @agg9 (And.intro @kind46 (And.intro @kind9 (And.intro @cv32_9 (And.intro @cv21_9 (And.intro @sl46 (And.intro @sl9 (And.intro @sx9 (And.intro @str46 (@str9))))))))))))))))))))
-- en23: bs23
def en23 := And.intro @ent23 (And.intro @res23 (And.intro @rk23 (And.intro @ow23 (And.intro @kp23_0 (And.intro @kp23_1 (And.intro @ent26 (And.intro @ci26 (And.intro @cr26 (And.intro @ak26 (And.intro @agg23 (And.intro @agg3 (And.intro @agg41 (And.intro @agg9 (And.intro @kind23 (And.intro @kind3 (And.intro @cv3_56 (And.intro @cv3_5 (And.intro @cv3_73 (And.intro @cv5_3 (And.intro @cv56_3 (And.intro @kind41 (And.intro @kind9 (And.intro @cv32_9 (And.intro @cv21_9 (And.intro @sl23 (And.intro @ms23 (And.intro @br23 (And.intro @ap23_23 (And.intro @sl41 (And.intro @sl9 (And.intro @sx9 (And.intro @str23 (And.intro @str41 (And.intro @str9 (And.intro @sz3 (And.intro @st3 (@zero3)))))))))))))))))))))))))))))))))))))
-- en24: 
def en24 := And.intro @ent24 (And.intro @res24 (And.intro @rk24 (And.intro @ow24 (And.intro @kp24_0 (@kp24_1)))))
-- en25: 
def en25 := And.intro @ent25 (And.intro @res25 (And.intro @rk25 (And.intro @ow25 (And.intro @kp25_0 (@kp25_1)))))
-- en26: bs23
def en26 := And.intro @ent26 (And.intro @res26 (And.intro @rk26 (And.intro @ow26 (And.intro @kp26_0 (And.intro @kp26_1 (And.intro @ent34 (And.intro @ci34 (And.intro @cr34 (And.intro @ak34 (And.intro @agg23 (And.intro @agg3 (And.intro @agg41 (And.intro @kind23 (And.intro @kind3 (And.intro @cv3_56 (And.intro @cv3_5 (And.intro @cv3_73 (And.intro @cv5_3 (And.intro @cv56_3 (And.intro @kind41 (And.intro @sl23 (And.intro @ms23 (And.intro @br23 (And.intro @ap23_23 (And.intro @sl41 (And.intro @str23 (And.intro @str41 (And.intro @sz3 (And.intro @st3 (@zero3))))))))))))))))))))))))))))))
-- en27: 
def en27 := And.intro @ent27 (And.intro @res27 (And.intro @rk27 (And.intro @ow27 (And.intro @kp27_0 (@kp27_1)))))
-- en28: bs32
def en28 := And.intro @ent28 (And.intro @res28 (And.intro @rk28 (And.intro @ow28 (And.intro @kp28_0 (And.intro @kp28_1 (And.intro @ent35 (And.intro @ci35 (And.intro @cr35 (And.intro @ak35 (And.intro @agg2 (And.intro @agg3 (And.intro @agg32 (And.intro @agg5 (And.intro @kind2 (And.intro @cv2_56 (And.intro @kind3 (And.intro @cv3_56 (And.intro @cv3_5 (And.intro @cv3_73 (And.intro @cv5_3 (And.intro @cv56_3 (And.intro @kind32 (And.intro @cv32_9 (And.intro @kind5 (And.intro @cv71_5 (And.intro @cv5_21 (And.intro @cv21_5 (And.intro @cv56_5 (And.intro @sl2 (And.intro @sl3 (And.intro @sl32 (And.intro @ms32 (And.intro @br32 (And.intro @ap32_32 (And.intro @ap32_9 (And.intro @str2 (And.intro @str3 (And.intro @str32 (And.intro @sz5 (And.intro @st5 (@zero5)))))))))))))))))))))))))))))))))))))))))
-- en29: bs32
def en29 := And.intro @ent29 (And.intro @res29 (And.intro @rk29 (And.intro @ow29 (And.intro @kp29_0 (And.intro @kp29_1 (And.intro @kp29_2 (And.intro @kp29_3 (And.intro @kp29_4 (And.intro @kp29_5 (And.intro @hd29_2 (And.intro @agg3 (And.intro @agg32 (And.intro @agg5 (And.intro @agg9 (And.intro @kind3 (And.intro @cv3_56 (And.intro @cv3_5 (And.intro @cv3_73 (And.intro @cv5_3 (And.intro @cv56_3 (And.intro @kind32 (And.intro @cv32_9 (And.intro @kind5 (And.intro @cv71_5 (And.intro @cv5_21 (And.intro @cv21_5 (And.intro @cv56_5 (And.intro @kind9 (And.intro @cv21_9 (And.intro @sl3 (And.intro @sl32 (And.intro @ms32 (And.intro @br32 (And.intro @ap32_32 (And.intro @ap32_9 (And.intro @sl5 (And.intro @sl9 (And.intro @sx9 (And.intro @str3 (And.intro @str32 (And.intro @str5 (And.intro @str9 (And.intro @sz5 (And.intro @st5 (@zero5)))))))))))))))))))))))))))))))))))))))))))))
-- en30: 
def en30 := And.intro @ent30 (And.intro @res30 (And.intro @rk30 (And.intro @ow30 (And.intro @kp30_0 (And.intro @kp30_1 (And.intro @kp30_2 (And.intro @kp30_3 (And.intro @kp30_4 (And.intro @kp30_5 (And.intro @kp30_6 (And.intro @kp30_7 (And.intro @kp30_8 (And.intro @fl30_4 (And.intro @dr30_4 (And.intro @ent36 (And.intro @ci36 (And.intro @cr36 (And.intro @ak36 (And.intro @ent37 (And.intro @ci37 (And.intro @cr37 (And.intro @ak37 (And.intro @ent38 (And.intro @ci38 (And.intro @cr38 (And.intro @ak38 (And.intro @ent39 (And.intro @ci39 (And.intro @cr39 (And.intro @ak39 (And.intro @ent40 (And.intro @ci40 (And.intro @cr40 (And.intro @ak40 (And.intro @ent41 (And.intro @ci41 (And.intro @cr41 (And.intro @ak41 (And.intro @ent42 (And.intro @ci42 (And.intro @cr42 (And.intro @ak42 (And.intro @agg5 (And.intro @agg50 (And.intro @agg54 (And.intro @agg9 (And.intro @arr9 (And.intro @arrz50 (And.intro @kind5 (And.intro @cv71_5 (And.intro @cv3_5 (And.intro @cv5_21 (And.intro @cv21_5 (And.intro @cv56_5 (And.intro @cv5_3 (And.intro @kind54 (And.intro @kind9 (And.intro @cv32_9 (And.intro @cv21_9 (And.intro @sl5 (And.intro @sl54 (And.intro @sl9 (And.intro @sx9 (And.intro @str5 (And.intro @str54 (And.intro @str9 (And.intro @sz50 (And.intro @st50 (And.intro @zero50 (@bd50))))))))))))))))))))))))))))))))))))))))))))))))))))))))))))))))))))))
-- en31: 
def en31 := And.intro @ent31 (And.intro @res31 (And.intro @rk31 (And.intro @ow31 (And.intro @kp31_0 (And.intro @kp31_1 (And.intro @ent43 (And.intro @ci43 (And.intro @cr43 (And.intro @ak43 (And.intro @agg46 (And.intro @agg9 (And.intro @kind46 (And.intro @kind9 (And.intro @cv32_9 (And.intro @cv21_9 (And.intro @sl46 (And.intro @sl9 (And.intro @sx9 (And.intro @str46 (@str9))))))))))))))))))))
-- en32: 
def en32 := And.intro @ent32 (And.intro @res32 (And.intro @rk32 (And.intro @ow32 (And.intro @kp32_0 (@kp32_1)))))
-- en33: 
def en33 := And.intro @ent33 (And.intro @res33 (And.intro @rk33 (And.intro @ow33 (And.intro @kp33_0 (@kp33_1)))))
-- en34: bs23
def en34 := And.intro @ent34 (And.intro @res34 (And.intro @rk34 (And.intro @ow34 (And.intro @kp34_0 (And.intro @kp34_1 (And.intro @kp34_2 (And.intro @kp34_3 (And.intro @kp34_4 (And.intro @kp34_5 (And.intro @kp34_6 (And.intro @kp34_7 (And.intro @hd34_2 (And.intro @agg23 (And.intro @agg3 (And.intro @arr23 (And.intro @kind23 (And.intro @kind3 (And.intro @cv3_56 (And.intro @cv3_5 (And.intro @cv3_73 (And.intro @cv5_3 (And.intro @cv56_3 (And.intro @sl23 (And.intro @ms23 (And.intro @br23 (And.intro @ap23_23 (And.intro @sl3 (And.intro @str23 (And.intro @str3 (And.intro @sz3 (And.intro @st3 (@zero3))))))))))))))))))))))))))))))))
-- en35: bs32
def en35 := And.intro @ent35 (And.intro @res35 (And.intro @rk35 (And.intro @ow35 (And.intro @kp35_0 (And.intro @kp35_1 (And.intro @kp35_2 (And.intro @kp35_3 (And.intro @kp35_4 (And.intro @kp35_5 (And.intro @ent44 (And.intro @ci44 (And.intro @cr44 (And.intro @ak44 (And.intro @agg2 (And.intro @agg3 (And.intro @agg32 (And.intro @agg5 (And.intro @agg56 (And.intro @kind2 (And.intro @cv2_56 (And.intro @kind3 (And.intro @cv3_56 (And.intro @cv3_5 (And.intro @cv3_73 (And.intro @cv5_3 (And.intro @cv56_3 (And.intro @kind32 (And.intro @cv32_9 (And.intro @kind5 (And.intro @cv71_5 (And.intro @cv5_21 (And.intro @cv21_5 (And.intro @cv56_5 (And.intro @kind56 (And.intro @cv56_71 (And.intro @sl2 (And.intro @sl3 (And.intro @sl32 (And.intro @ms32 (And.intro @br32 (And.intro @ap32_32 (And.intro @ap32_9 (And.intro @sl56 (And.intro @str2 (And.intro @str3 (And.intro @str32 (And.intro @str56 (And.intro @sz5 (And.intro @st5 (@zero5))))))))))))))))))))))))))))))))))))))))))))))))))
-- en36: 
def en36 := And.intro @ent36 (And.intro @res36 (And.intro @rk36 (And.intro @ow36 (And.intro @kp36_0 (And.intro @kp36_1 (And.intro @kp36_2 (And.intro @kp36_3 (And.intro @hd36_1 (And.intro @agg9 (And.intro @arr9 (And.intro @kind9 (And.intro @cv32_9 (And.intro @cv21_9 (And.intro @sl9 (And.intro @sx9 (@str9))))))))))))))))
-- en37: 
def en37 := And.intro @ent37 (And.intro @res37 (And.intro @rk37 (And.intro @ow37 (And.intro @kp37_0 (And.intro @kp37_1 (And.intro @kp37_2 (And.intro @kp37_3 (And.intro @hd37_1 (And.intro @agg9 (And.intro @arr9 (And.intro @kind9 (And.intro @cv32_9 (And.intro @cv21_9 (And.intro @sl9 (And.intro @sx9 (@str9))))))))))))))))
-- en38: 
def en38 := And.intro @ent38 (And.intro @res38 (And.intro @rk38 (And.intro @ow38 (And.intro @kp38_0 (And.intro @kp38_1 (And.intro @kp38_2 (And.intro @kp38_3 (And.intro @kp38_4 (And.intro @kp38_5 (And.intro @kp38_6 (And.intro @kp38_7 (And.intro @kp38_8 (And.intro @hd38_2 (And.intro @agg4 (And.intro @agg50 (And.intro @agg9 (And.intro @arr50 (And.intro @arr9 (And.intro @arrz50 (And.intro @kind50 (And.intro @kind9 (And.intro @cv32_9 (And.intro @cv21_9 (And.intro @sl50 (And.intro @sl9 (And.intro @sx9 (And.intro @str50 (And.intro @str9 (And.intro @sz4 (And.intro @st4 (And.intro @sz50 (And.intro @st50 (And.intro @zero50 (@bd50))))))))))))))))))))))))))))))))))
-- en39: 
def en39 := And.intro @ent39 (And.intro @res39 (And.intro @rk39 (And.intro @ow39 (And.intro @kp39_0 (And.intro @kp39_1 (And.intro @kp39_2 (And.intro @kp39_3 (And.intro @kp39_4 (And.intro @hd39_1 (And.intro @ent45 (And.intro @ci45 (And.intro @cr45 (And.intro @ak45 (And.intro @agg5 (And.intro @agg54 (And.intro @agg9 (And.intro @arr9 (And.intro @kind5 (And.intro @cv71_5 (And.intro @cv3_5 (And.intro @cv5_21 (And.intro @cv21_5 (And.intro @cv56_5 (And.intro @cv5_3 (And.intro @kind54 (And.intro @kind9 (And.intro @cv32_9 (And.intro @cv21_9 (And.intro @sl5 (And.intro @sl54 (And.intro @sl9 (And.intro @sx9 (And.intro @str5 (And.intro @str54 (@str9)))))))))))))))))))))))))))))))))))
-- en40: 
def en40 := And.intro @ent40 (And.intro @res40 (And.intro @rk40 (And.intro @ow40 (And.intro @kp40_0 (And.intro @kp40_1 (And.intro @kp40_2 (And.intro @kp40_3 (And.intro @kp40_4 (And.intro @hd40_1 (And.intro @ent45 (And.intro @ci45 (And.intro @cr45 (And.intro @ak45 (And.intro @agg5 (And.intro @agg54 (And.intro @agg9 (And.intro @arr9 (And.intro @kind5 (And.intro @cv71_5 (And.intro @cv3_5 (And.intro @cv5_21 (And.intro @cv21_5 (And.intro @cv56_5 (And.intro @cv5_3 (And.intro @kind54 (And.intro @kind9 (And.intro @cv32_9 (And.intro @cv21_9 (And.intro @sl5 (And.intro @sl54 (And.intro @sl9 (And.intro @sx9 (And.intro @str5 (And.intro @str54 (@str9)))))))))))))))))))))))))))))))))))
-- en41: 
def en41 := And.intro @ent41 (And.intro @res41 (And.intro @rk41 (And.intro @ow41 (And.intro @kp41_0 (And.intro @kp41_1 (And.intro @kp41_2 (And.intro @kp41_3 (And.intro @kp41_4 (And.intro @kp41_5 (And.intro @hd41_1 (And.intro @ent46 (And.intro @ci46 (And.intro @cr46 (And.intro @ak46 (And.intro @ent47 (And.intro @ci47 (And.intro @cr47 (And.intro @ak47 (And.intro @agg21 (And.intro @agg9 (And.intro @kind21 (And.intro @cv5_21 (And.intro @cv21_5 (And.intro @cv21_9 (And.intro @kind9 (And.intro @cv32_9 (And.intro @sl21 (And.intro @sl9 (And.intro @sx9 (And.intro @str21 (@str9)))))))))))))))))))))))))))))))
-- en42: 
def en42 := And.intro @ent42 (And.intro @res42 (And.intro @rk42 (And.intro @ow42 (And.intro @kp42_0 (And.intro @kp42_1 (And.intro @kp42_2 (And.intro @kp42_3 (And.intro @kp42_4 (And.intro @kp42_5 (And.intro @kp42_6 (And.intro @kp42_7 (And.intro @hd42_1 (And.intro @ent47 (And.intro @ci47 (And.intro @cr47 (And.intro @ak47 (And.intro @ent48 (And.intro @ci48 (And.intro @cr48 (And.intro @ak48 (And.intro @agg21 (And.intro @agg5 (And.intro @agg9 (And.intro @arr9 (And.intro @kind21 (And.intro @cv5_21 (And.intro @cv21_5 (And.intro @cv21_9 (And.intro @kind5 (And.intro @cv71_5 (And.intro @cv3_5 (And.intro @cv56_5 (And.intro @cv5_3 (And.intro @kind9 (And.intro @cv32_9 (And.intro @sl21 (And.intro @sl5 (And.intro @sl9 (And.intro @sx9 (And.intro @str21 (And.intro @str5 (@str9))))))))))))))))))))))))))))))))))))))))))
-- en43: 
def en43 := And.intro @ent43 (And.intro @res43 (And.intro @rk43 (And.intro @ow43 (And.intro @kp43_0 (And.intro @kp43_1 (And.intro @ent49 (And.intro @ci49 (And.intro @cr49 (And.intro @ak49 (And.intro @agg4 (And.intro @agg46 (And.intro @agg9 (And.intro @kind4 (And.intro @kind46 (And.intro @kind9 (And.intro @cv32_9 (And.intro @cv21_9 (And.intro @sl4 (And.intro @sl46 (And.intro @sl9 (And.intro @sx9 (And.intro @str4 (And.intro @str46 (@str9))))))))))))))))))))))))
-- en44: bs32
def en44 := And.intro @ent44 (And.intro @res44 (And.intro @rk44 (And.intro @ow44 (And.intro @kp44_0 (And.intro @kp44_1 (And.intro @kp44_2 (And.intro @kp44_3 (And.intro @kp44_4 (And.intro @kp44_5 (And.intro @kp44_6 (And.intro @kp44_7 (And.intro @kp44_8 (And.intro @kp44_9 (And.intro @ent50 (And.intro @ci50 (And.intro @cr50 (And.intro @ak50 (And.intro @ent51 (And.intro @ci51 (And.intro @cr51 (And.intro @ak51 (And.intro @ent52 (And.intro @ci52 (And.intro @cr52 (And.intro @ak52 (And.intro @ent53 (And.intro @ci53 (And.intro @cr53 (And.intro @ak53 (And.intro @agg3 (And.intro @agg32 (And.intro @agg4 (And.intro @agg5 (And.intro @agg56 (And.intro @agg62 (And.intro @agg9 (And.intro @arrz62 (And.intro @kind3 (And.intro @cv3_56 (And.intro @cv3_5 (And.intro @cv3_73 (And.intro @cv5_3 (And.intro @cv56_3 (And.intro @kind32 (And.intro @cv32_9 (And.intro @kind4 (And.intro @kind5 (And.intro @cv71_5 (And.intro @cv5_21 (And.intro @cv21_5 (And.intro @cv56_5 (And.intro @kind56 (And.intro @cv2_56 (And.intro @cv56_71 (And.intro @kind62 (And.intro @kind9 (And.intro @cv21_9 (And.intro @sl3 (And.intro @sl32 (And.intro @ms32 (And.intro @br32 (And.intro @ap32_32 (And.intro @ap32_9 (And.intro @sl4 (And.intro @sl56 (And.intro @sl62 (And.intro @sl9 (And.intro @sx9 (And.intro @str3 (And.intro @str32 (And.intro @str4 (And.intro @str56 (And.intro @str62 (And.intro @str9 (And.intro @sz5 (And.intro @st5 (And.intro @sz62 (And.intro @st62 (And.intro @zero5 (And.intro @zero62 (@bd62)))))))))))))))))))))))))))))))))))))))))))))))))))))))))))))))))))))))))))))))))
-- en45: 
def en45 := And.intro @ent45 (And.intro @res45 (And.intro @rk45 (And.intro @ow45 (And.intro @kp45_0 (And.intro @kp45_1 (And.intro @agg4 (And.intro @agg50 (And.intro @arr50 (And.intro @kind50 (And.intro @sl50 (And.intro @str50 (And.intro @sz4 (@st4)))))))))))))
-- en46: 
def en46 := And.intro @ent46 (And.intro @res46 (And.intro @rk46 (And.intro @ow46 (And.intro @kp46_0 (And.intro @kp46_1 (And.intro @kp46_2 (And.intro @kp46_3 (And.intro @ent54 (And.intro @ci54 (And.intro @cr54 (And.intro @ak54 (And.intro @agg21 (And.intro @agg5 (And.intro @agg9 (And.intro @arr9 (And.intro @kind21 (And.intro @cv5_21 (And.intro @cv21_5 (And.intro @cv21_9 (And.intro @kind5 (And.intro @cv71_5 (And.intro @cv3_5 (And.intro @cv56_5 (And.intro @cv5_3 (And.intro @kind9 (And.intro @cv32_9 (And.intro @sl21 (And.intro @sl5 (And.intro @sl9 (And.intro @sx9 (And.intro @str21 (And.intro @str5 (@str9)))))))))))))))))))))))))))))))))
-- en47: 
def en47 := And.intro @ent47 (And.intro @res47 (And.intro @rk47 (And.intro @ow47 (And.intro @kp47_0 (And.intro @kp47_1 (And.intro @ent55 (And.intro @ci55 (And.intro @cr55 (And.intro @ak55 (And.intro @agg21 (And.intro @agg9 (And.intro @kind21 (And.intro @cv5_21 (And.intro @cv21_5 (And.intro @cv21_9 (And.intro @kind9 (And.intro @cv32_9 (And.intro @sl21 (And.intro @sl9 (And.intro @sx9 (And.intro @str21 (@str9))))))))))))))))))))))
-- en48: 
def en48 := And.intro @ent48 (And.intro @res48 (And.intro @rk48 (And.intro @ow48 (And.intro @kp48_0 (And.intro @kp48_1 (And.intro @kp48_2 (And.intro @kp48_3 (And.intro @kp48_4 (And.intro @kp48_5 (And.intro @kp48_6 (And.intro @kp48_7 (And.intro @kp48_8 (And.intro @kp48_9 (And.intro @kp48_10 (And.intro @kp48_11 (And.intro @kp48_12 (And.intro @kp48_13 (And.intro @kp48_14 (And.intro @kp48_15 (And.intro @kp48_16 (And.intro @kp48_17 (And.intro @kp48_18 (And.intro @hd48_10 (And.intro @ent46 (And.intro @ci46 (And.intro @cr46 (And.intro @ak46 (And.intro @ent56 (And.intro @ci56 (And.intro @cr56 (And.intro @ak56 (And.intro @agg21 (And.intro @agg3 (And.intro @agg5 (And.intro @agg9 (And.intro @arr9 (And.intro @kind21 (And.intro @cv5_21 (And.intro @cv21_5 (And.intro @cv21_9 (And.intro @kind3 (And.intro @cv3_56 (And.intro @cv3_5 (And.intro @cv3_73 (And.intro @cv5_3 (And.intro @cv56_3 (And.intro @kind5 (And.intro @cv71_5 (And.intro @cv56_5 (And.intro @kind9 (And.intro @cv32_9 (And.intro @sl21 (And.intro @sl3 (And.intro @sl5 (And.intro @sl9 (And.intro @sx9 (And.intro @str21 (And.intro @str3 (And.intro @str5 (@str9))))))))))))))))))))))))))))))))))))))))))))))))))))))))))))
-- en49: 
def en49 := And.intro @ent49 (And.intro @res49 (And.intro @rk49 (And.intro @ow49 (And.intro @kp49_0 (And.intro @kp49_1 (And.intro @kp49_2 (And.intro @kp49_3 (And.intro @kp49_4 (And.intro @kp49_5 (And.intro @kp49_6 (And.intro @hd49_2 (And.intro @agg21 (And.intro @kind21 (And.intro @cv5_21 (And.intro @cv21_5 (And.intro @cv21_9 (And.intro @sl21 (And.intro @str21 (And.intro @str9 (And.intro @sx9 (And.intro @cv32_9 (@und4))))))))))))))))))))))
-- en50: 
def en50 := And.intro @ent50 (And.intro @res50 (And.intro @rk50 (And.intro @ow50 (And.intro @kp50_0 (And.intro @kp50_1 (And.intro @kp50_2 (And.intro @kp50_3 (And.intro @agg9 (And.intro @kind9 (And.intro @cv32_9 (And.intro @cv21_9 (And.intro @sl9 (And.intro @sx9 (@str9))))))))))))))
-- en51: 
def en51 := And.intro @ent51 (And.intro @res51 (And.intro @rk51 (And.intro @ow51 (And.intro @kp51_0 (And.intro @kp51_1 (And.intro @kp51_2 (And.intro @ent57 (And.intro @ci57 (And.intro @cr57 (And.intro @ak57 (And.intro @ent58 (And.intro @ci58 (And.intro @cr58 (And.intro @ak58 (And.intro @ent59 (And.intro @ci59 (And.intro @cr59 (And.intro @ak59 (And.intro @agg3 (And.intro @agg4 (And.intro @agg56 (And.intro @agg70 (And.intro @arr70 (And.intro @kind3 (And.intro @cv3_56 (And.intro @cv3_5 (And.intro @cv3_73 (And.intro @cv5_3 (And.intro @cv56_3 (And.intro @kind4 (And.intro @kind56 (And.intro @cv2_56 (And.intro @cv56_71 (And.intro @cv56_5 (And.intro @kind70 (And.intro @sl3 (And.intro @sl4 (And.intro @sl56 (And.intro @sl70 (And.intro @str3 (And.intro @str4 (And.intro @str56 (And.intro @str70 (And.intro @sz56 (@st56)))))))))))))))))))))))))))))))))))))))))))))
-- en52: bs32
def en52 := And.intro @ent52 (And.intro @res52 (And.intro @rk52 (And.intro @ow52 (And.intro @kp52_0 (And.intro @kp52_1 (And.intro @kp52_2 (And.intro @kp52_3 (And.intro @kp52_4 (And.intro @kp52_5 (And.intro @kp52_6 (And.intro @kp52_7 (And.intro @kp52_8 (And.intro @kp52_9 (And.intro @kp52_10 (And.intro @kp52_11 (And.intro @kp52_12 (And.intro @kp52_13 (And.intro @kp52_14 (And.intro @kp52_15 (And.intro @kp52_16 (And.intro @kp52_17 (And.intro @kp52_18 (And.intro @kp52_19 (And.intro @kp52_20 (And.intro @kp52_21 (And.intro @kp52_22 (And.intro @kp52_23 (And.intro @kp52_24 (And.intro @kp52_25 (And.intro @kp52_26 (And.intro @hd52_1 (And.intro @fl52_7 (And.intro @dr52_7 (And.intro @fl52_8 (And.intro @dr52_8 (And.intro @fl52_9 (And.intro @dr52_9 (And.intro @fl52_10 (And.intro @dr52_10 (And.intro @fl52_17 (And.intro @dr52_17 (And.intro @fl52_18 (And.intro @dr52_18 (And.intro @fl52_23 (And.intro @dr52_23 (And.intro @agg32 (And.intro @agg5 (And.intro @agg56 (And.intro @agg71 (And.intro @arr32 (And.intro @arr9 (And.intro @kind32 (And.intro @cv32_9 (And.intro @kind5 (And.intro @cv71_5 (And.intro @cv3_5 (And.intro @cv5_21 (And.intro @cv21_5 (And.intro @cv56_5 (And.intro @cv5_3 (And.intro @kind56 (And.intro @cv2_56 (And.intro @cv3_56 (And.intro @cv56_71 (And.intro @cv56_3 (And.intro @kind71 (And.intro @cv73_71 (And.intro @sl32 (And.intro @ms32 (And.intro @br32 (And.intro @ap32_32 (And.intro @ap32_9 (And.intro @sl5 (And.intro @sl56 (And.intro @sl71 (And.intro @str32 (And.intro @str5 (And.intro @str56 (And.intro @str71 (And.intro @str9 (And.intro @sx9 (And.intro @cv21_9 (And.intro @sz5 (And.intro @st5 (@zero5)))))))))))))))))))))))))))))))))))))))))))))))))))))))))))))))))))))))))))))))))))))
-- en53: bs32
def en53 := And.intro @ent53 (And.intro @res53 (And.intro @rk53 (And.intro @ow53 (And.intro @kp53_0 (And.intro @kp53_1 (And.intro @kp53_2 (And.intro @kp53_3 (And.intro @kp53_4 (And.intro @kp53_5 (And.intro @kp53_6 (And.intro @kp53_7 (And.intro @kp53_8 (And.intro @kp53_9 (And.intro @kp53_10 (And.intro @kp53_11 (And.intro @kp53_12 (And.intro @kp53_13 (And.intro @kp53_14 (And.intro @kp53_15 (And.intro @kp53_16 (And.intro @kp53_17 (And.intro @kp53_18 (And.intro @kp53_19 (And.intro @kp53_20 (And.intro @kp53_21 (And.intro @kp53_22 (And.intro @kp53_23 (And.intro @kp53_24 (And.intro @kp53_25 (And.intro @kp53_26 (And.intro @kp53_27 (And.intro @kp53_28 (And.intro @kp53_29 (And.intro @kp53_30 (And.intro @hd53_11 (And.intro @hd53_18 (And.intro @ent60 (And.intro @ci60 (And.intro @cr60 (And.intro @ak60 (And.intro @ent61 (And.intro @ci61 (And.intro @cr61 (And.intro @ak61 (And.intro @agg3 (And.intro @agg32 (And.intro @agg5 (And.intro @agg56 (And.intro @agg72 (And.intro @agg73 (And.intro @agg9 (And.intro @arr72 (And.intro @arr9 (And.intro @arrz72 (And.intro @kind3 (And.intro @cv3_56 (And.intro @cv3_5 (And.intro @cv3_73 (And.intro @cv5_3 (And.intro @cv56_3 (And.intro @kind32 (And.intro @cv32_9 (And.intro @kind5 (And.intro @cv71_5 (And.intro @cv5_21 (And.intro @cv21_5 (And.intro @cv56_5 (And.intro @kind56 (And.intro @cv2_56 (And.intro @cv56_71 (And.intro @kind72 (And.intro @kind73 (And.intro @cv73_71 (And.intro @kind9 (And.intro @cv21_9 (And.intro @sl3 (And.intro @sl32 (And.intro @ms32 (And.intro @br32 (And.intro @ap32_32 (And.intro @ap32_9 (And.intro @sl56 (And.intro @sl72 (And.intro @sl73 (And.intro @sl9 (And.intro @sx9 (And.intro @str3 (And.intro @str32 (And.intro @str56 (And.intro @str72 (And.intro @str73 (And.intro @str9 (And.intro @sz5 (And.intro @st5 (And.intro @sz72 (And.intro @st72 (And.intro @zero5 (And.intro @zero72 (@bd72)))))))))))))))))))))))))))))))))))))))))))))))))))))))))))))))))))))))))))))))))))))))))))))))))))
-- en54: 
def en54 := And.intro @ent54 (And.intro @res54 (And.intro @rk54 (And.intro @ow54 (And.intro @kp54_0 (And.intro @kp54_1 (And.intro @kp54_2 (And.intro @kp54_3 (And.intro @kp54_4 (And.intro @kp54_5 (And.intro @kp54_6 (And.intro @kp54_7 (And.intro @kp54_8 (And.intro @kp54_9 (And.intro @kp54_10 (And.intro @kp54_11 (And.intro @kp54_12 (And.intro @kp54_13 (And.intro @kp54_14 (And.intro @kp54_15 (And.intro @kp54_16 (And.intro @kp54_17 (And.intro @kp54_18 (And.intro @kp54_19 (And.intro @kp54_20 (And.intro @kp54_21 (And.intro @kp54_22 (And.intro @kp54_23 (And.intro @kp54_24 (And.intro @kp54_25 (And.intro @kp54_26 (And.intro @agg21 (And.intro @agg3 (And.intro @agg5 (And.intro @agg75 (And.intro @agg77 (And.intro @agg78 (And.intro @agg9 (And.intro @arr75 (And.intro @arr78 (And.intro @arr9 (And.intro @arrz77 (And.intro @fld77_0 (And.intro @fld77_1 (And.intro @kind21 (And.intro @cv5_21 (And.intro @cv21_5 (And.intro @cv21_9 (And.intro @kind3 (And.intro @cv3_56 (And.intro @cv3_5 (And.intro @cv3_73 (And.intro @cv5_3 (And.intro @cv56_3 (And.intro @kind5 (And.intro @cv71_5 (And.intro @cv56_5 (And.intro @kind75 (And.intro @kind78 (And.intro @kind9 (And.intro @cv32_9 (And.intro @pl77 (And.intro @sl21 (And.intro @sl3 (And.intro @sl5 (And.intro @sl75 (And.intro @sl78 (And.intro @sl9 (And.intro @sx9 (And.intro @str21 (And.intro @str3 (And.intro @str5 (And.intro @str75 (And.intro @str78 (And.intro @str9 (And.intro @sz5 (And.intro @st5 (And.intro @sz77 (And.intro @st77 (And.intro @zero77 (@bd77))))))))))))))))))))))))))))))))))))))))))))))))))))))))))))))))))))))))))))))))
-- en55: 
def en55 := And.intro @ent55 (And.intro @res55 (And.intro @rk55 (And.intro @ow55 (And.intro @kp55_0 (And.intro @kp55_1 (And.intro @kp55_2 (And.intro @kp55_3 (And.intro @kp55_4 (And.intro @kp55_5 (And.intro @kp55_6 (And.intro @kp55_7 (And.intro @kp55_8 (And.intro @kp55_9 (And.intro @kp55_10 (And.intro @kp55_11 (And.intro @kp55_12 (And.intro @kp55_13 (And.intro @kp55_14 (And.intro @kp55_15 (And.intro @kp55_16 (And.intro @kp55_17 (And.intro @kp55_18 (And.intro @kp55_19 (And.intro @kp55_20 (And.intro @kp55_21 (And.intro @kp55_22 (And.intro @kp55_23 (And.intro @kp55_24 (And.intro @kp55_25 (And.intro @kp55_26 (And.intro @kp55_27 (And.intro @kp55_28 (And.intro @kp55_29 (And.intro @kp55_30 (And.intro @kp55_31 (And.intro @kp55_32 (And.intro @kp55_33 (And.intro @kp55_34 (And.intro @kp55_35 (And.intro @kp55_36 (And.intro @kp55_37 (And.intro @kp55_38 (And.intro @kp55_39 (And.intro @kp55_40 (And.intro @kp55_41 (And.intro @kp55_42 (And.intro @kp55_43 (And.intro @kp55_44 (And.intro @hd55_5 (And.intro @hd55_12 (And.intro @hd55_25 (And.intro @hd55_29 (And.intro @hd55_38 (And.intro @fl55_6 (And.intro @dr55_6 (And.intro @fl55_7 (And.intro @dr55_7 (And.intro @fl55_14 (And.intro @dr55_14 (And.intro @fl55_31 (And.intro @dr55_31 (And.intro @ent62 (And.intro @ci62 (And.intro @cr62 (And.intro @ak62 (And.intro @ent63 (And.intro @ci63 (And.intro @cr63 (And.intro @ak63 (And.intro @ent64 (And.intro @ci64 (And.intro @cr64 (And.intro @ak64 (And.intro @agg21 (And.intro @agg3 (And.intro @agg5 (And.intro @agg9 (And.intro @arr9 (And.intro @kind21 (And.intro @cv5_21 (And.intro @cv21_5 (And.intro @cv21_9 (And.intro @kind3 (And.intro @cv3_56 (And.intro @cv3_5 (And.intro @cv3_73 (And.intro @cv5_3 (And.intro @cv56_3 (And.intro @kind5 (And.intro @cv71_5 (And.intro @cv56_5 (And.intro @kind9 (And.intro @cv32_9 (And.intro @sl21 (And.intro @sl3 (And.intro @sl5 (And.intro @sl9 (And.intro @sx9 (And.intro @str21 (And.intro @str3 (And.intro @str5 (@str9))))))))))))))))))))))))))))))))))))))))))))))))))))))))))))))))))))))))))))))))))))))))))))))))))))))
-- en56: 
def en56 := And.intro @ent56 (And.intro @res56 (And.intro @rk56 (And.intro @ow56 (And.intro @kp56_0 (@kp56_1)))))
-- en57: 
def en57 := And.intro @ent57 (And.intro @res57 (And.intro @rk57 (And.intro @ow57 (And.intro @kp57_0 (@kp57_1)))))
-- en58: 
def en58 := And.intro @ent58 (And.intro @res58 (And.intro @rk58 (And.intro @ow58 (And.intro @kp58_0 (And.intro @kp58_1 (And.intro @kp58_2 (And.intro @kp58_3 (And.intro @kp58_4 (And.intro @kp58_5 (And.intro @kp58_6 (And.intro @kp58_7 (And.intro @kp58_8 (And.intro @kp58_9 (And.intro @kp58_10 (And.intro @agg3 (And.intro @agg5 (And.intro @agg56 (And.intro @arr9 (And.intro @kind3 (And.intro @cv3_56 (And.intro @cv3_5 (And.intro @cv3_73 (And.intro @cv5_3 (And.intro @cv56_3 (And.intro @kind5 (And.intro @cv71_5 (And.intro @cv5_21 (And.intro @cv21_5 (And.intro @cv56_5 (And.intro @kind56 (And.intro @cv2_56 (And.intro @cv56_71 (And.intro @sl3 (And.intro @sl5 (And.intro @sl56 (And.intro @str3 (And.intro @str5 (And.intro @str56 (And.intro @str9 (And.intro @sx9 (And.intro @cv32_9 (@cv21_9))))))))))))))))))))))))))))))))))))))))))
-- en59: 
def en59 := And.intro @ent59 (And.intro @res59 (And.intro @rk59 (And.intro @ow59 (And.intro @kp59_0 (And.intro @kp59_1 (And.intro @kp59_2 (@kp59_3)))))))
-- en60: 
def en60 := And.intro @ent60 (And.intro @res60 (And.intro @rk60 (And.intro @ow60 (And.intro @kp60_0 (@kp60_1)))))
-- en61: 
def en61 := And.intro @ent61 (And.intro @res61 (And.intro @rk61 (And.intro @ow61 (And.intro @kp61_0 (And.intro @kp61_1 (And.intro @kp61_2 (And.intro @ent66 (And.intro @ci66 (And.intro @cr66 (And.intro @ak66 (And.intro @ent67 (And.intro @ci67 (And.intro @cr67 (And.intro @ak67 (And.intro @agg56 (And.intro @agg71 (And.intro @agg73 (And.intro @kind56 (And.intro @cv2_56 (And.intro @cv3_56 (And.intro @cv56_71 (And.intro @cv56_5 (And.intro @cv56_3 (And.intro @kind71 (And.intro @cv71_5 (And.intro @cv73_71 (And.intro @kind73 (And.intro @cv3_73 (And.intro @sl56 (And.intro @sl71 (And.intro @sl73 (And.intro @str56 (And.intro @str71 (@str73))))))))))))))))))))))))))))))))))
-- en62: 
def en62 := And.intro @ent62 (And.intro @res62 (And.intro @rk62 (And.intro @ow62 (And.intro @kp62_0 (And.intro @kp62_1 (And.intro @ent68 (And.intro @ci68 (And.intro @cr68 (And.intro @ak68 (And.intro @agg5 (And.intro @agg9 (And.intro @kind5 (And.intro @cv71_5 (And.intro @cv3_5 (And.intro @cv5_21 (And.intro @cv21_5 (And.intro @cv56_5 (And.intro @cv5_3 (And.intro @kind9 (And.intro @cv32_9 (And.intro @cv21_9 (And.intro @sl5 (And.intro @sl9 (And.intro @sx9 (And.intro @str5 (@str9))))))))))))))))))))))))))
-- en63: 
def en63 := And.intro @ent63 (And.intro @res63 (And.intro @rk63 (And.intro @ow63 (And.intro @kp63_0 (And.intro @kp63_1 (And.intro @kp63_2 (And.intro @kp63_3 (And.intro @kp63_4 (@kp63_5)))))))))
-- en64: 
def en64 := And.intro @ent64 (And.intro @res64 (And.intro @rk64 (And.intro @ow64 (And.intro @kp64_0 (@kp64_1)))))
-- en66: 
def en66 := And.intro @ent66 (And.intro @res66 (And.intro @rk66 (And.intro @ow66 (And.intro @kp66_0 (And.intro @kp66_1 (And.intro @kp66_2 (And.intro @kp66_3 (And.intro @agg3 (And.intro @agg5 (And.intro @agg82 (And.intro @arr82 (And.intro @kind3 (And.intro @cv3_56 (And.intro @cv3_5 (And.intro @cv3_73 (And.intro @cv5_3 (And.intro @cv56_3 (And.intro @kind5 (And.intro @cv71_5 (And.intro @cv5_21 (And.intro @cv21_5 (And.intro @cv56_5 (And.intro @kind82 (And.intro @sl3 (And.intro @sl5 (And.intro @sl82 (And.intro @str3 (And.intro @str5 (And.intro @str82 (And.intro @sz5 (@st5)))))))))))))))))))))))))))))))
-- en67: 
def en67 := And.intro @ent67 (And.intro @res67 (And.intro @rk67 (And.intro @ow67 (And.intro @kp67_0 (And.intro @kp67_1 (And.intro @kp67_2 (And.intro @kp67_3 (And.intro @agg3 (And.intro @agg5 (And.intro @agg83 (And.intro @arr83 (And.intro @kind3 (And.intro @cv3_56 (And.intro @cv3_5 (And.intro @cv3_73 (And.intro @cv5_3 (And.intro @cv56_3 (And.intro @kind5 (And.intro @cv71_5 (And.intro @cv5_21 (And.intro @cv21_5 (And.intro @cv56_5 (And.intro @kind83 (And.intro @sl3 (And.intro @sl5 (And.intro @sl83 (And.intro @str3 (And.intro @str5 (And.intro @str83 (And.intro @sz5 (@st5)))))))))))))))))))))))))))))))
-- en68: 
def en68 := And.intro @ent68 (And.intro @res68 (And.intro @rk68 (And.intro @ow68 (And.intro @kp68_0 (And.intro @kp68_1 (And.intro @agg5 (And.intro @agg9 (And.intro @kind5 (And.intro @cv71_5 (And.intro @cv3_5 (And.intro @cv5_21 (And.intro @cv21_5 (And.intro @cv56_5 (And.intro @cv5_3 (And.intro @kind9 (And.intro @cv32_9 (And.intro @cv21_9 (And.intro @sl5 (And.intro @sl9 (And.intro @sx9 (And.intro @str5 (@str9))))))))))))))))))))))
-- en93: 
def en93 := And.intro @ent93 (And.intro @res93 (And.intro @rk93 (And.intro @ow93 (And.intro @kp93_0 (And.intro @kp93_1 (And.intro @kp93_2 (And.intro @kp93_3 (And.intro @agg5 (And.intro @agg56 (And.intro @agg70 (And.intro @agg77 (And.intro @agg78 (And.intro @agg82 (And.intro @agg83 (And.intro @arr70 (And.intro @arr77 (And.intro @arr78 (And.intro @arr82 (And.intro @arr83 (And.intro @arrz70 (And.intro @arrz77 (And.intro @arrz78 (And.intro @arrz82 (And.intro @arrz83 (And.intro @fld77_0 (And.intro @fld77_1 (And.intro @pl77 (And.intro @sz5 (And.intro @st5 (And.intro @sz56 (And.intro @st56 (And.intro @sz70 (And.intro @st70 (And.intro @sz77 (And.intro @st77 (And.intro @sz78 (And.intro @st78 (And.intro @sz82 (And.intro @st82 (And.intro @sz83 (And.intro @st83 (And.intro @zero70 (And.intro @bd70 (And.intro @zero77 (And.intro @bd77 (And.intro @zero78 (And.intro @bd78 (And.intro @zero82 (And.intro @bd82 (And.intro @zero83 (@bd83)))))))))))))))))))))))))))))))))))))))))))))))))))
-- ca2: 
def ca2 := And.intro @ent2 (And.intro @ci2 (And.intro @cr2 (@ak2)))
-- ca3: 
def ca3 := And.intro @ent3 (And.intro @ci3 (And.intro @cr3 (@ak3)))
-- ca4: 
def ca4 := And.intro @ent4 (And.intro @ci4 (And.intro @cr4 (@ak4)))
-- ca5: 
def ca5 := And.intro @ent5 (And.intro @ci5 (And.intro @cr5 (@ak5)))
-- ca6: 
def ca6 := And.intro @ent6 (And.intro @ci6 (And.intro @cr6 (@ak6)))
-- ca7: 
def ca7 := And.intro @ent7 (And.intro @ci7 (And.intro @cr7 (@ak7)))
-- ca8: 
def ca8 := And.intro @ent8 (And.intro @ci8 (And.intro @cr8 (@ak8)))
-- ca9: 
def ca9 := And.intro @ent9 (And.intro @ci9 (And.intro @cr9 (@ak9)))
-- ca10: 
def ca10 := And.intro @ent10 (And.intro @ci10 (And.intro @cr10 (@ak10)))
-- ca11: 
def ca11 := And.intro @ent11 (And.intro @ci11 (And.intro @cr11 (@ak11)))
-- ca12: 
def ca12 := And.intro @ent12 (And.intro @ci12 (And.intro @cr12 (@ak12)))
-- ca13: 
def ca13 := And.intro @ent13 (And.intro @ci13 (And.intro @cr13 (@ak13)))
-- ca14: 
def ca14 := And.intro @ent14 (And.intro @ci14 (And.intro @cr14 (@ak14)))
-- ca15: 
def ca15 := And.intro @ent15 (And.intro @ci15 (And.intro @cr15 (@ak15)))
-- ca16: 
def ca16 := And.intro @ent16 (And.intro @ci16 (And.intro @cr16 (@ak16)))
-- ca17: 
def ca17 := And.intro @ent17 (And.intro @ci17 (And.intro @cr17 (@ak17)))
-- ca18: 
def ca18 := And.intro @ent18 (And.intro @ci18 (And.intro @cr18 (@ak18)))
-- ca19: 
def ca19 := And.intro @ent19 (And.intro @ci19 (And.intro @cr19 (@ak19)))
-- ca20: 
def ca20 := And.intro @ent20 (And.intro @ci20 (And.intro @cr20 (@ak20)))
-- ca21: 
def ca21 := And.intro @ent21 (And.intro @ci21 (And.intro @cr21 (@ak21)))
-- ca22: 
def ca22 := And.intro @ent22 (And.intro @ci22 (And.intro @cr22 (@ak22)))
-- ca23: 
def ca23 := And.intro @ent23 (And.intro @ci23 (And.intro @cr23 (@ak23)))
-- ca24: 
def ca24 := And.intro @ent24 (And.intro @ci24 (And.intro @cr24 (@ak24)))
-- ca25: 
def ca25 := And.intro @ent25 (And.intro @ci25 (And.intro @cr25 (@ak25)))
-- ca26: 
def ca26 := And.intro @ent26 (And.intro @ci26 (And.intro @cr26 (@ak26)))
-- ca27: 
def ca27 := And.intro @ent27 (And.intro @ci27 (And.intro @cr27 (@ak27)))
-- ca28: 
def ca28 := And.intro @ent28 (And.intro @ci28 (And.intro @cr28 (And.intro @ak28 (@xk28))))
-- ca29: 
def ca29 := And.intro @ent29 (And.intro @ci29 (And.intro @cr29 (@ak29)))
-- ca30: 
def ca30 := And.intro @ent30 (And.intro @ci30 (And.intro @cr30 (And.intro @ak30 (@xk30))))
-- ca31: 
def ca31 := And.intro @ent31 (And.intro @ci31 (And.intro @cr31 (@ak31)))
-- ca32: 
def ca32 := And.intro @ent32 (And.intro @ci32 (And.intro @cr32 (@ak32)))
-- ca33: 
def ca33 := And.intro @ent33 (And.intro @ci33 (And.intro @cr33 (@ak33)))
-- ca34: 
def ca34 := And.intro @ent34 (And.intro @ci34 (And.intro @cr34 (@ak34)))
-- ca35: 
def ca35 := And.intro @ent35 (And.intro @ci35 (And.intro @cr35 (@ak35)))
-- ca36: 
def ca36 := And.intro @ent36 (And.intro @ci36 (And.intro @cr36 (@ak36)))
-- ca37: 
def ca37 := And.intro @ent37 (And.intro @ci37 (And.intro @cr37 (@ak37)))
-- ca38: 
def ca38 := And.intro @ent38 (And.intro @ci38 (And.intro @cr38 (@ak38)))
-- ca39: 
def ca39 := And.intro @ent39 (And.intro @ci39 (And.intro @cr39 (@ak39)))
-- ca40: 
def ca40 := And.intro @ent40 (And.intro @ci40 (And.intro @cr40 (@ak40)))
-- ca41: 
def ca41 := And.intro @ent41 (And.intro @ci41 (And.intro @cr41 (@ak41)))
-- ca42: 
def ca42 := And.intro @ent42 (And.intro @ci42 (And.intro @cr42 (@ak42)))
-- ca43: 
def ca43 := And.intro @ent43 (And.intro @ci43 (And.intro @cr43 (@ak43)))
-- ca44: 
def ca44 := And.intro @ent44 (And.intro @ci44 (And.intro @cr44 (@ak44)))
-- ca45: 
def ca45 := And.intro @ent45 (And.intro @ci45 (And.intro @cr45 (@ak45)))
-- ca46: 
def ca46 := And.intro @ent46 (And.intro @ci46 (And.intro @cr46 (@ak46)))
-- ca47: 
def ca47 := And.intro @ent47 (And.intro @ci47 (And.intro @cr47 (@ak47)))
-- ca48: 
def ca48 := And.intro @ent48 (And.intro @ci48 (And.intro @cr48 (@ak48)))
-- ca49: 
def ca49 := And.intro @ent49 (And.intro @ci49 (And.intro @cr49 (@ak49)))
-- ca50: 
def ca50 := And.intro @ent50 (And.intro @ci50 (And.intro @cr50 (@ak50)))
-- ca51: 
def ca51 := And.intro @ent51 (And.intro @ci51 (And.intro @cr51 (@ak51)))
-- ca52: 
def ca52 := And.intro @ent52 (And.intro @ci52 (And.intro @cr52 (@ak52)))
-- ca53: 
def ca53 := And.intro @ent53 (And.intro @ci53 (And.intro @cr53 (@ak53)))
-- ca54: 
def ca54 := And.intro @ent54 (And.intro @ci54 (And.intro @cr54 (@ak54)))
-- ca55: 
def ca55 := And.intro @ent55 (And.intro @ci55 (And.intro @cr55 (@ak55)))
-- ca56: 
def ca56 := And.intro @ent56 (And.intro @ci56 (And.intro @cr56 (@ak56)))
-- ca57: 
def ca57 := And.intro @ent57 (And.intro @ci57 (And.intro @cr57 (@ak57)))
-- ca58: 
def ca58 := And.intro @ent58 (And.intro @ci58 (And.intro @cr58 (@ak58)))
-- ca59: 
def ca59 := And.intro @ent59 (And.intro @ci59 (And.intro @cr59 (@ak59)))
-- ca60: 
def ca60 := And.intro @ent60 (And.intro @ci60 (And.intro @cr60 (@ak60)))
-- ca61: 
def ca61 := And.intro @ent61 (And.intro @ci61 (And.intro @cr61 (@ak61)))
-- ca62: 
def ca62 := And.intro @ent62 (And.intro @ci62 (And.intro @cr62 (@ak62)))
-- ca63: 
def ca63 := And.intro @ent63 (And.intro @ci63 (And.intro @cr63 (@ak63)))
-- ca64: 
def ca64 := And.intro @ent64 (And.intro @ci64 (And.intro @cr64 (@ak64)))
-- ca66: 
def ca66 := And.intro @ent66 (And.intro @ci66 (And.intro @cr66 (@ak66)))
-- ca67: 
def ca67 := And.intro @ent67 (And.intro @ci67 (And.intro @cr67 (@ak67)))
-- ca68: 
def ca68 := And.intro @ent68 (And.intro @ci68 (And.intro @cr68 (@ak68)))
-- ca93: 
def ca93 := And.intro @ent93 (And.intro @ci93 (And.intro @cr93 (@ak93)))
-- tyaa: 
def tyaa := And.intro @agg2 (And.intro @agg21 (And.intro @agg23 (And.intro @agg3 (And.intro @agg32 (And.intro @agg4 (And.intro @agg41 (And.intro @agg46 (And.intro @agg5 (And.intro @agg50 (And.intro @agg54 (And.intro @agg56 (And.intro @agg62 (And.intro @agg70 (And.intro @agg71 (And.intro @agg72 (And.intro @agg73 (And.intro @agg75 (And.intro @agg77 (And.intro @agg78 (And.intro @agg82 (And.intro @agg83 (And.intro @agg9 (And.intro @arr23 (@arr32))))))))))))))))))))))))
-- tyab: 
def tyab := And.intro @arr50 (And.intro @arr70 (And.intro @arr72 (And.intro @arr75 (And.intro @arr77 (And.intro @arr78 (And.intro @arr82 (And.intro @arr83 (And.intro @arr9 (And.intro @arrz50 (And.intro @arrz62 (And.intro @arrz70 (And.intro @arrz72 (And.intro @arrz77 (And.intro @arrz78 (And.intro @arrz82 (And.intro @arrz83 (And.intro @fld77_0 (And.intro @fld77_1 (And.intro @kind2 (And.intro @cv2_56 (And.intro @kind21 (And.intro @cv5_21 (And.intro @cv21_5 (@cv21_9))))))))))))))))))))))))
-- tyac: 
def tyac := And.intro @kind23 (And.intro @kind3 (And.intro @cv3_56 (And.intro @cv3_5 (And.intro @cv3_73 (And.intro @cv5_3 (And.intro @cv56_3 (And.intro @kind32 (And.intro @cv32_9 (And.intro @kind4 (And.intro @kind41 (And.intro @kind46 (And.intro @kind5 (And.intro @cv71_5 (And.intro @cv56_5 (And.intro @kind50 (And.intro @kind54 (And.intro @kind56 (And.intro @cv56_71 (And.intro @kind62 (And.intro @kind70 (And.intro @kind71 (And.intro @cv73_71 (And.intro @kind72 (@kind73))))))))))))))))))))))))
-- tyad: bs23
def tyad := And.intro @kind75 (And.intro @kind78 (And.intro @kind82 (And.intro @kind83 (And.intro @kind9 (And.intro @pl77 (And.intro @sl2 (And.intro @sl21 (And.intro @sl23 (And.intro @ms23 (And.intro @br23 (And.intro @ap23_23 (@sl3))))))))))))
-- tyae: bs32
def tyae := And.intro @sl32 (And.intro @ms32 (And.intro @br32 (And.intro @ap32_32 (And.intro @ap32_9 (And.intro @sl4 (And.intro @sl41 (And.intro @sl46 (@sl5))))))))
-- tyaf: 
def tyaf := And.intro @sl50 (And.intro @sl54 (And.intro @sl56 (And.intro @sl62 (@sl70))))
-- tyag: 
def tyag := And.intro @sl71 (And.intro @sl72 (And.intro @sl73 (And.intro @sl75 (@sl78))))
-- tyah: 
def tyah := And.intro @sl82 (And.intro @sl83 (And.intro @sl9 (And.intro @sx9 (And.intro @str2 (And.intro @str21 (And.intro @str23 (And.intro @str3 (And.intro @str32 (@str4)))))))))
-- tyai: 
def tyai := And.intro @str41 (And.intro @str46 (And.intro @str5 (And.intro @str50 (And.intro @str54 (And.intro @str56 (And.intro @str62 (And.intro @str70 (And.intro @str71 (And.intro @str72 (And.intro @str73 (And.intro @str75 (And.intro @str78 (And.intro @str82 (And.intro @str83 (And.intro @str9 (And.intro @sz23 (And.intro @st23 (And.intro @sz3 (And.intro @st3 (And.intro @sz4 (And.intro @st4 (And.intro @sz5 (And.intro @st5 (@sz50))))))))))))))))))))))))
-- tyaj: 
def tyaj := And.intro @st50 (And.intro @sz56 (And.intro @st56 (And.intro @sz62 (And.intro @st62 (And.intro @sz70 (And.intro @st70 (And.intro @sz72 (And.intro @st72 (And.intro @sz77 (And.intro @st77 (And.intro @sz78 (And.intro @st78 (And.intro @sz82 (And.intro @st82 (And.intro @sz83 (And.intro @st83 (And.intro @und4 (And.intro @zero23 (And.intro @zero3 (And.intro @zero5 (@zero50)))))))))))))))))))))
-- tyak: 
def tyak := And.intro @bd50 (And.intro @zero62 (And.intro @bd62 (And.intro @zero70 (And.intro @bd70 (And.intro @zero72 (And.intro @bd72 (And.intro @zero77 (And.intro @bd77 (And.intro @zero78 (And.intro @bd78 (And.intro @zero82 (And.intro @bd82 (And.intro @zero83 (@bd83))))))))))))))
end Go.VI
