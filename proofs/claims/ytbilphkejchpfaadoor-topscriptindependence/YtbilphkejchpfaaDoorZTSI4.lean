import Derived.Test.YtbilphkejchpfaaDoorProg
import Derived.KernelRfl
import Derived.MapKept
import Derived.Carry
import Derived.WalkKit
import Derived.OwnWalk
import Derived.Test.YtbilphkejchpfaaDoorZTSI3
set_option linter.unusedVariables false
set_option linter.defProp false
set_option maxRecDepth 20000
namespace Go.VI
open Go.Proofs
def keepT : List (Nat × List (Nat × List Nat)) := [
 (2, [(0, [])]),
 (3, [(0, [0, 1, 2, 3, 9]), (1, [0, 1, 2, 3, 9, 33]), (2, [10]), (3, [0, 1, 2, 3, 9, 11, 12]), (4, [0, 1, 2, 3, 9, 11, 41]), (5, [10]), (6, [0, 1, 2, 3, 9, 11, 13, 14]), (7, [0, 1, 2, 3, 9, 13, 14, 71]), (8, [10]), (9, [0, 1, 2, 3, 9, 13, 14, 15, 16]), (10, [0, 1, 2, 3, 9, 13, 14, 16, 17, 19]), (11, [1, 2, 3, 9, 13, 14, 16, 17, 19, 20, 21]), (12, [1, 2, 3, 9, 13, 14, 16, 17, 19, 21, 22, 23]), (13, [1, 2, 3, 9, 13, 14, 17, 22, 106]), (14, [10]), (15, [10])]),
 (4, [(0, [0, 1]), (1, [4])]),
 (5, [(0, []), (1, [0])]),
 (6, [(0, [0, 2, 3]), (1, [0, 2, 3, 4, 5]), (2, [0, 2, 3, 4, 5, 19]), (3, [2, 3]), (4, [0, 2, 3, 4, 6]), (5, [2, 3, 4, 6, 25, 26, 27]), (6, [2, 3, 4, 6, 25, 26, 27, 28]), (7, [2, 3, 4, 6, 7, 8, 25, 26, 27]), (8, [2, 3, 4, 6, 7, 8, 25, 26, 27, 36]), (9, [2, 3, 4, 6, 7, 8, 9, 25, 26, 27]), (10, [2, 3, 4, 6, 7, 8, 9, 25, 26, 27, 62]), (11, [2, 3]), (12, [2, 3, 4, 6, 7, 8, 9, 25, 26, 27]), (13, [2, 3, 4, 6, 9, 25, 26, 27, 73]), (14, [6, 9, 10]), (15, [6, 9, 10]), (16, [6, 10, 89, 90]), (17, [6, 10, 89, 90, 91]), (18, [6, 10, 11, 12, 89, 90]), (19, [6, 10, 89, 90]), (20, [6, 10, 89, 90]), (21, [2, 3, 4, 6, 25, 26, 27]), (22, [2, 3])]),
 (7, [(0, [0, 1, 2, 4, 8, 10]), (1, [0, 1, 2, 4, 8, 10, 11]), (2, [0, 1, 2, 4, 8, 10, 11, 19]), (3, [10]), (4, [0, 1, 2, 4, 8, 10]), (5, [0, 4, 8, 10, 12]), (6, [0, 4, 8, 10, 12, 13]), (7, [0, 4, 8, 10, 12, 13, 14]), (8, [0, 4, 8, 10, 12, 13, 14, 34]), (9, [0, 4, 8, 10, 12, 13, 14, 37]), (10, [10]), (11, [0, 4, 8, 10, 12, 13, 14]), (12, [0, 4, 8, 10, 12, 13, 14, 15]), (13, [0, 4, 8, 10, 12, 13, 14, 15]), (14, [0, 4, 8, 10, 12, 13, 14, 15, 50]), (15, [0, 4, 8, 10, 12, 13, 14]), (16, [0, 4, 8, 10, 12, 13, 14, 15, 50, 54]), (17, [0, 4, 8, 10, 12, 13, 14]), (18, [0, 4, 8, 10, 12, 13, 14, 15, 50, 58]), (19, [0, 4, 8, 10, 12, 13, 14]), (20, [0, 4, 8, 10, 12, 13, 14, 15, 62]), (21, [0, 4, 8, 10, 12, 13, 14, 15, 66]), (22, [0, 4, 8, 10, 12, 13, 14]), (23, [0, 4, 8, 10, 12, 13, 14, 72]), (24, [10]), (25, [10])]),
 (8, [(0, [0]), (1, [0, 4]), (2, [0, 4, 13]), (3, [2, 3]), (4, [0, 5]), (5, [0, 5, 16, 17, 18]), (6, [0, 5, 16, 17, 18, 19]), (7, [0, 5, 7, 16, 17, 18]), (8, [0, 5, 7, 16, 17, 18, 29]), (9, [0, 5, 16, 17, 18]), (10, [0, 5, 16, 17, 18]), (11, [0, 5, 8]), (12, [0, 5, 8, 36, 37]), (13, [0, 5, 8, 36, 37, 38]), (14, [0, 5, 8, 9, 36, 37]), (15, [0, 5, 8, 9, 36, 37, 42]), (16, [0, 5, 8, 9, 36, 37]), (17, [0, 5, 8, 9, 36, 37, 51]), (18, [0, 5, 8, 9, 36, 37]), (19, [0, 5, 8, 9, 36, 37, 65]), (20, [0, 5, 8, 9, 36, 37, 65, 66]), (21, [0, 5, 8, 36, 37]), (22, [0, 5, 8, 9, 36, 37, 65, 76]), (23, [0, 5, 8, 9, 36, 37, 76]), (24, [0, 5, 8, 36, 37]), (25, [0, 5, 8, 36, 37]), (26, [0, 5, 8, 36, 37]), (27, [2, 3])]),
 (9, [(0, [0]), (1, [0, 5]), (2, [5, 18, 19, 20]), (3, [5, 18, 19, 20, 21]), (4, [5, 6, 7, 18, 19, 20]), (5, [5, 6, 8, 18, 19, 20]), (6, [5, 6, 8, 18, 19, 20, 32]), (7, [2, 3, 4]), (8, [5, 18, 19, 20]), (9, [5, 41, 42]), (10, [5, 41, 42, 43]), (11, [5, 9, 41, 42]), (12, [5, 9, 10, 11, 41, 42]), (13, [5, 9, 10, 41, 42, 55]), (14, [5, 9, 11, 12, 41, 42]), (15, [5, 9, 12, 41, 42, 66]), (16, [2, 3, 4]), (17, [5, 9, 12, 41, 42, 76]), (18, [2, 3, 4]), (19, [5, 41, 42]), (20, [5, 41, 42]), (21, [2, 3, 4])]),
 (10, [(0, [0]), (1, [0, 4]), (2, [0, 4, 13]), (3, [2, 3]), (4, [0, 5]), (5, [5, 15, 16, 17]), (6, [5, 15, 16, 17, 18]), (7, [5, 6, 7, 15, 16, 17]), (8, [5, 6, 7, 15, 16, 17]), (9, [5, 7, 8, 15, 16, 17]), (10, [5, 8, 9, 15, 16, 17]), (11, [5, 8, 9, 15, 16, 17, 40]), (12, [5, 8, 9, 15, 16, 17]), (13, [5, 8, 9, 15, 16, 17]), (14, [5, 15, 16, 17]), (15, [2, 3])]),
 (11, [(0, [0]), (1, [0, 4]), (2, [0, 4, 11]), (3, [0, 4, 5]), (4, [0, 4, 5, 15]), (5, [2, 3]), (6, [0, 4, 5, 19]), (7, [2, 3]), (8, [0, 4, 5, 24]), (9, [2, 3]), (10, [0, 4, 5, 6]), (11, [0, 4, 5, 6, 35, 36, 37]), (12, [0, 4, 5, 6, 35, 36, 37, 38]), (13, [0, 4, 5, 6, 8, 35, 36, 37]), (14, [0, 4, 5, 6, 35, 36, 37]), (15, [0, 4, 5, 6, 35, 36, 37]), (16, [0, 4, 5]), (17, [0, 4]), (18, [4, 9]), (19, [4, 9, 66]), (20, [2, 3]), (21, [2, 3])]),
 (12, [(0, [0]), (1, [0, 6]), (2, [2]), (3, [0, 3]), (4, [0, 3, 10]), (5, [0, 3]), (6, [0, 3, 19]), (7, [2]), (8, [2])]),
 (13, [(0, [0]), (1, [4]), (2, [2])]),
 (14, [(0, [1, 2, 3]), (1, [1, 2, 3, 4]), (2, [1, 2, 3, 4, 14]), (3, [2, 3]), (4, [1, 2, 3, 5]), (5, [1, 2, 3, 5, 21, 22]), (6, [1, 2, 3, 5, 21, 22, 23]), (7, [1, 2, 3, 5, 6, 21, 22]), (8, [1, 2, 3, 5, 21, 22]), (9, [1, 2, 3, 5, 21, 22]), (10, [1, 2, 3, 5]), (11, [1, 2, 3, 5, 31, 32, 33]), (12, [1, 2, 3, 5, 31, 32, 33, 34]), (13, [1, 2, 3, 5, 7, 8, 31, 32, 33]), (14, [1, 2, 3, 5, 7, 8, 31, 32, 33, 42]), (15, [1, 2, 3, 5, 7, 8, 9, 31, 32, 33]), (16, [1, 2, 3, 5, 7, 8, 9, 31, 32, 33, 69]), (17, [2, 3]), (18, [1, 2, 3, 5, 9, 31, 32, 33, 72]), (19, [1, 2, 3, 5, 9, 10]), (20, [2, 3, 5, 9, 10, 92]), (21, []), (22, []), (23, [1, 2, 3, 5, 31, 32, 33]), (24, [2, 3])]),
 (15, [(0, [1, 2, 3, 6]), (1, [1, 2, 3, 6, 7]), (2, [1, 2, 3, 6, 7, 11]), (3, [1, 2, 3, 6]), (4, [1, 2, 3, 6, 7, 25]), (5, [1, 2, 3, 6]), (6, [1, 2, 3, 6, 7, 47]), (7, [1, 2, 3, 6]), (8, [1, 2, 3, 6, 7, 57]), (9, [1, 2, 3, 6]), (10, [1, 2, 3, 6, 7, 76]), (11, [1, 2, 3, 6]), (12, [1, 2, 3, 6, 88]), (13, [1, 2, 3, 6]), (14, [3, 6, 8]), (15, [3, 6, 8, 110]), (16, [3, 6, 8]), (17, [3, 6, 8]), (18, [6])]),
 (16, [(0, [2, 3]), (1, [4])]),
 (17, [(0, [0]), (1, [0, 9]), (2, [2]), (3, [0, 10, 11, 12]), (4, [0, 10, 11, 12, 13]), (5, [0, 3, 4, 10, 11, 12]), (6, [0, 3, 4, 10, 11, 12, 26]), (7, [2]), (8, [0, 4, 5, 6, 10, 11, 12]), (9, [0, 10, 11, 12, 45]), (10, [2]), (11, [0, 10, 11, 12]), (12, [2])]),
 (18, [(0, [0]), (1, [0, 7]), (2, []), (3, [2]), (4, [0]), (5, [2])]),
 (19, [(0, [0, 3]), (1, [0, 3, 14]), (2, [0, 3, 4, 5]), (3, [0, 3, 4, 22]), (4, [0, 4, 6]), (5, [0, 4, 6, 7]), (6, []), (7, [0, 3, 8]), (8, [0, 8, 36]), (9, [0, 8, 36, 37]), (10, []), (11, [0, 8, 36, 44]), (12, [0, 9]), (13, []), (14, [0, 8, 36, 56]), (15, []), (16, [0, 8, 36, 63]), (17, [0, 8]), (18, []), (19, [0, 8, 36, 71]), (20, [0, 8, 11]), (21, [0, 11]), (22, []), (23, [0, 8, 36, 81]), (24, [0, 8, 88]), (25, []), (26, [0, 8, 94]), (27, [0, 8, 101]), (28, [])]),
 (20, [(0, [0, 1]), (1, [0, 1]), (2, [1]), (3, [4, 5])]),
 (21, [(0, [0]), (1, [2])]),
 (22, [(0, []), (1, [0])]),
 (23, [(0, [0]), (1, [2])]),
 (24, [(0, [0, 1]), (1, [4])]),
 (25, [(0, [0, 1, 2]), (1, [0, 1, 2, 24]), (2, [6]), (3, [0, 1, 2, 7, 8]), (4, [0, 1, 2, 7, 37]), (5, [0, 7, 40]), (6, [6]), (7, [0, 7, 10]), (8, [0, 7, 50]), (9, [6]), (10, []), (11, [6]), (12, [0, 1, 2, 11]), (13, [0, 1, 2, 11, 12]), (14, [0, 1, 2, 11, 12, 68]), (15, [0, 1, 2, 11, 12, 68, 69]), (16, [6]), (17, [0, 1, 2, 11, 12, 68, 71]), (18, [0, 1, 2, 11, 12, 68, 71]), (19, [0, 1, 2, 11, 12, 71]), (20, [0, 1, 2, 11, 12]), (21, [0, 1, 2, 11, 78]), (22, [6]), (23, [0, 1, 2, 11, 80]), (24, [0, 1, 2, 11, 80, 81]), (25, [0, 1, 11, 13, 14]), (26, [0, 1, 11, 13, 91]), (27, [6]), (28, [0, 1, 11, 13, 97]), (29, [6]), (30, [0, 1, 11]), (31, [0, 1, 2, 11, 80, 100]), (32, [0, 1, 2, 11, 100]), (33, [0, 1, 2, 11, 107]), (34, [6]), (35, [0, 1, 11]), (36, [0, 1, 11, 125]), (37, [6]), (38, []), (39, [6])]),
 (26, [(0, [0]), (1, [2])]),
 (27, [(0, [0, 1]), (1, [5]), (2, [4])]),
 (28, [(0, [0]), (1, [3]), (2, [3, 4]), (3, [3, 6]), (4, [8]), (5, [2]), (6, [2]), (7, [2])]),
 (29, [(0, [0, 1, 18]), (1, [0, 1, 26]), (2, [])]),
 (30, [(0, [0, 1, 2]), (1, [1, 2, 8]), (2, [1, 2, 8, 9]), (3, [1, 2, 8, 11]), (4, [1, 2, 13]), (5, [6, 7]), (6, [6, 7]), (7, [6, 7])]),
 (31, [(0, [0, 3]), (1, [0, 3, 6]), (2, [4]), (3, [0, 3, 6, 7]), (4, []), (5, [0, 6, 13]), (6, []), (7, [0, 6, 21]), (8, []), (9, [0, 6, 30]), (10, []), (11, [0, 39]), (12, []), (13, [4])]),
 (32, [(0, []), (1, [0])]),
 (33, [(0, [0, 1, 8]), (1, []), (2, [0]), (3, [])]),
 (34, [(0, [0, 1]), (1, [5, 6]), (2, [5, 15]), (3, [4]), (4, [5, 18]), (5, [4]), (6, [7, 8]), (7, [7]), (8, [7, 34]), (9, [4]), (10, [4])]),
 (35, [(0, [0, 1, 4]), (1, [0, 1, 4, 16]), (2, [4, 5]), (3, [4, 5])]),
 (36, [(0, [0]), (1, [3]), (2, [2]), (3, [2])]),
 (37, [(0, [0, 6]), (1, []), (2, [19])]),
 (38, [(0, [0]), (1, [2])]),
 (39, [(0, [0, 1, 2, 3]), (1, [0, 1, 2, 3, 13]), (2, [8]), (3, [0, 1, 2, 3, 15]), (4, [8]), (5, [0, 1, 2, 3, 20]), (6, [0, 1, 2, 3]), (7, [0, 1, 2, 3]), (8, [0, 1, 2, 3, 9]), (9, [0, 1, 2, 3, 9]), (10, [0, 1, 2, 3, 9, 10]), (11, [0, 1, 2, 3, 9, 10, 36]), (12, [0, 1, 2, 3, 9, 10, 11]), (13, [0, 1, 2, 3, 9, 10, 11, 41]), (14, [0, 1, 2, 3, 9, 10, 11]), (15, [0, 1, 2, 3, 9, 10]), (16, [0, 1, 2, 3, 9, 10]), (17, [9, 10]), (18, [8])]),
 (40, [(0, [0, 1]), (1, [4, 5])]),
 (41, [(0, [0]), (1, [0, 20]), (2, [2]), (3, [2])]),
 (42, [(0, [0, 1]), (1, [0, 1, 7, 8]), (2, [0, 1, 7, 8, 9]), (3, [0, 1, 5, 7, 8]), (4, [0, 1, 5, 7, 8, 16]), (5, [4]), (6, [0, 1, 7, 8]), (7, [4])]),
 (43, [(0, [0]), (1, [4, 5]), (2, [4, 5, 32]), (3, [2, 3]), (4, [4, 5, 6]), (5, [5, 6, 34, 35, 36]), (6, [5, 6, 34, 35, 36, 37]), (7, [5, 6, 8, 34, 35, 36]), (8, [5, 6, 8, 34, 35, 36, 45]), (9, [2, 3]), (10, [5, 6, 34, 35, 36]), (11, [5, 6, 34, 35, 36]), (12, [6, 54]), (13, [6]), (14, [2, 3])]),
 (44, [(0, [0, 1]), (1, [0, 1, 5]), (2, [0, 1, 5, 6]), (3, [0, 1, 5, 6, 14]), (4, [0, 1, 5, 6, 14, 15, 16]), (5, [0, 1, 5, 6, 7, 8, 14]), (6, [0, 1, 5, 6, 7, 14, 21]), (7, [0, 1, 5, 6, 7, 14, 23]), (8, [0, 1, 5, 6, 14]), (9, [0, 1, 5, 6, 14]), (10, [0, 1, 5, 6, 7, 14, 33]), (11, [0, 1, 5, 6, 14]), (12, [0, 5, 6, 36]), (13, [0, 5]), (14, [0, 5, 9]), (15, [0, 9, 47, 48, 49]), (16, [0, 9, 47, 48, 49, 50]), (17, [0, 9, 10, 11, 47, 48, 49]), (18, [0, 9, 47, 48, 49]), (19, [0, 9, 47, 48, 49]), (20, [4])]),
 (45, [(0, [0]), (1, [2])]),
 (46, [(0, [0, 1]), (1, [4])]),
 (47, [(0, [0, 1]), (1, [4])]),
 (48, [(0, [0, 1]), (1, [4])]),
 (49, [(0, [0, 1]), (1, [4])]),
 (50, [(0, [0, 1]), (1, [4])]),
 (51, [(0, [0]), (1, [2])]),
 (52, [(0, [0, 1]), (1, [6]), (2, [6, 7]), (3, [6, 7, 8]), (4, [6, 7, 8, 9]), (5, [6, 7, 8, 9, 16, 17]), (6, [6, 7, 8, 9, 16, 17, 18]), (7, [6, 7, 8, 9, 10, 16, 17]), (8, [6, 7, 8, 9, 10, 11, 16, 17]), (9, [6, 7, 8, 9, 10, 11, 16, 17, 37]), (10, [6, 7, 8, 9, 16, 17]), (11, [6, 7, 8, 9, 16, 17, 51]), (12, [6, 7, 8, 9, 16, 17]), (13, [6, 7, 8, 10, 11, 16, 17, 59]), (14, [6, 7, 8, 10, 11, 16, 17]), (15, [6, 7, 8, 9, 11, 16, 17]), (16, [6, 7, 8, 9, 11, 16, 17, 66]), (17, [6, 7, 8, 9, 16, 17]), (18, [6, 7, 8, 9, 16, 17, 74]), (19, [6, 7, 8, 9, 16, 17]), (20, [6, 7, 8, 9, 16, 17]), (21, [6, 7, 9, 84]), (22, [4, 5]), (23, [4, 5])]),
 (53, [(0, [0]), (1, [3, 4]), (2, [3, 11]), (3, [3]), (4, [2])]),
 (55, [(0, [0, 1]), (1, [0, 1, 11]), (2, [0, 17]), (3, [4]), (4, [0, 5]), (5, [0, 5, 6]), (6, [0, 5, 6, 23]), (7, [0, 5, 6]), (8, [0, 5, 6, 7]), (9, [0, 5, 7]), (10, [5, 7, 34]), (11, [5, 7]), (12, [4]), (13, [4]), (14, [9]), (15, [4])]),
 (56, [(0, [0, 1]), (1, [0, 1, 5]), (2, [0, 1, 5, 18]), (3, [0, 1]), (4, [0, 1, 6]), (5, [0, 1, 6, 7]), (6, [0, 1, 6, 7, 25]), (7, [0, 1, 6, 7]), (8, [0, 1, 6, 7, 9]), (9, [0, 1, 6, 7, 9]), (10, [0, 1, 6, 7]), (11, [0, 1, 6, 43]), (12, [6]), (13, [4])]),
 (57, [(0, [0, 1]), (1, [0, 1, 9]), (2, [4]), (3, [0, 1, 15]), (4, [4]), (5, [0, 1, 5]), (6, [0, 1, 5, 6]), (7, [0, 1, 5, 6, 24]), (8, [4]), (9, [0, 1, 5, 6]), (10, [0, 1, 5])]),
 (58, [(0, [0, 1]), (1, [4])]),
 (59, [(0, [0, 1]), (1, [0, 1, 9]), (2, [4, 5]), (3, [4, 5])]),
 (60, [(0, [0, 1]), (1, [4])]),
 (61, [(0, [0]), (1, [2])]),
 (62, [(0, [0, 1]), (1, [4, 5])]),
 (63, [(0, [0, 2]), (1, [0, 2, 3]), (2, [0, 2, 3, 5]), (3, [0, 2, 3]), (4, [0, 2, 3, 17]), (5, [0, 2, 3]), (6, [0, 2, 3, 29]), (7, [0, 2, 3]), (8, [2, 3, 41]), (9, [2, 3, 41, 42]), (10, [2, 3]), (11, [2, 3, 41, 45]), (12, [2, 3]), (13, [2, 3, 41, 48]), (14, [2, 3]), (15, [2, 3, 51]), (16, [2, 3]), (17, [2])]),
 (64, [(0, [0]), (1, [0, 4]), (2, [2]), (3, [2])]),
 (65, [(0, [0]), (1, [0, 3]), (2, [2])]),
 (66, [(0, [0, 1, 4]), (1, [0, 1, 4, 20]), (2, [0, 1, 4, 5]), (3, [0, 1, 4, 5]), (4, [0, 1, 4, 6, 7]), (5, [0, 1, 4, 6, 8, 9]), (6, [0, 1, 4, 8, 9, 10, 11]), (7, [0, 1, 4, 8, 10, 11]), (8, [0, 1, 4, 10, 11]), (9, [0, 1, 4, 10]), (10, [0, 1, 4]), (11, [0, 1, 4]), (12, [0, 4, 12]), (13, [0, 4, 12, 99]), (14, [0, 4, 12, 13]), (15, [0, 4, 12, 13]), (16, [0, 4, 12, 14, 15]), (17, [0, 4, 12, 14]), (18, [0, 4, 12]), (19, [0, 4, 12]), (20, [0, 4, 12, 139]), (21, [0, 4, 12, 16]), (22, [0, 4, 12, 16]), (23, [0, 4, 12]), (24, [0, 4, 12]), (25, [0, 12, 161]), (26, [])]),
 (67, [(0, [0, 1, 2, 3, 4, 10, 11]), (1, [0, 1, 2, 3, 4, 10, 11, 28]), (2, [0, 1, 2, 3, 4, 10, 11]), (3, [0, 1, 2, 3, 4, 10, 11, 12]), (4, [0, 1, 2, 3, 4, 10, 11, 12, 13]), (5, [0, 1, 2, 3, 4, 10, 11, 12, 13, 30]), (6, [0, 1, 2, 3, 4, 10, 11, 12, 13]), (7, [0, 1, 2, 3, 4, 10, 11, 12, 13, 34]), (8, [0, 1, 2, 3, 4, 10, 11, 12, 13, 14]), (9, [0, 1, 2, 3, 4, 10, 11, 12, 13, 14, 15]), (10, [0, 1, 3, 4, 10, 11, 12, 13, 14, 15, 16]), (11, [0, 1, 3, 4, 10, 11, 12, 13, 14, 15, 16, 46]), (12, [0, 1, 3, 4, 10, 11, 12, 13, 14, 15, 16]), (13, [0, 1, 3, 4, 10, 11, 12, 13, 14, 15, 16]), (14, [0, 1, 3, 4, 10, 11, 12, 13, 14, 15, 16]), (15, [0, 1, 3, 4, 10, 11, 12, 13]), (16, [0, 3, 4, 10, 11, 12, 13]), (17, [0, 1, 3, 4, 10, 11, 12, 13, 17]), (18, [0, 1, 3, 4, 10, 11, 12, 13, 17, 68]), (19, [0, 1, 3, 4, 10, 11, 12, 13, 17]), (20, [0, 1, 3, 4, 10, 11, 12, 13, 17, 18]), (21, [0, 3, 4, 10, 11, 12, 13, 17, 18]), (22, [0, 1, 3, 4, 10, 11, 12, 13, 17]), (23, [0, 1, 3, 4, 10, 11, 12, 13]), (24, [0, 3, 4, 10, 11, 12, 13]), (25, [0, 4, 10, 11, 12, 13, 89]), (26, [0, 4, 10, 11, 12, 13]), (27, [0, 4, 10, 11, 12, 13]), (28, [0, 10, 11, 12, 13, 94]), (29, [10, 11]), (30, [10, 11])]),
 (68, [(0, [0, 2]), (1, [2, 4]), (2, [2, 4, 6]), (3, [2, 4]), (4, [2])]),
 (69, [(0, [0]), (1, [0, 10]), (2, [2, 3]), (3, [2, 3])]),
 (71, [(0, [0, 1]), (1, [0, 1, 5]), (2, [0, 1, 5, 16]), (3, [4]), (4, [0, 1, 5, 24]), (5, [4]), (6, [0, 1, 5, 31]), (7, [4]), (8, [0, 1, 5, 36]), (9, [4]), (10, [0, 1, 5, 6]), (11, [0, 1, 5, 6, 7]), (12, [0, 1, 5, 6, 7, 8]), (13, [0, 1, 5, 6, 7, 8, 9]), (14, [0, 1, 5, 6, 7, 8, 9, 10]), (15, [0, 1, 5, 6, 7, 8, 9, 10, 59]), (16, [0, 1, 5, 6, 7, 8, 9, 10, 64]), (17, [0, 1, 5, 6, 7, 8, 9, 10, 11]), (18, [0, 1, 5, 6, 7, 8, 9, 10, 11, 73]), (19, [4]), (20, [0, 1, 5, 6, 7, 8, 9, 10]), (21, [0, 1, 5, 6, 7, 8, 9, 10, 93]), (22, [4]), (23, [0, 1, 5, 6, 7, 8, 9, 10]), (24, [0, 1, 5, 6, 7, 8, 9, 10]), (25, [0, 1, 5, 6, 7, 8, 9, 10, 107]), (26, [8, 12]), (27, [8, 12, 114]), (28, [4]), (29, [4]), (30, [0, 1, 5, 6, 7, 8, 9, 10, 132]), (31, [8, 13]), (32, [8, 13, 139]), (33, [4]), (34, [4]), (35, [4])]),
 (72, [(0, [0, 1]), (1, [4])]),
 (73, [(0, [0, 1]), (1, [4])]),
 (74, [(0, [0, 1]), (1, [0, 1, 9]), (2, [4, 5]), (3, [4, 5])]),
 (75, [(0, [0]), (1, [2])]),
 (76, [(0, [0, 2]), (1, [0, 2, 4]), (2, [0]), (3, [0, 2]), (4, [0, 2, 8]), (5, [0, 2]), (6, [0, 2]), (7, [0, 2, 14]), (8, [0, 2]), (9, [0, 2]), (10, [2])]),
 (77, [(0, [0]), (1, [3]), (2, [2]), (3, [2])]),
 (78, [(0, [0]), (1, [2])]),
 (79, [(0, [0]), (1, [2]), (2, [2])]),
 (80, [(0, [0]), (1, [0, 4]), (2, [0, 4, 16]), (3, [2, 3]), (4, [0, 4, 5]), (5, [0, 4, 5, 6]), (6, [0, 4, 5, 6, 23]), (7, [0, 7]), (8, [2, 3]), (9, [0, 4, 5, 6, 8]), (10, [0, 4, 5, 8, 9]), (11, [0, 5, 8, 9, 45]), (12, [2, 3]), (13, [0, 5, 8, 9, 10]), (14, [0, 5, 8, 10, 57]), (15, [2, 3]), (16, [0, 5, 8, 10, 59]), (17, [2, 3]), (18, [0, 5, 8, 10, 11]), (19, [0, 5, 8, 10, 11, 75]), (20, [2, 3]), (21, [0, 5, 10, 11, 77]), (22, [2, 3]), (23, [5, 10, 11, 12]), (24, [5, 10, 11, 12, 98]), (25, [2, 3]), (26, [2, 3])]),
 (81, [(0, [0, 1]), (1, [4])]),
 (83, [(0, [0]), (1, [2])]),
 (84, [(0, [0, 1]), (1, [0, 1, 5, 6]), (2, [0, 1, 5, 6, 7]), (3, [0, 1, 5, 6, 7, 8]), (4, [0, 1, 5, 6, 7, 8, 9]), (5, [0, 1, 5, 6, 7, 8, 9, 20]), (6, [0, 1, 5, 6, 7, 8, 9]), (7, [0, 1, 5, 6, 7, 8, 9]), (8, [0, 1, 5, 6, 7, 8, 39]), (9, [4]), (10, [0, 1, 5, 6, 7, 8, 10]), (11, [0, 1, 5, 6, 7, 8, 10, 44]), (12, [0, 1, 5, 6, 7, 8, 10]), (13, [0, 1, 5, 6, 7, 8, 10]), (14, [0, 1, 5, 6, 7, 8, 10]), (15, [0, 1, 5, 6, 7, 8, 10]), (16, [0, 1, 5, 6, 7, 8, 10, 77]), (17, [4]), (18, [4])]),
 (85, [(0, [0, 1, 2]), (1, [1, 2, 10]), (2, [1, 2, 10, 11, 12]), (3, [1, 2, 7, 8, 10]), (4, [1, 2, 7, 10, 19]), (5, [6]), (6, [6])]),
 (86, [(0, [0, 1]), (1, [4])]),
 (87, [(0, [0]), (1, [0, 4]), (2, [2]), (3, [2])]),
 (88, [(0, [0]), (1, [0, 4]), (2, [2]), (3, [2])]),
 (90, [(0, [0]), (1, [0, 4]), (2, [0, 4, 5]), (3, [0, 4, 5, 12]), (4, [0, 4, 5]), (5, [0, 4, 5]), (6, [0, 4, 6, 7]), (7, [4, 6, 7, 8]), (8, [4, 6, 7, 8, 25]), (9, [4, 6, 7, 8]), (10, [4, 6, 7, 8, 30]), (11, [4, 6, 7, 8]), (12, [4, 6, 7, 8]), (13, [2, 3])]),
 (117, [(0, []), (1, []), (2, []), (3, []), (4, []), (5, [])])]
def headT : List (Nat × List (Nat × List Nat)) := [
 (6, [(6, [2, 3, 4, 6, 25, 26, 27]), (17, [6, 10, 89, 90])]),
 (7, [(8, [0, 4, 8, 10, 12, 13, 14])]),
 (8, [(6, [0, 5, 16, 17, 18]), (13, [0, 5, 8, 36, 37])]),
 (9, [(3, [5, 18, 19, 20]), (10, [5, 41, 42])]),
 (10, [(6, [5, 15, 16, 17]), (11, [5, 8, 9, 15, 16, 17])]),
 (11, [(2, [0, 4]), (12, [0, 4, 5, 6, 35, 36, 37])]),
 (12, [(4, [0, 3])]),
 (14, [(6, [1, 2, 3, 5, 21, 22]), (12, [1, 2, 3, 5, 31, 32, 33])]),
 (15, [(15, [3, 6, 8])]),
 (17, [(4, [0, 10, 11, 12])]),
 (39, [(11, [0, 1, 2, 3, 9, 10])]),
 (42, [(2, [0, 1, 7, 8])]),
 (43, [(6, [5, 6, 34, 35, 36])]),
 (44, [(4, [0, 1, 5, 6, 14]), (16, [0, 9, 47, 48, 49])]),
 (52, [(6, [6, 7, 8, 9, 16, 17])]),
 (56, [(6, [0, 1, 6, 7])]),
 (57, [(6, [0, 1, 5])]),
 (66, [(1, [0, 1, 4])]),
 (67, [(11, [0, 1, 3, 4, 10, 11, 12, 13, 14, 15, 16]), (18, [0, 1, 3, 4, 10, 11, 12, 13, 17])]),
 (68, [(2, [2, 4])]),
 (71, [(15, [0, 1, 5, 6, 7, 8, 9, 10])]),
 (84, [(5, [0, 1, 5, 6, 7, 8, 9]), (11, [0, 1, 5, 6, 7, 8, 10])]),
 (85, [(2, [1, 2, 10])]),
 (90, [(3, [0, 4, 5]), (8, [4, 6, 7, 8])])]
def lk2 (t : List (Nat × List (Nat × List Nat))) (f i : Nat) : List Nat := match t.lookup f with | some l => (l.lookup i).getD [] | none => []
def floT : List (Nat × List (Nat × List (Nat × Nat))) := [
 (3, [(6, [(4, 8), (3, 10), (4, 10), (8, 10), (9, 10), (3, 11), (4, 11), (8, 11), (9, 11), (10, 11)]), (15, [(4, 5), (12, 13)])]),
 (6, [(12, []), (15, []), (19, [])]),
 (8, [(18, [(0, 3), (0, 5)])]),
 (9, [(16, []), (18, [])]),
 (10, [(9, [(1, 5)])]),
 (14, [(15, [(0, 14), (2, 14), (3, 14), (5, 14), (6, 14), (7, 14), (10, 14), (11, 14), (12, 14)]), (16, []), (20, [])]),
 (15, [(9, []), (14, [])]),
 (17, [(6, [(5, 6)])]),
 (18, [(5, [])]),
 (19, [(2, [(0, 2)])]),
 (23, [(1, [])]),
 (25, [(10, []), (12, [(0, 2), (0, 3), (0, 6), (2, 6), (3, 6), (4, 6)]), (35, []), (38, [(5, 7), (7, 12), (8, 12), (5, 14), (6, 14), (7, 14), (8, 14), (12, 14)])]),
 (33, [(2, [(4, 6)])]),
 (52, [(23, [])]),
 (66, [(7, []), (8, []), (9, []), (10, []), (17, []), (18, []), (23, [])])]
def lkF (t : List (Nat × List (Nat × List (Nat × Nat)))) (f i : Nat) : List (Nat × Nat) := match t.lookup f with | some l => (l.lookup i).getD [] | none => []
def matT : List (Nat × List (Nat × List (Nat × Nat))) := [(10, [(6, [(5, 1)]), (11, [(5, 1)])]), (11, [(2, [(4, 2)]), (12, [(4, 2)])]), (44, [(4, [(5, 2)])]), (52, [(6, [(7, 1)])]), (67, [(11, [(0, 1)]), (18, [(0, 1)])])]
def matbT : List (Nat × List (Nat × List (Nat × Nat × Nat))) := [(9, [(3, [(5, 0, 2), (5, 1, 1)])])]
def frzT : List (Nat × List (Nat × List (Nat × Nat))) := []
def lkG {α : Type} (t : List (Nat × List (Nat × List α))) (f i : Nat) : List α := match t.lookup f with | some l => (l.lookup i).getD [] | none => []
def kindT : List (Nat × List (Option Nat)) := [(22, [some 2]), (23, [some 3]), (45, [some 1]), (48, [some 17]), (58, [none, some 3, none, none, none, none, none, none, none, none, none, none, none, none, none, none, none, none, none, none, none, none, none]), (59, [none, some 3, none, none, none, none, none, none, none, none, none, none, none, none, none, none, none, none, none, none, none, none, none]), (64, [some 1]), (65, [none, some 1]), (66, [none, some 1]), (72, [some 1]), (78, [some 2, some 1, none, none]), (79, [some 2, some 1, none, none]), (110, [some 1]), (120, [some 2])]
def argkT : List (Nat × List (List (Option Nat))) := [(3, [[some 2], [], [some 3], [some 3]]), (4, [[some 2], [some 3]]), (6, [[some 2]]), (7, [[some 2], [], [some 3]]), (8, [[some 2]]), (10, [[some 2]]), (12, [[some 3]]), (13, [[some 2]]), (14, [[some 2]]), (17, [[some 2]]), (25, [[], [], [some 1]]), (42, [[some 1]]), (66, [[some 1]]), (67, [[some 1]])]
def reskT : List (Nat × List (List (Option Nat))) := [(9, [[some 2]]), (11, [[some 2]]), (14, [[some 1]]), (22, [[some 1]]), (24, [[some 1]]), (26, [[some 1]]), (39, [[some 1]]), (44, [[some 1]]), (52, [[some 1]]), (53, [[some 1]]), (56, [[some 1]]), (67, [[some 1]])]
noncomputable def E : Env := { P := Tryd.prog, keep := lk2 keepT, head := lk2 headT, flo := lkF floT, hol := fun f i => [(3, 6), (25, 12), (25, 38)].contains (f, i), glob := fun g => if g = 0 then some popsT else if g = 1 then some pushesT else if g = 2 then some powT else none, byref := fun f => false, seq := fun f => if f = 29 then some seqSucc else none, ext := fun f => if f = 20 then some (extWS 66 5) else if f = 21 then some extItoa else if f = 23 then some (extBS 66 5) else if f = 32 then some (extMap [(8, 46), (9, 47), (10, 48), (11, 49), (12, 50)]) else if f = 57 then some extCount else if f = 81 then some extIndexByte else none, tyb := fun t => [66].contains t, kinds := fun t => (kindT.lookup t).getD [], argk := fun f => (argkT.lookup f).getD [], resk := fun f => (reskT.lookup f).getD [], own := fun f => [52].contains f, mat := lkG matT, matb := lkG matbT, frz := lkG frzT }
theorem E_P : E.P = Tryd.prog := rfl
theorem sq29 : E.seq 29 = some seqSucc := rfl
theorem E_seqI (f : Nat) (h : List (List Int) → Option (List Int)) (hf : E.seq f = some h) : (f = 29 ∧ h = seqSucc) ∨ False := by
 have h2 : (if f = 29 then some seqSucc else none) = some h := hf
 repeat' (split at h2)
 all_goals simp_all
theorem E_globI (g : Nat) (cells : List IV) (h : E.glob g = some cells) : (g = 0 ∧ cells = popsT) ∨ (g = 1 ∧ cells = pushesT) ∨ (g = 2 ∧ cells = powT) ∨ False := by
 have h2 : (if g = 0 then some popsT else if g = 1 then some pushesT else if g = 2 then some powT else none) = some cells := h
 repeat' (split at h2)
 all_goals simp_all
theorem E_glob0 : E.glob 0 = some popsT := rfl
theorem E_glob1 : E.glob 1 = some pushesT := rfl
theorem E_glob2 : E.glob 2 = some powT := rfl
theorem E_extI (f : Nat) (h : List AV → Hp → Option (AV × Hp)) (hf : E.ext f = some h) : (f = 20 ∧ h = (extWS 66 5)) ∨ (f = 21 ∧ h = extItoa) ∨ (f = 23 ∧ h = (extBS 66 5)) ∨ (f = 32 ∧ h = (extMap [(8, 46), (9, 47), (10, 48), (11, 49), (12, 50)])) ∨ (f = 57 ∧ h = extCount) ∨ (f = 81 ∧ h = extIndexByte) ∨ False := by
 have h2 : (if f = 20 then some (extWS 66 5) else if f = 21 then some extItoa else if f = 23 then some (extBS 66 5) else if f = 32 then some (extMap [(8, 46), (9, 47), (10, 48), (11, 49), (12, 50)]) else if f = 57 then some extCount else if f = 81 then some extIndexByte else none) = some h := hf
 repeat' (split at h2)
 all_goals simp_all
theorem xk20 : E.ext 20 = some (extWS 66 5) := rfl
theorem xk21 : E.ext 21 = some extItoa := rfl
theorem xk23 : E.ext 23 = some (extBS 66 5) := rfl
theorem xk32 : E.ext 32 = some (extMap [(8, 46), (9, 47), (10, 48), (11, 49), (12, 50)]) := rfl
theorem xk57 : E.ext 57 = some extCount := rfl
theorem xk81 : E.ext 81 = some extIndexByte := rfl
theorem E_tyb (t : Nat) : E.tyb t = [66].contains t := rfl
theorem E_byref (f : Nat) : E.byref f = false := rfl
def vall := And.intro va0  (And.intro va1  (And.intro va2  (And.intro va3  (And.intro va4  (And.intro va5  (And.intro va6  (And.intro va7  (And.intro va8  (And.intro va9  (And.intro va10  (And.intro va11  (And.intro va12  (And.intro va13  (And.intro va14  (And.intro va15  (And.intro va16  (And.intro vb0  (And.intro vb1  (And.intro vb2  (And.intro vb3  (And.intro @w_i8  (And.intro @w_u8  (And.intro @w_i16  (And.intro @w_u16  (And.intro @w_i32  (And.intro @w_u32  (And.intro @w_i64  (And.intro @w_u64  (And.intro @lt_T  (And.intro @lt_F  (And.intro @le_T  (And.intro @le_F  (And.intro @nlt_T  (And.intro @nlt_F  (And.intro @nle_T  (And.intro @nle_F  (And.intro @List.take_of_length_le.{0}  (And.intro @gB.eq_1  (And.intro @gcW.eq_1  (And.intro @gcR.eq_1  (And.intro @posIn.eq_1 (And.intro @posIn.eq_2  (And.intro @renA.eq_1 (And.intro @renA.eq_2 (And.intro @renA.eq_3 (And.intro @renA.eq_4 (And.intro @renA.eq_5 (And.intro @renA.eq_6 (And.intro @renA.eq_7 (And.intro @renA.eq_8  (And.intro @renL.eq_1 (And.intro @renL.eq_2  (And.intro @Chunk.ren.eq_1 (And.intro @Chunk.ren.eq_2  (And.intro @Chunk.refs.eq_1 (And.intro @Chunk.refs.eq_2  (And.intro @evOpD.eq_1  (And.intro @touchD.eq_1  (And.intro @stepC.eq_1  (And.intro @isFresh.eq_1 (And.intro @isFresh.eq_2 (And.intro @isFresh.eq_3 (And.intro @isFresh.eq_4  (And.intro @nFresh.eq_1  (And.intro @freshOf.eq_1 (And.intro @freshOf.eq_2  (And.intro @mkR.eq_1 (And.intro @mkR.eq_2  (And.intro @hole.eq_1  (And.intro @evL.eq_1 (And.intro @evL.eq_2 (And.intro @evL.eq_3 (And.intro @evL.eq_4 (And.intro @evL.eq_5 (And.intro @evL.eq_6 (And.intro @evL.eq_7 (And.intro @evL.eq_8 (And.intro @evL.eq_9 (And.intro @evL.eq_10 (And.intro @evL.eq_11 (And.intro @evL.eq_12 (And.intro @evL.eq_13 (And.intro @evL.eq_14 (And.intro @evL.eq_15 (And.intro @evL.eq_16 (And.intro @evL.eq_17 (And.intro @evL.eq_19 (And.intro @evL.eq_20  (And.intro @evH.eq_1 (And.intro @evH.eq_2 (And.intro @evH.eq_3 (And.intro @evH.eq_4 (And.intro @evH.eq_5 (And.intro @evH.eq_6 (And.intro @evH.eq_7 (And.intro @evH.eq_8 (And.intro @evH.eq_9 (And.intro @evH.eq_10  (And.intro @opd.eq_1 (And.intro @opd.eq_2 (And.intro @opd.eq_3 (And.intro @opd.eq_4  (And.intro @get.eq_1 (And.intro @get.eq_2  (And.intro @putD.eq_1 (And.intro @putD.eq_2  (And.intro @ofVal.eq_1  (And.intro @cellOf.eq_1 (And.intro @cellOf.eq_2 (And.intro @cellOf.eq_3 (And.intro @cellOf.eq_4  (And.intro @loadE.eq_1  (And.intro @behind.eq_1 (And.intro @behind.eq_2  (And.intro @lenE.eq_1 (And.intro @lenE.eq_2 (And.intro @lenE.eq_3  (And.intro @idxAddrE.eq_1  (And.intro @idxE.eq_1 (And.intro @idxE.eq_2  (And.intro @lookE.eq_1  (And.intro @lookM.eq_1 (And.intro @lookM.eq_2 (And.intro @lookM.eq_3  (And.intro @addPtr.eq_1 (And.intro @addPtr.eq_2  (And.intro @intE.eq_1 (And.intro @intE.eq_2 (And.intro @intE.eq_3 (And.intro @intE.eq_4 (And.intro @intE.eq_5 (And.intro @intE.eq_6 (And.intro @intE.eq_7 (And.intro @intE.eq_8 (And.intro @intE.eq_9 (And.intro @intE.eq_10 (And.intro @intE.eq_11 (And.intro @intE.eq_12 (And.intro @intE.eq_13 (And.intro @intE.eq_14 (And.intro @intE.eq_15 (And.intro @intE.eq_16 (And.intro @intE.eq_17  (And.intro @strE.eq_1 (And.intro @strE.eq_2 (And.intro @strE.eq_3 (And.intro @strE.eq_4 (And.intro @strE.eq_5 (And.intro @strE.eq_6 (And.intro @strE.eq_7  (And.intro @unE.eq_1 (And.intro @unE.eq_2 (And.intro @unE.eq_3  (And.intro @convE.eq_1 (And.intro @convE.eq_2  (And.intro @AV.int.eq_1  (And.intro @AV.bool.eq_1  (And.intro @AV.str.eq_1  (And.intro @ivs.eq_1  (And.intro @take.eq_1  (And.intro @frameOf.eq_1 (And.intro @frameOf.eq_2  (And.intro @firstRegion.eq_1 (And.intro @firstRegion.eq_2 (And.intro @firstRegion.eq_3 (And.intro @firstRegion.eq_4 (And.intro @firstRegion.eq_5 (And.intro @firstRegion.eq_6 (And.intro @firstRegion.eq_7  (And.intro @refsA.eq_1 (And.intro @refsA.eq_2 (And.intro @refsA.eq_3 (And.intro @refsA.eq_4 (And.intro @refsA.eq_5 (And.intro @refsA.eq_6 (And.intro @refsA.eq_7 (And.intro @refsA.eq_8  (And.intro @refsL.eq_1 (And.intro @refsL.eq_2  (And.intro @one.eq_1 (And.intro @one.eq_2 (And.intro @one.eq_3 (And.intro @one.eq_4 (And.intro @one.eq_5  (And.intro @cellsA.eq_1  (And.intro @floatOk.eq_1  (And.intro @apartT.eq_1  (And.intro @List.map.eq_1.{0, 0} (And.intro @List.map.eq_2.{0, 0}  (And.intro @if_true.{1}  (And.intro @if_false.{1}  (And.intro @beq_self_eq_true.{0}  (And.intro @decide_true  (And.intro @decide_false  (And.intro @cond_true.{1}  (And.intro @cond_false.{1}  (And.intro @or_true  (And.intro @true_or  (And.intro @or_false  (And.intro @false_or  (And.intro @and_true  (And.intro @true_and  (And.intro @and_self  (And.intro @false_and  (And.intro @and_false  (And.intro @not_true  (And.intro @not_false_iff  (And.intro @Option.getD.eq_1.{0} (And.intro @Option.getD.eq_2.{0}  (And.intro @List.drop.eq_1.{0} (And.intro @List.drop.eq_2.{0} (And.intro @List.drop.eq_3.{0}  (And.intro @List.take.eq_1.{0} (And.intro @List.take.eq_2.{0} (And.intro @List.take.eq_3.{0}  (And.intro @List.isEmpty.eq_1.{0} (And.intro @List.isEmpty.eq_2.{0}  (And.intro @beq_true  (And.intro @beq_false  (And.intro @eqE.eq_1 (And.intro @eqE.eq_2 (And.intro @eqE.eq_3 (And.intro @eqE.eq_4 (And.intro @eqE.eq_5  (And.intro @eq_self.{1}  (And.intro @foldE.eq_1 (And.intro @foldE.eq_2  (And.intro @maxE.eq_1  (And.intro @minE.eq_1  (And.intro @eq_T  (And.intro @eq_F  (And.intro @ndec  (And.intro @odec  (And.intro @adec  (And.intro @sdec  (And.intro @fillA.eq_1 (And.intro @fillA.eq_2  (And.intro @over.eq_1  (And.intro @chop.eq_1 (And.intro @chop.eq_2  (And.intro @List.replicate.eq_1.{0} (And.intro @List.replicate.eq_2.{0}  (And.intro @leavesOk.eq_1 (And.intro @leavesOk.eq_2  (And.intro @leafOk.eq_1 (And.intro @leafOk.eq_2 (And.intro @leafOk.eq_3  (And.intro @cellsEq.eq_1 (And.intro @cellsEq.eq_2  (And.intro @cellEq.eq_1 (And.intro @cellEq.eq_2 (And.intro @cellEq.eq_3  (And.intro @ov_bool (And.intro @co_bool (And.intro @ov_int (And.intro @co_int (And.intro @ov_float (And.intro @co_float (And.intro @ov_complex (And.intro @co_complex (And.intro @ov_pointer (And.intro @co_pointer (And.intro @ov_map (And.intro @co_map (And.intro @ov_chan (And.intro @co_chan (And.intro @ov_func (And.intro @co_func (And.intro @ov_nilFunc (And.intro @co_nilFunc (And.intro @ov_iface (And.intro @co_iface (And.intro @ov_nilIface (And.intro @co_nilIface (And.intro @ov_string (And.intro @ov_slice (And.intro @ov_tuple (And.intro @co_slice (And.intro @cr_sl (And.intro @cf_sl (And.intro @cr_fz (And.intro @cf_fz (And.intro @cr_iter (And.intro @cf_iter (And.intro @cr_map (And.intro @cf_map (And.intro @cr_buf (And.intro @cf_buf (And.intro @cr_gone (And.intro @cf_gone (And.intro @if_move (And.intro @if_assign (And.intro @if_pick (And.intro @if_build (And.intro @if_insert (And.intro @if_load (And.intro @if_store (And.intro @if_ready (And.intro @if_waits (And.intro @if_nilCheck (And.intro @if_binOp (And.intro @if_unOp (And.intro @if_convert (And.intro @if_sliceToArrayPointer (And.intro @if_makeInterface (And.intro @if_makeFunc (And.intro @if_makeMap (And.intro @if_makeChan (And.intro @if_slice (And.intro @if_fieldAddr (And.intro @if_field (And.intro @if_indexAddr (And.intro @if_index (And.intro @if_lookup (And.intro @if_mapUpdate (And.intro @if_mapEntry (And.intro @if_entryStore (And.intro @if_range (And.intro @if_next (And.intro @if_entry (And.intro @if_typeAssert (And.intro @if_extract (And.intro @if_call (And.intro @on_dead (And.intro @on_agg (And.intro @on_tup (And.intro @ca_dead (And.intro @ca_i (And.intro @ca_ref (And.intro @ca_ptr (And.intro @ca_mref (And.intro @ca_clo (And.intro @ca_tup (And.intro @fr_skip (And.intro @fr_exit (And.intro @fr_label (And.intro @fr_goto (And.intro @fr_ret (And.intro @evL_len (And.intro @evH_app (And.intro @evH_next (And.intro @nextA_ptr (And.intro @E_P (And.intro @E_glob0 (And.intro @E_glob1 (And.intro @E_glob2 (And.intro @E_byref (@E_tyb))))))))))))))))))))))))))))))))))))))))))))))))))))))))))))))))))))))))))))))))))))))))))))))))))))))))))))))))))))))))))))))))))))))))))))))))))))))))))))))))))))))))))))))))))))))))))))))))))))))))))))))))))))))))))))))))))))))))))))))))))))))))))))))))))))))))))))))))))))))))))))))))))))))))))))))))))))))))))))))))))))))))))))))))))))))))))))
def vlen := And.intro @List.length_append.{0} (And.intro @List.length_map.{0,0} (And.intro @List.length_set.{0} (And.intro @List.length_cons.{0} (And.intro @List.length_nil.{0} (And.intro @List.length_take.{0} (@List.length_drop.{0}))))))
theorem agg102 : aggO Tryd.prog 102 = some false := by kernel_rfl
theorem agg109 : aggO Tryd.prog 109 = some false := by kernel_rfl
theorem agg110 : aggO Tryd.prog 110 = some false := by kernel_rfl
theorem agg114 : aggO Tryd.prog 114 = some false := by kernel_rfl
theorem agg120 : aggO Tryd.prog 120 = some false := by kernel_rfl
theorem agg122 : aggO Tryd.prog 122 = some true := by kernel_rfl
theorem agg124 : aggO Tryd.prog 124 = some true := by kernel_rfl
theorem agg126 : aggO Tryd.prog 126 = some true := by kernel_rfl
theorem agg127 : aggO Tryd.prog 127 = some false := by kernel_rfl
theorem agg138 : aggO Tryd.prog 138 = some true := by kernel_rfl
theorem agg139 : aggO Tryd.prog 139 = some false := by kernel_rfl
theorem agg140 : aggO Tryd.prog 140 = some true := by kernel_rfl
theorem agg144 : aggO Tryd.prog 144 = some true := by kernel_rfl
theorem agg146 : aggO Tryd.prog 146 = some true := by kernel_rfl
theorem agg147 : aggO Tryd.prog 147 = some true := by kernel_rfl
theorem agg150 : aggO Tryd.prog 150 = some true := by kernel_rfl
theorem agg151 : aggO Tryd.prog 151 = some true := by kernel_rfl
theorem agg2 : aggO Tryd.prog 2 = some false := by kernel_rfl
theorem agg21 : aggO Tryd.prog 21 = some false := by kernel_rfl
theorem agg22 : aggO Tryd.prog 22 = some false := by kernel_rfl
theorem agg23 : aggO Tryd.prog 23 = some false := by kernel_rfl
theorem agg25 : aggO Tryd.prog 25 = some true := by kernel_rfl
theorem agg28 : aggO Tryd.prog 28 = some false := by kernel_rfl
theorem agg3 : aggO Tryd.prog 3 = some false := by kernel_rfl
theorem agg32 : aggO Tryd.prog 32 = some true := by kernel_rfl
theorem agg4 : aggO Tryd.prog 4 = some false := by kernel_rfl
theorem agg44 : aggO Tryd.prog 44 = some true := by kernel_rfl
theorem agg45 : aggO Tryd.prog 45 = some false := by kernel_rfl
theorem agg48 : aggO Tryd.prog 48 = some false := by kernel_rfl
theorem agg49 : aggO Tryd.prog 49 = some true := by kernel_rfl
theorem agg5 : aggO Tryd.prog 5 = some false := by kernel_rfl
theorem agg51 : aggO Tryd.prog 51 = some true := by kernel_rfl
theorem agg56 : aggO Tryd.prog 56 = some false := by kernel_rfl
theorem agg57 : aggO Tryd.prog 57 = some true := by kernel_rfl
theorem agg59 : aggO Tryd.prog 59 = some true := by kernel_rfl
theorem agg63 : aggO Tryd.prog 63 = some false := by kernel_rfl
theorem agg64 : aggO Tryd.prog 64 = some false := by kernel_rfl
theorem agg66 : aggO Tryd.prog 66 = some true := by kernel_rfl
theorem agg72 : aggO Tryd.prog 72 = some false := by kernel_rfl
theorem agg75 : aggO Tryd.prog 75 = some false := by kernel_rfl
theorem agg76 : aggO Tryd.prog 76 = some false := by kernel_rfl
theorem agg77 : aggO Tryd.prog 77 = some false := by kernel_rfl
theorem agg79 : aggO Tryd.prog 79 = some true := by kernel_rfl
theorem agg87 : aggO Tryd.prog 87 = some false := by kernel_rfl
theorem agg89 : aggO Tryd.prog 89 = some true := by kernel_rfl
theorem agg9 : aggO Tryd.prog 9 = some false := by kernel_rfl
theorem agg90 : aggO Tryd.prog 90 = some true := by kernel_rfl
theorem arr110 : arrO Tryd.prog 110 = none := by kernel_rfl
theorem arr120 : arrO Tryd.prog 120 = none := by kernel_rfl
theorem arr122 : arrO Tryd.prog 122 = none := by kernel_rfl
theorem arr124 : arrO Tryd.prog 124 = none := by kernel_rfl
theorem arr126 : arrO Tryd.prog 126 = some (24, 5) := by kernel_rfl
theorem arr138 : arrO Tryd.prog 138 = some (20, 127) := by kernel_rfl
theorem arr140 : arrO Tryd.prog 140 = some (65, 5) := by kernel_rfl
theorem arr144 : arrO Tryd.prog 144 = some (256, 5) := by kernel_rfl
theorem arr146 : arrO Tryd.prog 146 = none := by kernel_rfl
theorem arr147 : arrO Tryd.prog 147 = some (16, 146) := by kernel_rfl
theorem arr150 : arrO Tryd.prog 150 = some (32, 5) := by kernel_rfl
theorem arr151 : arrO Tryd.prog 151 = some (64, 5) := by kernel_rfl
theorem arr22 : arrO Tryd.prog 22 = none := by kernel_rfl
theorem arr23 : arrO Tryd.prog 23 = none := by kernel_rfl
theorem arr32 : arrO Tryd.prog 32 = none := by kernel_rfl
theorem arr44 : arrO Tryd.prog 44 = none := by kernel_rfl
theorem arr45 : arrO Tryd.prog 45 = none := by kernel_rfl
theorem arr48 : arrO Tryd.prog 48 = none := by kernel_rfl
theorem arr49 : arrO Tryd.prog 49 = some (16, 4) := by kernel_rfl
theorem arr57 : arrO Tryd.prog 57 = some (16, 3) := by kernel_rfl
theorem arr59 : arrO Tryd.prog 59 = none := by kernel_rfl
theorem arr64 : arrO Tryd.prog 64 = none := by kernel_rfl
theorem arr72 : arrO Tryd.prog 72 = none := by kernel_rfl
theorem arr79 : arrO Tryd.prog 79 = none := by kernel_rfl
theorem arr89 : arrO Tryd.prog 89 = none := by kernel_rfl
theorem arr9 : arrO Tryd.prog 9 = none := by kernel_rfl
theorem arr90 : arrO Tryd.prog 90 = some (21, 3) := by kernel_rfl
theorem arrz122 : arrO Tryd.prog 122 = none := by kernel_rfl
theorem arrz124 : arrO Tryd.prog 124 = none := by kernel_rfl
theorem arrz126 : arrO Tryd.prog 126 = some (24, 5) := by kernel_rfl
theorem arrz138 : arrO Tryd.prog 138 = some (20, 127) := by kernel_rfl
theorem arrz140 : arrO Tryd.prog 140 = some (65, 5) := by kernel_rfl
theorem arrz146 : arrO Tryd.prog 146 = none := by kernel_rfl
theorem arrz147 : arrO Tryd.prog 147 = some (16, 146) := by kernel_rfl
theorem arrz150 : arrO Tryd.prog 150 = some (32, 5) := by kernel_rfl
theorem arrz151 : arrO Tryd.prog 151 = some (64, 5) := by kernel_rfl
theorem arrz32 : arrO Tryd.prog 32 = none := by kernel_rfl
theorem arrz44 : arrO Tryd.prog 44 = none := by kernel_rfl
theorem arrz51 : arrO Tryd.prog 51 = none := by kernel_rfl
theorem arrz59 : arrO Tryd.prog 59 = none := by kernel_rfl
theorem arrz66 : arrO Tryd.prog 66 = none := by kernel_rfl
theorem arrz79 : arrO Tryd.prog 79 = none := by kernel_rfl
theorem arrz89 : arrO Tryd.prog 89 = none := by kernel_rfl
theorem arrz90 : arrO Tryd.prog 90 = some (21, 3) := by kernel_rfl
theorem eqg25 : eqgO Tryd.prog 25 = false := by kernel_rfl
theorem eqg32 : eqgO Tryd.prog 32 = false := by kernel_rfl
theorem fld122_0 : fldO Tryd.prog 122 0 = some (0, 3) := by kernel_rfl
theorem fld122_1 : fldO Tryd.prog 122 1 = some (1, 3) := by kernel_rfl
theorem fld124_0 : fldO Tryd.prog 124 0 = some (0, 21) := by kernel_rfl
theorem fld124_1 : fldO Tryd.prog 124 1 = some (1, 3) := by kernel_rfl
theorem fld124_2 : fldO Tryd.prog 124 2 = some (2, 5) := by kernel_rfl
theorem fld124_3 : fldO Tryd.prog 124 3 = some (3, 5) := by kernel_rfl
theorem fld146_0 : fldO Tryd.prog 146 0 = some (0, 5) := by kernel_rfl
theorem fld146_1 : fldO Tryd.prog 146 1 = some (1, 5) := by kernel_rfl
theorem fld25_0 : fldO Tryd.prog 25 0 = some (0, 3) := by kernel_rfl
theorem fld25_1 : fldO Tryd.prog 25 1 = some (1, 3) := by kernel_rfl
theorem fld32_0 : fldO Tryd.prog 32 0 = some (0, 25) := by kernel_rfl
theorem fld32_1 : fldO Tryd.prog 32 1 = some (3, 3) := by kernel_rfl
theorem fld32_2 : fldO Tryd.prog 32 2 = some (4, 28) := by kernel_rfl
theorem fld44_0 : fldO Tryd.prog 44 0 = some (0, 3) := by kernel_rfl
theorem fld44_1 : fldO Tryd.prog 44 1 = some (1, 3) := by kernel_rfl
theorem fld51_0 : fldO Tryd.prog 51 0 = some (0, 4) := by kernel_rfl
theorem fld51_1 : fldO Tryd.prog 51 1 = some (1, 49) := by kernel_rfl
theorem fld59_0 : fldO Tryd.prog 59 0 = some (0, 3) := by kernel_rfl
theorem fld59_1 : fldO Tryd.prog 59 1 = some (1, 23) := by kernel_rfl
theorem fld59_2 : fldO Tryd.prog 59 2 = some (2, 25) := by kernel_rfl
theorem fld59_3 : fldO Tryd.prog 59 3 = some (5, 57) := by kernel_rfl
theorem fld59_4 : fldO Tryd.prog 59 4 = some (21, 3) := by kernel_rfl
theorem fld59_5 : fldO Tryd.prog 59 5 = some (22, 4) := by kernel_rfl
theorem fld66_0 : fldO Tryd.prog 66 0 = some (0, 63) := by kernel_rfl
theorem fld66_1 : fldO Tryd.prog 66 1 = some (1, 64) := by kernel_rfl
theorem fld79_0 : fldO Tryd.prog 79 0 = some (0, 22) := by kernel_rfl
theorem fld79_1 : fldO Tryd.prog 79 1 = some (1, 45) := by kernel_rfl
theorem fld79_2 : fldO Tryd.prog 79 2 = some (2, 76) := by kernel_rfl
theorem fld79_3 : fldO Tryd.prog 79 3 = some (3, 77) := by kernel_rfl
theorem fld89_0 : fldO Tryd.prog 89 0 = some (0, 9) := by kernel_rfl
theorem fld89_2 : fldO Tryd.prog 89 2 = some (2, 3) := by kernel_rfl
theorem kind102 : kindO Tryd.prog 102 = none := by kernel_rfl
theorem kind109 : kindO Tryd.prog 109 = none := by kernel_rfl
theorem kind110 : kindO Tryd.prog 110 = none := by kernel_rfl
theorem kind114 : kindO Tryd.prog 114 = none := by kernel_rfl
theorem kind120 : kindO Tryd.prog 120 = none := by kernel_rfl
theorem kind122 : kindO Tryd.prog 122 = none := by kernel_rfl
theorem kind126 : kindO Tryd.prog 126 = none := by kernel_rfl
theorem kind127 : kindO Tryd.prog 127 = some .u64 := by kernel_rfl
theorem kind138 : kindO Tryd.prog 138 = none := by kernel_rfl
theorem kind139 : kindO Tryd.prog 139 = some .u32 := by kernel_rfl
theorem kind140 : kindO Tryd.prog 140 = none := by kernel_rfl
theorem kind144 : kindO Tryd.prog 144 = none := by kernel_rfl
theorem kind147 : kindO Tryd.prog 147 = none := by kernel_rfl
theorem kind150 : kindO Tryd.prog 150 = none := by kernel_rfl
theorem kind151 : kindO Tryd.prog 151 = none := by kernel_rfl
theorem kind2 : kindO Tryd.prog 2 = some .i64 := by kernel_rfl
theorem kind21 : kindO Tryd.prog 21 = some .i32 := by kernel_rfl
theorem kind22 : kindO Tryd.prog 22 = none := by kernel_rfl
theorem kind23 : kindO Tryd.prog 23 = none := by kernel_rfl
theorem kind25 : kindO Tryd.prog 25 = none := by kernel_rfl
theorem kind3 : kindO Tryd.prog 3 = some .i64 := by kernel_rfl
theorem kind4 : kindO Tryd.prog 4 = none := by kernel_rfl
theorem kind44 : kindO Tryd.prog 44 = none := by kernel_rfl
theorem kind45 : kindO Tryd.prog 45 = none := by kernel_rfl
theorem kind48 : kindO Tryd.prog 48 = none := by kernel_rfl
theorem kind49 : kindO Tryd.prog 49 = none := by kernel_rfl
theorem kind5 : kindO Tryd.prog 5 = some .u8 := by kernel_rfl
theorem kind51 : kindO Tryd.prog 51 = none := by kernel_rfl
theorem kind56 : kindO Tryd.prog 56 = none := by kernel_rfl
theorem kind57 : kindO Tryd.prog 57 = none := by kernel_rfl
theorem kind63 : kindO Tryd.prog 63 = none := by kernel_rfl
theorem kind64 : kindO Tryd.prog 64 = none := by kernel_rfl
theorem kind66 : kindO Tryd.prog 66 = none := by kernel_rfl
theorem kind72 : kindO Tryd.prog 72 = none := by kernel_rfl
theorem kind75 : kindO Tryd.prog 75 = none := by kernel_rfl
theorem kind87 : kindO Tryd.prog 87 = some .u64 := by kernel_rfl
theorem kind89 : kindO Tryd.prog 89 = none := by kernel_rfl
theorem kind9 : kindO Tryd.prog 9 = none := by kernel_rfl
theorem kind90 : kindO Tryd.prog 90 = none := by kernel_rfl
theorem lv25 : leaves Tryd.prog 9 25 = some [.int .i64, .int .i64, .int .i64] := by kernel_rfl
theorem lv32 : leaves Tryd.prog 9 32 = some [.int .i64, .int .i64, .int .i64, .int .i64, .int .i64] := by kernel_rfl
theorem mp62 : mapO Tryd.prog 62 = some (3, 4) := by kernel_rfl
theorem mp76 : mapO Tryd.prog 76 = some (3, 9) := by kernel_rfl
theorem mp77 : mapO Tryd.prog 77 = some (9, 3) := by kernel_rfl
theorem mp96 : mapO Tryd.prog 96 = some (3, 85) := by kernel_rfl
theorem pl122 : placesO Tryd.prog 122 = some [(0, 1), (1, 1)] := by kernel_rfl
theorem pl124 : placesO Tryd.prog 124 = some [(0, 1), (1, 1), (2, 1), (3, 1)] := by kernel_rfl
theorem pl146 : placesO Tryd.prog 146 = some [(0, 1), (1, 1)] := by kernel_rfl
theorem pl32 : placesO Tryd.prog 32 = some [(0, 3), (3, 1), (4, 1)] := by kernel_rfl
theorem pl44 : placesO Tryd.prog 44 = some [(0, 1), (1, 1)] := by kernel_rfl
theorem pl51 : placesO Tryd.prog 51 = some [(0, 1), (1, 16)] := by kernel_rfl
theorem pl59 : placesO Tryd.prog 59 = some [(0, 1), (1, 1), (2, 3), (5, 16), (21, 1), (22, 1)] := by kernel_rfl
theorem pl66 : placesO Tryd.prog 66 = some [(0, 1), (1, 1)] := by kernel_rfl
theorem pl79 : placesO Tryd.prog 79 = some [(0, 1), (1, 1), (2, 1), (3, 1)] := by kernel_rfl
theorem pl89 : placesO Tryd.prog 89 = some [(0, 1), (1, 1), (2, 1)] := by kernel_rfl
theorem sl102 : slO Tryd.prog 102 = none := by kernel_rfl
theorem sl109 : slO Tryd.prog 109 = none := by kernel_rfl
theorem sl110 : slO Tryd.prog 110 = some 21 := by kernel_rfl
theorem sl114 : slO Tryd.prog 114 = none := by kernel_rfl
theorem sl120 : slO Tryd.prog 120 = some 122 := by kernel_rfl
theorem sl126 : slO Tryd.prog 126 = none := by kernel_rfl
theorem sl127 : slO Tryd.prog 127 = none := by kernel_rfl
theorem sl138 : slO Tryd.prog 138 = none := by kernel_rfl
theorem sl139 : slO Tryd.prog 139 = none := by kernel_rfl
theorem sl140 : slO Tryd.prog 140 = none := by kernel_rfl
theorem sl144 : slO Tryd.prog 144 = none := by kernel_rfl
theorem sl147 : slO Tryd.prog 147 = none := by kernel_rfl
theorem sl150 : slO Tryd.prog 150 = none := by kernel_rfl
theorem sl151 : slO Tryd.prog 151 = none := by kernel_rfl
theorem sl2 : slO Tryd.prog 2 = none := by kernel_rfl
theorem sl21 : slO Tryd.prog 21 = none := by kernel_rfl
theorem sl22 : slO Tryd.prog 22 = some 44 := by kernel_rfl
theorem sl23 : slO Tryd.prog 23 = some 89 := by kernel_rfl
theorem sl25 : slO Tryd.prog 25 = none := by kernel_rfl
theorem sl3 : slO Tryd.prog 3 = none := by kernel_rfl
theorem sl4 : slO Tryd.prog 4 = none := by kernel_rfl
theorem sl44 : slO Tryd.prog 44 = none := by kernel_rfl
theorem sl45 : slO Tryd.prog 45 = some 3 := by kernel_rfl
theorem sl48 : slO Tryd.prog 48 = some 51 := by kernel_rfl
theorem sl49 : slO Tryd.prog 49 = none := by kernel_rfl
theorem sl5 : slO Tryd.prog 5 = none := by kernel_rfl
theorem sl51 : slO Tryd.prog 51 = none := by kernel_rfl
theorem sl56 : slO Tryd.prog 56 = none := by kernel_rfl
theorem sl57 : slO Tryd.prog 57 = none := by kernel_rfl
theorem sl63 : slO Tryd.prog 63 = none := by kernel_rfl
theorem sl64 : slO Tryd.prog 64 = some 5 := by kernel_rfl
theorem sl66 : slO Tryd.prog 66 = none := by kernel_rfl
theorem sl72 : slO Tryd.prog 72 = some 9 := by kernel_rfl
theorem sl75 : slO Tryd.prog 75 = none := by kernel_rfl
theorem sl87 : slO Tryd.prog 87 = none := by kernel_rfl
theorem sl9 : slO Tryd.prog 9 = none := by kernel_rfl
theorem sl90 : slO Tryd.prog 90 = none := by kernel_rfl
theorem str102 : isStrO Tryd.prog 102 = false := by kernel_rfl
theorem str109 : isStrO Tryd.prog 109 = false := by kernel_rfl
theorem str110 : isStrO Tryd.prog 110 = false := by kernel_rfl
theorem str114 : isStrO Tryd.prog 114 = false := by kernel_rfl
theorem str120 : isStrO Tryd.prog 120 = false := by kernel_rfl
theorem str126 : isStrO Tryd.prog 126 = false := by kernel_rfl
theorem str127 : isStrO Tryd.prog 127 = false := by kernel_rfl
theorem str138 : isStrO Tryd.prog 138 = false := by kernel_rfl
theorem str139 : isStrO Tryd.prog 139 = false := by kernel_rfl
theorem str140 : isStrO Tryd.prog 140 = false := by kernel_rfl
theorem str144 : isStrO Tryd.prog 144 = false := by kernel_rfl
theorem str147 : isStrO Tryd.prog 147 = false := by kernel_rfl
theorem str150 : isStrO Tryd.prog 150 = false := by kernel_rfl
theorem str151 : isStrO Tryd.prog 151 = false := by kernel_rfl
theorem str2 : isStrO Tryd.prog 2 = false := by kernel_rfl
theorem str21 : isStrO Tryd.prog 21 = false := by kernel_rfl
theorem str22 : isStrO Tryd.prog 22 = false := by kernel_rfl
theorem str23 : isStrO Tryd.prog 23 = false := by kernel_rfl
theorem str25 : isStrO Tryd.prog 25 = false := by kernel_rfl
theorem str3 : isStrO Tryd.prog 3 = false := by kernel_rfl
theorem str4 : isStrO Tryd.prog 4 = false := by kernel_rfl
theorem str44 : isStrO Tryd.prog 44 = false := by kernel_rfl
theorem str45 : isStrO Tryd.prog 45 = false := by kernel_rfl
theorem str48 : isStrO Tryd.prog 48 = false := by kernel_rfl
theorem str49 : isStrO Tryd.prog 49 = false := by kernel_rfl
theorem str5 : isStrO Tryd.prog 5 = false := by kernel_rfl
theorem str51 : isStrO Tryd.prog 51 = false := by kernel_rfl
theorem str56 : isStrO Tryd.prog 56 = false := by kernel_rfl
theorem str57 : isStrO Tryd.prog 57 = false := by kernel_rfl
theorem str63 : isStrO Tryd.prog 63 = false := by kernel_rfl
theorem str64 : isStrO Tryd.prog 64 = false := by kernel_rfl
theorem str66 : isStrO Tryd.prog 66 = false := by kernel_rfl
theorem str72 : isStrO Tryd.prog 72 = false := by kernel_rfl
theorem str75 : isStrO Tryd.prog 75 = false := by kernel_rfl
theorem str87 : isStrO Tryd.prog 87 = false := by kernel_rfl
theorem str9 : isStrO Tryd.prog 9 = true := by kernel_rfl
theorem str90 : isStrO Tryd.prog 90 = false := by kernel_rfl
theorem sz122 : szO Tryd.prog 122 = some 2 := by kernel_rfl
theorem sz124 : szO Tryd.prog 124 = some 4 := by kernel_rfl
theorem sz126 : szO Tryd.prog 126 = some 24 := by kernel_rfl
theorem sz127 : szO Tryd.prog 127 = some 1 := by kernel_rfl
theorem sz138 : szO Tryd.prog 138 = some 20 := by kernel_rfl
theorem sz140 : szO Tryd.prog 140 = some 65 := by kernel_rfl
theorem sz146 : szO Tryd.prog 146 = some 2 := by kernel_rfl
theorem sz147 : szO Tryd.prog 147 = some 32 := by kernel_rfl
theorem sz150 : szO Tryd.prog 150 = some 32 := by kernel_rfl
theorem sz151 : szO Tryd.prog 151 = some 64 := by kernel_rfl
theorem sz21 : szO Tryd.prog 21 = some 1 := by kernel_rfl
theorem sz22 : szO Tryd.prog 22 = some 1 := by kernel_rfl
theorem sz23 : szO Tryd.prog 23 = some 1 := by kernel_rfl
theorem sz25 : szO Tryd.prog 25 = some 3 := by kernel_rfl
theorem sz28 : szO Tryd.prog 28 = some 1 := by kernel_rfl
theorem sz3 : szO Tryd.prog 3 = some 1 := by kernel_rfl
theorem sz32 : szO Tryd.prog 32 = some 5 := by kernel_rfl
theorem sz4 : szO Tryd.prog 4 = some 1 := by kernel_rfl
theorem sz44 : szO Tryd.prog 44 = some 2 := by kernel_rfl
theorem sz45 : szO Tryd.prog 45 = some 1 := by kernel_rfl
theorem sz48 : szO Tryd.prog 48 = some 1 := by kernel_rfl
theorem sz49 : szO Tryd.prog 49 = some 16 := by kernel_rfl
theorem sz5 : szO Tryd.prog 5 = some 1 := by kernel_rfl
theorem sz51 : szO Tryd.prog 51 = some 17 := by kernel_rfl
theorem sz57 : szO Tryd.prog 57 = some 16 := by kernel_rfl
theorem sz59 : szO Tryd.prog 59 = some 23 := by kernel_rfl
theorem sz63 : szO Tryd.prog 63 = some 1 := by kernel_rfl
theorem sz64 : szO Tryd.prog 64 = some 1 := by kernel_rfl
theorem sz66 : szO Tryd.prog 66 = some 2 := by kernel_rfl
theorem sz76 : szO Tryd.prog 76 = some 1 := by kernel_rfl
theorem sz77 : szO Tryd.prog 77 = some 1 := by kernel_rfl
theorem sz79 : szO Tryd.prog 79 = some 4 := by kernel_rfl
theorem sz89 : szO Tryd.prog 89 = some 3 := by kernel_rfl
theorem sz9 : szO Tryd.prog 9 = some 1 := by kernel_rfl
theorem sz90 : szO Tryd.prog 90 = some 21 := by kernel_rfl
theorem und4 : Tryd.prog.underlying 4 = some .bool := by kernel_rfl
theorem und63 : Tryd.prog.underlying 63 = some (.pointer 66) := by kernel_rfl
theorem zero122 : zeroO Tryd.prog 122 = some (.agg [.i (.v (.int .i64 0)), .i (.v (.int .i64 0))]) := by kernel_rfl
theorem zero124 : zeroO Tryd.prog 124 = some (.agg [.i (.v (.int .i32 0)), .i (.v (.int .i64 0)), .i (.v (.int .u8 0)), .i (.v (.int .u8 0))]) := by kernel_rfl
theorem zero126 : zeroO Tryd.prog 126 = some (.agg [.i (.v (.int .u8 0)), .i (.v (.int .u8 0)), .i (.v (.int .u8 0)), .i (.v (.int .u8 0)), .i (.v (.int .u8 0)), .i (.v (.int .u8 0)), .i (.v (.int .u8 0)), .i (.v (.int .u8 0)), .i (.v (.int .u8 0)), .i (.v (.int .u8 0)), .i (.v (.int .u8 0)), .i (.v (.int .u8 0)), .i (.v (.int .u8 0)), .i (.v (.int .u8 0)), .i (.v (.int .u8 0)), .i (.v (.int .u8 0)), .i (.v (.int .u8 0)), .i (.v (.int .u8 0)), .i (.v (.int .u8 0)), .i (.v (.int .u8 0)), .i (.v (.int .u8 0)), .i (.v (.int .u8 0)), .i (.v (.int .u8 0)), .i (.v (.int .u8 0))]) := by kernel_rfl
theorem zero138 : zeroO Tryd.prog 138 = some (.agg [.i (.v (.int .u64 0)), .i (.v (.int .u64 0)), .i (.v (.int .u64 0)), .i (.v (.int .u64 0)), .i (.v (.int .u64 0)), .i (.v (.int .u64 0)), .i (.v (.int .u64 0)), .i (.v (.int .u64 0)), .i (.v (.int .u64 0)), .i (.v (.int .u64 0)), .i (.v (.int .u64 0)), .i (.v (.int .u64 0)), .i (.v (.int .u64 0)), .i (.v (.int .u64 0)), .i (.v (.int .u64 0)), .i (.v (.int .u64 0)), .i (.v (.int .u64 0)), .i (.v (.int .u64 0)), .i (.v (.int .u64 0)), .i (.v (.int .u64 0))]) := by kernel_rfl
theorem zero140 : zeroO Tryd.prog 140 = some (.agg [.i (.v (.int .u8 0)), .i (.v (.int .u8 0)), .i (.v (.int .u8 0)), .i (.v (.int .u8 0)), .i (.v (.int .u8 0)), .i (.v (.int .u8 0)), .i (.v (.int .u8 0)), .i (.v (.int .u8 0)), .i (.v (.int .u8 0)), .i (.v (.int .u8 0)), .i (.v (.int .u8 0)), .i (.v (.int .u8 0)), .i (.v (.int .u8 0)), .i (.v (.int .u8 0)), .i (.v (.int .u8 0)), .i (.v (.int .u8 0)), .i (.v (.int .u8 0)), .i (.v (.int .u8 0)), .i (.v (.int .u8 0)), .i (.v (.int .u8 0)), .i (.v (.int .u8 0)), .i (.v (.int .u8 0)), .i (.v (.int .u8 0)), .i (.v (.int .u8 0)), .i (.v (.int .u8 0)), .i (.v (.int .u8 0)), .i (.v (.int .u8 0)), .i (.v (.int .u8 0)), .i (.v (.int .u8 0)), .i (.v (.int .u8 0)), .i (.v (.int .u8 0)), .i (.v (.int .u8 0)), .i (.v (.int .u8 0)), .i (.v (.int .u8 0)), .i (.v (.int .u8 0)), .i (.v (.int .u8 0)), .i (.v (.int .u8 0)), .i (.v (.int .u8 0)), .i (.v (.int .u8 0)), .i (.v (.int .u8 0)), .i (.v (.int .u8 0)), .i (.v (.int .u8 0)), .i (.v (.int .u8 0)), .i (.v (.int .u8 0)), .i (.v (.int .u8 0)), .i (.v (.int .u8 0)), .i (.v (.int .u8 0)), .i (.v (.int .u8 0)), .i (.v (.int .u8 0)), .i (.v (.int .u8 0)), .i (.v (.int .u8 0)), .i (.v (.int .u8 0)), .i (.v (.int .u8 0)), .i (.v (.int .u8 0)), .i (.v (.int .u8 0)), .i (.v (.int .u8 0)), .i (.v (.int .u8 0)), .i (.v (.int .u8 0)), .i (.v (.int .u8 0)), .i (.v (.int .u8 0)), .i (.v (.int .u8 0)), .i (.v (.int .u8 0)), .i (.v (.int .u8 0)), .i (.v (.int .u8 0)), .i (.v (.int .u8 0))]) := by kernel_rfl
theorem zero146 : zeroO Tryd.prog 146 = some (.agg [.i (.v (.int .u8 0)), .i (.v (.int .u8 0))]) := by kernel_rfl
theorem zero147 : zeroO Tryd.prog 147 = some (.agg [.i (.v (.int .u8 0)), .i (.v (.int .u8 0)), .i (.v (.int .u8 0)), .i (.v (.int .u8 0)), .i (.v (.int .u8 0)), .i (.v (.int .u8 0)), .i (.v (.int .u8 0)), .i (.v (.int .u8 0)), .i (.v (.int .u8 0)), .i (.v (.int .u8 0)), .i (.v (.int .u8 0)), .i (.v (.int .u8 0)), .i (.v (.int .u8 0)), .i (.v (.int .u8 0)), .i (.v (.int .u8 0)), .i (.v (.int .u8 0)), .i (.v (.int .u8 0)), .i (.v (.int .u8 0)), .i (.v (.int .u8 0)), .i (.v (.int .u8 0)), .i (.v (.int .u8 0)), .i (.v (.int .u8 0)), .i (.v (.int .u8 0)), .i (.v (.int .u8 0)), .i (.v (.int .u8 0)), .i (.v (.int .u8 0)), .i (.v (.int .u8 0)), .i (.v (.int .u8 0)), .i (.v (.int .u8 0)), .i (.v (.int .u8 0)), .i (.v (.int .u8 0)), .i (.v (.int .u8 0))]) := by kernel_rfl
theorem zero150 : zeroO Tryd.prog 150 = some (.agg [.i (.v (.int .u8 0)), .i (.v (.int .u8 0)), .i (.v (.int .u8 0)), .i (.v (.int .u8 0)), .i (.v (.int .u8 0)), .i (.v (.int .u8 0)), .i (.v (.int .u8 0)), .i (.v (.int .u8 0)), .i (.v (.int .u8 0)), .i (.v (.int .u8 0)), .i (.v (.int .u8 0)), .i (.v (.int .u8 0)), .i (.v (.int .u8 0)), .i (.v (.int .u8 0)), .i (.v (.int .u8 0)), .i (.v (.int .u8 0)), .i (.v (.int .u8 0)), .i (.v (.int .u8 0)), .i (.v (.int .u8 0)), .i (.v (.int .u8 0)), .i (.v (.int .u8 0)), .i (.v (.int .u8 0)), .i (.v (.int .u8 0)), .i (.v (.int .u8 0)), .i (.v (.int .u8 0)), .i (.v (.int .u8 0)), .i (.v (.int .u8 0)), .i (.v (.int .u8 0)), .i (.v (.int .u8 0)), .i (.v (.int .u8 0)), .i (.v (.int .u8 0)), .i (.v (.int .u8 0))]) := by kernel_rfl
theorem zero151 : zeroO Tryd.prog 151 = some (.agg [.i (.v (.int .u8 0)), .i (.v (.int .u8 0)), .i (.v (.int .u8 0)), .i (.v (.int .u8 0)), .i (.v (.int .u8 0)), .i (.v (.int .u8 0)), .i (.v (.int .u8 0)), .i (.v (.int .u8 0)), .i (.v (.int .u8 0)), .i (.v (.int .u8 0)), .i (.v (.int .u8 0)), .i (.v (.int .u8 0)), .i (.v (.int .u8 0)), .i (.v (.int .u8 0)), .i (.v (.int .u8 0)), .i (.v (.int .u8 0)), .i (.v (.int .u8 0)), .i (.v (.int .u8 0)), .i (.v (.int .u8 0)), .i (.v (.int .u8 0)), .i (.v (.int .u8 0)), .i (.v (.int .u8 0)), .i (.v (.int .u8 0)), .i (.v (.int .u8 0)), .i (.v (.int .u8 0)), .i (.v (.int .u8 0)), .i (.v (.int .u8 0)), .i (.v (.int .u8 0)), .i (.v (.int .u8 0)), .i (.v (.int .u8 0)), .i (.v (.int .u8 0)), .i (.v (.int .u8 0)), .i (.v (.int .u8 0)), .i (.v (.int .u8 0)), .i (.v (.int .u8 0)), .i (.v (.int .u8 0)), .i (.v (.int .u8 0)), .i (.v (.int .u8 0)), .i (.v (.int .u8 0)), .i (.v (.int .u8 0)), .i (.v (.int .u8 0)), .i (.v (.int .u8 0)), .i (.v (.int .u8 0)), .i (.v (.int .u8 0)), .i (.v (.int .u8 0)), .i (.v (.int .u8 0)), .i (.v (.int .u8 0)), .i (.v (.int .u8 0)), .i (.v (.int .u8 0)), .i (.v (.int .u8 0)), .i (.v (.int .u8 0)), .i (.v (.int .u8 0)), .i (.v (.int .u8 0)), .i (.v (.int .u8 0)), .i (.v (.int .u8 0)), .i (.v (.int .u8 0)), .i (.v (.int .u8 0)), .i (.v (.int .u8 0)), .i (.v (.int .u8 0)), .i (.v (.int .u8 0)), .i (.v (.int .u8 0)), .i (.v (.int .u8 0)), .i (.v (.int .u8 0)), .i (.v (.int .u8 0))]) := by kernel_rfl
theorem zero21 : zeroO Tryd.prog 21 = some (.i (.v (.int .i32 0))) := by kernel_rfl
theorem zero28 : zeroO Tryd.prog 28 = some (.i (.v (.int .i64 0))) := by kernel_rfl
theorem zero3 : zeroO Tryd.prog 3 = some (.i (.v (.int .i64 0))) := by kernel_rfl
theorem zero32 : zeroO Tryd.prog 32 = some (.agg [.i (.v (.int .i64 0)), .i (.v (.int .i64 0)), .i (.v (.int .i64 0)), .i (.v (.int .i64 0)), .i (.v (.int .i64 0))]) := by kernel_rfl
theorem zero4 : zeroO Tryd.prog 4 = some (.i (.v (.bool false))) := by kernel_rfl
theorem zero44 : zeroO Tryd.prog 44 = some (.agg [.i (.v (.int .i64 0)), .i (.v (.int .i64 0))]) := by kernel_rfl
theorem zero45 : zeroO Tryd.prog 45 = some (.i (.sl 0 [] true)) := by kernel_rfl
theorem zero48 : zeroO Tryd.prog 48 = some (.i (.sl 0 [] true)) := by kernel_rfl
theorem zero5 : zeroO Tryd.prog 5 = some (.i (.v (.int .u8 0))) := by kernel_rfl
theorem zero51 : zeroO Tryd.prog 51 = some (.agg [.i (.v (.bool false)), .i (.v (.bool false)), .i (.v (.bool false)), .i (.v (.bool false)), .i (.v (.bool false)), .i (.v (.bool false)), .i (.v (.bool false)), .i (.v (.bool false)), .i (.v (.bool false)), .i (.v (.bool false)), .i (.v (.bool false)), .i (.v (.bool false)), .i (.v (.bool false)), .i (.v (.bool false)), .i (.v (.bool false)), .i (.v (.bool false)), .i (.v (.bool false))]) := by kernel_rfl
theorem zero59 : zeroO Tryd.prog 59 = some (.agg [.i (.v (.int .i64 0)), .i (.sl 0 [] true), .i (.v (.int .i64 0)), .i (.v (.int .i64 0)), .i (.v (.int .i64 0)), .i (.v (.int .i64 0)), .i (.v (.int .i64 0)), .i (.v (.int .i64 0)), .i (.v (.int .i64 0)), .i (.v (.int .i64 0)), .i (.v (.int .i64 0)), .i (.v (.int .i64 0)), .i (.v (.int .i64 0)), .i (.v (.int .i64 0)), .i (.v (.int .i64 0)), .i (.v (.int .i64 0)), .i (.v (.int .i64 0)), .i (.v (.int .i64 0)), .i (.v (.int .i64 0)), .i (.v (.int .i64 0)), .i (.v (.int .i64 0)), .i (.v (.int .i64 0)), .i (.v (.bool false))]) := by kernel_rfl
theorem zero66 : zeroO Tryd.prog 66 = some (.agg [.i (.v (.pointer none)), .i (.sl 0 [] true)]) := by kernel_rfl
theorem zero79 : zeroO Tryd.prog 79 = some (.agg [.i (.sl 0 [] true), .i (.sl 0 [] true), .i (.v (.map none)), .i (.v (.map none))]) := by kernel_rfl
theorem zero85 : zeroO Tryd.prog 85 = some (.i (.v .nilFunc)) := by kernel_rfl
theorem zero89 : zeroO Tryd.prog 89 = some (.agg [.i (.str []), .i (.v (.bool false)), .i (.v (.int .i64 0))]) := by kernel_rfl
theorem zero9 : zeroO Tryd.prog 9 = some (.i (.str [])) := by kernel_rfl
theorem zero90 : zeroO Tryd.prog 90 = some (.agg [.i (.v (.int .i64 0)), .i (.v (.int .i64 0)), .i (.v (.int .i64 0)), .i (.v (.int .i64 0)), .i (.v (.int .i64 0)), .i (.v (.int .i64 0)), .i (.v (.int .i64 0)), .i (.v (.int .i64 0)), .i (.v (.int .i64 0)), .i (.v (.int .i64 0)), .i (.v (.int .i64 0)), .i (.v (.int .i64 0)), .i (.v (.int .i64 0)), .i (.v (.int .i64 0)), .i (.v (.int .i64 0)), .i (.v (.int .i64 0)), .i (.v (.int .i64 0)), .i (.v (.int .i64 0)), .i (.v (.int .i64 0)), .i (.v (.int .i64 0)), .i (.v (.int .i64 0))]) := by kernel_rfl
theorem fok3 : fnOk E 3 = true := by kernel_rfl
theorem ent3 : enterOk E 3 = true := by kernel_rfl
theorem fok4 : fnOk E 4 = true := by kernel_rfl
theorem ent4 : enterOk E 4 = true := by kernel_rfl
theorem fok5 : fnOk E 5 = true := by kernel_rfl
theorem ent5 : enterOk E 5 = true := by kernel_rfl
theorem fok6 : fnOk E 6 = true := by kernel_rfl
theorem ent6 : enterOk E 6 = true := by kernel_rfl
theorem fok7 : fnOk E 7 = true := by kernel_rfl
theorem ent7 : enterOk E 7 = true := by kernel_rfl
theorem fok8 : fnOk E 8 = true := by kernel_rfl
theorem ent8 : enterOk E 8 = true := by kernel_rfl
theorem fok9 : fnOk E 9 = true := by kernel_rfl
theorem ent9 : enterOk E 9 = true := by kernel_rfl
theorem fok10 : fnOk E 10 = true := by kernel_rfl
theorem ent10 : enterOk E 10 = true := by kernel_rfl
theorem fok11 : fnOk E 11 = true := by kernel_rfl
theorem ent11 : enterOk E 11 = true := by kernel_rfl
theorem fok12 : fnOk E 12 = true := by kernel_rfl
theorem ent12 : enterOk E 12 = true := by kernel_rfl
theorem fok13 : fnOk E 13 = true := by kernel_rfl
theorem ent13 : enterOk E 13 = true := by kernel_rfl
theorem fok14 : fnOk E 14 = true := by kernel_rfl
theorem ent14 : enterOk E 14 = true := by kernel_rfl
theorem fok15 : fnOk E 15 = true := by kernel_rfl
theorem ent15 : enterOk E 15 = true := by kernel_rfl
theorem fok16 : fnOk E 16 = true := by kernel_rfl
theorem ent16 : enterOk E 16 = true := by kernel_rfl
theorem fok17 : fnOk E 17 = true := by kernel_rfl
theorem ent17 : enterOk E 17 = true := by kernel_rfl
theorem fok18 : fnOk E 18 = true := by kernel_rfl
theorem ent18 : enterOk E 18 = true := by kernel_rfl
theorem fok19 : fnOk E 19 = true := by kernel_rfl
theorem ent19 : enterOk E 19 = true := by kernel_rfl
theorem ent20 : enterOk E 20 = true := by kernel_rfl
theorem ent21 : enterOk E 21 = true := by kernel_rfl
theorem ent22 : enterOk E 22 = true := by kernel_rfl
theorem ent23 : enterOk E 23 = true := by kernel_rfl
theorem fok24 : fnOk E 24 = true := by kernel_rfl
theorem ent24 : enterOk E 24 = true := by kernel_rfl
theorem fok25 : fnOk E 25 = true := by kernel_rfl
theorem ent25 : enterOk E 25 = true := by kernel_rfl
theorem fok26 : fnOk E 26 = true := by kernel_rfl
theorem ent26 : enterOk E 26 = true := by kernel_rfl
theorem fok27 : fnOk E 27 = true := by kernel_rfl
theorem ent27 : enterOk E 27 = true := by kernel_rfl
theorem fok28 : fnOk E 28 = true := by kernel_rfl
theorem ent28 : enterOk E 28 = true := by kernel_rfl
theorem ent29 : enterOk E 29 = true := by kernel_rfl
theorem fok30 : fnOk E 30 = true := by kernel_rfl
theorem ent30 : enterOk E 30 = true := by kernel_rfl
theorem fok31 : fnOk E 31 = true := by kernel_rfl
theorem ent31 : enterOk E 31 = true := by kernel_rfl
theorem ent32 : enterOk E 32 = true := by kernel_rfl
theorem fok33 : fnOk E 33 = true := by kernel_rfl
theorem ent33 : enterOk E 33 = true := by kernel_rfl
theorem fok34 : fnOk E 34 = true := by kernel_rfl
theorem ent34 : enterOk E 34 = true := by kernel_rfl
theorem fok35 : fnOk E 35 = true := by kernel_rfl
theorem ent35 : enterOk E 35 = true := by kernel_rfl
theorem fok36 : fnOk E 36 = true := by kernel_rfl
theorem ent36 : enterOk E 36 = true := by kernel_rfl
theorem fok39 : fnOk E 39 = true := by kernel_rfl
theorem ent39 : enterOk E 39 = true := by kernel_rfl
theorem fok40 : fnOk E 40 = true := by kernel_rfl
theorem ent40 : enterOk E 40 = true := by kernel_rfl
theorem fok41 : fnOk E 41 = true := by kernel_rfl
theorem ent41 : enterOk E 41 = true := by kernel_rfl
theorem fok42 : fnOk E 42 = true := by kernel_rfl
theorem ent42 : enterOk E 42 = true := by kernel_rfl
theorem fok43 : fnOk E 43 = true := by kernel_rfl
theorem ent43 : enterOk E 43 = true := by kernel_rfl
theorem fok44 : fnOk E 44 = true := by kernel_rfl
theorem ent44 : enterOk E 44 = true := by kernel_rfl
theorem fok45 : fnOk E 45 = true := by kernel_rfl
theorem ent45 : enterOk E 45 = true := by kernel_rfl
theorem fok46 : fnOk E 46 = true := by kernel_rfl
theorem ent46 : enterOk E 46 = true := by kernel_rfl
theorem fok47 : fnOk E 47 = true := by kernel_rfl
theorem ent47 : enterOk E 47 = true := by kernel_rfl
theorem fok48 : fnOk E 48 = true := by kernel_rfl
theorem ent48 : enterOk E 48 = true := by kernel_rfl
theorem fok49 : fnOk E 49 = true := by kernel_rfl
theorem ent49 : enterOk E 49 = true := by kernel_rfl
theorem fok50 : fnOk E 50 = true := by kernel_rfl
theorem ent50 : enterOk E 50 = true := by kernel_rfl
theorem fok51 : fnOk E 51 = true := by kernel_rfl
theorem ent51 : enterOk E 51 = true := by kernel_rfl
theorem fok52 : fnOk E 52 = true := by kernel_rfl
theorem ent52 : enterOk E 52 = true := by kernel_rfl
theorem fok53 : fnOk E 53 = true := by kernel_rfl
theorem ent53 : enterOk E 53 = true := by kernel_rfl
theorem ent56 : enterOk E 56 = true := by kernel_rfl
theorem ent57 : enterOk E 57 = true := by kernel_rfl
theorem fok58 : fnOk E 58 = true := by kernel_rfl
theorem ent58 : enterOk E 58 = true := by kernel_rfl
theorem fok59 : fnOk E 59 = true := by kernel_rfl
theorem ent59 : enterOk E 59 = true := by kernel_rfl
theorem fok60 : fnOk E 60 = true := by kernel_rfl
theorem ent60 : enterOk E 60 = true := by kernel_rfl
theorem fok61 : fnOk E 61 = true := by kernel_rfl
theorem ent61 : enterOk E 61 = true := by kernel_rfl
theorem fok62 : fnOk E 62 = true := by kernel_rfl
theorem ent62 : enterOk E 62 = true := by kernel_rfl
theorem ent63 : enterOk E 63 = true := by kernel_rfl
theorem fok71 : fnOk E 71 = true := by kernel_rfl
theorem ent71 : enterOk E 71 = true := by kernel_rfl
theorem fok72 : fnOk E 72 = true := by kernel_rfl
theorem ent72 : enterOk E 72 = true := by kernel_rfl
theorem fok73 : fnOk E 73 = true := by kernel_rfl
theorem ent73 : enterOk E 73 = true := by kernel_rfl
theorem fok74 : fnOk E 74 = true := by kernel_rfl
theorem ent74 : enterOk E 74 = true := by kernel_rfl
theorem ent81 : enterOk E 81 = true := by kernel_rfl
theorem ent83 : enterOk E 83 = true := by kernel_rfl
theorem ent84 : enterOk E 84 = true := by kernel_rfl
theorem fok85 : fnOk E 85 = true := by kernel_rfl
theorem ent85 : enterOk E 85 = true := by kernel_rfl
theorem fok86 : fnOk E 86 = true := by kernel_rfl
theorem ent86 : enterOk E 86 = true := by kernel_rfl
theorem res3 : Tryd.f3.results = #[.tmp 10] := rfl
theorem res4 : Tryd.f4.results = #[.tmp 4] := rfl
theorem res5 : Tryd.f5.results = #[.tmp 0] := rfl
theorem res6 : Tryd.f6.results = #[.tmp 2, .tmp 3] := rfl
theorem res7 : Tryd.f7.results = #[.cell 10 32] := rfl
theorem res8 : Tryd.f8.results = #[.tmp 2, .tmp 3] := rfl
theorem res9 : Tryd.f9.results = #[.tmp 2, .tmp 3, .tmp 4] := rfl
theorem res10 : Tryd.f10.results = #[.tmp 2, .tmp 3] := rfl
theorem res11 : Tryd.f11.results = #[.tmp 2, .tmp 3] := rfl
theorem res12 : Tryd.f12.results = #[.tmp 2] := rfl
theorem res13 : Tryd.f13.results = #[.tmp 2] := rfl
theorem res14 : Tryd.f14.results = #[.cell 2 45, .cell 3 28] := rfl
theorem res15 : Tryd.f15.results = #[.cell 6 51] := rfl
theorem res16 : Tryd.f16.results = #[.tmp 4] := rfl
theorem res17 : Tryd.f17.results = #[.tmp 2] := rfl
theorem res18 : Tryd.f18.results = #[.tmp 2] := rfl
theorem res19 : Tryd.f19.results = #[] := rfl
theorem res24 : Tryd.f24.results = #[.tmp 4] := rfl
theorem res25 : Tryd.f25.results = #[.tmp 6] := rfl
theorem res26 : Tryd.f26.results = #[.tmp 2] := rfl
theorem res27 : Tryd.f27.results = #[.tmp 4] := rfl
theorem res28 : Tryd.f28.results = #[.tmp 2] := rfl
theorem res30 : Tryd.f30.results = #[.tmp 6, .tmp 7] := rfl
theorem res31 : Tryd.f31.results = #[.tmp 4] := rfl
theorem res33 : Tryd.f33.results = #[] := rfl
theorem res34 : Tryd.f34.results = #[.tmp 4] := rfl
theorem res35 : Tryd.f35.results = #[.cell 4 89, .tmp 5] := rfl
theorem res36 : Tryd.f36.results = #[.tmp 2] := rfl
theorem res39 : Tryd.f39.results = #[.tmp 8] := rfl
theorem res40 : Tryd.f40.results = #[.tmp 4, .tmp 5] := rfl
theorem res41 : Tryd.f41.results = #[.tmp 2] := rfl
theorem res42 : Tryd.f42.results = #[.tmp 4] := rfl
theorem res43 : Tryd.f43.results = #[.tmp 2, .tmp 3] := rfl
theorem res44 : Tryd.f44.results = #[.tmp 4] := rfl
theorem res45 : Tryd.f45.results = #[.tmp 2] := rfl
theorem res46 : Tryd.f46.results = #[.tmp 4] := rfl
theorem res47 : Tryd.f47.results = #[.tmp 4] := rfl
theorem res48 : Tryd.f48.results = #[.tmp 4] := rfl
theorem res49 : Tryd.f49.results = #[.tmp 4] := rfl
theorem res50 : Tryd.f50.results = #[.tmp 4] := rfl
theorem res51 : Tryd.f51.results = #[.tmp 2] := rfl
theorem res52 : Tryd.f52.results = #[.tmp 4, .tmp 5] := rfl
theorem res53 : Tryd.f53.results = #[.tmp 2] := rfl
theorem res58 : Tryd.f58.results = #[.tmp 4] := rfl
theorem res59 : Tryd.f59.results = #[.tmp 4, .tmp 5] := rfl
theorem res60 : Tryd.f60.results = #[.tmp 4] := rfl
theorem res61 : Tryd.f61.results = #[.tmp 2] := rfl
theorem res62 : Tryd.f62.results = #[.tmp 4, .tmp 5] := rfl
theorem res71 : Tryd.f71.results = #[.tmp 4] := rfl
theorem res72 : Tryd.f72.results = #[.tmp 4] := rfl
theorem res73 : Tryd.f73.results = #[.tmp 4] := rfl
theorem res74 : Tryd.f74.results = #[.tmp 4, .tmp 5] := rfl
theorem res85 : Tryd.f85.results = #[.tmp 6] := rfl
theorem res86 : Tryd.f86.results = #[.tmp 4] := rfl
theorem kp3_0 : E.keep 3 0 = [0, 1, 2, 3, 9] := by kernel_rfl
theorem kp3_1 : E.keep 3 1 = [0, 1, 2, 3, 9, 33] := by kernel_rfl
theorem kp3_2 : E.keep 3 2 = [10] := by kernel_rfl
theorem kp3_3 : E.keep 3 3 = [0, 1, 2, 3, 9, 11, 12] := by kernel_rfl
theorem kp3_4 : E.keep 3 4 = [0, 1, 2, 3, 9, 11, 41] := by kernel_rfl
theorem kp3_5 : E.keep 3 5 = [10] := by kernel_rfl
theorem kp3_6 : E.keep 3 6 = [0, 1, 2, 3, 9, 11, 13, 14] := by kernel_rfl
theorem kp3_7 : E.keep 3 7 = [0, 1, 2, 3, 9, 13, 14, 71] := by kernel_rfl
theorem kp3_8 : E.keep 3 8 = [10] := by kernel_rfl
theorem kp3_9 : E.keep 3 9 = [0, 1, 2, 3, 9, 13, 14, 15, 16] := by kernel_rfl
theorem kp3_10 : E.keep 3 10 = [0, 1, 2, 3, 9, 13, 14, 16, 17, 19] := by kernel_rfl
theorem kp3_11 : E.keep 3 11 = [1, 2, 3, 9, 13, 14, 16, 17, 19, 20, 21] := by kernel_rfl
theorem kp3_12 : E.keep 3 12 = [1, 2, 3, 9, 13, 14, 16, 17, 19, 21, 22, 23] := by kernel_rfl
theorem kp3_13 : E.keep 3 13 = [1, 2, 3, 9, 13, 14, 17, 22, 106] := by kernel_rfl
theorem kp3_14 : E.keep 3 14 = [10] := by kernel_rfl
theorem kp3_15 : E.keep 3 15 = [10] := by kernel_rfl
theorem kp4_0 : E.keep 4 0 = [0, 1] := by kernel_rfl
theorem kp4_1 : E.keep 4 1 = [4] := by kernel_rfl
theorem kp5_0 : E.keep 5 0 = [] := by kernel_rfl
theorem kp5_1 : E.keep 5 1 = [0] := by kernel_rfl
theorem kp6_0 : E.keep 6 0 = [0, 2, 3] := by kernel_rfl
theorem kp6_1 : E.keep 6 1 = [0, 2, 3, 4, 5] := by kernel_rfl
theorem kp6_2 : E.keep 6 2 = [0, 2, 3, 4, 5, 19] := by kernel_rfl
theorem kp6_3 : E.keep 6 3 = [2, 3] := by kernel_rfl
theorem kp6_4 : E.keep 6 4 = [0, 2, 3, 4, 6] := by kernel_rfl
theorem kp6_5 : E.keep 6 5 = [2, 3, 4, 6, 25, 26, 27] := by kernel_rfl
theorem kp6_6 : E.keep 6 6 = [2, 3, 4, 6, 25, 26, 27, 28] := by kernel_rfl
theorem kp6_7 : E.keep 6 7 = [2, 3, 4, 6, 7, 8, 25, 26, 27] := by kernel_rfl
theorem kp6_8 : E.keep 6 8 = [2, 3, 4, 6, 7, 8, 25, 26, 27, 36] := by kernel_rfl
theorem kp6_9 : E.keep 6 9 = [2, 3, 4, 6, 7, 8, 9, 25, 26, 27] := by kernel_rfl
theorem kp6_10 : E.keep 6 10 = [2, 3, 4, 6, 7, 8, 9, 25, 26, 27, 62] := by kernel_rfl
theorem kp6_11 : E.keep 6 11 = [2, 3] := by kernel_rfl
theorem kp6_12 : E.keep 6 12 = [2, 3, 4, 6, 7, 8, 9, 25, 26, 27] := by kernel_rfl
theorem kp6_13 : E.keep 6 13 = [2, 3, 4, 6, 9, 25, 26, 27, 73] := by kernel_rfl
theorem kp6_14 : E.keep 6 14 = [6, 9, 10] := by kernel_rfl
theorem kp6_15 : E.keep 6 15 = [6, 9, 10] := by kernel_rfl
theorem kp6_16 : E.keep 6 16 = [6, 10, 89, 90] := by kernel_rfl
theorem kp6_17 : E.keep 6 17 = [6, 10, 89, 90, 91] := by kernel_rfl
theorem kp6_18 : E.keep 6 18 = [6, 10, 11, 12, 89, 90] := by kernel_rfl
theorem kp6_19 : E.keep 6 19 = [6, 10, 89, 90] := by kernel_rfl
theorem kp6_20 : E.keep 6 20 = [6, 10, 89, 90] := by kernel_rfl
theorem kp6_21 : E.keep 6 21 = [2, 3, 4, 6, 25, 26, 27] := by kernel_rfl
theorem kp6_22 : E.keep 6 22 = [2, 3] := by kernel_rfl
theorem kp7_0 : E.keep 7 0 = [0, 1, 2, 4, 8, 10] := by kernel_rfl
theorem kp7_1 : E.keep 7 1 = [0, 1, 2, 4, 8, 10, 11] := by kernel_rfl
theorem kp7_2 : E.keep 7 2 = [0, 1, 2, 4, 8, 10, 11, 19] := by kernel_rfl
theorem kp7_3 : E.keep 7 3 = [10] := by kernel_rfl
theorem kp7_4 : E.keep 7 4 = [0, 1, 2, 4, 8, 10] := by kernel_rfl
theorem kp7_5 : E.keep 7 5 = [0, 4, 8, 10, 12] := by kernel_rfl
theorem kp7_6 : E.keep 7 6 = [0, 4, 8, 10, 12, 13] := by kernel_rfl
theorem kp7_7 : E.keep 7 7 = [0, 4, 8, 10, 12, 13, 14] := by kernel_rfl
theorem kp7_8 : E.keep 7 8 = [0, 4, 8, 10, 12, 13, 14, 34] := by kernel_rfl
theorem kp7_9 : E.keep 7 9 = [0, 4, 8, 10, 12, 13, 14, 37] := by kernel_rfl
theorem kp7_10 : E.keep 7 10 = [10] := by kernel_rfl
theorem kp7_11 : E.keep 7 11 = [0, 4, 8, 10, 12, 13, 14] := by kernel_rfl
theorem kp7_12 : E.keep 7 12 = [0, 4, 8, 10, 12, 13, 14, 15] := by kernel_rfl
theorem kp7_13 : E.keep 7 13 = [0, 4, 8, 10, 12, 13, 14, 15] := by kernel_rfl
theorem kp7_14 : E.keep 7 14 = [0, 4, 8, 10, 12, 13, 14, 15, 50] := by kernel_rfl
theorem kp7_15 : E.keep 7 15 = [0, 4, 8, 10, 12, 13, 14] := by kernel_rfl
theorem kp7_16 : E.keep 7 16 = [0, 4, 8, 10, 12, 13, 14, 15, 50, 54] := by kernel_rfl
theorem kp7_17 : E.keep 7 17 = [0, 4, 8, 10, 12, 13, 14] := by kernel_rfl
theorem kp7_18 : E.keep 7 18 = [0, 4, 8, 10, 12, 13, 14, 15, 50, 58] := by kernel_rfl
theorem kp7_19 : E.keep 7 19 = [0, 4, 8, 10, 12, 13, 14] := by kernel_rfl
theorem kp7_20 : E.keep 7 20 = [0, 4, 8, 10, 12, 13, 14, 15, 62] := by kernel_rfl
theorem kp7_21 : E.keep 7 21 = [0, 4, 8, 10, 12, 13, 14, 15, 66] := by kernel_rfl
theorem kp7_22 : E.keep 7 22 = [0, 4, 8, 10, 12, 13, 14] := by kernel_rfl
theorem kp7_23 : E.keep 7 23 = [0, 4, 8, 10, 12, 13, 14, 72] := by kernel_rfl
theorem kp7_24 : E.keep 7 24 = [10] := by kernel_rfl
theorem kp7_25 : E.keep 7 25 = [10] := by kernel_rfl
theorem kp8_0 : E.keep 8 0 = [0] := by kernel_rfl
theorem kp8_1 : E.keep 8 1 = [0, 4] := by kernel_rfl
theorem kp8_2 : E.keep 8 2 = [0, 4, 13] := by kernel_rfl
theorem kp8_3 : E.keep 8 3 = [2, 3] := by kernel_rfl
theorem kp8_4 : E.keep 8 4 = [0, 5] := by kernel_rfl
theorem kp8_5 : E.keep 8 5 = [0, 5, 16, 17, 18] := by kernel_rfl
theorem kp8_6 : E.keep 8 6 = [0, 5, 16, 17, 18, 19] := by kernel_rfl
theorem kp8_7 : E.keep 8 7 = [0, 5, 7, 16, 17, 18] := by kernel_rfl
theorem kp8_8 : E.keep 8 8 = [0, 5, 7, 16, 17, 18, 29] := by kernel_rfl
theorem kp8_9 : E.keep 8 9 = [0, 5, 16, 17, 18] := by kernel_rfl
theorem kp8_10 : E.keep 8 10 = [0, 5, 16, 17, 18] := by kernel_rfl
theorem kp8_11 : E.keep 8 11 = [0, 5, 8] := by kernel_rfl
theorem kp8_12 : E.keep 8 12 = [0, 5, 8, 36, 37] := by kernel_rfl
theorem kp8_13 : E.keep 8 13 = [0, 5, 8, 36, 37, 38] := by kernel_rfl
theorem kp8_14 : E.keep 8 14 = [0, 5, 8, 9, 36, 37] := by kernel_rfl
theorem kp8_15 : E.keep 8 15 = [0, 5, 8, 9, 36, 37, 42] := by kernel_rfl
theorem kp8_16 : E.keep 8 16 = [0, 5, 8, 9, 36, 37] := by kernel_rfl
theorem kp8_17 : E.keep 8 17 = [0, 5, 8, 9, 36, 37, 51] := by kernel_rfl
theorem kp8_18 : E.keep 8 18 = [0, 5, 8, 9, 36, 37] := by kernel_rfl
theorem kp8_19 : E.keep 8 19 = [0, 5, 8, 9, 36, 37, 65] := by kernel_rfl
theorem kp8_20 : E.keep 8 20 = [0, 5, 8, 9, 36, 37, 65, 66] := by kernel_rfl
theorem kp8_21 : E.keep 8 21 = [0, 5, 8, 36, 37] := by kernel_rfl
theorem kp8_22 : E.keep 8 22 = [0, 5, 8, 9, 36, 37, 65, 76] := by kernel_rfl
theorem kp8_23 : E.keep 8 23 = [0, 5, 8, 9, 36, 37, 76] := by kernel_rfl
theorem kp8_24 : E.keep 8 24 = [0, 5, 8, 36, 37] := by kernel_rfl
theorem kp8_25 : E.keep 8 25 = [0, 5, 8, 36, 37] := by kernel_rfl
theorem kp8_26 : E.keep 8 26 = [0, 5, 8, 36, 37] := by kernel_rfl
theorem kp8_27 : E.keep 8 27 = [2, 3] := by kernel_rfl
theorem kp9_0 : E.keep 9 0 = [0] := by kernel_rfl
theorem kp9_1 : E.keep 9 1 = [0, 5] := by kernel_rfl
theorem kp9_2 : E.keep 9 2 = [5, 18, 19, 20] := by kernel_rfl
theorem kp9_3 : E.keep 9 3 = [5, 18, 19, 20, 21] := by kernel_rfl
theorem kp9_4 : E.keep 9 4 = [5, 6, 7, 18, 19, 20] := by kernel_rfl
theorem kp9_5 : E.keep 9 5 = [5, 6, 8, 18, 19, 20] := by kernel_rfl
theorem kp9_6 : E.keep 9 6 = [5, 6, 8, 18, 19, 20, 32] := by kernel_rfl
theorem kp9_7 : E.keep 9 7 = [2, 3, 4] := by kernel_rfl
theorem kp9_8 : E.keep 9 8 = [5, 18, 19, 20] := by kernel_rfl
theorem kp9_9 : E.keep 9 9 = [5, 41, 42] := by kernel_rfl
theorem kp9_10 : E.keep 9 10 = [5, 41, 42, 43] := by kernel_rfl
theorem kp9_11 : E.keep 9 11 = [5, 9, 41, 42] := by kernel_rfl
theorem kp9_12 : E.keep 9 12 = [5, 9, 10, 11, 41, 42] := by kernel_rfl
theorem kp9_13 : E.keep 9 13 = [5, 9, 10, 41, 42, 55] := by kernel_rfl
theorem kp9_14 : E.keep 9 14 = [5, 9, 11, 12, 41, 42] := by kernel_rfl
theorem kp9_15 : E.keep 9 15 = [5, 9, 12, 41, 42, 66] := by kernel_rfl
theorem kp9_16 : E.keep 9 16 = [2, 3, 4] := by kernel_rfl
theorem kp9_17 : E.keep 9 17 = [5, 9, 12, 41, 42, 76] := by kernel_rfl
theorem kp9_18 : E.keep 9 18 = [2, 3, 4] := by kernel_rfl
theorem kp9_19 : E.keep 9 19 = [5, 41, 42] := by kernel_rfl
theorem kp9_20 : E.keep 9 20 = [5, 41, 42] := by kernel_rfl
theorem kp9_21 : E.keep 9 21 = [2, 3, 4] := by kernel_rfl
theorem kp10_0 : E.keep 10 0 = [0] := by kernel_rfl
theorem kp10_1 : E.keep 10 1 = [0, 4] := by kernel_rfl
theorem kp10_2 : E.keep 10 2 = [0, 4, 13] := by kernel_rfl
theorem kp10_3 : E.keep 10 3 = [2, 3] := by kernel_rfl
theorem kp10_4 : E.keep 10 4 = [0, 5] := by kernel_rfl
theorem kp10_5 : E.keep 10 5 = [5, 15, 16, 17] := by kernel_rfl
theorem kp10_6 : E.keep 10 6 = [5, 15, 16, 17, 18] := by kernel_rfl
theorem kp10_7 : E.keep 10 7 = [5, 6, 7, 15, 16, 17] := by kernel_rfl
theorem kp10_8 : E.keep 10 8 = [5, 6, 7, 15, 16, 17] := by kernel_rfl
theorem kp10_9 : E.keep 10 9 = [5, 7, 8, 15, 16, 17] := by kernel_rfl
theorem kp10_10 : E.keep 10 10 = [5, 8, 9, 15, 16, 17] := by kernel_rfl
theorem kp10_11 : E.keep 10 11 = [5, 8, 9, 15, 16, 17, 40] := by kernel_rfl
theorem kp10_12 : E.keep 10 12 = [5, 8, 9, 15, 16, 17] := by kernel_rfl
theorem kp10_13 : E.keep 10 13 = [5, 8, 9, 15, 16, 17] := by kernel_rfl
theorem kp10_14 : E.keep 10 14 = [5, 15, 16, 17] := by kernel_rfl
theorem kp10_15 : E.keep 10 15 = [2, 3] := by kernel_rfl
theorem kp11_0 : E.keep 11 0 = [0] := by kernel_rfl
theorem kp11_1 : E.keep 11 1 = [0, 4] := by kernel_rfl
theorem kp11_2 : E.keep 11 2 = [0, 4, 11] := by kernel_rfl
theorem kp11_3 : E.keep 11 3 = [0, 4, 5] := by kernel_rfl
theorem kp11_4 : E.keep 11 4 = [0, 4, 5, 15] := by kernel_rfl
theorem kp11_5 : E.keep 11 5 = [2, 3] := by kernel_rfl
theorem kp11_6 : E.keep 11 6 = [0, 4, 5, 19] := by kernel_rfl
theorem kp11_7 : E.keep 11 7 = [2, 3] := by kernel_rfl
theorem kp11_8 : E.keep 11 8 = [0, 4, 5, 24] := by kernel_rfl
theorem kp11_9 : E.keep 11 9 = [2, 3] := by kernel_rfl
theorem kp11_10 : E.keep 11 10 = [0, 4, 5, 6] := by kernel_rfl
theorem kp11_11 : E.keep 11 11 = [0, 4, 5, 6, 35, 36, 37] := by kernel_rfl
theorem kp11_12 : E.keep 11 12 = [0, 4, 5, 6, 35, 36, 37, 38] := by kernel_rfl
theorem kp11_13 : E.keep 11 13 = [0, 4, 5, 6, 8, 35, 36, 37] := by kernel_rfl
theorem kp11_14 : E.keep 11 14 = [0, 4, 5, 6, 35, 36, 37] := by kernel_rfl
theorem kp11_15 : E.keep 11 15 = [0, 4, 5, 6, 35, 36, 37] := by kernel_rfl
theorem kp11_16 : E.keep 11 16 = [0, 4, 5] := by kernel_rfl
theorem kp11_17 : E.keep 11 17 = [0, 4] := by kernel_rfl
theorem kp11_18 : E.keep 11 18 = [4, 9] := by kernel_rfl
theorem kp11_19 : E.keep 11 19 = [4, 9, 66] := by kernel_rfl
theorem kp11_20 : E.keep 11 20 = [2, 3] := by kernel_rfl
theorem kp11_21 : E.keep 11 21 = [2, 3] := by kernel_rfl
theorem kp12_0 : E.keep 12 0 = [0] := by kernel_rfl
theorem kp12_1 : E.keep 12 1 = [0, 6] := by kernel_rfl
theorem kp12_2 : E.keep 12 2 = [2] := by kernel_rfl
theorem kp12_3 : E.keep 12 3 = [0, 3] := by kernel_rfl
theorem kp12_4 : E.keep 12 4 = [0, 3, 10] := by kernel_rfl
theorem kp12_5 : E.keep 12 5 = [0, 3] := by kernel_rfl
theorem kp12_6 : E.keep 12 6 = [0, 3, 19] := by kernel_rfl
theorem kp12_7 : E.keep 12 7 = [2] := by kernel_rfl
theorem kp12_8 : E.keep 12 8 = [2] := by kernel_rfl
theorem kp13_0 : E.keep 13 0 = [0] := by kernel_rfl
theorem kp13_1 : E.keep 13 1 = [4] := by kernel_rfl
theorem kp13_2 : E.keep 13 2 = [2] := by kernel_rfl
theorem kp14_0 : E.keep 14 0 = [1, 2, 3] := by kernel_rfl
theorem kp14_1 : E.keep 14 1 = [1, 2, 3, 4] := by kernel_rfl
theorem kp14_2 : E.keep 14 2 = [1, 2, 3, 4, 14] := by kernel_rfl
theorem kp14_3 : E.keep 14 3 = [2, 3] := by kernel_rfl
theorem kp14_4 : E.keep 14 4 = [1, 2, 3, 5] := by kernel_rfl
theorem kp14_5 : E.keep 14 5 = [1, 2, 3, 5, 21, 22] := by kernel_rfl
theorem kp14_6 : E.keep 14 6 = [1, 2, 3, 5, 21, 22, 23] := by kernel_rfl
theorem kp14_7 : E.keep 14 7 = [1, 2, 3, 5, 6, 21, 22] := by kernel_rfl
theorem kp14_8 : E.keep 14 8 = [1, 2, 3, 5, 21, 22] := by kernel_rfl
theorem kp14_9 : E.keep 14 9 = [1, 2, 3, 5, 21, 22] := by kernel_rfl
theorem kp14_10 : E.keep 14 10 = [1, 2, 3, 5] := by kernel_rfl
theorem kp14_11 : E.keep 14 11 = [1, 2, 3, 5, 31, 32, 33] := by kernel_rfl
theorem kp14_12 : E.keep 14 12 = [1, 2, 3, 5, 31, 32, 33, 34] := by kernel_rfl
theorem kp14_13 : E.keep 14 13 = [1, 2, 3, 5, 7, 8, 31, 32, 33] := by kernel_rfl
theorem kp14_14 : E.keep 14 14 = [1, 2, 3, 5, 7, 8, 31, 32, 33, 42] := by kernel_rfl
theorem kp14_15 : E.keep 14 15 = [1, 2, 3, 5, 7, 8, 9, 31, 32, 33] := by kernel_rfl
theorem kp14_16 : E.keep 14 16 = [1, 2, 3, 5, 7, 8, 9, 31, 32, 33, 69] := by kernel_rfl
theorem kp14_17 : E.keep 14 17 = [2, 3] := by kernel_rfl
theorem kp14_18 : E.keep 14 18 = [1, 2, 3, 5, 9, 31, 32, 33, 72] := by kernel_rfl
theorem kp14_19 : E.keep 14 19 = [1, 2, 3, 5, 9, 10] := by kernel_rfl
theorem kp14_20 : E.keep 14 20 = [2, 3, 5, 9, 10, 92] := by kernel_rfl
theorem kp14_21 : E.keep 14 21 = [] := by kernel_rfl
theorem kp14_22 : E.keep 14 22 = [] := by kernel_rfl
theorem kp14_23 : E.keep 14 23 = [1, 2, 3, 5, 31, 32, 33] := by kernel_rfl
theorem kp14_24 : E.keep 14 24 = [2, 3] := by kernel_rfl
theorem kp15_0 : E.keep 15 0 = [1, 2, 3, 6] := by kernel_rfl
theorem kp15_1 : E.keep 15 1 = [1, 2, 3, 6, 7] := by kernel_rfl
theorem kp15_2 : E.keep 15 2 = [1, 2, 3, 6, 7, 11] := by kernel_rfl
theorem kp15_3 : E.keep 15 3 = [1, 2, 3, 6] := by kernel_rfl
theorem kp15_4 : E.keep 15 4 = [1, 2, 3, 6, 7, 25] := by kernel_rfl
theorem kp15_5 : E.keep 15 5 = [1, 2, 3, 6] := by kernel_rfl
theorem kp15_6 : E.keep 15 6 = [1, 2, 3, 6, 7, 47] := by kernel_rfl
theorem kp15_7 : E.keep 15 7 = [1, 2, 3, 6] := by kernel_rfl
theorem kp15_8 : E.keep 15 8 = [1, 2, 3, 6, 7, 57] := by kernel_rfl
theorem kp15_9 : E.keep 15 9 = [1, 2, 3, 6] := by kernel_rfl
theorem kp15_10 : E.keep 15 10 = [1, 2, 3, 6, 7, 76] := by kernel_rfl
theorem kp15_11 : E.keep 15 11 = [1, 2, 3, 6] := by kernel_rfl
theorem kp15_12 : E.keep 15 12 = [1, 2, 3, 6, 88] := by kernel_rfl
theorem kp15_13 : E.keep 15 13 = [1, 2, 3, 6] := by kernel_rfl
theorem kp15_14 : E.keep 15 14 = [3, 6, 8] := by kernel_rfl
theorem kp15_15 : E.keep 15 15 = [3, 6, 8, 110] := by kernel_rfl
theorem kp15_16 : E.keep 15 16 = [3, 6, 8] := by kernel_rfl
theorem kp15_17 : E.keep 15 17 = [3, 6, 8] := by kernel_rfl
theorem kp15_18 : E.keep 15 18 = [6] := by kernel_rfl
theorem kp16_0 : E.keep 16 0 = [2, 3] := by kernel_rfl
theorem kp16_1 : E.keep 16 1 = [4] := by kernel_rfl
theorem kp17_0 : E.keep 17 0 = [0] := by kernel_rfl
theorem kp17_1 : E.keep 17 1 = [0, 9] := by kernel_rfl
theorem kp17_2 : E.keep 17 2 = [2] := by kernel_rfl
theorem kp17_3 : E.keep 17 3 = [0, 10, 11, 12] := by kernel_rfl
theorem kp17_4 : E.keep 17 4 = [0, 10, 11, 12, 13] := by kernel_rfl
theorem kp17_5 : E.keep 17 5 = [0, 3, 4, 10, 11, 12] := by kernel_rfl
theorem kp17_6 : E.keep 17 6 = [0, 3, 4, 10, 11, 12, 26] := by kernel_rfl
theorem kp17_7 : E.keep 17 7 = [2] := by kernel_rfl
theorem kp17_8 : E.keep 17 8 = [0, 4, 5, 6, 10, 11, 12] := by kernel_rfl
theorem kp17_9 : E.keep 17 9 = [0, 10, 11, 12, 45] := by kernel_rfl
theorem kp17_10 : E.keep 17 10 = [2] := by kernel_rfl
theorem kp17_11 : E.keep 17 11 = [0, 10, 11, 12] := by kernel_rfl
theorem kp17_12 : E.keep 17 12 = [2] := by kernel_rfl
theorem kp18_0 : E.keep 18 0 = [0] := by kernel_rfl
theorem kp18_1 : E.keep 18 1 = [0, 7] := by kernel_rfl
theorem kp18_2 : E.keep 18 2 = [] := by kernel_rfl
theorem kp18_3 : E.keep 18 3 = [2] := by kernel_rfl
theorem kp18_4 : E.keep 18 4 = [0] := by kernel_rfl
theorem kp18_5 : E.keep 18 5 = [2] := by kernel_rfl
theorem kp19_0 : E.keep 19 0 = [0, 3] := by kernel_rfl
theorem kp19_1 : E.keep 19 1 = [0, 3, 14] := by kernel_rfl
theorem kp19_2 : E.keep 19 2 = [0, 3, 4, 5] := by kernel_rfl
theorem kp19_3 : E.keep 19 3 = [0, 3, 4, 22] := by kernel_rfl
theorem kp19_4 : E.keep 19 4 = [0, 4, 6] := by kernel_rfl
theorem kp19_5 : E.keep 19 5 = [0, 4, 6, 7] := by kernel_rfl
theorem kp19_6 : E.keep 19 6 = [] := by kernel_rfl
theorem kp19_7 : E.keep 19 7 = [0, 3, 8] := by kernel_rfl
theorem kp19_8 : E.keep 19 8 = [0, 8, 36] := by kernel_rfl
theorem kp19_9 : E.keep 19 9 = [0, 8, 36, 37] := by kernel_rfl
theorem kp19_10 : E.keep 19 10 = [] := by kernel_rfl
theorem kp19_11 : E.keep 19 11 = [0, 8, 36, 44] := by kernel_rfl
theorem kp19_12 : E.keep 19 12 = [0, 9] := by kernel_rfl
theorem kp19_13 : E.keep 19 13 = [] := by kernel_rfl
theorem kp19_14 : E.keep 19 14 = [0, 8, 36, 56] := by kernel_rfl
theorem kp19_15 : E.keep 19 15 = [] := by kernel_rfl
theorem kp19_16 : E.keep 19 16 = [0, 8, 36, 63] := by kernel_rfl
theorem kp19_17 : E.keep 19 17 = [0, 8] := by kernel_rfl
theorem kp19_18 : E.keep 19 18 = [] := by kernel_rfl
theorem kp19_19 : E.keep 19 19 = [0, 8, 36, 71] := by kernel_rfl
theorem kp19_20 : E.keep 19 20 = [0, 8, 11] := by kernel_rfl
theorem kp19_21 : E.keep 19 21 = [0, 11] := by kernel_rfl
theorem kp19_22 : E.keep 19 22 = [] := by kernel_rfl
theorem kp19_23 : E.keep 19 23 = [0, 8, 36, 81] := by kernel_rfl
theorem kp19_24 : E.keep 19 24 = [0, 8, 88] := by kernel_rfl
theorem kp19_25 : E.keep 19 25 = [] := by kernel_rfl
theorem kp19_26 : E.keep 19 26 = [0, 8, 94] := by kernel_rfl
theorem kp19_27 : E.keep 19 27 = [0, 8, 101] := by kernel_rfl
theorem kp19_28 : E.keep 19 28 = [] := by kernel_rfl
theorem kp24_0 : E.keep 24 0 = [0, 1] := by kernel_rfl
theorem kp24_1 : E.keep 24 1 = [4] := by kernel_rfl
theorem kp25_0 : E.keep 25 0 = [0, 1, 2] := by kernel_rfl
theorem kp25_1 : E.keep 25 1 = [0, 1, 2, 24] := by kernel_rfl
theorem kp25_2 : E.keep 25 2 = [6] := by kernel_rfl
theorem kp25_3 : E.keep 25 3 = [0, 1, 2, 7, 8] := by kernel_rfl
theorem kp25_4 : E.keep 25 4 = [0, 1, 2, 7, 37] := by kernel_rfl
theorem kp25_5 : E.keep 25 5 = [0, 7, 40] := by kernel_rfl
theorem kp25_6 : E.keep 25 6 = [6] := by kernel_rfl
theorem kp25_7 : E.keep 25 7 = [0, 7, 10] := by kernel_rfl
theorem kp25_8 : E.keep 25 8 = [0, 7, 50] := by kernel_rfl
theorem kp25_9 : E.keep 25 9 = [6] := by kernel_rfl
theorem kp25_10 : E.keep 25 10 = [] := by kernel_rfl
theorem kp25_11 : E.keep 25 11 = [6] := by kernel_rfl
theorem kp25_12 : E.keep 25 12 = [0, 1, 2, 11] := by kernel_rfl
theorem kp25_13 : E.keep 25 13 = [0, 1, 2, 11, 12] := by kernel_rfl
theorem kp25_14 : E.keep 25 14 = [0, 1, 2, 11, 12, 68] := by kernel_rfl
theorem kp25_15 : E.keep 25 15 = [0, 1, 2, 11, 12, 68, 69] := by kernel_rfl
theorem kp25_16 : E.keep 25 16 = [6] := by kernel_rfl
theorem kp25_17 : E.keep 25 17 = [0, 1, 2, 11, 12, 68, 71] := by kernel_rfl
theorem kp25_18 : E.keep 25 18 = [0, 1, 2, 11, 12, 68, 71] := by kernel_rfl
theorem kp25_19 : E.keep 25 19 = [0, 1, 2, 11, 12, 71] := by kernel_rfl
theorem kp25_20 : E.keep 25 20 = [0, 1, 2, 11, 12] := by kernel_rfl
theorem kp25_21 : E.keep 25 21 = [0, 1, 2, 11, 78] := by kernel_rfl
theorem kp25_22 : E.keep 25 22 = [6] := by kernel_rfl
theorem kp25_23 : E.keep 25 23 = [0, 1, 2, 11, 80] := by kernel_rfl
theorem kp25_24 : E.keep 25 24 = [0, 1, 2, 11, 80, 81] := by kernel_rfl
theorem kp25_25 : E.keep 25 25 = [0, 1, 11, 13, 14] := by kernel_rfl
theorem kp25_26 : E.keep 25 26 = [0, 1, 11, 13, 91] := by kernel_rfl
theorem kp25_27 : E.keep 25 27 = [6] := by kernel_rfl
theorem kp25_28 : E.keep 25 28 = [0, 1, 11, 13, 97] := by kernel_rfl
theorem kp25_29 : E.keep 25 29 = [6] := by kernel_rfl
theorem kp25_30 : E.keep 25 30 = [0, 1, 11] := by kernel_rfl
theorem kp25_31 : E.keep 25 31 = [0, 1, 2, 11, 80, 100] := by kernel_rfl
theorem kp25_32 : E.keep 25 32 = [0, 1, 2, 11, 100] := by kernel_rfl
theorem kp25_33 : E.keep 25 33 = [0, 1, 2, 11, 107] := by kernel_rfl
theorem kp25_34 : E.keep 25 34 = [6] := by kernel_rfl
theorem kp25_35 : E.keep 25 35 = [0, 1, 11] := by kernel_rfl
theorem kp25_36 : E.keep 25 36 = [0, 1, 11, 125] := by kernel_rfl
theorem kp25_37 : E.keep 25 37 = [6] := by kernel_rfl
theorem kp25_38 : E.keep 25 38 = [] := by kernel_rfl
theorem kp25_39 : E.keep 25 39 = [6] := by kernel_rfl
theorem kp26_0 : E.keep 26 0 = [0] := by kernel_rfl
theorem kp26_1 : E.keep 26 1 = [2] := by kernel_rfl
theorem kp27_0 : E.keep 27 0 = [0, 1] := by kernel_rfl
theorem kp27_1 : E.keep 27 1 = [5] := by kernel_rfl
theorem kp27_2 : E.keep 27 2 = [4] := by kernel_rfl
theorem kp28_0 : E.keep 28 0 = [0] := by kernel_rfl
theorem kp28_1 : E.keep 28 1 = [3] := by kernel_rfl
theorem kp28_2 : E.keep 28 2 = [3, 4] := by kernel_rfl
theorem kp28_3 : E.keep 28 3 = [3, 6] := by kernel_rfl
theorem kp28_4 : E.keep 28 4 = [8] := by kernel_rfl
theorem kp28_5 : E.keep 28 5 = [2] := by kernel_rfl
theorem kp28_6 : E.keep 28 6 = [2] := by kernel_rfl
theorem kp28_7 : E.keep 28 7 = [2] := by kernel_rfl
theorem kp30_0 : E.keep 30 0 = [0, 1, 2] := by kernel_rfl
theorem kp30_1 : E.keep 30 1 = [1, 2, 8] := by kernel_rfl
theorem kp30_2 : E.keep 30 2 = [1, 2, 8, 9] := by kernel_rfl
theorem kp30_3 : E.keep 30 3 = [1, 2, 8, 11] := by kernel_rfl
theorem kp30_4 : E.keep 30 4 = [1, 2, 13] := by kernel_rfl
theorem kp30_5 : E.keep 30 5 = [6, 7] := by kernel_rfl
theorem kp30_6 : E.keep 30 6 = [6, 7] := by kernel_rfl
theorem kp30_7 : E.keep 30 7 = [6, 7] := by kernel_rfl
theorem kp31_0 : E.keep 31 0 = [0, 3] := by kernel_rfl
theorem kp31_1 : E.keep 31 1 = [0, 3, 6] := by kernel_rfl
theorem kp31_2 : E.keep 31 2 = [4] := by kernel_rfl
theorem kp31_3 : E.keep 31 3 = [0, 3, 6, 7] := by kernel_rfl
theorem kp31_4 : E.keep 31 4 = [] := by kernel_rfl
theorem kp31_5 : E.keep 31 5 = [0, 6, 13] := by kernel_rfl
theorem kp31_6 : E.keep 31 6 = [] := by kernel_rfl
theorem kp31_7 : E.keep 31 7 = [0, 6, 21] := by kernel_rfl
theorem kp31_8 : E.keep 31 8 = [] := by kernel_rfl
theorem kp31_9 : E.keep 31 9 = [0, 6, 30] := by kernel_rfl
theorem kp31_10 : E.keep 31 10 = [] := by kernel_rfl
theorem kp31_11 : E.keep 31 11 = [0, 39] := by kernel_rfl
theorem kp31_12 : E.keep 31 12 = [] := by kernel_rfl
theorem kp31_13 : E.keep 31 13 = [4] := by kernel_rfl
theorem kp33_0 : E.keep 33 0 = [0, 1, 8] := by kernel_rfl
theorem kp33_1 : E.keep 33 1 = [] := by kernel_rfl
theorem kp33_2 : E.keep 33 2 = [0] := by kernel_rfl
theorem kp33_3 : E.keep 33 3 = [] := by kernel_rfl
theorem kp34_0 : E.keep 34 0 = [0, 1] := by kernel_rfl
theorem kp34_1 : E.keep 34 1 = [5, 6] := by kernel_rfl
theorem kp34_2 : E.keep 34 2 = [5, 15] := by kernel_rfl
theorem kp34_3 : E.keep 34 3 = [4] := by kernel_rfl
theorem kp34_4 : E.keep 34 4 = [5, 18] := by kernel_rfl
theorem kp34_5 : E.keep 34 5 = [4] := by kernel_rfl
theorem kp34_6 : E.keep 34 6 = [7, 8] := by kernel_rfl
theorem kp34_7 : E.keep 34 7 = [7] := by kernel_rfl
theorem kp34_8 : E.keep 34 8 = [7, 34] := by kernel_rfl
theorem kp34_9 : E.keep 34 9 = [4] := by kernel_rfl
theorem kp34_10 : E.keep 34 10 = [4] := by kernel_rfl
theorem kp35_0 : E.keep 35 0 = [0, 1, 4] := by kernel_rfl
theorem kp35_1 : E.keep 35 1 = [0, 1, 4, 16] := by kernel_rfl
theorem kp35_2 : E.keep 35 2 = [4, 5] := by kernel_rfl
theorem kp35_3 : E.keep 35 3 = [4, 5] := by kernel_rfl
theorem kp36_0 : E.keep 36 0 = [0] := by kernel_rfl
theorem kp36_1 : E.keep 36 1 = [3] := by kernel_rfl
theorem kp36_2 : E.keep 36 2 = [2] := by kernel_rfl
theorem kp36_3 : E.keep 36 3 = [2] := by kernel_rfl
theorem kp39_0 : E.keep 39 0 = [0, 1, 2, 3] := by kernel_rfl
theorem kp39_1 : E.keep 39 1 = [0, 1, 2, 3, 13] := by kernel_rfl
theorem kp39_2 : E.keep 39 2 = [8] := by kernel_rfl
theorem kp39_3 : E.keep 39 3 = [0, 1, 2, 3, 15] := by kernel_rfl
theorem kp39_4 : E.keep 39 4 = [8] := by kernel_rfl
theorem kp39_5 : E.keep 39 5 = [0, 1, 2, 3, 20] := by kernel_rfl
theorem kp39_6 : E.keep 39 6 = [0, 1, 2, 3] := by kernel_rfl
theorem kp39_7 : E.keep 39 7 = [0, 1, 2, 3] := by kernel_rfl
theorem kp39_8 : E.keep 39 8 = [0, 1, 2, 3, 9] := by kernel_rfl
theorem kp39_9 : E.keep 39 9 = [0, 1, 2, 3, 9] := by kernel_rfl
theorem kp39_10 : E.keep 39 10 = [0, 1, 2, 3, 9, 10] := by kernel_rfl
theorem kp39_11 : E.keep 39 11 = [0, 1, 2, 3, 9, 10, 36] := by kernel_rfl
theorem kp39_12 : E.keep 39 12 = [0, 1, 2, 3, 9, 10, 11] := by kernel_rfl
theorem kp39_13 : E.keep 39 13 = [0, 1, 2, 3, 9, 10, 11, 41] := by kernel_rfl
theorem kp39_14 : E.keep 39 14 = [0, 1, 2, 3, 9, 10, 11] := by kernel_rfl
theorem kp39_15 : E.keep 39 15 = [0, 1, 2, 3, 9, 10] := by kernel_rfl
theorem kp39_16 : E.keep 39 16 = [0, 1, 2, 3, 9, 10] := by kernel_rfl
theorem kp39_17 : E.keep 39 17 = [9, 10] := by kernel_rfl
theorem kp39_18 : E.keep 39 18 = [8] := by kernel_rfl
theorem kp40_0 : E.keep 40 0 = [0, 1] := by kernel_rfl
theorem kp40_1 : E.keep 40 1 = [4, 5] := by kernel_rfl
theorem kp41_0 : E.keep 41 0 = [0] := by kernel_rfl
theorem kp41_1 : E.keep 41 1 = [0, 20] := by kernel_rfl
theorem kp41_2 : E.keep 41 2 = [2] := by kernel_rfl
theorem kp41_3 : E.keep 41 3 = [2] := by kernel_rfl
theorem kp42_0 : E.keep 42 0 = [0, 1] := by kernel_rfl
theorem kp42_1 : E.keep 42 1 = [0, 1, 7, 8] := by kernel_rfl
theorem kp42_2 : E.keep 42 2 = [0, 1, 7, 8, 9] := by kernel_rfl
theorem kp42_3 : E.keep 42 3 = [0, 1, 5, 7, 8] := by kernel_rfl
theorem kp42_4 : E.keep 42 4 = [0, 1, 5, 7, 8, 16] := by kernel_rfl
theorem kp42_5 : E.keep 42 5 = [4] := by kernel_rfl
theorem kp42_6 : E.keep 42 6 = [0, 1, 7, 8] := by kernel_rfl
theorem kp42_7 : E.keep 42 7 = [4] := by kernel_rfl
theorem kp43_0 : E.keep 43 0 = [0] := by kernel_rfl
theorem kp43_1 : E.keep 43 1 = [4, 5] := by kernel_rfl
theorem kp43_2 : E.keep 43 2 = [4, 5, 32] := by kernel_rfl
theorem kp43_3 : E.keep 43 3 = [2, 3] := by kernel_rfl
theorem kp43_4 : E.keep 43 4 = [4, 5, 6] := by kernel_rfl
theorem kp43_5 : E.keep 43 5 = [5, 6, 34, 35, 36] := by kernel_rfl
theorem kp43_6 : E.keep 43 6 = [5, 6, 34, 35, 36, 37] := by kernel_rfl
theorem kp43_7 : E.keep 43 7 = [5, 6, 8, 34, 35, 36] := by kernel_rfl
theorem kp43_8 : E.keep 43 8 = [5, 6, 8, 34, 35, 36, 45] := by kernel_rfl
theorem kp43_9 : E.keep 43 9 = [2, 3] := by kernel_rfl
theorem kp43_10 : E.keep 43 10 = [5, 6, 34, 35, 36] := by kernel_rfl
theorem kp43_11 : E.keep 43 11 = [5, 6, 34, 35, 36] := by kernel_rfl
theorem kp43_12 : E.keep 43 12 = [6, 54] := by kernel_rfl
theorem kp43_13 : E.keep 43 13 = [6] := by kernel_rfl
theorem kp43_14 : E.keep 43 14 = [2, 3] := by kernel_rfl
theorem kp44_0 : E.keep 44 0 = [0, 1] := by kernel_rfl
theorem kp44_1 : E.keep 44 1 = [0, 1, 5] := by kernel_rfl
theorem kp44_2 : E.keep 44 2 = [0, 1, 5, 6] := by kernel_rfl
theorem kp44_3 : E.keep 44 3 = [0, 1, 5, 6, 14] := by kernel_rfl
theorem kp44_4 : E.keep 44 4 = [0, 1, 5, 6, 14, 15, 16] := by kernel_rfl
theorem kp44_5 : E.keep 44 5 = [0, 1, 5, 6, 7, 8, 14] := by kernel_rfl
theorem kp44_6 : E.keep 44 6 = [0, 1, 5, 6, 7, 14, 21] := by kernel_rfl
theorem kp44_7 : E.keep 44 7 = [0, 1, 5, 6, 7, 14, 23] := by kernel_rfl
theorem kp44_8 : E.keep 44 8 = [0, 1, 5, 6, 14] := by kernel_rfl
theorem kp44_9 : E.keep 44 9 = [0, 1, 5, 6, 14] := by kernel_rfl
theorem kp44_10 : E.keep 44 10 = [0, 1, 5, 6, 7, 14, 33] := by kernel_rfl
theorem kp44_11 : E.keep 44 11 = [0, 1, 5, 6, 14] := by kernel_rfl
theorem kp44_12 : E.keep 44 12 = [0, 5, 6, 36] := by kernel_rfl
theorem kp44_13 : E.keep 44 13 = [0, 5] := by kernel_rfl
theorem kp44_14 : E.keep 44 14 = [0, 5, 9] := by kernel_rfl
theorem kp44_15 : E.keep 44 15 = [0, 9, 47, 48, 49] := by kernel_rfl
theorem kp44_16 : E.keep 44 16 = [0, 9, 47, 48, 49, 50] := by kernel_rfl
theorem kp44_17 : E.keep 44 17 = [0, 9, 10, 11, 47, 48, 49] := by kernel_rfl
theorem kp44_18 : E.keep 44 18 = [0, 9, 47, 48, 49] := by kernel_rfl
theorem kp44_19 : E.keep 44 19 = [0, 9, 47, 48, 49] := by kernel_rfl
theorem kp44_20 : E.keep 44 20 = [4] := by kernel_rfl
theorem kp45_0 : E.keep 45 0 = [0] := by kernel_rfl
theorem kp45_1 : E.keep 45 1 = [2] := by kernel_rfl
theorem kp46_0 : E.keep 46 0 = [0, 1] := by kernel_rfl
theorem kp46_1 : E.keep 46 1 = [4] := by kernel_rfl
theorem kp47_0 : E.keep 47 0 = [0, 1] := by kernel_rfl
theorem kp47_1 : E.keep 47 1 = [4] := by kernel_rfl
theorem kp48_0 : E.keep 48 0 = [0, 1] := by kernel_rfl
theorem kp48_1 : E.keep 48 1 = [4] := by kernel_rfl
theorem kp49_0 : E.keep 49 0 = [0, 1] := by kernel_rfl
theorem kp49_1 : E.keep 49 1 = [4] := by kernel_rfl
theorem kp50_0 : E.keep 50 0 = [0, 1] := by kernel_rfl
theorem kp50_1 : E.keep 50 1 = [4] := by kernel_rfl
theorem kp51_0 : E.keep 51 0 = [0] := by kernel_rfl
theorem kp51_1 : E.keep 51 1 = [2] := by kernel_rfl
theorem kp52_0 : E.keep 52 0 = [0, 1] := by kernel_rfl
theorem kp52_1 : E.keep 52 1 = [6] := by kernel_rfl
theorem kp52_2 : E.keep 52 2 = [6, 7] := by kernel_rfl
theorem kp52_3 : E.keep 52 3 = [6, 7, 8] := by kernel_rfl
theorem kp52_4 : E.keep 52 4 = [6, 7, 8, 9] := by kernel_rfl
theorem kp52_5 : E.keep 52 5 = [6, 7, 8, 9, 16, 17] := by kernel_rfl
theorem kp52_6 : E.keep 52 6 = [6, 7, 8, 9, 16, 17, 18] := by kernel_rfl
theorem kp52_7 : E.keep 52 7 = [6, 7, 8, 9, 10, 16, 17] := by kernel_rfl
theorem kp52_8 : E.keep 52 8 = [6, 7, 8, 9, 10, 11, 16, 17] := by kernel_rfl
theorem kp52_9 : E.keep 52 9 = [6, 7, 8, 9, 10, 11, 16, 17, 37] := by kernel_rfl
theorem kp52_10 : E.keep 52 10 = [6, 7, 8, 9, 16, 17] := by kernel_rfl
theorem kp52_11 : E.keep 52 11 = [6, 7, 8, 9, 16, 17, 51] := by kernel_rfl
theorem kp52_12 : E.keep 52 12 = [6, 7, 8, 9, 16, 17] := by kernel_rfl
theorem kp52_13 : E.keep 52 13 = [6, 7, 8, 10, 11, 16, 17, 59] := by kernel_rfl
theorem kp52_14 : E.keep 52 14 = [6, 7, 8, 10, 11, 16, 17] := by kernel_rfl
theorem kp52_15 : E.keep 52 15 = [6, 7, 8, 9, 11, 16, 17] := by kernel_rfl
theorem kp52_16 : E.keep 52 16 = [6, 7, 8, 9, 11, 16, 17, 66] := by kernel_rfl
theorem kp52_17 : E.keep 52 17 = [6, 7, 8, 9, 16, 17] := by kernel_rfl
theorem kp52_18 : E.keep 52 18 = [6, 7, 8, 9, 16, 17, 74] := by kernel_rfl
theorem kp52_19 : E.keep 52 19 = [6, 7, 8, 9, 16, 17] := by kernel_rfl
theorem kp52_20 : E.keep 52 20 = [6, 7, 8, 9, 16, 17] := by kernel_rfl
theorem kp52_21 : E.keep 52 21 = [6, 7, 9, 84] := by kernel_rfl
theorem kp52_22 : E.keep 52 22 = [4, 5] := by kernel_rfl
theorem kp52_23 : E.keep 52 23 = [4, 5] := by kernel_rfl
theorem kp53_0 : E.keep 53 0 = [0] := by kernel_rfl
theorem kp53_1 : E.keep 53 1 = [3, 4] := by kernel_rfl
theorem kp53_2 : E.keep 53 2 = [3, 11] := by kernel_rfl
theorem kp53_3 : E.keep 53 3 = [3] := by kernel_rfl
theorem kp53_4 : E.keep 53 4 = [2] := by kernel_rfl
theorem kp58_0 : E.keep 58 0 = [0, 1] := by kernel_rfl
theorem kp58_1 : E.keep 58 1 = [4] := by kernel_rfl
theorem kp59_0 : E.keep 59 0 = [0, 1] := by kernel_rfl
theorem kp59_1 : E.keep 59 1 = [0, 1, 9] := by kernel_rfl
theorem kp59_2 : E.keep 59 2 = [4, 5] := by kernel_rfl
theorem kp59_3 : E.keep 59 3 = [4, 5] := by kernel_rfl
theorem kp60_0 : E.keep 60 0 = [0, 1] := by kernel_rfl
theorem kp60_1 : E.keep 60 1 = [4] := by kernel_rfl
theorem kp61_0 : E.keep 61 0 = [0] := by kernel_rfl
theorem kp61_1 : E.keep 61 1 = [2] := by kernel_rfl
theorem kp62_0 : E.keep 62 0 = [0, 1] := by kernel_rfl
theorem kp62_1 : E.keep 62 1 = [4, 5] := by kernel_rfl
theorem kp71_0 : E.keep 71 0 = [0, 1] := by kernel_rfl
theorem kp71_1 : E.keep 71 1 = [0, 1, 5] := by kernel_rfl
theorem kp71_2 : E.keep 71 2 = [0, 1, 5, 16] := by kernel_rfl
theorem kp71_3 : E.keep 71 3 = [4] := by kernel_rfl
theorem kp71_4 : E.keep 71 4 = [0, 1, 5, 24] := by kernel_rfl
theorem kp71_5 : E.keep 71 5 = [4] := by kernel_rfl
theorem kp71_6 : E.keep 71 6 = [0, 1, 5, 31] := by kernel_rfl
theorem kp71_7 : E.keep 71 7 = [4] := by kernel_rfl
theorem kp71_8 : E.keep 71 8 = [0, 1, 5, 36] := by kernel_rfl
theorem kp71_9 : E.keep 71 9 = [4] := by kernel_rfl
theorem kp71_10 : E.keep 71 10 = [0, 1, 5, 6] := by kernel_rfl
theorem kp71_11 : E.keep 71 11 = [0, 1, 5, 6, 7] := by kernel_rfl
theorem kp71_12 : E.keep 71 12 = [0, 1, 5, 6, 7, 8] := by kernel_rfl
theorem kp71_13 : E.keep 71 13 = [0, 1, 5, 6, 7, 8, 9] := by kernel_rfl
theorem kp71_14 : E.keep 71 14 = [0, 1, 5, 6, 7, 8, 9, 10] := by kernel_rfl
theorem kp71_15 : E.keep 71 15 = [0, 1, 5, 6, 7, 8, 9, 10, 59] := by kernel_rfl
theorem kp71_16 : E.keep 71 16 = [0, 1, 5, 6, 7, 8, 9, 10, 64] := by kernel_rfl
theorem kp71_17 : E.keep 71 17 = [0, 1, 5, 6, 7, 8, 9, 10, 11] := by kernel_rfl
theorem kp71_18 : E.keep 71 18 = [0, 1, 5, 6, 7, 8, 9, 10, 11, 73] := by kernel_rfl
theorem kp71_19 : E.keep 71 19 = [4] := by kernel_rfl
theorem kp71_20 : E.keep 71 20 = [0, 1, 5, 6, 7, 8, 9, 10] := by kernel_rfl
theorem kp71_21 : E.keep 71 21 = [0, 1, 5, 6, 7, 8, 9, 10, 93] := by kernel_rfl
theorem kp71_22 : E.keep 71 22 = [4] := by kernel_rfl
theorem kp71_23 : E.keep 71 23 = [0, 1, 5, 6, 7, 8, 9, 10] := by kernel_rfl
theorem kp71_24 : E.keep 71 24 = [0, 1, 5, 6, 7, 8, 9, 10] := by kernel_rfl
theorem kp71_25 : E.keep 71 25 = [0, 1, 5, 6, 7, 8, 9, 10, 107] := by kernel_rfl
theorem kp71_26 : E.keep 71 26 = [8, 12] := by kernel_rfl
theorem kp71_27 : E.keep 71 27 = [8, 12, 114] := by kernel_rfl
theorem kp71_28 : E.keep 71 28 = [4] := by kernel_rfl
theorem kp71_29 : E.keep 71 29 = [4] := by kernel_rfl
theorem kp71_30 : E.keep 71 30 = [0, 1, 5, 6, 7, 8, 9, 10, 132] := by kernel_rfl
theorem kp71_31 : E.keep 71 31 = [8, 13] := by kernel_rfl
theorem kp71_32 : E.keep 71 32 = [8, 13, 139] := by kernel_rfl
theorem kp71_33 : E.keep 71 33 = [4] := by kernel_rfl
theorem kp71_34 : E.keep 71 34 = [4] := by kernel_rfl
theorem kp71_35 : E.keep 71 35 = [4] := by kernel_rfl
theorem kp72_0 : E.keep 72 0 = [0, 1] := by kernel_rfl
theorem kp72_1 : E.keep 72 1 = [4] := by kernel_rfl
theorem kp73_0 : E.keep 73 0 = [0, 1] := by kernel_rfl
theorem kp73_1 : E.keep 73 1 = [4] := by kernel_rfl
theorem kp74_0 : E.keep 74 0 = [0, 1] := by kernel_rfl
theorem kp74_1 : E.keep 74 1 = [0, 1, 9] := by kernel_rfl
theorem kp74_2 : E.keep 74 2 = [4, 5] := by kernel_rfl
theorem kp74_3 : E.keep 74 3 = [4, 5] := by kernel_rfl
theorem kp85_0 : E.keep 85 0 = [0, 1, 2] := by kernel_rfl
theorem kp85_1 : E.keep 85 1 = [1, 2, 10] := by kernel_rfl
theorem kp85_2 : E.keep 85 2 = [1, 2, 10, 11, 12] := by kernel_rfl
theorem kp85_3 : E.keep 85 3 = [1, 2, 7, 8, 10] := by kernel_rfl
theorem kp85_4 : E.keep 85 4 = [1, 2, 7, 10, 19] := by kernel_rfl
theorem kp85_5 : E.keep 85 5 = [6] := by kernel_rfl
theorem kp85_6 : E.keep 85 6 = [6] := by kernel_rfl
theorem kp86_0 : E.keep 86 0 = [0, 1] := by kernel_rfl
theorem kp86_1 : E.keep 86 1 = [4] := by kernel_rfl
theorem hd6_6 : E.head 6 6 = [2, 3, 4, 6, 25, 26, 27] := by kernel_rfl
theorem hd6_17 : E.head 6 17 = [6, 10, 89, 90] := by kernel_rfl
theorem hd7_8 : E.head 7 8 = [0, 4, 8, 10, 12, 13, 14] := by kernel_rfl
theorem hd8_6 : E.head 8 6 = [0, 5, 16, 17, 18] := by kernel_rfl
theorem hd8_13 : E.head 8 13 = [0, 5, 8, 36, 37] := by kernel_rfl
theorem hd9_3 : E.head 9 3 = [5, 18, 19, 20] := by kernel_rfl
theorem hd9_10 : E.head 9 10 = [5, 41, 42] := by kernel_rfl
theorem hd10_6 : E.head 10 6 = [5, 15, 16, 17] := by kernel_rfl
theorem hd10_11 : E.head 10 11 = [5, 8, 9, 15, 16, 17] := by kernel_rfl
theorem hd11_2 : E.head 11 2 = [0, 4] := by kernel_rfl
theorem hd11_12 : E.head 11 12 = [0, 4, 5, 6, 35, 36, 37] := by kernel_rfl
theorem hd12_4 : E.head 12 4 = [0, 3] := by kernel_rfl
theorem hd14_6 : E.head 14 6 = [1, 2, 3, 5, 21, 22] := by kernel_rfl
theorem hd14_12 : E.head 14 12 = [1, 2, 3, 5, 31, 32, 33] := by kernel_rfl
theorem hd15_15 : E.head 15 15 = [3, 6, 8] := by kernel_rfl
theorem hd17_4 : E.head 17 4 = [0, 10, 11, 12] := by kernel_rfl
theorem hd39_11 : E.head 39 11 = [0, 1, 2, 3, 9, 10] := by kernel_rfl
theorem hd42_2 : E.head 42 2 = [0, 1, 7, 8] := by kernel_rfl
theorem hd43_6 : E.head 43 6 = [5, 6, 34, 35, 36] := by kernel_rfl
theorem hd44_4 : E.head 44 4 = [0, 1, 5, 6, 14] := by kernel_rfl
theorem hd44_16 : E.head 44 16 = [0, 9, 47, 48, 49] := by kernel_rfl
theorem hd52_6 : E.head 52 6 = [6, 7, 8, 9, 16, 17] := by kernel_rfl
theorem hd71_15 : E.head 71 15 = [0, 1, 5, 6, 7, 8, 9, 10] := by kernel_rfl
theorem hd85_2 : E.head 85 2 = [1, 2, 10] := by kernel_rfl
theorem fl3_6 : E.flo 3 6 = [(4, 8), (3, 10), (4, 10), (8, 10), (9, 10), (3, 11), (4, 11), (8, 11), (9, 11), (10, 11)] := by kernel_rfl
theorem ho3_6 : E.hol 3 6 = true := by kernel_rfl
theorem dr3_6 (B : Nat) (fr : Fr) (H : Hp) (ops : Array Oper) : execT E B 3 (.region 6 ops true) fr H = regTK E 3 6 (evD E (callT E) ops.toList H.length ops.toList fr (H ++ List.replicate (nFresh ops.toList) hole)) := execT_drawD ho3_6 ops
theorem fl3_15 : E.flo 3 15 = [(4, 5), (12, 13)] := by kernel_rfl
theorem ho3_15 : E.hol 3 15 = false := by kernel_rfl
theorem dr3_15 (B : Nat) (fr : Fr) (H : Hp) (ops : Array Oper) : execT E B 3 (.region 15 ops true) fr H = regTK E 3 15 (evT E (callT E) ops.toList ops.toList fr H) := execT_draw ho3_15 ops
theorem fl6_12 : E.flo 6 12 = [] := by kernel_rfl
theorem ho6_12 : E.hol 6 12 = false := by kernel_rfl
theorem dr6_12 (B : Nat) (fr : Fr) (H : Hp) (ops : Array Oper) : execT E B 6 (.region 12 ops true) fr H = regK E 6 12 (evOps E (callT E) ops.toList ops.toList fr H) := execT_draw0 ho6_12 fl6_12 ops
theorem fl6_15 : E.flo 6 15 = [] := by kernel_rfl
theorem ho6_15 : E.hol 6 15 = false := by kernel_rfl
theorem dr6_15 (B : Nat) (fr : Fr) (H : Hp) (ops : Array Oper) : execT E B 6 (.region 15 ops true) fr H = regK E 6 15 (evOps E (callT E) ops.toList ops.toList fr H) := execT_draw0 ho6_15 fl6_15 ops
theorem fl6_19 : E.flo 6 19 = [] := by kernel_rfl
theorem ho6_19 : E.hol 6 19 = false := by kernel_rfl
theorem dr6_19 (B : Nat) (fr : Fr) (H : Hp) (ops : Array Oper) : execT E B 6 (.region 19 ops true) fr H = regK E 6 19 (evOps E (callT E) ops.toList ops.toList fr H) := execT_draw0 ho6_19 fl6_19 ops
theorem fl8_18 : E.flo 8 18 = [(0, 3), (0, 5)] := by kernel_rfl
theorem ho8_18 : E.hol 8 18 = false := by kernel_rfl
theorem dr8_18 (B : Nat) (fr : Fr) (H : Hp) (ops : Array Oper) : execT E B 8 (.region 18 ops true) fr H = regTK E 8 18 (evT E (callT E) ops.toList ops.toList fr H) := execT_draw ho8_18 ops
theorem fl9_16 : E.flo 9 16 = [] := by kernel_rfl
theorem ho9_16 : E.hol 9 16 = false := by kernel_rfl
theorem dr9_16 (B : Nat) (fr : Fr) (H : Hp) (ops : Array Oper) : execT E B 9 (.region 16 ops true) fr H = regK E 9 16 (evOps E (callT E) ops.toList ops.toList fr H) := execT_draw0 ho9_16 fl9_16 ops
theorem fl9_18 : E.flo 9 18 = [] := by kernel_rfl
theorem ho9_18 : E.hol 9 18 = false := by kernel_rfl
theorem dr9_18 (B : Nat) (fr : Fr) (H : Hp) (ops : Array Oper) : execT E B 9 (.region 18 ops true) fr H = regK E 9 18 (evOps E (callT E) ops.toList ops.toList fr H) := execT_draw0 ho9_18 fl9_18 ops
theorem fl10_9 : E.flo 10 9 = [(1, 5)] := by kernel_rfl
theorem ho10_9 : E.hol 10 9 = false := by kernel_rfl
theorem dr10_9 (B : Nat) (fr : Fr) (H : Hp) (ops : Array Oper) : execT E B 10 (.region 9 ops true) fr H = regTK E 10 9 (evT E (callT E) ops.toList ops.toList fr H) := execT_draw ho10_9 ops
theorem fl14_15 : E.flo 14 15 = [(0, 14), (2, 14), (3, 14), (5, 14), (6, 14), (7, 14), (10, 14), (11, 14), (12, 14)] := by kernel_rfl
theorem ho14_15 : E.hol 14 15 = false := by kernel_rfl
theorem dr14_15 (B : Nat) (fr : Fr) (H : Hp) (ops : Array Oper) : execT E B 14 (.region 15 ops true) fr H = regTK E 14 15 (evT E (callT E) ops.toList ops.toList fr H) := execT_draw ho14_15 ops
theorem fl14_16 : E.flo 14 16 = [] := by kernel_rfl
theorem ho14_16 : E.hol 14 16 = false := by kernel_rfl
theorem dr14_16 (B : Nat) (fr : Fr) (H : Hp) (ops : Array Oper) : execT E B 14 (.region 16 ops true) fr H = regK E 14 16 (evOps E (callT E) ops.toList ops.toList fr H) := execT_draw0 ho14_16 fl14_16 ops
theorem fl14_20 : E.flo 14 20 = [] := by kernel_rfl
theorem ho14_20 : E.hol 14 20 = false := by kernel_rfl
theorem dr14_20 (B : Nat) (fr : Fr) (H : Hp) (ops : Array Oper) : execT E B 14 (.region 20 ops true) fr H = regK E 14 20 (evOps E (callT E) ops.toList ops.toList fr H) := execT_draw0 ho14_20 fl14_20 ops
theorem fl15_9 : E.flo 15 9 = [] := by kernel_rfl
theorem ho15_9 : E.hol 15 9 = false := by kernel_rfl
theorem dr15_9 (B : Nat) (fr : Fr) (H : Hp) (ops : Array Oper) : execT E B 15 (.region 9 ops true) fr H = regK E 15 9 (evOps E (callT E) ops.toList ops.toList fr H) := execT_draw0 ho15_9 fl15_9 ops
theorem fl15_14 : E.flo 15 14 = [] := by kernel_rfl
theorem ho15_14 : E.hol 15 14 = false := by kernel_rfl
theorem dr15_14 (B : Nat) (fr : Fr) (H : Hp) (ops : Array Oper) : execT E B 15 (.region 14 ops true) fr H = regK E 15 14 (evOps E (callT E) ops.toList ops.toList fr H) := execT_draw0 ho15_14 fl15_14 ops
theorem fl17_6 : E.flo 17 6 = [(5, 6)] := by kernel_rfl
theorem ho17_6 : E.hol 17 6 = false := by kernel_rfl
theorem dr17_6 (B : Nat) (fr : Fr) (H : Hp) (ops : Array Oper) : execT E B 17 (.region 6 ops true) fr H = regTK E 17 6 (evT E (callT E) ops.toList ops.toList fr H) := execT_draw ho17_6 ops
theorem fl18_5 : E.flo 18 5 = [] := by kernel_rfl
theorem ho18_5 : E.hol 18 5 = false := by kernel_rfl
theorem dr18_5 (B : Nat) (fr : Fr) (H : Hp) (ops : Array Oper) : execT E B 18 (.region 5 ops true) fr H = regK E 18 5 (evOps E (callT E) ops.toList ops.toList fr H) := execT_draw0 ho18_5 fl18_5 ops
theorem fl19_2 : E.flo 19 2 = [(0, 2)] := by kernel_rfl
theorem ho19_2 : E.hol 19 2 = false := by kernel_rfl
theorem dr19_2 (B : Nat) (fr : Fr) (H : Hp) (ops : Array Oper) : execT E B 19 (.region 2 ops true) fr H = regTK E 19 2 (evT E (callT E) ops.toList ops.toList fr H) := execT_draw ho19_2 ops
theorem fl25_10 : E.flo 25 10 = [] := by kernel_rfl
theorem ho25_10 : E.hol 25 10 = false := by kernel_rfl
theorem dr25_10 (B : Nat) (fr : Fr) (H : Hp) (ops : Array Oper) : execT E B 25 (.region 10 ops true) fr H = regK E 25 10 (evOps E (callT E) ops.toList ops.toList fr H) := execT_draw0 ho25_10 fl25_10 ops
theorem fl25_12 : E.flo 25 12 = [(0, 2), (0, 3), (0, 6), (2, 6), (3, 6), (4, 6)] := by kernel_rfl
theorem ho25_12 : E.hol 25 12 = true := by kernel_rfl
theorem dr25_12 (B : Nat) (fr : Fr) (H : Hp) (ops : Array Oper) : execT E B 25 (.region 12 ops true) fr H = regTK E 25 12 (evD E (callT E) ops.toList H.length ops.toList fr (H ++ List.replicate (nFresh ops.toList) hole)) := execT_drawD ho25_12 ops
theorem fl25_35 : E.flo 25 35 = [] := by kernel_rfl
theorem ho25_35 : E.hol 25 35 = false := by kernel_rfl
theorem dr25_35 (B : Nat) (fr : Fr) (H : Hp) (ops : Array Oper) : execT E B 25 (.region 35 ops true) fr H = regK E 25 35 (evOps E (callT E) ops.toList ops.toList fr H) := execT_draw0 ho25_35 fl25_35 ops
theorem fl25_38 : E.flo 25 38 = [(5, 7), (7, 12), (8, 12), (5, 14), (6, 14), (7, 14), (8, 14), (12, 14)] := by kernel_rfl
theorem ho25_38 : E.hol 25 38 = true := by kernel_rfl
theorem dr25_38 (B : Nat) (fr : Fr) (H : Hp) (ops : Array Oper) : execT E B 25 (.region 38 ops true) fr H = regTK E 25 38 (evD E (callT E) ops.toList H.length ops.toList fr (H ++ List.replicate (nFresh ops.toList) hole)) := execT_drawD ho25_38 ops
theorem fl33_2 : E.flo 33 2 = [(4, 6)] := by kernel_rfl
theorem ho33_2 : E.hol 33 2 = false := by kernel_rfl
theorem dr33_2 (B : Nat) (fr : Fr) (H : Hp) (ops : Array Oper) : execT E B 33 (.region 2 ops true) fr H = regTK E 33 2 (evT E (callT E) ops.toList ops.toList fr H) := execT_draw ho33_2 ops
theorem fl52_23 : E.flo 52 23 = [] := by kernel_rfl
theorem ho52_23 : E.hol 52 23 = false := by kernel_rfl
theorem dr52_23 (B : Nat) (fr : Fr) (H : Hp) (ops : Array Oper) : execT E B 52 (.region 23 ops true) fr H = regK E 52 23 (evOps E (callT E) ops.toList ops.toList fr H) := execT_draw0 ho52_23 fl52_23 ops
theorem mt6_6 : E.mat 6 6 = [] := by kernel_rfl
theorem mb6_6 : E.matb 6 6 = [] := by kernel_rfl
theorem zf6_6 : E.frz 6 6 = [] := by kernel_rfl
theorem mt6_17 : E.mat 6 17 = [] := by kernel_rfl
theorem mb6_17 : E.matb 6 17 = [] := by kernel_rfl
theorem zf6_17 : E.frz 6 17 = [] := by kernel_rfl
theorem mt7_8 : E.mat 7 8 = [] := by kernel_rfl
theorem mb7_8 : E.matb 7 8 = [] := by kernel_rfl
theorem zf7_8 : E.frz 7 8 = [] := by kernel_rfl
theorem mt8_6 : E.mat 8 6 = [] := by kernel_rfl
theorem mb8_6 : E.matb 8 6 = [] := by kernel_rfl
theorem zf8_6 : E.frz 8 6 = [] := by kernel_rfl
theorem mt8_13 : E.mat 8 13 = [] := by kernel_rfl
theorem mb8_13 : E.matb 8 13 = [] := by kernel_rfl
theorem zf8_13 : E.frz 8 13 = [] := by kernel_rfl
theorem mt9_3 : E.mat 9 3 = [] := by kernel_rfl
theorem mb9_3 : E.matb 9 3 = [(5, 0, 2), (5, 1, 1)] := by kernel_rfl
theorem zf9_3 : E.frz 9 3 = [] := by kernel_rfl
theorem mt9_10 : E.mat 9 10 = [] := by kernel_rfl
theorem mb9_10 : E.matb 9 10 = [] := by kernel_rfl
theorem zf9_10 : E.frz 9 10 = [] := by kernel_rfl
theorem mt10_6 : E.mat 10 6 = [(5, 1)] := by kernel_rfl
theorem mb10_6 : E.matb 10 6 = [] := by kernel_rfl
theorem zf10_6 : E.frz 10 6 = [] := by kernel_rfl
theorem mt10_11 : E.mat 10 11 = [(5, 1)] := by kernel_rfl
theorem mb10_11 : E.matb 10 11 = [] := by kernel_rfl
theorem zf10_11 : E.frz 10 11 = [] := by kernel_rfl
theorem mt11_2 : E.mat 11 2 = [(4, 2)] := by kernel_rfl
theorem mb11_2 : E.matb 11 2 = [] := by kernel_rfl
theorem zf11_2 : E.frz 11 2 = [] := by kernel_rfl
theorem mt11_12 : E.mat 11 12 = [(4, 2)] := by kernel_rfl
theorem mb11_12 : E.matb 11 12 = [] := by kernel_rfl
theorem zf11_12 : E.frz 11 12 = [] := by kernel_rfl
theorem mt12_4 : E.mat 12 4 = [] := by kernel_rfl
theorem mb12_4 : E.matb 12 4 = [] := by kernel_rfl
theorem zf12_4 : E.frz 12 4 = [] := by kernel_rfl
theorem mt14_6 : E.mat 14 6 = [] := by kernel_rfl
theorem mb14_6 : E.matb 14 6 = [] := by kernel_rfl
theorem zf14_6 : E.frz 14 6 = [] := by kernel_rfl
theorem mt14_12 : E.mat 14 12 = [] := by kernel_rfl
theorem mb14_12 : E.matb 14 12 = [] := by kernel_rfl
theorem zf14_12 : E.frz 14 12 = [] := by kernel_rfl
theorem mt15_15 : E.mat 15 15 = [] := by kernel_rfl
theorem mb15_15 : E.matb 15 15 = [] := by kernel_rfl
theorem zf15_15 : E.frz 15 15 = [] := by kernel_rfl
theorem mt17_4 : E.mat 17 4 = [] := by kernel_rfl
theorem mb17_4 : E.matb 17 4 = [] := by kernel_rfl
theorem zf17_4 : E.frz 17 4 = [] := by kernel_rfl
theorem mt39_11 : E.mat 39 11 = [] := by kernel_rfl
theorem mb39_11 : E.matb 39 11 = [] := by kernel_rfl
theorem zf39_11 : E.frz 39 11 = [] := by kernel_rfl
theorem mt42_2 : E.mat 42 2 = [] := by kernel_rfl
theorem mb42_2 : E.matb 42 2 = [] := by kernel_rfl
theorem zf42_2 : E.frz 42 2 = [] := by kernel_rfl
theorem mt43_6 : E.mat 43 6 = [] := by kernel_rfl
theorem mb43_6 : E.matb 43 6 = [] := by kernel_rfl
theorem zf43_6 : E.frz 43 6 = [] := by kernel_rfl
theorem mt44_4 : E.mat 44 4 = [(5, 2)] := by kernel_rfl
theorem mb44_4 : E.matb 44 4 = [] := by kernel_rfl
theorem zf44_4 : E.frz 44 4 = [] := by kernel_rfl
theorem mt44_16 : E.mat 44 16 = [] := by kernel_rfl
theorem mb44_16 : E.matb 44 16 = [] := by kernel_rfl
theorem zf44_16 : E.frz 44 16 = [] := by kernel_rfl
theorem mt52_6 : E.mat 52 6 = [(7, 1)] := by kernel_rfl
theorem mb52_6 : E.matb 52 6 = [] := by kernel_rfl
theorem zf52_6 : E.frz 52 6 = [] := by kernel_rfl
theorem mt85_2 : E.mat 85 2 = [] := by kernel_rfl
theorem mb85_2 : E.matb 85 2 = [] := by kernel_rfl
theorem zf85_2 : E.frz 85 2 = [] := by kernel_rfl
theorem rk3 : E.resk 3 = [] := by kernel_rfl
theorem ow3 : E.own 3 = false := by kernel_rfl
theorem ak4 : E.argk 4 = [[some 2], [some 3]] := by kernel_rfl
theorem rk4 : E.resk 4 = [] := by kernel_rfl
theorem ow4 : E.own 4 = false := by kernel_rfl
theorem pe4 (args : List AV) (H : Hp) : prepE E 4 H args = peP E 4 (prep H args) := prepE_v rfl args
theorem cr4 (args : List AV) (H : Hp) : calleeR E 4 args H = crK args (peP E 4 (prep H args)) := (cr_prep args).trans (by rw [pe4])
theorem ci4 (args : List AV) (H : Hp) : callIso E (callT E) 4 args H = prepK E (callT E) 4 (peP E 4 (prep H args)) := (iso_prep args).trans (by rw [pe4])
theorem ak5 : E.argk 5 = [] := by kernel_rfl
theorem rk5 : E.resk 5 = [] := by kernel_rfl
theorem ow5 : E.own 5 = false := by kernel_rfl
theorem pe5 (args : List AV) (H : Hp) : prepE E 5 H args = peP E 5 (prep H args) := prepE_v rfl args
theorem cr5 (args : List AV) (H : Hp) : calleeR E 5 args H = crK args (peP E 5 (prep H args)) := (cr_prep args).trans (by rw [pe5])
theorem ci5 (args : List AV) (H : Hp) : callIso E (callT E) 5 args H = prepK E (callT E) 5 (peP E 5 (prep H args)) := (iso_prep args).trans (by rw [pe5])
theorem ak6 : E.argk 6 = [[some 2]] := by kernel_rfl
theorem rk6 : E.resk 6 = [] := by kernel_rfl
theorem ow6 : E.own 6 = false := by kernel_rfl
theorem pe6 (args : List AV) (H : Hp) : prepE E 6 H args = peP E 6 (prep H args) := prepE_v rfl args
theorem cr6 (args : List AV) (H : Hp) : calleeR E 6 args H = crK args (peP E 6 (prep H args)) := (cr_prep args).trans (by rw [pe6])
theorem ci6 (args : List AV) (H : Hp) : callIso E (callT E) 6 args H = prepK E (callT E) 6 (peP E 6 (prep H args)) := (iso_prep args).trans (by rw [pe6])
theorem ak7 : E.argk 7 = [[some 2], [], [some 3]] := by kernel_rfl
theorem rk7 : E.resk 7 = [] := by kernel_rfl
theorem ow7 : E.own 7 = false := by kernel_rfl
theorem pe7 (args : List AV) (H : Hp) : prepE E 7 H args = peP E 7 (prep H args) := prepE_v rfl args
theorem cr7 (args : List AV) (H : Hp) : calleeR E 7 args H = crK args (peP E 7 (prep H args)) := (cr_prep args).trans (by rw [pe7])
theorem ci7 (args : List AV) (H : Hp) : callIso E (callT E) 7 args H = prepK E (callT E) 7 (peP E 7 (prep H args)) := (iso_prep args).trans (by rw [pe7])
theorem ak8 : E.argk 8 = [[some 2]] := by kernel_rfl
theorem rk8 : E.resk 8 = [] := by kernel_rfl
theorem ow8 : E.own 8 = false := by kernel_rfl
theorem pe8 (args : List AV) (H : Hp) : prepE E 8 H args = peP E 8 (prep H args) := prepE_v rfl args
theorem cr8 (args : List AV) (H : Hp) : calleeR E 8 args H = crK args (peP E 8 (prep H args)) := (cr_prep args).trans (by rw [pe8])
theorem ci8 (args : List AV) (H : Hp) : callIso E (callT E) 8 args H = prepK E (callT E) 8 (peP E 8 (prep H args)) := (iso_prep args).trans (by rw [pe8])
theorem ak9 : E.argk 9 = [] := by kernel_rfl
theorem rk9 : E.resk 9 = [[some 2]] := by kernel_rfl
theorem ow9 : E.own 9 = false := by kernel_rfl
theorem pe9 (args : List AV) (H : Hp) : prepE E 9 H args = peP E 9 (prep H args) := prepE_v rfl args
theorem cr9 (args : List AV) (H : Hp) : calleeR E 9 args H = crK args (peP E 9 (prep H args)) := (cr_prep args).trans (by rw [pe9])
theorem ci9 (args : List AV) (H : Hp) : callIso E (callT E) 9 args H = prepK E (callT E) 9 (peP E 9 (prep H args)) := (iso_prep args).trans (by rw [pe9])
theorem ak10 : E.argk 10 = [[some 2]] := by kernel_rfl
theorem rk10 : E.resk 10 = [] := by kernel_rfl
theorem ow10 : E.own 10 = false := by kernel_rfl
theorem pe10 (args : List AV) (H : Hp) : prepE E 10 H args = peP E 10 (prep H args) := prepE_v rfl args
theorem cr10 (args : List AV) (H : Hp) : calleeR E 10 args H = crK args (peP E 10 (prep H args)) := (cr_prep args).trans (by rw [pe10])
theorem ci10 (args : List AV) (H : Hp) : callIso E (callT E) 10 args H = prepK E (callT E) 10 (peP E 10 (prep H args)) := (iso_prep args).trans (by rw [pe10])
theorem ak11 : E.argk 11 = [] := by kernel_rfl
theorem rk11 : E.resk 11 = [[some 2]] := by kernel_rfl
theorem ow11 : E.own 11 = false := by kernel_rfl
theorem pe11 (args : List AV) (H : Hp) : prepE E 11 H args = peP E 11 (prep H args) := prepE_v rfl args
theorem cr11 (args : List AV) (H : Hp) : calleeR E 11 args H = crK args (peP E 11 (prep H args)) := (cr_prep args).trans (by rw [pe11])
theorem ci11 (args : List AV) (H : Hp) : callIso E (callT E) 11 args H = prepK E (callT E) 11 (peP E 11 (prep H args)) := (iso_prep args).trans (by rw [pe11])
theorem ak12 : E.argk 12 = [[some 3]] := by kernel_rfl
theorem rk12 : E.resk 12 = [] := by kernel_rfl
theorem ow12 : E.own 12 = false := by kernel_rfl
theorem pe12 (args : List AV) (H : Hp) : prepE E 12 H args = peP E 12 (prep H args) := prepE_v rfl args
theorem cr12 (args : List AV) (H : Hp) : calleeR E 12 args H = crK args (peP E 12 (prep H args)) := (cr_prep args).trans (by rw [pe12])
theorem ci12 (args : List AV) (H : Hp) : callIso E (callT E) 12 args H = prepK E (callT E) 12 (peP E 12 (prep H args)) := (iso_prep args).trans (by rw [pe12])
theorem ak13 : E.argk 13 = [[some 2]] := by kernel_rfl
theorem rk13 : E.resk 13 = [] := by kernel_rfl
theorem ow13 : E.own 13 = false := by kernel_rfl
theorem pe13 (args : List AV) (H : Hp) : prepE E 13 H args = peP E 13 (prep H args) := prepE_v rfl args
theorem cr13 (args : List AV) (H : Hp) : calleeR E 13 args H = crK args (peP E 13 (prep H args)) := (cr_prep args).trans (by rw [pe13])
theorem ci13 (args : List AV) (H : Hp) : callIso E (callT E) 13 args H = prepK E (callT E) 13 (peP E 13 (prep H args)) := (iso_prep args).trans (by rw [pe13])
theorem ak14 : E.argk 14 = [[some 2]] := by kernel_rfl
theorem rk14 : E.resk 14 = [[some 1]] := by kernel_rfl
theorem ow14 : E.own 14 = false := by kernel_rfl
theorem pe14 (args : List AV) (H : Hp) : prepE E 14 H args = peP E 14 (prep H args) := prepE_v rfl args
theorem cr14 (args : List AV) (H : Hp) : calleeR E 14 args H = crK args (peP E 14 (prep H args)) := (cr_prep args).trans (by rw [pe14])
theorem ci14 (args : List AV) (H : Hp) : callIso E (callT E) 14 args H = prepK E (callT E) 14 (peP E 14 (prep H args)) := (iso_prep args).trans (by rw [pe14])
theorem ak15 : E.argk 15 = [] := by kernel_rfl
theorem rk15 : E.resk 15 = [] := by kernel_rfl
theorem ow15 : E.own 15 = false := by kernel_rfl
theorem pe15 (args : List AV) (H : Hp) : prepE E 15 H args = peP E 15 (prep H args) := prepE_v rfl args
theorem cr15 (args : List AV) (H : Hp) : calleeR E 15 args H = crK args (peP E 15 (prep H args)) := (cr_prep args).trans (by rw [pe15])
theorem ci15 (args : List AV) (H : Hp) : callIso E (callT E) 15 args H = prepK E (callT E) 15 (peP E 15 (prep H args)) := (iso_prep args).trans (by rw [pe15])
theorem ak16 : E.argk 16 = [] := by kernel_rfl
theorem rk16 : E.resk 16 = [] := by kernel_rfl
theorem ow16 : E.own 16 = false := by kernel_rfl
theorem pe16 (args : List AV) (H : Hp) : prepE E 16 H args = peP E 16 (prep H args) := prepE_v rfl args
theorem cr16 (args : List AV) (H : Hp) : calleeR E 16 args H = crK args (peP E 16 (prep H args)) := (cr_prep args).trans (by rw [pe16])
theorem ci16 (args : List AV) (H : Hp) : callIso E (callT E) 16 args H = prepK E (callT E) 16 (peP E 16 (prep H args)) := (iso_prep args).trans (by rw [pe16])
theorem ak17 : E.argk 17 = [[some 2]] := by kernel_rfl
theorem rk17 : E.resk 17 = [] := by kernel_rfl
theorem ow17 : E.own 17 = false := by kernel_rfl
theorem pe17 (args : List AV) (H : Hp) : prepE E 17 H args = peP E 17 (prep H args) := prepE_v rfl args
theorem cr17 (args : List AV) (H : Hp) : calleeR E 17 args H = crK args (peP E 17 (prep H args)) := (cr_prep args).trans (by rw [pe17])
theorem ci17 (args : List AV) (H : Hp) : callIso E (callT E) 17 args H = prepK E (callT E) 17 (peP E 17 (prep H args)) := (iso_prep args).trans (by rw [pe17])
theorem ak18 : E.argk 18 = [] := by kernel_rfl
theorem rk18 : E.resk 18 = [] := by kernel_rfl
theorem ow18 : E.own 18 = false := by kernel_rfl
theorem pe18 (args : List AV) (H : Hp) : prepE E 18 H args = peP E 18 (prep H args) := prepE_v rfl args
theorem cr18 (args : List AV) (H : Hp) : calleeR E 18 args H = crK args (peP E 18 (prep H args)) := (cr_prep args).trans (by rw [pe18])
theorem ci18 (args : List AV) (H : Hp) : callIso E (callT E) 18 args H = prepK E (callT E) 18 (peP E 18 (prep H args)) := (iso_prep args).trans (by rw [pe18])
theorem ak19 : E.argk 19 = [] := by kernel_rfl
theorem rk19 : E.resk 19 = [] := by kernel_rfl
theorem ow19 : E.own 19 = false := by kernel_rfl
theorem pe19 (args : List AV) (H : Hp) : prepE E 19 H args = peP E 19 (prep H args) := prepE_v rfl args
theorem cr19 (args : List AV) (H : Hp) : calleeR E 19 args H = crK args (peP E 19 (prep H args)) := (cr_prep args).trans (by rw [pe19])
theorem ci19 (args : List AV) (H : Hp) : callIso E (callT E) 19 args H = prepK E (callT E) 19 (peP E 19 (prep H args)) := (iso_prep args).trans (by rw [pe19])
theorem ak20 : E.argk 20 = [] := by kernel_rfl
theorem pe20 (args : List AV) (H : Hp) : prepE E 20 H args = peP E 20 (prep H args) := prepE_v rfl args
theorem cr20 (args : List AV) (H : Hp) : calleeR E 20 args H = crK args (peP E 20 (prep H args)) := (cr_prep args).trans (by rw [pe20])
theorem ci20 (args : List AV) (H : Hp) : callIso E (callT E) 20 args H = prepK E (callT E) 20 (peP E 20 (prep H args)) := (iso_prep args).trans (by rw [pe20])
theorem ak21 : E.argk 21 = [] := by kernel_rfl
theorem pe21 (args : List AV) (H : Hp) : prepE E 21 H args = peP E 21 (prep H args) := prepE_v rfl args
theorem cr21 (args : List AV) (H : Hp) : calleeR E 21 args H = crK args (peP E 21 (prep H args)) := (cr_prep args).trans (by rw [pe21])
theorem ci21 (args : List AV) (H : Hp) : callIso E (callT E) 21 args H = prepK E (callT E) 21 (peP E 21 (prep H args)) := (iso_prep args).trans (by rw [pe21])
theorem ak22 : E.argk 22 = [] := by kernel_rfl
theorem pe22 (args : List AV) (H : Hp) : prepE E 22 H args = peP E 22 (prep H args) := prepE_v rfl args
theorem cr22 (args : List AV) (H : Hp) : calleeR E 22 args H = crK args (peP E 22 (prep H args)) := (cr_prep args).trans (by rw [pe22])
theorem ci22 (args : List AV) (H : Hp) : callIso E (callT E) 22 args H = prepK E (callT E) 22 (peP E 22 (prep H args)) := (iso_prep args).trans (by rw [pe22])
theorem ak23 : E.argk 23 = [] := by kernel_rfl
theorem pe23 (args : List AV) (H : Hp) : prepE E 23 H args = peP E 23 (prep H args) := prepE_v rfl args
theorem cr23 (args : List AV) (H : Hp) : calleeR E 23 args H = crK args (peP E 23 (prep H args)) := (cr_prep args).trans (by rw [pe23])
theorem ci23 (args : List AV) (H : Hp) : callIso E (callT E) 23 args H = prepK E (callT E) 23 (peP E 23 (prep H args)) := (iso_prep args).trans (by rw [pe23])
theorem ak24 : E.argk 24 = [] := by kernel_rfl
theorem rk24 : E.resk 24 = [[some 1]] := by kernel_rfl
theorem ow24 : E.own 24 = false := by kernel_rfl
theorem pe24 (args : List AV) (H : Hp) : prepE E 24 H args = peP E 24 (prep H args) := prepE_v rfl args
theorem cr24 (args : List AV) (H : Hp) : calleeR E 24 args H = crK args (peP E 24 (prep H args)) := (cr_prep args).trans (by rw [pe24])
theorem ci24 (args : List AV) (H : Hp) : callIso E (callT E) 24 args H = prepK E (callT E) 24 (peP E 24 (prep H args)) := (iso_prep args).trans (by rw [pe24])
theorem ak25 : E.argk 25 = [[], [], [some 1]] := by kernel_rfl
theorem rk25 : E.resk 25 = [] := by kernel_rfl
theorem ow25 : E.own 25 = false := by kernel_rfl
theorem pe25 (args : List AV) (H : Hp) : prepE E 25 H args = peP E 25 (prep H args) := prepE_v rfl args
theorem cr25 (args : List AV) (H : Hp) : calleeR E 25 args H = crK args (peP E 25 (prep H args)) := (cr_prep args).trans (by rw [pe25])
theorem ci25 (args : List AV) (H : Hp) : callIso E (callT E) 25 args H = prepK E (callT E) 25 (peP E 25 (prep H args)) := (iso_prep args).trans (by rw [pe25])
theorem ak26 : E.argk 26 = [] := by kernel_rfl
theorem rk26 : E.resk 26 = [[some 1]] := by kernel_rfl
theorem ow26 : E.own 26 = false := by kernel_rfl
theorem pe26 (args : List AV) (H : Hp) : prepE E 26 H args = peP E 26 (prep H args) := prepE_v rfl args
theorem cr26 (args : List AV) (H : Hp) : calleeR E 26 args H = crK args (peP E 26 (prep H args)) := (cr_prep args).trans (by rw [pe26])
theorem ci26 (args : List AV) (H : Hp) : callIso E (callT E) 26 args H = prepK E (callT E) 26 (peP E 26 (prep H args)) := (iso_prep args).trans (by rw [pe26])
theorem ak27 : E.argk 27 = [] := by kernel_rfl
theorem rk27 : E.resk 27 = [] := by kernel_rfl
theorem ow27 : E.own 27 = false := by kernel_rfl
theorem pe27 (args : List AV) (H : Hp) : prepE E 27 H args = peP E 27 (prep H args) := prepE_v rfl args
theorem cr27 (args : List AV) (H : Hp) : calleeR E 27 args H = crK args (peP E 27 (prep H args)) := (cr_prep args).trans (by rw [pe27])
theorem ci27 (args : List AV) (H : Hp) : callIso E (callT E) 27 args H = prepK E (callT E) 27 (peP E 27 (prep H args)) := (iso_prep args).trans (by rw [pe27])
theorem ak28 : E.argk 28 = [] := by kernel_rfl
theorem rk28 : E.resk 28 = [] := by kernel_rfl
theorem ow28 : E.own 28 = false := by kernel_rfl
theorem pe28 (args : List AV) (H : Hp) : prepE E 28 H args = peP E 28 (prep H args) := prepE_v rfl args
theorem cr28 (args : List AV) (H : Hp) : calleeR E 28 args H = crK args (peP E 28 (prep H args)) := (cr_prep args).trans (by rw [pe28])
theorem ci28 (args : List AV) (H : Hp) : callIso E (callT E) 28 args H = prepK E (callT E) 28 (peP E 28 (prep H args)) := (iso_prep args).trans (by rw [pe28])
theorem ak29 : E.argk 29 = [] := by kernel_rfl
theorem pe29 (args : List AV) (H : Hp) : prepE E 29 H args = peP E 29 (prep H args) := prepE_v rfl args
theorem cr29 (args : List AV) (H : Hp) : calleeR E 29 args H = crK args (peP E 29 (prep H args)) := (cr_prep args).trans (by rw [pe29])
theorem ci29 (args : List AV) (H : Hp) : callIso E (callT E) 29 args H = prepK E (callT E) 29 (peP E 29 (prep H args)) := (iso_prep args).trans (by rw [pe29])
theorem ak30 : E.argk 30 = [] := by kernel_rfl
theorem rk30 : E.resk 30 = [] := by kernel_rfl
theorem ow30 : E.own 30 = false := by kernel_rfl
theorem pe30 (args : List AV) (H : Hp) : prepE E 30 H args = peP E 30 (prep H args) := prepE_v rfl args
theorem cr30 (args : List AV) (H : Hp) : calleeR E 30 args H = crK args (peP E 30 (prep H args)) := (cr_prep args).trans (by rw [pe30])
theorem ci30 (args : List AV) (H : Hp) : callIso E (callT E) 30 args H = prepK E (callT E) 30 (peP E 30 (prep H args)) := (iso_prep args).trans (by rw [pe30])
theorem ak31 : E.argk 31 = [] := by kernel_rfl
theorem rk31 : E.resk 31 = [] := by kernel_rfl
theorem ow31 : E.own 31 = false := by kernel_rfl
theorem pe31 (args : List AV) (H : Hp) : prepE E 31 H args = peP E 31 (prep H args) := prepE_v rfl args
theorem cr31 (args : List AV) (H : Hp) : calleeR E 31 args H = crK args (peP E 31 (prep H args)) := (cr_prep args).trans (by rw [pe31])
theorem ci31 (args : List AV) (H : Hp) : callIso E (callT E) 31 args H = prepK E (callT E) 31 (peP E 31 (prep H args)) := (iso_prep args).trans (by rw [pe31])
theorem ak32 : E.argk 32 = [] := by kernel_rfl
theorem pe32 (args : List AV) (H : Hp) : prepE E 32 H args = peP E 32 (prep H args) := prepE_v rfl args
theorem cr32 (args : List AV) (H : Hp) : calleeR E 32 args H = crK args (peP E 32 (prep H args)) := (cr_prep args).trans (by rw [pe32])
theorem ci32 (args : List AV) (H : Hp) : callIso E (callT E) 32 args H = prepK E (callT E) 32 (peP E 32 (prep H args)) := (iso_prep args).trans (by rw [pe32])
theorem ak33 : E.argk 33 = [] := by kernel_rfl
theorem rk33 : E.resk 33 = [] := by kernel_rfl
theorem ow33 : E.own 33 = false := by kernel_rfl
theorem pe33 (args : List AV) (H : Hp) : prepE E 33 H args = peP E 33 (prep H args) := prepE_v rfl args
theorem cr33 (args : List AV) (H : Hp) : calleeR E 33 args H = crK args (peP E 33 (prep H args)) := (cr_prep args).trans (by rw [pe33])
theorem ci33 (args : List AV) (H : Hp) : callIso E (callT E) 33 args H = prepK E (callT E) 33 (peP E 33 (prep H args)) := (iso_prep args).trans (by rw [pe33])
theorem ak34 : E.argk 34 = [] := by kernel_rfl
theorem rk34 : E.resk 34 = [] := by kernel_rfl
theorem ow34 : E.own 34 = false := by kernel_rfl
theorem pe34 (args : List AV) (H : Hp) : prepE E 34 H args = peP E 34 (prep H args) := prepE_v rfl args
theorem cr34 (args : List AV) (H : Hp) : calleeR E 34 args H = crK args (peP E 34 (prep H args)) := (cr_prep args).trans (by rw [pe34])
theorem ci34 (args : List AV) (H : Hp) : callIso E (callT E) 34 args H = prepK E (callT E) 34 (peP E 34 (prep H args)) := (iso_prep args).trans (by rw [pe34])
theorem ak35 : E.argk 35 = [] := by kernel_rfl
theorem rk35 : E.resk 35 = [] := by kernel_rfl
theorem ow35 : E.own 35 = false := by kernel_rfl
theorem pe35 (args : List AV) (H : Hp) : prepE E 35 H args = peP E 35 (prep H args) := prepE_v rfl args
theorem cr35 (args : List AV) (H : Hp) : calleeR E 35 args H = crK args (peP E 35 (prep H args)) := (cr_prep args).trans (by rw [pe35])
theorem ci35 (args : List AV) (H : Hp) : callIso E (callT E) 35 args H = prepK E (callT E) 35 (peP E 35 (prep H args)) := (iso_prep args).trans (by rw [pe35])
theorem ak36 : E.argk 36 = [] := by kernel_rfl
theorem rk36 : E.resk 36 = [] := by kernel_rfl
theorem ow36 : E.own 36 = false := by kernel_rfl
theorem pe36 (args : List AV) (H : Hp) : prepE E 36 H args = peP E 36 (prep H args) := prepE_v rfl args
theorem cr36 (args : List AV) (H : Hp) : calleeR E 36 args H = crK args (peP E 36 (prep H args)) := (cr_prep args).trans (by rw [pe36])
theorem ci36 (args : List AV) (H : Hp) : callIso E (callT E) 36 args H = prepK E (callT E) 36 (peP E 36 (prep H args)) := (iso_prep args).trans (by rw [pe36])
theorem ak39 : E.argk 39 = [] := by kernel_rfl
theorem rk39 : E.resk 39 = [[some 1]] := by kernel_rfl
theorem ow39 : E.own 39 = false := by kernel_rfl
theorem pe39 (args : List AV) (H : Hp) : prepE E 39 H args = peP E 39 (prep H args) := prepE_v rfl args
theorem cr39 (args : List AV) (H : Hp) : calleeR E 39 args H = crK args (peP E 39 (prep H args)) := (cr_prep args).trans (by rw [pe39])
theorem ci39 (args : List AV) (H : Hp) : callIso E (callT E) 39 args H = prepK E (callT E) 39 (peP E 39 (prep H args)) := (iso_prep args).trans (by rw [pe39])
theorem ak40 : E.argk 40 = [] := by kernel_rfl
theorem rk40 : E.resk 40 = [] := by kernel_rfl
theorem ow40 : E.own 40 = false := by kernel_rfl
theorem pe40 (args : List AV) (H : Hp) : prepE E 40 H args = peP E 40 (prep H args) := prepE_v rfl args
theorem cr40 (args : List AV) (H : Hp) : calleeR E 40 args H = crK args (peP E 40 (prep H args)) := (cr_prep args).trans (by rw [pe40])
theorem ci40 (args : List AV) (H : Hp) : callIso E (callT E) 40 args H = prepK E (callT E) 40 (peP E 40 (prep H args)) := (iso_prep args).trans (by rw [pe40])
theorem ak41 : E.argk 41 = [] := by kernel_rfl
theorem rk41 : E.resk 41 = [] := by kernel_rfl
theorem ow41 : E.own 41 = false := by kernel_rfl
theorem pe41 (args : List AV) (H : Hp) : prepE E 41 H args = peP E 41 (prep H args) := prepE_v rfl args
theorem cr41 (args : List AV) (H : Hp) : calleeR E 41 args H = crK args (peP E 41 (prep H args)) := (cr_prep args).trans (by rw [pe41])
theorem ci41 (args : List AV) (H : Hp) : callIso E (callT E) 41 args H = prepK E (callT E) 41 (peP E 41 (prep H args)) := (iso_prep args).trans (by rw [pe41])
theorem ak42 : E.argk 42 = [[some 1]] := by kernel_rfl
theorem rk42 : E.resk 42 = [] := by kernel_rfl
theorem ow42 : E.own 42 = false := by kernel_rfl
theorem pe42 (args : List AV) (H : Hp) : prepE E 42 H args = peP E 42 (prep H args) := prepE_v rfl args
theorem cr42 (args : List AV) (H : Hp) : calleeR E 42 args H = crK args (peP E 42 (prep H args)) := (cr_prep args).trans (by rw [pe42])
theorem ci42 (args : List AV) (H : Hp) : callIso E (callT E) 42 args H = prepK E (callT E) 42 (peP E 42 (prep H args)) := (iso_prep args).trans (by rw [pe42])
theorem ak43 : E.argk 43 = [] := by kernel_rfl
theorem rk43 : E.resk 43 = [] := by kernel_rfl
theorem ow43 : E.own 43 = false := by kernel_rfl
theorem pe43 (args : List AV) (H : Hp) : prepE E 43 H args = peP E 43 (prep H args) := prepE_v rfl args
theorem cr43 (args : List AV) (H : Hp) : calleeR E 43 args H = crK args (peP E 43 (prep H args)) := (cr_prep args).trans (by rw [pe43])
theorem ci43 (args : List AV) (H : Hp) : callIso E (callT E) 43 args H = prepK E (callT E) 43 (peP E 43 (prep H args)) := (iso_prep args).trans (by rw [pe43])
theorem ak44 : E.argk 44 = [] := by kernel_rfl
theorem rk44 : E.resk 44 = [[some 1]] := by kernel_rfl
theorem ow44 : E.own 44 = false := by kernel_rfl
theorem pe44 (args : List AV) (H : Hp) : prepE E 44 H args = peP E 44 (prep H args) := prepE_v rfl args
theorem cr44 (args : List AV) (H : Hp) : calleeR E 44 args H = crK args (peP E 44 (prep H args)) := (cr_prep args).trans (by rw [pe44])
theorem ci44 (args : List AV) (H : Hp) : callIso E (callT E) 44 args H = prepK E (callT E) 44 (peP E 44 (prep H args)) := (iso_prep args).trans (by rw [pe44])
theorem ak45 : E.argk 45 = [] := by kernel_rfl
theorem rk45 : E.resk 45 = [] := by kernel_rfl
theorem ow45 : E.own 45 = false := by kernel_rfl
theorem pe45 (args : List AV) (H : Hp) : prepE E 45 H args = peP E 45 (prep H args) := prepE_v rfl args
theorem cr45 (args : List AV) (H : Hp) : calleeR E 45 args H = crK args (peP E 45 (prep H args)) := (cr_prep args).trans (by rw [pe45])
theorem ci45 (args : List AV) (H : Hp) : callIso E (callT E) 45 args H = prepK E (callT E) 45 (peP E 45 (prep H args)) := (iso_prep args).trans (by rw [pe45])
theorem ak46 : E.argk 46 = [] := by kernel_rfl
theorem rk46 : E.resk 46 = [] := by kernel_rfl
theorem ow46 : E.own 46 = false := by kernel_rfl
theorem pe46 (args : List AV) (H : Hp) : prepE E 46 H args = peP E 46 (prep H args) := prepE_v rfl args
theorem cr46 (args : List AV) (H : Hp) : calleeR E 46 args H = crK args (peP E 46 (prep H args)) := (cr_prep args).trans (by rw [pe46])
theorem ci46 (args : List AV) (H : Hp) : callIso E (callT E) 46 args H = prepK E (callT E) 46 (peP E 46 (prep H args)) := (iso_prep args).trans (by rw [pe46])
theorem ak47 : E.argk 47 = [] := by kernel_rfl
theorem rk47 : E.resk 47 = [] := by kernel_rfl
theorem ow47 : E.own 47 = false := by kernel_rfl
theorem pe47 (args : List AV) (H : Hp) : prepE E 47 H args = peP E 47 (prep H args) := prepE_v rfl args
theorem cr47 (args : List AV) (H : Hp) : calleeR E 47 args H = crK args (peP E 47 (prep H args)) := (cr_prep args).trans (by rw [pe47])
theorem ci47 (args : List AV) (H : Hp) : callIso E (callT E) 47 args H = prepK E (callT E) 47 (peP E 47 (prep H args)) := (iso_prep args).trans (by rw [pe47])
theorem ak48 : E.argk 48 = [] := by kernel_rfl
theorem rk48 : E.resk 48 = [] := by kernel_rfl
theorem ow48 : E.own 48 = false := by kernel_rfl
theorem pe48 (args : List AV) (H : Hp) : prepE E 48 H args = peP E 48 (prep H args) := prepE_v rfl args
theorem cr48 (args : List AV) (H : Hp) : calleeR E 48 args H = crK args (peP E 48 (prep H args)) := (cr_prep args).trans (by rw [pe48])
theorem ci48 (args : List AV) (H : Hp) : callIso E (callT E) 48 args H = prepK E (callT E) 48 (peP E 48 (prep H args)) := (iso_prep args).trans (by rw [pe48])
theorem ak49 : E.argk 49 = [] := by kernel_rfl
theorem rk49 : E.resk 49 = [] := by kernel_rfl
theorem ow49 : E.own 49 = false := by kernel_rfl
theorem pe49 (args : List AV) (H : Hp) : prepE E 49 H args = peP E 49 (prep H args) := prepE_v rfl args
theorem cr49 (args : List AV) (H : Hp) : calleeR E 49 args H = crK args (peP E 49 (prep H args)) := (cr_prep args).trans (by rw [pe49])
theorem ci49 (args : List AV) (H : Hp) : callIso E (callT E) 49 args H = prepK E (callT E) 49 (peP E 49 (prep H args)) := (iso_prep args).trans (by rw [pe49])
theorem ak50 : E.argk 50 = [] := by kernel_rfl
theorem rk50 : E.resk 50 = [] := by kernel_rfl
theorem ow50 : E.own 50 = false := by kernel_rfl
theorem pe50 (args : List AV) (H : Hp) : prepE E 50 H args = peP E 50 (prep H args) := prepE_v rfl args
theorem cr50 (args : List AV) (H : Hp) : calleeR E 50 args H = crK args (peP E 50 (prep H args)) := (cr_prep args).trans (by rw [pe50])
theorem ci50 (args : List AV) (H : Hp) : callIso E (callT E) 50 args H = prepK E (callT E) 50 (peP E 50 (prep H args)) := (iso_prep args).trans (by rw [pe50])
theorem ak51 : E.argk 51 = [] := by kernel_rfl
theorem rk51 : E.resk 51 = [] := by kernel_rfl
theorem ow51 : E.own 51 = false := by kernel_rfl
theorem pe51 (args : List AV) (H : Hp) : prepE E 51 H args = peP E 51 (prep H args) := prepE_v rfl args
theorem cr51 (args : List AV) (H : Hp) : calleeR E 51 args H = crK args (peP E 51 (prep H args)) := (cr_prep args).trans (by rw [pe51])
theorem ci51 (args : List AV) (H : Hp) : callIso E (callT E) 51 args H = prepK E (callT E) 51 (peP E 51 (prep H args)) := (iso_prep args).trans (by rw [pe51])
theorem ak52 : E.argk 52 = [] := by kernel_rfl
theorem rk52 : E.resk 52 = [[some 1]] := by kernel_rfl
theorem ow52 : E.own 52 = true := by kernel_rfl
theorem pe52 (args : List AV) (H : Hp) : prepE E 52 H args = peP E 52 (prep H args) := prepE_v rfl args
theorem cr52 (args : List AV) (H : Hp) : calleeR E 52 args H = crK args (peP E 52 (prep H args)) := (cr_prep args).trans (by rw [pe52])
theorem ci52 (args : List AV) (H : Hp) : callIso E (callT E) 52 args H = prepK E (callT E) 52 (peP E 52 (prep H args)) := (iso_prep args).trans (by rw [pe52])
theorem ak53 : E.argk 53 = [] := by kernel_rfl
theorem rk53 : E.resk 53 = [[some 1]] := by kernel_rfl
theorem ow53 : E.own 53 = false := by kernel_rfl
theorem pe53 (args : List AV) (H : Hp) : prepE E 53 H args = peP E 53 (prep H args) := prepE_v rfl args
theorem cr53 (args : List AV) (H : Hp) : calleeR E 53 args H = crK args (peP E 53 (prep H args)) := (cr_prep args).trans (by rw [pe53])
theorem ci53 (args : List AV) (H : Hp) : callIso E (callT E) 53 args H = prepK E (callT E) 53 (peP E 53 (prep H args)) := (iso_prep args).trans (by rw [pe53])
theorem ak56 : E.argk 56 = [] := by kernel_rfl
theorem pe56 (args : List AV) (H : Hp) : prepE E 56 H args = peP E 56 (prep H args) := prepE_v rfl args
theorem cr56 (args : List AV) (H : Hp) : calleeR E 56 args H = crK args (peP E 56 (prep H args)) := (cr_prep args).trans (by rw [pe56])
theorem ci56 (args : List AV) (H : Hp) : callIso E (callT E) 56 args H = prepK E (callT E) 56 (peP E 56 (prep H args)) := (iso_prep args).trans (by rw [pe56])
theorem ak57 : E.argk 57 = [] := by kernel_rfl
theorem pe57 (args : List AV) (H : Hp) : prepE E 57 H args = peP E 57 (prep H args) := prepE_v rfl args
theorem cr57 (args : List AV) (H : Hp) : calleeR E 57 args H = crK args (peP E 57 (prep H args)) := (cr_prep args).trans (by rw [pe57])
theorem ci57 (args : List AV) (H : Hp) : callIso E (callT E) 57 args H = prepK E (callT E) 57 (peP E 57 (prep H args)) := (iso_prep args).trans (by rw [pe57])
theorem ak58 : E.argk 58 = [] := by kernel_rfl
theorem rk58 : E.resk 58 = [] := by kernel_rfl
theorem ow58 : E.own 58 = false := by kernel_rfl
theorem pe58 (args : List AV) (H : Hp) : prepE E 58 H args = peP E 58 (prep H args) := prepE_v rfl args
theorem cr58 (args : List AV) (H : Hp) : calleeR E 58 args H = crK args (peP E 58 (prep H args)) := (cr_prep args).trans (by rw [pe58])
theorem ci58 (args : List AV) (H : Hp) : callIso E (callT E) 58 args H = prepK E (callT E) 58 (peP E 58 (prep H args)) := (iso_prep args).trans (by rw [pe58])
theorem ak59 : E.argk 59 = [] := by kernel_rfl
theorem rk59 : E.resk 59 = [] := by kernel_rfl
theorem ow59 : E.own 59 = false := by kernel_rfl
theorem pe59 (args : List AV) (H : Hp) : prepE E 59 H args = peP E 59 (prep H args) := prepE_v rfl args
theorem cr59 (args : List AV) (H : Hp) : calleeR E 59 args H = crK args (peP E 59 (prep H args)) := (cr_prep args).trans (by rw [pe59])
theorem ci59 (args : List AV) (H : Hp) : callIso E (callT E) 59 args H = prepK E (callT E) 59 (peP E 59 (prep H args)) := (iso_prep args).trans (by rw [pe59])
theorem ak60 : E.argk 60 = [] := by kernel_rfl
theorem rk60 : E.resk 60 = [] := by kernel_rfl
theorem ow60 : E.own 60 = false := by kernel_rfl
theorem pe60 (args : List AV) (H : Hp) : prepE E 60 H args = peP E 60 (prep H args) := prepE_v rfl args
theorem cr60 (args : List AV) (H : Hp) : calleeR E 60 args H = crK args (peP E 60 (prep H args)) := (cr_prep args).trans (by rw [pe60])
theorem ci60 (args : List AV) (H : Hp) : callIso E (callT E) 60 args H = prepK E (callT E) 60 (peP E 60 (prep H args)) := (iso_prep args).trans (by rw [pe60])
theorem ak61 : E.argk 61 = [] := by kernel_rfl
theorem rk61 : E.resk 61 = [] := by kernel_rfl
theorem ow61 : E.own 61 = false := by kernel_rfl
theorem pe61 (args : List AV) (H : Hp) : prepE E 61 H args = peP E 61 (prep H args) := prepE_v rfl args
theorem cr61 (args : List AV) (H : Hp) : calleeR E 61 args H = crK args (peP E 61 (prep H args)) := (cr_prep args).trans (by rw [pe61])
theorem ci61 (args : List AV) (H : Hp) : callIso E (callT E) 61 args H = prepK E (callT E) 61 (peP E 61 (prep H args)) := (iso_prep args).trans (by rw [pe61])
theorem ak62 : E.argk 62 = [] := by kernel_rfl
theorem rk62 : E.resk 62 = [] := by kernel_rfl
theorem ow62 : E.own 62 = false := by kernel_rfl
theorem pe62 (args : List AV) (H : Hp) : prepE E 62 H args = peP E 62 (prep H args) := prepE_v rfl args
theorem cr62 (args : List AV) (H : Hp) : calleeR E 62 args H = crK args (peP E 62 (prep H args)) := (cr_prep args).trans (by rw [pe62])
theorem ci62 (args : List AV) (H : Hp) : callIso E (callT E) 62 args H = prepK E (callT E) 62 (peP E 62 (prep H args)) := (iso_prep args).trans (by rw [pe62])
theorem ak63 : E.argk 63 = [] := by kernel_rfl
theorem pe63 (args : List AV) (H : Hp) : prepE E 63 H args = peP E 63 (prep H args) := prepE_v rfl args
theorem cr63 (args : List AV) (H : Hp) : calleeR E 63 args H = crK args (peP E 63 (prep H args)) := (cr_prep args).trans (by rw [pe63])
theorem ci63 (args : List AV) (H : Hp) : callIso E (callT E) 63 args H = prepK E (callT E) 63 (peP E 63 (prep H args)) := (iso_prep args).trans (by rw [pe63])
theorem ak71 : E.argk 71 = [] := by kernel_rfl
theorem rk71 : E.resk 71 = [] := by kernel_rfl
theorem ow71 : E.own 71 = false := by kernel_rfl
theorem pe71 (args : List AV) (H : Hp) : prepE E 71 H args = peP E 71 (prep H args) := prepE_v rfl args
theorem cr71 (args : List AV) (H : Hp) : calleeR E 71 args H = crK args (peP E 71 (prep H args)) := (cr_prep args).trans (by rw [pe71])
theorem ci71 (args : List AV) (H : Hp) : callIso E (callT E) 71 args H = prepK E (callT E) 71 (peP E 71 (prep H args)) := (iso_prep args).trans (by rw [pe71])
theorem ak72 : E.argk 72 = [] := by kernel_rfl
theorem rk72 : E.resk 72 = [] := by kernel_rfl
theorem ow72 : E.own 72 = false := by kernel_rfl
theorem pe72 (args : List AV) (H : Hp) : prepE E 72 H args = peP E 72 (prep H args) := prepE_v rfl args
theorem cr72 (args : List AV) (H : Hp) : calleeR E 72 args H = crK args (peP E 72 (prep H args)) := (cr_prep args).trans (by rw [pe72])
theorem ci72 (args : List AV) (H : Hp) : callIso E (callT E) 72 args H = prepK E (callT E) 72 (peP E 72 (prep H args)) := (iso_prep args).trans (by rw [pe72])
theorem ak73 : E.argk 73 = [] := by kernel_rfl
theorem rk73 : E.resk 73 = [] := by kernel_rfl
theorem ow73 : E.own 73 = false := by kernel_rfl
theorem pe73 (args : List AV) (H : Hp) : prepE E 73 H args = peP E 73 (prep H args) := prepE_v rfl args
theorem cr73 (args : List AV) (H : Hp) : calleeR E 73 args H = crK args (peP E 73 (prep H args)) := (cr_prep args).trans (by rw [pe73])
theorem ci73 (args : List AV) (H : Hp) : callIso E (callT E) 73 args H = prepK E (callT E) 73 (peP E 73 (prep H args)) := (iso_prep args).trans (by rw [pe73])
theorem ak74 : E.argk 74 = [] := by kernel_rfl
theorem rk74 : E.resk 74 = [] := by kernel_rfl
theorem ow74 : E.own 74 = false := by kernel_rfl
theorem pe74 (args : List AV) (H : Hp) : prepE E 74 H args = peP E 74 (prep H args) := prepE_v rfl args
theorem cr74 (args : List AV) (H : Hp) : calleeR E 74 args H = crK args (peP E 74 (prep H args)) := (cr_prep args).trans (by rw [pe74])
theorem ci74 (args : List AV) (H : Hp) : callIso E (callT E) 74 args H = prepK E (callT E) 74 (peP E 74 (prep H args)) := (iso_prep args).trans (by rw [pe74])
theorem ak81 : E.argk 81 = [] := by kernel_rfl
theorem pe81 (args : List AV) (H : Hp) : prepE E 81 H args = peP E 81 (prep H args) := prepE_v rfl args
theorem cr81 (args : List AV) (H : Hp) : calleeR E 81 args H = crK args (peP E 81 (prep H args)) := (cr_prep args).trans (by rw [pe81])
theorem ci81 (args : List AV) (H : Hp) : callIso E (callT E) 81 args H = prepK E (callT E) 81 (peP E 81 (prep H args)) := (iso_prep args).trans (by rw [pe81])
theorem ak83 : E.argk 83 = [] := by kernel_rfl
theorem pe83 (args : List AV) (H : Hp) : prepE E 83 H args = peP E 83 (prep H args) := prepE_v rfl args
theorem cr83 (args : List AV) (H : Hp) : calleeR E 83 args H = crK args (peP E 83 (prep H args)) := (cr_prep args).trans (by rw [pe83])
theorem ci83 (args : List AV) (H : Hp) : callIso E (callT E) 83 args H = prepK E (callT E) 83 (peP E 83 (prep H args)) := (iso_prep args).trans (by rw [pe83])
theorem ak84 : E.argk 84 = [] := by kernel_rfl
theorem pe84 (args : List AV) (H : Hp) : prepE E 84 H args = peP E 84 (prep H args) := prepE_v rfl args
theorem cr84 (args : List AV) (H : Hp) : calleeR E 84 args H = crK args (peP E 84 (prep H args)) := (cr_prep args).trans (by rw [pe84])
theorem ci84 (args : List AV) (H : Hp) : callIso E (callT E) 84 args H = prepK E (callT E) 84 (peP E 84 (prep H args)) := (iso_prep args).trans (by rw [pe84])
theorem ak85 : E.argk 85 = [] := by kernel_rfl
theorem rk85 : E.resk 85 = [] := by kernel_rfl
theorem ow85 : E.own 85 = false := by kernel_rfl
theorem pe85 (args : List AV) (H : Hp) : prepE E 85 H args = peP E 85 (prep H args) := prepE_v rfl args
theorem cr85 (args : List AV) (H : Hp) : calleeR E 85 args H = crK args (peP E 85 (prep H args)) := (cr_prep args).trans (by rw [pe85])
theorem ci85 (args : List AV) (H : Hp) : callIso E (callT E) 85 args H = prepK E (callT E) 85 (peP E 85 (prep H args)) := (iso_prep args).trans (by rw [pe85])
theorem ak86 : E.argk 86 = [] := by kernel_rfl
theorem rk86 : E.resk 86 = [] := by kernel_rfl
theorem ow86 : E.own 86 = false := by kernel_rfl
theorem pe86 (args : List AV) (H : Hp) : prepE E 86 H args = peP E 86 (prep H args) := prepE_v rfl args
theorem cr86 (args : List AV) (H : Hp) : calleeR E 86 args H = crK args (peP E 86 (prep H args)) := (cr_prep args).trans (by rw [pe86])
theorem ci86 (args : List AV) (H : Hp) : callIso E (callT E) 86 args H = prepK E (callT E) 86 (peP E 86 (prep H args)) := (iso_prep args).trans (by rw [pe86])
theorem bd122 (parts : List (Nat × AV)) : buildE E 122 parts = aggK (fillS [(0, 1), (1, 1)] [.i (.v (.int .i64 0)), .i (.v (.int .i64 0))] parts) := bd_struct (by kernel_rfl) (by kernel_rfl) (by kernel_rfl) parts
theorem bd124 (parts : List (Nat × AV)) : buildE E 124 parts = aggK (fillS [(0, 1), (1, 1), (2, 1), (3, 1)] [.i (.v (.int .i32 0)), .i (.v (.int .i64 0)), .i (.v (.int .u8 0)), .i (.v (.int .u8 0))] parts) := bd_struct (by kernel_rfl) (by kernel_rfl) (by kernel_rfl) parts
theorem bd126 (parts : List (Nat × AV)) : buildE E 126 parts = aggK (fillA 1 [.i (.v (.int .u8 0)), .i (.v (.int .u8 0)), .i (.v (.int .u8 0)), .i (.v (.int .u8 0)), .i (.v (.int .u8 0)), .i (.v (.int .u8 0)), .i (.v (.int .u8 0)), .i (.v (.int .u8 0)), .i (.v (.int .u8 0)), .i (.v (.int .u8 0)), .i (.v (.int .u8 0)), .i (.v (.int .u8 0)), .i (.v (.int .u8 0)), .i (.v (.int .u8 0)), .i (.v (.int .u8 0)), .i (.v (.int .u8 0)), .i (.v (.int .u8 0)), .i (.v (.int .u8 0)), .i (.v (.int .u8 0)), .i (.v (.int .u8 0)), .i (.v (.int .u8 0)), .i (.v (.int .u8 0)), .i (.v (.int .u8 0)), .i (.v (.int .u8 0))] parts) := bd_arr (n := 24) (e := 5) (by kernel_rfl) (by kernel_rfl) (by kernel_rfl) parts
theorem bd138 (parts : List (Nat × AV)) : buildE E 138 parts = aggK (fillA 1 [.i (.v (.int .u64 0)), .i (.v (.int .u64 0)), .i (.v (.int .u64 0)), .i (.v (.int .u64 0)), .i (.v (.int .u64 0)), .i (.v (.int .u64 0)), .i (.v (.int .u64 0)), .i (.v (.int .u64 0)), .i (.v (.int .u64 0)), .i (.v (.int .u64 0)), .i (.v (.int .u64 0)), .i (.v (.int .u64 0)), .i (.v (.int .u64 0)), .i (.v (.int .u64 0)), .i (.v (.int .u64 0)), .i (.v (.int .u64 0)), .i (.v (.int .u64 0)), .i (.v (.int .u64 0)), .i (.v (.int .u64 0)), .i (.v (.int .u64 0))] parts) := bd_arr (n := 20) (e := 127) (by kernel_rfl) (by kernel_rfl) (by kernel_rfl) parts
theorem bd140 (parts : List (Nat × AV)) : buildE E 140 parts = aggK (fillA 1 [.i (.v (.int .u8 0)), .i (.v (.int .u8 0)), .i (.v (.int .u8 0)), .i (.v (.int .u8 0)), .i (.v (.int .u8 0)), .i (.v (.int .u8 0)), .i (.v (.int .u8 0)), .i (.v (.int .u8 0)), .i (.v (.int .u8 0)), .i (.v (.int .u8 0)), .i (.v (.int .u8 0)), .i (.v (.int .u8 0)), .i (.v (.int .u8 0)), .i (.v (.int .u8 0)), .i (.v (.int .u8 0)), .i (.v (.int .u8 0)), .i (.v (.int .u8 0)), .i (.v (.int .u8 0)), .i (.v (.int .u8 0)), .i (.v (.int .u8 0)), .i (.v (.int .u8 0)), .i (.v (.int .u8 0)), .i (.v (.int .u8 0)), .i (.v (.int .u8 0)), .i (.v (.int .u8 0)), .i (.v (.int .u8 0)), .i (.v (.int .u8 0)), .i (.v (.int .u8 0)), .i (.v (.int .u8 0)), .i (.v (.int .u8 0)), .i (.v (.int .u8 0)), .i (.v (.int .u8 0)), .i (.v (.int .u8 0)), .i (.v (.int .u8 0)), .i (.v (.int .u8 0)), .i (.v (.int .u8 0)), .i (.v (.int .u8 0)), .i (.v (.int .u8 0)), .i (.v (.int .u8 0)), .i (.v (.int .u8 0)), .i (.v (.int .u8 0)), .i (.v (.int .u8 0)), .i (.v (.int .u8 0)), .i (.v (.int .u8 0)), .i (.v (.int .u8 0)), .i (.v (.int .u8 0)), .i (.v (.int .u8 0)), .i (.v (.int .u8 0)), .i (.v (.int .u8 0)), .i (.v (.int .u8 0)), .i (.v (.int .u8 0)), .i (.v (.int .u8 0)), .i (.v (.int .u8 0)), .i (.v (.int .u8 0)), .i (.v (.int .u8 0)), .i (.v (.int .u8 0)), .i (.v (.int .u8 0)), .i (.v (.int .u8 0)), .i (.v (.int .u8 0)), .i (.v (.int .u8 0)), .i (.v (.int .u8 0)), .i (.v (.int .u8 0)), .i (.v (.int .u8 0)), .i (.v (.int .u8 0)), .i (.v (.int .u8 0))] parts) := bd_arr (n := 65) (e := 5) (by kernel_rfl) (by kernel_rfl) (by kernel_rfl) parts
theorem bd146 (parts : List (Nat × AV)) : buildE E 146 parts = aggK (fillS [(0, 1), (1, 1)] [.i (.v (.int .u8 0)), .i (.v (.int .u8 0))] parts) := bd_struct (by kernel_rfl) (by kernel_rfl) (by kernel_rfl) parts
theorem bd147 (parts : List (Nat × AV)) : buildE E 147 parts = aggK (fillA 2 [.i (.v (.int .u8 0)), .i (.v (.int .u8 0)), .i (.v (.int .u8 0)), .i (.v (.int .u8 0)), .i (.v (.int .u8 0)), .i (.v (.int .u8 0)), .i (.v (.int .u8 0)), .i (.v (.int .u8 0)), .i (.v (.int .u8 0)), .i (.v (.int .u8 0)), .i (.v (.int .u8 0)), .i (.v (.int .u8 0)), .i (.v (.int .u8 0)), .i (.v (.int .u8 0)), .i (.v (.int .u8 0)), .i (.v (.int .u8 0)), .i (.v (.int .u8 0)), .i (.v (.int .u8 0)), .i (.v (.int .u8 0)), .i (.v (.int .u8 0)), .i (.v (.int .u8 0)), .i (.v (.int .u8 0)), .i (.v (.int .u8 0)), .i (.v (.int .u8 0)), .i (.v (.int .u8 0)), .i (.v (.int .u8 0)), .i (.v (.int .u8 0)), .i (.v (.int .u8 0)), .i (.v (.int .u8 0)), .i (.v (.int .u8 0)), .i (.v (.int .u8 0)), .i (.v (.int .u8 0))] parts) := bd_arr (n := 16) (e := 146) (by kernel_rfl) (by kernel_rfl) (by kernel_rfl) parts
theorem bd150 (parts : List (Nat × AV)) : buildE E 150 parts = aggK (fillA 1 [.i (.v (.int .u8 0)), .i (.v (.int .u8 0)), .i (.v (.int .u8 0)), .i (.v (.int .u8 0)), .i (.v (.int .u8 0)), .i (.v (.int .u8 0)), .i (.v (.int .u8 0)), .i (.v (.int .u8 0)), .i (.v (.int .u8 0)), .i (.v (.int .u8 0)), .i (.v (.int .u8 0)), .i (.v (.int .u8 0)), .i (.v (.int .u8 0)), .i (.v (.int .u8 0)), .i (.v (.int .u8 0)), .i (.v (.int .u8 0)), .i (.v (.int .u8 0)), .i (.v (.int .u8 0)), .i (.v (.int .u8 0)), .i (.v (.int .u8 0)), .i (.v (.int .u8 0)), .i (.v (.int .u8 0)), .i (.v (.int .u8 0)), .i (.v (.int .u8 0)), .i (.v (.int .u8 0)), .i (.v (.int .u8 0)), .i (.v (.int .u8 0)), .i (.v (.int .u8 0)), .i (.v (.int .u8 0)), .i (.v (.int .u8 0)), .i (.v (.int .u8 0)), .i (.v (.int .u8 0))] parts) := bd_arr (n := 32) (e := 5) (by kernel_rfl) (by kernel_rfl) (by kernel_rfl) parts
theorem bd151 (parts : List (Nat × AV)) : buildE E 151 parts = aggK (fillA 1 [.i (.v (.int .u8 0)), .i (.v (.int .u8 0)), .i (.v (.int .u8 0)), .i (.v (.int .u8 0)), .i (.v (.int .u8 0)), .i (.v (.int .u8 0)), .i (.v (.int .u8 0)), .i (.v (.int .u8 0)), .i (.v (.int .u8 0)), .i (.v (.int .u8 0)), .i (.v (.int .u8 0)), .i (.v (.int .u8 0)), .i (.v (.int .u8 0)), .i (.v (.int .u8 0)), .i (.v (.int .u8 0)), .i (.v (.int .u8 0)), .i (.v (.int .u8 0)), .i (.v (.int .u8 0)), .i (.v (.int .u8 0)), .i (.v (.int .u8 0)), .i (.v (.int .u8 0)), .i (.v (.int .u8 0)), .i (.v (.int .u8 0)), .i (.v (.int .u8 0)), .i (.v (.int .u8 0)), .i (.v (.int .u8 0)), .i (.v (.int .u8 0)), .i (.v (.int .u8 0)), .i (.v (.int .u8 0)), .i (.v (.int .u8 0)), .i (.v (.int .u8 0)), .i (.v (.int .u8 0)), .i (.v (.int .u8 0)), .i (.v (.int .u8 0)), .i (.v (.int .u8 0)), .i (.v (.int .u8 0)), .i (.v (.int .u8 0)), .i (.v (.int .u8 0)), .i (.v (.int .u8 0)), .i (.v (.int .u8 0)), .i (.v (.int .u8 0)), .i (.v (.int .u8 0)), .i (.v (.int .u8 0)), .i (.v (.int .u8 0)), .i (.v (.int .u8 0)), .i (.v (.int .u8 0)), .i (.v (.int .u8 0)), .i (.v (.int .u8 0)), .i (.v (.int .u8 0)), .i (.v (.int .u8 0)), .i (.v (.int .u8 0)), .i (.v (.int .u8 0)), .i (.v (.int .u8 0)), .i (.v (.int .u8 0)), .i (.v (.int .u8 0)), .i (.v (.int .u8 0)), .i (.v (.int .u8 0)), .i (.v (.int .u8 0)), .i (.v (.int .u8 0)), .i (.v (.int .u8 0)), .i (.v (.int .u8 0)), .i (.v (.int .u8 0)), .i (.v (.int .u8 0)), .i (.v (.int .u8 0))] parts) := bd_arr (n := 64) (e := 5) (by kernel_rfl) (by kernel_rfl) (by kernel_rfl) parts
theorem bd32 (parts : List (Nat × AV)) : buildE E 32 parts = aggK (fillS [(0, 3), (3, 1), (4, 1)] [.i (.v (.int .i64 0)), .i (.v (.int .i64 0)), .i (.v (.int .i64 0)), .i (.v (.int .i64 0)), .i (.v (.int .i64 0))] parts) := bd_struct (by kernel_rfl) (by kernel_rfl) (by kernel_rfl) parts
theorem bd44 (parts : List (Nat × AV)) : buildE E 44 parts = aggK (fillS [(0, 1), (1, 1)] [.i (.v (.int .i64 0)), .i (.v (.int .i64 0))] parts) := bd_struct (by kernel_rfl) (by kernel_rfl) (by kernel_rfl) parts
theorem bd51 (parts : List (Nat × AV)) : buildE E 51 parts = aggK (fillS [(0, 1), (1, 16)] [.i (.v (.bool false)), .i (.v (.bool false)), .i (.v (.bool false)), .i (.v (.bool false)), .i (.v (.bool false)), .i (.v (.bool false)), .i (.v (.bool false)), .i (.v (.bool false)), .i (.v (.bool false)), .i (.v (.bool false)), .i (.v (.bool false)), .i (.v (.bool false)), .i (.v (.bool false)), .i (.v (.bool false)), .i (.v (.bool false)), .i (.v (.bool false)), .i (.v (.bool false))] parts) := bd_struct (by kernel_rfl) (by kernel_rfl) (by kernel_rfl) parts
theorem bd59 (parts : List (Nat × AV)) : buildE E 59 parts = aggK (fillS [(0, 1), (1, 1), (2, 3), (5, 16), (21, 1), (22, 1)] [.i (.v (.int .i64 0)), .i (.sl 0 [] true), .i (.v (.int .i64 0)), .i (.v (.int .i64 0)), .i (.v (.int .i64 0)), .i (.v (.int .i64 0)), .i (.v (.int .i64 0)), .i (.v (.int .i64 0)), .i (.v (.int .i64 0)), .i (.v (.int .i64 0)), .i (.v (.int .i64 0)), .i (.v (.int .i64 0)), .i (.v (.int .i64 0)), .i (.v (.int .i64 0)), .i (.v (.int .i64 0)), .i (.v (.int .i64 0)), .i (.v (.int .i64 0)), .i (.v (.int .i64 0)), .i (.v (.int .i64 0)), .i (.v (.int .i64 0)), .i (.v (.int .i64 0)), .i (.v (.int .i64 0)), .i (.v (.bool false))] parts) := bd_struct (by kernel_rfl) (by kernel_rfl) (by kernel_rfl) parts
theorem bd66 (parts : List (Nat × AV)) : buildE E 66 parts = aggK (fillS [(0, 1), (1, 1)] [.i (.v (.pointer none)), .i (.sl 0 [] true)] parts) := bd_struct (by kernel_rfl) (by kernel_rfl) (by kernel_rfl) parts
theorem bd79 (parts : List (Nat × AV)) : buildE E 79 parts = aggK (fillS [(0, 1), (1, 1), (2, 1), (3, 1)] [.i (.sl 0 [] true), .i (.sl 0 [] true), .i (.v (.map none)), .i (.v (.map none))] parts) := bd_struct (by kernel_rfl) (by kernel_rfl) (by kernel_rfl) parts
theorem bd89 (parts : List (Nat × AV)) : buildE E 89 parts = aggK (fillS [(0, 1), (1, 1), (2, 1)] [.i (.str []), .i (.v (.bool false)), .i (.v (.int .i64 0))] parts) := bd_struct (by kernel_rfl) (by kernel_rfl) (by kernel_rfl) parts
theorem bd90 (parts : List (Nat × AV)) : buildE E 90 parts = aggK (fillA 1 [.i (.v (.int .i64 0)), .i (.v (.int .i64 0)), .i (.v (.int .i64 0)), .i (.v (.int .i64 0)), .i (.v (.int .i64 0)), .i (.v (.int .i64 0)), .i (.v (.int .i64 0)), .i (.v (.int .i64 0)), .i (.v (.int .i64 0)), .i (.v (.int .i64 0)), .i (.v (.int .i64 0)), .i (.v (.int .i64 0)), .i (.v (.int .i64 0)), .i (.v (.int .i64 0)), .i (.v (.int .i64 0)), .i (.v (.int .i64 0)), .i (.v (.int .i64 0)), .i (.v (.int .i64 0)), .i (.v (.int .i64 0)), .i (.v (.int .i64 0)), .i (.v (.int .i64 0))] parts) := bd_arr (n := 21) (e := 3) (by kernel_rfl) (by kernel_rfl) (by kernel_rfl) parts
theorem cv2_127 (cl : CallF) (fr : Fr) (H : Hp) (x : Operand) : evOp E cl (.convert 2 127 x) fr H = pK H (convE E 2 127 (opd E fr x)) := op_convert _ _ _ (by kernel_rfl) (by kernel_rfl)
theorem cv3_5 (cl : CallF) (fr : Fr) (H : Hp) (x : Operand) : evOp E cl (.convert 3 5 x) fr H = pK H (convE E 3 5 (opd E fr x)) := op_convert _ _ _ (by kernel_rfl) (by kernel_rfl)
theorem cv3_87 (cl : CallF) (fr : Fr) (H : Hp) (x : Operand) : evOp E cl (.convert 3 87 x) fr H = pK H (convE E 3 87 (opd E fr x)) := op_convert _ _ _ (by kernel_rfl) (by kernel_rfl)
theorem cv3_127 (cl : CallF) (fr : Fr) (H : Hp) (x : Operand) : evOp E cl (.convert 3 127 x) fr H = pK H (convE E 3 127 (opd E fr x)) := op_convert _ _ _ (by kernel_rfl) (by kernel_rfl)
theorem cv5_3 (cl : CallF) (fr : Fr) (H : Hp) (x : Operand) : evOp E cl (.convert 5 3 x) fr H = pK H (convE E 5 3 (opd E fr x)) := op_convert _ _ _ (by kernel_rfl) (by kernel_rfl)
theorem cv5_21 (cl : CallF) (fr : Fr) (H : Hp) (x : Operand) : evOp E cl (.convert 5 21 x) fr H = pK H (convE E 5 21 (opd E fr x)) := op_convert _ _ _ (by kernel_rfl) (by kernel_rfl)
theorem cv5_139 (cl : CallF) (fr : Fr) (H : Hp) (x : Operand) : evOp E cl (.convert 5 139 x) fr H = pK H (convE E 5 139 (opd E fr x)) := op_convert _ _ _ (by kernel_rfl) (by kernel_rfl)
theorem cv9_64 (cl : CallF) (fr : Fr) (H : Hp) (x : Operand) : evOp E cl (.convert 9 64 x) fr H = cvK H (opd E fr x) := op_convB (by kernel_rfl) (by kernel_rfl) x
theorem cv21_3 (cl : CallF) (fr : Fr) (H : Hp) (x : Operand) : evOp E cl (.convert 21 3 x) fr H = pK H (convE E 21 3 (opd E fr x)) := op_convert _ _ _ (by kernel_rfl) (by kernel_rfl)
theorem cv63_114 (cl : CallF) (fr : Fr) (H : Hp) (x : Operand) : evOp E cl (.convert 63 114 x) fr H = pK H (convE E 63 114 (opd E fr x)) := op_convert _ _ _ (by kernel_rfl) (by kernel_rfl)
theorem cv64_9 (cl : CallF) (fr : Fr) (H : Hp) (x : Operand) : evOp E cl (.convert 64 9 x) fr H = pK H (cvS (rowsE H (opd E fr x))) := op_cvS (e := 5) (by kernel_rfl) (by kernel_rfl) (by kernel_rfl) (by kernel_rfl) x
theorem cv87_139 (cl : CallF) (fr : Fr) (H : Hp) (x : Operand) : evOp E cl (.convert 87 139 x) fr H = pK H (convE E 87 139 (opd E fr x)) := op_convert _ _ _ (by kernel_rfl) (by kernel_rfl)
theorem cv114_63 (cl : CallF) (fr : Fr) (H : Hp) (x : Operand) : evOp E cl (.convert 114 63 x) fr H = pK H (convE E 114 63 (opd E fr x)) := op_convert _ _ _ (by kernel_rfl) (by kernel_rfl)
theorem cv127_5 (cl : CallF) (fr : Fr) (H : Hp) (x : Operand) : evOp E cl (.convert 127 5 x) fr H = pK H (convE E 127 5 (opd E fr x)) := op_convert _ _ _ (by kernel_rfl) (by kernel_rfl)
theorem cv127_139 (cl : CallF) (fr : Fr) (H : Hp) (x : Operand) : evOp E cl (.convert 127 139 x) fr H = pK H (convE E 127 139 (opd E fr x)) := op_convert _ _ _ (by kernel_rfl) (by kernel_rfl)
theorem cv139_5 (cl : CallF) (fr : Fr) (H : Hp) (x : Operand) : evOp E cl (.convert 139 5 x) fr H = pK H (convE E 139 5 (opd E fr x)) := op_convert _ _ _ (by kernel_rfl) (by kernel_rfl)
theorem zx66 : zcells Tryd.prog 66 = [.i (.v (.pointer none)), .i (.v (.slice none 0 0))] := by kernel_rfl
theorem zo66 : zone Tryd.prog 66 = true := by kernel_rfl
theorem lc62 (n : Int) (ok : Bool) (es : List (IV × IV)) : lookC E 62 (.i (.v (.int .i64 n))) ok (some (.map es)) = ansM ok (some (.i (.v (.bool false)))) (findK (.v (.int .i64 n)) es) := lookC_int (kt := 3) (e := 4) (by kernel_rfl) (by kernel_rfl) (by kernel_rfl) n ok es
theorem sc62 (H : Hp) (n : Int) (x : IV) (c : Nat) (es : List (IV × IV)) : setC E H c 62 (.i (.v (.int .i64 n))) (.i x) (some (.map es)) = putR H c (putK (.v (.int .i64 n)) x es) := setC_int (kt := 3) (e := 4) (by kernel_rfl) (by kernel_rfl) n x c es
theorem lc76 (n : Int) (ok : Bool) (es : List (IV × IV)) : lookC E 76 (.i (.v (.int .i64 n))) ok (some (.map es)) = ansM ok (some (.i (.str []))) (findK (.v (.int .i64 n)) es) := lookC_int (kt := 3) (e := 9) (by kernel_rfl) (by kernel_rfl) (by kernel_rfl) n ok es
theorem sc76 (H : Hp) (n : Int) (x : IV) (c : Nat) (es : List (IV × IV)) : setC E H c 76 (.i (.v (.int .i64 n))) (.i x) (some (.map es)) = putR H c (putK (.v (.int .i64 n)) x es) := setC_int (kt := 3) (e := 9) (by kernel_rfl) (by kernel_rfl) n x c es
theorem lc77 (s : List UInt8) (ok : Bool) (es : List (IV × IV)) : lookC E 77 (.i (.str s)) ok (some (.map es)) = ansM ok (some (.i (.v (.int .i64 0)))) (findK (.str s) es) := lookC_str (kt := 9) (e := 3) (by kernel_rfl) (by kernel_rfl) (by kernel_rfl) s ok es
theorem sc77 (H : Hp) (s : List UInt8) (x : IV) (c : Nat) (es : List (IV × IV)) : setC E H c 77 (.i (.str s)) (.i x) (some (.map es)) = putR H c (putK (.str s) x es) := setC_str (kt := 9) (e := 3) (by kernel_rfl) (by kernel_rfl) s x c es
theorem lc96 (n : Int) (ok : Bool) (es : List (IV × IV)) : lookC E 96 (.i (.v (.int .i64 n))) ok (some (.map es)) = ansM ok (some (.i (.v .nilFunc))) (findK (.v (.int .i64 n)) es) := lookC_int (kt := 3) (e := 85) (by kernel_rfl) (by kernel_rfl) (by kernel_rfl) n ok es
theorem sc96 (H : Hp) (n : Int) (x : IV) (c : Nat) (es : List (IV × IV)) : setC E H c 96 (.i (.v (.int .i64 n))) (.i x) (some (.map es)) = putR H c (putK (.v (.int .i64 n)) x es) := setC_int (kt := 3) (e := 85) (by kernel_rfl) (by kernel_rfl) n x c es
theorem sx9 (H : Hp) (s : List UInt8) (lo hi : Option AV) : sliceE E H 9 (.i (.str s)) lo hi none = slSK s (bnd 0 lo) (bnd s.length hi) := sl_str (by kernel_rfl) s lo hi
theorem sx45 (H : Hp) (x : AV) (lo hi : Option AV) : sliceE E H 45 x lo hi none = slN 1 H lo hi x := sl_sl (e := 3) (z := 1) (by kernel_rfl) (by kernel_rfl) (by kernel_rfl) x lo hi
theorem sx72 (H : Hp) (x : AV) (lo hi : Option AV) : sliceE E H 72 x lo hi none = slN 1 H lo hi x := sl_sl (e := 9) (z := 1) (by kernel_rfl) (by kernel_rfl) (by kernel_rfl) x lo hi
theorem sw45 (H : Hp) (sz : Nat) (rows : List (List IV)) (ex : Bool) (k k' : IntKind) (h m : Int) : sliceE E H 45 (.i (.sl sz rows ex)) none (some (.i (.v (.int k h)))) (some (.i (.v (.int k' m)))) = if 0 ≤ h ∧ h = m ∧ h ≤ rows.length ∧ (rows = [] ∨ 1 = sz) then some (.i (.sl sz (rows.take h.toNat) true)) else none := sl_sl3 (e := 3) (by kernel_rfl) (by kernel_rfl) sz rows ex k k' h m
theorem sw72 (H : Hp) (sz : Nat) (rows : List (List IV)) (ex : Bool) (k k' : IntKind) (h m : Int) : sliceE E H 72 (.i (.sl sz rows ex)) none (some (.i (.v (.int k h)))) (some (.i (.v (.int k' m)))) = if 0 ≤ h ∧ h = m ∧ h ≤ rows.length ∧ (rows = [] ∨ 1 = sz) then some (.i (.sl sz (rows.take h.toNat) true)) else none := sl_sl3 (e := 9) (by kernel_rfl) (by kernel_rfl) sz rows ex k k' h m
theorem ap22_22 (H : Hp) (s x : AV) : appendE E H 22 22 s x = apS 2 H s (srcE H x) := ap_eq (by kernel_rfl) H s x
theorem ap45_45 (H : Hp) (s x : AV) : appendE E H 45 45 s x = apS 1 H s (srcE H x) := ap_eq (by kernel_rfl) H s x
theorem ap64_9 (H : Hp) (s x : AV) : appendE E H 64 9 s x = apS 1 H s (srcE H x) := ap_eq (by kernel_rfl) H s x
theorem ap64_64 (H : Hp) (s x : AV) : appendE E H 64 64 s x = apS 1 H s (srcE H x) := ap_eq (by kernel_rfl) H s x
theorem ap110_110 (H : Hp) (s x : AV) : appendE E H 110 110 s x = apS 1 H s (srcE H x) := ap_eq (by kernel_rfl) H s x
theorem ap120_120 (H : Hp) (s x : AV) : appendE E H 120 120 s x = apS 2 H s (srcE H x) := ap_eq (by kernel_rfl) H s x
theorem bs110 (H : Hp) (n : Nat) (hn : n * 1 ≤ 16777216) (parts : List (Nat × AV)) : buildSliceE E H 110 n parts = bsF [] 1 n H (fillA 1 (List.replicate n [.i (.v (.int .i32 0))]).flatten parts) := bs_eq (by kernel_rfl) H n hn parts
theorem br110 (n : Nat) (parts : List (Nat × AV)) : buildRefs E 110 n parts = brK (fillA 1 (List.replicate n [.i (.v (.int .i32 0))]).flatten parts) := br_eq (ks := []) (by kernel_rfl) n parts
theorem ms110 (H : Hp) (k k' : IntKind) (n m : Int) : makeSliceE E H 110 (.i (.v (.int k n))) (.i (.v (.int k' m))) = if 0 ≤ n ∧ n = m ∧ n < 1073741824 then some (.ref H.length 0 0 n.toNat, H ++ [.sl 1 0 (List.replicate n.toNat [.v (.int .i32 0)]) true]) else if n = 0 ∧ 0 < m ∧ m < 1073741824 then some (.ref H.length 0 0 0, H ++ [.sl 1 0 [] false]) else none := ms_eq (by kernel_rfl) H k k' n m
theorem bs120 (H : Hp) (n : Nat) (hn : n * 2 ≤ 16777216) (parts : List (Nat × AV)) : buildSliceE E H 120 n parts = bsF [] 2 n H (fillA 2 (List.replicate n [.i (.v (.int .i64 0)), .i (.v (.int .i64 0))]).flatten parts) := bs_eq (by kernel_rfl) H n hn parts
theorem br120 (n : Nat) (parts : List (Nat × AV)) : buildRefs E 120 n parts = brK (fillA 2 (List.replicate n [.i (.v (.int .i64 0)), .i (.v (.int .i64 0))]).flatten parts) := br_eq (ks := []) (by kernel_rfl) n parts
theorem ms120 (H : Hp) (k k' : IntKind) (n m : Int) : makeSliceE E H 120 (.i (.v (.int k n))) (.i (.v (.int k' m))) = if 0 ≤ n ∧ n = m ∧ n < 1073741824 then some (.ref H.length 0 0 n.toNat, H ++ [.sl 2 0 (List.replicate n.toNat [.v (.int .i64 0), .v (.int .i64 0)]) true]) else if n = 0 ∧ 0 < m ∧ m < 1073741824 then some (.ref H.length 0 0 0, H ++ [.sl 2 0 [] false]) else none := ms_eq (by kernel_rfl) H k k' n m
theorem bs22 (H : Hp) (n : Nat) (hn : n * 2 ≤ 16777216) (parts : List (Nat × AV)) : buildSliceE E H 22 n parts = bsF [] 2 n H (fillA 2 (List.replicate n [.i (.v (.int .i64 0)), .i (.v (.int .i64 0))]).flatten parts) := bs_eq (by kernel_rfl) H n hn parts
theorem br22 (n : Nat) (parts : List (Nat × AV)) : buildRefs E 22 n parts = brK (fillA 2 (List.replicate n [.i (.v (.int .i64 0)), .i (.v (.int .i64 0))]).flatten parts) := br_eq (ks := []) (by kernel_rfl) n parts
theorem ms22 (H : Hp) (k k' : IntKind) (n m : Int) : makeSliceE E H 22 (.i (.v (.int k n))) (.i (.v (.int k' m))) = if 0 ≤ n ∧ n = m ∧ n < 1073741824 then some (.ref H.length 0 0 n.toNat, H ++ [.sl 2 0 (List.replicate n.toNat [.v (.int .i64 0), .v (.int .i64 0)]) true]) else if n = 0 ∧ 0 < m ∧ m < 1073741824 then some (.ref H.length 0 0 0, H ++ [.sl 2 0 [] false]) else none := ms_eq (by kernel_rfl) H k k' n m
theorem bs23 (H : Hp) (n : Nat) (hn : n * 3 ≤ 16777216) (parts : List (Nat × AV)) : buildSliceE E H 23 n parts = bsF [] 3 n H (fillA 3 (List.replicate n [.i (.str []), .i (.v (.bool false)), .i (.v (.int .i64 0))]).flatten parts) := bs_eq (by kernel_rfl) H n hn parts
theorem br23 (n : Nat) (parts : List (Nat × AV)) : buildRefs E 23 n parts = brK (fillA 3 (List.replicate n [.i (.str []), .i (.v (.bool false)), .i (.v (.int .i64 0))]).flatten parts) := br_eq (ks := []) (by kernel_rfl) n parts
theorem ms23 (H : Hp) (k k' : IntKind) (n m : Int) : makeSliceE E H 23 (.i (.v (.int k n))) (.i (.v (.int k' m))) = if 0 ≤ n ∧ n = m ∧ n < 1073741824 then some (.ref H.length 0 0 n.toNat, H ++ [.sl 3 0 (List.replicate n.toNat [.str [], .v (.bool false), .v (.int .i64 0)]) true]) else if n = 0 ∧ 0 < m ∧ m < 1073741824 then some (.ref H.length 0 0 0, H ++ [.sl 3 0 [] false]) else none := ms_eq (by kernel_rfl) H k k' n m
theorem bs45 (H : Hp) (n : Nat) (hn : n * 1 ≤ 16777216) (parts : List (Nat × AV)) : buildSliceE E H 45 n parts = bsF [] 1 n H (fillA 1 (List.replicate n [.i (.v (.int .i64 0))]).flatten parts) := bs_eq (by kernel_rfl) H n hn parts
theorem br45 (n : Nat) (parts : List (Nat × AV)) : buildRefs E 45 n parts = brK (fillA 1 (List.replicate n [.i (.v (.int .i64 0))]).flatten parts) := br_eq (ks := []) (by kernel_rfl) n parts
theorem ms45 (H : Hp) (k k' : IntKind) (n m : Int) : makeSliceE E H 45 (.i (.v (.int k n))) (.i (.v (.int k' m))) = if 0 ≤ n ∧ n = m ∧ n < 1073741824 then some (.ref H.length 0 0 n.toNat, H ++ [.sl 1 0 (List.replicate n.toNat [.v (.int .i64 0)]) true]) else if n = 0 ∧ 0 < m ∧ m < 1073741824 then some (.ref H.length 0 0 0, H ++ [.sl 1 0 [] false]) else none := ms_eq (by kernel_rfl) H k k' n m
theorem bs48 (H : Hp) (n : Nat) (hn : n * 17 ≤ 16777216) (parts : List (Nat × AV)) : buildSliceE E H 48 n parts = bsF [] 17 n H (fillA 17 (List.replicate n [.i (.v (.bool false)), .i (.v (.bool false)), .i (.v (.bool false)), .i (.v (.bool false)), .i (.v (.bool false)), .i (.v (.bool false)), .i (.v (.bool false)), .i (.v (.bool false)), .i (.v (.bool false)), .i (.v (.bool false)), .i (.v (.bool false)), .i (.v (.bool false)), .i (.v (.bool false)), .i (.v (.bool false)), .i (.v (.bool false)), .i (.v (.bool false)), .i (.v (.bool false))]).flatten parts) := bs_eq (by kernel_rfl) H n hn parts
theorem br48 (n : Nat) (parts : List (Nat × AV)) : buildRefs E 48 n parts = brK (fillA 17 (List.replicate n [.i (.v (.bool false)), .i (.v (.bool false)), .i (.v (.bool false)), .i (.v (.bool false)), .i (.v (.bool false)), .i (.v (.bool false)), .i (.v (.bool false)), .i (.v (.bool false)), .i (.v (.bool false)), .i (.v (.bool false)), .i (.v (.bool false)), .i (.v (.bool false)), .i (.v (.bool false)), .i (.v (.bool false)), .i (.v (.bool false)), .i (.v (.bool false)), .i (.v (.bool false))]).flatten parts) := br_eq (ks := []) (by kernel_rfl) n parts
theorem ms48 (H : Hp) (k k' : IntKind) (n m : Int) : makeSliceE E H 48 (.i (.v (.int k n))) (.i (.v (.int k' m))) = if 0 ≤ n ∧ n = m ∧ n < 1073741824 then some (.ref H.length 0 0 n.toNat, H ++ [.sl 17 0 (List.replicate n.toNat [.v (.bool false), .v (.bool false), .v (.bool false), .v (.bool false), .v (.bool false), .v (.bool false), .v (.bool false), .v (.bool false), .v (.bool false), .v (.bool false), .v (.bool false), .v (.bool false), .v (.bool false), .v (.bool false), .v (.bool false), .v (.bool false), .v (.bool false)]) true]) else if n = 0 ∧ 0 < m ∧ m < 1073741824 then some (.ref H.length 0 0 0, H ++ [.sl 17 0 [] false]) else none := ms_eq (by kernel_rfl) H k k' n m
theorem bs64 (H : Hp) (n : Nat) (hn : n * 1 ≤ 16777216) (parts : List (Nat × AV)) : buildSliceE E H 64 n parts = bsF [] 1 n H (fillA 1 (List.replicate n [.i (.v (.int .u8 0))]).flatten parts) := bs_eq (by kernel_rfl) H n hn parts
theorem br64 (n : Nat) (parts : List (Nat × AV)) : buildRefs E 64 n parts = brK (fillA 1 (List.replicate n [.i (.v (.int .u8 0))]).flatten parts) := br_eq (ks := []) (by kernel_rfl) n parts
theorem ms64 (H : Hp) (k k' : IntKind) (n m : Int) : makeSliceE E H 64 (.i (.v (.int k n))) (.i (.v (.int k' m))) = if 0 ≤ n ∧ n = m ∧ n < 1073741824 then some (.ref H.length 0 0 n.toNat, H ++ [.sl 1 0 (List.replicate n.toNat [.v (.int .u8 0)]) true]) else if n = 0 ∧ 0 < m ∧ m < 1073741824 then some (.ref H.length 0 0 0, H ++ [.sl 1 0 [] false]) else none := ms_eq (by kernel_rfl) H k k' n m
theorem bs72 (H : Hp) (n : Nat) (hn : n * 1 ≤ 16777216) (parts : List (Nat × AV)) : buildSliceE E H 72 n parts = bsF [] 1 n H (fillA 1 (List.replicate n [.i (.str [])]).flatten parts) := bs_eq (by kernel_rfl) H n hn parts
theorem br72 (n : Nat) (parts : List (Nat × AV)) : buildRefs E 72 n parts = brK (fillA 1 (List.replicate n [.i (.str [])]).flatten parts) := br_eq (ks := []) (by kernel_rfl) n parts
theorem ms72 (H : Hp) (k k' : IntKind) (n m : Int) : makeSliceE E H 72 (.i (.v (.int k n))) (.i (.v (.int k' m))) = if 0 ≤ n ∧ n = m ∧ n < 1073741824 then some (.ref H.length 0 0 n.toNat, H ++ [.sl 1 0 (List.replicate n.toNat [.str []]) true]) else if n = 0 ∧ 0 < m ∧ m < 1073741824 then some (.ref H.length 0 0 0, H ++ [.sl 1 0 [] false]) else none := ms_eq (by kernel_rfl) H k k' n m
theorem st122 (H : Hp) (c g r k : Nat) (v : AV) : storeE E H 122 (.ptr c g r k) v = if (cellsA v).length = 2 ∧ (cellsA v).all one = true then stC [] 2 H c g r k (cellsA v) H[c]? else none := st_eq sz122 H c g r k v
theorem st124 (H : Hp) (c g r k : Nat) (v : AV) : storeE E H 124 (.ptr c g r k) v = if (cellsA v).length = 4 ∧ (cellsA v).all one = true then stC [] 4 H c g r k (cellsA v) H[c]? else none := st_eq sz124 H c g r k v
theorem st126 (H : Hp) (c g r k : Nat) (v : AV) : storeE E H 126 (.ptr c g r k) v = if (cellsA v).length = 24 ∧ (cellsA v).all one = true then stC [] 24 H c g r k (cellsA v) H[c]? else none := st_eq sz126 H c g r k v
theorem st127 (H : Hp) (c g r k : Nat) (v : AV) : storeE E H 127 (.ptr c g r k) v = if (cellsA v).length = 1 ∧ (cellsA v).all one = true then stC [] 1 H c g r k (cellsA v) H[c]? else none := st_eq sz127 H c g r k v
theorem st138 (H : Hp) (c g r k : Nat) (v : AV) : storeE E H 138 (.ptr c g r k) v = if (cellsA v).length = 20 ∧ (cellsA v).all one = true then stC [] 20 H c g r k (cellsA v) H[c]? else none := st_eq sz138 H c g r k v
theorem st140 (H : Hp) (c g r k : Nat) (v : AV) : storeE E H 140 (.ptr c g r k) v = if (cellsA v).length = 65 ∧ (cellsA v).all one = true then stC [] 65 H c g r k (cellsA v) H[c]? else none := st_eq sz140 H c g r k v
theorem st146 (H : Hp) (c g r k : Nat) (v : AV) : storeE E H 146 (.ptr c g r k) v = if (cellsA v).length = 2 ∧ (cellsA v).all one = true then stC [] 2 H c g r k (cellsA v) H[c]? else none := st_eq sz146 H c g r k v
theorem st147 (H : Hp) (c g r k : Nat) (v : AV) : storeE E H 147 (.ptr c g r k) v = if (cellsA v).length = 32 ∧ (cellsA v).all one = true then stC [] 32 H c g r k (cellsA v) H[c]? else none := st_eq sz147 H c g r k v
theorem st150 (H : Hp) (c g r k : Nat) (v : AV) : storeE E H 150 (.ptr c g r k) v = if (cellsA v).length = 32 ∧ (cellsA v).all one = true then stC [] 32 H c g r k (cellsA v) H[c]? else none := st_eq sz150 H c g r k v
theorem st151 (H : Hp) (c g r k : Nat) (v : AV) : storeE E H 151 (.ptr c g r k) v = if (cellsA v).length = 64 ∧ (cellsA v).all one = true then stC [] 64 H c g r k (cellsA v) H[c]? else none := st_eq sz151 H c g r k v
theorem st21 (H : Hp) (c g r k : Nat) (v : AV) : storeE E H 21 (.ptr c g r k) v = if (cellsA v).length = 1 ∧ (cellsA v).all one = true then stC [] 1 H c g r k (cellsA v) H[c]? else none := st_eq sz21 H c g r k v
theorem st22 (H : Hp) (c g r k : Nat) (v : AV) : storeE E H 22 (.ptr c g r k) v = if (cellsA v).length = 1 ∧ (cellsA v).all one = true then stC [some 2] 1 H c g r k (cellsA v) H[c]? else none := st_eq sz22 H c g r k v
theorem st23 (H : Hp) (c g r k : Nat) (v : AV) : storeE E H 23 (.ptr c g r k) v = if (cellsA v).length = 1 ∧ (cellsA v).all one = true then stC [some 3] 1 H c g r k (cellsA v) H[c]? else none := st_eq sz23 H c g r k v
theorem st25 (H : Hp) (c g r k : Nat) (v : AV) : storeE E H 25 (.ptr c g r k) v = if (cellsA v).length = 3 ∧ (cellsA v).all one = true then stC [] 3 H c g r k (cellsA v) H[c]? else none := st_eq sz25 H c g r k v
theorem st28 (H : Hp) (c g r k : Nat) (v : AV) : storeE E H 28 (.ptr c g r k) v = if (cellsA v).length = 1 ∧ (cellsA v).all one = true then stC [] 1 H c g r k (cellsA v) H[c]? else none := st_eq sz28 H c g r k v
theorem st3 (H : Hp) (c g r k : Nat) (v : AV) : storeE E H 3 (.ptr c g r k) v = if (cellsA v).length = 1 ∧ (cellsA v).all one = true then stC [] 1 H c g r k (cellsA v) H[c]? else none := st_eq sz3 H c g r k v
theorem st32 (H : Hp) (c g r k : Nat) (v : AV) : storeE E H 32 (.ptr c g r k) v = if (cellsA v).length = 5 ∧ (cellsA v).all one = true then stC [] 5 H c g r k (cellsA v) H[c]? else none := st_eq sz32 H c g r k v
theorem st4 (H : Hp) (c g r k : Nat) (v : AV) : storeE E H 4 (.ptr c g r k) v = if (cellsA v).length = 1 ∧ (cellsA v).all one = true then stC [] 1 H c g r k (cellsA v) H[c]? else none := st_eq sz4 H c g r k v
theorem st44 (H : Hp) (c g r k : Nat) (v : AV) : storeE E H 44 (.ptr c g r k) v = if (cellsA v).length = 2 ∧ (cellsA v).all one = true then stC [] 2 H c g r k (cellsA v) H[c]? else none := st_eq sz44 H c g r k v
theorem st45 (H : Hp) (c g r k : Nat) (v : AV) : storeE E H 45 (.ptr c g r k) v = if (cellsA v).length = 1 ∧ (cellsA v).all one = true then stC [some 1] 1 H c g r k (cellsA v) H[c]? else none := st_eq sz45 H c g r k v
theorem st48 (H : Hp) (c g r k : Nat) (v : AV) : storeE E H 48 (.ptr c g r k) v = if (cellsA v).length = 1 ∧ (cellsA v).all one = true then stC [some 17] 1 H c g r k (cellsA v) H[c]? else none := st_eq sz48 H c g r k v
theorem st49 (H : Hp) (c g r k : Nat) (v : AV) : storeE E H 49 (.ptr c g r k) v = if (cellsA v).length = 16 ∧ (cellsA v).all one = true then stC [] 16 H c g r k (cellsA v) H[c]? else none := st_eq sz49 H c g r k v
theorem st5 (H : Hp) (c g r k : Nat) (v : AV) : storeE E H 5 (.ptr c g r k) v = if (cellsA v).length = 1 ∧ (cellsA v).all one = true then stC [] 1 H c g r k (cellsA v) H[c]? else none := st_eq sz5 H c g r k v
theorem st51 (H : Hp) (c g r k : Nat) (v : AV) : storeE E H 51 (.ptr c g r k) v = if (cellsA v).length = 17 ∧ (cellsA v).all one = true then stC [] 17 H c g r k (cellsA v) H[c]? else none := st_eq sz51 H c g r k v
theorem st57 (H : Hp) (c g r k : Nat) (v : AV) : storeE E H 57 (.ptr c g r k) v = if (cellsA v).length = 16 ∧ (cellsA v).all one = true then stC [] 16 H c g r k (cellsA v) H[c]? else none := st_eq sz57 H c g r k v
theorem st59 (H : Hp) (c g r k : Nat) (v : AV) : storeE E H 59 (.ptr c g r k) v = if (cellsA v).length = 23 ∧ (cellsA v).all one = true then stC [none, some 3, none, none, none, none, none, none, none, none, none, none, none, none, none, none, none, none, none, none, none, none, none] 23 H c g r k (cellsA v) H[c]? else none := st_eq sz59 H c g r k v
theorem st63 (H : Hp) (c g r k : Nat) (v : AV) : storeE E H 63 (.ptr c g r k) v = if (cellsA v).length = 1 ∧ (cellsA v).all one = true then stC [] 1 H c g r k (cellsA v) H[c]? else none := st_eq sz63 H c g r k v
theorem st64 (H : Hp) (c g r k : Nat) (v : AV) : storeE E H 64 (.ptr c g r k) v = if (cellsA v).length = 1 ∧ (cellsA v).all one = true then stC [some 1] 1 H c g r k (cellsA v) H[c]? else none := st_eq sz64 H c g r k v
theorem st66 (H : Hp) (c g r k : Nat) (v : AV) : storeE E H 66 (.ptr c g r k) v = if (cellsA v).length = 2 ∧ (cellsA v).all one = true then stC [none, some 1] 2 H c g r k (cellsA v) H[c]? else none := st_eq sz66 H c g r k v
theorem st76 (H : Hp) (c g r k : Nat) (v : AV) : storeE E H 76 (.ptr c g r k) v = if (cellsA v).length = 1 ∧ (cellsA v).all one = true then stC [] 1 H c g r k (cellsA v) H[c]? else none := st_eq sz76 H c g r k v
theorem st77 (H : Hp) (c g r k : Nat) (v : AV) : storeE E H 77 (.ptr c g r k) v = if (cellsA v).length = 1 ∧ (cellsA v).all one = true then stC [] 1 H c g r k (cellsA v) H[c]? else none := st_eq sz77 H c g r k v
theorem st79 (H : Hp) (c g r k : Nat) (v : AV) : storeE E H 79 (.ptr c g r k) v = if (cellsA v).length = 4 ∧ (cellsA v).all one = true then stC [some 2, some 1, none, none] 4 H c g r k (cellsA v) H[c]? else none := st_eq sz79 H c g r k v
theorem st89 (H : Hp) (c g r k : Nat) (v : AV) : storeE E H 89 (.ptr c g r k) v = if (cellsA v).length = 3 ∧ (cellsA v).all one = true then stC [] 3 H c g r k (cellsA v) H[c]? else none := st_eq sz89 H c g r k v
theorem st9 (H : Hp) (c g r k : Nat) (v : AV) : storeE E H 9 (.ptr c g r k) v = if (cellsA v).length = 1 ∧ (cellsA v).all one = true then stC [] 1 H c g r k (cellsA v) H[c]? else none := st_eq sz9 H c g r k v
theorem st90 (H : Hp) (c g r k : Nat) (v : AV) : storeE E H 90 (.ptr c g r k) v = if (cellsA v).length = 21 ∧ (cellsA v).all one = true then stC [] 21 H c g r k (cellsA v) H[c]? else none := st_eq sz90 H c g r k v
def en3 := And.intro @ent3 (And.intro @res3 (And.intro @rk3 (And.intro @ow3 (And.intro @kp3_0 (And.intro @kp3_1 (And.intro @kp3_2 (And.intro @kp3_3 (And.intro @kp3_4 (And.intro @kp3_5 (And.intro @kp3_6 (And.intro @kp3_7 (And.intro @kp3_8 (And.intro @kp3_9 (And.intro @kp3_10 (And.intro @kp3_11 (And.intro @kp3_12 (And.intro @kp3_13 (And.intro @kp3_14 (And.intro @kp3_15 (And.intro @fl3_6 (And.intro @dr3_6 (And.intro @fl3_15 (And.intro @dr3_15 (And.intro @sq29 (And.intro @ent4 (And.intro @ci4 (And.intro @cr4 (And.intro @ak4 (And.intro @ent5 (And.intro @ci5 (And.intro @cr5 (And.intro @ak5 (And.intro @ent6 (And.intro @ci6 (And.intro @cr6 (And.intro @ak6 (And.intro @ent7 (And.intro @ci7 (And.intro @cr7 (And.intro @ak7 (And.intro @ent8 (And.intro @ci8 (And.intro @cr8 (And.intro @ak8 (And.intro @ent9 (And.intro @ci9 (And.intro @cr9 (And.intro @ak9 (And.intro @ent10 (And.intro @ci10 (And.intro @cr10 (And.intro @ak10 (And.intro @ent11 (And.intro @ci11 (And.intro @cr11 (And.intro @ak11 (And.intro @agg22 (And.intro @agg23 (And.intro @agg25 (And.intro @agg28 (And.intro @agg3 (And.intro @agg32 (And.intro @agg44 (And.intro @agg89 (And.intro @agg9 (And.intro @arrz32 (And.intro @arrz44 (And.intro @arrz89 (And.intro @eqg25 (And.intro @eqg32 (And.intro @fld32_0 (And.intro @fld32_2 (And.intro @kind22 (And.intro @kind23 (And.intro @kind25 (And.intro @kind3 (And.intro @cv3_5 (And.intro @cv21_3 (And.intro @cv3_127 (And.intro @cv5_3 (And.intro @cv3_87 (And.intro @kind44 (And.intro @kind89 (And.intro @kind9 (And.intro @cv64_9 (And.intro @cv9_64 (And.intro @lv25 (And.intro @lv32 (And.intro @pl32 (And.intro @pl44 (And.intro @pl89 (And.intro @sl22 (And.intro @ms22 (And.intro @br22 (And.intro @ap22_22 (And.intro @sl23 (And.intro @ms23 (And.intro @br23 (And.intro @sl25 (And.intro @sl3 (And.intro @sl9 (And.intro @sx9 (And.intro @str22 (And.intro @str23 (And.intro @str25 (And.intro @str3 (And.intro @str9 (And.intro @sz25 (And.intro @st25 (And.intro @sz28 (And.intro @st28 (And.intro @sz32 (And.intro @st32 (And.intro @sz44 (And.intro @st44 (And.intro @sz89 (And.intro @st89 (And.intro @zero32 (And.intro @bd32 (And.intro @zero44 (And.intro @bd44 (And.intro @zero89 (@bd89)))))))))))))))))))))))))))))))))))))))))))))))))))))))))))))))))))))))))))))))))))))))))))))))))))))))))))))))))))))))))))
def en4 := And.intro @ent4 (And.intro @res4 (And.intro @rk4 (And.intro @ow4 (And.intro @kp4_0 (And.intro @kp4_1 (And.intro @sq29 (And.intro @ent12 (And.intro @ci12 (And.intro @cr12 (And.intro @ak12 (And.intro @agg22 (And.intro @agg23 (And.intro @agg44 (And.intro @agg89 (And.intro @arrz44 (And.intro @arrz89 (And.intro @kind22 (And.intro @kind23 (And.intro @kind44 (And.intro @kind89 (And.intro @pl44 (And.intro @pl89 (And.intro @sl22 (And.intro @ms22 (And.intro @br22 (And.intro @ap22_22 (And.intro @sl23 (And.intro @ms23 (And.intro @br23 (And.intro @str22 (And.intro @str23 (And.intro @sz44 (And.intro @st44 (And.intro @sz89 (And.intro @st89 (And.intro @zero44 (And.intro @bd44 (And.intro @zero89 (@bd89)))))))))))))))))))))))))))))))))))))))
def en5 := And.intro @ent5 (And.intro @res5 (And.intro @rk5 (And.intro @ow5 (And.intro @kp5_0 (And.intro @kp5_1 (And.intro @sq29 (And.intro @ent13 (And.intro @ci13 (And.intro @cr13 (And.intro @ak13 (And.intro @agg22 (And.intro @agg3 (And.intro @agg44 (And.intro @arr44 (And.intro @arrz44 (And.intro @fld44_0 (And.intro @kind22 (And.intro @kind44 (And.intro @pl44 (And.intro @sl22 (And.intro @ms22 (And.intro @br22 (And.intro @ap22_22 (And.intro @str22 (And.intro @sz3 (And.intro @st3 (And.intro @sz44 (And.intro @st44 (And.intro @zero44 (@bd44))))))))))))))))))))))))))))))
def en6 := And.intro @ent6 (And.intro @res6 (And.intro @rk6 (And.intro @ow6 (And.intro @kp6_0 (And.intro @kp6_1 (And.intro @kp6_2 (And.intro @kp6_3 (And.intro @kp6_4 (And.intro @kp6_5 (And.intro @kp6_6 (And.intro @kp6_7 (And.intro @kp6_8 (And.intro @kp6_9 (And.intro @kp6_10 (And.intro @kp6_11 (And.intro @kp6_12 (And.intro @kp6_13 (And.intro @kp6_14 (And.intro @kp6_15 (And.intro @kp6_16 (And.intro @kp6_17 (And.intro @kp6_18 (And.intro @kp6_19 (And.intro @kp6_20 (And.intro @kp6_21 (And.intro @kp6_22 (And.intro @hd6_6 (And.intro @hd6_17 (And.intro @fl6_12 (And.intro @dr6_12 (And.intro @fl6_15 (And.intro @dr6_15 (And.intro @fl6_19 (And.intro @dr6_19 (And.intro @sq29 (And.intro @ent14 (And.intro @ci14 (And.intro @cr14 (And.intro @ak14 (And.intro @ent15 (And.intro @ci15 (And.intro @cr15 (And.intro @ak15 (And.intro @ent16 (And.intro @ci16 (And.intro @cr16 (And.intro @ak16 (And.intro @agg22 (And.intro @agg3 (And.intro @agg4 (And.intro @agg44 (And.intro @agg45 (And.intro @agg48 (And.intro @agg49 (And.intro @agg51 (And.intro @arr22 (And.intro @arr45 (And.intro @arr48 (And.intro @arr49 (And.intro @arrz44 (And.intro @arrz51 (And.intro @fld44_0 (And.intro @fld51_0 (And.intro @fld51_1 (And.intro @kind22 (And.intro @kind3 (And.intro @cv3_5 (And.intro @cv21_3 (And.intro @cv3_127 (And.intro @cv5_3 (And.intro @cv3_87 (And.intro @kind44 (And.intro @kind45 (And.intro @kind48 (And.intro @kind49 (And.intro @kind51 (And.intro @pl44 (And.intro @pl51 (And.intro @sl22 (And.intro @ms22 (And.intro @br22 (And.intro @ap22_22 (And.intro @sl3 (And.intro @sl44 (And.intro @sl45 (And.intro @ms45 (And.intro @br45 (And.intro @sx45 (And.intro @sw45 (And.intro @ap45_45 (And.intro @sl48 (And.intro @ms48 (And.intro @br48 (And.intro @sl49 (And.intro @sl51 (And.intro @str22 (And.intro @str3 (And.intro @str44 (And.intro @str45 (And.intro @str48 (And.intro @str49 (And.intro @str51 (And.intro @sz3 (And.intro @st3 (And.intro @sz4 (And.intro @st4 (And.intro @sz44 (And.intro @st44 (And.intro @sz48 (And.intro @st48 (And.intro @sz49 (And.intro @st49 (And.intro @sz51 (And.intro @st51 (And.intro @zero3 (And.intro @zero44 (And.intro @bd44 (And.intro @zero48 (And.intro @zero51 (@bd51))))))))))))))))))))))))))))))))))))))))))))))))))))))))))))))))))))))))))))))))))))))))))))))))))))))))))))))))))))))))
def en7 := And.intro @ent7 (And.intro @res7 (And.intro @rk7 (And.intro @ow7 (And.intro @kp7_0 (And.intro @kp7_1 (And.intro @kp7_2 (And.intro @kp7_3 (And.intro @kp7_4 (And.intro @kp7_5 (And.intro @kp7_6 (And.intro @kp7_7 (And.intro @kp7_8 (And.intro @kp7_9 (And.intro @kp7_10 (And.intro @kp7_11 (And.intro @kp7_12 (And.intro @kp7_13 (And.intro @kp7_14 (And.intro @kp7_15 (And.intro @kp7_16 (And.intro @kp7_17 (And.intro @kp7_18 (And.intro @kp7_19 (And.intro @kp7_20 (And.intro @kp7_21 (And.intro @kp7_22 (And.intro @kp7_23 (And.intro @kp7_24 (And.intro @kp7_25 (And.intro @hd7_8 (And.intro @sq29 (And.intro @ent17 (And.intro @ci17 (And.intro @cr17 (And.intro @ak17 (And.intro @ent18 (And.intro @ci18 (And.intro @cr18 (And.intro @ak18 (And.intro @ent19 (And.intro @ci19 (And.intro @cr19 (And.intro @ak19 (And.intro @agg22 (And.intro @agg23 (And.intro @agg25 (And.intro @agg28 (And.intro @agg3 (And.intro @agg32 (And.intro @agg4 (And.intro @agg44 (And.intro @agg56 (And.intro @agg59 (And.intro @arr22 (And.intro @arr32 (And.intro @arr59 (And.intro @arrz32 (And.intro @arrz44 (And.intro @arrz59 (And.intro @fld32_0 (And.intro @fld32_1 (And.intro @fld32_2 (And.intro @fld44_0 (And.intro @fld44_1 (And.intro @fld59_0 (And.intro @fld59_1 (And.intro @fld59_2 (And.intro @fld59_5 (And.intro @kind22 (And.intro @kind3 (And.intro @cv3_5 (And.intro @cv21_3 (And.intro @cv3_127 (And.intro @cv5_3 (And.intro @cv3_87 (And.intro @kind44 (And.intro @kind56 (And.intro @pl32 (And.intro @pl44 (And.intro @pl59 (And.intro @sl22 (And.intro @ms22 (And.intro @br22 (And.intro @ap22_22 (And.intro @sl3 (And.intro @sl44 (And.intro @sl56 (And.intro @str22 (And.intro @str3 (And.intro @str44 (And.intro @str56 (And.intro @sz23 (And.intro @st23 (And.intro @sz25 (And.intro @st25 (And.intro @sz28 (And.intro @st28 (And.intro @sz3 (And.intro @st3 (And.intro @sz32 (And.intro @st32 (And.intro @sz4 (And.intro @st4 (And.intro @sz44 (And.intro @st44 (And.intro @sz59 (And.intro @st59 (And.intro @zero32 (And.intro @bd32 (And.intro @zero44 (And.intro @bd44 (And.intro @zero59 (@bd59)))))))))))))))))))))))))))))))))))))))))))))))))))))))))))))))))))))))))))))))))))))))))))))))))))))))))))))))))
def en8 := And.intro @ent8 (And.intro @res8 (And.intro @rk8 (And.intro @ow8 (And.intro @kp8_0 (And.intro @kp8_1 (And.intro @kp8_2 (And.intro @kp8_3 (And.intro @kp8_4 (And.intro @kp8_5 (And.intro @kp8_6 (And.intro @kp8_7 (And.intro @kp8_8 (And.intro @kp8_9 (And.intro @kp8_10 (And.intro @kp8_11 (And.intro @kp8_12 (And.intro @kp8_13 (And.intro @kp8_14 (And.intro @kp8_15 (And.intro @kp8_16 (And.intro @kp8_17 (And.intro @kp8_18 (And.intro @kp8_19 (And.intro @kp8_20 (And.intro @kp8_21 (And.intro @kp8_22 (And.intro @kp8_23 (And.intro @kp8_24 (And.intro @kp8_25 (And.intro @kp8_26 (And.intro @kp8_27 (And.intro @hd8_6 (And.intro @hd8_13 (And.intro @fl8_18 (And.intro @dr8_18 (And.intro @sq29 (And.intro @ent17 (And.intro @ci17 (And.intro @cr17 (And.intro @ak17 (And.intro @ent20 (And.intro @ci20 (And.intro @cr20 (And.intro @ak20 (And.intro @xk20 (And.intro @ent21 (And.intro @ci21 (And.intro @cr21 (And.intro @ak21 (And.intro @xk21 (And.intro @ent22 (And.intro @ci22 (And.intro @cr22 (And.intro @ak22 (And.intro @ent23 (And.intro @ci23 (And.intro @cr23 (And.intro @ak23 (And.intro @xk23 (And.intro @agg22 (And.intro @agg3 (And.intro @agg44 (And.intro @agg66 (And.intro @agg72 (And.intro @agg9 (And.intro @arr22 (And.intro @arr72 (And.intro @arrz44 (And.intro @arrz66 (And.intro @fld44_0 (And.intro @fld44_1 (And.intro @kind22 (And.intro @kind3 (And.intro @cv3_5 (And.intro @cv21_3 (And.intro @cv3_127 (And.intro @cv5_3 (And.intro @cv3_87 (And.intro @kind44 (And.intro @kind66 (And.intro @kind72 (And.intro @kind9 (And.intro @cv64_9 (And.intro @cv9_64 (And.intro @mp62 (And.intro @lc62 (And.intro @sc62 (And.intro @pl44 (And.intro @pl66 (And.intro @sl22 (And.intro @ms22 (And.intro @br22 (And.intro @ap22_22 (And.intro @sl3 (And.intro @sl66 (And.intro @sl72 (And.intro @ms72 (And.intro @br72 (And.intro @sx72 (And.intro @sw72 (And.intro @sl9 (And.intro @sx9 (And.intro @str22 (And.intro @str3 (And.intro @str66 (And.intro @str72 (And.intro @str9 (And.intro @sz3 (And.intro @st3 (And.intro @sz44 (And.intro @st44 (And.intro @sz66 (And.intro @st66 (And.intro @sz9 (And.intro @st9 (And.intro @zero4 (And.intro @zero44 (And.intro @bd44 (And.intro @zero66 (And.intro @bd66 (And.intro @zx66 (And.intro @zo66 (@zero9)))))))))))))))))))))))))))))))))))))))))))))))))))))))))))))))))))))))))))))))))))))))))))))))))))))))))))))))))))))))))))
def en9 := And.intro @ent9 (And.intro @res9 (And.intro @rk9 (And.intro @ow9 (And.intro @kp9_0 (And.intro @kp9_1 (And.intro @kp9_2 (And.intro @kp9_3 (And.intro @kp9_4 (And.intro @kp9_5 (And.intro @kp9_6 (And.intro @kp9_7 (And.intro @kp9_8 (And.intro @kp9_9 (And.intro @kp9_10 (And.intro @kp9_11 (And.intro @kp9_12 (And.intro @kp9_13 (And.intro @kp9_14 (And.intro @kp9_15 (And.intro @kp9_16 (And.intro @kp9_17 (And.intro @kp9_18 (And.intro @kp9_19 (And.intro @kp9_20 (And.intro @kp9_21 (And.intro @hd9_3 (And.intro @hd9_10 (And.intro @fl9_16 (And.intro @dr9_16 (And.intro @fl9_18 (And.intro @dr9_18 (And.intro @sq29 (And.intro @ent24 (And.intro @ci24 (And.intro @cr24 (And.intro @ak24 (And.intro @ent25 (And.intro @ci25 (And.intro @cr25 (And.intro @ak25 (And.intro @ent26 (And.intro @ci26 (And.intro @cr26 (And.intro @ak26 (And.intro @agg22 (And.intro @agg3 (And.intro @agg44 (And.intro @agg45 (And.intro @agg72 (And.intro @agg75 (And.intro @agg76 (And.intro @agg77 (And.intro @agg79 (And.intro @agg9 (And.intro @arr22 (And.intro @arr45 (And.intro @arr72 (And.intro @arr79 (And.intro @arrz44 (And.intro @arrz79 (And.intro @fld44_1 (And.intro @fld79_0 (And.intro @fld79_1 (And.intro @fld79_2 (And.intro @fld79_3 (And.intro @kind22 (And.intro @kind3 (And.intro @cv3_5 (And.intro @cv21_3 (And.intro @cv3_127 (And.intro @cv5_3 (And.intro @cv3_87 (And.intro @kind44 (And.intro @kind45 (And.intro @kind72 (And.intro @kind75 (And.intro @kind9 (And.intro @cv64_9 (And.intro @cv9_64 (And.intro @mp76 (And.intro @lc76 (And.intro @sc76 (And.intro @mp77 (And.intro @lc77 (And.intro @sc77 (And.intro @pl44 (And.intro @pl79 (And.intro @sl22 (And.intro @ms22 (And.intro @br22 (And.intro @ap22_22 (And.intro @sl3 (And.intro @sl45 (And.intro @ms45 (And.intro @br45 (And.intro @sx45 (And.intro @sw45 (And.intro @ap45_45 (And.intro @sl72 (And.intro @ms72 (And.intro @br72 (And.intro @sx72 (And.intro @sw72 (And.intro @sl75 (And.intro @sl9 (And.intro @sx9 (And.intro @str22 (And.intro @str3 (And.intro @str45 (And.intro @str72 (And.intro @str75 (And.intro @str9 (And.intro @sz22 (And.intro @st22 (And.intro @sz3 (And.intro @st3 (And.intro @sz44 (And.intro @st44 (And.intro @sz45 (And.intro @st45 (And.intro @sz76 (And.intro @st76 (And.intro @sz77 (And.intro @st77 (And.intro @sz79 (And.intro @st79 (And.intro @sz9 (And.intro @st9 (And.intro @zero3 (And.intro @zero44 (And.intro @bd44 (And.intro @zero79 (And.intro @bd79 (@zero9))))))))))))))))))))))))))))))))))))))))))))))))))))))))))))))))))))))))))))))))))))))))))))))))))))))))))))))))))))))))))))))))))))))
def en10 := And.intro @ent10 (And.intro @res10 (And.intro @rk10 (And.intro @ow10 (And.intro @kp10_0 (And.intro @kp10_1 (And.intro @kp10_2 (And.intro @kp10_3 (And.intro @kp10_4 (And.intro @kp10_5 (And.intro @kp10_6 (And.intro @kp10_7 (And.intro @kp10_8 (And.intro @kp10_9 (And.intro @kp10_10 (And.intro @kp10_11 (And.intro @kp10_12 (And.intro @kp10_13 (And.intro @kp10_14 (And.intro @kp10_15 (And.intro @hd10_6 (And.intro @hd10_11 (And.intro @fl10_9 (And.intro @dr10_9 (And.intro @sq29 (And.intro @ent17 (And.intro @ci17 (And.intro @cr17 (And.intro @ak17 (And.intro @ent27 (And.intro @ci27 (And.intro @cr27 (And.intro @ak27 (And.intro @ent28 (And.intro @ci28 (And.intro @cr28 (And.intro @ak28 (And.intro @agg22 (And.intro @agg3 (And.intro @agg44 (And.intro @agg5 (And.intro @agg64 (And.intro @agg9 (And.intro @arr22 (And.intro @arrz44 (And.intro @fld44_0 (And.intro @fld44_1 (And.intro @kind22 (And.intro @kind3 (And.intro @cv3_5 (And.intro @cv21_3 (And.intro @cv3_127 (And.intro @cv5_3 (And.intro @cv3_87 (And.intro @kind44 (And.intro @kind5 (And.intro @cv127_5 (And.intro @cv5_21 (And.intro @cv139_5 (And.intro @cv5_139 (And.intro @kind64 (And.intro @cv64_9 (And.intro @cv9_64 (And.intro @kind9 (And.intro @pl44 (And.intro @sl22 (And.intro @ms22 (And.intro @br22 (And.intro @ap22_22 (And.intro @sl3 (And.intro @sl5 (And.intro @sl64 (And.intro @ms64 (And.intro @br64 (And.intro @ap64_9 (And.intro @ap64_64 (And.intro @sl9 (And.intro @sx9 (And.intro @str22 (And.intro @str3 (And.intro @str5 (And.intro @str64 (And.intro @str9 (And.intro @sz3 (And.intro @st3 (And.intro @sz44 (And.intro @st44 (And.intro @sz5 (And.intro @st5 (And.intro @zero44 (And.intro @bd44 (@zero5)))))))))))))))))))))))))))))))))))))))))))))))))))))))))))))))))))))))))))))))))))))))))))
def en11 := And.intro @ent11 (And.intro @res11 (And.intro @rk11 (And.intro @ow11 (And.intro @kp11_0 (And.intro @kp11_1 (And.intro @kp11_2 (And.intro @kp11_3 (And.intro @kp11_4 (And.intro @kp11_5 (And.intro @kp11_6 (And.intro @kp11_7 (And.intro @kp11_8 (And.intro @kp11_9 (And.intro @kp11_10 (And.intro @kp11_11 (And.intro @kp11_12 (And.intro @kp11_13 (And.intro @kp11_14 (And.intro @kp11_15 (And.intro @kp11_16 (And.intro @kp11_17 (And.intro @kp11_18 (And.intro @kp11_19 (And.intro @kp11_20 (And.intro @kp11_21 (And.intro @hd11_2 (And.intro @hd11_12 (And.intro @sq29 (And.intro @ent17 (And.intro @ci17 (And.intro @cr17 (And.intro @ak17 (And.intro @ent22 (And.intro @ci22 (And.intro @cr22 (And.intro @ak22 (And.intro @ent27 (And.intro @ci27 (And.intro @cr27 (And.intro @ak27 (And.intro @ent28 (And.intro @ci28 (And.intro @cr28 (And.intro @ak28 (And.intro @agg22 (And.intro @agg3 (And.intro @agg44 (And.intro @agg5 (And.intro @agg64 (And.intro @agg72 (And.intro @agg9 (And.intro @arr44 (And.intro @arr64 (And.intro @arr9 (And.intro @arrz44 (And.intro @fld44_0 (And.intro @fld44_1 (And.intro @kind22 (And.intro @kind3 (And.intro @cv3_5 (And.intro @cv21_3 (And.intro @cv3_127 (And.intro @cv5_3 (And.intro @cv3_87 (And.intro @kind44 (And.intro @kind5 (And.intro @cv127_5 (And.intro @cv5_21 (And.intro @cv139_5 (And.intro @cv5_139 (And.intro @kind64 (And.intro @cv64_9 (And.intro @cv9_64 (And.intro @kind72 (And.intro @kind9 (And.intro @pl44 (And.intro @sl22 (And.intro @ms22 (And.intro @br22 (And.intro @ap22_22 (And.intro @sl3 (And.intro @sl5 (And.intro @sl64 (And.intro @ms64 (And.intro @br64 (And.intro @ap64_9 (And.intro @ap64_64 (And.intro @sl72 (And.intro @ms72 (And.intro @br72 (And.intro @sx72 (And.intro @sw72 (And.intro @sl9 (And.intro @sx9 (And.intro @str22 (And.intro @str3 (And.intro @str5 (And.intro @str64 (And.intro @str72 (And.intro @str9 (And.intro @sz3 (And.intro @st3 (And.intro @sz44 (And.intro @st44 (And.intro @sz5 (And.intro @st5 (And.intro @sz9 (And.intro @st9 (And.intro @zero44 (And.intro @bd44 (And.intro @zero5 (@zero9))))))))))))))))))))))))))))))))))))))))))))))))))))))))))))))))))))))))))))))))))))))))))))))))))))))))))))))))
def en12 := And.intro @ent12 (And.intro @res12 (And.intro @rk12 (And.intro @ow12 (And.intro @kp12_0 (And.intro @kp12_1 (And.intro @kp12_2 (And.intro @kp12_3 (And.intro @kp12_4 (And.intro @kp12_5 (And.intro @kp12_6 (And.intro @kp12_7 (And.intro @kp12_8 (And.intro @hd12_4 (And.intro @sq29 (And.intro @agg23 (And.intro @agg89 (And.intro @agg9 (And.intro @arr23 (And.intro @arrz89 (And.intro @fld89_0 (And.intro @kind23 (And.intro @kind89 (And.intro @kind9 (And.intro @cv64_9 (And.intro @cv9_64 (And.intro @pl89 (And.intro @sl23 (And.intro @ms23 (And.intro @br23 (And.intro @sl9 (And.intro @sx9 (And.intro @str23 (And.intro @str9 (And.intro @sz89 (And.intro @st89 (And.intro @sz9 (And.intro @st9 (And.intro @zero89 (@bd89)))))))))))))))))))))))))))))))))))))))
def en13 := And.intro @ent13 (And.intro @res13 (And.intro @rk13 (And.intro @ow13 (And.intro @kp13_0 (And.intro @kp13_1 (And.intro @kp13_2 (And.intro @sq29 (And.intro @ent14 (And.intro @ci14 (And.intro @cr14 (And.intro @ak14 (And.intro @agg22 (And.intro @agg44 (And.intro @arrz44 (And.intro @kind22 (And.intro @kind44 (And.intro @pl44 (And.intro @sl22 (And.intro @ms22 (And.intro @br22 (And.intro @ap22_22 (And.intro @str22 (And.intro @sz44 (And.intro @st44 (And.intro @zero44 (@bd44))))))))))))))))))))))))))
def en14 := And.intro @ent14 (And.intro @res14 (And.intro @rk14 (And.intro @ow14 (And.intro @kp14_0 (And.intro @kp14_1 (And.intro @kp14_2 (And.intro @kp14_3 (And.intro @kp14_4 (And.intro @kp14_5 (And.intro @kp14_6 (And.intro @kp14_7 (And.intro @kp14_8 (And.intro @kp14_9 (And.intro @kp14_10 (And.intro @kp14_11 (And.intro @kp14_12 (And.intro @kp14_13 (And.intro @kp14_14 (And.intro @kp14_15 (And.intro @kp14_16 (And.intro @kp14_17 (And.intro @kp14_18 (And.intro @kp14_19 (And.intro @kp14_20 (And.intro @kp14_21 (And.intro @kp14_22 (And.intro @kp14_23 (And.intro @kp14_24 (And.intro @hd14_6 (And.intro @hd14_12 (And.intro @fl14_15 (And.intro @dr14_15 (And.intro @fl14_16 (And.intro @dr14_16 (And.intro @fl14_20 (And.intro @dr14_20 (And.intro @sq29 (And.intro @ent16 (And.intro @ci16 (And.intro @cr16 (And.intro @ak16 (And.intro @ent17 (And.intro @ci17 (And.intro @cr17 (And.intro @ak17 (And.intro @agg22 (And.intro @agg28 (And.intro @agg3 (And.intro @agg44 (And.intro @agg45 (And.intro @agg90 (And.intro @arr22 (And.intro @arr45 (And.intro @arr90 (And.intro @arrz44 (And.intro @fld44_0 (And.intro @kind22 (And.intro @kind3 (And.intro @cv3_5 (And.intro @cv21_3 (And.intro @cv3_127 (And.intro @cv5_3 (And.intro @cv3_87 (And.intro @kind44 (And.intro @kind45 (And.intro @kind90 (And.intro @pl44 (And.intro @sl22 (And.intro @ms22 (And.intro @br22 (And.intro @ap22_22 (And.intro @sl3 (And.intro @sl44 (And.intro @sl45 (And.intro @ms45 (And.intro @br45 (And.intro @sx45 (And.intro @sw45 (And.intro @ap45_45 (And.intro @sl90 (And.intro @str22 (And.intro @str3 (And.intro @str44 (And.intro @str45 (And.intro @str90 (And.intro @sz22 (And.intro @st22 (And.intro @sz28 (And.intro @st28 (And.intro @sz3 (And.intro @st3 (And.intro @sz44 (And.intro @st44 (And.intro @sz45 (And.intro @st45 (And.intro @zero28 (And.intro @zero3 (And.intro @zero44 (And.intro @bd44 (@zero45))))))))))))))))))))))))))))))))))))))))))))))))))))))))))))))))))))))))))))))))))))))))))))))))))))
def en15 := And.intro @ent15 (And.intro @res15 (And.intro @rk15 (And.intro @ow15 (And.intro @kp15_0 (And.intro @kp15_1 (And.intro @kp15_2 (And.intro @kp15_3 (And.intro @kp15_4 (And.intro @kp15_5 (And.intro @kp15_6 (And.intro @kp15_7 (And.intro @kp15_8 (And.intro @kp15_9 (And.intro @kp15_10 (And.intro @kp15_11 (And.intro @kp15_12 (And.intro @kp15_13 (And.intro @kp15_14 (And.intro @kp15_15 (And.intro @kp15_16 (And.intro @kp15_17 (And.intro @kp15_18 (And.intro @hd15_15 (And.intro @fl15_9 (And.intro @dr15_9 (And.intro @fl15_14 (And.intro @dr15_14 (And.intro @sq29 (And.intro @agg3 (And.intro @agg4 (And.intro @agg49 (And.intro @agg51 (And.intro @agg90 (And.intro @arr49 (And.intro @arr90 (And.intro @arrz51 (And.intro @fld51_0 (And.intro @fld51_1 (And.intro @kind49 (And.intro @kind90 (And.intro @pl51 (And.intro @sl49 (And.intro @sl90 (And.intro @str49 (And.intro @str90 (And.intro @sz3 (And.intro @st3 (And.intro @sz4 (And.intro @st4 (And.intro @sz49 (And.intro @st49 (And.intro @sz51 (And.intro @st51 (And.intro @zero51 (@bd51)))))))))))))))))))))))))))))))))))))))))))))))))))))))
def en16 := And.intro @ent16 (And.intro @res16 (And.intro @rk16 (And.intro @ow16 (And.intro @kp16_0 (And.intro @kp16_1 (And.intro @sq29 (And.intro @ent29 (And.intro @ci29 (And.intro @cr29 (@ak29))))))))))
def en17 := And.intro @ent17 (And.intro @res17 (And.intro @rk17 (And.intro @ow17 (And.intro @kp17_0 (And.intro @kp17_1 (And.intro @kp17_2 (And.intro @kp17_3 (And.intro @kp17_4 (And.intro @kp17_5 (And.intro @kp17_6 (And.intro @kp17_7 (And.intro @kp17_8 (And.intro @kp17_9 (And.intro @kp17_10 (And.intro @kp17_11 (And.intro @kp17_12 (And.intro @hd17_4 (And.intro @fl17_6 (And.intro @dr17_6 (And.intro @sq29 (And.intro @ent22 (And.intro @ci22 (And.intro @cr22 (And.intro @ak22 (And.intro @ent30 (And.intro @ci30 (And.intro @cr30 (And.intro @ak30 (And.intro @agg22 (And.intro @agg3 (And.intro @agg44 (And.intro @agg72 (And.intro @agg9 (And.intro @arr22 (And.intro @arrz44 (And.intro @fld44_0 (And.intro @fld44_1 (And.intro @kind22 (And.intro @kind3 (And.intro @cv3_5 (And.intro @cv21_3 (And.intro @cv3_127 (And.intro @cv5_3 (And.intro @cv3_87 (And.intro @kind44 (And.intro @kind72 (And.intro @kind9 (And.intro @cv64_9 (And.intro @cv9_64 (And.intro @pl44 (And.intro @sl22 (And.intro @ms22 (And.intro @br22 (And.intro @ap22_22 (And.intro @sl3 (And.intro @sl72 (And.intro @ms72 (And.intro @br72 (And.intro @sx72 (And.intro @sw72 (And.intro @str22 (And.intro @str3 (And.intro @str72 (And.intro @sz3 (And.intro @st3 (And.intro @sz44 (And.intro @st44 (And.intro @sz9 (And.intro @st9 (And.intro @zero44 (And.intro @bd44 (@zero9))))))))))))))))))))))))))))))))))))))))))))))))))))))))))))))))))))))))
def en18 := And.intro @ent18 (And.intro @res18 (And.intro @rk18 (And.intro @ow18 (And.intro @kp18_0 (And.intro @kp18_1 (And.intro @kp18_2 (And.intro @kp18_3 (And.intro @kp18_4 (And.intro @kp18_5 (And.intro @fl18_5 (And.intro @dr18_5 (And.intro @sq29 (And.intro @agg3 (And.intro @agg4 (And.intro @agg57 (And.intro @arr57 (And.intro @fld59_3 (And.intro @fld59_4 (And.intro @fld59_5 (And.intro @kind57 (And.intro @sl57 (And.intro @str57 (And.intro @sz3 (And.intro @st3 (And.intro @sz4 (And.intro @st4 (And.intro @sz57 (@st57))))))))))))))))))))))))))))
def en19 := And.intro @ent19 (And.intro @res19 (And.intro @rk19 (And.intro @ow19 (And.intro @kp19_0 (And.intro @kp19_1 (And.intro @kp19_2 (And.intro @kp19_3 (And.intro @kp19_4 (And.intro @kp19_5 (And.intro @kp19_6 (And.intro @kp19_7 (And.intro @kp19_8 (And.intro @kp19_9 (And.intro @kp19_10 (And.intro @kp19_11 (And.intro @kp19_12 (And.intro @kp19_13 (And.intro @kp19_14 (And.intro @kp19_15 (And.intro @kp19_16 (And.intro @kp19_17 (And.intro @kp19_18 (And.intro @kp19_19 (And.intro @kp19_20 (And.intro @kp19_21 (And.intro @kp19_22 (And.intro @kp19_23 (And.intro @kp19_24 (And.intro @kp19_25 (And.intro @kp19_26 (And.intro @kp19_27 (And.intro @kp19_28 (And.intro @fl19_2 (And.intro @dr19_2 (And.intro @sq29 (And.intro @ent18 (And.intro @ci18 (And.intro @cr18 (And.intro @ak18 (And.intro @ent31 (And.intro @ci31 (And.intro @cr31 (And.intro @ak31 (And.intro @ent32 (And.intro @ci32 (And.intro @cr32 (And.intro @ak32 (And.intro @xk32 (And.intro @ent33 (And.intro @ci33 (And.intro @cr33 (And.intro @ak33 (And.intro @ent34 (And.intro @ci34 (And.intro @cr34 (And.intro @ak34 (And.intro @ent35 (And.intro @ci35 (And.intro @cr35 (And.intro @ak35 (And.intro @ent36 (And.intro @ci36 (And.intro @cr36 (And.intro @ak36 (And.intro @agg25 (And.intro @agg3 (And.intro @agg4 (And.intro @agg44 (And.intro @agg56 (And.intro @agg89 (And.intro @arrz89 (And.intro @fld25_0 (And.intro @fld25_1 (And.intro @fld44_0 (And.intro @fld59_2 (And.intro @fld89_2 (And.intro @kind3 (And.intro @cv3_5 (And.intro @cv21_3 (And.intro @cv3_127 (And.intro @cv5_3 (And.intro @cv3_87 (And.intro @kind4 (And.intro @kind44 (And.intro @kind56 (And.intro @mp96 (And.intro @lc96 (And.intro @sc96 (And.intro @pl89 (And.intro @sl3 (And.intro @sl4 (And.intro @sl44 (And.intro @sl56 (And.intro @str3 (And.intro @str4 (And.intro @str44 (And.intro @str56 (And.intro @sz25 (And.intro @st25 (And.intro @sz3 (And.intro @st3 (And.intro @sz44 (And.intro @st44 (And.intro @sz89 (And.intro @st89 (And.intro @zero85 (And.intro @zero89 (@bd89))))))))))))))))))))))))))))))))))))))))))))))))))))))))))))))))))))))))))))))))))))))))))))))))))))))))))))
def en24 := And.intro @ent24 (And.intro @res24 (And.intro @rk24 (And.intro @ow24 (And.intro @kp24_0 (And.intro @kp24_1 (And.intro @sq29 (And.intro @ent39 (And.intro @ci39 (And.intro @cr39 (And.intro @ak39 (And.intro @agg3 (And.intro @agg9 (And.intro @kind3 (And.intro @cv3_5 (And.intro @cv21_3 (And.intro @cv3_127 (And.intro @cv5_3 (And.intro @cv3_87 (And.intro @kind9 (And.intro @cv64_9 (And.intro @cv9_64 (And.intro @sl3 (And.intro @sl9 (And.intro @sx9 (And.intro @str3 (@str9))))))))))))))))))))))))))
def en25 := And.intro @ent25 (And.intro @res25 (And.intro @rk25 (And.intro @ow25 (And.intro @kp25_0 (And.intro @kp25_1 (And.intro @kp25_2 (And.intro @kp25_3 (And.intro @kp25_4 (And.intro @kp25_5 (And.intro @kp25_6 (And.intro @kp25_7 (And.intro @kp25_8 (And.intro @kp25_9 (And.intro @kp25_10 (And.intro @kp25_11 (And.intro @kp25_12 (And.intro @kp25_13 (And.intro @kp25_14 (And.intro @kp25_15 (And.intro @kp25_16 (And.intro @kp25_17 (And.intro @kp25_18 (And.intro @kp25_19 (And.intro @kp25_20 (And.intro @kp25_21 (And.intro @kp25_22 (And.intro @kp25_23 (And.intro @kp25_24 (And.intro @kp25_25 (And.intro @kp25_26 (And.intro @kp25_27 (And.intro @kp25_28 (And.intro @kp25_29 (And.intro @kp25_30 (And.intro @kp25_31 (And.intro @kp25_32 (And.intro @kp25_33 (And.intro @kp25_34 (And.intro @kp25_35 (And.intro @kp25_36 (And.intro @kp25_37 (And.intro @kp25_38 (And.intro @kp25_39 (And.intro @fl25_10 (And.intro @dr25_10 (And.intro @fl25_12 (And.intro @dr25_12 (And.intro @fl25_35 (And.intro @dr25_35 (And.intro @fl25_38 (And.intro @dr25_38 (And.intro @sq29 (And.intro @ent22 (And.intro @ci22 (And.intro @cr22 (And.intro @ak22 (And.intro @ent40 (And.intro @ci40 (And.intro @cr40 (And.intro @ak40 (And.intro @ent41 (And.intro @ci41 (And.intro @cr41 (And.intro @ak41 (And.intro @ent42 (And.intro @ci42 (And.intro @cr42 (And.intro @ak42 (And.intro @ent43 (And.intro @ci43 (And.intro @cr43 (And.intro @ak43 (And.intro @agg22 (And.intro @agg3 (And.intro @agg44 (And.intro @agg45 (And.intro @agg72 (And.intro @agg76 (And.intro @agg77 (And.intro @agg9 (And.intro @arr44 (And.intro @arr72 (And.intro @arr9 (And.intro @arrz44 (And.intro @fld44_0 (And.intro @fld44_1 (And.intro @fld79_0 (And.intro @fld79_1 (And.intro @fld79_2 (And.intro @fld79_3 (And.intro @kind22 (And.intro @kind3 (And.intro @cv3_5 (And.intro @cv21_3 (And.intro @cv3_127 (And.intro @cv5_3 (And.intro @cv3_87 (And.intro @kind44 (And.intro @kind45 (And.intro @kind72 (And.intro @kind9 (And.intro @cv64_9 (And.intro @cv9_64 (And.intro @mp76 (And.intro @lc76 (And.intro @sc76 (And.intro @mp77 (And.intro @lc77 (And.intro @sc77 (And.intro @pl44 (And.intro @sl22 (And.intro @ms22 (And.intro @br22 (And.intro @ap22_22 (And.intro @sl45 (And.intro @ms45 (And.intro @br45 (And.intro @sx45 (And.intro @sw45 (And.intro @ap45_45 (And.intro @sl72 (And.intro @ms72 (And.intro @br72 (And.intro @sx72 (And.intro @sw72 (And.intro @sl9 (And.intro @sx9 (And.intro @str22 (And.intro @str45 (And.intro @str72 (And.intro @str9 (And.intro @sz22 (And.intro @st22 (And.intro @sz3 (And.intro @st3 (And.intro @sz44 (And.intro @st44 (And.intro @sz45 (And.intro @st45 (And.intro @sz76 (And.intro @st76 (And.intro @sz77 (And.intro @st77 (And.intro @sz9 (And.intro @st9 (And.intro @zero3 (And.intro @zero44 (And.intro @bd44 (@zero9)))))))))))))))))))))))))))))))))))))))))))))))))))))))))))))))))))))))))))))))))))))))))))))))))))))))))))))))))))))))))))))))))))))))))))))))))))))
def en26 := And.intro @ent26 (And.intro @res26 (And.intro @rk26 (And.intro @ow26 (And.intro @kp26_0 (And.intro @kp26_1 (And.intro @sq29 (And.intro @ent44 (And.intro @ci44 (And.intro @cr44 (And.intro @ak44 (And.intro @agg109 (And.intro @agg9 (And.intro @kind109 (And.intro @kind9 (And.intro @cv64_9 (And.intro @cv9_64 (And.intro @sl109 (And.intro @sl9 (And.intro @sx9 (And.intro @str109 (@str9)))))))))))))))))))))
def en27 := And.intro @ent27 (And.intro @res27 (And.intro @rk27 (And.intro @ow27 (And.intro @kp27_0 (And.intro @kp27_1 (And.intro @kp27_2 (And.intro @sq29 (And.intro @ent30 (And.intro @ci30 (And.intro @cr30 (And.intro @ak30 (And.intro @agg3 (And.intro @kind3 (And.intro @cv3_5 (And.intro @cv21_3 (And.intro @cv3_127 (And.intro @cv5_3 (And.intro @cv3_87 (And.intro @sl3 (@str3))))))))))))))))))))
def en28 := And.intro @ent28 (And.intro @res28 (And.intro @rk28 (And.intro @ow28 (And.intro @kp28_0 (And.intro @kp28_1 (And.intro @kp28_2 (And.intro @kp28_3 (And.intro @kp28_4 (And.intro @kp28_5 (And.intro @kp28_6 (And.intro @kp28_7 (@sq29))))))))))))
def en30 := And.intro @ent30 (And.intro @res30 (And.intro @rk30 (And.intro @ow30 (And.intro @kp30_0 (And.intro @kp30_1 (And.intro @kp30_2 (And.intro @kp30_3 (And.intro @kp30_4 (And.intro @kp30_5 (And.intro @kp30_6 (And.intro @kp30_7 (@sq29))))))))))))
def en31 := And.intro @ent31 (And.intro @res31 (And.intro @rk31 (And.intro @ow31 (And.intro @kp31_0 (And.intro @kp31_1 (And.intro @kp31_2 (And.intro @kp31_3 (And.intro @kp31_4 (And.intro @kp31_5 (And.intro @kp31_6 (And.intro @kp31_7 (And.intro @kp31_8 (And.intro @kp31_9 (And.intro @kp31_10 (And.intro @kp31_11 (And.intro @kp31_12 (And.intro @kp31_13 (And.intro @sq29 (And.intro @ent33 (And.intro @ci33 (And.intro @cr33 (And.intro @ak33 (And.intro @agg23 (And.intro @agg25 (And.intro @agg3 (And.intro @agg56 (And.intro @agg89 (And.intro @arrz89 (And.intro @fld25_0 (And.intro @fld25_1 (And.intro @fld44_0 (And.intro @fld44_1 (And.intro @fld59_0 (And.intro @fld59_1 (And.intro @fld59_2 (And.intro @kind23 (And.intro @kind3 (And.intro @cv3_5 (And.intro @cv21_3 (And.intro @cv3_127 (And.intro @cv5_3 (And.intro @cv3_87 (And.intro @kind56 (And.intro @kind89 (And.intro @pl89 (And.intro @sl23 (And.intro @ms23 (And.intro @br23 (And.intro @sl3 (And.intro @sl56 (And.intro @str23 (And.intro @str3 (And.intro @str56 (And.intro @sz23 (And.intro @st23 (And.intro @sz25 (And.intro @st25 (And.intro @sz3 (And.intro @st3 (And.intro @sz89 (And.intro @st89 (And.intro @zero89 (@bd89)))))))))))))))))))))))))))))))))))))))))))))))))))))))))))))))
def en33 := And.intro @ent33 (And.intro @res33 (And.intro @rk33 (And.intro @ow33 (And.intro @kp33_0 (And.intro @kp33_1 (And.intro @kp33_2 (And.intro @kp33_3 (And.intro @fl33_2 (And.intro @dr33_2 (And.intro @sq29 (And.intro @ent51 (And.intro @ci51 (And.intro @cr51 (And.intro @ak51 (And.intro @agg3 (And.intro @agg4 (And.intro @agg57 (And.intro @arr57 (And.intro @fld59_3 (And.intro @fld59_4 (And.intro @fld59_5 (And.intro @kind3 (And.intro @cv3_5 (And.intro @cv21_3 (And.intro @cv3_127 (And.intro @cv5_3 (And.intro @cv3_87 (And.intro @kind57 (And.intro @sl3 (And.intro @sl57 (And.intro @str3 (And.intro @str57 (And.intro @sz3 (And.intro @st3 (And.intro @sz4 (And.intro @st4 (And.intro @sz57 (@st57))))))))))))))))))))))))))))))))))))))
def en34 := And.intro @ent34 (And.intro @res34 (And.intro @rk34 (And.intro @ow34 (And.intro @kp34_0 (And.intro @kp34_1 (And.intro @kp34_2 (And.intro @kp34_3 (And.intro @kp34_4 (And.intro @kp34_5 (And.intro @kp34_6 (And.intro @kp34_7 (And.intro @kp34_8 (And.intro @kp34_9 (And.intro @kp34_10 (And.intro @sq29 (And.intro @ent35 (And.intro @ci35 (And.intro @cr35 (And.intro @ak35 (And.intro @ent52 (And.intro @ci52 (And.intro @cr52 (And.intro @ak52 (And.intro @ent53 (And.intro @ci53 (And.intro @cr53 (And.intro @ak53 (And.intro @agg110 (And.intro @agg21 (And.intro @agg3 (And.intro @agg56 (And.intro @agg89 (And.intro @agg9 (And.intro @arr110 (And.intro @arrz89 (And.intro @fld89_0 (And.intro @fld89_2 (And.intro @kind110 (And.intro @kind21 (And.intro @cv21_3 (And.intro @cv5_21 (And.intro @kind3 (And.intro @cv3_5 (And.intro @cv3_127 (And.intro @cv5_3 (And.intro @cv3_87 (And.intro @kind56 (And.intro @kind9 (And.intro @cv64_9 (And.intro @cv9_64 (And.intro @pl89 (And.intro @sl110 (And.intro @ms110 (And.intro @br110 (And.intro @ap110_110 (And.intro @sl21 (And.intro @sl3 (And.intro @sl56 (And.intro @sl9 (And.intro @sx9 (And.intro @str110 (And.intro @str21 (And.intro @str3 (And.intro @str56 (And.intro @str9 (And.intro @sz21 (And.intro @st21 (And.intro @sz3 (And.intro @st3 (And.intro @sz89 (And.intro @st89 (And.intro @sz9 (And.intro @st9 (And.intro @zero21 (And.intro @zero89 (@bd89))))))))))))))))))))))))))))))))))))))))))))))))))))))))))))))))))))))))))))
def en35 := And.intro @ent35 (And.intro @res35 (And.intro @rk35 (And.intro @ow35 (And.intro @kp35_0 (And.intro @kp35_1 (And.intro @kp35_2 (And.intro @kp35_3 (And.intro @sq29 (And.intro @agg23 (And.intro @agg89 (And.intro @arr23 (And.intro @arr89 (And.intro @arrz89 (And.intro @fld59_1 (And.intro @kind23 (And.intro @kind89 (And.intro @pl89 (And.intro @sl23 (And.intro @ms23 (And.intro @br23 (And.intro @str23 (And.intro @sz23 (And.intro @st23 (And.intro @sz89 (And.intro @st89 (And.intro @zero89 (@bd89)))))))))))))))))))))))))))
def en36 := And.intro @ent36 (And.intro @res36 (And.intro @rk36 (And.intro @ow36 (And.intro @kp36_0 (And.intro @kp36_1 (And.intro @kp36_2 (And.intro @kp36_3 (@sq29))))))))
def en39 := And.intro @ent39 (And.intro @res39 (And.intro @rk39 (And.intro @ow39 (And.intro @kp39_0 (And.intro @kp39_1 (And.intro @kp39_2 (And.intro @kp39_3 (And.intro @kp39_4 (And.intro @kp39_5 (And.intro @kp39_6 (And.intro @kp39_7 (And.intro @kp39_8 (And.intro @kp39_9 (And.intro @kp39_10 (And.intro @kp39_11 (And.intro @kp39_12 (And.intro @kp39_13 (And.intro @kp39_14 (And.intro @kp39_15 (And.intro @kp39_16 (And.intro @kp39_17 (And.intro @kp39_18 (And.intro @hd39_11 (And.intro @sq29 (And.intro @ent56 (And.intro @ci56 (And.intro @cr56 (And.intro @ak56 (And.intro @ent57 (And.intro @ci57 (And.intro @cr57 (And.intro @ak57 (And.intro @xk57 (And.intro @ent58 (And.intro @ci58 (And.intro @cr58 (And.intro @ak58 (And.intro @agg3 (And.intro @agg72 (And.intro @agg9 (And.intro @arr72 (And.intro @kind3 (And.intro @cv3_5 (And.intro @cv21_3 (And.intro @cv3_127 (And.intro @cv5_3 (And.intro @cv3_87 (And.intro @kind72 (And.intro @kind9 (And.intro @cv64_9 (And.intro @cv9_64 (And.intro @sl3 (And.intro @sl72 (And.intro @ms72 (And.intro @br72 (And.intro @sx72 (And.intro @sw72 (And.intro @sl9 (And.intro @sx9 (And.intro @str3 (And.intro @str72 (And.intro @str9 (And.intro @sz9 (And.intro @st9 (@zero9)))))))))))))))))))))))))))))))))))))))))))))))))))))))))))))))))
def en40 := And.intro @ent40 (And.intro @res40 (And.intro @rk40 (And.intro @ow40 (And.intro @kp40_0 (And.intro @kp40_1 (And.intro @sq29 (And.intro @ent59 (And.intro @ci59 (And.intro @cr59 (And.intro @ak59 (And.intro @agg9 (And.intro @kind9 (And.intro @cv64_9 (And.intro @cv9_64 (And.intro @sl9 (And.intro @sx9 (@str9)))))))))))))))))
def en41 := And.intro @ent41 (And.intro @res41 (And.intro @rk41 (And.intro @ow41 (And.intro @kp41_0 (And.intro @kp41_1 (And.intro @kp41_2 (And.intro @kp41_3 (And.intro @sq29 (And.intro @ent60 (And.intro @ci60 (And.intro @cr60 (And.intro @ak60 (And.intro @agg109 (And.intro @agg9 (And.intro @arr9 (And.intro @kind109 (And.intro @kind9 (And.intro @cv64_9 (And.intro @cv9_64 (And.intro @sl109 (And.intro @sl9 (And.intro @sx9 (And.intro @str109 (@str9))))))))))))))))))))))))
def en42 := And.intro @ent42 (And.intro @res42 (And.intro @rk42 (And.intro @ow42 (And.intro @kp42_0 (And.intro @kp42_1 (And.intro @kp42_2 (And.intro @kp42_3 (And.intro @kp42_4 (And.intro @kp42_5 (And.intro @kp42_6 (And.intro @kp42_7 (And.intro @hd42_2 (And.intro @sq29 (And.intro @agg72 (And.intro @agg9 (And.intro @arr72 (And.intro @kind72 (And.intro @kind9 (And.intro @cv64_9 (And.intro @cv9_64 (And.intro @sl72 (And.intro @ms72 (And.intro @br72 (And.intro @sx72 (And.intro @sw72 (And.intro @str72 (And.intro @str9 (And.intro @sx9 (And.intro @sz9 (And.intro @st9 (@zero9)))))))))))))))))))))))))))))))
def en43 := And.intro @ent43 (And.intro @res43 (And.intro @rk43 (And.intro @ow43 (And.intro @kp43_0 (And.intro @kp43_1 (And.intro @kp43_2 (And.intro @kp43_3 (And.intro @kp43_4 (And.intro @kp43_5 (And.intro @kp43_6 (And.intro @kp43_7 (And.intro @kp43_8 (And.intro @kp43_9 (And.intro @kp43_10 (And.intro @kp43_11 (And.intro @kp43_12 (And.intro @kp43_13 (And.intro @kp43_14 (And.intro @hd43_6 (And.intro @sq29 (And.intro @ent62 (And.intro @ci62 (And.intro @cr62 (And.intro @ak62 (And.intro @agg3 (And.intro @agg5 (And.intro @agg64 (And.intro @agg9 (And.intro @arr64 (And.intro @arr9 (And.intro @kind3 (And.intro @cv3_5 (And.intro @cv21_3 (And.intro @cv3_127 (And.intro @cv5_3 (And.intro @cv3_87 (And.intro @kind5 (And.intro @cv127_5 (And.intro @cv5_21 (And.intro @cv139_5 (And.intro @cv5_139 (And.intro @kind64 (And.intro @cv64_9 (And.intro @cv9_64 (And.intro @kind9 (And.intro @sl3 (And.intro @sl5 (And.intro @sl64 (And.intro @ms64 (And.intro @br64 (And.intro @ap64_9 (And.intro @ap64_64 (And.intro @sl9 (And.intro @sx9 (And.intro @str3 (And.intro @str5 (And.intro @str64 (And.intro @str9 (And.intro @sz5 (And.intro @st5 (@zero5)))))))))))))))))))))))))))))))))))))))))))))))))))))))))))))
def en44 := And.intro @ent44 (And.intro @res44 (And.intro @rk44 (And.intro @ow44 (And.intro @kp44_0 (And.intro @kp44_1 (And.intro @kp44_2 (And.intro @kp44_3 (And.intro @kp44_4 (And.intro @kp44_5 (And.intro @kp44_6 (And.intro @kp44_7 (And.intro @kp44_8 (And.intro @kp44_9 (And.intro @kp44_10 (And.intro @kp44_11 (And.intro @kp44_12 (And.intro @kp44_13 (And.intro @kp44_14 (And.intro @kp44_15 (And.intro @kp44_16 (And.intro @kp44_17 (And.intro @kp44_18 (And.intro @kp44_19 (And.intro @kp44_20 (And.intro @hd44_4 (And.intro @hd44_16 (And.intro @sq29 (And.intro @agg120 (And.intro @agg122 (And.intro @agg21 (And.intro @agg3 (And.intro @agg72 (And.intro @agg9 (And.intro @arr120 (And.intro @arr122 (And.intro @arr72 (And.intro @arrz122 (And.intro @fld122_0 (And.intro @fld122_1 (And.intro @kind120 (And.intro @kind122 (And.intro @kind21 (And.intro @cv21_3 (And.intro @cv5_21 (And.intro @kind72 (And.intro @kind9 (And.intro @cv64_9 (And.intro @cv9_64 (And.intro @pl122 (And.intro @sl120 (And.intro @ms120 (And.intro @br120 (And.intro @ap120_120 (And.intro @sl21 (And.intro @sl72 (And.intro @ms72 (And.intro @br72 (And.intro @sx72 (And.intro @sw72 (And.intro @sl9 (And.intro @sx9 (And.intro @str120 (And.intro @str21 (And.intro @str72 (And.intro @str9 (And.intro @sz122 (And.intro @st122 (And.intro @sz3 (And.intro @st3 (And.intro @sz9 (And.intro @st9 (And.intro @zero122 (And.intro @bd122 (@zero9))))))))))))))))))))))))))))))))))))))))))))))))))))))))))))))))))))))))))
def en45 := And.intro @ent45 (And.intro @res45 (And.intro @rk45 (And.intro @ow45 (And.intro @kp45_0 (And.intro @kp45_1 (@sq29))))))
def en46 := And.intro @ent46 (And.intro @res46 (And.intro @rk46 (And.intro @ow46 (And.intro @kp46_0 (And.intro @kp46_1 (@sq29))))))
def en47 := And.intro @ent47 (And.intro @res47 (And.intro @rk47 (And.intro @ow47 (And.intro @kp47_0 (And.intro @kp47_1 (@sq29))))))
def en48 := And.intro @ent48 (And.intro @res48 (And.intro @rk48 (And.intro @ow48 (And.intro @kp48_0 (And.intro @kp48_1 (@sq29))))))
def en49 := And.intro @ent49 (And.intro @res49 (And.intro @rk49 (And.intro @ow49 (And.intro @kp49_0 (And.intro @kp49_1 (And.intro @sq29 (And.intro @ent36 (And.intro @ci36 (And.intro @cr36 (And.intro @ak36 (And.intro @agg4 (And.intro @kind4 (And.intro @sl4 (@str4))))))))))))))
def en50 := And.intro @ent50 (And.intro @res50 (And.intro @rk50 (And.intro @ow50 (And.intro @kp50_0 (And.intro @kp50_1 (And.intro @sq29 (And.intro @ent36 (And.intro @ci36 (And.intro @cr36 (And.intro @ak36 (And.intro @agg4 (And.intro @kind4 (And.intro @sl4 (@str4))))))))))))))
def en51 := And.intro @ent51 (And.intro @res51 (And.intro @rk51 (And.intro @ow51 (And.intro @kp51_0 (And.intro @kp51_1 (And.intro @sq29 (And.intro @agg3 (And.intro @kind3 (And.intro @cv3_5 (And.intro @cv21_3 (And.intro @cv3_127 (And.intro @cv5_3 (And.intro @cv3_87 (And.intro @sl3 (@str3)))))))))))))))
def en52 := And.intro @ent52 (And.intro @res52 (And.intro @rk52 (And.intro @ow52 (And.intro @kp52_0 (And.intro @kp52_1 (And.intro @kp52_2 (And.intro @kp52_3 (And.intro @kp52_4 (And.intro @kp52_5 (And.intro @kp52_6 (And.intro @kp52_7 (And.intro @kp52_8 (And.intro @kp52_9 (And.intro @kp52_10 (And.intro @kp52_11 (And.intro @kp52_12 (And.intro @kp52_13 (And.intro @kp52_14 (And.intro @kp52_15 (And.intro @kp52_16 (And.intro @kp52_17 (And.intro @kp52_18 (And.intro @kp52_19 (And.intro @kp52_20 (And.intro @kp52_21 (And.intro @kp52_22 (And.intro @kp52_23 (And.intro @hd52_6 (And.intro @fl52_23 (And.intro @dr52_23 (And.intro @sq29 (And.intro @ent63 (And.intro @ci63 (And.intro @cr63 (And.intro @ak63 (And.intro @agg110 (And.intro @agg124 (And.intro @agg21 (And.intro @agg3 (And.intro @agg5 (And.intro @agg9 (And.intro @arr124 (And.intro @arr9 (And.intro @arrz124 (And.intro @fld124_0 (And.intro @fld124_1 (And.intro @fld124_2 (And.intro @fld124_3 (And.intro @kind110 (And.intro @kind21 (And.intro @cv21_3 (And.intro @cv5_21 (And.intro @kind5 (And.intro @cv127_5 (And.intro @cv3_5 (And.intro @cv5_3 (And.intro @cv139_5 (And.intro @cv5_139 (And.intro @kind9 (And.intro @cv64_9 (And.intro @cv9_64 (And.intro @pl124 (And.intro @sl110 (And.intro @ms110 (And.intro @br110 (And.intro @ap110_110 (And.intro @sl21 (And.intro @sl5 (And.intro @sl9 (And.intro @sx9 (And.intro @str110 (And.intro @str21 (And.intro @str5 (And.intro @str9 (And.intro @sz124 (And.intro @st124 (And.intro @sz21 (And.intro @st21 (And.intro @sz3 (And.intro @st3 (And.intro @sz5 (And.intro @st5 (And.intro @zero124 (And.intro @bd124 (@zero21)))))))))))))))))))))))))))))))))))))))))))))))))))))))))))))))))))))))))))))))))))))
def en53 := And.intro @ent53 (And.intro @res53 (And.intro @rk53 (And.intro @ow53 (And.intro @kp53_0 (And.intro @kp53_1 (And.intro @kp53_2 (And.intro @kp53_3 (And.intro @kp53_4 (And.intro @sq29 (And.intro @ent52 (And.intro @ci52 (And.intro @cr52 (And.intro @ak52 (And.intro @agg110 (And.intro @agg21 (And.intro @agg9 (And.intro @kind110 (And.intro @kind21 (And.intro @cv21_3 (And.intro @cv5_21 (And.intro @kind9 (And.intro @cv64_9 (And.intro @cv9_64 (And.intro @sl110 (And.intro @ms110 (And.intro @br110 (And.intro @ap110_110 (And.intro @sl9 (And.intro @sx9 (And.intro @str110 (And.intro @str9 (And.intro @sz21 (And.intro @st21 (@zero21))))))))))))))))))))))))))))))))))
def en58 := And.intro @ent58 (And.intro @res58 (And.intro @rk58 (And.intro @ow58 (And.intro @kp58_0 (And.intro @kp58_1 (And.intro @sq29 (And.intro @ent71 (And.intro @ci71 (And.intro @cr71 (And.intro @ak71 (And.intro @agg9 (And.intro @kind9 (And.intro @cv64_9 (And.intro @cv9_64 (And.intro @sl9 (And.intro @sx9 (@str9)))))))))))))))))
def en59 := And.intro @ent59 (And.intro @res59 (And.intro @rk59 (And.intro @ow59 (And.intro @kp59_0 (And.intro @kp59_1 (And.intro @kp59_2 (And.intro @kp59_3 (And.intro @sq29 (And.intro @ent72 (And.intro @ci72 (And.intro @cr72 (And.intro @ak72 (And.intro @agg9 (And.intro @kind9 (And.intro @cv64_9 (And.intro @cv9_64 (And.intro @sl9 (And.intro @sx9 (@str9)))))))))))))))))))
def en60 := And.intro @ent60 (And.intro @res60 (And.intro @rk60 (And.intro @ow60 (And.intro @kp60_0 (And.intro @kp60_1 (And.intro @sq29 (And.intro @ent73 (And.intro @ci73 (And.intro @cr73 (And.intro @ak73 (And.intro @agg109 (And.intro @agg9 (And.intro @kind109 (And.intro @kind9 (And.intro @cv64_9 (And.intro @cv9_64 (And.intro @sl109 (And.intro @sl9 (And.intro @sx9 (And.intro @str109 (@str9)))))))))))))))))))))
def en61 := And.intro @ent61 (And.intro @res61 (And.intro @rk61 (And.intro @ow61 (And.intro @kp61_0 (And.intro @kp61_1 (@sq29))))))
def en62 := And.intro @ent62 (And.intro @res62 (And.intro @rk62 (And.intro @ow62 (And.intro @kp62_0 (And.intro @kp62_1 (And.intro @sq29 (And.intro @ent74 (And.intro @ci74 (And.intro @cr74 (And.intro @ak74 (And.intro @agg9 (And.intro @kind9 (And.intro @cv64_9 (And.intro @cv9_64 (And.intro @sl9 (And.intro @sx9 (@str9)))))))))))))))))
def en71 := And.intro @ent71 (And.intro @res71 (And.intro @rk71 (And.intro @ow71 (And.intro @kp71_0 (And.intro @kp71_1 (And.intro @kp71_2 (And.intro @kp71_3 (And.intro @kp71_4 (And.intro @kp71_5 (And.intro @kp71_6 (And.intro @kp71_7 (And.intro @kp71_8 (And.intro @kp71_9 (And.intro @kp71_10 (And.intro @kp71_11 (And.intro @kp71_12 (And.intro @kp71_13 (And.intro @kp71_14 (And.intro @kp71_15 (And.intro @kp71_16 (And.intro @kp71_17 (And.intro @kp71_18 (And.intro @kp71_19 (And.intro @kp71_20 (And.intro @kp71_21 (And.intro @kp71_22 (And.intro @kp71_23 (And.intro @kp71_24 (And.intro @kp71_25 (And.intro @kp71_26 (And.intro @kp71_27 (And.intro @kp71_28 (And.intro @kp71_29 (And.intro @kp71_30 (And.intro @kp71_31 (And.intro @kp71_32 (And.intro @kp71_33 (And.intro @kp71_34 (And.intro @kp71_35 (And.intro @hd71_15 (And.intro @sq29 (And.intro @ent81 (And.intro @ci81 (And.intro @cr81 (And.intro @ak81 (And.intro @xk81 (And.intro @ent83 (And.intro @ci83 (And.intro @cr83 (And.intro @ak83 (And.intro @ent84 (And.intro @ci84 (And.intro @cr84 (And.intro @ak84 (And.intro @agg3 (And.intro @agg5 (And.intro @agg9 (And.intro @arr9 (And.intro @kind3 (And.intro @cv3_5 (And.intro @cv21_3 (And.intro @cv3_127 (And.intro @cv5_3 (And.intro @cv3_87 (And.intro @kind5 (And.intro @cv127_5 (And.intro @cv5_21 (And.intro @cv139_5 (And.intro @cv5_139 (And.intro @kind9 (And.intro @cv64_9 (And.intro @cv9_64 (And.intro @sl3 (And.intro @sl5 (And.intro @sl9 (And.intro @sx9 (And.intro @str3 (And.intro @str5 (And.intro @str9 (And.intro @sz3 (@st3)))))))))))))))))))))))))))))))))))))))))))))))))))))))))))))))))))))))))))))))))
def en72 := And.intro @ent72 (And.intro @res72 (And.intro @rk72 (And.intro @ow72 (And.intro @kp72_0 (And.intro @kp72_1 (And.intro @sq29 (And.intro @agg9 (And.intro @kind9 (And.intro @cv64_9 (And.intro @cv9_64 (And.intro @sl9 (And.intro @sx9 (@str9)))))))))))))
def en73 := And.intro @ent73 (And.intro @res73 (And.intro @rk73 (And.intro @ow73 (And.intro @kp73_0 (And.intro @kp73_1 (And.intro @sq29 (And.intro @ent85 (And.intro @ci85 (And.intro @cr85 (And.intro @ak85 (And.intro @agg109 (And.intro @agg4 (And.intro @agg9 (And.intro @kind109 (And.intro @kind4 (And.intro @kind9 (And.intro @cv64_9 (And.intro @cv9_64 (And.intro @sl109 (And.intro @sl4 (And.intro @sl9 (And.intro @sx9 (And.intro @str109 (And.intro @str4 (@str9)))))))))))))))))))))))))
def en74 := And.intro @ent74 (And.intro @res74 (And.intro @rk74 (And.intro @ow74 (And.intro @kp74_0 (And.intro @kp74_1 (And.intro @kp74_2 (And.intro @kp74_3 (And.intro @sq29 (And.intro @ent86 (And.intro @ci86 (And.intro @cr86 (And.intro @ak86 (And.intro @agg9 (And.intro @kind9 (And.intro @cv64_9 (And.intro @cv9_64 (And.intro @sl9 (And.intro @sx9 (@str9)))))))))))))))))))
def en85 := And.intro @ent85 (And.intro @res85 (And.intro @rk85 (And.intro @ow85 (And.intro @kp85_0 (And.intro @kp85_1 (And.intro @kp85_2 (And.intro @kp85_3 (And.intro @kp85_4 (And.intro @kp85_5 (And.intro @kp85_6 (And.intro @hd85_2 (And.intro @sq29 (And.intro @agg21 (And.intro @kind21 (And.intro @cv21_3 (And.intro @cv5_21 (And.intro @sl21 (And.intro @str21 (And.intro @str9 (And.intro @sx9 (And.intro @cv64_9 (And.intro @cv9_64 (@und4)))))))))))))))))))))))
def en86 := And.intro @ent86 (And.intro @res86 (And.intro @rk86 (And.intro @ow86 (And.intro @kp86_0 (And.intro @kp86_1 (And.intro @sq29 (And.intro @agg9 (And.intro @kind9 (And.intro @cv64_9 (And.intro @cv9_64 (And.intro @sl9 (And.intro @sx9 (@str9)))))))))))))
def ca45 := And.intro @ent45 (And.intro @ci45 (And.intro @cr45 (@ak45)))
def ca46 := And.intro @ent46 (And.intro @ci46 (And.intro @cr46 (@ak46)))
def ca47 := And.intro @ent47 (And.intro @ci47 (And.intro @cr47 (@ak47)))
def ca48 := And.intro @ent48 (And.intro @ci48 (And.intro @cr48 (@ak48)))
def ca49 := And.intro @ent49 (And.intro @ci49 (And.intro @cr49 (@ak49)))
def ca50 := And.intro @ent50 (And.intro @ci50 (And.intro @cr50 (@ak50)))
def ca61 := And.intro @ent61 (And.intro @ci61 (And.intro @cr61 (@ak61)))
def tyaa := And.intro @agg102 (And.intro @agg109 (And.intro @agg110 (And.intro @agg114 (And.intro @agg120 (And.intro @agg122 (And.intro @agg124 (And.intro @agg126 (And.intro @agg127 (And.intro @agg138 (And.intro @agg139 (And.intro @agg140 (And.intro @agg144 (And.intro @agg146 (And.intro @agg147 (And.intro @agg150 (And.intro @agg151 (And.intro @agg2 (And.intro @agg21 (And.intro @agg22 (And.intro @agg23 (And.intro @agg25 (And.intro @agg28 (And.intro @agg3 (@agg32))))))))))))))))))))))))
def tyab := And.intro @agg4 (And.intro @agg44 (And.intro @agg45 (And.intro @agg48 (And.intro @agg49 (And.intro @agg5 (And.intro @agg51 (And.intro @agg56 (And.intro @agg57 (And.intro @agg59 (And.intro @agg63 (And.intro @agg64 (And.intro @agg66 (And.intro @agg72 (And.intro @agg75 (And.intro @agg76 (And.intro @agg77 (And.intro @agg79 (And.intro @agg87 (And.intro @agg89 (And.intro @agg9 (And.intro @agg90 (And.intro @arr110 (And.intro @arr120 (@arr122))))))))))))))))))))))))
def tyac := And.intro @arr124 (And.intro @arr126 (And.intro @arr138 (And.intro @arr140 (And.intro @arr144 (And.intro @arr146 (And.intro @arr147 (And.intro @arr150 (And.intro @arr151 (And.intro @arr22 (And.intro @arr23 (And.intro @arr32 (And.intro @arr44 (And.intro @arr45 (And.intro @arr48 (And.intro @arr49 (And.intro @arr57 (And.intro @arr59 (And.intro @arr64 (And.intro @arr72 (And.intro @arr79 (And.intro @arr89 (And.intro @arr9 (And.intro @arr90 (@arrz122))))))))))))))))))))))))
def tyad := And.intro @arrz124 (And.intro @arrz126 (And.intro @arrz138 (And.intro @arrz140 (And.intro @arrz146 (And.intro @arrz147 (And.intro @arrz150 (And.intro @arrz151 (And.intro @arrz32 (And.intro @arrz44 (And.intro @arrz51 (And.intro @arrz59 (And.intro @arrz66 (And.intro @arrz79 (And.intro @arrz89 (And.intro @arrz90 (And.intro @eqg25 (And.intro @eqg32 (And.intro @fld122_0 (And.intro @fld122_1 (And.intro @fld124_0 (And.intro @fld124_1 (And.intro @fld124_2 (And.intro @fld124_3 (@fld146_0))))))))))))))))))))))))
def tyae := And.intro @fld146_1 (And.intro @fld25_0 (And.intro @fld25_1 (And.intro @fld32_0 (And.intro @fld32_1 (And.intro @fld32_2 (And.intro @fld44_0 (And.intro @fld44_1 (And.intro @fld51_0 (And.intro @fld51_1 (And.intro @fld59_0 (And.intro @fld59_1 (And.intro @fld59_2 (And.intro @fld59_3 (And.intro @fld59_4 (And.intro @fld59_5 (And.intro @fld66_0 (And.intro @fld66_1 (And.intro @fld79_0 (And.intro @fld79_1 (And.intro @fld79_2 (And.intro @fld79_3 (And.intro @fld89_0 (And.intro @fld89_2 (@kind102))))))))))))))))))))))))
def tyaf := And.intro @kind109 (And.intro @kind110 (And.intro @kind114 (And.intro @cv63_114 (And.intro @cv114_63 (And.intro @kind120 (And.intro @kind122 (And.intro @kind126 (And.intro @kind127 (And.intro @cv127_5 (And.intro @cv3_127 (And.intro @cv2_127 (And.intro @cv127_139 (And.intro @kind138 (And.intro @kind139 (And.intro @cv139_5 (And.intro @cv5_139 (And.intro @cv87_139 (And.intro @kind140 (And.intro @kind144 (And.intro @kind147 (And.intro @kind150 (And.intro @kind151 (And.intro @kind2 (@kind21))))))))))))))))))))))))
def tyag := And.intro @cv21_3 (And.intro @cv5_21 (And.intro @kind22 (And.intro @kind23 (And.intro @kind25 (And.intro @kind3 (And.intro @cv3_5 (And.intro @cv5_3 (And.intro @cv3_87 (And.intro @kind4 (And.intro @kind44 (And.intro @kind45 (And.intro @kind48 (And.intro @kind49 (And.intro @kind5 (And.intro @kind51 (And.intro @kind56 (And.intro @kind57 (And.intro @kind63 (And.intro @kind64 (And.intro @cv64_9 (And.intro @cv9_64 (And.intro @kind66 (And.intro @kind72 (@kind75))))))))))))))))))))))))
def tyah := And.intro @kind87 (And.intro @kind89 (And.intro @kind9 (And.intro @kind90 (And.intro @lv25 (And.intro @lv32 (And.intro @mp62 (And.intro @lc62 (And.intro @sc62 (And.intro @mp76 (And.intro @lc76 (And.intro @sc76 (And.intro @mp77 (And.intro @lc77 (And.intro @sc77 (And.intro @mp96 (And.intro @lc96 (And.intro @sc96 (And.intro @pl122 (And.intro @pl124 (And.intro @pl146 (And.intro @pl32 (And.intro @pl44 (And.intro @pl51 (@pl59))))))))))))))))))))))))
def tyai := And.intro @pl66 (And.intro @pl79 (And.intro @pl89 (And.intro @sl102 (And.intro @sl109 (And.intro @sl110 (And.intro @ms110 (And.intro @br110 (And.intro @ap110_110 (@sl114)))))))))
def tyaj := And.intro @sl120 (And.intro @ms120 (And.intro @br120 (And.intro @ap120_120 (And.intro @sl126 (And.intro @sl127 (@sl138))))))
def tyak := And.intro @sl139 (And.intro @sl140 (And.intro @sl144 (@sl147)))
def tyal := And.intro @sl150 (And.intro @sl151 (And.intro @sl2 (@sl21)))
def tyam := And.intro @sl22 (And.intro @ms22 (And.intro @br22 (And.intro @ap22_22 (And.intro @sl23 (And.intro @ms23 (And.intro @br23 (And.intro @sl25 (@sl3))))))))
def tyan := And.intro @sl4 (And.intro @sl44 (And.intro @sl45 (And.intro @ms45 (And.intro @br45 (And.intro @sx45 (And.intro @sw45 (And.intro @ap45_45 (And.intro @sl48 (And.intro @ms48 (@br48))))))))))
def tyao := And.intro @sl49 (And.intro @sl5 (And.intro @sl51 (@sl56)))
def tyap := And.intro @sl57 (And.intro @sl63 (And.intro @sl64 (And.intro @ms64 (And.intro @br64 (And.intro @ap64_9 (And.intro @ap64_64 (@sl66)))))))
def tyaq := And.intro @sl72 (And.intro @ms72 (And.intro @br72 (And.intro @sx72 (And.intro @sw72 (And.intro @sl75 (And.intro @sl87 (And.intro @sl9 (@sx9))))))))
def tyar := And.intro @sl90 (And.intro @str102 (And.intro @str109 (And.intro @str110 (And.intro @str114 (And.intro @str120 (And.intro @str126 (And.intro @str127 (And.intro @str138 (And.intro @str139 (And.intro @str140 (And.intro @str144 (And.intro @str147 (And.intro @str150 (And.intro @str151 (And.intro @str2 (And.intro @str21 (And.intro @str22 (And.intro @str23 (@str25)))))))))))))))))))
def tyas := And.intro @str3 (And.intro @str4 (And.intro @str44 (And.intro @str45 (And.intro @str48 (And.intro @str49 (And.intro @str5 (And.intro @str51 (And.intro @str56 (And.intro @str57 (And.intro @str63 (And.intro @str64 (And.intro @str66 (And.intro @str72 (And.intro @str75 (And.intro @str87 (And.intro @str9 (And.intro @str90 (And.intro @sz122 (And.intro @st122 (And.intro @sz124 (And.intro @st124 (And.intro @sz126 (And.intro @st126 (@sz127))))))))))))))))))))))))
def tyat := And.intro @st127 (And.intro @sz138 (And.intro @st138 (And.intro @sz140 (And.intro @st140 (And.intro @sz146 (And.intro @st146 (And.intro @sz147 (And.intro @st147 (And.intro @sz150 (And.intro @st150 (And.intro @sz151 (And.intro @st151 (And.intro @sz21 (And.intro @st21 (And.intro @sz22 (And.intro @st22 (And.intro @sz23 (And.intro @st23 (And.intro @sz25 (And.intro @st25 (And.intro @sz28 (And.intro @st28 (And.intro @sz3 (@st3))))))))))))))))))))))))
def tyau := And.intro @sz32 (And.intro @st32 (And.intro @sz4 (And.intro @st4 (And.intro @sz44 (And.intro @st44 (And.intro @sz45 (And.intro @st45 (And.intro @sz48 (And.intro @st48 (And.intro @sz49 (And.intro @st49 (And.intro @sz5 (And.intro @st5 (And.intro @sz51 (And.intro @st51 (And.intro @sz57 (And.intro @st57 (And.intro @sz59 (And.intro @st59 (And.intro @sz63 (And.intro @st63 (And.intro @sz64 (And.intro @st64 (@sz66))))))))))))))))))))))))
def tyav := And.intro @st66 (And.intro @sz76 (And.intro @st76 (And.intro @sz77 (And.intro @st77 (And.intro @sz79 (And.intro @st79 (And.intro @sz89 (And.intro @st89 (And.intro @sz9 (And.intro @st9 (And.intro @sz90 (And.intro @st90 (And.intro @und4 (And.intro @und63 (And.intro @zero122 (And.intro @bd122 (And.intro @zero124 (And.intro @bd124 (And.intro @zero126 (@bd126))))))))))))))))))))
def tyaw := And.intro @zero138 (And.intro @bd138 (And.intro @zero140 (And.intro @bd140 (And.intro @zero146 (And.intro @bd146 (And.intro @zero147 (And.intro @bd147 (And.intro @zero150 (And.intro @bd150 (And.intro @zero151 (@bd151)))))))))))
def tyax := And.intro @zero21 (And.intro @zero28 (And.intro @zero3 (And.intro @zero32 (And.intro @bd32 (And.intro @zero4 (And.intro @zero44 (@bd44)))))))
def tyay := And.intro @zero45 (And.intro @zero48 (And.intro @zero5 (And.intro @zero51 (And.intro @bd51 (And.intro @zero59 (And.intro @bd59 (And.intro @zero66 (And.intro @bd66 (And.intro @zx66 (And.intro @zo66 (@zero79)))))))))))
def tyaz := And.intro @bd79 (And.intro @zero85 (And.intro @zero89 (And.intro @bd89 (And.intro @zero9 (And.intro @zero90 (@bd90))))))
end Go.VI

set_option linter.unusedSimpArgs false
set_option linter.unusedVariables false
namespace Go.VI
open Go.Proofs
theorem run_insert {P : Program} {w : World} {r : Nat} {es : Array MapEntry} {clock : Nat} {mty kt et : TypeId} {n : Int} {val : Value} (hm : P.underlying mty = some (.map kt et)) (hk : P.underlying kt = some (.int .i64)) (hb : w.heap[r]? = some (.map es clock)) (hnew : Instr.findNow (.int .i64) (.int .i64 n) es.toList 0 = some none) :
  (Instr.mapUpdate mty (.map (some r)) (.int .i64 n) val).run P w = .ok () { w with heap := w.heap.setIfInBounds r (.map (es.push { key := .int .i64 n, val := val, born := clock }) (clock + 1)) } := by
 have hc : (Instr.checkKey false 10000 kt (.int .i64 n)).run P w = .ok () w := MapKept.run_checkKey (k := .int .i64 n) hk (by simp [MapKept.IsKey]) false 9999
 simp [Instr.mapUpdate, run_underlying hm, MapKept.run_getObj_map hb, hc, MapKept.run_findKey hk hnew, MapKept.run_setObj_map _ hb, Result.andThen]
theorem conc_map {E : Env} {I : Imm} {η : Eta} {H : Hp} {w : World} (hC : Conc E I η H w) (arr : Array MapEntry) (clock : Nat) (es : List (Int × Nat)) (h : arr.toList.map (fun e => (e.key, e.val)) = es.map fun p => (Value.int .i64 p.1, Value.func (.func p.2) #[] #[])) :
  After E I η H w H (w.alloc (.map arr clock)) fun I' η' => RelA I' η' H (.i (.mp es)) (.map (some w.heap.size)) := by
 obtain ⟨hn, ho⟩ := MapKept.heap_alloc w (.map arr clock)
 let I' : Imm := fun b => if b = w.heap.size then some (.map arr clock) else I b
 have hlt : ∀ b o, I b = some o → b < w.heap.size := fun b o hb => (Array.getElem?_eq_some_iff.1 (hC.imm b o hb)).1
 have hle : I.le I' := fun b o hb => by
  have := hlt b o hb
  show (if _ then _ else _) = _
  rw [if_neg (by omega)]; exact hb
 have hsz : (w.alloc (.map arr clock)).heap.size = w.heap.size + 1 := by show (w.heap.push _).size = _; simp
 have hm : Mono I η H I' η H := mono_of hle (Nat.le_refl _) fun c hc => CStep.same rfl rfl
 refine ⟨I', η, ⟨fun b o hb => ?_, fun c x hx => (hC.ch c x hx).mono rfl hle hm fun b n h => ho b (hC.sep _ _ _ h).2.1, hC.inj, fun c b n hh => ?_, fun g cells hg => (hC.glob g cells hg).mono hle⟩, ⟨rfl, rfl, rfl, ?_, fun b hb _ => ho b hb, hle, fun b hb => ?_, fun c b n hh => .inr ⟨_, _, hh⟩⟩, hm, .i _ _ (.mp es _ arr clock (if_pos rfl) h)⟩
 ·by_cases he : b = w.heap.size
  ·subst he
   have hb' : (if w.heap.size = w.heap.size then some (Obj.map arr clock) else I w.heap.size) = some o := hb
   rw [if_pos rfl] at hb'
   rw [hn]; exact hb'
  ·have hb' : (if b = w.heap.size then some (Obj.map arr clock) else I b) = some o := hb
   rw [if_neg he] at hb'
   rw [ho b (hlt b o hb')]; exact hC.imm b o hb'
 ·obtain ⟨h1, h2, h3⟩ := hC.sep _ _ _ hh
  refine ⟨?_, by rw [hsz]; omega, h3⟩
  show (if _ then _ else _) = _
  rw [if_neg (by omega)]; exact h1
 ·rw [hsz]; omega
 ·by_cases he : b = w.heap.size
  ·exact .inr (.inl (by omega))
  ·have hb' : (if b = w.heap.size then some (Obj.map arr clock) else I b) ≠ none := hb
   rw [if_neg he] at hb'
   exact .inl hb'
theorem run_insert' {P : Program} {w : World} {es : Array MapEntry} {clock : Nat} {mty kt et : TypeId} {n : Int} {val : Value} (hm : P.underlying mty = some (.map kt et)) (hk : P.underlying kt = some (.int .i64)) (hnew : Instr.findNow (.int .i64) (.int .i64 n) es.toList 0 = some none) :
  (Instr.mapUpdate mty (.map (some w.heap.size)) (.int .i64 n) val).run P (w.alloc (.map es clock)) = .ok () (w.alloc (.map (es.push { key := .int .i64 n, val := val, born := clock }) (clock + 1))) := by
 rw [run_insert hm hk (MapKept.heap_alloc w _).1 hnew]
 congr 1
 show World.mk _ _ _ _ _ = World.mk _ _ _ _ _
 congr 1
 show (w.heap.push _).setIfInBounds w.heap.size _ = w.heap.push _
 apply Array.ext
 ·simp
 ·intro i h1 h2
  simp only [Array.size_setIfInBounds, Array.size_push] at h1
  by_cases hi : w.heap.size = i
  ·subst hi; simp
  ·rw [Array.getElem_setIfInBounds_ne (by simpa using h1) hi, Array.getElem_push_lt (by omega), Array.getElem_push_lt (by omega)]
theorem ext_map {E : Env} {f : FuncId} {es : List (Int × Nat)} (hc : ∀ w : World, Calls E.P f #[] w fun e w' => e = .returned (.map (some w.heap.size)) ∧ ∃ arr clock, w' = w.alloc (.map arr clock) ∧ arr.toList.map (fun e => (e.key, e.val)) = es.map fun p => (Value.int .i64 p.1, Value.func (.func p.2) #[] #[])) : Ext1 E f (extMap es) := by
 intro args H r H' hr I η w vs hC hA
 unfold extMap at hr
 split at hr
 ·cases hr
  obtain ⟨hs, _⟩ := hA
  obtain rfl : vs = #[] := Array.eq_empty_of_size_eq_zero (by simpa using hs)
  refine (hc w).mono ?_
  rintro e w' ⟨rfl, arr, clock, rfl, h⟩
  exact ⟨_, rfl, conc_map hC arr clock es h⟩
 ·cases hr
end Go.VI

set_option linter.unusedSimpArgs false
set_option linter.unusedVariables false
namespace Go.VI
open Go.Proofs
def ent (n : Int) (f b : Nat) : MapEntry := { key := .int .i64 n, val := .func (.func f) #[] #[], born := b }
theorem op_calls (w : World) : Calls Tryd.prog 32 #[] w fun e w' => e = .returned (.map (some w.heap.size)) ∧ ∃ arr clock, w' = w.alloc (.map arr clock) ∧ arr.toList.map (fun e => (e.key, e.val)) = [(8, 46), (9, 47), (10, 48), (11, 49), (12, 50)].map fun p => (Value.int .i64 p.1, Value.func (.func p.2) #[] #[]) := by
 have hm : Tryd.prog.underlying 96 = some (.map 3 85) := by kernel_rfl
 have hk : Tryd.prog.underlying 3 = some (.int .i64) := by kernel_rfl
 have h0 : (Instr.makeMap 96 none).run Tryd.prog w = .ok (.map (some w.heap.size)) (w.alloc (.map #[] 0)) := rfl
 have h1 : (Instr.mapUpdate 96 (.map (some w.heap.size)) (.int .i64 8) (.func (.func 46) #[] #[])).run Tryd.prog (w.alloc (.map #[] 0)) = .ok () (w.alloc (.map #[ent 8 46 0] 1)) := run_insert' hm hk rfl
 have h2 : (Instr.mapUpdate 96 (.map (some w.heap.size)) (.int .i64 9) (.func (.func 47) #[] #[])).run Tryd.prog (w.alloc (.map #[ent 8 46 0] 1)) = .ok () (w.alloc (.map #[ent 8 46 0, ent 9 47 1] 2)) := run_insert' hm hk rfl
 have h3 : (Instr.mapUpdate 96 (.map (some w.heap.size)) (.int .i64 10) (.func (.func 48) #[] #[])).run Tryd.prog (w.alloc (.map #[ent 8 46 0, ent 9 47 1] 2)) = .ok () (w.alloc (.map #[ent 8 46 0, ent 9 47 1, ent 10 48 2] 3)) := run_insert' hm hk rfl
 have h4 : (Instr.mapUpdate 96 (.map (some w.heap.size)) (.int .i64 11) (.func (.func 49) #[] #[])).run Tryd.prog (w.alloc (.map #[ent 8 46 0, ent 9 47 1, ent 10 48 2] 3)) = .ok () (w.alloc (.map #[ent 8 46 0, ent 9 47 1, ent 10 48 2, ent 11 49 3] 4)) := run_insert' hm hk rfl
 have h5 : (Instr.mapUpdate 96 (.map (some w.heap.size)) (.int .i64 12) (.func (.func 50) #[] #[])).run Tryd.prog (w.alloc (.map #[ent 8 46 0, ent 9 47 1, ent 10 48 2, ent 11 49 3] 4)) = .ok () (w.alloc (.map #[ent 8 46 0, ent 9 47 1, ent 10 48 2, ent 11 49 3, ent 12 50 4] 5)) := run_insert' hm hk rfl
 go_enter Tryd.func32, Tryd.ntmps32
 go_wp2
 all_goals go_ret
 all_goals exact ⟨rfl, _, _, rfl, rfl⟩
end Go.VI

namespace Go.VI
open Go.Proofs
set_option maxRecDepth 100000
set_option linter.unusedSimpArgs false
set_option linter.unusedVariables false
set_option maxHeartbeats 4000000
def i64 (n : Int) : AV := .i (.v (.int .i64 n))
def mcS (row : Int) (g : IV) (c w r : Int) (st : List Int) : List AV := i64 row :: .i g :: i64 c :: i64 w :: i64 r :: st.map i64
def mc (row : Int) (g : IV) (c w r : Int) (st : List Int) (d : Int) (f : Bool) : List AV := mcS row g c w r st ++ [.i (.v (.int .i64 d)), .i (.v (.bool f))]
section
variable {row : Int} {g : IV} {c w r : Int} {st : List Int} {d : Int} {f : Bool}
theorem mcS_len (h : st.length = 16) : (mcS row g c w r st).length = 21 := by simp [mcS, h]
theorem mc_len (h : st.length = 16) : (mc row g c w r st d f).length = 23 := by rw [mc, List.length_append, mcS_len h]; rfl
theorem mc_0 : (mc row g c w r st d f)[0]? = some (.i (.v (.int .i64 row))) := rfl
theorem mc_1 : (mc row g c w r st d f)[1]? = some (.i g) := rfl
theorem mc_2 : (mc row g c w r st d f)[2]? = some (.i (.v (.int .i64 c))) := rfl
theorem mc_3 : (mc row g c w r st d f)[3]? = some (.i (.v (.int .i64 w))) := rfl
theorem mc_st (h : st.length = 16) {k : Nat} (hk : k < 16) : (mc row g c w r st d f)[5 + k]? = some (.i (.v (.int .i64 (st.getD k 0)))) := by
 rw [mc, List.getElem?_append_left (by rw [mcS_len h]; omega), mcS, show 5 + k = k + 1 + 1 + 1 + 1 + 1 from by omega]
 simp only [List.getElem?_cons_succ, List.getElem?_map, List.getD_eq_getElem?_getD]
 rw [List.getElem?_eq_getElem (by omega)]; rfl
theorem mc_21 (h : st.length = 16) : (mc row g c w r st d f)[21]? = some (.i (.v (.int .i64 d))) := by
 rw [mc, List.getElem?_append_right (by rw [mcS_len h]; exact Nat.le_refl _), mcS_len h]; rfl
theorem mc_22 (h : st.length = 16) : (mc row g c w r st d f)[22]? = some (.i (.v (.bool f))) := by
 rw [mc, List.getElem?_append_right (by rw [mcS_len h]; omega), mcS_len h]; rfl
theorem mc_put21 (h : st.length = 16) (x : Int) : List.take 21 (mc row g c w r st d f) ++ [.i (.v (.int .i64 x))] ++ List.drop 22 (mc row g c w r st d f) = mc row g c w r st x f := by
 have h1 := mcS_len (row := row) (g := g) (c := c) (w := w) (r := r) h
 unfold mc
 generalize mcS row g c w r st = l at *
 rw [← h1, List.take_left', List.drop_append]
 ·simp
  rw [List.drop_eq_nil_of_le (by omega), h1]; rfl
 ·rfl
theorem mc_put22 (h : st.length = 16) (x : Bool) : List.take 22 (mc row g c w r st d f) ++ [.i (.v (.bool x))] ++ List.drop 23 (mc row g c w r st d f) = mc row g c w r st d x := by
 have h1 := mcS_len (row := row) (g := g) (c := c) (w := w) (r := r) h
 unfold mc
 generalize mcS row g c w r st = l at *
 rw [show 22 = l.length + 1 from by omega, show 23 = l.length + 2 from by omega, List.take_append, List.drop_append]
 simp
 rw [List.take_of_length_le (by omega), List.drop_eq_nil_of_le (by omega)]
theorem mc_put (h : st.length = 16) {k : Nat} (hk : k < 16) (x : Int) : List.take (5 + k) (mc row g c w r st d f) ++ [.i (.v (.int .i64 x))] ++ List.drop (5 + k + 1) (mc row g c w r st d f) = mc row g c w r (st.set k x) d f := by
 have hs : (mc row g c w r st d f).set (5 + k) (.i (.v (.int .i64 x))) = mc row g c w r (st.set k x) d f := by
  rw [mc, List.set_append_left _ _ (by rw [mcS_len h]; omega), mcS, show 5 + k = k + 1 + 1 + 1 + 1 + 1 from by omega]
  simp only [List.set_cons_succ, mc, mcS, List.map_set]
  rfl
 rw [← hs, List.set_eq_take_append_cons_drop, if_pos (by rw [mc_len h]; omega)]
 simp
theorem mc_refs (hg : True) : refsL (mc row g c w r st d f) = [] := by
 have : ∀ (l : List Int) (t : List AV), refsL t = [] → refsL (l.map i64 ++ t) = [] := fun l t ht => by
  induction l with
  | nil => exact ht
  | cons a l ih => rw [List.map_cons, List.cons_append, refsL, ih]; rfl
 show refsL (st.map i64 ++ _) = []
 exact this st _ rfl
theorem mc_ren (ρ : Nat → Option Nat) : renL ρ (mc row g c w r st d f) = mc row g c w r st d f := (refs_ren ρ).2 _ (mc_refs trivial)
end
end Go.VI

