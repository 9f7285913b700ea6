import Derived.Test.YtgaeknackpfdcaaDoorProg
import Derived.KernelRfl
import Derived.MapKept
import Derived.Carry
import Derived.WalkKit
import Derived.OwnWalk
import Derived.Test.YtgaeknackpfdcaaDoorZIN3
set_option linter.unusedVariables false
set_option linter.defProp false
set_option maxRecDepth 20000
namespace Go.VI
def vall := And.intro va0 (And.intro va1 (And.intro va2 (And.intro va3 (And.intro va4 (And.intro va5 (And.intro va6 (And.intro va7 (And.intro va8 (And.intro va9 (And.intro va10 (And.intro va11 (And.intro va12 (And.intro va13 (And.intro va14 (And.intro va15 (And.intro vb0 (And.intro vb1 (And.intro vb2 (And.intro vb3 (And.intro @w_i8 (And.intro @w_u8 (And.intro @w_i16 (And.intro @w_u16 (And.intro @w_i32 (And.intro @w_u32 (And.intro @w_i64 (And.intro @w_u64 (And.intro @lt_T (And.intro @lt_F (And.intro @le_T (And.intro @le_F (And.intro @nlt_T (And.intro @nlt_F (And.intro @nle_T (And.intro @nle_F (And.intro @decide_true (And.intro @decide_false (And.intro @or_true (And.intro @true_or (And.intro @or_false (And.intro @false_or (And.intro @and_true (And.intro @true_and (And.intro @and_self (And.intro @false_and (And.intro @and_false (And.intro @not_true (And.intro @not_false_iff (And.intro @eq_T (And.intro @eq_F (And.intro @ndec (And.intro @odec (And.intro @adec (@sdec))))))))))))))))))))))))))))))))))))))))))))))))))))))
def vlen := And.intro @List.length_append.{0} (And.intro @List.length_map.{0,0} (And.intro @List.length_set.{0} (And.intro @List.length_cons.{0} (And.intro @List.length_nil.{0} (And.intro @List.length_take.{0} (@List.length_drop.{0}))))))
open Go.Proofs
def keepT : List (Nat × List (Nat × List Nat)) := [
  (2, [(0, [])]),
  (3, [(0, [0, 1, 2, 4, 8]), (1, [0, 1, 2, 4, 8, 14]), (2, [10]), (3, [10])]),
  (4, [(0, [0, 1, 2, 7]), (1, [0, 1, 2, 7, 13]), (2, [8]), (3, [0, 1, 2, 7, 9]), (4, [8])]),
  (5, [(0, [0, 1, 2, 4, 8]), (1, [0, 1, 2, 4, 8, 16]), (2, [10]), (3, [4, 8, 11, 12]), (4, [4, 8, 11, 12, 32]), (5, [10]), (6, [4, 8, 11, 12, 44]), (7, [10]), (8, [10])]),
  (6, [(0, [0, 1, 2, 3, 9]), (1, [0, 1, 2, 3, 9, 26]), (2, [10]), (3, [0, 1, 2, 3, 9, 11]), (4, [0, 1, 2, 3, 9, 11, 32, 33]), (5, [0, 1, 2, 3, 9, 11, 32, 33, 34]), (6, [0, 1, 2, 3, 9, 11, 12, 32, 33]), (7, [0, 1, 2, 3, 9, 11, 12, 32, 33, 41]), (8, [0, 1, 2, 3, 9, 11, 12, 32, 33]), (9, [0, 1, 2, 3, 9, 11, 32, 33, 59]), (10, [10]), (11, [0, 1, 2, 3, 9, 11, 32, 33]), (12, [10])]),
  (7, [(0, [0, 1, 5]), (1, [5, 7, 8]), (2, [5, 7, 8, 9]), (3, [7, 8, 10]), (4, [7, 8, 10, 11, 12]), (5, [7, 8, 10, 11, 12, 25]), (6, [7, 8, 10, 11, 12]), (7, [7, 8, 10, 11, 12, 28]), (8, [7, 8, 10, 11, 12]), (9, [6])]),
  (8, [(0, [0, 1, 2, 3, 9]), (1, [0, 1, 2, 3, 9, 32]), (2, [10]), (3, [0, 1, 2, 3, 9, 38, 39, 40]), (4, [0, 1, 2, 3, 9, 38, 39, 40, 41]), (5, [0, 1, 2, 3, 9, 12, 38, 39, 40]), (6, [0, 1, 2, 3, 9, 38, 39, 40, 56]), (7, [10]), (8, [0, 1, 2, 3, 9, 38, 39, 40]), (9, [0, 1, 2, 3, 9, 13]), (10, [0, 1, 2, 3, 9, 13, 14]), (11, [0, 13, 14, 15]), (12, [0, 13, 14, 15, 86]), (13, [10]), (14, [0, 13, 14, 15, 16]), (15, [13, 14, 15, 16, 88, 89, 90]), (16, [13, 14, 15, 16, 88, 89, 90, 91]), (17, [13, 14, 15, 16, 18, 88, 89, 90]), (18, [13, 14, 15, 16, 88, 89, 90]), (19, [13, 14, 15, 16, 88, 89, 90]), (20, [13, 14, 15, 103]), (21, [10]), (22, [10])]),
  (9, [(0, [0, 1, 2, 7]), (1, [0, 1, 2, 7, 20]), (2, [8]), (3, [0, 1, 2, 7, 9, 10]), (4, [9, 10, 11]), (5, [8])]),
  (10, [(0, [0, 1, 2, 3, 9]), (1, [0, 1, 2, 3, 9, 22]), (2, [10]), (3, [0, 1, 2, 3, 9, 11, 12]), (4, [0, 1, 2, 3, 9, 33]), (5, [10]), (6, [10])]),
  (11, [(0, [0, 1]), (1, [1, 13]), (2, [4]), (3, [1, 5]), (4, [1, 5, 17]), (5, [1, 5]), (6, [1, 5, 26]), (7, [4]), (8, [4])]),
  (12, [(0, []), (1, [1]), (2, [1, 2, 3]), (3, [1, 3, 4, 5]), (4, [0])]),
  (13, [(0, [0, 1, 2, 4, 8, 10]), (1, [0, 1, 2, 4, 8, 10, 11]), (2, [0, 1, 2, 4, 8, 10, 11, 19]), (3, [10]), (4, [0, 1, 2, 4, 8, 10]), (5, [0, 4, 8, 10, 12]), (6, [0, 4, 8, 10, 12, 13]), (7, [0, 4, 8, 10, 12, 13, 14]), (8, [0, 4, 8, 10, 12, 13, 14, 34]), (9, [0, 4, 8, 10, 12, 13, 14, 37]), (10, [10]), (11, [0, 4, 8, 10, 12, 13, 14]), (12, [0, 4, 8, 10, 12, 13, 14, 15]), (13, [0, 4, 8, 10, 12, 13, 14, 15]), (14, [0, 4, 8, 10, 12, 13, 14, 15, 50]), (15, [0, 4, 8, 10, 12, 13, 14]), (16, [0, 4, 8, 10, 12, 13, 14, 15, 50, 54]), (17, [0, 4, 8, 10, 12, 13, 14]), (18, [0, 4, 8, 10, 12, 13, 14, 15, 50, 58]), (19, [0, 4, 8, 10, 12, 13, 14]), (20, [0, 4, 8, 10, 12, 13, 14, 15, 62]), (21, [0, 4, 8, 10, 12, 13, 14, 15, 66]), (22, [0, 4, 8, 10, 12, 13, 14]), (23, [0, 4, 8, 10, 12, 13, 14, 72]), (24, [10]), (25, [10])]),
  (14, [(0, [0, 1, 2, 4, 8, 10]), (1, [0, 1, 2, 4, 8, 10, 11]), (2, [0, 1, 2, 4, 8, 10, 11, 25]), (3, [10]), (4, [0, 1, 2, 8, 10, 12]), (5, [0, 1, 2, 8, 10, 12, 13, 14, 15]), (6, [0, 1, 2, 8, 10, 12, 13, 14, 15, 16]), (7, [0, 1, 2, 8, 10, 12, 13, 14, 15, 16, 37]), (8, [0, 1, 2, 8, 10, 12, 13, 14, 15, 16, 40]), (9, [10]), (10, [0, 1, 2, 8, 10, 12, 13, 14, 15, 16]), (11, [0, 1, 2, 8, 10, 12, 13, 14, 15, 16, 17]), (12, [0, 1, 2, 8, 10, 12, 13, 14, 15, 16, 17, 18]), (13, [0, 1, 2, 8, 10, 12, 13, 14, 15, 16, 17, 18, 65]), (14, [10]), (15, [0, 1, 2, 8, 10, 12, 13, 14, 15, 16, 17, 18, 19]), (16, [0, 1, 2, 8, 10, 12, 13, 14, 15, 16, 17, 19]), (17, [0, 1, 2, 8, 10, 12, 13, 14, 15, 16, 17, 19, 20]), (18, [0, 1, 2, 8, 10, 12, 13, 14, 15, 16, 17, 19, 20, 21]), (19, [0, 1, 2, 8, 10, 12, 13, 14, 15, 16, 17, 19, 20, 21, 88]), (20, [0, 1, 2, 8, 10, 12, 13, 14, 15, 16, 17, 19, 20, 21]), (21, [0, 1, 2, 8, 10, 12, 13, 14, 15, 16, 17, 19, 20, 21]), (22, [0, 1, 2, 8, 10, 12, 13, 14, 15, 16, 17, 19]), (23, [0, 1, 2, 8, 10, 12, 13, 14, 15, 16, 17, 19, 102]), (24, [0, 1, 2, 8, 10, 12, 13, 14, 15, 16, 17, 19, 102, 103]), (25, [0, 1, 2, 8, 10, 12, 13, 14, 15, 16]), (26, [0, 1, 2, 8, 10, 12, 13, 14, 15, 16, 17, 19, 102, 107]), (27, [0, 1, 2, 8, 10, 12, 13, 14, 15, 16]), (28, [0, 1, 2, 8, 10, 12, 13, 14, 15, 16, 17, 19, 102, 111]), (29, [0, 1, 2, 8, 10, 12, 13, 14, 15, 16, 17, 116]), (30, [0, 1, 2, 8, 10, 12, 13, 14, 15, 16]), (31, [0, 1, 2, 8, 10, 12, 13, 14, 15, 16, 19, 102, 119]), (32, [0, 1, 2, 8, 10, 12, 13, 14, 15, 16, 19, 130]), (33, [0, 1, 2, 8, 10, 12, 13, 14, 15, 16]), (34, [0, 1, 2, 8, 10, 12, 13, 14, 15, 16, 19, 135]), (35, [0, 1, 2, 8, 10, 12, 13, 14, 15, 16, 19, 146]), (36, [0, 1, 2, 8, 10, 12, 13, 14, 15, 16]), (37, [10])]),
  (15, [(0, [0, 1, 2, 7, 8]), (1, [0, 1, 2, 7, 8, 22]), (2, [8]), (3, [8, 9]), (4, [8, 9, 32]), (5, [8, 9]), (6, [8])]),
  (16, [(0, [0, 1, 2, 7, 8]), (1, [0, 1, 2, 7, 8, 10]), (2, [0, 1, 2, 7, 8, 28]), (3, [8]), (4, [8, 11]), (5, [8, 11, 38]), (6, [8, 11]), (7, [8])]),
  (17, [(0, [0]), (1, [2])]),
  (18, [(0, [0, 1, 2, 3, 4, 5]), (1, [4, 5, 9]), (2, [5, 10]), (3, [8])]),
  (19, [(0, [0]), (1, [4]), (2, [2])]),
  (20, [(0, [0, 2, 3]), (1, [0, 2, 3, 4]), (2, [0, 2, 3, 4, 11]), (3, [2, 3]), (4, [0, 2, 3, 5]), (5, [0, 2, 3, 5, 6]), (6, [0, 2, 3, 5, 6, 21]), (7, [0, 2, 3, 5, 6]), (8, [0, 2, 3, 5, 6, 29]), (9, [5, 6, 7]), (10, []), (11, [0, 2, 3, 5, 6]), (12, [0, 2, 3, 5, 49]), (13, [0, 2, 3, 5, 6]), (14, [2, 3])]),
  (21, [(0, [0, 2, 3]), (1, [0, 2, 3, 4, 5]), (2, [0, 2, 3, 4, 5, 19]), (3, [2, 3]), (4, [0, 2, 3, 4, 6]), (5, [2, 3, 4, 6, 25, 26, 27]), (6, [2, 3, 4, 6, 25, 26, 27, 28]), (7, [2, 3, 4, 6, 7, 8, 25, 26, 27]), (8, [2, 3, 4, 6, 7, 8, 25, 26, 27, 36]), (9, [2, 3, 4, 6, 7, 8, 9, 25, 26, 27]), (10, [2, 3, 4, 6, 7, 8, 9, 25, 26, 27, 62]), (11, [2, 3]), (12, [2, 3, 4, 6, 7, 8, 9, 25, 26, 27]), (13, [2, 3, 4, 6, 9, 25, 26, 27, 73]), (14, [6, 9, 10]), (15, [6, 9, 10]), (16, [6, 10, 89, 90]), (17, [6, 10, 89, 90, 91]), (18, [6, 10, 11, 12, 89, 90]), (19, [6, 10, 89, 90]), (20, [6, 10, 89, 90]), (21, [2, 3, 4, 6, 25, 26, 27]), (22, [2, 3])]),
  (22, [(0, []), (1, [0])]),
  (23, [(0, [0]), (1, [0, 9]), (2, [2]), (3, [0, 10, 11, 12]), (4, [0, 10, 11, 12, 13]), (5, [0, 3, 4, 10, 11, 12]), (6, [0, 3, 4, 10, 11, 12, 26]), (7, [2]), (8, [0, 4, 5, 6, 10, 11, 12]), (9, [0, 10, 11, 12, 45]), (10, [2]), (11, [0, 10, 11, 12]), (12, [2])]),
  (24, [(0, [0]), (1, [0, 7]), (2, []), (3, [2]), (4, [0]), (5, [2])]),
  (25, [(0, [0, 3]), (1, [0, 3, 14]), (2, [0, 3, 4, 5]), (3, [0, 3, 4, 22]), (4, [0, 4, 6]), (5, [0, 4, 6, 7]), (6, []), (7, [0, 3, 8]), (8, [0, 8, 36]), (9, [0, 8, 36, 37]), (10, []), (11, [0, 8, 36, 44]), (12, [0, 9]), (13, []), (14, [0, 8, 36, 56]), (15, []), (16, [0, 8, 36, 63]), (17, [0, 8]), (18, []), (19, [0, 8, 36, 71]), (20, [0, 8, 11]), (21, [0, 11]), (22, []), (23, [0, 8, 36, 81]), (24, [0, 8, 88]), (25, []), (26, [0, 8, 94]), (27, [0, 8, 101]), (28, [])]),
  (26, [(0, [0]), (1, [0, 9]), (2, [2]), (3, [0, 3]), (4, [0, 3, 13]), (5, [0, 3]), (6, [0, 3, 4]), (7, [0, 3, 4, 27]), (8, [2]), (9, [0, 3, 4, 5, 6]), (10, [0, 3, 4, 5, 6, 30]), (11, [0, 3, 4, 5]), (12, [0, 3, 4, 5, 6]), (13, [0, 3, 4, 5, 6, 33]), (14, [0, 3, 4, 5]), (15, [0, 3, 4, 5, 6]), (16, [0, 3, 47]), (17, [2]), (18, [2])]),
  (27, [(0, [0]), (1, [0, 3]), (2, [2])]),
  (28, [(0, [0]), (1, [0, 3]), (2, [2])]),
  (29, [(0, [1, 2, 3, 5, 9]), (1, [1, 2, 3, 5, 9, 12]), (2, [1, 2, 3, 5, 9, 12, 13]), (3, [10]), (4, [1, 2, 3, 5, 9, 12, 18]), (5, [10]), (6, [1, 3, 5, 9, 12, 22]), (7, [10]), (8, [1, 3, 5, 9, 12, 27]), (9, [10]), (10, [1, 3, 5, 9, 12, 35]), (11, [10]), (12, [1, 5, 9, 12, 43]), (13, [10]), (14, [1, 5, 9, 12, 48]), (15, [10]), (16, [1, 5, 12, 53]), (17, [1, 5, 12, 53]), (18, [1, 5, 12, 53]), (19, [1, 5, 12, 53]), (20, [1, 5, 12, 53]), (21, [10]), (22, [1, 12, 69]), (23, [10]), (24, [1, 12, 77]), (25, [10]), (26, [1, 86]), (27, [10]), (28, [10])]),
  (30, [(0, [0]), (1, [2])]),
  (31, [(0, [0]), (1, [0, 4]), (2, [0, 4, 14]), (3, [2, 3]), (4, [0, 5]), (5, [0, 5, 6]), (6, [0, 5, 6, 19]), (7, [0, 5, 6]), (8, [0, 5, 6]), (9, [0, 5]), (10, [0, 5, 7]), (11, [0, 5, 7, 30]), (12, [0, 5, 7]), (13, [0, 5, 7, 37]), (14, [0, 5, 7, 8]), (15, [0, 5, 7, 8, 70]), (16, [2, 3]), (17, [0, 5, 7, 8, 9]), (18, [0, 5, 7, 8, 9, 10]), (19, [0, 5, 7, 8, 9, 10, 77]), (20, [0, 5, 7, 8, 9, 10]), (21, [0, 5, 7, 8, 9, 10, 107]), (22, [2, 3]), (23, [0, 5, 7, 8, 9, 10]), (24, [2, 3])]),
  (32, [(0, [1, 2, 3]), (1, [1, 2, 3, 4]), (2, [1, 2, 3, 4, 14]), (3, [2, 3]), (4, [1, 2, 3, 5]), (5, [1, 2, 3, 5, 21, 22]), (6, [1, 2, 3, 5, 21, 22, 23]), (7, [1, 2, 3, 5, 6, 21, 22]), (8, [1, 2, 3, 5, 21, 22]), (9, [1, 2, 3, 5, 21, 22]), (10, [1, 2, 3, 5]), (11, [1, 2, 3, 5, 31, 32, 33]), (12, [1, 2, 3, 5, 31, 32, 33, 34]), (13, [1, 2, 3, 5, 7, 8, 31, 32, 33]), (14, [1, 2, 3, 5, 7, 8, 31, 32, 33, 42]), (15, [1, 2, 3, 5, 7, 8, 9, 31, 32, 33]), (16, [1, 2, 3, 5, 7, 8, 9, 31, 32, 33, 69]), (17, [2, 3]), (18, [1, 2, 3, 5, 9, 31, 32, 33, 72]), (19, [1, 2, 3, 5, 9, 10]), (20, [2, 3, 5, 9, 10, 92]), (21, []), (22, []), (23, [1, 2, 3, 5, 31, 32, 33]), (24, [2, 3])]),
  (33, [(0, [2, 3]), (1, [4])]),
  (34, [(0, [1, 2, 3, 6]), (1, [1, 2, 3, 6, 7]), (2, [1, 2, 3, 6, 7, 11]), (3, [1, 2, 3, 6]), (4, [1, 2, 3, 6, 7, 25]), (5, [1, 2, 3, 6]), (6, [1, 2, 3, 6, 7, 47]), (7, [1, 2, 3, 6]), (8, [1, 2, 3, 6, 7, 57]), (9, [1, 2, 3, 6]), (10, [1, 2, 3, 6, 7, 76]), (11, [1, 2, 3, 6]), (12, [1, 2, 3, 6, 88]), (13, [1, 2, 3, 6]), (14, [3, 6, 8]), (15, [3, 6, 8, 110]), (16, [3, 6, 8]), (17, [3, 6, 8]), (18, [6])]),
  (35, [(0, []), (1, [0])]),
  (36, [(0, [0, 1, 2]), (1, [1, 2, 8]), (2, [1, 2, 8, 9]), (3, [1, 2, 8, 11]), (4, [1, 2, 13]), (5, [6, 7]), (6, [6, 7]), (7, [6, 7])]),
  (37, [(0, [0, 3]), (1, [0, 3, 6]), (2, [4]), (3, [0, 3, 6, 7]), (4, []), (5, [0, 6, 13]), (6, []), (7, [0, 6, 21]), (8, []), (9, [0, 6, 30]), (10, []), (11, [0, 39]), (12, []), (13, [4])]),
  (38, [(0, []), (1, [0])]),
  (39, [(0, [0, 1, 8]), (1, []), (2, [0]), (3, [])]),
  (40, [(0, [0, 1]), (1, [5, 6]), (2, [5, 15]), (3, [4]), (4, [5, 18]), (5, [4]), (6, [7, 8]), (7, [7]), (8, [7, 34]), (9, [4]), (10, [4])]),
  (41, [(0, [0, 1, 4]), (1, [0, 1, 4, 16]), (2, [4, 5]), (3, [4, 5])]),
  (42, [(0, [0]), (1, [3]), (2, [2]), (3, [2])]),
  (43, [(0, [0]), (1, [2])]),
  (44, [(0, [0, 1]), (1, [0, 1, 14]), (2, [4]), (3, [0, 1, 20]), (4, [4]), (5, [5, 6]), (6, [5]), (7, [5, 36]), (8, [4]), (9, [4])]),
  (45, [(0, [0, 1]), (1, [0, 1, 12]), (2, [4]), (3, [4])]),
  (46, [(0, [0, 1, 2]), (1, [1, 2, 7]), (2, [1, 2, 7, 8]), (3, [6]), (4, [1, 2, 7, 13]), (5, [6]), (6, [1, 2, 7, 18]), (7, [6]), (8, [1, 2, 23]), (9, [6]), (10, [6])]),
  (47, [(0, [0]), (1, [3]), (2, [2]), (3, [2])]),
  (48, [(0, [0, 1]), (1, [0, 1, 9]), (2, [0, 1, 9, 10]), (3, [4]), (4, [0, 1, 9, 12]), (5, [4]), (6, [0, 1, 20]), (7, [4]), (8, [4])]),
  (49, [(0, [0, 1, 18]), (1, [0, 1, 26]), (2, [])]),
  (50, [(0, [0, 1]), (1, [4])]),
  (51, [(0, [0, 1]), (1, [4])]),
  (52, [(0, [0, 1]), (1, [4])]),
  (53, [(0, [0, 1]), (1, [4])]),
  (54, [(0, [0, 1]), (1, [4])]),
  (55, [(0, [0]), (1, [2])]),
  (56, [(0, [0, 1]), (1, [6]), (2, [6, 7]), (3, [6, 7, 8]), (4, [6, 7, 8, 9]), (5, [6, 7, 8, 9, 16, 17]), (6, [6, 7, 8, 9, 16, 17, 18]), (7, [6, 7, 8, 9, 10, 16, 17]), (8, [6, 7, 8, 9, 10, 11, 16, 17]), (9, [6, 7, 8, 9, 10, 11, 16, 17, 37]), (10, [6, 7, 8, 9, 16, 17]), (11, [6, 7, 8, 9, 16, 17, 51]), (12, [6, 7, 8, 9, 16, 17]), (13, [6, 7, 8, 10, 11, 16, 17, 59]), (14, [6, 7, 8, 10, 11, 16, 17]), (15, [6, 7, 8, 9, 11, 16, 17]), (16, [6, 7, 8, 9, 11, 16, 17, 66]), (17, [6, 7, 8, 9, 16, 17]), (18, [6, 7, 8, 9, 16, 17, 74]), (19, [6, 7, 8, 9, 16, 17]), (20, [6, 7, 8, 9, 16, 17]), (21, [6, 7, 9, 84]), (22, [4, 5]), (23, [4, 5])]),
  (57, [(0, [0]), (1, [3, 4]), (2, [3, 11]), (3, [3]), (4, [2])]),
  (58, [(0, [0, 1]), (1, [6]), (2, [6, 7]), (3, [6, 7, 8]), (4, [6, 7, 8, 9]), (5, [6, 7, 8, 9, 25]), (6, [6, 7, 8, 9, 10]), (7, [6, 7, 8, 9, 10, 31]), (8, [6, 7, 8, 9, 10]), (9, [6, 7, 8, 9, 10, 13]), (10, [6, 7, 8, 9]), (11, [6, 7, 8, 9, 10, 13, 44]), (12, [6, 7, 8, 9]), (13, [6, 7, 8, 9, 10, 52]), (14, [6, 7, 8, 9]), (15, [6, 7, 8, 9, 10, 14, 15, 16]), (16, [6, 7, 8, 9, 10, 16, 72]), (17, [6, 7, 9]), (18, [6, 7, 8, 9]), (19, [6, 7, 8, 9, 10, 16]), (20, [6, 7, 8, 9, 16]), (21, [6, 7, 8, 9, 86]), (22, [6, 7, 9]), (23, [6, 7, 8, 9]), (24, [4, 5])]),
  (59, [(0, [0]), (1, [3, 4]), (2, [3, 11]), (3, [3]), (4, [2])]),
  (60, [(0, [0, 2]), (1, [0, 2, 3]), (2, [0, 2, 3, 5]), (3, [0, 2, 3]), (4, [0, 2, 3, 17]), (5, [0, 2, 3]), (6, [0, 2, 3, 29]), (7, [0, 2, 3]), (8, [2, 3, 41]), (9, [2, 3, 41, 42]), (10, [2, 3]), (11, [2, 3, 41, 45]), (12, [2, 3]), (13, [2, 3, 41, 48]), (14, [2, 3]), (15, [2, 3, 51]), (16, [2, 3]), (17, [2])]),
  (61, [(0, [0]), (1, [0, 10]), (2, [2, 3, 4]), (3, [0, 5]), (4, [0, 5, 11]), (5, [0, 5]), (6, [0, 5, 22]), (7, [0, 5]), (8, [0, 5, 33]), (9, [0, 5]), (10, [0, 5, 6, 7]), (11, [0, 5, 6, 7, 46]), (12, [5, 6, 7, 49]), (13, [5, 6, 7, 49, 50]), (14, [5, 6, 7]), (15, [5, 6, 7, 49, 52]), (16, [5, 6, 7]), (17, [5, 6, 7, 49, 54]), (18, [5, 6, 7]), (19, [5, 6, 7, 56]), (20, [5, 6, 7]), (21, [2, 3, 4])]),
  (62, [(0, [0]), (1, [0, 3]), (2, [0, 3, 6]), (3, [0, 3, 6, 7]), (4, [0, 3]), (5, [0, 3, 6, 14]), (6, [0, 3]), (7, [0, 3, 21]), (8, [0, 3]), (9, [0, 3, 4]), (10, [0, 3, 4, 31]), (11, [0, 3, 4]), (12, [0, 3, 4]), (13, [2])]),
  (83, [(0, []), (1, [])])]
def headT : List (Nat × List (Nat × List Nat)) := [
  (6, [(5, [0, 1, 2, 3, 9, 11, 32, 33])]),
  (8, [(4, [0, 1, 2, 3, 9, 38, 39, 40]), (16, [13, 14, 15, 16, 88, 89, 90])]),
  (11, [(4, [1, 5])]),
  (13, [(8, [0, 4, 8, 10, 12, 13, 14])]),
  (14, [(7, [0, 1, 2, 8, 10, 12, 13, 14, 15, 16]), (19, [0, 1, 2, 8, 10, 12, 13, 14, 15, 16, 17, 19, 20, 21])]),
  (20, [(6, [0, 2, 3, 5, 6])]),
  (21, [(6, [2, 3, 4, 6, 25, 26, 27]), (17, [6, 10, 89, 90])]),
  (23, [(4, [0, 10, 11, 12])]),
  (26, [(4, [0, 3])]),
  (31, [(6, [0, 5, 6]), (11, [0, 5, 7]), (19, [0, 5, 7, 8, 9, 10])]),
  (32, [(6, [1, 2, 3, 5, 21, 22]), (12, [1, 2, 3, 5, 31, 32, 33])]),
  (34, [(15, [3, 6, 8])]),
  (56, [(6, [6, 7, 8, 9, 16, 17])]),
  (58, [(5, [6, 7, 8, 9])]),
  (62, [(10, [0, 3, 4])])]
def lk2 (t : List (Nat × List (Nat × List Nat))) (f i : Nat) : List Nat := match t.lookup f with | some l => (l.lookup i).getD [] | none => []
def floT : List (Nat × List (Nat × List (Nat × Nat))) := [
  (3, [(3, [(5, 9)])]),
  (4, [(4, [(0, 5)])]),
  (5, [(3, [(4, 8), (4, 10), (3, 12), (4, 12), (8, 12), (10, 12), (11, 12), (3, 13), (4, 13), (8, 13), (10, 13), (11, 13), (12, 13)])]),
  (6, [(12, [(4, 8), (16, 20)])]),
  (8, [(11, [(0, 7), (2, 7), (4, 7), (0, 9), (2, 9), (4, 9), (7, 9), (8, 9)])]),
  (10, [(6, [(4, 9), (18, 22)])]),
  (12, [(2, [(0, 1)]), (3, [(0, 2), (0, 6), (3, 6), (4, 6), (0, 8), (2, 8), (3, 8), (4, 8), (6, 8), (7, 8), (0, 9), (2, 9), (3, 9), (4, 9), (6, 9), (7, 9), (8, 9)]), (4, [(11, 13), (11, 15), (14, 15)])]),
  (18, [(1, [(0, 7), (2, 7)])]),
  (20, [(8, []), (10, [])]),
  (21, [(12, []), (15, []), (19, [])]),
  (23, [(6, [(5, 6)])]),
  (24, [(5, [])]),
  (25, [(2, [(0, 2)])]),
  (29, [(21, []), (25, []), (27, [])]),
  (31, [(14, [(2, 9), (3, 9), (9, 13), (9, 15), (2, 16), (3, 16)]), (15, [(2, 9), (3, 9)])]),
  (32, [(15, [(0, 14), (2, 14), (3, 14), (5, 14), (6, 14), (7, 14), (10, 14), (11, 14), (12, 14)]), (16, []), (20, [])]),
  (34, [(9, []), (14, [])]),
  (39, [(2, [(4, 6)])]),
  (56, [(23, [])]),
  (58, [(24, [])])]
def lkF (t : List (Nat × List (Nat × List (Nat × Nat)))) (f i : Nat) : List (Nat × Nat) := match t.lookup f with | some l => (l.lookup i).getD [] | none => []
def matT : List (Nat × List (Nat × List (Nat × Nat))) := [(14, [(7, [(14, 1)]), (19, [(14, 1)])]), (31, [(6, [(5, 1)]), (11, [(5, 1)]), (19, [(5, 1)])]), (56, [(6, [(7, 1)])]), (58, [(5, [(7, 1), (8, 1)])])]
def matbT : List (Nat × List (Nat × List (Nat × Nat × Nat))) := []
def frzT : List (Nat × List (Nat × List (Nat × Nat))) := []
def lkG {α : Type} (t : List (Nat × List (Nat × List α))) (f i : Nat) : List α := match t.lookup f with | some l => (l.lookup i).getD [] | none => []
def kindT : List (Nat × List (Option Nat)) := [(22, [some 2]), (23, [some 3]), (37, [some 1]), (46, [some 1]), (57, [none, some 3, none, none, none, none, none, none, none, none, none, none, none, none, none, none, none, none, none, none, none, none, none]), (58, [none, some 3, none, none, none, none, none, none, none, none, none, none, none, none, none, none, none, none, none, none, none, none, none]), (69, [some 17]), (91, [some 1]), (99, [some 1])]
def argkT : List (Nat × List (List (Option Nat))) := [(3, [[some 2], [], [some 3]]), (4, [[some 2], [], [some 3]]), (5, [[some 2], [], [some 3]]), (6, [[some 2], [], [some 3], [some 1]]), (8, [[some 2], [some 2], [], [some 3]]), (9, [[some 2], [], [some 3]]), (10, [[some 2], [], [some 3], [some 3]]), (11, [[some 2], [some 3]]), (13, [[some 2], [], [some 3]]), (14, [[some 2], [], [some 3]]), (15, [[some 2], [], [some 3]]), (16, [[some 2], [], [some 3]]), (19, [[some 2]]), (20, [[some 2]]), (21, [[some 2]]), (23, [[some 2]]), (26, [[some 2]]), (29, [[], [some 1], [], [some 3]]), (31, [[some 2]]), (32, [[some 2]]), (44, [[some 3]]), (45, [[some 3]]), (48, [[some 2]]), (61, [[some 1]]), (62, [[some 1]])]
def reskT : List (Nat × List (List (Option Nat))) := [(22, [[some 2]]), (29, [[some 1]]), (31, [[some 1]]), (32, [[some 1]]), (35, [[some 1]]), (48, [[some 1]]), (56, [[some 1]]), (57, [[some 1]]), (58, [[some 1]]), (59, [[some 1]])]
noncomputable def E : Env := { P := Tryd.prog, keep := lk2 keepT, head := lk2 headT, flo := lkF floT, hol := fun f i => [(5, 3), (8, 11), (12, 2), (12, 3)].contains (f, i), glob := fun g => if g = 0 then some popsT else if g = 1 then some pushesT else none, byref := fun f => [61, 62].contains f, seq := fun f => if f = 49 then some seqSucc else none, ext := fun f => if f = 38 then some (extMap [(8, 50), (9, 51), (10, 52), (11, 53), (12, 54)]) else none, kinds := fun t => (kindT.lookup t).getD [], argk := fun f => (argkT.lookup f).getD [], resk := fun f => (reskT.lookup f).getD [], own := fun f => [56, 58].contains f, mat := lkG matT, matb := lkG matbT, frz := lkG frzT }
theorem E_P : E.P = Tryd.prog := rfl
theorem sq49 : E.seq 49 = some seqSucc := rfl
theorem E_seqI (f : Nat) (h : List (List Int) → Option (List Int)) (hf : E.seq f = some h) : (f = 49 ∧ h = seqSucc) ∨ False := by
  have h2 : (if f = 49 then some seqSucc else none) = some h := hf
  (repeat (split at h2)) <;> simp_all
theorem E_globI (g : Nat) (cells : List IV) (h : E.glob g = some cells) : (g = 0 ∧ cells = popsT) ∨ (g = 1 ∧ cells = pushesT) ∨ False := by
  have h2 : (if g = 0 then some popsT else if g = 1 then some pushesT else none) = some cells := h
  (repeat (split at h2)) <;> simp_all
theorem E_glob0 : E.glob 0 = some popsT := rfl
theorem E_glob1 : E.glob 1 = some pushesT := rfl
theorem E_extI (f : Nat) (h : List AV → Hp → Option (AV × Hp)) (hf : E.ext f = some h) : (f = 38 ∧ h = (extMap [(8, 50), (9, 51), (10, 52), (11, 53), (12, 54)])) ∨ False := by
  have h2 : (if f = 38 then some (extMap [(8, 50), (9, 51), (10, 52), (11, 53), (12, 54)]) else none) = some h := hf
  (repeat (split at h2)) <;> simp_all
theorem xk38 : E.ext 38 = some (extMap [(8, 50), (9, 51), (10, 52), (11, 53), (12, 54)]) := rfl
theorem E_byref (f : Nat) : E.byref f = [61, 62].contains f := rfl
theorem agg21 : aggO Tryd.prog 21 = some false := by kernel_rfl
theorem agg22 : aggO Tryd.prog 22 = some false := by kernel_rfl
theorem agg23 : aggO Tryd.prog 23 = some false := by kernel_rfl
theorem agg25 : aggO Tryd.prog 25 = some true := by kernel_rfl
theorem agg28 : aggO Tryd.prog 28 = some false := by kernel_rfl
theorem agg3 : aggO Tryd.prog 3 = some false := by kernel_rfl
theorem agg30 : aggO Tryd.prog 30 = some true := by kernel_rfl
theorem agg35 : aggO Tryd.prog 35 = some false := by kernel_rfl
theorem agg37 : aggO Tryd.prog 37 = some false := by kernel_rfl
theorem agg39 : aggO Tryd.prog 39 = some true := by kernel_rfl
theorem agg4 : aggO Tryd.prog 4 = some false := by kernel_rfl
theorem agg43 : aggO Tryd.prog 43 = some true := by kernel_rfl
theorem agg46 : aggO Tryd.prog 46 = some false := by kernel_rfl
theorem agg5 : aggO Tryd.prog 5 = some false := by kernel_rfl
theorem agg55 : aggO Tryd.prog 55 = some false := by kernel_rfl
theorem agg56 : aggO Tryd.prog 56 = some true := by kernel_rfl
theorem agg58 : aggO Tryd.prog 58 = some true := by kernel_rfl
theorem agg69 : aggO Tryd.prog 69 = some false := by kernel_rfl
theorem agg70 : aggO Tryd.prog 70 = some true := by kernel_rfl
theorem agg72 : aggO Tryd.prog 72 = some true := by kernel_rfl
theorem agg9 : aggO Tryd.prog 9 = some false := by kernel_rfl
theorem agg90 : aggO Tryd.prog 90 = some true := by kernel_rfl
theorem agg91 : aggO Tryd.prog 91 = some false := by kernel_rfl
theorem agg96 : aggO Tryd.prog 96 = some true := by kernel_rfl
theorem agg99 : aggO Tryd.prog 99 = some false := by kernel_rfl
theorem arr22 : arrO Tryd.prog 22 = none := by kernel_rfl
theorem arr23 : arrO Tryd.prog 23 = none := by kernel_rfl
theorem arr25 : arrO Tryd.prog 25 = none := by kernel_rfl
theorem arr30 : arrO Tryd.prog 30 = none := by kernel_rfl
theorem arr37 : arrO Tryd.prog 37 = none := by kernel_rfl
theorem arr39 : arrO Tryd.prog 39 = none := by kernel_rfl
theorem arr43 : arrO Tryd.prog 43 = none := by kernel_rfl
theorem arr46 : arrO Tryd.prog 46 = none := by kernel_rfl
theorem arr56 : arrO Tryd.prog 56 = some (16, 3) := by kernel_rfl
theorem arr58 : arrO Tryd.prog 58 = none := by kernel_rfl
theorem arr69 : arrO Tryd.prog 69 = none := by kernel_rfl
theorem arr70 : arrO Tryd.prog 70 = some (16, 4) := by kernel_rfl
theorem arr9 : arrO Tryd.prog 9 = none := by kernel_rfl
theorem arr90 : arrO Tryd.prog 90 = some (21, 3) := by kernel_rfl
theorem arr91 : arrO Tryd.prog 91 = none := by kernel_rfl
theorem arr96 : arrO Tryd.prog 96 = none := by kernel_rfl
theorem arr99 : arrO Tryd.prog 99 = none := by kernel_rfl
theorem arrz25 : arrO Tryd.prog 25 = none := by kernel_rfl
theorem arrz30 : arrO Tryd.prog 30 = none := by kernel_rfl
theorem arrz39 : arrO Tryd.prog 39 = none := by kernel_rfl
theorem arrz43 : arrO Tryd.prog 43 = none := by kernel_rfl
theorem arrz58 : arrO Tryd.prog 58 = none := by kernel_rfl
theorem arrz72 : arrO Tryd.prog 72 = none := by kernel_rfl
theorem arrz90 : arrO Tryd.prog 90 = some (21, 3) := by kernel_rfl
theorem arrz96 : arrO Tryd.prog 96 = none := by kernel_rfl
theorem eqg25 : eqgO Tryd.prog 25 = false := by kernel_rfl
theorem eqg30 : eqgO Tryd.prog 30 = false := by kernel_rfl
theorem fld25_0 : fldO Tryd.prog 25 0 = some (0, 3) := by kernel_rfl
theorem fld25_1 : fldO Tryd.prog 25 1 = some (1, 3) := by kernel_rfl
theorem fld25_2 : fldO Tryd.prog 25 2 = some (2, 3) := by kernel_rfl
theorem fld30_0 : fldO Tryd.prog 30 0 = some (0, 25) := by kernel_rfl
theorem fld30_1 : fldO Tryd.prog 30 1 = some (3, 3) := by kernel_rfl
theorem fld30_2 : fldO Tryd.prog 30 2 = some (4, 28) := by kernel_rfl
theorem fld39_0 : fldO Tryd.prog 39 0 = some (0, 9) := by kernel_rfl
theorem fld39_2 : fldO Tryd.prog 39 2 = some (2, 3) := by kernel_rfl
theorem fld43_0 : fldO Tryd.prog 43 0 = some (0, 3) := by kernel_rfl
theorem fld43_1 : fldO Tryd.prog 43 1 = some (1, 3) := by kernel_rfl
theorem fld58_0 : fldO Tryd.prog 58 0 = some (0, 3) := by kernel_rfl
theorem fld58_1 : fldO Tryd.prog 58 1 = some (1, 23) := by kernel_rfl
theorem fld58_2 : fldO Tryd.prog 58 2 = some (2, 25) := by kernel_rfl
theorem fld58_3 : fldO Tryd.prog 58 3 = some (5, 56) := by kernel_rfl
theorem fld58_4 : fldO Tryd.prog 58 4 = some (21, 3) := by kernel_rfl
theorem fld58_5 : fldO Tryd.prog 58 5 = some (22, 4) := by kernel_rfl
theorem fld72_0 : fldO Tryd.prog 72 0 = some (0, 4) := by kernel_rfl
theorem fld72_1 : fldO Tryd.prog 72 1 = some (1, 70) := by kernel_rfl
theorem fld96_0 : fldO Tryd.prog 96 0 = some (0, 21) := by kernel_rfl
theorem fld96_1 : fldO Tryd.prog 96 1 = some (1, 3) := by kernel_rfl
theorem fld96_2 : fldO Tryd.prog 96 2 = some (2, 5) := by kernel_rfl
theorem fld96_3 : fldO Tryd.prog 96 3 = some (3, 5) := by kernel_rfl
theorem kind21 : kindO Tryd.prog 21 = some .i32 := by kernel_rfl
theorem kind22 : kindO Tryd.prog 22 = none := by kernel_rfl
theorem kind23 : kindO Tryd.prog 23 = none := by kernel_rfl
theorem kind25 : kindO Tryd.prog 25 = none := by kernel_rfl
theorem kind3 : kindO Tryd.prog 3 = some .i64 := by kernel_rfl
theorem kind35 : kindO Tryd.prog 35 = some .u16 := by kernel_rfl
theorem kind37 : kindO Tryd.prog 37 = none := by kernel_rfl
theorem kind39 : kindO Tryd.prog 39 = none := by kernel_rfl
theorem kind4 : kindO Tryd.prog 4 = none := by kernel_rfl
theorem kind43 : kindO Tryd.prog 43 = none := by kernel_rfl
theorem kind46 : kindO Tryd.prog 46 = none := by kernel_rfl
theorem kind5 : kindO Tryd.prog 5 = some .u8 := by kernel_rfl
theorem kind55 : kindO Tryd.prog 55 = none := by kernel_rfl
theorem kind56 : kindO Tryd.prog 56 = none := by kernel_rfl
theorem kind69 : kindO Tryd.prog 69 = none := by kernel_rfl
theorem kind70 : kindO Tryd.prog 70 = none := by kernel_rfl
theorem kind72 : kindO Tryd.prog 72 = none := by kernel_rfl
theorem kind9 : kindO Tryd.prog 9 = none := by kernel_rfl
theorem kind90 : kindO Tryd.prog 90 = none := by kernel_rfl
theorem kind91 : kindO Tryd.prog 91 = none := by kernel_rfl
theorem kind99 : kindO Tryd.prog 99 = none := by kernel_rfl
theorem lv25 : leaves Tryd.prog 9 25 = some [.int .i64, .int .i64, .int .i64] := by kernel_rfl
theorem lv30 : leaves Tryd.prog 9 30 = some [.int .i64, .int .i64, .int .i64, .int .i64, .int .i64] := by kernel_rfl
theorem mp80 : mapO Tryd.prog 80 = some (3, 78) := by kernel_rfl
theorem pl25 : placesO Tryd.prog 25 = some [(0, 1), (1, 1), (2, 1)] := by kernel_rfl
theorem pl30 : placesO Tryd.prog 30 = some [(0, 3), (3, 1), (4, 1)] := by kernel_rfl
theorem pl39 : placesO Tryd.prog 39 = some [(0, 1), (1, 1), (2, 1)] := by kernel_rfl
theorem pl43 : placesO Tryd.prog 43 = some [(0, 1), (1, 1)] := by kernel_rfl
theorem pl58 : placesO Tryd.prog 58 = some [(0, 1), (1, 1), (2, 3), (5, 16), (21, 1), (22, 1)] := by kernel_rfl
theorem pl72 : placesO Tryd.prog 72 = some [(0, 1), (1, 16)] := by kernel_rfl
theorem pl96 : placesO Tryd.prog 96 = some [(0, 1), (1, 1), (2, 1), (3, 1)] := by kernel_rfl
theorem sl21 : slO Tryd.prog 21 = none := by kernel_rfl
theorem sl22 : slO Tryd.prog 22 = some 43 := by kernel_rfl
theorem sl23 : slO Tryd.prog 23 = some 39 := by kernel_rfl
theorem sl25 : slO Tryd.prog 25 = none := by kernel_rfl
theorem sl3 : slO Tryd.prog 3 = none := by kernel_rfl
theorem sl35 : slO Tryd.prog 35 = none := by kernel_rfl
theorem sl37 : slO Tryd.prog 37 = some 9 := by kernel_rfl
theorem sl4 : slO Tryd.prog 4 = none := by kernel_rfl
theorem sl43 : slO Tryd.prog 43 = none := by kernel_rfl
theorem sl46 : slO Tryd.prog 46 = some 3 := by kernel_rfl
theorem sl5 : slO Tryd.prog 5 = none := by kernel_rfl
theorem sl55 : slO Tryd.prog 55 = none := by kernel_rfl
theorem sl56 : slO Tryd.prog 56 = none := by kernel_rfl
theorem sl69 : slO Tryd.prog 69 = some 72 := by kernel_rfl
theorem sl70 : slO Tryd.prog 70 = none := by kernel_rfl
theorem sl72 : slO Tryd.prog 72 = none := by kernel_rfl
theorem sl9 : slO Tryd.prog 9 = none := by kernel_rfl
theorem sl90 : slO Tryd.prog 90 = none := by kernel_rfl
theorem sl91 : slO Tryd.prog 91 = some 21 := by kernel_rfl
theorem sl99 : slO Tryd.prog 99 = some 5 := by kernel_rfl
theorem str21 : isStrO Tryd.prog 21 = false := by kernel_rfl
theorem str22 : isStrO Tryd.prog 22 = false := by kernel_rfl
theorem str23 : isStrO Tryd.prog 23 = false := by kernel_rfl
theorem str25 : isStrO Tryd.prog 25 = false := by kernel_rfl
theorem str3 : isStrO Tryd.prog 3 = false := by kernel_rfl
theorem str35 : isStrO Tryd.prog 35 = false := by kernel_rfl
theorem str37 : isStrO Tryd.prog 37 = false := by kernel_rfl
theorem str4 : isStrO Tryd.prog 4 = false := by kernel_rfl
theorem str43 : isStrO Tryd.prog 43 = false := by kernel_rfl
theorem str46 : isStrO Tryd.prog 46 = false := by kernel_rfl
theorem str5 : isStrO Tryd.prog 5 = false := by kernel_rfl
theorem str55 : isStrO Tryd.prog 55 = false := by kernel_rfl
theorem str56 : isStrO Tryd.prog 56 = false := by kernel_rfl
theorem str69 : isStrO Tryd.prog 69 = false := by kernel_rfl
theorem str70 : isStrO Tryd.prog 70 = false := by kernel_rfl
theorem str72 : isStrO Tryd.prog 72 = false := by kernel_rfl
theorem str9 : isStrO Tryd.prog 9 = true := by kernel_rfl
theorem str90 : isStrO Tryd.prog 90 = false := by kernel_rfl
theorem str91 : isStrO Tryd.prog 91 = false := by kernel_rfl
theorem str99 : isStrO Tryd.prog 99 = false := by kernel_rfl
theorem sz21 : szO Tryd.prog 21 = some 1 := by kernel_rfl
theorem sz22 : szO Tryd.prog 22 = some 1 := by kernel_rfl
theorem sz23 : szO Tryd.prog 23 = some 1 := by kernel_rfl
theorem sz25 : szO Tryd.prog 25 = some 3 := by kernel_rfl
theorem sz28 : szO Tryd.prog 28 = some 1 := by kernel_rfl
theorem sz3 : szO Tryd.prog 3 = some 1 := by kernel_rfl
theorem sz30 : szO Tryd.prog 30 = some 5 := by kernel_rfl
theorem sz35 : szO Tryd.prog 35 = some 1 := by kernel_rfl
theorem sz39 : szO Tryd.prog 39 = some 3 := by kernel_rfl
theorem sz4 : szO Tryd.prog 4 = some 1 := by kernel_rfl
theorem sz43 : szO Tryd.prog 43 = some 2 := by kernel_rfl
theorem sz46 : szO Tryd.prog 46 = some 1 := by kernel_rfl
theorem sz5 : szO Tryd.prog 5 = some 1 := by kernel_rfl
theorem sz56 : szO Tryd.prog 56 = some 16 := by kernel_rfl
theorem sz58 : szO Tryd.prog 58 = some 23 := by kernel_rfl
theorem sz69 : szO Tryd.prog 69 = some 1 := by kernel_rfl
theorem sz70 : szO Tryd.prog 70 = some 16 := by kernel_rfl
theorem sz72 : szO Tryd.prog 72 = some 17 := by kernel_rfl
theorem sz9 : szO Tryd.prog 9 = some 1 := by kernel_rfl
theorem sz90 : szO Tryd.prog 90 = some 21 := by kernel_rfl
theorem sz96 : szO Tryd.prog 96 = some 4 := by kernel_rfl
theorem zero21 : zeroO Tryd.prog 21 = some (.i (.v (.int .i32 0))) := by kernel_rfl
theorem zero25 : zeroO Tryd.prog 25 = some (.agg [.i (.v (.int .i64 0)), .i (.v (.int .i64 0)), .i (.v (.int .i64 0))]) := by kernel_rfl
theorem zero28 : zeroO Tryd.prog 28 = some (.i (.v (.int .i64 0))) := by kernel_rfl
theorem zero3 : zeroO Tryd.prog 3 = some (.i (.v (.int .i64 0))) := by kernel_rfl
theorem zero30 : zeroO Tryd.prog 30 = some (.agg [.i (.v (.int .i64 0)), .i (.v (.int .i64 0)), .i (.v (.int .i64 0)), .i (.v (.int .i64 0)), .i (.v (.int .i64 0))]) := by kernel_rfl
theorem zero39 : zeroO Tryd.prog 39 = some (.agg [.i (.str []), .i (.v (.bool false)), .i (.v (.int .i64 0))]) := by kernel_rfl
theorem zero43 : zeroO Tryd.prog 43 = some (.agg [.i (.v (.int .i64 0)), .i (.v (.int .i64 0))]) := by kernel_rfl
theorem zero46 : zeroO Tryd.prog 46 = some (.i (.sl 0 [] true)) := by kernel_rfl
theorem zero5 : zeroO Tryd.prog 5 = some (.i (.v (.int .u8 0))) := by kernel_rfl
theorem zero58 : zeroO Tryd.prog 58 = some (.agg [.i (.v (.int .i64 0)), .i (.sl 0 [] true), .i (.v (.int .i64 0)), .i (.v (.int .i64 0)), .i (.v (.int .i64 0)), .i (.v (.int .i64 0)), .i (.v (.int .i64 0)), .i (.v (.int .i64 0)), .i (.v (.int .i64 0)), .i (.v (.int .i64 0)), .i (.v (.int .i64 0)), .i (.v (.int .i64 0)), .i (.v (.int .i64 0)), .i (.v (.int .i64 0)), .i (.v (.int .i64 0)), .i (.v (.int .i64 0)), .i (.v (.int .i64 0)), .i (.v (.int .i64 0)), .i (.v (.int .i64 0)), .i (.v (.int .i64 0)), .i (.v (.int .i64 0)), .i (.v (.int .i64 0)), .i (.v (.bool false))]) := by kernel_rfl
theorem zero69 : zeroO Tryd.prog 69 = some (.i (.sl 0 [] true)) := by kernel_rfl
theorem zero72 : zeroO Tryd.prog 72 = some (.agg [.i (.v (.bool false)), .i (.v (.bool false)), .i (.v (.bool false)), .i (.v (.bool false)), .i (.v (.bool false)), .i (.v (.bool false)), .i (.v (.bool false)), .i (.v (.bool false)), .i (.v (.bool false)), .i (.v (.bool false)), .i (.v (.bool false)), .i (.v (.bool false)), .i (.v (.bool false)), .i (.v (.bool false)), .i (.v (.bool false)), .i (.v (.bool false)), .i (.v (.bool false))]) := by kernel_rfl
theorem zero78 : zeroO Tryd.prog 78 = some (.i (.v .nilFunc)) := by kernel_rfl
theorem zero9 : zeroO Tryd.prog 9 = some (.i (.str [])) := by kernel_rfl
theorem zero90 : zeroO Tryd.prog 90 = some (.agg [.i (.v (.int .i64 0)), .i (.v (.int .i64 0)), .i (.v (.int .i64 0)), .i (.v (.int .i64 0)), .i (.v (.int .i64 0)), .i (.v (.int .i64 0)), .i (.v (.int .i64 0)), .i (.v (.int .i64 0)), .i (.v (.int .i64 0)), .i (.v (.int .i64 0)), .i (.v (.int .i64 0)), .i (.v (.int .i64 0)), .i (.v (.int .i64 0)), .i (.v (.int .i64 0)), .i (.v (.int .i64 0)), .i (.v (.int .i64 0)), .i (.v (.int .i64 0)), .i (.v (.int .i64 0)), .i (.v (.int .i64 0)), .i (.v (.int .i64 0)), .i (.v (.int .i64 0))]) := by kernel_rfl
theorem zero96 : zeroO Tryd.prog 96 = some (.agg [.i (.v (.int .i32 0)), .i (.v (.int .i64 0)), .i (.v (.int .u8 0)), .i (.v (.int .u8 0))]) := by kernel_rfl
theorem fok10 : fnOk E 10 = true := by kernel_rfl
theorem ent10 : enterOk E 10 = true := by kernel_rfl
theorem fok11 : fnOk E 11 = true := by kernel_rfl
theorem ent11 : enterOk E 11 = true := by kernel_rfl
theorem ent12 : enterOk E 12 = true := by kernel_rfl
theorem fok13 : fnOk E 13 = true := by kernel_rfl
theorem ent13 : enterOk E 13 = true := by kernel_rfl
theorem fok15 : fnOk E 15 = true := by kernel_rfl
theorem ent15 : enterOk E 15 = true := by kernel_rfl
theorem fok19 : fnOk E 19 = true := by kernel_rfl
theorem ent19 : enterOk E 19 = true := by kernel_rfl
theorem fok21 : fnOk E 21 = true := by kernel_rfl
theorem ent21 : enterOk E 21 = true := by kernel_rfl
theorem fok23 : fnOk E 23 = true := by kernel_rfl
theorem ent23 : enterOk E 23 = true := by kernel_rfl
theorem fok24 : fnOk E 24 = true := by kernel_rfl
theorem ent24 : enterOk E 24 = true := by kernel_rfl
theorem fok25 : fnOk E 25 = true := by kernel_rfl
theorem ent25 : enterOk E 25 = true := by kernel_rfl
theorem fok32 : fnOk E 32 = true := by kernel_rfl
theorem ent32 : enterOk E 32 = true := by kernel_rfl
theorem fok33 : fnOk E 33 = true := by kernel_rfl
theorem ent33 : enterOk E 33 = true := by kernel_rfl
theorem fok34 : fnOk E 34 = true := by kernel_rfl
theorem ent34 : enterOk E 34 = true := by kernel_rfl
theorem ent35 : enterOk E 35 = true := by kernel_rfl
theorem fok36 : fnOk E 36 = true := by kernel_rfl
theorem ent36 : enterOk E 36 = true := by kernel_rfl
theorem fok37 : fnOk E 37 = true := by kernel_rfl
theorem ent37 : enterOk E 37 = true := by kernel_rfl
theorem ent38 : enterOk E 38 = true := by kernel_rfl
theorem fok39 : fnOk E 39 = true := by kernel_rfl
theorem ent39 : enterOk E 39 = true := by kernel_rfl
theorem fok40 : fnOk E 40 = true := by kernel_rfl
theorem ent40 : enterOk E 40 = true := by kernel_rfl
theorem fok41 : fnOk E 41 = true := by kernel_rfl
theorem ent41 : enterOk E 41 = true := by kernel_rfl
theorem fok42 : fnOk E 42 = true := by kernel_rfl
theorem ent42 : enterOk E 42 = true := by kernel_rfl
theorem ent49 : enterOk E 49 = true := by kernel_rfl
theorem fok50 : fnOk E 50 = true := by kernel_rfl
theorem ent50 : enterOk E 50 = true := by kernel_rfl
theorem fok51 : fnOk E 51 = true := by kernel_rfl
theorem ent51 : enterOk E 51 = true := by kernel_rfl
theorem fok52 : fnOk E 52 = true := by kernel_rfl
theorem ent52 : enterOk E 52 = true := by kernel_rfl
theorem fok53 : fnOk E 53 = true := by kernel_rfl
theorem ent53 : enterOk E 53 = true := by kernel_rfl
theorem fok54 : fnOk E 54 = true := by kernel_rfl
theorem ent54 : enterOk E 54 = true := by kernel_rfl
theorem fok55 : fnOk E 55 = true := by kernel_rfl
theorem ent55 : enterOk E 55 = true := by kernel_rfl
theorem fok56 : fnOk E 56 = true := by kernel_rfl
theorem ent56 : enterOk E 56 = true := by kernel_rfl
theorem fok57 : fnOk E 57 = true := by kernel_rfl
theorem ent57 : enterOk E 57 = true := by kernel_rfl
theorem ent60 : enterOk E 60 = true := by kernel_rfl
theorem res10 : Tryd.f10.results = #[.tmp 10] := rfl
theorem res11 : Tryd.f11.results = #[.tmp 4] := rfl
theorem res13 : Tryd.f13.results = #[.cell 10 30] := rfl
theorem res15 : Tryd.f15.results = #[.cell 8 25] := rfl
theorem res19 : Tryd.f19.results = #[.tmp 2] := rfl
theorem res21 : Tryd.f21.results = #[.tmp 2, .tmp 3] := rfl
theorem res23 : Tryd.f23.results = #[.tmp 2] := rfl
theorem res24 : Tryd.f24.results = #[.tmp 2] := rfl
theorem res25 : Tryd.f25.results = #[] := rfl
theorem res32 : Tryd.f32.results = #[.cell 2 46, .cell 3 28] := rfl
theorem res33 : Tryd.f33.results = #[.tmp 4] := rfl
theorem res34 : Tryd.f34.results = #[.cell 6 72] := rfl
theorem res36 : Tryd.f36.results = #[.tmp 6, .tmp 7] := rfl
theorem res37 : Tryd.f37.results = #[.tmp 4] := rfl
theorem res39 : Tryd.f39.results = #[] := rfl
theorem res40 : Tryd.f40.results = #[.tmp 4] := rfl
theorem res41 : Tryd.f41.results = #[.cell 4 39, .tmp 5] := rfl
theorem res42 : Tryd.f42.results = #[.tmp 2] := rfl
theorem res50 : Tryd.f50.results = #[.tmp 4] := rfl
theorem res51 : Tryd.f51.results = #[.tmp 4] := rfl
theorem res52 : Tryd.f52.results = #[.tmp 4] := rfl
theorem res53 : Tryd.f53.results = #[.tmp 4] := rfl
theorem res54 : Tryd.f54.results = #[.tmp 4] := rfl
theorem res55 : Tryd.f55.results = #[.tmp 2] := rfl
theorem res56 : Tryd.f56.results = #[.tmp 4, .tmp 5] := rfl
theorem res57 : Tryd.f57.results = #[.tmp 2] := rfl
theorem kp10_0 : E.keep 10 0 = [0, 1, 2, 3, 9] := by kernel_rfl
theorem kp10_1 : E.keep 10 1 = [0, 1, 2, 3, 9, 22] := by kernel_rfl
theorem kp10_2 : E.keep 10 2 = [10] := by kernel_rfl
theorem kp10_3 : E.keep 10 3 = [0, 1, 2, 3, 9, 11, 12] := by kernel_rfl
theorem kp10_4 : E.keep 10 4 = [0, 1, 2, 3, 9, 33] := by kernel_rfl
theorem kp10_5 : E.keep 10 5 = [10] := by kernel_rfl
theorem kp10_6 : E.keep 10 6 = [10] := by kernel_rfl
theorem kp11_0 : E.keep 11 0 = [0, 1] := by kernel_rfl
theorem kp11_1 : E.keep 11 1 = [1, 13] := by kernel_rfl
theorem kp11_2 : E.keep 11 2 = [4] := by kernel_rfl
theorem kp11_3 : E.keep 11 3 = [1, 5] := by kernel_rfl
theorem kp11_4 : E.keep 11 4 = [1, 5, 17] := by kernel_rfl
theorem kp11_5 : E.keep 11 5 = [1, 5] := by kernel_rfl
theorem kp11_6 : E.keep 11 6 = [1, 5, 26] := by kernel_rfl
theorem kp11_7 : E.keep 11 7 = [4] := by kernel_rfl
theorem kp11_8 : E.keep 11 8 = [4] := by kernel_rfl
theorem kp13_0 : E.keep 13 0 = [0, 1, 2, 4, 8, 10] := by kernel_rfl
theorem kp13_1 : E.keep 13 1 = [0, 1, 2, 4, 8, 10, 11] := by kernel_rfl
theorem kp13_2 : E.keep 13 2 = [0, 1, 2, 4, 8, 10, 11, 19] := by kernel_rfl
theorem kp13_3 : E.keep 13 3 = [10] := by kernel_rfl
theorem kp13_4 : E.keep 13 4 = [0, 1, 2, 4, 8, 10] := by kernel_rfl
theorem kp13_5 : E.keep 13 5 = [0, 4, 8, 10, 12] := by kernel_rfl
theorem kp13_6 : E.keep 13 6 = [0, 4, 8, 10, 12, 13] := by kernel_rfl
theorem kp13_7 : E.keep 13 7 = [0, 4, 8, 10, 12, 13, 14] := by kernel_rfl
theorem kp13_8 : E.keep 13 8 = [0, 4, 8, 10, 12, 13, 14, 34] := by kernel_rfl
theorem kp13_9 : E.keep 13 9 = [0, 4, 8, 10, 12, 13, 14, 37] := by kernel_rfl
theorem kp13_10 : E.keep 13 10 = [10] := by kernel_rfl
theorem kp13_11 : E.keep 13 11 = [0, 4, 8, 10, 12, 13, 14] := by kernel_rfl
theorem kp13_12 : E.keep 13 12 = [0, 4, 8, 10, 12, 13, 14, 15] := by kernel_rfl
theorem kp13_13 : E.keep 13 13 = [0, 4, 8, 10, 12, 13, 14, 15] := by kernel_rfl
theorem kp13_14 : E.keep 13 14 = [0, 4, 8, 10, 12, 13, 14, 15, 50] := by kernel_rfl
theorem kp13_15 : E.keep 13 15 = [0, 4, 8, 10, 12, 13, 14] := by kernel_rfl
theorem kp13_16 : E.keep 13 16 = [0, 4, 8, 10, 12, 13, 14, 15, 50, 54] := by kernel_rfl
theorem kp13_17 : E.keep 13 17 = [0, 4, 8, 10, 12, 13, 14] := by kernel_rfl
theorem kp13_18 : E.keep 13 18 = [0, 4, 8, 10, 12, 13, 14, 15, 50, 58] := by kernel_rfl
theorem kp13_19 : E.keep 13 19 = [0, 4, 8, 10, 12, 13, 14] := by kernel_rfl
theorem kp13_20 : E.keep 13 20 = [0, 4, 8, 10, 12, 13, 14, 15, 62] := by kernel_rfl
theorem kp13_21 : E.keep 13 21 = [0, 4, 8, 10, 12, 13, 14, 15, 66] := by kernel_rfl
theorem kp13_22 : E.keep 13 22 = [0, 4, 8, 10, 12, 13, 14] := by kernel_rfl
theorem kp13_23 : E.keep 13 23 = [0, 4, 8, 10, 12, 13, 14, 72] := by kernel_rfl
theorem kp13_24 : E.keep 13 24 = [10] := by kernel_rfl
theorem kp13_25 : E.keep 13 25 = [10] := by kernel_rfl
theorem kp15_0 : E.keep 15 0 = [0, 1, 2, 7, 8] := by kernel_rfl
theorem kp15_1 : E.keep 15 1 = [0, 1, 2, 7, 8, 22] := by kernel_rfl
theorem kp15_2 : E.keep 15 2 = [8] := by kernel_rfl
theorem kp15_3 : E.keep 15 3 = [8, 9] := by kernel_rfl
theorem kp15_4 : E.keep 15 4 = [8, 9, 32] := by kernel_rfl
theorem kp15_5 : E.keep 15 5 = [8, 9] := by kernel_rfl
theorem kp15_6 : E.keep 15 6 = [8] := by kernel_rfl
theorem kp19_0 : E.keep 19 0 = [0] := by kernel_rfl
theorem kp19_1 : E.keep 19 1 = [4] := by kernel_rfl
theorem kp19_2 : E.keep 19 2 = [2] := by kernel_rfl
theorem kp21_0 : E.keep 21 0 = [0, 2, 3] := by kernel_rfl
theorem kp21_1 : E.keep 21 1 = [0, 2, 3, 4, 5] := by kernel_rfl
theorem kp21_2 : E.keep 21 2 = [0, 2, 3, 4, 5, 19] := by kernel_rfl
theorem kp21_3 : E.keep 21 3 = [2, 3] := by kernel_rfl
theorem kp21_4 : E.keep 21 4 = [0, 2, 3, 4, 6] := by kernel_rfl
theorem kp21_5 : E.keep 21 5 = [2, 3, 4, 6, 25, 26, 27] := by kernel_rfl
theorem kp21_6 : E.keep 21 6 = [2, 3, 4, 6, 25, 26, 27, 28] := by kernel_rfl
theorem kp21_7 : E.keep 21 7 = [2, 3, 4, 6, 7, 8, 25, 26, 27] := by kernel_rfl
theorem kp21_8 : E.keep 21 8 = [2, 3, 4, 6, 7, 8, 25, 26, 27, 36] := by kernel_rfl
theorem kp21_9 : E.keep 21 9 = [2, 3, 4, 6, 7, 8, 9, 25, 26, 27] := by kernel_rfl
theorem kp21_10 : E.keep 21 10 = [2, 3, 4, 6, 7, 8, 9, 25, 26, 27, 62] := by kernel_rfl
theorem kp21_11 : E.keep 21 11 = [2, 3] := by kernel_rfl
theorem kp21_12 : E.keep 21 12 = [2, 3, 4, 6, 7, 8, 9, 25, 26, 27] := by kernel_rfl
theorem kp21_13 : E.keep 21 13 = [2, 3, 4, 6, 9, 25, 26, 27, 73] := by kernel_rfl
theorem kp21_14 : E.keep 21 14 = [6, 9, 10] := by kernel_rfl
theorem kp21_15 : E.keep 21 15 = [6, 9, 10] := by kernel_rfl
theorem kp21_16 : E.keep 21 16 = [6, 10, 89, 90] := by kernel_rfl
theorem kp21_17 : E.keep 21 17 = [6, 10, 89, 90, 91] := by kernel_rfl
theorem kp21_18 : E.keep 21 18 = [6, 10, 11, 12, 89, 90] := by kernel_rfl
theorem kp21_19 : E.keep 21 19 = [6, 10, 89, 90] := by kernel_rfl
theorem kp21_20 : E.keep 21 20 = [6, 10, 89, 90] := by kernel_rfl
theorem kp21_21 : E.keep 21 21 = [2, 3, 4, 6, 25, 26, 27] := by kernel_rfl
theorem kp21_22 : E.keep 21 22 = [2, 3] := by kernel_rfl
theorem kp23_0 : E.keep 23 0 = [0] := by kernel_rfl
theorem kp23_1 : E.keep 23 1 = [0, 9] := by kernel_rfl
theorem kp23_2 : E.keep 23 2 = [2] := by kernel_rfl
theorem kp23_3 : E.keep 23 3 = [0, 10, 11, 12] := by kernel_rfl
theorem kp23_4 : E.keep 23 4 = [0, 10, 11, 12, 13] := by kernel_rfl
theorem kp23_5 : E.keep 23 5 = [0, 3, 4, 10, 11, 12] := by kernel_rfl
theorem kp23_6 : E.keep 23 6 = [0, 3, 4, 10, 11, 12, 26] := by kernel_rfl
theorem kp23_7 : E.keep 23 7 = [2] := by kernel_rfl
theorem kp23_8 : E.keep 23 8 = [0, 4, 5, 6, 10, 11, 12] := by kernel_rfl
theorem kp23_9 : E.keep 23 9 = [0, 10, 11, 12, 45] := by kernel_rfl
theorem kp23_10 : E.keep 23 10 = [2] := by kernel_rfl
theorem kp23_11 : E.keep 23 11 = [0, 10, 11, 12] := by kernel_rfl
theorem kp23_12 : E.keep 23 12 = [2] := by kernel_rfl
theorem kp24_0 : E.keep 24 0 = [0] := by kernel_rfl
theorem kp24_1 : E.keep 24 1 = [0, 7] := by kernel_rfl
theorem kp24_2 : E.keep 24 2 = [] := by kernel_rfl
theorem kp24_3 : E.keep 24 3 = [2] := by kernel_rfl
theorem kp24_4 : E.keep 24 4 = [0] := by kernel_rfl
theorem kp24_5 : E.keep 24 5 = [2] := by kernel_rfl
theorem kp25_0 : E.keep 25 0 = [0, 3] := by kernel_rfl
theorem kp25_1 : E.keep 25 1 = [0, 3, 14] := by kernel_rfl
theorem kp25_2 : E.keep 25 2 = [0, 3, 4, 5] := by kernel_rfl
theorem kp25_3 : E.keep 25 3 = [0, 3, 4, 22] := by kernel_rfl
theorem kp25_4 : E.keep 25 4 = [0, 4, 6] := by kernel_rfl
theorem kp25_5 : E.keep 25 5 = [0, 4, 6, 7] := by kernel_rfl
theorem kp25_6 : E.keep 25 6 = [] := by kernel_rfl
theorem kp25_7 : E.keep 25 7 = [0, 3, 8] := by kernel_rfl
theorem kp25_8 : E.keep 25 8 = [0, 8, 36] := by kernel_rfl
theorem kp25_9 : E.keep 25 9 = [0, 8, 36, 37] := by kernel_rfl
theorem kp25_10 : E.keep 25 10 = [] := by kernel_rfl
theorem kp25_11 : E.keep 25 11 = [0, 8, 36, 44] := by kernel_rfl
theorem kp25_12 : E.keep 25 12 = [0, 9] := by kernel_rfl
theorem kp25_13 : E.keep 25 13 = [] := by kernel_rfl
theorem kp25_14 : E.keep 25 14 = [0, 8, 36, 56] := by kernel_rfl
theorem kp25_15 : E.keep 25 15 = [] := by kernel_rfl
theorem kp25_16 : E.keep 25 16 = [0, 8, 36, 63] := by kernel_rfl
theorem kp25_17 : E.keep 25 17 = [0, 8] := by kernel_rfl
theorem kp25_18 : E.keep 25 18 = [] := by kernel_rfl
theorem kp25_19 : E.keep 25 19 = [0, 8, 36, 71] := by kernel_rfl
theorem kp25_20 : E.keep 25 20 = [0, 8, 11] := by kernel_rfl
theorem kp25_21 : E.keep 25 21 = [0, 11] := by kernel_rfl
theorem kp25_22 : E.keep 25 22 = [] := by kernel_rfl
theorem kp25_23 : E.keep 25 23 = [0, 8, 36, 81] := by kernel_rfl
theorem kp25_24 : E.keep 25 24 = [0, 8, 88] := by kernel_rfl
theorem kp25_25 : E.keep 25 25 = [] := by kernel_rfl
theorem kp25_26 : E.keep 25 26 = [0, 8, 94] := by kernel_rfl
theorem kp25_27 : E.keep 25 27 = [0, 8, 101] := by kernel_rfl
theorem kp25_28 : E.keep 25 28 = [] := by kernel_rfl
theorem kp32_0 : E.keep 32 0 = [1, 2, 3] := by kernel_rfl
theorem kp32_1 : E.keep 32 1 = [1, 2, 3, 4] := by kernel_rfl
theorem kp32_2 : E.keep 32 2 = [1, 2, 3, 4, 14] := by kernel_rfl
theorem kp32_3 : E.keep 32 3 = [2, 3] := by kernel_rfl
theorem kp32_4 : E.keep 32 4 = [1, 2, 3, 5] := by kernel_rfl
theorem kp32_5 : E.keep 32 5 = [1, 2, 3, 5, 21, 22] := by kernel_rfl
theorem kp32_6 : E.keep 32 6 = [1, 2, 3, 5, 21, 22, 23] := by kernel_rfl
theorem kp32_7 : E.keep 32 7 = [1, 2, 3, 5, 6, 21, 22] := by kernel_rfl
theorem kp32_8 : E.keep 32 8 = [1, 2, 3, 5, 21, 22] := by kernel_rfl
theorem kp32_9 : E.keep 32 9 = [1, 2, 3, 5, 21, 22] := by kernel_rfl
theorem kp32_10 : E.keep 32 10 = [1, 2, 3, 5] := by kernel_rfl
theorem kp32_11 : E.keep 32 11 = [1, 2, 3, 5, 31, 32, 33] := by kernel_rfl
theorem kp32_12 : E.keep 32 12 = [1, 2, 3, 5, 31, 32, 33, 34] := by kernel_rfl
theorem kp32_13 : E.keep 32 13 = [1, 2, 3, 5, 7, 8, 31, 32, 33] := by kernel_rfl
theorem kp32_14 : E.keep 32 14 = [1, 2, 3, 5, 7, 8, 31, 32, 33, 42] := by kernel_rfl
theorem kp32_15 : E.keep 32 15 = [1, 2, 3, 5, 7, 8, 9, 31, 32, 33] := by kernel_rfl
theorem kp32_16 : E.keep 32 16 = [1, 2, 3, 5, 7, 8, 9, 31, 32, 33, 69] := by kernel_rfl
theorem kp32_17 : E.keep 32 17 = [2, 3] := by kernel_rfl
theorem kp32_18 : E.keep 32 18 = [1, 2, 3, 5, 9, 31, 32, 33, 72] := by kernel_rfl
theorem kp32_19 : E.keep 32 19 = [1, 2, 3, 5, 9, 10] := by kernel_rfl
theorem kp32_20 : E.keep 32 20 = [2, 3, 5, 9, 10, 92] := by kernel_rfl
theorem kp32_21 : E.keep 32 21 = [] := by kernel_rfl
theorem kp32_22 : E.keep 32 22 = [] := by kernel_rfl
theorem kp32_23 : E.keep 32 23 = [1, 2, 3, 5, 31, 32, 33] := by kernel_rfl
theorem kp32_24 : E.keep 32 24 = [2, 3] := by kernel_rfl
theorem kp33_0 : E.keep 33 0 = [2, 3] := by kernel_rfl
theorem kp33_1 : E.keep 33 1 = [4] := by kernel_rfl
theorem kp34_0 : E.keep 34 0 = [1, 2, 3, 6] := by kernel_rfl
theorem kp34_1 : E.keep 34 1 = [1, 2, 3, 6, 7] := by kernel_rfl
theorem kp34_2 : E.keep 34 2 = [1, 2, 3, 6, 7, 11] := by kernel_rfl
theorem kp34_3 : E.keep 34 3 = [1, 2, 3, 6] := by kernel_rfl
theorem kp34_4 : E.keep 34 4 = [1, 2, 3, 6, 7, 25] := by kernel_rfl
theorem kp34_5 : E.keep 34 5 = [1, 2, 3, 6] := by kernel_rfl
theorem kp34_6 : E.keep 34 6 = [1, 2, 3, 6, 7, 47] := by kernel_rfl
theorem kp34_7 : E.keep 34 7 = [1, 2, 3, 6] := by kernel_rfl
theorem kp34_8 : E.keep 34 8 = [1, 2, 3, 6, 7, 57] := by kernel_rfl
theorem kp34_9 : E.keep 34 9 = [1, 2, 3, 6] := by kernel_rfl
theorem kp34_10 : E.keep 34 10 = [1, 2, 3, 6, 7, 76] := by kernel_rfl
theorem kp34_11 : E.keep 34 11 = [1, 2, 3, 6] := by kernel_rfl
theorem kp34_12 : E.keep 34 12 = [1, 2, 3, 6, 88] := by kernel_rfl
theorem kp34_13 : E.keep 34 13 = [1, 2, 3, 6] := by kernel_rfl
theorem kp34_14 : E.keep 34 14 = [3, 6, 8] := by kernel_rfl
theorem kp34_15 : E.keep 34 15 = [3, 6, 8, 110] := by kernel_rfl
theorem kp34_16 : E.keep 34 16 = [3, 6, 8] := by kernel_rfl
theorem kp34_17 : E.keep 34 17 = [3, 6, 8] := by kernel_rfl
theorem kp34_18 : E.keep 34 18 = [6] := by kernel_rfl
theorem kp36_0 : E.keep 36 0 = [0, 1, 2] := by kernel_rfl
theorem kp36_1 : E.keep 36 1 = [1, 2, 8] := by kernel_rfl
theorem kp36_2 : E.keep 36 2 = [1, 2, 8, 9] := by kernel_rfl
theorem kp36_3 : E.keep 36 3 = [1, 2, 8, 11] := by kernel_rfl
theorem kp36_4 : E.keep 36 4 = [1, 2, 13] := by kernel_rfl
theorem kp36_5 : E.keep 36 5 = [6, 7] := by kernel_rfl
theorem kp36_6 : E.keep 36 6 = [6, 7] := by kernel_rfl
theorem kp36_7 : E.keep 36 7 = [6, 7] := by kernel_rfl
theorem kp37_0 : E.keep 37 0 = [0, 3] := by kernel_rfl
theorem kp37_1 : E.keep 37 1 = [0, 3, 6] := by kernel_rfl
theorem kp37_2 : E.keep 37 2 = [4] := by kernel_rfl
theorem kp37_3 : E.keep 37 3 = [0, 3, 6, 7] := by kernel_rfl
theorem kp37_4 : E.keep 37 4 = [] := by kernel_rfl
theorem kp37_5 : E.keep 37 5 = [0, 6, 13] := by kernel_rfl
theorem kp37_6 : E.keep 37 6 = [] := by kernel_rfl
theorem kp37_7 : E.keep 37 7 = [0, 6, 21] := by kernel_rfl
theorem kp37_8 : E.keep 37 8 = [] := by kernel_rfl
theorem kp37_9 : E.keep 37 9 = [0, 6, 30] := by kernel_rfl
theorem kp37_10 : E.keep 37 10 = [] := by kernel_rfl
theorem kp37_11 : E.keep 37 11 = [0, 39] := by kernel_rfl
theorem kp37_12 : E.keep 37 12 = [] := by kernel_rfl
theorem kp37_13 : E.keep 37 13 = [4] := by kernel_rfl
theorem kp39_0 : E.keep 39 0 = [0, 1, 8] := by kernel_rfl
theorem kp39_1 : E.keep 39 1 = [] := by kernel_rfl
theorem kp39_2 : E.keep 39 2 = [0] := by kernel_rfl
theorem kp39_3 : E.keep 39 3 = [] := by kernel_rfl
theorem kp40_0 : E.keep 40 0 = [0, 1] := by kernel_rfl
theorem kp40_1 : E.keep 40 1 = [5, 6] := by kernel_rfl
theorem kp40_2 : E.keep 40 2 = [5, 15] := by kernel_rfl
theorem kp40_3 : E.keep 40 3 = [4] := by kernel_rfl
theorem kp40_4 : E.keep 40 4 = [5, 18] := by kernel_rfl
theorem kp40_5 : E.keep 40 5 = [4] := by kernel_rfl
theorem kp40_6 : E.keep 40 6 = [7, 8] := by kernel_rfl
theorem kp40_7 : E.keep 40 7 = [7] := by kernel_rfl
theorem kp40_8 : E.keep 40 8 = [7, 34] := by kernel_rfl
theorem kp40_9 : E.keep 40 9 = [4] := by kernel_rfl
theorem kp40_10 : E.keep 40 10 = [4] := by kernel_rfl
theorem kp41_0 : E.keep 41 0 = [0, 1, 4] := by kernel_rfl
theorem kp41_1 : E.keep 41 1 = [0, 1, 4, 16] := by kernel_rfl
theorem kp41_2 : E.keep 41 2 = [4, 5] := by kernel_rfl
theorem kp41_3 : E.keep 41 3 = [4, 5] := by kernel_rfl
theorem kp42_0 : E.keep 42 0 = [0] := by kernel_rfl
theorem kp42_1 : E.keep 42 1 = [3] := by kernel_rfl
theorem kp42_2 : E.keep 42 2 = [2] := by kernel_rfl
theorem kp42_3 : E.keep 42 3 = [2] := by kernel_rfl
theorem kp50_0 : E.keep 50 0 = [0, 1] := by kernel_rfl
theorem kp50_1 : E.keep 50 1 = [4] := by kernel_rfl
theorem kp51_0 : E.keep 51 0 = [0, 1] := by kernel_rfl
theorem kp51_1 : E.keep 51 1 = [4] := by kernel_rfl
theorem kp52_0 : E.keep 52 0 = [0, 1] := by kernel_rfl
theorem kp52_1 : E.keep 52 1 = [4] := by kernel_rfl
theorem kp53_0 : E.keep 53 0 = [0, 1] := by kernel_rfl
theorem kp53_1 : E.keep 53 1 = [4] := by kernel_rfl
theorem kp54_0 : E.keep 54 0 = [0, 1] := by kernel_rfl
theorem kp54_1 : E.keep 54 1 = [4] := by kernel_rfl
theorem kp55_0 : E.keep 55 0 = [0] := by kernel_rfl
theorem kp55_1 : E.keep 55 1 = [2] := by kernel_rfl
theorem kp56_0 : E.keep 56 0 = [0, 1] := by kernel_rfl
theorem kp56_1 : E.keep 56 1 = [6] := by kernel_rfl
theorem kp56_2 : E.keep 56 2 = [6, 7] := by kernel_rfl
theorem kp56_3 : E.keep 56 3 = [6, 7, 8] := by kernel_rfl
theorem kp56_4 : E.keep 56 4 = [6, 7, 8, 9] := by kernel_rfl
theorem kp56_5 : E.keep 56 5 = [6, 7, 8, 9, 16, 17] := by kernel_rfl
theorem kp56_6 : E.keep 56 6 = [6, 7, 8, 9, 16, 17, 18] := by kernel_rfl
theorem kp56_7 : E.keep 56 7 = [6, 7, 8, 9, 10, 16, 17] := by kernel_rfl
theorem kp56_8 : E.keep 56 8 = [6, 7, 8, 9, 10, 11, 16, 17] := by kernel_rfl
theorem kp56_9 : E.keep 56 9 = [6, 7, 8, 9, 10, 11, 16, 17, 37] := by kernel_rfl
theorem kp56_10 : E.keep 56 10 = [6, 7, 8, 9, 16, 17] := by kernel_rfl
theorem kp56_11 : E.keep 56 11 = [6, 7, 8, 9, 16, 17, 51] := by kernel_rfl
theorem kp56_12 : E.keep 56 12 = [6, 7, 8, 9, 16, 17] := by kernel_rfl
theorem kp56_13 : E.keep 56 13 = [6, 7, 8, 10, 11, 16, 17, 59] := by kernel_rfl
theorem kp56_14 : E.keep 56 14 = [6, 7, 8, 10, 11, 16, 17] := by kernel_rfl
theorem kp56_15 : E.keep 56 15 = [6, 7, 8, 9, 11, 16, 17] := by kernel_rfl
theorem kp56_16 : E.keep 56 16 = [6, 7, 8, 9, 11, 16, 17, 66] := by kernel_rfl
theorem kp56_17 : E.keep 56 17 = [6, 7, 8, 9, 16, 17] := by kernel_rfl
theorem kp56_18 : E.keep 56 18 = [6, 7, 8, 9, 16, 17, 74] := by kernel_rfl
theorem kp56_19 : E.keep 56 19 = [6, 7, 8, 9, 16, 17] := by kernel_rfl
theorem kp56_20 : E.keep 56 20 = [6, 7, 8, 9, 16, 17] := by kernel_rfl
theorem kp56_21 : E.keep 56 21 = [6, 7, 9, 84] := by kernel_rfl
theorem kp56_22 : E.keep 56 22 = [4, 5] := by kernel_rfl
theorem kp56_23 : E.keep 56 23 = [4, 5] := by kernel_rfl
theorem kp57_0 : E.keep 57 0 = [0] := by kernel_rfl
theorem kp57_1 : E.keep 57 1 = [3, 4] := by kernel_rfl
theorem kp57_2 : E.keep 57 2 = [3, 11] := by kernel_rfl
theorem kp57_3 : E.keep 57 3 = [3] := by kernel_rfl
theorem kp57_4 : E.keep 57 4 = [2] := by kernel_rfl
theorem hd11_4 : E.head 11 4 = [1, 5] := by kernel_rfl
theorem hd13_8 : E.head 13 8 = [0, 4, 8, 10, 12, 13, 14] := by kernel_rfl
theorem hd21_6 : E.head 21 6 = [2, 3, 4, 6, 25, 26, 27] := by kernel_rfl
theorem hd21_17 : E.head 21 17 = [6, 10, 89, 90] := by kernel_rfl
theorem hd23_4 : E.head 23 4 = [0, 10, 11, 12] := by kernel_rfl
theorem hd32_6 : E.head 32 6 = [1, 2, 3, 5, 21, 22] := by kernel_rfl
theorem hd32_12 : E.head 32 12 = [1, 2, 3, 5, 31, 32, 33] := by kernel_rfl
theorem hd34_15 : E.head 34 15 = [3, 6, 8] := by kernel_rfl
theorem hd56_6 : E.head 56 6 = [6, 7, 8, 9, 16, 17] := by kernel_rfl
theorem fl10_6 : E.flo 10 6 = [(4, 9), (18, 22)] := by kernel_rfl
theorem ho10_6 : E.hol 10 6 = false := by kernel_rfl
theorem dr10_6 (B : Nat) (fr : Fr) (H : Hp) (ops : Array Oper) : execT E B 10 (.region 6 ops true) fr H = regTK E 10 6 (evT E (callT E) ops.toList ops.toList fr H) := execT_draw ho10_6 ops
theorem fl21_12 : E.flo 21 12 = [] := by kernel_rfl
theorem ho21_12 : E.hol 21 12 = false := by kernel_rfl
theorem dr21_12 (B : Nat) (fr : Fr) (H : Hp) (ops : Array Oper) : execT E B 21 (.region 12 ops true) fr H = regK E 21 12 (evOps E (callT E) ops.toList ops.toList fr H) := execT_draw0 ho21_12 fl21_12 ops
theorem fl21_15 : E.flo 21 15 = [] := by kernel_rfl
theorem ho21_15 : E.hol 21 15 = false := by kernel_rfl
theorem dr21_15 (B : Nat) (fr : Fr) (H : Hp) (ops : Array Oper) : execT E B 21 (.region 15 ops true) fr H = regK E 21 15 (evOps E (callT E) ops.toList ops.toList fr H) := execT_draw0 ho21_15 fl21_15 ops
theorem fl21_19 : E.flo 21 19 = [] := by kernel_rfl
theorem ho21_19 : E.hol 21 19 = false := by kernel_rfl
theorem dr21_19 (B : Nat) (fr : Fr) (H : Hp) (ops : Array Oper) : execT E B 21 (.region 19 ops true) fr H = regK E 21 19 (evOps E (callT E) ops.toList ops.toList fr H) := execT_draw0 ho21_19 fl21_19 ops
theorem fl23_6 : E.flo 23 6 = [(5, 6)] := by kernel_rfl
theorem ho23_6 : E.hol 23 6 = false := by kernel_rfl
theorem dr23_6 (B : Nat) (fr : Fr) (H : Hp) (ops : Array Oper) : execT E B 23 (.region 6 ops true) fr H = regTK E 23 6 (evT E (callT E) ops.toList ops.toList fr H) := execT_draw ho23_6 ops
theorem fl24_5 : E.flo 24 5 = [] := by kernel_rfl
theorem ho24_5 : E.hol 24 5 = false := by kernel_rfl
theorem dr24_5 (B : Nat) (fr : Fr) (H : Hp) (ops : Array Oper) : execT E B 24 (.region 5 ops true) fr H = regK E 24 5 (evOps E (callT E) ops.toList ops.toList fr H) := execT_draw0 ho24_5 fl24_5 ops
theorem fl25_2 : E.flo 25 2 = [(0, 2)] := by kernel_rfl
theorem ho25_2 : E.hol 25 2 = false := by kernel_rfl
theorem dr25_2 (B : Nat) (fr : Fr) (H : Hp) (ops : Array Oper) : execT E B 25 (.region 2 ops true) fr H = regTK E 25 2 (evT E (callT E) ops.toList ops.toList fr H) := execT_draw ho25_2 ops
theorem fl32_15 : E.flo 32 15 = [(0, 14), (2, 14), (3, 14), (5, 14), (6, 14), (7, 14), (10, 14), (11, 14), (12, 14)] := by kernel_rfl
theorem ho32_15 : E.hol 32 15 = false := by kernel_rfl
theorem dr32_15 (B : Nat) (fr : Fr) (H : Hp) (ops : Array Oper) : execT E B 32 (.region 15 ops true) fr H = regTK E 32 15 (evT E (callT E) ops.toList ops.toList fr H) := execT_draw ho32_15 ops
theorem fl32_16 : E.flo 32 16 = [] := by kernel_rfl
theorem ho32_16 : E.hol 32 16 = false := by kernel_rfl
theorem dr32_16 (B : Nat) (fr : Fr) (H : Hp) (ops : Array Oper) : execT E B 32 (.region 16 ops true) fr H = regK E 32 16 (evOps E (callT E) ops.toList ops.toList fr H) := execT_draw0 ho32_16 fl32_16 ops
theorem fl32_20 : E.flo 32 20 = [] := by kernel_rfl
theorem ho32_20 : E.hol 32 20 = false := by kernel_rfl
theorem dr32_20 (B : Nat) (fr : Fr) (H : Hp) (ops : Array Oper) : execT E B 32 (.region 20 ops true) fr H = regK E 32 20 (evOps E (callT E) ops.toList ops.toList fr H) := execT_draw0 ho32_20 fl32_20 ops
theorem fl34_9 : E.flo 34 9 = [] := by kernel_rfl
theorem ho34_9 : E.hol 34 9 = false := by kernel_rfl
theorem dr34_9 (B : Nat) (fr : Fr) (H : Hp) (ops : Array Oper) : execT E B 34 (.region 9 ops true) fr H = regK E 34 9 (evOps E (callT E) ops.toList ops.toList fr H) := execT_draw0 ho34_9 fl34_9 ops
theorem fl34_14 : E.flo 34 14 = [] := by kernel_rfl
theorem ho34_14 : E.hol 34 14 = false := by kernel_rfl
theorem dr34_14 (B : Nat) (fr : Fr) (H : Hp) (ops : Array Oper) : execT E B 34 (.region 14 ops true) fr H = regK E 34 14 (evOps E (callT E) ops.toList ops.toList fr H) := execT_draw0 ho34_14 fl34_14 ops
theorem fl39_2 : E.flo 39 2 = [(4, 6)] := by kernel_rfl
theorem ho39_2 : E.hol 39 2 = false := by kernel_rfl
theorem dr39_2 (B : Nat) (fr : Fr) (H : Hp) (ops : Array Oper) : execT E B 39 (.region 2 ops true) fr H = regTK E 39 2 (evT E (callT E) ops.toList ops.toList fr H) := execT_draw ho39_2 ops
theorem fl56_23 : E.flo 56 23 = [] := by kernel_rfl
theorem ho56_23 : E.hol 56 23 = false := by kernel_rfl
theorem dr56_23 (B : Nat) (fr : Fr) (H : Hp) (ops : Array Oper) : execT E B 56 (.region 23 ops true) fr H = regK E 56 23 (evOps E (callT E) ops.toList ops.toList fr H) := execT_draw0 ho56_23 fl56_23 ops
theorem mt11_4 : E.mat 11 4 = [] := by kernel_rfl
theorem mb11_4 : E.matb 11 4 = [] := by kernel_rfl
theorem zf11_4 : E.frz 11 4 = [] := by kernel_rfl
theorem mt13_8 : E.mat 13 8 = [] := by kernel_rfl
theorem mb13_8 : E.matb 13 8 = [] := by kernel_rfl
theorem zf13_8 : E.frz 13 8 = [] := by kernel_rfl
theorem mt21_6 : E.mat 21 6 = [] := by kernel_rfl
theorem mb21_6 : E.matb 21 6 = [] := by kernel_rfl
theorem zf21_6 : E.frz 21 6 = [] := by kernel_rfl
theorem mt21_17 : E.mat 21 17 = [] := by kernel_rfl
theorem mb21_17 : E.matb 21 17 = [] := by kernel_rfl
theorem zf21_17 : E.frz 21 17 = [] := by kernel_rfl
theorem mt23_4 : E.mat 23 4 = [] := by kernel_rfl
theorem mb23_4 : E.matb 23 4 = [] := by kernel_rfl
theorem zf23_4 : E.frz 23 4 = [] := by kernel_rfl
theorem mt32_6 : E.mat 32 6 = [] := by kernel_rfl
theorem mb32_6 : E.matb 32 6 = [] := by kernel_rfl
theorem zf32_6 : E.frz 32 6 = [] := by kernel_rfl
theorem mt32_12 : E.mat 32 12 = [] := by kernel_rfl
theorem mb32_12 : E.matb 32 12 = [] := by kernel_rfl
theorem zf32_12 : E.frz 32 12 = [] := by kernel_rfl
theorem mt34_15 : E.mat 34 15 = [] := by kernel_rfl
theorem mb34_15 : E.matb 34 15 = [] := by kernel_rfl
theorem zf34_15 : E.frz 34 15 = [] := by kernel_rfl
theorem mt56_6 : E.mat 56 6 = [(7, 1)] := by kernel_rfl
theorem mb56_6 : E.matb 56 6 = [] := by kernel_rfl
theorem zf56_6 : E.frz 56 6 = [] := by kernel_rfl
theorem rk10 : E.resk 10 = [] := by kernel_rfl
theorem ow10 : E.own 10 = false := by kernel_rfl
theorem ak11 : E.argk 11 = [[some 2], [some 3]] := by kernel_rfl
theorem rk11 : E.resk 11 = [] := by kernel_rfl
theorem ow11 : E.own 11 = false := by kernel_rfl
theorem pe11 (args : List AV) (H : Hp) : prepE E 11 H args = peP E 11 (prep H args) := prepE_v rfl args
theorem cr11 (args : List AV) (H : Hp) : calleeR E 11 args H = crK args (peP E 11 (prep H args)) := (cr_prep args).trans (by rw [pe11])
theorem ci11 (args : List AV) (H : Hp) : callIso E (callT E) 11 args H = prepK E (callT E) 11 (peP E 11 (prep H args)) := (iso_prep args).trans (by rw [pe11])
theorem ak12 : E.argk 12 = [] := by kernel_rfl
theorem pe12 (args : List AV) (H : Hp) : prepE E 12 H args = peP E 12 (prep H args) := prepE_v rfl args
theorem cr12 (args : List AV) (H : Hp) : calleeR E 12 args H = crK args (peP E 12 (prep H args)) := (cr_prep args).trans (by rw [pe12])
theorem ci12 (args : List AV) (H : Hp) : callIso E (callT E) 12 args H = prepK E (callT E) 12 (peP E 12 (prep H args)) := (iso_prep args).trans (by rw [pe12])
theorem ak13 : E.argk 13 = [[some 2], [], [some 3]] := by kernel_rfl
theorem rk13 : E.resk 13 = [] := by kernel_rfl
theorem ow13 : E.own 13 = false := by kernel_rfl
theorem pe13 (args : List AV) (H : Hp) : prepE E 13 H args = peP E 13 (prep H args) := prepE_v rfl args
theorem cr13 (args : List AV) (H : Hp) : calleeR E 13 args H = crK args (peP E 13 (prep H args)) := (cr_prep args).trans (by rw [pe13])
theorem ci13 (args : List AV) (H : Hp) : callIso E (callT E) 13 args H = prepK E (callT E) 13 (peP E 13 (prep H args)) := (iso_prep args).trans (by rw [pe13])
theorem ak15 : E.argk 15 = [[some 2], [], [some 3]] := by kernel_rfl
theorem rk15 : E.resk 15 = [] := by kernel_rfl
theorem ow15 : E.own 15 = false := by kernel_rfl
theorem pe15 (args : List AV) (H : Hp) : prepE E 15 H args = peP E 15 (prep H args) := prepE_v rfl args
theorem cr15 (args : List AV) (H : Hp) : calleeR E 15 args H = crK args (peP E 15 (prep H args)) := (cr_prep args).trans (by rw [pe15])
theorem ci15 (args : List AV) (H : Hp) : callIso E (callT E) 15 args H = prepK E (callT E) 15 (peP E 15 (prep H args)) := (iso_prep args).trans (by rw [pe15])
theorem ak19 : E.argk 19 = [[some 2]] := by kernel_rfl
theorem rk19 : E.resk 19 = [] := by kernel_rfl
theorem ow19 : E.own 19 = false := by kernel_rfl
theorem pe19 (args : List AV) (H : Hp) : prepE E 19 H args = peP E 19 (prep H args) := prepE_v rfl args
theorem cr19 (args : List AV) (H : Hp) : calleeR E 19 args H = crK args (peP E 19 (prep H args)) := (cr_prep args).trans (by rw [pe19])
theorem ci19 (args : List AV) (H : Hp) : callIso E (callT E) 19 args H = prepK E (callT E) 19 (peP E 19 (prep H args)) := (iso_prep args).trans (by rw [pe19])
theorem ak21 : E.argk 21 = [[some 2]] := by kernel_rfl
theorem rk21 : E.resk 21 = [] := by kernel_rfl
theorem ow21 : E.own 21 = false := by kernel_rfl
theorem pe21 (args : List AV) (H : Hp) : prepE E 21 H args = peP E 21 (prep H args) := prepE_v rfl args
theorem cr21 (args : List AV) (H : Hp) : calleeR E 21 args H = crK args (peP E 21 (prep H args)) := (cr_prep args).trans (by rw [pe21])
theorem ci21 (args : List AV) (H : Hp) : callIso E (callT E) 21 args H = prepK E (callT E) 21 (peP E 21 (prep H args)) := (iso_prep args).trans (by rw [pe21])
theorem ak23 : E.argk 23 = [[some 2]] := by kernel_rfl
theorem rk23 : E.resk 23 = [] := by kernel_rfl
theorem ow23 : E.own 23 = false := by kernel_rfl
theorem pe23 (args : List AV) (H : Hp) : prepE E 23 H args = peP E 23 (prep H args) := prepE_v rfl args
theorem cr23 (args : List AV) (H : Hp) : calleeR E 23 args H = crK args (peP E 23 (prep H args)) := (cr_prep args).trans (by rw [pe23])
theorem ci23 (args : List AV) (H : Hp) : callIso E (callT E) 23 args H = prepK E (callT E) 23 (peP E 23 (prep H args)) := (iso_prep args).trans (by rw [pe23])
theorem ak24 : E.argk 24 = [] := by kernel_rfl
theorem rk24 : E.resk 24 = [] := by kernel_rfl
theorem ow24 : E.own 24 = false := by kernel_rfl
theorem pe24 (args : List AV) (H : Hp) : prepE E 24 H args = peP E 24 (prep H args) := prepE_v rfl args
theorem cr24 (args : List AV) (H : Hp) : calleeR E 24 args H = crK args (peP E 24 (prep H args)) := (cr_prep args).trans (by rw [pe24])
theorem ci24 (args : List AV) (H : Hp) : callIso E (callT E) 24 args H = prepK E (callT E) 24 (peP E 24 (prep H args)) := (iso_prep args).trans (by rw [pe24])
theorem ak25 : E.argk 25 = [] := by kernel_rfl
theorem rk25 : E.resk 25 = [] := by kernel_rfl
theorem ow25 : E.own 25 = false := by kernel_rfl
theorem pe25 (args : List AV) (H : Hp) : prepE E 25 H args = peP E 25 (prep H args) := prepE_v rfl args
theorem cr25 (args : List AV) (H : Hp) : calleeR E 25 args H = crK args (peP E 25 (prep H args)) := (cr_prep args).trans (by rw [pe25])
theorem ci25 (args : List AV) (H : Hp) : callIso E (callT E) 25 args H = prepK E (callT E) 25 (peP E 25 (prep H args)) := (iso_prep args).trans (by rw [pe25])
theorem ak32 : E.argk 32 = [[some 2]] := by kernel_rfl
theorem rk32 : E.resk 32 = [[some 1]] := by kernel_rfl
theorem ow32 : E.own 32 = false := by kernel_rfl
theorem pe32 (args : List AV) (H : Hp) : prepE E 32 H args = peP E 32 (prep H args) := prepE_v rfl args
theorem cr32 (args : List AV) (H : Hp) : calleeR E 32 args H = crK args (peP E 32 (prep H args)) := (cr_prep args).trans (by rw [pe32])
theorem ci32 (args : List AV) (H : Hp) : callIso E (callT E) 32 args H = prepK E (callT E) 32 (peP E 32 (prep H args)) := (iso_prep args).trans (by rw [pe32])
theorem ak33 : E.argk 33 = [] := by kernel_rfl
theorem rk33 : E.resk 33 = [] := by kernel_rfl
theorem ow33 : E.own 33 = false := by kernel_rfl
theorem pe33 (args : List AV) (H : Hp) : prepE E 33 H args = peP E 33 (prep H args) := prepE_v rfl args
theorem cr33 (args : List AV) (H : Hp) : calleeR E 33 args H = crK args (peP E 33 (prep H args)) := (cr_prep args).trans (by rw [pe33])
theorem ci33 (args : List AV) (H : Hp) : callIso E (callT E) 33 args H = prepK E (callT E) 33 (peP E 33 (prep H args)) := (iso_prep args).trans (by rw [pe33])
theorem ak34 : E.argk 34 = [] := by kernel_rfl
theorem rk34 : E.resk 34 = [] := by kernel_rfl
theorem ow34 : E.own 34 = false := by kernel_rfl
theorem pe34 (args : List AV) (H : Hp) : prepE E 34 H args = peP E 34 (prep H args) := prepE_v rfl args
theorem cr34 (args : List AV) (H : Hp) : calleeR E 34 args H = crK args (peP E 34 (prep H args)) := (cr_prep args).trans (by rw [pe34])
theorem ci34 (args : List AV) (H : Hp) : callIso E (callT E) 34 args H = prepK E (callT E) 34 (peP E 34 (prep H args)) := (iso_prep args).trans (by rw [pe34])
theorem ak35 : E.argk 35 = [] := by kernel_rfl
theorem pe35 (args : List AV) (H : Hp) : prepE E 35 H args = peP E 35 (prep H args) := prepE_v rfl args
theorem cr35 (args : List AV) (H : Hp) : calleeR E 35 args H = crK args (peP E 35 (prep H args)) := (cr_prep args).trans (by rw [pe35])
theorem ci35 (args : List AV) (H : Hp) : callIso E (callT E) 35 args H = prepK E (callT E) 35 (peP E 35 (prep H args)) := (iso_prep args).trans (by rw [pe35])
theorem ak36 : E.argk 36 = [] := by kernel_rfl
theorem rk36 : E.resk 36 = [] := by kernel_rfl
theorem ow36 : E.own 36 = false := by kernel_rfl
theorem pe36 (args : List AV) (H : Hp) : prepE E 36 H args = peP E 36 (prep H args) := prepE_v rfl args
theorem cr36 (args : List AV) (H : Hp) : calleeR E 36 args H = crK args (peP E 36 (prep H args)) := (cr_prep args).trans (by rw [pe36])
theorem ci36 (args : List AV) (H : Hp) : callIso E (callT E) 36 args H = prepK E (callT E) 36 (peP E 36 (prep H args)) := (iso_prep args).trans (by rw [pe36])
theorem ak37 : E.argk 37 = [] := by kernel_rfl
theorem rk37 : E.resk 37 = [] := by kernel_rfl
theorem ow37 : E.own 37 = false := by kernel_rfl
theorem pe37 (args : List AV) (H : Hp) : prepE E 37 H args = peP E 37 (prep H args) := prepE_v rfl args
theorem cr37 (args : List AV) (H : Hp) : calleeR E 37 args H = crK args (peP E 37 (prep H args)) := (cr_prep args).trans (by rw [pe37])
theorem ci37 (args : List AV) (H : Hp) : callIso E (callT E) 37 args H = prepK E (callT E) 37 (peP E 37 (prep H args)) := (iso_prep args).trans (by rw [pe37])
theorem ak38 : E.argk 38 = [] := by kernel_rfl
theorem pe38 (args : List AV) (H : Hp) : prepE E 38 H args = peP E 38 (prep H args) := prepE_v rfl args
theorem cr38 (args : List AV) (H : Hp) : calleeR E 38 args H = crK args (peP E 38 (prep H args)) := (cr_prep args).trans (by rw [pe38])
theorem ci38 (args : List AV) (H : Hp) : callIso E (callT E) 38 args H = prepK E (callT E) 38 (peP E 38 (prep H args)) := (iso_prep args).trans (by rw [pe38])
theorem ak39 : E.argk 39 = [] := by kernel_rfl
theorem rk39 : E.resk 39 = [] := by kernel_rfl
theorem ow39 : E.own 39 = false := by kernel_rfl
theorem pe39 (args : List AV) (H : Hp) : prepE E 39 H args = peP E 39 (prep H args) := prepE_v rfl args
theorem cr39 (args : List AV) (H : Hp) : calleeR E 39 args H = crK args (peP E 39 (prep H args)) := (cr_prep args).trans (by rw [pe39])
theorem ci39 (args : List AV) (H : Hp) : callIso E (callT E) 39 args H = prepK E (callT E) 39 (peP E 39 (prep H args)) := (iso_prep args).trans (by rw [pe39])
theorem ak40 : E.argk 40 = [] := by kernel_rfl
theorem rk40 : E.resk 40 = [] := by kernel_rfl
theorem ow40 : E.own 40 = false := by kernel_rfl
theorem pe40 (args : List AV) (H : Hp) : prepE E 40 H args = peP E 40 (prep H args) := prepE_v rfl args
theorem cr40 (args : List AV) (H : Hp) : calleeR E 40 args H = crK args (peP E 40 (prep H args)) := (cr_prep args).trans (by rw [pe40])
theorem ci40 (args : List AV) (H : Hp) : callIso E (callT E) 40 args H = prepK E (callT E) 40 (peP E 40 (prep H args)) := (iso_prep args).trans (by rw [pe40])
theorem ak41 : E.argk 41 = [] := by kernel_rfl
theorem rk41 : E.resk 41 = [] := by kernel_rfl
theorem ow41 : E.own 41 = false := by kernel_rfl
theorem pe41 (args : List AV) (H : Hp) : prepE E 41 H args = peP E 41 (prep H args) := prepE_v rfl args
theorem cr41 (args : List AV) (H : Hp) : calleeR E 41 args H = crK args (peP E 41 (prep H args)) := (cr_prep args).trans (by rw [pe41])
theorem ci41 (args : List AV) (H : Hp) : callIso E (callT E) 41 args H = prepK E (callT E) 41 (peP E 41 (prep H args)) := (iso_prep args).trans (by rw [pe41])
theorem ak42 : E.argk 42 = [] := by kernel_rfl
theorem rk42 : E.resk 42 = [] := by kernel_rfl
theorem ow42 : E.own 42 = false := by kernel_rfl
theorem pe42 (args : List AV) (H : Hp) : prepE E 42 H args = peP E 42 (prep H args) := prepE_v rfl args
theorem cr42 (args : List AV) (H : Hp) : calleeR E 42 args H = crK args (peP E 42 (prep H args)) := (cr_prep args).trans (by rw [pe42])
theorem ci42 (args : List AV) (H : Hp) : callIso E (callT E) 42 args H = prepK E (callT E) 42 (peP E 42 (prep H args)) := (iso_prep args).trans (by rw [pe42])
theorem ak49 : E.argk 49 = [] := by kernel_rfl
theorem pe49 (args : List AV) (H : Hp) : prepE E 49 H args = peP E 49 (prep H args) := prepE_v rfl args
theorem cr49 (args : List AV) (H : Hp) : calleeR E 49 args H = crK args (peP E 49 (prep H args)) := (cr_prep args).trans (by rw [pe49])
theorem ci49 (args : List AV) (H : Hp) : callIso E (callT E) 49 args H = prepK E (callT E) 49 (peP E 49 (prep H args)) := (iso_prep args).trans (by rw [pe49])
theorem ak50 : E.argk 50 = [] := by kernel_rfl
theorem rk50 : E.resk 50 = [] := by kernel_rfl
theorem ow50 : E.own 50 = false := by kernel_rfl
theorem pe50 (args : List AV) (H : Hp) : prepE E 50 H args = peP E 50 (prep H args) := prepE_v rfl args
theorem cr50 (args : List AV) (H : Hp) : calleeR E 50 args H = crK args (peP E 50 (prep H args)) := (cr_prep args).trans (by rw [pe50])
theorem ci50 (args : List AV) (H : Hp) : callIso E (callT E) 50 args H = prepK E (callT E) 50 (peP E 50 (prep H args)) := (iso_prep args).trans (by rw [pe50])
theorem ak51 : E.argk 51 = [] := by kernel_rfl
theorem rk51 : E.resk 51 = [] := by kernel_rfl
theorem ow51 : E.own 51 = false := by kernel_rfl
theorem pe51 (args : List AV) (H : Hp) : prepE E 51 H args = peP E 51 (prep H args) := prepE_v rfl args
theorem cr51 (args : List AV) (H : Hp) : calleeR E 51 args H = crK args (peP E 51 (prep H args)) := (cr_prep args).trans (by rw [pe51])
theorem ci51 (args : List AV) (H : Hp) : callIso E (callT E) 51 args H = prepK E (callT E) 51 (peP E 51 (prep H args)) := (iso_prep args).trans (by rw [pe51])
theorem ak52 : E.argk 52 = [] := by kernel_rfl
theorem rk52 : E.resk 52 = [] := by kernel_rfl
theorem ow52 : E.own 52 = false := by kernel_rfl
theorem pe52 (args : List AV) (H : Hp) : prepE E 52 H args = peP E 52 (prep H args) := prepE_v rfl args
theorem cr52 (args : List AV) (H : Hp) : calleeR E 52 args H = crK args (peP E 52 (prep H args)) := (cr_prep args).trans (by rw [pe52])
theorem ci52 (args : List AV) (H : Hp) : callIso E (callT E) 52 args H = prepK E (callT E) 52 (peP E 52 (prep H args)) := (iso_prep args).trans (by rw [pe52])
theorem ak53 : E.argk 53 = [] := by kernel_rfl
theorem rk53 : E.resk 53 = [] := by kernel_rfl
theorem ow53 : E.own 53 = false := by kernel_rfl
theorem pe53 (args : List AV) (H : Hp) : prepE E 53 H args = peP E 53 (prep H args) := prepE_v rfl args
theorem cr53 (args : List AV) (H : Hp) : calleeR E 53 args H = crK args (peP E 53 (prep H args)) := (cr_prep args).trans (by rw [pe53])
theorem ci53 (args : List AV) (H : Hp) : callIso E (callT E) 53 args H = prepK E (callT E) 53 (peP E 53 (prep H args)) := (iso_prep args).trans (by rw [pe53])
theorem ak54 : E.argk 54 = [] := by kernel_rfl
theorem rk54 : E.resk 54 = [] := by kernel_rfl
theorem ow54 : E.own 54 = false := by kernel_rfl
theorem pe54 (args : List AV) (H : Hp) : prepE E 54 H args = peP E 54 (prep H args) := prepE_v rfl args
theorem cr54 (args : List AV) (H : Hp) : calleeR E 54 args H = crK args (peP E 54 (prep H args)) := (cr_prep args).trans (by rw [pe54])
theorem ci54 (args : List AV) (H : Hp) : callIso E (callT E) 54 args H = prepK E (callT E) 54 (peP E 54 (prep H args)) := (iso_prep args).trans (by rw [pe54])
theorem ak55 : E.argk 55 = [] := by kernel_rfl
theorem rk55 : E.resk 55 = [] := by kernel_rfl
theorem ow55 : E.own 55 = false := by kernel_rfl
theorem pe55 (args : List AV) (H : Hp) : prepE E 55 H args = peP E 55 (prep H args) := prepE_v rfl args
theorem cr55 (args : List AV) (H : Hp) : calleeR E 55 args H = crK args (peP E 55 (prep H args)) := (cr_prep args).trans (by rw [pe55])
theorem ci55 (args : List AV) (H : Hp) : callIso E (callT E) 55 args H = prepK E (callT E) 55 (peP E 55 (prep H args)) := (iso_prep args).trans (by rw [pe55])
theorem ak56 : E.argk 56 = [] := by kernel_rfl
theorem rk56 : E.resk 56 = [[some 1]] := by kernel_rfl
theorem ow56 : E.own 56 = true := by kernel_rfl
theorem pe56 (args : List AV) (H : Hp) : prepE E 56 H args = peP E 56 (prep H args) := prepE_v rfl args
theorem cr56 (args : List AV) (H : Hp) : calleeR E 56 args H = crK args (peP E 56 (prep H args)) := (cr_prep args).trans (by rw [pe56])
theorem ci56 (args : List AV) (H : Hp) : callIso E (callT E) 56 args H = prepK E (callT E) 56 (peP E 56 (prep H args)) := (iso_prep args).trans (by rw [pe56])
theorem ak57 : E.argk 57 = [] := by kernel_rfl
theorem rk57 : E.resk 57 = [[some 1]] := by kernel_rfl
theorem ow57 : E.own 57 = false := by kernel_rfl
theorem pe57 (args : List AV) (H : Hp) : prepE E 57 H args = peP E 57 (prep H args) := prepE_v rfl args
theorem cr57 (args : List AV) (H : Hp) : calleeR E 57 args H = crK args (peP E 57 (prep H args)) := (cr_prep args).trans (by rw [pe57])
theorem ci57 (args : List AV) (H : Hp) : callIso E (callT E) 57 args H = prepK E (callT E) 57 (peP E 57 (prep H args)) := (iso_prep args).trans (by rw [pe57])
theorem ak60 : E.argk 60 = [] := by kernel_rfl
theorem pe60 (args : List AV) (H : Hp) : prepE E 60 H args = peP E 60 (prep H args) := prepE_v rfl args
theorem cr60 (args : List AV) (H : Hp) : calleeR E 60 args H = crK args (peP E 60 (prep H args)) := (cr_prep args).trans (by rw [pe60])
theorem ci60 (args : List AV) (H : Hp) : callIso E (callT E) 60 args H = prepK E (callT E) 60 (peP E 60 (prep H args)) := (iso_prep args).trans (by rw [pe60])
theorem bd25 (parts : List (Nat × AV)) : buildE E 25 parts = aggK (fillS [(0, 1), (1, 1), (2, 1)] [.i (.v (.int .i64 0)), .i (.v (.int .i64 0)), .i (.v (.int .i64 0))] parts) := bd_struct (by kernel_rfl) (by kernel_rfl) (by kernel_rfl) parts
theorem bd30 (parts : List (Nat × AV)) : buildE E 30 parts = aggK (fillS [(0, 3), (3, 1), (4, 1)] [.i (.v (.int .i64 0)), .i (.v (.int .i64 0)), .i (.v (.int .i64 0)), .i (.v (.int .i64 0)), .i (.v (.int .i64 0))] parts) := bd_struct (by kernel_rfl) (by kernel_rfl) (by kernel_rfl) parts
theorem bd39 (parts : List (Nat × AV)) : buildE E 39 parts = aggK (fillS [(0, 1), (1, 1), (2, 1)] [.i (.str []), .i (.v (.bool false)), .i (.v (.int .i64 0))] parts) := bd_struct (by kernel_rfl) (by kernel_rfl) (by kernel_rfl) parts
theorem bd43 (parts : List (Nat × AV)) : buildE E 43 parts = aggK (fillS [(0, 1), (1, 1)] [.i (.v (.int .i64 0)), .i (.v (.int .i64 0))] parts) := bd_struct (by kernel_rfl) (by kernel_rfl) (by kernel_rfl) parts
theorem bd58 (parts : List (Nat × AV)) : buildE E 58 parts = aggK (fillS [(0, 1), (1, 1), (2, 3), (5, 16), (21, 1), (22, 1)] [.i (.v (.int .i64 0)), .i (.sl 0 [] true), .i (.v (.int .i64 0)), .i (.v (.int .i64 0)), .i (.v (.int .i64 0)), .i (.v (.int .i64 0)), .i (.v (.int .i64 0)), .i (.v (.int .i64 0)), .i (.v (.int .i64 0)), .i (.v (.int .i64 0)), .i (.v (.int .i64 0)), .i (.v (.int .i64 0)), .i (.v (.int .i64 0)), .i (.v (.int .i64 0)), .i (.v (.int .i64 0)), .i (.v (.int .i64 0)), .i (.v (.int .i64 0)), .i (.v (.int .i64 0)), .i (.v (.int .i64 0)), .i (.v (.int .i64 0)), .i (.v (.int .i64 0)), .i (.v (.int .i64 0)), .i (.v (.bool false))] parts) := bd_struct (by kernel_rfl) (by kernel_rfl) (by kernel_rfl) parts
theorem bd72 (parts : List (Nat × AV)) : buildE E 72 parts = aggK (fillS [(0, 1), (1, 16)] [.i (.v (.bool false)), .i (.v (.bool false)), .i (.v (.bool false)), .i (.v (.bool false)), .i (.v (.bool false)), .i (.v (.bool false)), .i (.v (.bool false)), .i (.v (.bool false)), .i (.v (.bool false)), .i (.v (.bool false)), .i (.v (.bool false)), .i (.v (.bool false)), .i (.v (.bool false)), .i (.v (.bool false)), .i (.v (.bool false)), .i (.v (.bool false)), .i (.v (.bool false))] parts) := bd_struct (by kernel_rfl) (by kernel_rfl) (by kernel_rfl) parts
theorem bd90 (parts : List (Nat × AV)) : buildE E 90 parts = aggK (fillA 1 [.i (.v (.int .i64 0)), .i (.v (.int .i64 0)), .i (.v (.int .i64 0)), .i (.v (.int .i64 0)), .i (.v (.int .i64 0)), .i (.v (.int .i64 0)), .i (.v (.int .i64 0)), .i (.v (.int .i64 0)), .i (.v (.int .i64 0)), .i (.v (.int .i64 0)), .i (.v (.int .i64 0)), .i (.v (.int .i64 0)), .i (.v (.int .i64 0)), .i (.v (.int .i64 0)), .i (.v (.int .i64 0)), .i (.v (.int .i64 0)), .i (.v (.int .i64 0)), .i (.v (.int .i64 0)), .i (.v (.int .i64 0)), .i (.v (.int .i64 0)), .i (.v (.int .i64 0))] parts) := bd_arr (n := 21) (e := 3) (by kernel_rfl) (by kernel_rfl) (by kernel_rfl) parts
theorem bd96 (parts : List (Nat × AV)) : buildE E 96 parts = aggK (fillS [(0, 1), (1, 1), (2, 1), (3, 1)] [.i (.v (.int .i32 0)), .i (.v (.int .i64 0)), .i (.v (.int .u8 0)), .i (.v (.int .u8 0))] parts) := bd_struct (by kernel_rfl) (by kernel_rfl) (by kernel_rfl) parts
theorem cv5_21 (cl : CallF) (fr : Fr) (H : Hp) (x : Operand) : evOp E cl (.convert 5 21 x) fr H = pK H (convE E 5 21 (opd E fr x)) := op_convert _ _ _ (by kernel_rfl) (by kernel_rfl)
theorem cv21_3 (cl : CallF) (fr : Fr) (H : Hp) (x : Operand) : evOp E cl (.convert 21 3 x) fr H = pK H (convE E 21 3 (opd E fr x)) := op_convert _ _ _ (by kernel_rfl) (by kernel_rfl)
theorem cv35_3 (cl : CallF) (fr : Fr) (H : Hp) (x : Operand) : evOp E cl (.convert 35 3 x) fr H = pK H (convE E 35 3 (opd E fr x)) := op_convert _ _ _ (by kernel_rfl) (by kernel_rfl)
theorem cv99_9 (cl : CallF) (fr : Fr) (H : Hp) (x : Operand) : evOp E cl (.convert 99 9 x) fr H = pK H (cvS (rowsE H (opd E fr x))) := op_cvS (e := 5) (by kernel_rfl) (by kernel_rfl) (by kernel_rfl) (by kernel_rfl) x
theorem sx9 (H : Hp) (s : List UInt8) (lo hi : Option AV) : sliceE E H 9 (.i (.str s)) lo hi none = slSK s (bnd 0 lo) (bnd s.length hi) := sl_str (by kernel_rfl) s lo hi
theorem sx46 (H : Hp) (x : AV) (lo hi : Option AV) : sliceE E H 46 x lo hi none = slN 1 H lo hi x := sl_sl (e := 3) (z := 1) (by kernel_rfl) (by kernel_rfl) (by kernel_rfl) x lo hi
theorem sw46 (H : Hp) (sz : Nat) (rows : List (List IV)) (ex : Bool) (k k' : IntKind) (h m : Int) : sliceE E H 46 (.i (.sl sz rows ex)) none (some (.i (.v (.int k h)))) (some (.i (.v (.int k' m)))) = if 0 ≤ h ∧ h = m ∧ h ≤ rows.length ∧ (rows = [] ∨ 1 = sz) then some (.i (.sl sz (rows.take h.toNat) true)) else none := sl_sl3 (e := 3) (by kernel_rfl) (by kernel_rfl) sz rows ex k k' h m
theorem ap22_22 (H : Hp) (s x : AV) : appendE E H 22 22 s x = apS 2 H s (srcE H x) := ap_eq (by kernel_rfl) H s x
theorem ap23_23 (H : Hp) (s x : AV) : appendE E H 23 23 s x = apS 3 H s (srcE H x) := ap_eq (by kernel_rfl) H s x
theorem ap46_46 (H : Hp) (s x : AV) : appendE E H 46 46 s x = apS 1 H s (srcE H x) := ap_eq (by kernel_rfl) H s x
theorem ap91_91 (H : Hp) (s x : AV) : appendE E H 91 91 s x = apS 1 H s (srcE H x) := ap_eq (by kernel_rfl) H s x
theorem ap99_99 (H : Hp) (s x : AV) : appendE E H 99 99 s x = apS 1 H s (srcE H x) := ap_eq (by kernel_rfl) H s x
theorem bs22 (H : Hp) (n : Nat) (hn : n * 2 ≤ 16777216) (parts : List (Nat × AV)) : buildSliceE E H 22 n parts = bsF [] 2 n H (fillA 2 (List.replicate n [.i (.v (.int .i64 0)), .i (.v (.int .i64 0))]).flatten parts) := bs_eq (by kernel_rfl) H n hn parts
theorem br22 (n : Nat) (parts : List (Nat × AV)) : buildRefs E 22 n parts = brK (fillA 2 (List.replicate n [.i (.v (.int .i64 0)), .i (.v (.int .i64 0))]).flatten parts) := br_eq (ks := []) (by kernel_rfl) n parts
theorem ms22 (H : Hp) (k k' : IntKind) (n m : Int) : makeSliceE E H 22 (.i (.v (.int k n))) (.i (.v (.int k' m))) = if 0 ≤ n ∧ n = m ∧ n < 1073741824 then some (.ref H.length 0 0 n.toNat, H ++ [.sl 2 0 (List.replicate n.toNat [.v (.int .i64 0), .v (.int .i64 0)]) true]) else none := ms_eq (by kernel_rfl) H k k' n m
theorem bs23 (H : Hp) (n : Nat) (hn : n * 3 ≤ 16777216) (parts : List (Nat × AV)) : buildSliceE E H 23 n parts = bsF [] 3 n H (fillA 3 (List.replicate n [.i (.str []), .i (.v (.bool false)), .i (.v (.int .i64 0))]).flatten parts) := bs_eq (by kernel_rfl) H n hn parts
theorem br23 (n : Nat) (parts : List (Nat × AV)) : buildRefs E 23 n parts = brK (fillA 3 (List.replicate n [.i (.str []), .i (.v (.bool false)), .i (.v (.int .i64 0))]).flatten parts) := br_eq (ks := []) (by kernel_rfl) n parts
theorem ms23 (H : Hp) (k k' : IntKind) (n m : Int) : makeSliceE E H 23 (.i (.v (.int k n))) (.i (.v (.int k' m))) = if 0 ≤ n ∧ n = m ∧ n < 1073741824 then some (.ref H.length 0 0 n.toNat, H ++ [.sl 3 0 (List.replicate n.toNat [.str [], .v (.bool false), .v (.int .i64 0)]) true]) else none := ms_eq (by kernel_rfl) H k k' n m
theorem bs37 (H : Hp) (n : Nat) (hn : n * 1 ≤ 16777216) (parts : List (Nat × AV)) : buildSliceE E H 37 n parts = bsF [] 1 n H (fillA 1 (List.replicate n [.i (.str [])]).flatten parts) := bs_eq (by kernel_rfl) H n hn parts
theorem br37 (n : Nat) (parts : List (Nat × AV)) : buildRefs E 37 n parts = brK (fillA 1 (List.replicate n [.i (.str [])]).flatten parts) := br_eq (ks := []) (by kernel_rfl) n parts
theorem ms37 (H : Hp) (k k' : IntKind) (n m : Int) : makeSliceE E H 37 (.i (.v (.int k n))) (.i (.v (.int k' m))) = if 0 ≤ n ∧ n = m ∧ n < 1073741824 then some (.ref H.length 0 0 n.toNat, H ++ [.sl 1 0 (List.replicate n.toNat [.str []]) true]) else none := ms_eq (by kernel_rfl) H k k' n m
theorem bs46 (H : Hp) (n : Nat) (hn : n * 1 ≤ 16777216) (parts : List (Nat × AV)) : buildSliceE E H 46 n parts = bsF [] 1 n H (fillA 1 (List.replicate n [.i (.v (.int .i64 0))]).flatten parts) := bs_eq (by kernel_rfl) H n hn parts
theorem br46 (n : Nat) (parts : List (Nat × AV)) : buildRefs E 46 n parts = brK (fillA 1 (List.replicate n [.i (.v (.int .i64 0))]).flatten parts) := br_eq (ks := []) (by kernel_rfl) n parts
theorem ms46 (H : Hp) (k k' : IntKind) (n m : Int) : makeSliceE E H 46 (.i (.v (.int k n))) (.i (.v (.int k' m))) = if 0 ≤ n ∧ n = m ∧ n < 1073741824 then some (.ref H.length 0 0 n.toNat, H ++ [.sl 1 0 (List.replicate n.toNat [.v (.int .i64 0)]) true]) else none := ms_eq (by kernel_rfl) H k k' n m
theorem bs69 (H : Hp) (n : Nat) (hn : n * 17 ≤ 16777216) (parts : List (Nat × AV)) : buildSliceE E H 69 n parts = bsF [] 17 n H (fillA 17 (List.replicate n [.i (.v (.bool false)), .i (.v (.bool false)), .i (.v (.bool false)), .i (.v (.bool false)), .i (.v (.bool false)), .i (.v (.bool false)), .i (.v (.bool false)), .i (.v (.bool false)), .i (.v (.bool false)), .i (.v (.bool false)), .i (.v (.bool false)), .i (.v (.bool false)), .i (.v (.bool false)), .i (.v (.bool false)), .i (.v (.bool false)), .i (.v (.bool false)), .i (.v (.bool false))]).flatten parts) := bs_eq (by kernel_rfl) H n hn parts
theorem br69 (n : Nat) (parts : List (Nat × AV)) : buildRefs E 69 n parts = brK (fillA 17 (List.replicate n [.i (.v (.bool false)), .i (.v (.bool false)), .i (.v (.bool false)), .i (.v (.bool false)), .i (.v (.bool false)), .i (.v (.bool false)), .i (.v (.bool false)), .i (.v (.bool false)), .i (.v (.bool false)), .i (.v (.bool false)), .i (.v (.bool false)), .i (.v (.bool false)), .i (.v (.bool false)), .i (.v (.bool false)), .i (.v (.bool false)), .i (.v (.bool false)), .i (.v (.bool false))]).flatten parts) := br_eq (ks := []) (by kernel_rfl) n parts
theorem ms69 (H : Hp) (k k' : IntKind) (n m : Int) : makeSliceE E H 69 (.i (.v (.int k n))) (.i (.v (.int k' m))) = if 0 ≤ n ∧ n = m ∧ n < 1073741824 then some (.ref H.length 0 0 n.toNat, H ++ [.sl 17 0 (List.replicate n.toNat [.v (.bool false), .v (.bool false), .v (.bool false), .v (.bool false), .v (.bool false), .v (.bool false), .v (.bool false), .v (.bool false), .v (.bool false), .v (.bool false), .v (.bool false), .v (.bool false), .v (.bool false), .v (.bool false), .v (.bool false), .v (.bool false), .v (.bool false)]) true]) else none := ms_eq (by kernel_rfl) H k k' n m
theorem bs91 (H : Hp) (n : Nat) (hn : n * 1 ≤ 16777216) (parts : List (Nat × AV)) : buildSliceE E H 91 n parts = bsF [] 1 n H (fillA 1 (List.replicate n [.i (.v (.int .i32 0))]).flatten parts) := bs_eq (by kernel_rfl) H n hn parts
theorem br91 (n : Nat) (parts : List (Nat × AV)) : buildRefs E 91 n parts = brK (fillA 1 (List.replicate n [.i (.v (.int .i32 0))]).flatten parts) := br_eq (ks := []) (by kernel_rfl) n parts
theorem ms91 (H : Hp) (k k' : IntKind) (n m : Int) : makeSliceE E H 91 (.i (.v (.int k n))) (.i (.v (.int k' m))) = if 0 ≤ n ∧ n = m ∧ n < 1073741824 then some (.ref H.length 0 0 n.toNat, H ++ [.sl 1 0 (List.replicate n.toNat [.v (.int .i32 0)]) true]) else none := ms_eq (by kernel_rfl) H k k' n m
theorem bs99 (H : Hp) (n : Nat) (hn : n * 1 ≤ 16777216) (parts : List (Nat × AV)) : buildSliceE E H 99 n parts = bsF [] 1 n H (fillA 1 (List.replicate n [.i (.v (.int .u8 0))]).flatten parts) := bs_eq (by kernel_rfl) H n hn parts
theorem br99 (n : Nat) (parts : List (Nat × AV)) : buildRefs E 99 n parts = brK (fillA 1 (List.replicate n [.i (.v (.int .u8 0))]).flatten parts) := br_eq (ks := []) (by kernel_rfl) n parts
theorem ms99 (H : Hp) (k k' : IntKind) (n m : Int) : makeSliceE E H 99 (.i (.v (.int k n))) (.i (.v (.int k' m))) = if 0 ≤ n ∧ n = m ∧ n < 1073741824 then some (.ref H.length 0 0 n.toNat, H ++ [.sl 1 0 (List.replicate n.toNat [.v (.int .u8 0)]) true]) else none := ms_eq (by kernel_rfl) H k k' n m
theorem st21 (H : Hp) (c g r k : Nat) (v : AV) : storeE E H 21 (.ptr c g r k) v = if (cellsA v).length = 1 ∧ (cellsA v).all one = true then stC [] 1 H c g r k (cellsA v) H[c]? else none := st_eq sz21 H c g r k v
theorem st22 (H : Hp) (c g r k : Nat) (v : AV) : storeE E H 22 (.ptr c g r k) v = if (cellsA v).length = 1 ∧ (cellsA v).all one = true then stC [some 2] 1 H c g r k (cellsA v) H[c]? else none := st_eq sz22 H c g r k v
theorem st23 (H : Hp) (c g r k : Nat) (v : AV) : storeE E H 23 (.ptr c g r k) v = if (cellsA v).length = 1 ∧ (cellsA v).all one = true then stC [some 3] 1 H c g r k (cellsA v) H[c]? else none := st_eq sz23 H c g r k v
theorem st25 (H : Hp) (c g r k : Nat) (v : AV) : storeE E H 25 (.ptr c g r k) v = if (cellsA v).length = 3 ∧ (cellsA v).all one = true then stC [] 3 H c g r k (cellsA v) H[c]? else none := st_eq sz25 H c g r k v
theorem st28 (H : Hp) (c g r k : Nat) (v : AV) : storeE E H 28 (.ptr c g r k) v = if (cellsA v).length = 1 ∧ (cellsA v).all one = true then stC [] 1 H c g r k (cellsA v) H[c]? else none := st_eq sz28 H c g r k v
theorem st3 (H : Hp) (c g r k : Nat) (v : AV) : storeE E H 3 (.ptr c g r k) v = if (cellsA v).length = 1 ∧ (cellsA v).all one = true then stC [] 1 H c g r k (cellsA v) H[c]? else none := st_eq sz3 H c g r k v
theorem st30 (H : Hp) (c g r k : Nat) (v : AV) : storeE E H 30 (.ptr c g r k) v = if (cellsA v).length = 5 ∧ (cellsA v).all one = true then stC [] 5 H c g r k (cellsA v) H[c]? else none := st_eq sz30 H c g r k v
theorem st35 (H : Hp) (c g r k : Nat) (v : AV) : storeE E H 35 (.ptr c g r k) v = if (cellsA v).length = 1 ∧ (cellsA v).all one = true then stC [] 1 H c g r k (cellsA v) H[c]? else none := st_eq sz35 H c g r k v
theorem st39 (H : Hp) (c g r k : Nat) (v : AV) : storeE E H 39 (.ptr c g r k) v = if (cellsA v).length = 3 ∧ (cellsA v).all one = true then stC [] 3 H c g r k (cellsA v) H[c]? else none := st_eq sz39 H c g r k v
theorem st4 (H : Hp) (c g r k : Nat) (v : AV) : storeE E H 4 (.ptr c g r k) v = if (cellsA v).length = 1 ∧ (cellsA v).all one = true then stC [] 1 H c g r k (cellsA v) H[c]? else none := st_eq sz4 H c g r k v
theorem st43 (H : Hp) (c g r k : Nat) (v : AV) : storeE E H 43 (.ptr c g r k) v = if (cellsA v).length = 2 ∧ (cellsA v).all one = true then stC [] 2 H c g r k (cellsA v) H[c]? else none := st_eq sz43 H c g r k v
theorem st46 (H : Hp) (c g r k : Nat) (v : AV) : storeE E H 46 (.ptr c g r k) v = if (cellsA v).length = 1 ∧ (cellsA v).all one = true then stC [some 1] 1 H c g r k (cellsA v) H[c]? else none := st_eq sz46 H c g r k v
theorem st5 (H : Hp) (c g r k : Nat) (v : AV) : storeE E H 5 (.ptr c g r k) v = if (cellsA v).length = 1 ∧ (cellsA v).all one = true then stC [] 1 H c g r k (cellsA v) H[c]? else none := st_eq sz5 H c g r k v
theorem st56 (H : Hp) (c g r k : Nat) (v : AV) : storeE E H 56 (.ptr c g r k) v = if (cellsA v).length = 16 ∧ (cellsA v).all one = true then stC [] 16 H c g r k (cellsA v) H[c]? else none := st_eq sz56 H c g r k v
theorem st58 (H : Hp) (c g r k : Nat) (v : AV) : storeE E H 58 (.ptr c g r k) v = if (cellsA v).length = 23 ∧ (cellsA v).all one = true then stC [none, some 3, none, none, none, none, none, none, none, none, none, none, none, none, none, none, none, none, none, none, none, none, none] 23 H c g r k (cellsA v) H[c]? else none := st_eq sz58 H c g r k v
theorem st69 (H : Hp) (c g r k : Nat) (v : AV) : storeE E H 69 (.ptr c g r k) v = if (cellsA v).length = 1 ∧ (cellsA v).all one = true then stC [some 17] 1 H c g r k (cellsA v) H[c]? else none := st_eq sz69 H c g r k v
theorem st70 (H : Hp) (c g r k : Nat) (v : AV) : storeE E H 70 (.ptr c g r k) v = if (cellsA v).length = 16 ∧ (cellsA v).all one = true then stC [] 16 H c g r k (cellsA v) H[c]? else none := st_eq sz70 H c g r k v
theorem st72 (H : Hp) (c g r k : Nat) (v : AV) : storeE E H 72 (.ptr c g r k) v = if (cellsA v).length = 17 ∧ (cellsA v).all one = true then stC [] 17 H c g r k (cellsA v) H[c]? else none := st_eq sz72 H c g r k v
theorem st9 (H : Hp) (c g r k : Nat) (v : AV) : storeE E H 9 (.ptr c g r k) v = if (cellsA v).length = 1 ∧ (cellsA v).all one = true then stC [] 1 H c g r k (cellsA v) H[c]? else none := st_eq sz9 H c g r k v
theorem st90 (H : Hp) (c g r k : Nat) (v : AV) : storeE E H 90 (.ptr c g r k) v = if (cellsA v).length = 21 ∧ (cellsA v).all one = true then stC [] 21 H c g r k (cellsA v) H[c]? else none := st_eq sz90 H c g r k v
theorem st96 (H : Hp) (c g r k : Nat) (v : AV) : storeE E H 96 (.ptr c g r k) v = if (cellsA v).length = 4 ∧ (cellsA v).all one = true then stC [] 4 H c g r k (cellsA v) H[c]? else none := st_eq sz96 H c g r k v
def en10 := And.intro @ent10 (And.intro @res10 (And.intro @rk10 (And.intro @ow10 (And.intro @kp10_0 (And.intro @kp10_1 (And.intro @kp10_2 (And.intro @kp10_3 (And.intro @kp10_4 (And.intro @kp10_5 (And.intro @kp10_6 (And.intro @fl10_6 (And.intro @dr10_6 (And.intro @sq49 (And.intro @ent11 (And.intro @ci11 (And.intro @cr11 (And.intro @ak11 (And.intro @ent12 (And.intro @ci12 (And.intro @cr12 (And.intro @ak12 (And.intro @ent13 (And.intro @ci13 (And.intro @cr13 (And.intro @ak13 (And.intro @ent15 (And.intro @ci15 (And.intro @cr15 (And.intro @ak15 (And.intro @ent21 (And.intro @ci21 (And.intro @cr21 (And.intro @ak21 (And.intro @agg22 (And.intro @agg23 (And.intro @agg25 (And.intro @agg3 (And.intro @agg39 (And.intro @agg43 (And.intro @arrz39 (And.intro @arrz43 (And.intro @eqg25 (And.intro @fld30_0 (And.intro @kind22 (And.intro @kind23 (And.intro @kind25 (And.intro @kind3 (And.intro @cv21_3 (And.intro @cv35_3 (And.intro @kind39 (And.intro @kind43 (And.intro @lv25 (And.intro @pl39 (And.intro @pl43 (And.intro @sl22 (And.intro @ms22 (And.intro @br22 (And.intro @ap22_22 (And.intro @sl23 (And.intro @ms23 (And.intro @br23 (And.intro @ap23_23 (And.intro @sl25 (And.intro @sl3 (And.intro @str22 (And.intro @str23 (And.intro @str25 (And.intro @str3 (And.intro @sz25 (And.intro @st25 (And.intro @sz39 (And.intro @st39 (And.intro @sz43 (And.intro @st43 (And.intro @zero39 (And.intro @bd39 (And.intro @zero43 (@bd43))))))))))))))))))))))))))))))))))))))))))))))))))))))))))))))))))))))))))))))
def en11 := And.intro @ent11 (And.intro @res11 (And.intro @rk11 (And.intro @ow11 (And.intro @kp11_0 (And.intro @kp11_1 (And.intro @kp11_2 (And.intro @kp11_3 (And.intro @kp11_4 (And.intro @kp11_5 (And.intro @kp11_6 (And.intro @kp11_7 (And.intro @kp11_8 (And.intro @hd11_4 (And.intro @sq49 (And.intro @agg22 (And.intro @agg23 (And.intro @agg39 (And.intro @agg43 (And.intro @agg9 (And.intro @arr23 (And.intro @arrz39 (And.intro @arrz43 (And.intro @fld39_0 (And.intro @kind22 (And.intro @kind23 (And.intro @kind39 (And.intro @kind43 (And.intro @kind9 (And.intro @cv99_9 (And.intro @pl39 (And.intro @pl43 (And.intro @sl22 (And.intro @ms22 (And.intro @br22 (And.intro @ap22_22 (And.intro @sl23 (And.intro @ms23 (And.intro @br23 (And.intro @ap23_23 (And.intro @sl9 (And.intro @sx9 (And.intro @str22 (And.intro @str23 (And.intro @str9 (And.intro @sz39 (And.intro @st39 (And.intro @sz43 (And.intro @st43 (And.intro @sz9 (And.intro @st9 (And.intro @zero39 (And.intro @bd39 (And.intro @zero43 (@bd43))))))))))))))))))))))))))))))))))))))))))))))))))))))
def en13 := And.intro @ent13 (And.intro @res13 (And.intro @rk13 (And.intro @ow13 (And.intro @kp13_0 (And.intro @kp13_1 (And.intro @kp13_2 (And.intro @kp13_3 (And.intro @kp13_4 (And.intro @kp13_5 (And.intro @kp13_6 (And.intro @kp13_7 (And.intro @kp13_8 (And.intro @kp13_9 (And.intro @kp13_10 (And.intro @kp13_11 (And.intro @kp13_12 (And.intro @kp13_13 (And.intro @kp13_14 (And.intro @kp13_15 (And.intro @kp13_16 (And.intro @kp13_17 (And.intro @kp13_18 (And.intro @kp13_19 (And.intro @kp13_20 (And.intro @kp13_21 (And.intro @kp13_22 (And.intro @kp13_23 (And.intro @kp13_24 (And.intro @kp13_25 (And.intro @hd13_8 (And.intro @sq49 (And.intro @ent23 (And.intro @ci23 (And.intro @cr23 (And.intro @ak23 (And.intro @ent24 (And.intro @ci24 (And.intro @cr24 (And.intro @ak24 (And.intro @ent25 (And.intro @ci25 (And.intro @cr25 (And.intro @ak25 (And.intro @agg22 (And.intro @agg23 (And.intro @agg25 (And.intro @agg28 (And.intro @agg3 (And.intro @agg30 (And.intro @agg4 (And.intro @agg43 (And.intro @agg55 (And.intro @agg58 (And.intro @arr22 (And.intro @arr30 (And.intro @arr58 (And.intro @arrz30 (And.intro @arrz43 (And.intro @arrz58 (And.intro @fld30_0 (And.intro @fld30_1 (And.intro @fld30_2 (And.intro @fld43_0 (And.intro @fld43_1 (And.intro @fld58_0 (And.intro @fld58_1 (And.intro @fld58_2 (And.intro @fld58_5 (And.intro @kind22 (And.intro @kind3 (And.intro @cv21_3 (And.intro @cv35_3 (And.intro @kind43 (And.intro @kind55 (And.intro @pl30 (And.intro @pl43 (And.intro @pl58 (And.intro @sl22 (And.intro @ms22 (And.intro @br22 (And.intro @ap22_22 (And.intro @sl3 (And.intro @sl43 (And.intro @sl55 (And.intro @str22 (And.intro @str3 (And.intro @str43 (And.intro @str55 (And.intro @sz23 (And.intro @st23 (And.intro @sz25 (And.intro @st25 (And.intro @sz28 (And.intro @st28 (And.intro @sz3 (And.intro @st3 (And.intro @sz30 (And.intro @st30 (And.intro @sz4 (And.intro @st4 (And.intro @sz43 (And.intro @st43 (And.intro @sz58 (And.intro @st58 (And.intro @zero30 (And.intro @bd30 (And.intro @zero43 (And.intro @bd43 (And.intro @zero58 (@bd58))))))))))))))))))))))))))))))))))))))))))))))))))))))))))))))))))))))))))))))))))))))))))))))))))))))))))))))
def en15 := And.intro @ent15 (And.intro @res15 (And.intro @rk15 (And.intro @ow15 (And.intro @kp15_0 (And.intro @kp15_1 (And.intro @kp15_2 (And.intro @kp15_3 (And.intro @kp15_4 (And.intro @kp15_5 (And.intro @kp15_6 (And.intro @sq49 (And.intro @ent13 (And.intro @ci13 (And.intro @cr13 (And.intro @ak13 (And.intro @ent19 (And.intro @ci19 (And.intro @cr19 (And.intro @ak19 (And.intro @agg22 (And.intro @agg23 (And.intro @agg25 (And.intro @agg3 (And.intro @agg39 (And.intro @agg43 (And.intro @arrz25 (And.intro @arrz39 (And.intro @arrz43 (And.intro @fld25_0 (And.intro @fld25_1 (And.intro @fld30_0 (And.intro @kind22 (And.intro @kind23 (And.intro @kind25 (And.intro @kind3 (And.intro @cv21_3 (And.intro @cv35_3 (And.intro @kind39 (And.intro @kind43 (And.intro @pl25 (And.intro @pl39 (And.intro @pl43 (And.intro @sl22 (And.intro @ms22 (And.intro @br22 (And.intro @ap22_22 (And.intro @sl23 (And.intro @ms23 (And.intro @br23 (And.intro @ap23_23 (And.intro @sl25 (And.intro @sl3 (And.intro @str22 (And.intro @str23 (And.intro @str25 (And.intro @str3 (And.intro @sz25 (And.intro @st25 (And.intro @sz3 (And.intro @st3 (And.intro @sz39 (And.intro @st39 (And.intro @sz43 (And.intro @st43 (And.intro @zero25 (And.intro @bd25 (And.intro @zero39 (And.intro @bd39 (And.intro @zero43 (@bd43))))))))))))))))))))))))))))))))))))))))))))))))))))))))))))))))))))))
def en19 := And.intro @ent19 (And.intro @res19 (And.intro @rk19 (And.intro @ow19 (And.intro @kp19_0 (And.intro @kp19_1 (And.intro @kp19_2 (And.intro @sq49 (And.intro @ent32 (And.intro @ci32 (And.intro @cr32 (And.intro @ak32 (And.intro @agg22 (And.intro @agg43 (And.intro @arrz43 (And.intro @kind22 (And.intro @kind43 (And.intro @pl43 (And.intro @sl22 (And.intro @ms22 (And.intro @br22 (And.intro @ap22_22 (And.intro @str22 (And.intro @sz43 (And.intro @st43 (And.intro @zero43 (@bd43))))))))))))))))))))))))))
def en21 := And.intro @ent21 (And.intro @res21 (And.intro @rk21 (And.intro @ow21 (And.intro @kp21_0 (And.intro @kp21_1 (And.intro @kp21_2 (And.intro @kp21_3 (And.intro @kp21_4 (And.intro @kp21_5 (And.intro @kp21_6 (And.intro @kp21_7 (And.intro @kp21_8 (And.intro @kp21_9 (And.intro @kp21_10 (And.intro @kp21_11 (And.intro @kp21_12 (And.intro @kp21_13 (And.intro @kp21_14 (And.intro @kp21_15 (And.intro @kp21_16 (And.intro @kp21_17 (And.intro @kp21_18 (And.intro @kp21_19 (And.intro @kp21_20 (And.intro @kp21_21 (And.intro @kp21_22 (And.intro @hd21_6 (And.intro @hd21_17 (And.intro @fl21_12 (And.intro @dr21_12 (And.intro @fl21_15 (And.intro @dr21_15 (And.intro @fl21_19 (And.intro @dr21_19 (And.intro @sq49 (And.intro @ent32 (And.intro @ci32 (And.intro @cr32 (And.intro @ak32 (And.intro @ent33 (And.intro @ci33 (And.intro @cr33 (And.intro @ak33 (And.intro @ent34 (And.intro @ci34 (And.intro @cr34 (And.intro @ak34 (And.intro @agg22 (And.intro @agg3 (And.intro @agg4 (And.intro @agg43 (And.intro @agg46 (And.intro @agg69 (And.intro @agg70 (And.intro @agg72 (And.intro @arr22 (And.intro @arr46 (And.intro @arr69 (And.intro @arr70 (And.intro @arrz43 (And.intro @arrz72 (And.intro @fld43_0 (And.intro @fld72_0 (And.intro @fld72_1 (And.intro @kind22 (And.intro @kind3 (And.intro @cv21_3 (And.intro @cv35_3 (And.intro @kind43 (And.intro @kind46 (And.intro @kind69 (And.intro @kind70 (And.intro @kind72 (And.intro @pl43 (And.intro @pl72 (And.intro @sl22 (And.intro @ms22 (And.intro @br22 (And.intro @ap22_22 (And.intro @sl3 (And.intro @sl43 (And.intro @sl46 (And.intro @ms46 (And.intro @br46 (And.intro @sx46 (And.intro @sw46 (And.intro @ap46_46 (And.intro @sl69 (And.intro @ms69 (And.intro @br69 (And.intro @sl70 (And.intro @sl72 (And.intro @str22 (And.intro @str3 (And.intro @str43 (And.intro @str46 (And.intro @str69 (And.intro @str70 (And.intro @str72 (And.intro @sz3 (And.intro @st3 (And.intro @sz4 (And.intro @st4 (And.intro @sz43 (And.intro @st43 (And.intro @sz69 (And.intro @st69 (And.intro @sz70 (And.intro @st70 (And.intro @sz72 (And.intro @st72 (And.intro @zero3 (And.intro @zero43 (And.intro @bd43 (And.intro @zero69 (And.intro @zero72 (@bd72)))))))))))))))))))))))))))))))))))))))))))))))))))))))))))))))))))))))))))))))))))))))))))))))))))))))))))))))))))))
def en23 := And.intro @ent23 (And.intro @res23 (And.intro @rk23 (And.intro @ow23 (And.intro @kp23_0 (And.intro @kp23_1 (And.intro @kp23_2 (And.intro @kp23_3 (And.intro @kp23_4 (And.intro @kp23_5 (And.intro @kp23_6 (And.intro @kp23_7 (And.intro @kp23_8 (And.intro @kp23_9 (And.intro @kp23_10 (And.intro @kp23_11 (And.intro @kp23_12 (And.intro @hd23_4 (And.intro @fl23_6 (And.intro @dr23_6 (And.intro @sq49 (And.intro @ent35 (And.intro @ci35 (And.intro @cr35 (And.intro @ak35 (And.intro @ent36 (And.intro @ci36 (And.intro @cr36 (And.intro @ak36 (And.intro @agg22 (And.intro @agg3 (And.intro @agg37 (And.intro @agg43 (And.intro @agg9 (And.intro @arr22 (And.intro @arrz43 (And.intro @fld43_0 (And.intro @fld43_1 (And.intro @kind22 (And.intro @kind3 (And.intro @cv21_3 (And.intro @cv35_3 (And.intro @kind37 (And.intro @kind43 (And.intro @kind9 (And.intro @cv99_9 (And.intro @pl43 (And.intro @sl22 (And.intro @ms22 (And.intro @br22 (And.intro @ap22_22 (And.intro @sl3 (And.intro @sl37 (And.intro @ms37 (And.intro @br37 (And.intro @str22 (And.intro @str3 (And.intro @str37 (And.intro @sz3 (And.intro @st3 (And.intro @sz43 (And.intro @st43 (And.intro @sz9 (And.intro @st9 (And.intro @zero43 (And.intro @bd43 (@zero9))))))))))))))))))))))))))))))))))))))))))))))))))))))))))))))))))
def en24 := And.intro @ent24 (And.intro @res24 (And.intro @rk24 (And.intro @ow24 (And.intro @kp24_0 (And.intro @kp24_1 (And.intro @kp24_2 (And.intro @kp24_3 (And.intro @kp24_4 (And.intro @kp24_5 (And.intro @fl24_5 (And.intro @dr24_5 (And.intro @sq49 (And.intro @agg3 (And.intro @agg4 (And.intro @agg56 (And.intro @arr56 (And.intro @fld58_3 (And.intro @fld58_4 (And.intro @fld58_5 (And.intro @kind56 (And.intro @sl56 (And.intro @str56 (And.intro @sz3 (And.intro @st3 (And.intro @sz4 (And.intro @st4 (And.intro @sz56 (@st56))))))))))))))))))))))))))))
def en25 := And.intro @ent25 (And.intro @res25 (And.intro @rk25 (And.intro @ow25 (And.intro @kp25_0 (And.intro @kp25_1 (And.intro @kp25_2 (And.intro @kp25_3 (And.intro @kp25_4 (And.intro @kp25_5 (And.intro @kp25_6 (And.intro @kp25_7 (And.intro @kp25_8 (And.intro @kp25_9 (And.intro @kp25_10 (And.intro @kp25_11 (And.intro @kp25_12 (And.intro @kp25_13 (And.intro @kp25_14 (And.intro @kp25_15 (And.intro @kp25_16 (And.intro @kp25_17 (And.intro @kp25_18 (And.intro @kp25_19 (And.intro @kp25_20 (And.intro @kp25_21 (And.intro @kp25_22 (And.intro @kp25_23 (And.intro @kp25_24 (And.intro @kp25_25 (And.intro @kp25_26 (And.intro @kp25_27 (And.intro @kp25_28 (And.intro @fl25_2 (And.intro @dr25_2 (And.intro @sq49 (And.intro @ent24 (And.intro @ci24 (And.intro @cr24 (And.intro @ak24 (And.intro @ent37 (And.intro @ci37 (And.intro @cr37 (And.intro @ak37 (And.intro @ent38 (And.intro @ci38 (And.intro @cr38 (And.intro @ak38 (And.intro @xk38 (And.intro @ent39 (And.intro @ci39 (And.intro @cr39 (And.intro @ak39 (And.intro @ent40 (And.intro @ci40 (And.intro @cr40 (And.intro @ak40 (And.intro @ent41 (And.intro @ci41 (And.intro @cr41 (And.intro @ak41 (And.intro @ent42 (And.intro @ci42 (And.intro @cr42 (And.intro @ak42 (And.intro @agg25 (And.intro @agg3 (And.intro @agg39 (And.intro @agg4 (And.intro @agg43 (And.intro @agg55 (And.intro @arrz39 (And.intro @fld25_0 (And.intro @fld25_1 (And.intro @fld39_2 (And.intro @fld43_0 (And.intro @fld58_2 (And.intro @kind3 (And.intro @cv21_3 (And.intro @cv35_3 (And.intro @kind4 (And.intro @kind43 (And.intro @kind55 (And.intro @mp80 (And.intro @pl39 (And.intro @sl3 (And.intro @sl4 (And.intro @sl43 (And.intro @sl55 (And.intro @str3 (And.intro @str4 (And.intro @str43 (And.intro @str55 (And.intro @sz25 (And.intro @st25 (And.intro @sz3 (And.intro @st3 (And.intro @sz39 (And.intro @st39 (And.intro @sz43 (And.intro @st43 (And.intro @zero39 (And.intro @bd39 (@zero78)))))))))))))))))))))))))))))))))))))))))))))))))))))))))))))))))))))))))))))))))))))))))))))))))))))))
def en32 := And.intro @ent32 (And.intro @res32 (And.intro @rk32 (And.intro @ow32 (And.intro @kp32_0 (And.intro @kp32_1 (And.intro @kp32_2 (And.intro @kp32_3 (And.intro @kp32_4 (And.intro @kp32_5 (And.intro @kp32_6 (And.intro @kp32_7 (And.intro @kp32_8 (And.intro @kp32_9 (And.intro @kp32_10 (And.intro @kp32_11 (And.intro @kp32_12 (And.intro @kp32_13 (And.intro @kp32_14 (And.intro @kp32_15 (And.intro @kp32_16 (And.intro @kp32_17 (And.intro @kp32_18 (And.intro @kp32_19 (And.intro @kp32_20 (And.intro @kp32_21 (And.intro @kp32_22 (And.intro @kp32_23 (And.intro @kp32_24 (And.intro @hd32_6 (And.intro @hd32_12 (And.intro @fl32_15 (And.intro @dr32_15 (And.intro @fl32_16 (And.intro @dr32_16 (And.intro @fl32_20 (And.intro @dr32_20 (And.intro @sq49 (And.intro @ent23 (And.intro @ci23 (And.intro @cr23 (And.intro @ak23 (And.intro @ent33 (And.intro @ci33 (And.intro @cr33 (And.intro @ak33 (And.intro @agg22 (And.intro @agg28 (And.intro @agg3 (And.intro @agg43 (And.intro @agg46 (And.intro @agg90 (And.intro @arr22 (And.intro @arr46 (And.intro @arr90 (And.intro @arrz43 (And.intro @fld43_0 (And.intro @kind22 (And.intro @kind3 (And.intro @cv21_3 (And.intro @cv35_3 (And.intro @kind43 (And.intro @kind46 (And.intro @kind90 (And.intro @pl43 (And.intro @sl22 (And.intro @ms22 (And.intro @br22 (And.intro @ap22_22 (And.intro @sl3 (And.intro @sl43 (And.intro @sl46 (And.intro @ms46 (And.intro @br46 (And.intro @sx46 (And.intro @sw46 (And.intro @ap46_46 (And.intro @sl90 (And.intro @str22 (And.intro @str3 (And.intro @str43 (And.intro @str46 (And.intro @str90 (And.intro @sz22 (And.intro @st22 (And.intro @sz28 (And.intro @st28 (And.intro @sz3 (And.intro @st3 (And.intro @sz43 (And.intro @st43 (And.intro @sz46 (And.intro @st46 (And.intro @zero28 (And.intro @zero3 (And.intro @zero43 (And.intro @bd43 (@zero46)))))))))))))))))))))))))))))))))))))))))))))))))))))))))))))))))))))))))))))))))))))))))))))))))
def en33 := And.intro @ent33 (And.intro @res33 (And.intro @rk33 (And.intro @ow33 (And.intro @kp33_0 (And.intro @kp33_1 (And.intro @sq49 (And.intro @ent49 (And.intro @ci49 (And.intro @cr49 (@ak49))))))))))
def en34 := And.intro @ent34 (And.intro @res34 (And.intro @rk34 (And.intro @ow34 (And.intro @kp34_0 (And.intro @kp34_1 (And.intro @kp34_2 (And.intro @kp34_3 (And.intro @kp34_4 (And.intro @kp34_5 (And.intro @kp34_6 (And.intro @kp34_7 (And.intro @kp34_8 (And.intro @kp34_9 (And.intro @kp34_10 (And.intro @kp34_11 (And.intro @kp34_12 (And.intro @kp34_13 (And.intro @kp34_14 (And.intro @kp34_15 (And.intro @kp34_16 (And.intro @kp34_17 (And.intro @kp34_18 (And.intro @hd34_15 (And.intro @fl34_9 (And.intro @dr34_9 (And.intro @fl34_14 (And.intro @dr34_14 (And.intro @sq49 (And.intro @agg3 (And.intro @agg4 (And.intro @agg70 (And.intro @agg72 (And.intro @agg90 (And.intro @arr70 (And.intro @arr90 (And.intro @arrz72 (And.intro @fld72_0 (And.intro @fld72_1 (And.intro @kind70 (And.intro @kind90 (And.intro @pl72 (And.intro @sl70 (And.intro @sl90 (And.intro @str70 (And.intro @str90 (And.intro @sz3 (And.intro @st3 (And.intro @sz4 (And.intro @st4 (And.intro @sz70 (And.intro @st70 (And.intro @sz72 (And.intro @st72 (And.intro @zero72 (@bd72)))))))))))))))))))))))))))))))))))))))))))))))))))))))
def en36 := And.intro @ent36 (And.intro @res36 (And.intro @rk36 (And.intro @ow36 (And.intro @kp36_0 (And.intro @kp36_1 (And.intro @kp36_2 (And.intro @kp36_3 (And.intro @kp36_4 (And.intro @kp36_5 (And.intro @kp36_6 (And.intro @kp36_7 (@sq49))))))))))))
def en37 := And.intro @ent37 (And.intro @res37 (And.intro @rk37 (And.intro @ow37 (And.intro @kp37_0 (And.intro @kp37_1 (And.intro @kp37_2 (And.intro @kp37_3 (And.intro @kp37_4 (And.intro @kp37_5 (And.intro @kp37_6 (And.intro @kp37_7 (And.intro @kp37_8 (And.intro @kp37_9 (And.intro @kp37_10 (And.intro @kp37_11 (And.intro @kp37_12 (And.intro @kp37_13 (And.intro @sq49 (And.intro @ent39 (And.intro @ci39 (And.intro @cr39 (And.intro @ak39 (And.intro @agg23 (And.intro @agg25 (And.intro @agg3 (And.intro @agg39 (And.intro @agg55 (And.intro @arrz39 (And.intro @fld25_0 (And.intro @fld25_1 (And.intro @fld43_0 (And.intro @fld43_1 (And.intro @fld58_0 (And.intro @fld58_1 (And.intro @fld58_2 (And.intro @kind23 (And.intro @kind3 (And.intro @cv21_3 (And.intro @cv35_3 (And.intro @kind39 (And.intro @kind55 (And.intro @pl39 (And.intro @sl23 (And.intro @ms23 (And.intro @br23 (And.intro @ap23_23 (And.intro @sl3 (And.intro @sl55 (And.intro @str23 (And.intro @str3 (And.intro @str55 (And.intro @sz23 (And.intro @st23 (And.intro @sz25 (And.intro @st25 (And.intro @sz3 (And.intro @st3 (And.intro @sz39 (And.intro @st39 (And.intro @zero39 (@bd39)))))))))))))))))))))))))))))))))))))))))))))))))))))))))))))
def en39 := And.intro @ent39 (And.intro @res39 (And.intro @rk39 (And.intro @ow39 (And.intro @kp39_0 (And.intro @kp39_1 (And.intro @kp39_2 (And.intro @kp39_3 (And.intro @fl39_2 (And.intro @dr39_2 (And.intro @sq49 (And.intro @ent55 (And.intro @ci55 (And.intro @cr55 (And.intro @ak55 (And.intro @agg3 (And.intro @agg4 (And.intro @agg56 (And.intro @arr56 (And.intro @fld58_3 (And.intro @fld58_4 (And.intro @fld58_5 (And.intro @kind3 (And.intro @cv21_3 (And.intro @cv35_3 (And.intro @kind56 (And.intro @sl3 (And.intro @sl56 (And.intro @str3 (And.intro @str56 (And.intro @sz3 (And.intro @st3 (And.intro @sz4 (And.intro @st4 (And.intro @sz56 (@st56)))))))))))))))))))))))))))))))))))
def en40 := And.intro @ent40 (And.intro @res40 (And.intro @rk40 (And.intro @ow40 (And.intro @kp40_0 (And.intro @kp40_1 (And.intro @kp40_2 (And.intro @kp40_3 (And.intro @kp40_4 (And.intro @kp40_5 (And.intro @kp40_6 (And.intro @kp40_7 (And.intro @kp40_8 (And.intro @kp40_9 (And.intro @kp40_10 (And.intro @sq49 (And.intro @ent41 (And.intro @ci41 (And.intro @cr41 (And.intro @ak41 (And.intro @ent56 (And.intro @ci56 (And.intro @cr56 (And.intro @ak56 (And.intro @ent57 (And.intro @ci57 (And.intro @cr57 (And.intro @ak57 (And.intro @agg21 (And.intro @agg3 (And.intro @agg39 (And.intro @agg55 (And.intro @agg9 (And.intro @agg91 (And.intro @arr91 (And.intro @arrz39 (And.intro @fld39_0 (And.intro @fld39_2 (And.intro @kind21 (And.intro @cv21_3 (And.intro @cv5_21 (And.intro @kind3 (And.intro @cv35_3 (And.intro @kind55 (And.intro @kind9 (And.intro @cv99_9 (And.intro @kind91 (And.intro @pl39 (And.intro @sl21 (And.intro @sl3 (And.intro @sl55 (And.intro @sl9 (And.intro @sx9 (And.intro @sl91 (And.intro @ms91 (And.intro @br91 (And.intro @ap91_91 (And.intro @str21 (And.intro @str3 (And.intro @str55 (And.intro @str9 (And.intro @str91 (And.intro @sz21 (And.intro @st21 (And.intro @sz3 (And.intro @st3 (And.intro @sz39 (And.intro @st39 (And.intro @sz9 (And.intro @st9 (And.intro @zero21 (And.intro @zero39 (@bd39))))))))))))))))))))))))))))))))))))))))))))))))))))))))))))))))))))))))
def en41 := And.intro @ent41 (And.intro @res41 (And.intro @rk41 (And.intro @ow41 (And.intro @kp41_0 (And.intro @kp41_1 (And.intro @kp41_2 (And.intro @kp41_3 (And.intro @sq49 (And.intro @agg23 (And.intro @agg39 (And.intro @arr23 (And.intro @arr39 (And.intro @arrz39 (And.intro @fld58_1 (And.intro @kind23 (And.intro @kind39 (And.intro @pl39 (And.intro @sl23 (And.intro @ms23 (And.intro @br23 (And.intro @ap23_23 (And.intro @str23 (And.intro @sz23 (And.intro @st23 (And.intro @sz39 (And.intro @st39 (And.intro @zero39 (@bd39))))))))))))))))))))))))))))
def en42 := And.intro @ent42 (And.intro @res42 (And.intro @rk42 (And.intro @ow42 (And.intro @kp42_0 (And.intro @kp42_1 (And.intro @kp42_2 (And.intro @kp42_3 (@sq49))))))))
def en50 := And.intro @ent50 (And.intro @res50 (And.intro @rk50 (And.intro @ow50 (And.intro @kp50_0 (And.intro @kp50_1 (@sq49))))))
def en51 := And.intro @ent51 (And.intro @res51 (And.intro @rk51 (And.intro @ow51 (And.intro @kp51_0 (And.intro @kp51_1 (@sq49))))))
def en52 := And.intro @ent52 (And.intro @res52 (And.intro @rk52 (And.intro @ow52 (And.intro @kp52_0 (And.intro @kp52_1 (@sq49))))))
def en53 := And.intro @ent53 (And.intro @res53 (And.intro @rk53 (And.intro @ow53 (And.intro @kp53_0 (And.intro @kp53_1 (And.intro @sq49 (And.intro @ent42 (And.intro @ci42 (And.intro @cr42 (And.intro @ak42 (And.intro @agg4 (And.intro @kind4 (And.intro @sl4 (@str4))))))))))))))
def en54 := And.intro @ent54 (And.intro @res54 (And.intro @rk54 (And.intro @ow54 (And.intro @kp54_0 (And.intro @kp54_1 (And.intro @sq49 (And.intro @ent42 (And.intro @ci42 (And.intro @cr42 (And.intro @ak42 (And.intro @agg4 (And.intro @kind4 (And.intro @sl4 (@str4))))))))))))))
def en55 := And.intro @ent55 (And.intro @res55 (And.intro @rk55 (And.intro @ow55 (And.intro @kp55_0 (And.intro @kp55_1 (And.intro @sq49 (And.intro @agg3 (And.intro @kind3 (And.intro @cv21_3 (And.intro @cv35_3 (And.intro @sl3 (@str3))))))))))))
def en56 := And.intro @ent56 (And.intro @res56 (And.intro @rk56 (And.intro @ow56 (And.intro @kp56_0 (And.intro @kp56_1 (And.intro @kp56_2 (And.intro @kp56_3 (And.intro @kp56_4 (And.intro @kp56_5 (And.intro @kp56_6 (And.intro @kp56_7 (And.intro @kp56_8 (And.intro @kp56_9 (And.intro @kp56_10 (And.intro @kp56_11 (And.intro @kp56_12 (And.intro @kp56_13 (And.intro @kp56_14 (And.intro @kp56_15 (And.intro @kp56_16 (And.intro @kp56_17 (And.intro @kp56_18 (And.intro @kp56_19 (And.intro @kp56_20 (And.intro @kp56_21 (And.intro @kp56_22 (And.intro @kp56_23 (And.intro @hd56_6 (And.intro @fl56_23 (And.intro @dr56_23 (And.intro @sq49 (And.intro @ent60 (And.intro @ci60 (And.intro @cr60 (And.intro @ak60 (And.intro @agg21 (And.intro @agg3 (And.intro @agg5 (And.intro @agg9 (And.intro @agg91 (And.intro @agg96 (And.intro @arr9 (And.intro @arr96 (And.intro @arrz96 (And.intro @fld96_0 (And.intro @fld96_1 (And.intro @fld96_2 (And.intro @fld96_3 (And.intro @kind21 (And.intro @cv21_3 (And.intro @cv5_21 (And.intro @kind5 (And.intro @kind9 (And.intro @cv99_9 (And.intro @kind91 (And.intro @pl96 (And.intro @sl21 (And.intro @sl5 (And.intro @sl9 (And.intro @sx9 (And.intro @sl91 (And.intro @ms91 (And.intro @br91 (And.intro @ap91_91 (And.intro @str21 (And.intro @str5 (And.intro @str9 (And.intro @str91 (And.intro @sz21 (And.intro @st21 (And.intro @sz3 (And.intro @st3 (And.intro @sz5 (And.intro @st5 (And.intro @sz96 (And.intro @st96 (And.intro @zero21 (And.intro @zero96 (@bd96)))))))))))))))))))))))))))))))))))))))))))))))))))))))))))))))))))))))))))))))
def en57 := And.intro @ent57 (And.intro @res57 (And.intro @rk57 (And.intro @ow57 (And.intro @kp57_0 (And.intro @kp57_1 (And.intro @kp57_2 (And.intro @kp57_3 (And.intro @kp57_4 (And.intro @sq49 (And.intro @ent56 (And.intro @ci56 (And.intro @cr56 (And.intro @ak56 (And.intro @agg21 (And.intro @agg9 (And.intro @agg91 (And.intro @kind21 (And.intro @cv21_3 (And.intro @cv5_21 (And.intro @kind9 (And.intro @cv99_9 (And.intro @kind91 (And.intro @sl9 (And.intro @sx9 (And.intro @sl91 (And.intro @ms91 (And.intro @br91 (And.intro @ap91_91 (And.intro @str9 (And.intro @str91 (And.intro @sz21 (And.intro @st21 (@zero21)))))))))))))))))))))))))))))))))
def ca50 := And.intro @ent50 (And.intro @ci50 (And.intro @cr50 (@ak50)))
def ca51 := And.intro @ent51 (And.intro @ci51 (And.intro @cr51 (@ak51)))
def ca52 := And.intro @ent52 (And.intro @ci52 (And.intro @cr52 (@ak52)))
def ca53 := And.intro @ent53 (And.intro @ci53 (And.intro @cr53 (@ak53)))
def ca54 := And.intro @ent54 (And.intro @ci54 (And.intro @cr54 (@ak54)))
def tyaa := And.intro @agg21 (And.intro @agg22 (And.intro @agg23 (And.intro @agg25 (And.intro @agg28 (And.intro @agg3 (And.intro @agg30 (And.intro @agg35 (And.intro @agg37 (And.intro @agg39 (And.intro @agg4 (And.intro @agg43 (And.intro @agg46 (And.intro @agg5 (And.intro @agg55 (And.intro @agg56 (And.intro @agg58 (And.intro @agg69 (And.intro @agg70 (And.intro @agg72 (And.intro @agg9 (And.intro @agg90 (And.intro @agg91 (And.intro @agg96 (@agg99))))))))))))))))))))))))
def tyab := And.intro @arr22 (And.intro @arr23 (And.intro @arr25 (And.intro @arr30 (And.intro @arr37 (And.intro @arr39 (And.intro @arr43 (And.intro @arr46 (And.intro @arr56 (And.intro @arr58 (And.intro @arr69 (And.intro @arr70 (And.intro @arr9 (And.intro @arr90 (And.intro @arr91 (And.intro @arr96 (And.intro @arr99 (And.intro @arrz25 (And.intro @arrz30 (And.intro @arrz39 (And.intro @arrz43 (And.intro @arrz58 (And.intro @arrz72 (And.intro @arrz90 (@arrz96))))))))))))))))))))))))
def tyac := And.intro @eqg25 (And.intro @eqg30 (And.intro @fld25_0 (And.intro @fld25_1 (And.intro @fld25_2 (And.intro @fld30_0 (And.intro @fld30_1 (And.intro @fld30_2 (And.intro @fld39_0 (And.intro @fld39_2 (And.intro @fld43_0 (And.intro @fld43_1 (And.intro @fld58_0 (And.intro @fld58_1 (And.intro @fld58_2 (And.intro @fld58_3 (And.intro @fld58_4 (And.intro @fld58_5 (And.intro @fld72_0 (And.intro @fld72_1 (And.intro @fld96_0 (And.intro @fld96_1 (And.intro @fld96_2 (And.intro @fld96_3 (@kind21))))))))))))))))))))))))
def tyad := And.intro @cv21_3 (And.intro @cv5_21 (And.intro @kind22 (And.intro @kind23 (And.intro @kind25 (And.intro @kind3 (And.intro @cv35_3 (And.intro @kind35 (And.intro @kind37 (And.intro @kind39 (And.intro @kind4 (And.intro @kind43 (And.intro @kind46 (And.intro @kind5 (And.intro @kind55 (And.intro @kind56 (And.intro @kind69 (And.intro @kind70 (And.intro @kind72 (And.intro @kind9 (And.intro @cv99_9 (And.intro @kind90 (And.intro @kind91 (And.intro @kind99 (@lv25))))))))))))))))))))))))
def tyae := And.intro @lv30 (And.intro @mp80 (And.intro @pl25 (And.intro @pl30 (And.intro @pl39 (And.intro @pl43 (And.intro @pl58 (And.intro @pl72 (And.intro @pl96 (And.intro @sl21 (And.intro @sl22 (And.intro @ms22 (And.intro @br22 (And.intro @ap22_22 (And.intro @sl23 (@ms23)))))))))))))))
def tyaf := And.intro @br23 (And.intro @ap23_23 (And.intro @sl25 (And.intro @sl3 (And.intro @sl35 (And.intro @sl37 (@ms37))))))
def tyag := And.intro @br37 (And.intro @sl4 (And.intro @sl43 (And.intro @sl46 (And.intro @ms46 (And.intro @br46 (And.intro @sx46 (And.intro @sw46 (And.intro @ap46_46 (@sl5)))))))))
def tyah := And.intro @sl55 (And.intro @sl56 (And.intro @sl69 (And.intro @ms69 (And.intro @br69 (@sl70)))))
def tyai := And.intro @sl72 (And.intro @sl9 (And.intro @sx9 (And.intro @sl90 (And.intro @sl91 (And.intro @ms91 (@br91))))))
def tyaj := And.intro @ap91_91 (And.intro @sl99 (And.intro @ms99 (And.intro @br99 (And.intro @ap99_99 (And.intro @str21 (And.intro @str22 (And.intro @str23 (And.intro @str25 (And.intro @str3 (And.intro @str35 (And.intro @str37 (And.intro @str4 (And.intro @str43 (And.intro @str46 (And.intro @str5 (And.intro @str55 (And.intro @str56 (And.intro @str69 (And.intro @str70 (@str72))))))))))))))))))))
def tyak := And.intro @str9 (And.intro @str90 (And.intro @str91 (And.intro @str99 (And.intro @sz21 (And.intro @st21 (And.intro @sz22 (And.intro @st22 (And.intro @sz23 (And.intro @st23 (And.intro @sz25 (And.intro @st25 (And.intro @sz28 (And.intro @st28 (And.intro @sz3 (And.intro @st3 (And.intro @sz30 (And.intro @st30 (And.intro @sz35 (And.intro @st35 (And.intro @sz39 (And.intro @st39 (And.intro @sz4 (And.intro @st4 (@sz43))))))))))))))))))))))))
def tyal := And.intro @st43 (And.intro @sz46 (And.intro @st46 (And.intro @sz5 (And.intro @st5 (And.intro @sz56 (And.intro @st56 (And.intro @sz58 (And.intro @st58 (And.intro @sz69 (And.intro @st69 (And.intro @sz70 (And.intro @st70 (And.intro @sz72 (And.intro @st72 (And.intro @sz9 (And.intro @st9 (And.intro @sz90 (And.intro @st90 (And.intro @sz96 (And.intro @st96 (And.intro @zero21 (And.intro @zero25 (@bd25)))))))))))))))))))))))
def tyam := And.intro @zero28 (And.intro @zero3 (And.intro @zero30 (And.intro @bd30 (And.intro @zero39 (And.intro @bd39 (And.intro @zero43 (And.intro @bd43 (And.intro @zero46 (And.intro @zero5 (And.intro @zero58 (And.intro @bd58 (And.intro @zero69 (And.intro @zero72 (And.intro @bd72 (And.intro @zero78 (And.intro @zero9 (@zero90)))))))))))))))))
def tyan := And.intro @bd90 (And.intro @zero96 (@bd96))
end Go.VI

set_option linter.unusedSimpArgs false
set_option linter.unusedVariables false
namespace Go.VI
open Go.Proofs
theorem run_insert {P : Program} {w : World} {r : Nat} {es : Array MapEntry} {clock : Nat} {mty kt et : TypeId} {n : Int} {val : Value} (hm : P.underlying mty = some (.map kt et)) (hk : P.underlying kt = some (.int .i64)) (hb : w.heap[r]? = some (.map es clock)) (hnew : Instr.findNow (.int .i64) (.int .i64 n) es.toList 0 = some none) :
    (Instr.mapUpdate mty (.map (some r)) (.int .i64 n) val).run P w = .ok () { w with heap := w.heap.setIfInBounds r (.map (es.push { key := .int .i64 n, val := val, born := clock }) (clock + 1)) } := by
  have hc : (Instr.checkKey false 10000 kt (.int .i64 n)).run P w = .ok () w := MapKept.run_checkKey (k := .int .i64 n) hk (by simp [MapKept.IsKey]) false 9999
  simp [Instr.mapUpdate, run_underlying hm, MapKept.run_getObj_map hb, hc, MapKept.run_findKey hk hnew, MapKept.run_setObj_map _ hb, Result.andThen]
theorem conc_map {E : Env} {I : Imm} {η : Eta} {H : Hp} {w : World} (hC : Conc E I η H w) (arr : Array MapEntry) (clock : Nat) (es : List (Int × Nat)) (h : arr.toList.map (fun e => (e.key, e.val)) = es.map fun p => (Value.int .i64 p.1, Value.func (.func p.2) #[] #[])) :
    After E I η H w H (w.alloc (.map arr clock)) fun I' η' => RelA I' η' H (.i (.mp es)) (.map (some w.heap.size)) := by
  obtain ⟨hn, ho⟩ := MapKept.heap_alloc w (.map arr clock)
  let I' : Imm := fun b => if b = w.heap.size then some (.map arr clock) else I b
  have hlt : ∀ b o, I b = some o → b < w.heap.size := fun b o hb => (Array.getElem?_eq_some_iff.1 (hC.imm b o hb)).1
  have hle : I.le I' := fun b o hb => by
    have := hlt b o hb
    show (if _ then _ else _) = _
    rw [if_neg (by omega)]; exact hb
  have hsz : (w.alloc (.map arr clock)).heap.size = w.heap.size + 1 := by show (w.heap.push _).size = _; simp
  have hm : Mono I η H I' η H := mono_of hle (Nat.le_refl _) fun c hc => CStep.same rfl rfl
  refine ⟨I', η, ⟨fun b o hb => ?_, fun c x hx => (hC.ch c x hx).mono rfl hle hm fun b n h => ho b (hC.sep _ _ _ h).2.1, hC.inj, fun c b n hh => ?_, fun g cells hg => (hC.glob g cells hg).mono hle⟩, ⟨rfl, rfl, rfl, ?_, fun b hb _ => ho b hb, hle, fun b hb => ?_, fun c b n hh => .inr ⟨_, _, hh⟩⟩, hm, .i _ _ (.mp es _ arr clock (if_pos rfl) h)⟩
  · by_cases he : b = w.heap.size
    · subst he
      have hb' : (if w.heap.size = w.heap.size then some (Obj.map arr clock) else I w.heap.size) = some o := hb
      rw [if_pos rfl] at hb'
      rw [hn]; exact hb'
    · have hb' : (if b = w.heap.size then some (Obj.map arr clock) else I b) = some o := hb
      rw [if_neg he] at hb'
      rw [ho b (hlt b o hb')]; exact hC.imm b o hb'
  · obtain ⟨h1, h2, h3⟩ := hC.sep _ _ _ hh
    refine ⟨?_, by rw [hsz]; omega, h3⟩
    show (if _ then _ else _) = _
    rw [if_neg (by omega)]; exact h1
  · rw [hsz]; omega
  · by_cases he : b = w.heap.size
    · exact .inr (.inl (by omega))
    · have hb' : (if b = w.heap.size then some (Obj.map arr clock) else I b) ≠ none := hb
      rw [if_neg he] at hb'
      exact .inl hb'
theorem run_insert' {P : Program} {w : World} {es : Array MapEntry} {clock : Nat} {mty kt et : TypeId} {n : Int} {val : Value} (hm : P.underlying mty = some (.map kt et)) (hk : P.underlying kt = some (.int .i64)) (hnew : Instr.findNow (.int .i64) (.int .i64 n) es.toList 0 = some none) :
    (Instr.mapUpdate mty (.map (some w.heap.size)) (.int .i64 n) val).run P (w.alloc (.map es clock)) = .ok () (w.alloc (.map (es.push { key := .int .i64 n, val := val, born := clock }) (clock + 1))) := by
  rw [run_insert hm hk (MapKept.heap_alloc w _).1 hnew]
  congr 1
  show World.mk _ _ _ _ _ = World.mk _ _ _ _ _
  congr 1
  show (w.heap.push _).setIfInBounds w.heap.size _ = w.heap.push _
  apply Array.ext
  · simp
  · intro i h1 h2
    simp only [Array.size_setIfInBounds, Array.size_push] at h1
    by_cases hi : w.heap.size = i
    · subst hi; simp
    · rw [Array.getElem_setIfInBounds_ne (by simpa using h1) hi, Array.getElem_push_lt (by omega), Array.getElem_push_lt (by omega)]
theorem ext_map {E : Env} {f : FuncId} {es : List (Int × Nat)} (hc : ∀ w : World, Calls E.P f #[] w fun e w' => e = .returned (.map (some w.heap.size)) ∧ ∃ arr clock, w' = w.alloc (.map arr clock) ∧ arr.toList.map (fun e => (e.key, e.val)) = es.map fun p => (Value.int .i64 p.1, Value.func (.func p.2) #[] #[])) : Ext1 E f (extMap es) := by
  intro args H r H' hr I η w vs hC hA
  unfold extMap at hr
  split at hr
  · cases hr
    obtain ⟨hs, _⟩ := hA
    obtain rfl : vs = #[] := Array.eq_empty_of_size_eq_zero (by simpa using hs)
    refine (hc w).mono ?_
    rintro e w' ⟨rfl, arr, clock, rfl, h⟩
    exact ⟨_, rfl, conc_map hC arr clock es h⟩
  · cases hr
end Go.VI

set_option linter.unusedSimpArgs false
set_option linter.unusedVariables false
namespace Go.VI
open Go.Proofs
def ent (n : Int) (f b : Nat) : MapEntry := { key := .int .i64 n, val := .func (.func f) #[] #[], born := b }
theorem op_calls (w : World) : Calls Tryd.prog 38 #[] w fun e w' => e = .returned (.map (some w.heap.size)) ∧ ∃ arr clock, w' = w.alloc (.map arr clock) ∧ arr.toList.map (fun e => (e.key, e.val)) = [(8, 50), (9, 51), (10, 52), (11, 53), (12, 54)].map fun p => (Value.int .i64 p.1, Value.func (.func p.2) #[] #[]) := by
  have hm : Tryd.prog.underlying 80 = some (.map 3 78) := by kernel_rfl
  have hk : Tryd.prog.underlying 3 = some (.int .i64) := by kernel_rfl
  have h0 : (Instr.makeMap 80 none).run Tryd.prog w = .ok (.map (some w.heap.size)) (w.alloc (.map #[] 0)) := rfl
  have h1 : (Instr.mapUpdate 80 (.map (some w.heap.size)) (.int .i64 8) (.func (.func 50) #[] #[])).run Tryd.prog (w.alloc (.map #[] 0)) = .ok () (w.alloc (.map #[ent 8 50 0] 1)) := run_insert' hm hk rfl
  have h2 : (Instr.mapUpdate 80 (.map (some w.heap.size)) (.int .i64 9) (.func (.func 51) #[] #[])).run Tryd.prog (w.alloc (.map #[ent 8 50 0] 1)) = .ok () (w.alloc (.map #[ent 8 50 0, ent 9 51 1] 2)) := run_insert' hm hk rfl
  have h3 : (Instr.mapUpdate 80 (.map (some w.heap.size)) (.int .i64 10) (.func (.func 52) #[] #[])).run Tryd.prog (w.alloc (.map #[ent 8 50 0, ent 9 51 1] 2)) = .ok () (w.alloc (.map #[ent 8 50 0, ent 9 51 1, ent 10 52 2] 3)) := run_insert' hm hk rfl
  have h4 : (Instr.mapUpdate 80 (.map (some w.heap.size)) (.int .i64 11) (.func (.func 53) #[] #[])).run Tryd.prog (w.alloc (.map #[ent 8 50 0, ent 9 51 1, ent 10 52 2] 3)) = .ok () (w.alloc (.map #[ent 8 50 0, ent 9 51 1, ent 10 52 2, ent 11 53 3] 4)) := run_insert' hm hk rfl
  have h5 : (Instr.mapUpdate 80 (.map (some w.heap.size)) (.int .i64 12) (.func (.func 54) #[] #[])).run Tryd.prog (w.alloc (.map #[ent 8 50 0, ent 9 51 1, ent 10 52 2, ent 11 53 3] 4)) = .ok () (w.alloc (.map #[ent 8 50 0, ent 9 51 1, ent 10 52 2, ent 11 53 3, ent 12 54 4] 5)) := run_insert' hm hk rfl
  go_enter Tryd.func38, Tryd.ntmps38
  go_wp2
  all_goals go_ret
  all_goals exact ⟨rfl, _, _, rfl, rfl⟩
theorem extOK : ExtOK E := by
  intro f h hf
  rcases E_extI f h hf with ⟨rfl, rfl⟩ | h2
  · exact ext_map (E := E) op_calls
  · exact h2.elim
end Go.VI

namespace Go.VI
open Go.Proofs
set_option maxRecDepth 100000
set_option linter.unusedSimpArgs false
set_option linter.unusedVariables false
set_option maxHeartbeats 4000000
def i64 (n : Int) : AV := .i (.v (.int .i64 n))
def mcS (row : Int) (g : IV) (c w r : Int) (st : List Int) : List AV := i64 row :: .i g :: i64 c :: i64 w :: i64 r :: st.map i64
def mc (row : Int) (g : IV) (c w r : Int) (st : List Int) (d : Int) (f : Bool) : List AV := mcS row g c w r st ++ [.i (.v (.int .i64 d)), .i (.v (.bool f))]
section
variable {row : Int} {g : IV} {c w r : Int} {st : List Int} {d : Int} {f : Bool}
theorem mcS_len (h : st.length = 16) : (mcS row g c w r st).length = 21 := by simp [mcS, h]
theorem mc_len (h : st.length = 16) : (mc row g c w r st d f).length = 23 := by rw [mc, List.length_append, mcS_len h]; rfl
theorem mc_0 : (mc row g c w r st d f)[0]? = some (.i (.v (.int .i64 row))) := rfl
theorem mc_1 : (mc row g c w r st d f)[1]? = some (.i g) := rfl
theorem mc_2 : (mc row g c w r st d f)[2]? = some (.i (.v (.int .i64 c))) := rfl
theorem mc_3 : (mc row g c w r st d f)[3]? = some (.i (.v (.int .i64 w))) := rfl
theorem mc_st (h : st.length = 16) {k : Nat} (hk : k < 16) : (mc row g c w r st d f)[5 + k]? = some (.i (.v (.int .i64 (st.getD k 0)))) := by
  rw [mc, List.getElem?_append_left (by rw [mcS_len h]; omega), mcS, show 5 + k = k + 1 + 1 + 1 + 1 + 1 from by omega]
  simp only [List.getElem?_cons_succ, List.getElem?_map, List.getD_eq_getElem?_getD]
  rw [List.getElem?_eq_getElem (by omega)]; rfl
theorem mc_21 (h : st.length = 16) : (mc row g c w r st d f)[21]? = some (.i (.v (.int .i64 d))) := by
  rw [mc, List.getElem?_append_right (by rw [mcS_len h]; exact Nat.le_refl _), mcS_len h]; rfl
theorem mc_22 (h : st.length = 16) : (mc row g c w r st d f)[22]? = some (.i (.v (.bool f))) := by
  rw [mc, List.getElem?_append_right (by rw [mcS_len h]; omega), mcS_len h]; rfl
theorem mc_put21 (h : st.length = 16) (x : Int) : List.take 21 (mc row g c w r st d f) ++ [.i (.v (.int .i64 x))] ++ List.drop 22 (mc row g c w r st d f) = mc row g c w r st x f := by
  have h1 := mcS_len (row := row) (g := g) (c := c) (w := w) (r := r) h
  unfold mc
  generalize mcS row g c w r st = l at *
  rw [← h1, List.take_left', List.drop_append]
  · simp
    rw [List.drop_eq_nil_of_le (by omega), h1]; rfl
  · rfl
theorem mc_put22 (h : st.length = 16) (x : Bool) : List.take 22 (mc row g c w r st d f) ++ [.i (.v (.bool x))] ++ List.drop 23 (mc row g c w r st d f) = mc row g c w r st d x := by
  have h1 := mcS_len (row := row) (g := g) (c := c) (w := w) (r := r) h
  unfold mc
  generalize mcS row g c w r st = l at *
  rw [show 22 = l.length + 1 from by omega, show 23 = l.length + 2 from by omega, List.take_append, List.drop_append]
  simp
  rw [List.take_of_length_le (by omega), List.drop_eq_nil_of_le (by omega)]
theorem mc_put (h : st.length = 16) {k : Nat} (hk : k < 16) (x : Int) : List.take (5 + k) (mc row g c w r st d f) ++ [.i (.v (.int .i64 x))] ++ List.drop (5 + k + 1) (mc row g c w r st d f) = mc row g c w r (st.set k x) d f := by
  have hs : (mc row g c w r st d f).set (5 + k) (.i (.v (.int .i64 x))) = mc row g c w r (st.set k x) d f := by
    rw [mc, List.set_append_left _ _ (by rw [mcS_len h]; omega), mcS, show 5 + k = k + 1 + 1 + 1 + 1 + 1 from by omega]
    simp only [List.set_cons_succ, mc, mcS, List.map_set]
    rfl
  rw [← hs, List.set_eq_take_append_cons_drop, if_pos (by rw [mc_len h]; omega)]
  simp
theorem mc_refs (hg : True) : refsL (mc row g c w r st d f) = [] := by
  have : ∀ (l : List Int) (t : List AV), refsL t = [] → refsL (l.map i64 ++ t) = [] := fun l t ht => by
    induction l with
    | nil => exact ht
    | cons a l ih => rw [List.map_cons, List.cons_append, refsL, ih]; rfl
  show refsL (st.map i64 ++ _) = []
  exact this st _ rfl
theorem mc_ren (ρ : Nat → Option Nat) : renL ρ (mc row g c w r st d f) = mc row g c w r st d f := (refs_ren ρ).2 _ (mc_refs trivial)
end
end Go.VI

namespace Go.VI
open Go.Proofs
set_option maxRecDepth 100000
set_option linter.unusedSimpArgs false
set_option linter.unusedVariables false
set_option maxHeartbeats 4000000
theorem mc_cn (B : Nat) (H : Hp) (row : Int) (g : IV) (c w r : Int) (st : List Int) (d : Int) (f : Bool) : cnL B H (mc row g c w r st d f) = mc row g c w r st d f := by
  have : ∀ (l : List Int) (t : List AV), cnL B H t = t → cnL B H (l.map i64 ++ t) = l.map i64 ++ t := fun l t ht => by
    induction l with
    | nil => exact ht
    | cons a l ih => rw [List.map_cons, List.cons_append, cnL, ih]; rfl
  have h := this st [.i (.v (.int .i64 d)), .i (.v (.bool f))] rfl
  show cnL B H (i64 row :: .i g :: i64 c :: i64 w :: i64 r :: (st.map i64 ++ [.i (.v (.int .i64 d)), .i (.v (.bool f))])) = _
  simp only [cnL, h]
  rfl
def limS (n : Int) : Int := max (-999999999) (min n 999999999)
theorem c55 (n : Int) (h : -9223372036854775808 ≤ n ∧ n ≤ 9223372036854775807) : ∃ L, callT E 55 [.i (.v (.int .i64 n))] [] = some (.i (.v (.int .i64 (limS n))), L) := by
  unfold limS
  rw [callT_eq Tryd.func55 rfl fok55 (by simp [Tryd.ntmps55])]
  simp (disch := first | omega | (simp only [vlen]; omega)) only [vall, List.take_of_length_le, gB, gcW, gcR, posIn, renA, renL, Chunk.ren, Chunk.refs, evOpD, touchD, stepC, isFresh, nFresh, freshOf, mkR, hole, evL, evH, opd, get, putD, ofVal, cellOf, loadE, behind, lenE, idxAddrE, idxE, lookE, lookM, addPtr, intE, strE, unE, convE, AV.int, AV.bool, AV.str, ivs, take, frameOf, firstRegion, refsA, refsL, one, cellsA, floatOk, apartT, List.map, if_true, if_false, E_P, E_glob0, E_glob1, reduceCtorEq, beq_self_eq_true, ↓reduceIte, Nat.reduceEqDiff, cond_true, cond_false, Nat.reduceAdd, Nat.reduceSub, Nat.reduceMul, Nat.reduceLT, Nat.reduceLeDiff, Int.reduceToNat, Int.reduceLT, Int.reduceLE, Option.getD, Int.reduceMul, Int.reduceAdd, List.drop, List.take, Nat.reduceBEq, List.isEmpty, Int.reduceEq, Int.reduceNe, Int.reduceNeg, Int.reduceGT, Int.reduceGE, beq_true, beq_false, UInt8.reduceToNat, eqE, eq_self, foldE, maxE, minE, fillA, over, chop, List.replicate, leavesOk, leafOk, cellsEq, cellEq, E_byref, en55]
  exact ⟨_, rfl⟩
theorem ik55 (n : Int) (h : -9223372036854775808 ≤ n ∧ n ≤ 9223372036854775807) (H : Hp) : isoK E (callT E) 55 [.i (.v (.int .i64 n))] H = some (.i (.v (.int .i64 (limS n))), H) := isoK_val rfl rfl rfl (c55 n h)
theorem c42 (b : Bool) : ∃ L, callT E 42 [.i (.v (.bool b))] [] = some (.i (.v (.int .i64 (if b = true then 1 else 0))), L) := by
  cases b
  · rw [callT_eq Tryd.func42 rfl fok42 (by simp [Tryd.ntmps42])]
    simp (disch := first | omega | (simp only [vlen]; omega)) only [vall, List.take_of_length_le, gB, gcW, gcR, posIn, renA, renL, Chunk.ren, Chunk.refs, evOpD, touchD, stepC, isFresh, nFresh, freshOf, mkR, hole, evL, evH, opd, get, putD, ofVal, cellOf, loadE, behind, lenE, idxAddrE, idxE, lookE, lookM, addPtr, intE, strE, unE, convE, AV.int, AV.bool, AV.str, ivs, take, frameOf, firstRegion, refsA, refsL, one, cellsA, floatOk, apartT, List.map, if_true, if_false, E_P, E_glob0, E_glob1, reduceCtorEq, beq_self_eq_true, ↓reduceIte, Nat.reduceEqDiff, cond_true, cond_false, Nat.reduceAdd, Nat.reduceSub, Nat.reduceMul, Nat.reduceLT, Nat.reduceLeDiff, Int.reduceToNat, Int.reduceLT, Int.reduceLE, Option.getD, Int.reduceMul, Int.reduceAdd, List.drop, List.take, Nat.reduceBEq, List.isEmpty, Int.reduceEq, Int.reduceNe, Int.reduceNeg, Int.reduceGT, Int.reduceGE, beq_true, beq_false, UInt8.reduceToNat, eqE, eq_self, foldE, maxE, minE, fillA, over, chop, List.replicate, leavesOk, leafOk, cellsEq, cellEq, E_byref, en42]
    exact ⟨_, rfl⟩
  · rw [callT_eq Tryd.func42 rfl fok42 (by simp [Tryd.ntmps42])]
    simp (disch := first | omega | (simp only [vlen]; omega)) only [vall, List.take_of_length_le, gB, gcW, gcR, posIn, renA, renL, Chunk.ren, Chunk.refs, evOpD, touchD, stepC, isFresh, nFresh, freshOf, mkR, hole, evL, evH, opd, get, putD, ofVal, cellOf, loadE, behind, lenE, idxAddrE, idxE, lookE, lookM, addPtr, intE, strE, unE, convE, AV.int, AV.bool, AV.str, ivs, take, frameOf, firstRegion, refsA, refsL, one, cellsA, floatOk, apartT, List.map, if_true, if_false, E_P, E_glob0, E_glob1, reduceCtorEq, beq_self_eq_true, ↓reduceIte, Nat.reduceEqDiff, cond_true, cond_false, Nat.reduceAdd, Nat.reduceSub, Nat.reduceMul, Nat.reduceLT, Nat.reduceLeDiff, Int.reduceToNat, Int.reduceLT, Int.reduceLE, Option.getD, Int.reduceMul, Int.reduceAdd, List.drop, List.take, Nat.reduceBEq, List.isEmpty, Int.reduceEq, Int.reduceNe, Int.reduceNeg, Int.reduceGT, Int.reduceGE, beq_true, beq_false, UInt8.reduceToNat, eqE, eq_self, foldE, maxE, minE, fillA, over, chop, List.replicate, leavesOk, leafOk, cellsEq, cellEq, E_byref, en42]
    exact ⟨_, rfl⟩
theorem ik42 (b : Bool) (H : Hp) : isoK E (callT E) 42 [.i (.v (.bool b))] H = some (.i (.v (.int .i64 (if b = true then 1 else 0))), H) := isoK_val rfl rfl rfl (c42 b)
theorem c24 (row : Int) (g : IV) (c w r : Int) (st : List Int) (d : Nat) (f : Bool) (hs : st.length = 16) (hd : d ≤ 16) :
    ∃ L, callT E 24 [.ptr 0 0 0 0] [.box (mc row g c w r st d f)] = some (.i (.v (.int .i64 (if d = 0 then 0 else st.getD (d - 1) 0))), .box (mc row g c w r st ((d - 1 : Nat)) (f || decide (d = 0))) :: L) := by
  have h21 := mc_21 (row := row) (g := g) (c := c) (w := w) (r := r) (d := d) (f := f) hs
  have hl := mc_len (row := row) (g := g) (c := c) (w := w) (r := r) (d := d) (f := f) hs
  by_cases h0 : d = 0
  · subst h0
    have hp := mc_put22 (row := row) (g := g) (c := c) (w := w) (r := r) (d := (0 : Nat)) (f := f) hs true
    rw [if_pos rfl, decide_eq_true rfl, Bool.or_true]
    rw [show ((0 : Nat) : Int) = 0 from rfl] at h21 hp hl
    rw [callT_eq Tryd.func24 rfl fok24 (by simp [Tryd.ntmps24])]
    simp (disch := first | omega | (simp only [vlen, hl]; omega)) only [vall, List.take_of_length_le, gB, gcW, gcR, posIn, renA, renL, Chunk.ren, Chunk.refs, evOpD, touchD, stepC, isFresh, nFresh, freshOf, mkR, hole, evL, evH, opd, get, putD, ofVal, cellOf, loadE, behind, lenE, idxAddrE, idxE, lookE, lookM, addPtr, intE, strE, unE, convE, AV.int, AV.bool, AV.str, ivs, take, frameOf, firstRegion, refsA, refsL, one, cellsA, floatOk, apartT, List.map, if_true, if_false, E_P, E_glob0, E_glob1, reduceCtorEq, beq_self_eq_true, ↓reduceIte, Nat.reduceEqDiff, cond_true, cond_false, Nat.reduceAdd, Nat.reduceSub, Nat.reduceMul, Nat.reduceLT, Nat.reduceLeDiff, Int.reduceToNat, Int.reduceLT, Int.reduceLE, Option.getD, Int.reduceMul, Int.reduceAdd, List.drop, List.take, Nat.reduceBEq, List.isEmpty, Int.reduceEq, Int.reduceNe, Int.reduceNeg, Int.reduceGT, Int.reduceGE, beq_true, beq_false, UInt8.reduceToNat, eqE, eq_self, foldE, maxE, minE, fillA, over, chop, List.replicate, leavesOk, leafOk, cellsEq, cellEq, E_byref, en24, h21, hp, hl, mc_cn]
    exact ⟨_, rfl⟩
  · obtain ⟨e, rfl⟩ : ∃ e, d = e + 1 := ⟨d - 1, by omega⟩
    have hp := mc_put21 (row := row) (g := g) (c := c) (w := w) (r := r) (d := ((e + 1 : Nat))) (f := f) hs e
    have h21' := mc_21 (row := row) (g := g) (c := c) (w := w) (r := r) (d := e) (f := f) hs
    have hl' := mc_len (row := row) (g := g) (c := c) (w := w) (r := r) (d := e) (f := f) hs
    have hst := mc_st (row := row) (g := g) (c := c) (w := w) (r := r) (d := e) (f := f) hs (k := e) (by omega)
    rw [if_neg h0, decide_eq_false h0, Bool.or_false, Nat.add_sub_cancel]
    rw [callT_eq Tryd.func24 rfl fok24 (by simp [Tryd.ntmps24])]
    simp (disch := first | omega | (simp only [vlen, hl]; omega)) only [vall, List.take_of_length_le, gB, gcW, gcR, posIn, renA, renL, Chunk.ren, Chunk.refs, evOpD, touchD, stepC, isFresh, nFresh, freshOf, mkR, hole, evL, evH, opd, get, putD, ofVal, cellOf, loadE, behind, lenE, idxAddrE, idxE, lookE, lookM, addPtr, intE, strE, unE, convE, AV.int, AV.bool, AV.str, ivs, take, frameOf, firstRegion, refsA, refsL, one, cellsA, floatOk, apartT, List.map, if_true, if_false, E_P, E_glob0, E_glob1, reduceCtorEq, beq_self_eq_true, ↓reduceIte, Nat.reduceEqDiff, cond_true, cond_false, Nat.reduceAdd, Nat.reduceSub, Nat.reduceMul, Nat.reduceLT, Nat.reduceLeDiff, Int.reduceToNat, Int.reduceLT, Int.reduceLE, Option.getD, Int.reduceMul, Int.reduceAdd, List.drop, List.take, Nat.reduceBEq, List.isEmpty, Int.reduceEq, Int.reduceNe, Int.reduceNeg, Int.reduceGT, Int.reduceGE, beq_true, beq_false, UInt8.reduceToNat, eqE, eq_self, foldE, maxE, minE, fillA, over, chop, List.replicate, leavesOk, leafOk, cellsEq, cellEq, E_byref, en24, h21, h21', hp, hl, hl', hst, mc_cn, Nat.mul_one, show ((e + 1 : Nat) : Int) - 1 = e from by omega]
    exact ⟨_, rfl⟩
theorem c39 (row : Int) (g : IV) (c w r : Int) (st : List Int) (d : Nat) (f : Bool) (n : Int) (hn : -9223372036854775808 ≤ n ∧ n ≤ 9223372036854775807) (hs : st.length = 16) (hd : d ≤ 16) :
    ∃ L, callT E 39 [.ptr 0 0 0 0, .i (.v (.int .i64 n))] [.box (mc row g c w r st d f)] = some (.tup [], .box (if d = 16 then mc row g c w r st (16 : Nat) true else mc row g c w r (st.set d (limS n)) ((d + 1 : Nat)) f) :: L) := by
  have h21 := mc_21 (row := row) (g := g) (c := c) (w := w) (r := r) (d := d) (f := f) hs
  have hl := mc_len (row := row) (g := g) (c := c) (w := w) (r := r) (d := d) (f := f) hs
  have hli := fun H => ik55 n hn H
  by_cases h0 : d = 16
  · subst h0
    have hp := mc_put22 (row := row) (g := g) (c := c) (w := w) (r := r) (d := (16 : Nat)) (f := f) hs true
    rw [if_pos rfl]
    rw [show ((16 : Nat) : Int) = 16 from rfl] at h21 hp hl ⊢
    rw [callT_eq Tryd.func39 rfl fok39 (by simp [Tryd.ntmps39])]
    simp (disch := first | omega | (simp only [vlen, hl]; omega)) only [vall, List.take_of_length_le, gB, gcW, gcR, posIn, renA, renL, Chunk.ren, Chunk.refs, evOpD, touchD, stepC, isFresh, nFresh, freshOf, mkR, hole, evL, evH, opd, get, putD, ofVal, cellOf, loadE, behind, lenE, idxAddrE, idxE, lookE, lookM, addPtr, intE, strE, unE, convE, AV.int, AV.bool, AV.str, ivs, take, frameOf, firstRegion, refsA, refsL, one, cellsA, floatOk, apartT, List.map, if_true, if_false, E_P, E_glob0, E_glob1, reduceCtorEq, beq_self_eq_true, ↓reduceIte, Nat.reduceEqDiff, cond_true, cond_false, Nat.reduceAdd, Nat.reduceSub, Nat.reduceMul, Nat.reduceLT, Nat.reduceLeDiff, Int.reduceToNat, Int.reduceLT, Int.reduceLE, Option.getD, Int.reduceMul, Int.reduceAdd, List.drop, List.take, Nat.reduceBEq, List.isEmpty, Int.reduceEq, Int.reduceNe, Int.reduceNeg, Int.reduceGT, Int.reduceGE, beq_true, beq_false, UInt8.reduceToNat, eqE, eq_self, foldE, maxE, minE, fillA, over, chop, List.replicate, leavesOk, leafOk, cellsEq, cellEq, E_byref, en39, h21, hp, hl, mc_cn]
    exact ⟨_, rfl⟩
  · rw [if_neg h0]
    generalize limS n = x at *
    have hs2 : (st.set d x).length = 16 := by rw [List.length_set]; exact hs
    have hp := mc_put (row := row) (g := g) (c := c) (w := w) (r := r) (d := d) (f := f) hs (k := d) (by omega) x
    have hp2 := mc_put21 (row := row) (g := g) (c := c) (w := w) (r := r) (d := d) (f := f) hs2 ((d + 1 : Nat))
    have h21' := mc_21 (row := row) (g := g) (c := c) (w := w) (r := r) (d := d) (f := f) hs2
    have hl' := mc_len (row := row) (g := g) (c := c) (w := w) (r := r) (d := d) (f := f) hs2
    rw [callT_eq Tryd.func39 rfl fok39 (by simp [Tryd.ntmps39])]
    simp (disch := first | omega | (simp only [vlen, hl]; omega)) only [vall, List.take_of_length_le, gB, gcW, gcR, posIn, renA, renL, Chunk.ren, Chunk.refs, evOpD, touchD, stepC, isFresh, nFresh, freshOf, mkR, hole, evL, evH, opd, get, putD, ofVal, cellOf, loadE, behind, lenE, idxAddrE, idxE, lookE, lookM, addPtr, intE, strE, unE, convE, AV.int, AV.bool, AV.str, ivs, take, frameOf, firstRegion, refsA, refsL, one, cellsA, floatOk, apartT, List.map, if_true, if_false, E_P, E_glob0, E_glob1, reduceCtorEq, beq_self_eq_true, ↓reduceIte, Nat.reduceEqDiff, cond_true, cond_false, Nat.reduceAdd, Nat.reduceSub, Nat.reduceMul, Nat.reduceLT, Nat.reduceLeDiff, Int.reduceToNat, Int.reduceLT, Int.reduceLE, Option.getD, Int.reduceMul, Int.reduceAdd, List.drop, List.take, Nat.reduceBEq, List.isEmpty, Int.reduceEq, Int.reduceNe, Int.reduceNeg, Int.reduceGT, Int.reduceGE, beq_true, beq_false, UInt8.reduceToNat, eqE, eq_self, foldE, maxE, minE, fillA, over, chop, List.replicate, leavesOk, leafOk, cellsEq, cellEq, E_byref, en39, h21, h21', hp, hp2, hl, hl', hli, mc_cn, Nat.mul_one, show ((d : Nat) : Int) + 1 = ((d + 1 : Nat) : Int) from rfl]
    exact ⟨_, rfl⟩
end Go.VI

namespace Go.VI
open Go.Proofs
set_option maxRecDepth 100000
set_option linter.unusedSimpArgs false
set_option linter.unusedVariables false
set_option maxHeartbeats 4000000
theorem isoK_mc {f : Nat} {args X X' : List AV} {r : AV} (he : E.ext f = none) (ha : refsL args = []) (hr : refsA r = []) (hX : refsL X = []) (hX' : refsL X' = [])
    (h : ∃ L, callT E f (.ptr 0 0 0 0 :: args) [.box X] = some (r, .box X' :: L)) (T : Hp) :
    isoK E (callT E) f (.ptr 0 0 0 0 :: args) (.box X :: T) = some (r, .box X' :: T) := by
  obtain ⟨L, h⟩ := h
  have ha2 : ∀ ρ, renL ρ args = args := fun ρ => (refs_ren ρ).2 args ha
  have hr2 : ∀ ρ, renA ρ r = r := fun ρ => (refs_ren ρ).1 r hr
  have hX2 : ∀ ρ, renL ρ X = X := fun ρ => (refs_ren ρ).2 X hX
  have hX2' : ∀ ρ, renL ρ X' = X' := fun ρ => (refs_ren ρ).2 X' hX'
  rw [isoK_R he]
  simp (disch := first | omega | (simp only [vlen]; omega)) only [vall, List.take_of_length_le, gB, gcW, gcR, posIn, renA, renL, Chunk.ren, Chunk.refs, evOpD, touchD, stepC, isFresh, nFresh, freshOf, mkR, hole, evL, evH, opd, get, putD, ofVal, cellOf, loadE, behind, lenE, idxAddrE, idxE, lookE, lookM, addPtr, intE, strE, unE, convE, AV.int, AV.bool, AV.str, ivs, take, frameOf, firstRegion, refsA, refsL, one, cellsA, floatOk, apartT, List.map, if_true, if_false, E_P, E_glob0, E_glob1, reduceCtorEq, beq_self_eq_true, ↓reduceIte, Nat.reduceEqDiff, cond_true, cond_false, Nat.reduceAdd, Nat.reduceSub, Nat.reduceMul, Nat.reduceLT, Nat.reduceLeDiff, Int.reduceToNat, Int.reduceLT, Int.reduceLE, Option.getD, Int.reduceMul, Int.reduceAdd, List.drop, List.take, Nat.reduceBEq, List.isEmpty, Int.reduceEq, Int.reduceNe, Int.reduceNeg, Int.reduceGT, Int.reduceGE, beq_true, beq_false, UInt8.reduceToNat, eqE, eq_self, foldE, maxE, minE, fillA, over, chop, List.replicate, leavesOk, leafOk, cellsEq, cellEq, E_byref, tyaa, tyab, tyac, tyad, tyae, tyaf, tyag, tyah, tyai, tyaj, tyak, tyal, tyam, tyan, bs22, bs23, bs37, bs46, bs69, bs91, bs99, isoL, h, isoB_some, isoF, backRen, setAll, List.take_succ_cons, List.take_zero, ha, ha2, hr, hr2, hX, hX', hX2, hX2']
theorem ik24 (row : Int) (g : IV) (c w r : Int) (st : List Int) (d : Nat) (f : Bool) (hs : st.length = 16) (hd : d ≤ 16) (T : Hp) :
    isoK E (callT E) 24 [.ptr 0 0 0 0] (.box (mc row g c w r st d f) :: T) = some (.i (.v (.int .i64 (if d = 0 then 0 else st.getD (d - 1) 0))), .box (mc row g c w r st ((d - 1 : Nat)) (f || decide (d = 0))) :: T) :=
  isoK_mc rfl rfl rfl (mc_refs trivial) (mc_refs trivial) (c24 row g c w r st d f hs hd) T
theorem ik39 (row : Int) (g : IV) (c w r : Int) (st : List Int) (d : Nat) (f : Bool) (n : Int) (hn : -9223372036854775808 ≤ n ∧ n ≤ 9223372036854775807) (hs : st.length = 16) (hd : d ≤ 16) (T : Hp) :
    isoK E (callT E) 39 [.ptr 0 0 0 0, .i (.v (.int .i64 n))] (.box (mc row g c w r st d f) :: T) = some (.tup [], .box (if d = 16 then mc row g c w r st (16 : Nat) true else mc row g c w r (st.set d (limS n)) ((d + 1 : Nat)) f) :: T) :=
  isoK_mc rfl rfl rfl (mc_refs trivial) (by split <;> exact mc_refs trivial) (c39 row g c w r st d f n hn hs hd) T
end Go.VI

namespace Go.VI
open Go.Proofs
set_option maxRecDepth 100000
set_option linter.unusedSimpArgs false
set_option linter.unusedVariables false
set_option maxHeartbeats 4000000
def pushM (row : Int) (g : IV) (c w r : Int) (st : List Int) (d : Nat) (f : Bool) (n : Int) : List AV := if d = 16 then mc row g c w r st (16 : Nat) true else mc row g c w r (st.set d (limS n)) ((d + 1 : Nat)) f
theorem pushM_refs {row : Int} {g : IV} {c w r : Int} {st : List Int} {d : Nat} {f : Bool} {n : Int} : refsL (pushM row g c w r st d f n) = [] := by unfold pushM; split <;> exact mc_refs trivial
theorem pushM_cn {row : Int} {g : IV} {c w r : Int} {st : List Int} {d : Nat} {f : Bool} {n : Int} (B : Nat) (H : Hp) : cnL B H (pushM row g c w r st d f n) = pushM row g c w r st d f n := by unfold pushM; split <;> exact mc_cn _ _ _ _ _ _ _ _ _ _
theorem c37_1 (row : Int) (rows : List (List IV)) (c w r : Int) (st : List Int) (d : Nat) (f : Bool) (arg : Int) (hb : (-9223372036854775808 ≤ arg ∧ arg ≤ 9223372036854775807) ∧ (-9223372036854775808 ≤ row ∧ row ≤ 9223372036854775807) ∧ (-9223372036854775808 ≤ c ∧ c ≤ 9223372036854775807) ∧ (-9223372036854775808 ≤ w ∧ w ≤ 9223372036854775807) ∧ rows.length ≤ 1000000) (hs : st.length = 16) (hd : d ≤ 16) :
    ∃ L, callT E 37 [.ptr 0 0 0 0, .agg [.i (.v (.int .i64 1)), .i (.v (.int .i64 arg))]] [.box (mc row (.sl 3 rows false) c w r st d f)] = some (.i (.v (.bool true)), .box (pushM row (.sl 3 rows false) c w r st d f arg) :: L) := by
  have hp := fun T => ik39 row (.sl 3 rows false) c w r st d f arg hb.1 hs hd T
  have hl := mc_len (row := row) (g := .sl 3 rows false) (c := c) (w := w) (r := r) (d := d) (f := f) hs
  rw [show (if d = 16 then mc row (.sl 3 rows false) c w r st (16 : Nat) true else mc row (.sl 3 rows false) c w r (st.set d (limS arg)) ((d + 1 : Nat)) f) = pushM row (.sl 3 rows false) c w r st d f arg from rfl] at hp
  have hcn := fun B H => pushM_cn (row := row) (g := .sl 3 rows false) (c := c) (w := w) (r := r) (st := st) (d := d) (f := f) (n := arg) B H
  generalize pushM row (.sl 3 rows false) c w r st d f arg = X at *
  rw [callT_eq Tryd.func37 rfl fok37 (by simp [Tryd.ntmps37])]
  simp (disch := first | omega | (simp only [vlen]; omega)) only [vall, List.take_of_length_le, gB, gcW, gcR, posIn, renA, renL, Chunk.ren, Chunk.refs, evOpD, touchD, stepC, isFresh, nFresh, freshOf, mkR, hole, evL, evH, opd, get, putD, ofVal, cellOf, loadE, behind, lenE, idxAddrE, idxE, lookE, lookM, addPtr, intE, strE, unE, convE, AV.int, AV.bool, AV.str, ivs, take, frameOf, firstRegion, refsA, refsL, one, cellsA, floatOk, apartT, List.map, if_true, if_false, E_P, E_glob0, E_glob1, reduceCtorEq, beq_self_eq_true, ↓reduceIte, Nat.reduceEqDiff, cond_true, cond_false, Nat.reduceAdd, Nat.reduceSub, Nat.reduceMul, Nat.reduceLT, Nat.reduceLeDiff, Int.reduceToNat, Int.reduceLT, Int.reduceLE, Option.getD, Int.reduceMul, Int.reduceAdd, List.drop, List.take, Nat.reduceBEq, List.isEmpty, Int.reduceEq, Int.reduceNe, Int.reduceNeg, Int.reduceGT, Int.reduceGE, beq_true, beq_false, UInt8.reduceToNat, eqE, eq_self, foldE, maxE, minE, fillA, over, chop, List.replicate, leavesOk, leafOk, cellsEq, cellEq, E_byref, en37, bs23, hp, hl, hcn, mc_cn, mc_0, mc_1, mc_2, mc_3]
  exact ⟨_, rfl⟩
theorem c37_2 (row : Int) (rows : List (List IV)) (c w r : Int) (st : List Int) (d : Nat) (f : Bool) (arg : Int) (hb : (-9223372036854775808 ≤ arg ∧ arg ≤ 9223372036854775807) ∧ (-9223372036854775808 ≤ row ∧ row ≤ 9223372036854775807) ∧ (-9223372036854775808 ≤ c ∧ c ≤ 9223372036854775807) ∧ (-9223372036854775808 ≤ w ∧ w ≤ 9223372036854775807) ∧ rows.length ≤ 1000000) (hs : st.length = 16) (hd : d ≤ 16) :
    ∃ L, callT E 37 [.ptr 0 0 0 0, .agg [.i (.v (.int .i64 2)), .i (.v (.int .i64 arg))]] [.box (mc row (.sl 3 rows false) c w r st d f)] = some (.i (.v (.bool true)), .box (pushM row (.sl 3 rows false) c w r st d f row) :: L) := by
  have hp := fun T => ik39 row (.sl 3 rows false) c w r st d f row hb.2.1 hs hd T
  have hl := mc_len (row := row) (g := .sl 3 rows false) (c := c) (w := w) (r := r) (d := d) (f := f) hs
  rw [show (if d = 16 then mc row (.sl 3 rows false) c w r st (16 : Nat) true else mc row (.sl 3 rows false) c w r (st.set d (limS row)) ((d + 1 : Nat)) f) = pushM row (.sl 3 rows false) c w r st d f row from rfl] at hp
  have hcn := fun B H => pushM_cn (row := row) (g := .sl 3 rows false) (c := c) (w := w) (r := r) (st := st) (d := d) (f := f) (n := row) B H
  generalize pushM row (.sl 3 rows false) c w r st d f row = X at *
  rw [callT_eq Tryd.func37 rfl fok37 (by simp [Tryd.ntmps37])]
  simp (disch := first | omega | (simp only [vlen]; omega)) only [vall, List.take_of_length_le, gB, gcW, gcR, posIn, renA, renL, Chunk.ren, Chunk.refs, evOpD, touchD, stepC, isFresh, nFresh, freshOf, mkR, hole, evL, evH, opd, get, putD, ofVal, cellOf, loadE, behind, lenE, idxAddrE, idxE, lookE, lookM, addPtr, intE, strE, unE, convE, AV.int, AV.bool, AV.str, ivs, take, frameOf, firstRegion, refsA, refsL, one, cellsA, floatOk, apartT, List.map, if_true, if_false, E_P, E_glob0, E_glob1, reduceCtorEq, beq_self_eq_true, ↓reduceIte, Nat.reduceEqDiff, cond_true, cond_false, Nat.reduceAdd, Nat.reduceSub, Nat.reduceMul, Nat.reduceLT, Nat.reduceLeDiff, Int.reduceToNat, Int.reduceLT, Int.reduceLE, Option.getD, Int.reduceMul, Int.reduceAdd, List.drop, List.take, Nat.reduceBEq, List.isEmpty, Int.reduceEq, Int.reduceNe, Int.reduceNeg, Int.reduceGT, Int.reduceGE, beq_true, beq_false, UInt8.reduceToNat, eqE, eq_self, foldE, maxE, minE, fillA, over, chop, List.replicate, leavesOk, leafOk, cellsEq, cellEq, E_byref, en37, bs23, hp, hl, hcn, mc_cn, mc_0, mc_1, mc_2, mc_3]
  exact ⟨_, rfl⟩
theorem c37_3 (row : Int) (rows : List (List IV)) (c w r : Int) (st : List Int) (d : Nat) (f : Bool) (arg : Int) (hb : (-9223372036854775808 ≤ arg ∧ arg ≤ 9223372036854775807) ∧ (-9223372036854775808 ≤ row ∧ row ≤ 9223372036854775807) ∧ (-9223372036854775808 ≤ c ∧ c ≤ 9223372036854775807) ∧ (-9223372036854775808 ≤ w ∧ w ≤ 9223372036854775807) ∧ rows.length ≤ 1000000) (hs : st.length = 16) (hd : d ≤ 16) :
    ∃ L, callT E 37 [.ptr 0 0 0 0, .agg [.i (.v (.int .i64 3)), .i (.v (.int .i64 arg))]] [.box (mc row (.sl 3 rows false) c w r st d f)] = some (.i (.v (.bool true)), .box (pushM row (.sl 3 rows false) c w r st d f rows.length) :: L) := by
  have hp := fun T => ik39 row (.sl 3 rows false) c w r st d f rows.length (by omega) hs hd T
  have hl := mc_len (row := row) (g := .sl 3 rows false) (c := c) (w := w) (r := r) (d := d) (f := f) hs
  rw [show (if d = 16 then mc row (.sl 3 rows false) c w r st (16 : Nat) true else mc row (.sl 3 rows false) c w r (st.set d (limS rows.length)) ((d + 1 : Nat)) f) = pushM row (.sl 3 rows false) c w r st d f rows.length from rfl] at hp
  have hcn := fun B H => pushM_cn (row := row) (g := .sl 3 rows false) (c := c) (w := w) (r := r) (st := st) (d := d) (f := f) (n := rows.length) B H
  generalize pushM row (.sl 3 rows false) c w r st d f rows.length = X at *
  rw [callT_eq Tryd.func37 rfl fok37 (by simp [Tryd.ntmps37])]
  simp (disch := first | omega | (simp only [vlen]; omega)) only [vall, List.take_of_length_le, gB, gcW, gcR, posIn, renA, renL, Chunk.ren, Chunk.refs, evOpD, touchD, stepC, isFresh, nFresh, freshOf, mkR, hole, evL, evH, opd, get, putD, ofVal, cellOf, loadE, behind, lenE, idxAddrE, idxE, lookE, lookM, addPtr, intE, strE, unE, convE, AV.int, AV.bool, AV.str, ivs, take, frameOf, firstRegion, refsA, refsL, one, cellsA, floatOk, apartT, List.map, if_true, if_false, E_P, E_glob0, E_glob1, reduceCtorEq, beq_self_eq_true, ↓reduceIte, Nat.reduceEqDiff, cond_true, cond_false, Nat.reduceAdd, Nat.reduceSub, Nat.reduceMul, Nat.reduceLT, Nat.reduceLeDiff, Int.reduceToNat, Int.reduceLT, Int.reduceLE, Option.getD, Int.reduceMul, Int.reduceAdd, List.drop, List.take, Nat.reduceBEq, List.isEmpty, Int.reduceEq, Int.reduceNe, Int.reduceNeg, Int.reduceGT, Int.reduceGE, beq_true, beq_false, UInt8.reduceToNat, eqE, eq_self, foldE, maxE, minE, fillA, over, chop, List.replicate, leavesOk, leafOk, cellsEq, cellEq, E_byref, en37, bs23, hp, hl, hcn, mc_cn, mc_0, mc_1, mc_2, mc_3]
  exact ⟨_, rfl⟩
theorem c37_6 (row : Int) (rows : List (List IV)) (c w r : Int) (st : List Int) (d : Nat) (f : Bool) (arg : Int) (hb : (-9223372036854775808 ≤ arg ∧ arg ≤ 9223372036854775807) ∧ (-9223372036854775808 ≤ row ∧ row ≤ 9223372036854775807) ∧ (-9223372036854775808 ≤ c ∧ c ≤ 9223372036854775807) ∧ (-9223372036854775808 ≤ w ∧ w ≤ 9223372036854775807) ∧ rows.length ≤ 1000000) (hs : st.length = 16) (hd : d ≤ 16) :
    ∃ L, callT E 37 [.ptr 0 0 0 0, .agg [.i (.v (.int .i64 6)), .i (.v (.int .i64 arg))]] [.box (mc row (.sl 3 rows false) c w r st d f)] = some (.i (.v (.bool true)), .box (pushM row (.sl 3 rows false) c w r st d f c) :: L) := by
  have hp := fun T => ik39 row (.sl 3 rows false) c w r st d f c hb.2.2.1 hs hd T
  have hl := mc_len (row := row) (g := .sl 3 rows false) (c := c) (w := w) (r := r) (d := d) (f := f) hs
  rw [show (if d = 16 then mc row (.sl 3 rows false) c w r st (16 : Nat) true else mc row (.sl 3 rows false) c w r (st.set d (limS c)) ((d + 1 : Nat)) f) = pushM row (.sl 3 rows false) c w r st d f c from rfl] at hp
  have hcn := fun B H => pushM_cn (row := row) (g := .sl 3 rows false) (c := c) (w := w) (r := r) (st := st) (d := d) (f := f) (n := c) B H
  generalize pushM row (.sl 3 rows false) c w r st d f c = X at *
  rw [callT_eq Tryd.func37 rfl fok37 (by simp [Tryd.ntmps37])]
  simp (disch := first | omega | (simp only [vlen]; omega)) only [vall, List.take_of_length_le, gB, gcW, gcR, posIn, renA, renL, Chunk.ren, Chunk.refs, evOpD, touchD, stepC, isFresh, nFresh, freshOf, mkR, hole, evL, evH, opd, get, putD, ofVal, cellOf, loadE, behind, lenE, idxAddrE, idxE, lookE, lookM, addPtr, intE, strE, unE, convE, AV.int, AV.bool, AV.str, ivs, take, frameOf, firstRegion, refsA, refsL, one, cellsA, floatOk, apartT, List.map, if_true, if_false, E_P, E_glob0, E_glob1, reduceCtorEq, beq_self_eq_true, ↓reduceIte, Nat.reduceEqDiff, cond_true, cond_false, Nat.reduceAdd, Nat.reduceSub, Nat.reduceMul, Nat.reduceLT, Nat.reduceLeDiff, Int.reduceToNat, Int.reduceLT, Int.reduceLE, Option.getD, Int.reduceMul, Int.reduceAdd, List.drop, List.take, Nat.reduceBEq, List.isEmpty, Int.reduceEq, Int.reduceNe, Int.reduceNeg, Int.reduceGT, Int.reduceGE, beq_true, beq_false, UInt8.reduceToNat, eqE, eq_self, foldE, maxE, minE, fillA, over, chop, List.replicate, leavesOk, leafOk, cellsEq, cellEq, E_byref, en37, bs23, hp, hl, hcn, mc_cn, mc_0, mc_1, mc_2, mc_3]
  exact ⟨_, rfl⟩
theorem c37_7 (row : Int) (rows : List (List IV)) (c w r : Int) (st : List Int) (d : Nat) (f : Bool) (arg : Int) (hb : (-9223372036854775808 ≤ arg ∧ arg ≤ 9223372036854775807) ∧ (-9223372036854775808 ≤ row ∧ row ≤ 9223372036854775807) ∧ (-9223372036854775808 ≤ c ∧ c ≤ 9223372036854775807) ∧ (-9223372036854775808 ≤ w ∧ w ≤ 9223372036854775807) ∧ rows.length ≤ 1000000) (hs : st.length = 16) (hd : d ≤ 16) :
    ∃ L, callT E 37 [.ptr 0 0 0 0, .agg [.i (.v (.int .i64 7)), .i (.v (.int .i64 arg))]] [.box (mc row (.sl 3 rows false) c w r st d f)] = some (.i (.v (.bool true)), .box (pushM row (.sl 3 rows false) c w r st d f w) :: L) := by
  have hp := fun T => ik39 row (.sl 3 rows false) c w r st d f w hb.2.2.2.1 hs hd T
  have hl := mc_len (row := row) (g := .sl 3 rows false) (c := c) (w := w) (r := r) (d := d) (f := f) hs
  rw [show (if d = 16 then mc row (.sl 3 rows false) c w r st (16 : Nat) true else mc row (.sl 3 rows false) c w r (st.set d (limS w)) ((d + 1 : Nat)) f) = pushM row (.sl 3 rows false) c w r st d f w from rfl] at hp
  have hcn := fun B H => pushM_cn (row := row) (g := .sl 3 rows false) (c := c) (w := w) (r := r) (st := st) (d := d) (f := f) (n := w) B H
  generalize pushM row (.sl 3 rows false) c w r st d f w = X at *
  rw [callT_eq Tryd.func37 rfl fok37 (by simp [Tryd.ntmps37])]
  simp (disch := first | omega | (simp only [vlen]; omega)) only [vall, List.take_of_length_le, gB, gcW, gcR, posIn, renA, renL, Chunk.ren, Chunk.refs, evOpD, touchD, stepC, isFresh, nFresh, freshOf, mkR, hole, evL, evH, opd, get, putD, ofVal, cellOf, loadE, behind, lenE, idxAddrE, idxE, lookE, lookM, addPtr, intE, strE, unE, convE, AV.int, AV.bool, AV.str, ivs, take, frameOf, firstRegion, refsA, refsL, one, cellsA, floatOk, apartT, List.map, if_true, if_false, E_P, E_glob0, E_glob1, reduceCtorEq, beq_self_eq_true, ↓reduceIte, Nat.reduceEqDiff, cond_true, cond_false, Nat.reduceAdd, Nat.reduceSub, Nat.reduceMul, Nat.reduceLT, Nat.reduceLeDiff, Int.reduceToNat, Int.reduceLT, Int.reduceLE, Option.getD, Int.reduceMul, Int.reduceAdd, List.drop, List.take, Nat.reduceBEq, List.isEmpty, Int.reduceEq, Int.reduceNe, Int.reduceNeg, Int.reduceGT, Int.reduceGE, beq_true, beq_false, UInt8.reduceToNat, eqE, eq_self, foldE, maxE, minE, fillA, over, chop, List.replicate, leavesOk, leafOk, cellsEq, cellEq, E_byref, en37, bs23, hp, hl, hcn, mc_cn, mc_0, mc_1, mc_2, mc_3]
  exact ⟨_, rfl⟩
end Go.VI

namespace Go.VI
open Go.Proofs
set_option maxRecDepth 100000
set_option linter.unusedSimpArgs false
set_option linter.unusedVariables false
set_option maxHeartbeats 4000000
theorem c37_0 (X : List AV) (hX : ∀ B H, cnL B H X = X) (op arg : Int) (h : op ≠ 1 ∧ op ≠ 2 ∧ op ≠ 3 ∧ op ≠ 6 ∧ op ≠ 7) :
    ∃ L, callT E 37 [.ptr 0 0 0 0, .agg [.i (.v (.int .i64 op)), .i (.v (.int .i64 arg))]] [.box X] = some (.i (.v (.bool false)), .box X :: L) := by
  obtain ⟨h1, h2, h3, h4, h5⟩ := h
  rw [callT_eq Tryd.func37 rfl fok37 (by simp [Tryd.ntmps37])]
  simp (disch := first | omega | (simp only [vlen]; omega)) only [vall, List.take_of_length_le, gB, gcW, gcR, posIn, renA, renL, Chunk.ren, Chunk.refs, evOpD, touchD, stepC, isFresh, nFresh, freshOf, mkR, hole, evL, evH, opd, get, putD, ofVal, cellOf, loadE, behind, lenE, idxAddrE, idxE, lookE, lookM, addPtr, intE, strE, unE, convE, AV.int, AV.bool, AV.str, ivs, take, frameOf, firstRegion, refsA, refsL, one, cellsA, floatOk, apartT, List.map, if_true, if_false, E_P, E_glob0, E_glob1, reduceCtorEq, beq_self_eq_true, ↓reduceIte, Nat.reduceEqDiff, cond_true, cond_false, Nat.reduceAdd, Nat.reduceSub, Nat.reduceMul, Nat.reduceLT, Nat.reduceLeDiff, Int.reduceToNat, Int.reduceLT, Int.reduceLE, Option.getD, Int.reduceMul, Int.reduceAdd, List.drop, List.take, Nat.reduceBEq, List.isEmpty, Int.reduceEq, Int.reduceNe, Int.reduceNeg, Int.reduceGT, Int.reduceGE, beq_true, beq_false, UInt8.reduceToNat, eqE, eq_self, foldE, maxE, minE, fillA, over, chop, List.replicate, leavesOk, leafOk, cellsEq, cellEq, E_byref, en37, bs23, h1, h2, h3, h4, h5, hX]
  exact ⟨_, rfl⟩
theorem ik37_0 (X : List AV) (hX : ∀ B H, cnL B H X = X) (hr : refsL X = []) (op arg : Int) (h : op ≠ 1 ∧ op ≠ 2 ∧ op ≠ 3 ∧ op ≠ 6 ∧ op ≠ 7) (T : Hp) :
    isoK E (callT E) 37 [.ptr 0 0 0 0, .agg [.i (.v (.int .i64 op)), .i (.v (.int .i64 arg))]] (.box X :: T) = some (.i (.v (.bool false)), .box X :: T) :=
  isoK_mc rfl rfl rfl hr hr (c37_0 X hX op arg h) T
end Go.VI

namespace Go.VI
open Go.Proofs
set_option maxRecDepth 100000
set_option linter.unusedSimpArgs false
set_option linter.unusedVariables false
set_option maxHeartbeats 4000000
abbrev Gl := List UInt8 × Bool × Int
def rowsG (l : List Gl) : List (List IV) := l.map fun g => [.str g.1, .v (.bool g.2.1), .v (.int .i64 g.2.2)]
theorem rowsG_len (l : List Gl) : (rowsG l).length = l.length := by simp [rowsG]
theorem rowsG_at {l : List Gl} {k : Nat} (h : k < l.length) : (rowsG l)[k]? = some [.str l[k].1, .v (.bool l[k].2.1), .v (.int .i64 l[k].2.2)] := by simp [rowsG, h]
theorem c41_in (l : List Gl) (hl : l.length ≤ 1000000) (X : List AV) (hX : ∀ B H, cnL B H X = X) (h1 : X[1]? = some (.i (.sl 3 (rowsG l) false))) (hx : X.length = 23) (i : Int) (hi : 0 ≤ i ∧ i < l.length) :
    ∃ L, callT E 41 [.ptr 0 0 0 0, .i (.v (.int .i64 i))] [.box X] = some (.tup [.agg [.i (.str (l.getD i.toNat ([], false, 0)).1), .i (.v (.bool (l.getD i.toNat ([], false, 0)).2.1)), .i (.v (.int .i64 (l.getD i.toNat ([], false, 0)).2.2))], .i (.v (.bool true))], .box X :: L) := by
  have hlt : i.toNat < l.length := by omega
  have hrow := rowsG_at hlt
  rw [show l.getD i.toNat ([], false, 0) = l[i.toNat] from by rw [List.getD_eq_getElem?_getD, List.getElem?_eq_getElem hlt]; rfl]
  generalize l[i.toNat] = gl at *
  rw [callT_eq Tryd.func41 rfl fok41 (by simp [Tryd.ntmps41])]
  simp (disch := first | omega | (simp only [vlen, rowsG_len]; omega)) only [vall, List.take_of_length_le, gB, gcW, gcR, posIn, renA, renL, Chunk.ren, Chunk.refs, evOpD, touchD, stepC, isFresh, nFresh, freshOf, mkR, hole, evL, evH, opd, get, putD, ofVal, cellOf, loadE, behind, lenE, idxAddrE, idxE, lookE, lookM, addPtr, intE, strE, unE, convE, AV.int, AV.bool, AV.str, ivs, take, frameOf, firstRegion, refsA, refsL, one, cellsA, floatOk, apartT, List.map, if_true, if_false, E_P, E_glob0, E_glob1, reduceCtorEq, beq_self_eq_true, ↓reduceIte, Nat.reduceEqDiff, cond_true, cond_false, Nat.reduceAdd, Nat.reduceSub, Nat.reduceMul, Nat.reduceLT, Nat.reduceLeDiff, Int.reduceToNat, Int.reduceLT, Int.reduceLE, Option.getD, Int.reduceMul, Int.reduceAdd, List.drop, List.take, Nat.reduceBEq, List.isEmpty, Int.reduceEq, Int.reduceNe, Int.reduceNeg, Int.reduceGT, Int.reduceGE, beq_true, beq_false, UInt8.reduceToNat, eqE, eq_self, foldE, maxE, minE, fillA, over, chop, List.replicate, leavesOk, leafOk, cellsEq, cellEq, E_byref, en41, bs23, h1, hx, hX, hrow, rowsG_len]
  exact ⟨_, rfl⟩
theorem c41_out (l : List Gl) (hl : l.length ≤ 1000000) (X : List AV) (hX : ∀ B H, cnL B H X = X) (h1 : X[1]? = some (.i (.sl 3 (rowsG l) false))) (hx : X.length = 23) (i : Int) (hi : i < 0 ∨ (l.length : Int) ≤ i) :
    ∃ L, callT E 41 [.ptr 0 0 0 0, .i (.v (.int .i64 i))] [.box X] = some (.tup [.agg [.i (.str []), .i (.v (.bool false)), .i (.v (.int .i64 0))], .i (.v (.bool false))], .box X :: L) := by
  by_cases h0 : i < 0
  · rw [callT_eq Tryd.func41 rfl fok41 (by simp [Tryd.ntmps41])]
    simp (disch := first | omega | (simp only [vlen, rowsG_len]; omega)) only [vall, List.take_of_length_le, gB, gcW, gcR, posIn, renA, renL, Chunk.ren, Chunk.refs, evOpD, touchD, stepC, isFresh, nFresh, freshOf, mkR, hole, evL, evH, opd, get, putD, ofVal, cellOf, loadE, behind, lenE, idxAddrE, idxE, lookE, lookM, addPtr, intE, strE, unE, convE, AV.int, AV.bool, AV.str, ivs, take, frameOf, firstRegion, refsA, refsL, one, cellsA, floatOk, apartT, List.map, if_true, if_false, E_P, E_glob0, E_glob1, reduceCtorEq, beq_self_eq_true, ↓reduceIte, Nat.reduceEqDiff, cond_true, cond_false, Nat.reduceAdd, Nat.reduceSub, Nat.reduceMul, Nat.reduceLT, Nat.reduceLeDiff, Int.reduceToNat, Int.reduceLT, Int.reduceLE, Option.getD, Int.reduceMul, Int.reduceAdd, List.drop, List.take, Nat.reduceBEq, List.isEmpty, Int.reduceEq, Int.reduceNe, Int.reduceNeg, Int.reduceGT, Int.reduceGE, beq_true, beq_false, UInt8.reduceToNat, eqE, eq_self, foldE, maxE, minE, fillA, over, chop, List.replicate, leavesOk, leafOk, cellsEq, cellEq, E_byref, en41, bs23, h0, h1, hx, hX, rowsG_len]
    exact ⟨_, rfl⟩
  · rw [callT_eq Tryd.func41 rfl fok41 (by simp [Tryd.ntmps41])]
    simp (disch := first | omega | (simp only [vlen, rowsG_len]; omega)) only [vall, List.take_of_length_le, gB, gcW, gcR, posIn, renA, renL, Chunk.ren, Chunk.refs, evOpD, touchD, stepC, isFresh, nFresh, freshOf, mkR, hole, evL, evH, opd, get, putD, ofVal, cellOf, loadE, behind, lenE, idxAddrE, idxE, lookE, lookM, addPtr, intE, strE, unE, convE, AV.int, AV.bool, AV.str, ivs, take, frameOf, firstRegion, refsA, refsL, one, cellsA, floatOk, apartT, List.map, if_true, if_false, E_P, E_glob0, E_glob1, reduceCtorEq, beq_self_eq_true, ↓reduceIte, Nat.reduceEqDiff, cond_true, cond_false, Nat.reduceAdd, Nat.reduceSub, Nat.reduceMul, Nat.reduceLT, Nat.reduceLeDiff, Int.reduceToNat, Int.reduceLT, Int.reduceLE, Option.getD, Int.reduceMul, Int.reduceAdd, List.drop, List.take, Nat.reduceBEq, List.isEmpty, Int.reduceEq, Int.reduceNe, Int.reduceNeg, Int.reduceGT, Int.reduceGE, beq_true, beq_false, UInt8.reduceToNat, eqE, eq_self, foldE, maxE, minE, fillA, over, chop, List.replicate, leavesOk, leafOk, cellsEq, cellEq, E_byref, en41, bs23, h0, h1, hx, hX, rowsG_len]
    exact ⟨_, rfl⟩
end Go.VI

namespace Go.VI
open Go.Proofs
set_option maxRecDepth 100000
set_option linter.unusedSimpArgs false
set_option linter.unusedVariables false
set_option maxHeartbeats 4000000
structure Sq where
  (v mi lo hi : Int)
def sqC (s : Sq) : List AV := [.i (.v (.int .i32 s.v)), .i (.v (.int .i64 s.mi)), .i (.v (.int .u8 s.lo)), .i (.v (.int .u8 s.hi))]
theorem sqC_one (s : Sq) : (sqC s).all one = true := rfl
theorem sqC_len (s : Sq) : (sqC s).length = 4 := rfl
theorem sqC_refs (s : Sq) : refsL (sqC s) = [] := rfl
theorem sqC_ren (ρ : Nat → Option Nat) (s : Sq) : renL ρ (sqC s) = sqC s := rfl
def beginS (b : Int) : Sq :=
  let lo : Int := if b = 224 then 160 else if b = 240 then 144 else 128
  let hi : Int := if b = 237 then 159 else if b = 244 then 143 else 191
  if 194 ≤ b ∧ b ≤ 223 then ⟨b - 192, 1, lo, hi⟩ else if 224 ≤ b ∧ b ≤ 239 then ⟨b - 224, 2, lo, hi⟩ else if 240 ≤ b ∧ b ≤ 244 then ⟨b - 240, 3, lo, hi⟩ else ⟨0, 0, lo, hi⟩
theorem c60_all : ((List.range 256).all fun b => match call E 60 60 [.i (.v (.int .u8 b))] [] with
    | some (.agg [.i (.v (.int .i32 v)), .i (.v (.int .i64 m)), .i (.v (.int .u8 l)), .i (.v (.int .u8 h))], _) => v == (beginS b).v && m == (beginS b).mi && l == (beginS b).lo && h == (beginS b).hi
    | _ => false) = true := by kernel_rfl
theorem c60 (b : Int) (h0 : 0 ≤ b) (h1 : b ≤ 255) : ∃ L, callT E 60 [.i (.v (.int .u8 b))] [] = some (.agg (sqC (beginS b)), L) := by
  obtain ⟨n, rfl⟩ := Int.eq_ofNat_of_zero_le h0
  have := (List.all_eq_true.1 c60_all) n (by simp; omega)
  split at this
  · rename_i v m l h L hL
    simp only [Bool.and_eq_true, beq_iff_eq] at this
    obtain ⟨⟨⟨rfl, rfl⟩, rfl⟩, rfl⟩ := this
    exact ⟨L, callT_of hL⟩
  · cases this
theorem ik60 (b : Int) (H : Hp) (h0 : 0 ≤ b) (h1 : b ≤ 255) : isoK E (callT E) 60 [.i (.v (.int .u8 b))] H = some (.agg (sqC (beginS b)), H) := isoK_val rfl rfl rfl (c60 b h0 h1)
end Go.VI

namespace Go.VI
open Go.Proofs
set_option maxRecDepth 100000
set_option linter.unusedSimpArgs false
set_option linter.unusedVariables false
set_option maxHeartbeats 4000000
theorem pw6 : (2 : Int) ^ min 6 IntKind.i32.bits = 64 := by decide
theorem and63_all : ∀ n : Nat, n < 256 → bitsE .and .u8 (n : Int) 63 = some ((n : Int) % 64) := by decide +kernel
theorem and63 {b : Int} (h0 : 0 ≤ b) (h1 : b ≤ 255) : bitsE .and .u8 b 63 = some (b % 64) := by
  obtain ⟨n, rfl⟩ := Int.eq_ofNat_of_zero_le h0
  exact and63_all n (by omega)
theorem or64 {v c : Int} (h0 : 0 ≤ v) (h1 : v < 1048576) (h2 : 0 ≤ c) (h3 : c < 64) : bitsE .or .i32 (v * 64) c = some (v * 64 + c) := by
  obtain ⟨n, rfl⟩ := Int.eq_ofNat_of_zero_le h0
  obtain ⟨m, rfl⟩ := Int.eq_ofNat_of_zero_le h2
  have e1 : BitVec.ofInt 32 ((n : Int) * 64) = BitVec.ofNat 32 (n * 64) := by
    rw [show (n : Int) * 64 = ((n * 64 : Nat) : Int) by omega]; rfl
  have e2 : BitVec.ofInt 32 (m : Int) = BitVec.ofNat 32 m := rfl
  have e3 : n * 64 ||| m = n * 64 + m := by
    have := Nat.shiftLeft_add_eq_or_of_lt (i := 6) (b := m) (by omega) n
    rw [Nat.shiftLeft_eq, show (2 : Nat) ^ 6 = 64 from rfl] at this
    exact this.symm
  show some (IntKind.i32.wrap ((BitVec.ofInt 32 ((n : Int) * 64) ||| BitVec.ofInt 32 (m : Int)).toNat : Nat)) = _
  rw [e1, e2, BitVec.toNat_or, BitVec.toNat_ofNat, BitVec.toNat_ofNat, Nat.mod_eq_of_lt (by omega), Nat.mod_eq_of_lt (by omega), e3, w_i32 (by omega) (by omega)]
  congr 1
structure Dec where
  (s : Sq) (out : List Int) (st : Int)
def SqOK (s : Sq) : Prop := s.mi = 0 ∨ (128 ≤ s.lo ∧ s.hi ≤ 191 ∧ 0 ≤ s.v ∧ (s.mi = 1 ∧ s.v < 32768 ∨ s.mi = 2 ∧ s.v < 512 ∨ s.mi = 3 ∧ s.v < 8))
def stepD (d : Dec) (i b : Int) : Dec :=
  if 0 < d.s.mi ∧ d.s.lo ≤ b ∧ b ≤ d.s.hi then
    ⟨⟨d.s.v * 64 + b % 64, d.s.mi - 1, 128, 191⟩, if d.s.mi - 1 = 0 then d.out ++ [d.s.v * 64 + b % 64] else d.out, d.st⟩
  else
    let o := if 0 < d.s.mi then d.out ++ [65533] else d.out
    ⟨beginS b, if b < 128 then o ++ [b] else if (beginS b).mi = 0 then o ++ [65533] else o, i⟩
def runD : List UInt8 → Nat → Dec → Dec
  | [], _, d => d
  | b :: r, i, d => runD r (i + 1) (stepD d i b.toNat)
theorem beginS_all : ∀ n : Nat, n < 256 → ((beginS n).mi = 0 ∨ (128 ≤ (beginS n).lo ∧ (beginS n).hi ≤ 191 ∧ 0 ≤ (beginS n).v ∧ ((beginS n).mi = 1 ∧ (beginS n).v < 32768 ∨ (beginS n).mi = 2 ∧ (beginS n).v < 512 ∨ (beginS n).mi = 3 ∧ (beginS n).v < 8))) := by decide +kernel
theorem beginS_ok (b : Int) (h0 : 0 ≤ b) (h1 : b ≤ 255) : SqOK (beginS b) := by
  obtain ⟨n, rfl⟩ := Int.eq_ofNat_of_zero_le h0
  exact beginS_all n (by omega)
theorem stepD_ok {d : Dec} (h : SqOK d.s) (i b : Int) (h0 : 0 ≤ b) (h1 : b ≤ 255) : SqOK (stepD d i b).s := by
  unfold stepD
  split
  · rename_i hc
    obtain ⟨c1, c2, c3⟩ := hc
    unfold SqOK at h ⊢
    simp only
    omega
  · exact beginS_ok b h0 h1
def rows32 (l : List Int) : List (List IV) := l.map fun n => [.v (.int .i32 n)]
theorem rows32_len (l : List Int) : (rows32 l).length = l.length := by simp [rows32]
theorem rows32_snoc (l : List Int) (n : Int) : rows32 l ++ [[.v (.int .i32 n)]] = rows32 (l ++ [n]) := by simp [rows32]
theorem stepD_len (d : Dec) (i b : Int) : (stepD d i b).out.length ≤ d.out.length + 2 := by
  unfold stepD; simp only; repeat' split
  all_goals (simp; try omega)
theorem sqC_cn (B : Nat) (H : Hp) (s : Sq) : cnL B H (sqC s) = sqC s := by simp [sqC, cnL, cnA]
theorem sqC_0 (s : Sq) : (sqC s)[0]? = some (.i (.v (.int .i32 s.v))) := rfl
theorem sqC_1 (s : Sq) : (sqC s)[1]? = some (.i (.v (.int .i64 s.mi))) := rfl
theorem sqC_2 (s : Sq) : (sqC s)[2]? = some (.i (.v (.int .u8 s.lo))) := rfl
theorem sqC_3 (s : Sq) : (sqC s)[3]? = some (.i (.v (.int .u8 s.hi))) := rfl
theorem sqC_drop (s : Sq) : (sqC s).drop 4 = [] := rfl
theorem sqC_take (s : Sq) : (sqC s).take 4 = sqC s := rfl
theorem byte_at {t : List UInt8} {k : Nat} (h : k < t.length) : t[k]? = some t[k] := by simp [h]
theorem l56 (t : List UInt8) (ht : t.length < 100000) (k : Nat) (hk : k ≤ t.length) (d : Dec) (hs : SqOK d.s) (hl : d.out.length ≤ 2 * k) :
    rl E 0 56 (loopAt Tryd.f56 0) [(6, .i (.str t)), (7, .ref 0 0 0 d.out.length), (8, .ptr 1 0 0 0), (9, .i (.v (.int .i64 d.st))), (16, .i (.v (.int .i64 t.length))), (17, .i (.v (.int .i64 k)))] [.sl 1 0 (rows32 d.out) false, .box (sqC d.s)] =
      some (.exit 0, [(6, .i (.str t)), (7, .ref 0 0 0 (runD (t.drop k) k d).out.length), (8, .ptr 1 0 0 0), (9, .i (.v (.int .i64 (runD (t.drop k) k d).st))), (16, .i (.v (.int .i64 t.length))), (17, .i (.v (.int .i64 t.length))), (18, .i (.v (.bool false)))], [.sl 1 0 (rows32 (runD (t.drop k) k d).out) false, .box (sqC (runD (t.drop k) k d).s)]) := by
  rw [rl_step (fn := Tryd.f56) (k := 0) rfl]
  by_cases hlt : k < t.length
  · have hb := byte_at hlt
    have b1 := t[k].toNat_lt
    rw [List.drop_eq_getElem_cons hlt, runD]
    have ih := l56 t ht (k + 1) hlt (stepD d k t[k].toNat) (stepD_ok hs _ _ (by omega) (by omega)) (by have := stepD_len d k t[k].toNat; omega)
    unfold SqOK at hs
    generalize t[k] = b at *
    rw [← ih]
    clear ih
    (try simp (disch := first | omega | (simp only [vlen, rows32_len]; omega)) only [vall, List.take_of_length_le, gB, gcW, gcR, posIn, renA, renL, Chunk.ren, Chunk.refs, evOpD, touchD, stepC, isFresh, nFresh, freshOf, mkR, hole, evL, evH, opd, get, putD, ofVal, cellOf, loadE, behind, lenE, idxAddrE, idxE, lookE, lookM, addPtr, intE, strE, unE, convE, AV.int, AV.bool, AV.str, ivs, take, frameOf, firstRegion, refsA, refsL, one, cellsA, floatOk, apartT, List.map, if_true, if_false, E_P, E_glob0, E_glob1, reduceCtorEq, beq_self_eq_true, ↓reduceIte, Nat.reduceEqDiff, cond_true, cond_false, Nat.reduceAdd, Nat.reduceSub, Nat.reduceMul, Nat.reduceLT, Nat.reduceLeDiff, Int.reduceToNat, Int.reduceLT, Int.reduceLE, Option.getD, Int.reduceMul, Int.reduceAdd, List.drop, List.take, Nat.reduceBEq, List.isEmpty, Int.reduceEq, Int.reduceNe, Int.reduceNeg, Int.reduceGT, Int.reduceGE, beq_true, beq_false, UInt8.reduceToNat, eqE, eq_self, foldE, maxE, minE, fillA, over, chop, List.replicate, leavesOk, leafOk, cellsEq, cellEq, E_byref, en56, bs91, hb, sqC_drop, sqC_take, sqC_0, sqC_1, sqC_2, sqC_3, ik60, pw6, and63, or64, sqC_one, sqC_len, sqC_refs, sqC_ren, sqC_cn, rows32_len, rows32_snoc, show ∀ B fr H, execT E B 56 (Code.loop _) fr H = rlM E B 56 (loopAt Tryd.f56 0) [6, 7, 8, 9, 16, 17] [] (matF [(7, 1)] fr H).1 (matB [] (matF [(7, 1)] fr H).1 (matF [(7, 1)] fr H).2) from fun B fr H => rl_introM rfl mt56_6 mb56_6 zf56_6 hd56_6 fr H]) <;> repeat' ((first | rw [condK_ndec] | rw [condK_dec] | rw [condK_b] | rw [guK_ndec] | rw [guK_dec] | rw [guK_b] | rw [guT_ndec] | rw [guT_dec] | rw [guT_b] | rw [guD_dec] | rw [guD_b]) <;> split <;> (try subst_vars) <;> (try simp (disch := first | omega | (simp only [vlen, rows32_len]; omega)) only [vall, w_i8, w_u8, w_i16, w_u16, w_i32, w_u32, w_i64, w_u64, lt_T, lt_F, le_T, le_F, nlt_T, nlt_F, nle_T, nle_F, List.take_of_length_le, gB, gcW, gcR, posIn, renA, renL, Chunk.ren, Chunk.refs, evOpD, touchD, stepC, isFresh, nFresh, freshOf, mkR, hole, evL, evH, opd, get, putD, ofVal, cellOf, loadE, behind, lenE, idxAddrE, idxE, lookE, lookM, addPtr, intE, strE, unE, convE, AV.int, AV.bool, AV.str, ivs, take, frameOf, firstRegion, refsA, refsL, one, cellsA, floatOk, apartT, List.map, if_true, if_false, E_P, E_glob0, E_glob1, reduceCtorEq, beq_self_eq_true, decide_true, decide_false, ↓reduceIte, Nat.reduceEqDiff, cond_true, cond_false, or_true, true_or, or_false, false_or, and_true, true_and, and_self, false_and, and_false, not_true, not_false_iff, Nat.reduceAdd, Nat.reduceSub, Nat.reduceMul, Nat.reduceLT, Nat.reduceLeDiff, Int.reduceToNat, Int.reduceLT, Int.reduceLE, Option.getD, Int.reduceMul, Int.reduceAdd, List.drop, List.take, Nat.reduceBEq, List.isEmpty, Int.reduceEq, Int.reduceNe, Int.reduceNeg, Int.reduceGT, Int.reduceGE, beq_true, beq_false, UInt8.reduceToNat, eqE, eq_self, foldE, maxE, minE, eq_T, eq_F, ndec, odec, adec, sdec, fillA, over, chop, List.replicate, leavesOk, leafOk, cellsEq, cellEq, E_byref, en56, bs91, hb, sqC_drop, sqC_take, sqC_0, sqC_1, sqC_2, sqC_3, ik60, pw6, and63, or64, sqC_one, sqC_len, sqC_refs, sqC_ren, sqC_cn, rows32_len, rows32_snoc, show ∀ B fr H, execT E B 56 (Code.loop _) fr H = rlM E B 56 (loopAt Tryd.f56 0) [6, 7, 8, 9, 16, 17] [] (matF [(7, 1)] fr H).1 (matB [] (matF [(7, 1)] fr H).1 (matF [(7, 1)] fr H).2) from fun B fr H => rl_introM rfl mt56_6 mb56_6 zf56_6 hd56_6 fr H]))
    all_goals generalize hX : stepD d k b.toNat = X
    all_goals unfold stepD at hX
    all_goals simp only at hX
    all_goals (repeat' split at hX)
    all_goals first | (exfalso; omega) | (subst hX; (try simp only [List.length_append, List.length_cons, List.length_nil, Nat.zero_add, Nat.reduceAdd, Nat.add_assoc, rows32_snoc]) <;> rfl) | trace_state
  · obtain rfl : k = t.length := by omega
    rw [List.drop_length, runD]
    simp (disch := first | omega | (simp only [vlen]; omega)) only [vall, List.take_of_length_le, gB, gcW, gcR, posIn, renA, renL, Chunk.ren, Chunk.refs, evOpD, touchD, stepC, isFresh, nFresh, freshOf, mkR, hole, evL, evH, opd, get, putD, ofVal, cellOf, loadE, behind, lenE, idxAddrE, idxE, lookE, lookM, addPtr, intE, strE, unE, convE, AV.int, AV.bool, AV.str, ivs, take, frameOf, firstRegion, refsA, refsL, one, cellsA, floatOk, apartT, List.map, if_true, if_false, E_P, E_glob0, E_glob1, reduceCtorEq, beq_self_eq_true, ↓reduceIte, Nat.reduceEqDiff, cond_true, cond_false, Nat.reduceAdd, Nat.reduceSub, Nat.reduceMul, Nat.reduceLT, Nat.reduceLeDiff, Int.reduceToNat, Int.reduceLT, Int.reduceLE, Option.getD, Int.reduceMul, Int.reduceAdd, List.drop, List.take, Nat.reduceBEq, List.isEmpty, Int.reduceEq, Int.reduceNe, Int.reduceNeg, Int.reduceGT, Int.reduceGE, beq_true, beq_false, UInt8.reduceToNat, eqE, eq_self, foldE, maxE, minE, fillA, over, chop, List.replicate, leavesOk, leafOk, cellsEq, cellEq, E_byref, en56, bs91]
termination_by t.length - k
end Go.VI

namespace Go.VI
open Go.Proofs
set_option maxRecDepth 100000
set_option linter.unusedSimpArgs false
set_option linter.unusedVariables false
set_option maxHeartbeats 4000000
theorem stepD_st {d : Dec} {i b : Int} : (stepD d i b).st = d.st ∨ (stepD d i b).st = i := by
  unfold stepD; simp only; split
  · exact .inl rfl
  · exact .inr rfl
theorem runD_st : ∀ (l : List UInt8) (i : Nat) (d : Dec), 0 ≤ d.st → d.st ≤ i → 0 ≤ (runD l i d).st ∧ (runD l i d).st ≤ i + l.length
  | [], i, d, h0, h1 => by simp only [runD, List.length_nil]; omega
  | b :: l, i, d, h0, h1 => by
    have hs := stepD_st (d := d) (i := i) (b := b.toNat)
    have ih := runD_st l (i + 1) (stepD d i b.toNat) (by omega) (by omega)
    simp only [runD, List.length_cons]
    omega
def sq0 : Sq := ⟨0, 0, 0, 0⟩
def decD (t : List UInt8) : Dec := runD t 0 ⟨sq0, [], 0⟩
def decOut (t : List UInt8) : List Int := (decD t).out
def decRest (t : List UInt8) : List UInt8 := if (decD t).s.mi = 0 then [] else t.drop (decD t).st.toNat
theorem l56_0 (t : List UInt8) (ht : (t.length : Int) < 100000) :
    rl E 0 56 (loopAt Tryd.f56 0) [(6, .i (.str t)), (7, .ref 0 0 0 0), (8, .ptr 1 0 0 0), (9, .i (.v (.int .i64 0))), (16, .i (.v (.int .i64 t.length))), (17, .i (.v (.int .i64 0)))] [.sl 1 0 [] false, .box [.i (.v (.int .i32 0)), .i (.v (.int .i64 0)), .i (.v (.int .u8 0)), .i (.v (.int .u8 0))]] =
      some (.exit 0, [(6, .i (.str t)), (7, .ref 0 0 0 (decD t).out.length), (8, .ptr 1 0 0 0), (9, .i (.v (.int .i64 (decD t).st))), (16, .i (.v (.int .i64 t.length))), (17, .i (.v (.int .i64 t.length))), (18, .i (.v (.bool false)))], [.sl 1 0 (rows32 (decD t).out) false, .box (sqC (decD t).s)]) :=
  l56 t (by omega) 0 (by omega) ⟨sq0, [], 0⟩ (.inl rfl) (Nat.zero_le _)
theorem isoK_new2 {E : Env} {cl : CallF} {H : Hp} {g : Nat} {ar : List AV} {c gg o n : Nat} {y : IV} {x : Chunk} (he : E.ext g = none) (hr : refsL ar = []) (hx : x.refs = []) (hc : ∃ L, cl g ar [] = some (.tup [.ref c gg o n, .i y], L) ∧ L[c]? = some x) :
    isoK E cl g ar H = some (.tup [.ref H.length gg o n, .i y], H ++ [x]) := by
  obtain ⟨L, hc, hL⟩ := hc
  have h1 := (refs_ren (posIn [])).2 ar hr
  have hxr : ∀ ρ, x.ren ρ = x := by
    intro ρ
    cases x with
    | box cells => exact congrArg Chunk.box ((refs_ren ρ).2 cells hx)
    | _ => rfl
  have hR := reach_one hL hx
  unfold isoK
  rw [hr]
  simp only [exCl, he, reach, h1, List.map_nil, hc, List.length_nil, Nat.not_lt_zero, if_false, List.take_zero, List.flatMap_nil, List.append_nil, refsA, refsL, List.cons_append, List.nil_append, hR]
  simp [renA, renL, backRen, posIn, hL, hxr, setAll]
theorem c56 (p c : List UInt8) (ht : (p.length : Int) + c.length < 100000) : ∃ cc L, callT E 56 [.i (.str p), .i (.str c)] [] = some (.tup [.ref cc 0 0 (decOut (p ++ c)).length, .i (.str (decRest (p ++ c)))], L) ∧ L[cc]? = some (.sl 1 0 (rows32 (decOut (p ++ c))) false) := by
  have hlen : ((p ++ c).length : Int) < 100000 := by simp; omega
  have h := l56_0 (p ++ c) hlen
  obtain ⟨b1, b2⟩ := runD_st (p ++ c) 0 ⟨sq0, [], 0⟩ (Int.le_refl _) (Int.le_refl _)
  rw [show runD (p ++ c) 0 ⟨sq0, [], 0⟩ = decD (p ++ c) from rfl] at b1 b2
  unfold decOut decRest
  rw [callT_eq Tryd.func56 rfl fok56 (by simp [Tryd.ntmps56])]
  generalize hX : decD (p ++ c) = X at *
  simp only [List.length_append] at h b2 ⊢
  have hr := rows32_len X.out
  (try simp (disch := first | omega | (simp only [vlen, rows32_len]; omega)) only [vall, List.take_of_length_le, gB, gcW, gcR, posIn, renA, renL, Chunk.ren, Chunk.refs, evOpD, touchD, stepC, isFresh, nFresh, freshOf, mkR, hole, evL, evH, opd, get, putD, ofVal, cellOf, loadE, behind, lenE, idxAddrE, idxE, lookE, lookM, addPtr, intE, strE, unE, convE, AV.int, AV.bool, AV.str, ivs, take, frameOf, firstRegion, refsA, refsL, one, cellsA, floatOk, apartT, List.map, if_true, if_false, E_P, E_glob0, E_glob1, reduceCtorEq, beq_self_eq_true, ↓reduceIte, Nat.reduceEqDiff, cond_true, cond_false, Nat.reduceAdd, Nat.reduceSub, Nat.reduceMul, Nat.reduceLT, Nat.reduceLeDiff, Int.reduceToNat, Int.reduceLT, Int.reduceLE, Option.getD, Int.reduceMul, Int.reduceAdd, List.drop, List.take, Nat.reduceBEq, List.isEmpty, Int.reduceEq, Int.reduceNe, Int.reduceNeg, Int.reduceGT, Int.reduceGE, beq_true, beq_false, UInt8.reduceToNat, eqE, eq_self, foldE, maxE, minE, fillA, over, chop, List.replicate, leavesOk, leafOk, cellsEq, cellEq, E_byref, en56, bs91, h, sqC_drop, sqC_take, sqC_0, sqC_1, sqC_2, sqC_3, sqC_one, sqC_len, sqC_refs, sqC_ren, sqC_cn, show ∀ B fr H, execT E B 56 (Code.loop _) fr H = rlM E B 56 (loopAt Tryd.f56 0) [6, 7, 8, 9, 16, 17] [] (matF [(7, 1)] fr H).1 (matB [] (matF [(7, 1)] fr H).1 (matF [(7, 1)] fr H).2) from fun B fr H => rl_introM rfl mt56_6 mb56_6 zf56_6 hd56_6 fr H, List.take_of_length_le]) <;> repeat' ((first | rw [condK_ndec] | rw [condK_dec] | rw [condK_b] | rw [guK_ndec] | rw [guK_dec] | rw [guK_b] | rw [guT_ndec] | rw [guT_dec] | rw [guT_b] | rw [guD_dec] | rw [guD_b]) <;> split <;> (try subst_vars) <;> (try simp (disch := first | omega | (simp only [vlen, rows32_len]; omega)) only [vall, w_i8, w_u8, w_i16, w_u16, w_i32, w_u32, w_i64, w_u64, lt_T, lt_F, le_T, le_F, nlt_T, nlt_F, nle_T, nle_F, List.take_of_length_le, gB, gcW, gcR, posIn, renA, renL, Chunk.ren, Chunk.refs, evOpD, touchD, stepC, isFresh, nFresh, freshOf, mkR, hole, evL, evH, opd, get, putD, ofVal, cellOf, loadE, behind, lenE, idxAddrE, idxE, lookE, lookM, addPtr, intE, strE, unE, convE, AV.int, AV.bool, AV.str, ivs, take, frameOf, firstRegion, refsA, refsL, one, cellsA, floatOk, apartT, List.map, if_true, if_false, E_P, E_glob0, E_glob1, reduceCtorEq, beq_self_eq_true, decide_true, decide_false, ↓reduceIte, Nat.reduceEqDiff, cond_true, cond_false, or_true, true_or, or_false, false_or, and_true, true_and, and_self, false_and, and_false, not_true, not_false_iff, Nat.reduceAdd, Nat.reduceSub, Nat.reduceMul, Nat.reduceLT, Nat.reduceLeDiff, Int.reduceToNat, Int.reduceLT, Int.reduceLE, Option.getD, Int.reduceMul, Int.reduceAdd, List.drop, List.take, Nat.reduceBEq, List.isEmpty, Int.reduceEq, Int.reduceNe, Int.reduceNeg, Int.reduceGT, Int.reduceGE, beq_true, beq_false, UInt8.reduceToNat, eqE, eq_self, foldE, maxE, minE, eq_T, eq_F, ndec, odec, adec, sdec, fillA, over, chop, List.replicate, leavesOk, leafOk, cellsEq, cellEq, E_byref, en56, bs91, h, sqC_drop, sqC_take, sqC_0, sqC_1, sqC_2, sqC_3, sqC_one, sqC_len, sqC_refs, sqC_ren, sqC_cn, show ∀ B fr H, execT E B 56 (Code.loop _) fr H = rlM E B 56 (loopAt Tryd.f56 0) [6, 7, 8, 9, 16, 17] [] (matF [(7, 1)] fr H).1 (matB [] (matF [(7, 1)] fr H).1 (matF [(7, 1)] fr H).2) from fun B fr H => rl_introM rfl mt56_6 mb56_6 zf56_6 hd56_6 fr H, List.take_of_length_le]))
  all_goals exact ⟨_, _, rfl, rfl⟩
theorem ik56 (p c : List UInt8) (ht : (p.length : Int) + c.length < 100000) (H : Hp) : isoK E (callT E) 56 [.i (.str p), .i (.str c)] H = some (.tup [.ref H.length 0 0 (decOut (p ++ c)).length, .i (.str (decRest (p ++ c)))], H ++ [.sl 1 0 (rows32 (decOut (p ++ c))) false]) := by
  obtain ⟨cc, L, h1, h2⟩ := c56 p c ht
  exact isoK_new2 rfl rfl rfl ⟨L, h1, h2⟩
end Go.VI

namespace Go.VI
open Go.Proofs
set_option maxRecDepth 100000
set_option linter.unusedSimpArgs false
set_option linter.unusedVariables false
set_option maxHeartbeats 4000000
def sizeB (a : Int) : Int := if 194 ≤ a ∧ a ≤ 223 then 2 else if 224 ≤ a ∧ a ≤ 239 then 3 else if 240 ≤ a ∧ a ≤ 244 then 4 else 0
def lowB (a : Int) (n : Nat) : Int := if n = 1 then (if a = 224 then 160 else if a = 240 then 144 else 128) else 128
def highB (a : Int) (n : Nat) : Int := if n = 1 then (if a = 237 then 159 else if a = 244 then 143 else 191) else 191
def headV (a : Int) (n : Nat) : Int := if n = 2 then a - 192 else if n = 3 then a - 224 else if n = 4 then a - 240 else 0
def valV (l : List Int) (v : Int) : Int := l.foldl (fun v b => v * 64 + b - 128) v
end Go.VI

namespace Go.VI
open Go.Proofs
set_option maxRecDepth 100000
set_option linter.unusedSimpArgs false
set_option linter.unusedVariables false
set_option maxHeartbeats 4000000
inductive RelK : List Int → Sq → Prop
  | none (s : Sq) (h : s.mi = 0) : RelK [] s
  | some (a : Int) (l : List Int) (s : Sq) (h1 : 0 ≤ a ∧ a ≤ 255) (h2 : (l.length : Int) + 1 < sizeB a) (h3 : ∀ b ∈ l, 128 ≤ b ∧ b ≤ 191) (hm : s.mi = sizeB a - (l.length + 1)) (hv : s.v = valV l (headV a (sizeB a).toNat))
      (hlo : s.lo = lowB a (l.length + 1)) (hhi : s.hi = highB a (l.length + 1)) : RelK (a :: l) s
end Go.VI

namespace Go.VI
open Go.Proofs
set_option maxRecDepth 100000
set_option linter.unusedSimpArgs false
set_option linter.unusedVariables false
set_option maxHeartbeats 4000000
theorem decOut_lenM (t : List UInt8) : (decOut t).length ≤ 2 * t.length := by
  have key : ∀ (l : List UInt8) (i : Nat) (d : Dec), (runD l i d).out.length ≤ d.out.length + 2 * l.length := by
    intro l
    induction l with
    | nil => intro i d; simp [runD]
    | cons b l ih =>
      intro i d
      have h1 := ih (i + 1) (stepD d i b.toNat)
      have h2 := stepD_len d i b.toNat
      simp only [runD, List.length_cons]; omega
  have := key t 0 ⟨sq0, [], 0⟩
  simpa [decOut, decD] using this
theorem decRest_lenM (t : List UInt8) : (decRest t).length ≤ t.length := by
  unfold decRest; split
  · exact Nat.zero_le _
  · simp
theorem stepD_rune {d : Dec} (h : SqOK d.s) (hr : ∀ c ∈ d.out, 0 ≤ c ∧ c ≤ 2147483647) (i b : Int) (h0 : 0 ≤ b) (h1 : b ≤ 255) : ∀ c ∈ (stepD d i b).out, 0 ≤ c ∧ c ≤ 2147483647 := by
  have ha : ∀ (l : List Int) (x : Int), (∀ c ∈ l, 0 ≤ c ∧ c ≤ 2147483647) → 0 ≤ x → x ≤ 2147483647 → ∀ c ∈ l ++ [x], 0 ≤ c ∧ c ≤ 2147483647 := by
    intro l x hl hx hx2 c hc
    rcases List.mem_append.1 hc with h | h
    · exact hl c h
    · rw [List.mem_singleton.1 h]; exact ⟨hx, hx2⟩
  unfold stepD
  split
  · rename_i hc
    simp only
    split
    · have : 0 ≤ d.s.v ∧ d.s.v < 32768 := by unfold SqOK at h; omega
      exact ha _ _ hr (by omega) (by omega)
    · exact hr
  · have ho : ∀ c ∈ (if 0 < d.s.mi then d.out ++ [65533] else d.out), 0 ≤ c ∧ c ≤ 2147483647 := by
      split
      · exact ha _ _ hr (by omega) (by omega)
      · exact hr
    simp only
    generalize (if 0 < d.s.mi then d.out ++ [65533] else d.out) = o at ho ⊢
    split
    · exact ha _ _ ho h0 (by omega)
    · split
      · exact ha _ _ ho (by omega) (by omega)
      · exact ho
theorem runD_rune : ∀ (l : List UInt8) (i : Nat) (d : Dec), SqOK d.s → (∀ c ∈ d.out, 0 ≤ c ∧ c ≤ 2147483647) → ∀ c ∈ (runD l i d).out, 0 ≤ c ∧ c ≤ 2147483647
  | [], i, d, h, hr => hr
  | b :: l, i, d, h, hr => by
    have hb : ((b.toNat : Nat) : Int) ≤ 255 := by have := b.toNat_lt; omega
    exact runD_rune l (i + 1) _ (stepD_ok h _ _ (by omega) hb) (stepD_rune h hr _ _ (by omega) hb)
theorem decOut_rune (t : List UInt8) : ∀ c ∈ decOut t, 0 ≤ c ∧ c ≤ 2147483647 := runD_rune t 0 ⟨sq0, [], 0⟩ (.inl rfl) (by simp)
def finS (t : List UInt8) : List Int := decOut t ++ if decRest t = [] then [] else [65533]
theorem finS_len (t : List UInt8) : (finS t).length ≤ 2 * t.length + 1 := by
  have := decOut_lenM t
  unfold finS; rw [List.length_append]; split <;> simp <;> omega
theorem c57 (t : List UInt8) (ht : (t.length : Int) < 50000) : ∃ L, callT E 57 [.i (.str t)] [] = some (.i (.sl 1 (rows32 (finS t)) false), L) := by
  have hd := fun H => ik56 [] t (by simp; omega) H
  rw [List.nil_append] at hd
  have hl := decOut_lenM t
  have hr := rows32_len (decOut t)
  have htk : List.take (decOut t).length (rows32 (decOut t)) = rows32 (decOut t) := List.take_of_length_le (by omega)
  unfold finS
  by_cases h0 : decRest t = []
  · rw [if_pos h0, List.append_nil]
    rw [callT_eq Tryd.func57 rfl fok57 (by simp [Tryd.ntmps57])]
    simp (disch := first | omega | (simp only [vlen, rows32_len]; omega)) only [vall, List.take_of_length_le, gB, gcW, gcR, posIn, renA, renL, Chunk.ren, Chunk.refs, evOpD, touchD, stepC, isFresh, nFresh, freshOf, mkR, hole, evL, evH, opd, get, putD, ofVal, cellOf, loadE, behind, lenE, idxAddrE, idxE, lookE, lookM, addPtr, intE, strE, unE, convE, AV.int, AV.bool, AV.str, ivs, take, frameOf, firstRegion, refsA, refsL, one, cellsA, floatOk, apartT, List.map, if_true, if_false, E_P, E_glob0, E_glob1, reduceCtorEq, beq_self_eq_true, ↓reduceIte, Nat.reduceEqDiff, cond_true, cond_false, Nat.reduceAdd, Nat.reduceSub, Nat.reduceMul, Nat.reduceLT, Nat.reduceLeDiff, Int.reduceToNat, Int.reduceLT, Int.reduceLE, Option.getD, Int.reduceMul, Int.reduceAdd, List.drop, List.take, Nat.reduceBEq, List.isEmpty, Int.reduceEq, Int.reduceNe, Int.reduceNeg, Int.reduceGT, Int.reduceGE, beq_true, beq_false, UInt8.reduceToNat, eqE, eq_self, foldE, maxE, minE, fillA, over, chop, List.replicate, leavesOk, leafOk, cellsEq, cellEq, E_byref, en57, bs91, hd, h0, hr, htk]
    exact ⟨_, rfl⟩
  · rw [if_neg h0]
    have hsn := rows32_snoc (decOut t) 65533
    have h0' : (decRest t == []) = false := by simp [h0]
    have hr2 := rows32_len (decOut t ++ [65533])
    have htk2 : List.take ((decOut t).length + 1) (rows32 (decOut t ++ [65533])) = rows32 (decOut t ++ [65533]) := List.take_of_length_le (by rw [hr2, List.length_append]; exact Nat.le_refl _)
    rw [callT_eq Tryd.func57 rfl fok57 (by simp [Tryd.ntmps57])]
    simp (disch := first | omega | (simp only [vlen, rows32_len]; omega)) only [vall, List.take_of_length_le, gB, gcW, gcR, posIn, renA, renL, Chunk.ren, Chunk.refs, evOpD, touchD, stepC, isFresh, nFresh, freshOf, mkR, hole, evL, evH, opd, get, putD, ofVal, cellOf, loadE, behind, lenE, idxAddrE, idxE, lookE, lookM, addPtr, intE, strE, unE, convE, AV.int, AV.bool, AV.str, ivs, take, frameOf, firstRegion, refsA, refsL, one, cellsA, floatOk, apartT, List.map, if_true, if_false, E_P, E_glob0, E_glob1, reduceCtorEq, beq_self_eq_true, ↓reduceIte, Nat.reduceEqDiff, cond_true, cond_false, Nat.reduceAdd, Nat.reduceSub, Nat.reduceMul, Nat.reduceLT, Nat.reduceLeDiff, Int.reduceToNat, Int.reduceLT, Int.reduceLE, Option.getD, Int.reduceMul, Int.reduceAdd, List.drop, List.take, Nat.reduceBEq, List.isEmpty, Int.reduceEq, Int.reduceNe, Int.reduceNeg, Int.reduceGT, Int.reduceGE, beq_true, beq_false, UInt8.reduceToNat, eqE, eq_self, foldE, maxE, minE, fillA, over, chop, List.replicate, leavesOk, leafOk, cellsEq, cellEq, E_byref, en57, bs91, hd, h0, h0', hr, hr2, htk, htk2, hsn]
    exact ⟨_, rfl⟩
theorem ik57 (t : List UInt8) (ht : (t.length : Int) < 50000) (H : Hp) : isoK E (callT E) 57 [.i (.str t)] H = some (.i (.sl 1 (rows32 (finS t)) false), H) := isoK_val rfl rfl rfl (c57 t ht)
theorem rows32_app (a b : List Int) : rows32 a ++ rows32 b = rows32 (a ++ b) := by simp [rows32]
theorem rows32_0 (a : Int) (l : List Int) : (rows32 (a :: l))[0]? = some [.v (.int .i32 a)] := rfl
def firstL (t : List UInt8) : List Int := decOut t ++ finS (decRest t)
def firstS (t : List UInt8) : Int := (firstL t).getD 0 0
theorem firstL_b (t : List UInt8) : ∀ c ∈ firstL t, 0 ≤ c ∧ c ≤ 2147483647 := by
  intro c hc
  unfold firstL finS at hc
  simp only [List.mem_append] at hc
  rcases hc with h | h | h
  · exact decOut_rune _ c h
  · exact decOut_rune _ c h
  · split at h
    · cases h
    · rw [List.mem_singleton.1 h]; decide
theorem firstS_b (t : List UInt8) : 0 ≤ firstS t ∧ firstS t ≤ 2147483647 := by
  unfold firstS
  rw [List.getD_eq_getElem?_getD]
  cases e : (firstL t)[0]? with
  | none => decide
  | some x => exact firstL_b t x (List.mem_of_getElem? e)
def codeG (g : Gl) : Int := if g.2.2 = 3 then 42 else firstS g.1
def charS (l : List Gl) (i : Int) : Int := if i < 0 ∨ (l.length : Int) ≤ i then 0 else codeG (l.getD i.toNat ([], false, 0))
def styleV (l : List Gl) (i : Int) : Int := if i < 0 ∨ (l.length : Int) ≤ i then 0 else (l.getD i.toNat ([], false, 0)).2.2
def okG (l : List Gl) : Prop := l.length ≤ 100 ∧ ∀ g ∈ l, g.1.length ≤ 40 ∧ -9223372036854775808 ≤ g.2.2 ∧ g.2.2 ≤ 9223372036854775807
theorem codeG_b (g : Gl) : 0 ≤ codeG g ∧ codeG g ≤ 2147483647 := by
  unfold codeG; split
  · decide
  · exact firstS_b _
theorem charS_b (l : List Gl) (i : Int) : -9223372036854775808 ≤ charS l i ∧ charS l i ≤ 9223372036854775807 := by
  unfold charS; split
  · decide
  · have := codeG_b (l.getD i.toNat ([], false, 0)); omega
theorem okG_at {l : List Gl} (h : okG l) (k : Nat) : (l.getD k ([], false, 0)).1.length ≤ 40 ∧ -9223372036854775808 ≤ (l.getD k ([], false, 0)).2.2 ∧ (l.getD k ([], false, 0)).2.2 ≤ 9223372036854775807 := by
  rw [List.getD_eq_getElem?_getD]
  cases e : l[k]? with
  | none => exact ⟨by decide, by decide, by decide⟩
  | some x => exact h.2 x (List.mem_of_getElem? e)
theorem ik41_in (l : List Gl) (hl : l.length ≤ 1000000) (X : List AV) (hX : ∀ B H, cnL B H X = X) (h1 : X[1]? = some (.i (.sl 3 (rowsG l) false))) (hx : X.length = 23) (hr : refsL X = []) (i : Int) (hi : 0 ≤ i ∧ i < l.length) (T : Hp) :
    isoK E (callT E) 41 [.ptr 0 0 0 0, .i (.v (.int .i64 i))] (.box X :: T) = some (.tup [.agg [.i (.str (l.getD i.toNat ([], false, 0)).1), .i (.v (.bool (l.getD i.toNat ([], false, 0)).2.1)), .i (.v (.int .i64 (l.getD i.toNat ([], false, 0)).2.2))], .i (.v (.bool true))], .box X :: T) :=
  isoK_mc rfl rfl rfl hr hr (c41_in l hl X hX h1 hx i hi) T
theorem ik41_out (l : List Gl) (hl : l.length ≤ 1000000) (X : List AV) (hX : ∀ B H, cnL B H X = X) (h1 : X[1]? = some (.i (.sl 3 (rowsG l) false))) (hx : X.length = 23) (hr : refsL X = []) (i : Int) (hi : i < 0 ∨ (l.length : Int) ≤ i) (T : Hp) :
    isoK E (callT E) 41 [.ptr 0 0 0 0, .i (.v (.int .i64 i))] (.box X :: T) = some (.tup [.agg [.i (.str []), .i (.v (.bool false)), .i (.v (.int .i64 0))], .i (.v (.bool false))], .box X :: T) :=
  isoK_mc rfl rfl rfl hr hr (c41_out l hl X hX h1 hx i hi) T
theorem c40 (l : List Gl) (hg : okG l) (X : List AV) (hX : ∀ B H, cnL B H X = X) (h1 : X[1]? = some (.i (.sl 3 (rowsG l) false))) (hx : X.length = 23) (hr : refsL X = []) (i : Int) :
    ∃ L, callT E 40 [.ptr 0 0 0 0, .i (.v (.int .i64 i))] [.box X] = some (.i (.v (.int .i64 (charS l i))), .box X :: L) := by
  unfold charS
  by_cases hi : i < 0 ∨ (l.length : Int) ≤ i
  · have hgl := fun T => ik41_out l (by have := hg.1; omega) X hX h1 hx hr i hi T
    rw [if_pos hi]
    rw [callT_eq Tryd.func40 rfl fok40 (by simp [Tryd.ntmps40])]
    simp (disch := first | omega | (simp only [vlen]; omega)) only [vall, List.take_of_length_le, gB, gcW, gcR, posIn, renA, renL, Chunk.ren, Chunk.refs, evOpD, touchD, stepC, isFresh, nFresh, freshOf, mkR, hole, evL, evH, opd, get, putD, ofVal, cellOf, loadE, behind, lenE, idxAddrE, idxE, lookE, lookM, addPtr, intE, strE, unE, convE, AV.int, AV.bool, AV.str, ivs, take, frameOf, firstRegion, refsA, refsL, one, cellsA, floatOk, apartT, List.map, if_true, if_false, E_P, E_glob0, E_glob1, reduceCtorEq, beq_self_eq_true, ↓reduceIte, Nat.reduceEqDiff, cond_true, cond_false, Nat.reduceAdd, Nat.reduceSub, Nat.reduceMul, Nat.reduceLT, Nat.reduceLeDiff, Int.reduceToNat, Int.reduceLT, Int.reduceLE, Option.getD, Int.reduceMul, Int.reduceAdd, List.drop, List.take, Nat.reduceBEq, List.isEmpty, Int.reduceEq, Int.reduceNe, Int.reduceNeg, Int.reduceGT, Int.reduceGE, beq_true, beq_false, UInt8.reduceToNat, eqE, eq_self, foldE, maxE, minE, fillA, over, chop, List.replicate, leavesOk, leafOk, cellsEq, cellEq, E_byref, en40, bs91, hgl, hX]
    exact ⟨_, rfl⟩
  · have hgl := fun T => ik41_in l (by have := hg.1; omega) X hX h1 hx hr i (by omega) T
    rw [if_neg hi]
    have hb := okG_at hg i.toNat
    generalize l.getD i.toNat ([], false, 0) = g at *
    obtain ⟨t, cc, s⟩ := g
    simp only at hgl hb
    unfold codeG
    simp only
    by_cases hs : s = 3
    · rw [if_pos hs]
      subst hs
      rw [callT_eq Tryd.func40 rfl fok40 (by simp [Tryd.ntmps40])]
      simp (disch := first | omega | (simp only [vlen]; omega)) only [vall, List.take_of_length_le, gB, gcW, gcR, posIn, renA, renL, Chunk.ren, Chunk.refs, evOpD, touchD, stepC, isFresh, nFresh, freshOf, mkR, hole, evL, evH, opd, get, putD, ofVal, cellOf, loadE, behind, lenE, idxAddrE, idxE, lookE, lookM, addPtr, intE, strE, unE, convE, AV.int, AV.bool, AV.str, ivs, take, frameOf, firstRegion, refsA, refsL, one, cellsA, floatOk, apartT, List.map, if_true, if_false, E_P, E_glob0, E_glob1, reduceCtorEq, beq_self_eq_true, ↓reduceIte, Nat.reduceEqDiff, cond_true, cond_false, Nat.reduceAdd, Nat.reduceSub, Nat.reduceMul, Nat.reduceLT, Nat.reduceLeDiff, Int.reduceToNat, Int.reduceLT, Int.reduceLE, Option.getD, Int.reduceMul, Int.reduceAdd, List.drop, List.take, Nat.reduceBEq, List.isEmpty, Int.reduceEq, Int.reduceNe, Int.reduceNeg, Int.reduceGT, Int.reduceGE, beq_true, beq_false, UInt8.reduceToNat, eqE, eq_self, foldE, maxE, minE, fillA, over, chop, List.replicate, leavesOk, leafOk, cellsEq, cellEq, E_byref, en40, bs91, hgl, hX]
      exact ⟨_, rfl⟩
    · rw [if_neg hs]
      have hd := fun H => ik56 [] t (by simp; omega) H
      rw [List.nil_append] at hd
      have hl := decOut_lenM t
      have hl2 := decRest_lenM t
      have hf := fun H => ik57 (decRest t) (by omega) H
      have hlf := finS_len (decRest t)
      have hap := rows32_app (decOut t) (finS (decRest t))
      have htk : List.take (decOut t).length (rows32 (decOut t)) = rows32 (decOut t) := List.take_of_length_le (by rw [rows32_len]; exact Nat.le_refl _)
      have hln : (firstL t).length = (decOut t).length + (finS (decRest t)).length := by simp [firstL]
      have hb3 := firstL_b t
      rw [show decOut t ++ finS (decRest t) = firstL t from rfl] at hap
      unfold firstS
      generalize firstL t = F at *
      generalize decOut t = D at *
      generalize finS (decRest t) = D2 at *
      cases F with
      | nil =>
        rw [show ([] : List Int).getD 0 0 = 0 from rfl]
        rw [List.length_nil] at hln
        rw [callT_eq Tryd.func40 rfl fok40 (by simp [Tryd.ntmps40])]
        simp (disch := first | omega | (simp only [vlen, rows32_len]; omega)) only [vall, List.take_of_length_le, gB, gcW, gcR, posIn, renA, renL, Chunk.ren, Chunk.refs, evOpD, touchD, stepC, isFresh, nFresh, freshOf, mkR, hole, evL, evH, opd, get, putD, ofVal, cellOf, loadE, behind, lenE, idxAddrE, idxE, lookE, lookM, addPtr, intE, strE, unE, convE, AV.int, AV.bool, AV.str, ivs, take, frameOf, firstRegion, refsA, refsL, one, cellsA, floatOk, apartT, List.map, if_true, if_false, E_P, E_glob0, E_glob1, reduceCtorEq, beq_self_eq_true, ↓reduceIte, Nat.reduceEqDiff, cond_true, cond_false, Nat.reduceAdd, Nat.reduceSub, Nat.reduceMul, Nat.reduceLT, Nat.reduceLeDiff, Int.reduceToNat, Int.reduceLT, Int.reduceLE, Option.getD, Int.reduceMul, Int.reduceAdd, List.drop, List.take, Nat.reduceBEq, List.isEmpty, Int.reduceEq, Int.reduceNe, Int.reduceNeg, Int.reduceGT, Int.reduceGE, beq_true, beq_false, UInt8.reduceToNat, eqE, eq_self, foldE, maxE, minE, fillA, over, chop, List.replicate, leavesOk, leafOk, cellsEq, cellEq, E_byref, en40, bs91, hgl, hX, hs, hd, hf, hap, htk, rows32_len]
        exact ⟨_, rfl⟩
      | cons a F =>
        rw [show (a :: F).getD 0 0 = a from rfl]
        rw [List.length_cons] at hln
        have hrow := rows32_0 a F
        have hba := hb3 a (List.mem_cons_self)
        rw [callT_eq Tryd.func40 rfl fok40 (by simp [Tryd.ntmps40])]
        simp (disch := first | omega | (simp only [vlen, rows32_len]; omega)) only [vall, List.take_of_length_le, gB, gcW, gcR, posIn, renA, renL, Chunk.ren, Chunk.refs, evOpD, touchD, stepC, isFresh, nFresh, freshOf, mkR, hole, evL, evH, opd, get, putD, ofVal, cellOf, loadE, behind, lenE, idxAddrE, idxE, lookE, lookM, addPtr, intE, strE, unE, convE, AV.int, AV.bool, AV.str, ivs, take, frameOf, firstRegion, refsA, refsL, one, cellsA, floatOk, apartT, List.map, if_true, if_false, E_P, E_glob0, E_glob1, reduceCtorEq, beq_self_eq_true, ↓reduceIte, Nat.reduceEqDiff, cond_true, cond_false, Nat.reduceAdd, Nat.reduceSub, Nat.reduceMul, Nat.reduceLT, Nat.reduceLeDiff, Int.reduceToNat, Int.reduceLT, Int.reduceLE, Option.getD, Int.reduceMul, Int.reduceAdd, List.drop, List.take, Nat.reduceBEq, List.isEmpty, Int.reduceEq, Int.reduceNe, Int.reduceNeg, Int.reduceGT, Int.reduceGE, beq_true, beq_false, UInt8.reduceToNat, eqE, eq_self, foldE, maxE, minE, fillA, over, chop, List.replicate, leavesOk, leafOk, cellsEq, cellEq, E_byref, en40, bs91, hgl, hX, hs, hd, hf, hap, htk, hrow, rows32_len]
        exact ⟨_, rfl⟩
theorem ik40 (l : List Gl) (hg : okG l) (X : List AV) (hX : ∀ B H, cnL B H X = X) (h1 : X[1]? = some (.i (.sl 3 (rowsG l) false))) (hx : X.length = 23) (hr : refsL X = []) (i : Int) (T : Hp) :
    isoK E (callT E) 40 [.ptr 0 0 0 0, .i (.v (.int .i64 i))] (.box X :: T) = some (.i (.v (.int .i64 (charS l i))), .box X :: T) :=
  isoK_mc rfl rfl rfl hr hr (c40 l hg X hX h1 hx hr i) T
end Go.VI

namespace Go.VI
open Go.Proofs
set_option maxRecDepth 100000
set_option linter.unusedSimpArgs false
set_option linter.unusedVariables false
set_option maxHeartbeats 4000000
structure Kk where
  (st : List Int) (d : Nat) (f : Bool)
def okK (k : Kk) : Prop := k.st.length = 16 ∧ k.d ≤ 16 ∧ ∀ x ∈ k.st, -999999999 ≤ x ∧ x ≤ 999999999
def popV (k : Kk) : Int := if k.d = 0 then 0 else k.st.getD (k.d - 1) 0
def popK (k : Kk) : Kk := ⟨k.st, k.d - 1, k.f || decide (k.d = 0)⟩
def pushK (k : Kk) (n : Int) : Kk := if k.d = 16 then ⟨k.st, 16, true⟩ else ⟨k.st.set k.d (limS n), k.d + 1, k.f⟩
def mcK (row : Int) (g : IV) (c w r : Int) (k : Kk) : List AV := mc row g c w r k.st k.d k.f
theorem limS_b (n : Int) : -999999999 ≤ limS n ∧ limS n ≤ 999999999 := by unfold limS; omega
theorem getD_b {l : List Int} (h : ∀ x ∈ l, -999999999 ≤ x ∧ x ≤ 999999999) (k : Nat) : -999999999 ≤ l.getD k 0 ∧ l.getD k 0 ≤ 999999999 := by
  rw [List.getD_eq_getElem?_getD]
  cases e : l[k]? with
  | none => decide
  | some x => exact h x (List.mem_of_getElem? e)
theorem popV_b {k : Kk} (h : okK k) : -999999999 ≤ popV k ∧ popV k ≤ 999999999 := by
  unfold popV; split
  · decide
  · exact getD_b h.2.2 _
theorem popK_ok {k : Kk} (h : okK k) : okK (popK k) := ⟨h.1, by have := h.2.1; simp only [popK]; omega, h.2.2⟩
theorem pushK_ok {k : Kk} (h : okK k) (n : Int) : okK (pushK k n) := by
  unfold pushK; split
  · exact ⟨h.1, Nat.le_refl _, h.2.2⟩
  · rename_i h0
    refine ⟨by simp only [List.length_set]; exact h.1, by have := h.2.1; simp only; omega, ?_⟩
    intro x hx
    rcases List.mem_or_eq_of_mem_set hx with h1 | h1
    · exact h.2.2 x h1
    · rw [h1]; exact limS_b n
section
variable {row : Int} {g : IV} {c w r : Int} {k : Kk}
theorem mcK_len (h : okK k) : (mcK row g c w r k).length = 23 := mc_len h.1
theorem mcK_0 : (mcK row g c w r k)[0]? = some (.i (.v (.int .i64 row))) := rfl
theorem mcK_1 : (mcK row g c w r k)[1]? = some (.i g) := rfl
theorem mcK_2 : (mcK row g c w r k)[2]? = some (.i (.v (.int .i64 c))) := rfl
theorem mcK_3 : (mcK row g c w r k)[3]? = some (.i (.v (.int .i64 w))) := rfl
theorem mcK_22 (h : okK k) : (mcK row g c w r k)[22]? = some (.i (.v (.bool k.f))) := mc_22 h.1
theorem mcK_put2 (x : Int) : List.take 2 (mcK row g c w r k) ++ [.i (.v (.int .i64 x))] ++ List.drop 3 (mcK row g c w r k) = mcK row g x w r k := rfl
theorem mcK_put3 (x : Int) : List.take 3 (mcK row g c w r k) ++ [.i (.v (.int .i64 x))] ++ List.drop 4 (mcK row g c w r k) = mcK row g c x r k := rfl
theorem mcK_cn (B : Nat) (H : Hp) : cnL B H (mcK row g c w r k) = mcK row g c w r k := mc_cn _ _ _ _ _ _ _ _ _ _
theorem mcK_refs : refsL (mcK row g c w r k) = [] := mc_refs trivial
theorem mcK_ren (ρ : Nat → Option Nat) : renL ρ (mcK row g c w r k) = mcK row g c w r k := mc_ren ρ
end
theorem ik24_K (row : Int) (g : IV) (c w r : Int) (k : Kk) (hk : okK k) (T : Hp) :
    isoK E (callT E) 24 [.ptr 0 0 0 0] (.box (mcK row g c w r k) :: T) = some (.i (.v (.int .i64 (popV k))), .box (mcK row g c w r (popK k)) :: T) :=
  ik24 row g c w r k.st k.d k.f hk.1 hk.2.1 T
theorem ik39_K (row : Int) (g : IV) (c w r : Int) (k : Kk) (n : Int) (hn : -9223372036854775808 ≤ n ∧ n ≤ 9223372036854775807) (hk : okK k) (T : Hp) :
    isoK E (callT E) 39 [.ptr 0 0 0 0, .i (.v (.int .i64 n))] (.box (mcK row g c w r k) :: T) = some (.tup [], .box (mcK row g c w r (pushK k n)) :: T) := by
  have h := ik39 row g c w r k.st k.d k.f n hn hk.1 hk.2.1 T
  rw [show mcK row g c w r k = mc row g c w r k.st k.d k.f from rfl, h]
  unfold pushK
  split <;> rfl
def bI (n : Int) : Prop := -9223372036854775808 ≤ n ∧ n ≤ 9223372036854775807
def isV (op : Int) : Prop := op = 1 ∨ op = 2 ∨ op = 3 ∨ op = 6 ∨ op = 7
instance (op : Int) : Decidable (isV op) := by unfold isV; infer_instance
def valK (row c w ln op arg : Int) : Int := if op = 1 then arg else if op = 2 then row else if op = 3 then ln else if op = 6 then c else w
theorem pushM_K (row : Int) (g : IV) (c w r : Int) (k : Kk) (n : Int) : pushM row g c w r k.st k.d k.f n = mcK row g c w r (pushK k n) := by
  unfold pushM pushK mcK
  split <;> rfl
theorem ik37_K (row : Int) (rows : List (List IV)) (c w r : Int) (k : Kk) (op arg : Int) (hb : (-9223372036854775808 ≤ arg ∧ arg ≤ 9223372036854775807) ∧ (-9223372036854775808 ≤ row ∧ row ≤ 9223372036854775807) ∧ (-9223372036854775808 ≤ c ∧ c ≤ 9223372036854775807) ∧ (-9223372036854775808 ≤ w ∧ w ≤ 9223372036854775807) ∧ rows.length ≤ 1000000) (hk : okK k) (hv : isV op) (T : Hp) :
    isoK E (callT E) 37 [.ptr 0 0 0 0, .agg [.i (.v (.int .i64 op)), .i (.v (.int .i64 arg))]] (.box (mcK row (.sl 3 rows false) c w r k) :: T) = some (.i (.v (.bool true)), .box (mcK row (.sl 3 rows false) c w r (pushK k (valK row c w rows.length op arg))) :: T) := by
  rw [← pushM_K]
  refine isoK_mc rfl rfl rfl mcK_refs pushM_refs ?_ T
  rcases hv with rfl | rfl | rfl | rfl | rfl
  · exact c37_1 row rows c w r k.st k.d k.f arg hb hk.1 hk.2.1
  · exact c37_2 row rows c w r k.st k.d k.f arg hb hk.1 hk.2.1
  · exact c37_3 row rows c w r k.st k.d k.f arg hb hk.1 hk.2.1
  · exact c37_6 row rows c w r k.st k.d k.f arg hb hk.1 hk.2.1
  · exact c37_7 row rows c w r k.st k.d k.f arg hb hk.1 hk.2.1
theorem ik37_N (row : Int) (g : IV) (c w r : Int) (k : Kk) (op arg : Int) (hv : ¬ isV op) (T : Hp) :
    isoK E (callT E) 37 [.ptr 0 0 0 0, .agg [.i (.v (.int .i64 op)), .i (.v (.int .i64 arg))]] (.box (mcK row g c w r k) :: T) = some (.i (.v (.bool false)), .box (mcK row g c w r k) :: T) :=
  ik37_0 _ (fun B H => mcK_cn B H) mcK_refs op arg (by unfold isV at hv; omega) T
def twoS (op a b : Int) : Int := if op = 8 then a + b else if op = 9 then a - b else if op = 10 then a * b else if op = 11 then (if a = b then 1 else 0) else (if a < b then 1 else 0)
theorem mul_b {a b : Int} (ha : -999999999 ≤ a ∧ a ≤ 999999999) (hb : -999999999 ≤ b ∧ b ≤ 999999999) : -9223372036854775808 ≤ a * b ∧ a * b ≤ 9223372036854775807 := by
  have h1 : (a * b).natAbs ≤ 999999999 * 999999999 := by
    rw [Int.natAbs_mul]; exact Nat.mul_le_mul (by omega) (by omega)
  generalize a * b = x at *
  omega
theorem twoS_b {a b : Int} (op : Int) (ha : -999999999 ≤ a ∧ a ≤ 999999999) (hb : -999999999 ≤ b ∧ b ≤ 999999999) : -9223372036854775808 ≤ twoS op a b ∧ twoS op a b ≤ 9223372036854775807 := by
  have := mul_b ha hb
  unfold twoS
  repeat' split
  all_goals first | exact this | omega
theorem ik50 (a b : Int) (ha : -999999999 ≤ a ∧ a ≤ 999999999) (hb : -999999999 ≤ b ∧ b ≤ 999999999) (H : Hp) : isoK E (callT E) 50 [.i (.v (.int .i64 a)), .i (.v (.int .i64 b))] H = some (.i (.v (.int .i64 (a + b))), H) := isoK_val rfl rfl rfl (by
  rw [callT_eq Tryd.func50 rfl fok50 (by simp [Tryd.ntmps50])]
  simp (disch := first | omega | (simp only [vlen]; omega)) only [vall, List.take_of_length_le, gB, gcW, gcR, posIn, renA, renL, Chunk.ren, Chunk.refs, evOpD, touchD, stepC, isFresh, nFresh, freshOf, mkR, hole, evL, evH, opd, get, putD, ofVal, cellOf, loadE, behind, lenE, idxAddrE, idxE, lookE, lookM, addPtr, intE, strE, unE, convE, AV.int, AV.bool, AV.str, ivs, take, frameOf, firstRegion, refsA, refsL, one, cellsA, floatOk, apartT, List.map, if_true, if_false, E_P, E_glob0, E_glob1, reduceCtorEq, beq_self_eq_true, ↓reduceIte, Nat.reduceEqDiff, cond_true, cond_false, Nat.reduceAdd, Nat.reduceSub, Nat.reduceMul, Nat.reduceLT, Nat.reduceLeDiff, Int.reduceToNat, Int.reduceLT, Int.reduceLE, Option.getD, Int.reduceMul, Int.reduceAdd, List.drop, List.take, Nat.reduceBEq, List.isEmpty, Int.reduceEq, Int.reduceNe, Int.reduceNeg, Int.reduceGT, Int.reduceGE, beq_true, beq_false, UInt8.reduceToNat, eqE, eq_self, foldE, maxE, minE, fillA, over, chop, List.replicate, leavesOk, leafOk, cellsEq, cellEq, E_byref, en50]
  exact ⟨_, rfl⟩)
theorem ik51 (a b : Int) (ha : -999999999 ≤ a ∧ a ≤ 999999999) (hb : -999999999 ≤ b ∧ b ≤ 999999999) (H : Hp) : isoK E (callT E) 51 [.i (.v (.int .i64 a)), .i (.v (.int .i64 b))] H = some (.i (.v (.int .i64 (a - b))), H) := isoK_val rfl rfl rfl (by
  rw [callT_eq Tryd.func51 rfl fok51 (by simp [Tryd.ntmps51])]
  simp (disch := first | omega | (simp only [vlen]; omega)) only [vall, List.take_of_length_le, gB, gcW, gcR, posIn, renA, renL, Chunk.ren, Chunk.refs, evOpD, touchD, stepC, isFresh, nFresh, freshOf, mkR, hole, evL, evH, opd, get, putD, ofVal, cellOf, loadE, behind, lenE, idxAddrE, idxE, lookE, lookM, addPtr, intE, strE, unE, convE, AV.int, AV.bool, AV.str, ivs, take, frameOf, firstRegion, refsA, refsL, one, cellsA, floatOk, apartT, List.map, if_true, if_false, E_P, E_glob0, E_glob1, reduceCtorEq, beq_self_eq_true, ↓reduceIte, Nat.reduceEqDiff, cond_true, cond_false, Nat.reduceAdd, Nat.reduceSub, Nat.reduceMul, Nat.reduceLT, Nat.reduceLeDiff, Int.reduceToNat, Int.reduceLT, Int.reduceLE, Option.getD, Int.reduceMul, Int.reduceAdd, List.drop, List.take, Nat.reduceBEq, List.isEmpty, Int.reduceEq, Int.reduceNe, Int.reduceNeg, Int.reduceGT, Int.reduceGE, beq_true, beq_false, UInt8.reduceToNat, eqE, eq_self, foldE, maxE, minE, fillA, over, chop, List.replicate, leavesOk, leafOk, cellsEq, cellEq, E_byref, en51]
  exact ⟨_, rfl⟩)
theorem ik52 (a b : Int) (ha : -999999999 ≤ a ∧ a ≤ 999999999) (hb : -999999999 ≤ b ∧ b ≤ 999999999) (H : Hp) : isoK E (callT E) 52 [.i (.v (.int .i64 a)), .i (.v (.int .i64 b))] H = some (.i (.v (.int .i64 (a * b))), H) := isoK_val rfl rfl rfl (by
  have hm := mul_b ha hb
  generalize hx : a * b = x at *
  rw [callT_eq Tryd.func52 rfl fok52 (by simp [Tryd.ntmps52])]
  simp (disch := first | omega | (simp only [vlen]; omega)) only [vall, List.take_of_length_le, gB, gcW, gcR, posIn, renA, renL, Chunk.ren, Chunk.refs, evOpD, touchD, stepC, isFresh, nFresh, freshOf, mkR, hole, evL, evH, opd, get, putD, ofVal, cellOf, loadE, behind, lenE, idxAddrE, idxE, lookE, lookM, addPtr, intE, strE, unE, convE, AV.int, AV.bool, AV.str, ivs, take, frameOf, firstRegion, refsA, refsL, one, cellsA, floatOk, apartT, List.map, if_true, if_false, E_P, E_glob0, E_glob1, reduceCtorEq, beq_self_eq_true, ↓reduceIte, Nat.reduceEqDiff, cond_true, cond_false, Nat.reduceAdd, Nat.reduceSub, Nat.reduceMul, Nat.reduceLT, Nat.reduceLeDiff, Int.reduceToNat, Int.reduceLT, Int.reduceLE, Option.getD, Int.reduceMul, Int.reduceAdd, List.drop, List.take, Nat.reduceBEq, List.isEmpty, Int.reduceEq, Int.reduceNe, Int.reduceNeg, Int.reduceGT, Int.reduceGE, beq_true, beq_false, UInt8.reduceToNat, eqE, eq_self, foldE, maxE, minE, fillA, over, chop, List.replicate, leavesOk, leafOk, cellsEq, cellEq, E_byref, en52, hx]
  exact ⟨_, rfl⟩)
theorem ik53 (a b : Int) (H : Hp) : isoK E (callT E) 53 [.i (.v (.int .i64 a)), .i (.v (.int .i64 b))] H = some (.i (.v (.int .i64 (if a = b then 1 else 0))), H) := isoK_val rfl rfl rfl (by
  by_cases h : a = b
  · have ht := fun H => ik42 true H
    rw [if_pos rfl] at ht
    rw [if_pos h]
    subst h
    rw [callT_eq Tryd.func53 rfl fok53 (by simp [Tryd.ntmps53])]
    simp (disch := first | omega | (simp only [vlen]; omega)) only [vall, List.take_of_length_le, gB, gcW, gcR, posIn, renA, renL, Chunk.ren, Chunk.refs, evOpD, touchD, stepC, isFresh, nFresh, freshOf, mkR, hole, evL, evH, opd, get, putD, ofVal, cellOf, loadE, behind, lenE, idxAddrE, idxE, lookE, lookM, addPtr, intE, strE, unE, convE, AV.int, AV.bool, AV.str, ivs, take, frameOf, firstRegion, refsA, refsL, one, cellsA, floatOk, apartT, List.map, if_true, if_false, E_P, E_glob0, E_glob1, reduceCtorEq, beq_self_eq_true, ↓reduceIte, Nat.reduceEqDiff, cond_true, cond_false, Nat.reduceAdd, Nat.reduceSub, Nat.reduceMul, Nat.reduceLT, Nat.reduceLeDiff, Int.reduceToNat, Int.reduceLT, Int.reduceLE, Option.getD, Int.reduceMul, Int.reduceAdd, List.drop, List.take, Nat.reduceBEq, List.isEmpty, Int.reduceEq, Int.reduceNe, Int.reduceNeg, Int.reduceGT, Int.reduceGE, beq_true, beq_false, UInt8.reduceToNat, eqE, eq_self, foldE, maxE, minE, fillA, over, chop, List.replicate, leavesOk, leafOk, cellsEq, cellEq, E_byref, en53, ht]
    exact ⟨_, rfl⟩
  · have ht := fun H => ik42 false H
    rw [if_neg (by decide)] at ht
    rw [if_neg h]
    rw [callT_eq Tryd.func53 rfl fok53 (by simp [Tryd.ntmps53])]
    simp (disch := first | omega | (simp only [vlen]; omega)) only [vall, List.take_of_length_le, gB, gcW, gcR, posIn, renA, renL, Chunk.ren, Chunk.refs, evOpD, touchD, stepC, isFresh, nFresh, freshOf, mkR, hole, evL, evH, opd, get, putD, ofVal, cellOf, loadE, behind, lenE, idxAddrE, idxE, lookE, lookM, addPtr, intE, strE, unE, convE, AV.int, AV.bool, AV.str, ivs, take, frameOf, firstRegion, refsA, refsL, one, cellsA, floatOk, apartT, List.map, if_true, if_false, E_P, E_glob0, E_glob1, reduceCtorEq, beq_self_eq_true, ↓reduceIte, Nat.reduceEqDiff, cond_true, cond_false, Nat.reduceAdd, Nat.reduceSub, Nat.reduceMul, Nat.reduceLT, Nat.reduceLeDiff, Int.reduceToNat, Int.reduceLT, Int.reduceLE, Option.getD, Int.reduceMul, Int.reduceAdd, List.drop, List.take, Nat.reduceBEq, List.isEmpty, Int.reduceEq, Int.reduceNe, Int.reduceNeg, Int.reduceGT, Int.reduceGE, beq_true, beq_false, UInt8.reduceToNat, eqE, eq_self, foldE, maxE, minE, fillA, over, chop, List.replicate, leavesOk, leafOk, cellsEq, cellEq, E_byref, en53, ht, h]
    exact ⟨_, rfl⟩)
theorem ik54 (a b : Int) (H : Hp) : isoK E (callT E) 54 [.i (.v (.int .i64 a)), .i (.v (.int .i64 b))] H = some (.i (.v (.int .i64 (if a < b then 1 else 0))), H) := isoK_val rfl rfl rfl (by
  by_cases h : a < b
  · have ht := fun H => ik42 true H
    rw [if_pos rfl] at ht
    rw [if_pos h]
    rw [callT_eq Tryd.func54 rfl fok54 (by simp [Tryd.ntmps54])]
    simp (disch := first | omega | (simp only [vlen]; omega)) only [vall, List.take_of_length_le, gB, gcW, gcR, posIn, renA, renL, Chunk.ren, Chunk.refs, evOpD, touchD, stepC, isFresh, nFresh, freshOf, mkR, hole, evL, evH, opd, get, putD, ofVal, cellOf, loadE, behind, lenE, idxAddrE, idxE, lookE, lookM, addPtr, intE, strE, unE, convE, AV.int, AV.bool, AV.str, ivs, take, frameOf, firstRegion, refsA, refsL, one, cellsA, floatOk, apartT, List.map, if_true, if_false, E_P, E_glob0, E_glob1, reduceCtorEq, beq_self_eq_true, ↓reduceIte, Nat.reduceEqDiff, cond_true, cond_false, Nat.reduceAdd, Nat.reduceSub, Nat.reduceMul, Nat.reduceLT, Nat.reduceLeDiff, Int.reduceToNat, Int.reduceLT, Int.reduceLE, Option.getD, Int.reduceMul, Int.reduceAdd, List.drop, List.take, Nat.reduceBEq, List.isEmpty, Int.reduceEq, Int.reduceNe, Int.reduceNeg, Int.reduceGT, Int.reduceGE, beq_true, beq_false, UInt8.reduceToNat, eqE, eq_self, foldE, maxE, minE, fillA, over, chop, List.replicate, leavesOk, leafOk, cellsEq, cellEq, E_byref, en54, ht, h]
    exact ⟨_, rfl⟩
  · have ht := fun H => ik42 false H
    rw [if_neg (by decide)] at ht
    rw [if_neg h]
    rw [callT_eq Tryd.func54 rfl fok54 (by simp [Tryd.ntmps54])]
    simp (disch := first | omega | (simp only [vlen]; omega)) only [vall, List.take_of_length_le, gB, gcW, gcR, posIn, renA, renL, Chunk.ren, Chunk.refs, evOpD, touchD, stepC, isFresh, nFresh, freshOf, mkR, hole, evL, evH, opd, get, putD, ofVal, cellOf, loadE, behind, lenE, idxAddrE, idxE, lookE, lookM, addPtr, intE, strE, unE, convE, AV.int, AV.bool, AV.str, ivs, take, frameOf, firstRegion, refsA, refsL, one, cellsA, floatOk, apartT, List.map, if_true, if_false, E_P, E_glob0, E_glob1, reduceCtorEq, beq_self_eq_true, ↓reduceIte, Nat.reduceEqDiff, cond_true, cond_false, Nat.reduceAdd, Nat.reduceSub, Nat.reduceMul, Nat.reduceLT, Nat.reduceLeDiff, Int.reduceToNat, Int.reduceLT, Int.reduceLE, Option.getD, Int.reduceMul, Int.reduceAdd, List.drop, List.take, Nat.reduceBEq, List.isEmpty, Int.reduceEq, Int.reduceNe, Int.reduceNeg, Int.reduceGT, Int.reduceGE, beq_true, beq_false, UInt8.reduceToNat, eqE, eq_self, foldE, maxE, minE, fillA, over, chop, List.replicate, leavesOk, leafOk, cellsEq, cellEq, E_byref, en54, ht, h]
    exact ⟨_, rfl⟩)
end Go.VI

