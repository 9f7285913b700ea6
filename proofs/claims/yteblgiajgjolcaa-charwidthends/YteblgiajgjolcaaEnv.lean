/- VI: the environment of this seat: which slots live behind each region, and closed facts on the types. Printed by program. -/
import Derived.Test.YteblgiajgjolcaaProg
import Derived.Test.YteblgiajgjolcaaVI22
import Derived.KernelRfl
set_option linter.unusedVariables false
namespace Go.VI
open Go.Proofs
def keepT : List (Nat × List (Nat × List Nat)) := [
  (2, [(0, [])]),
  (3, [(0, [0]), (1, [2])]),
  (4, [(0, [0]), (1, [0, 3]), (2, [0, 3, 4]), (3, [0, 3, 4, 8, 9, 10]), (4, [0, 3, 4, 8, 9, 10, 11]), (5, [0, 3, 4, 5, 6, 8, 9, 10]), (6, [0, 3, 4, 6, 8, 9, 10, 34]), (7, [2]), (8, [0, 3, 4, 8, 9, 10]), (9, [0, 3, 4, 8, 9, 10]), (10, [2])]),
  (5, [(0, [0]), (1, [0, 3]), (2, [0, 3, 31]), (3, [2]), (4, [0, 32, 33, 34]), (5, [0, 32, 33, 34, 35]), (6, [0, 5, 32, 33, 34]), (7, [0, 32, 33, 34, 65]), (8, [2]), (9, [0, 32, 33, 34]), (10, [2])]),
  (6, [(0, [0]), (1, [0, 3]), (2, [2])]),
  (7, [(0, [0]), (1, [3]), (2, [2])]),
  (8, [(0, [0]), (1, [0, 5]), (2, [2]), (3, [2])]),
  (9, [(0, [0, 1]), (1, [0, 1, 11]), (2, [4]), (3, [0, 1, 5]), (4, [4])]),
  (10, [(0, [0]), (1, [0, 8]), (2, [2]), (3, [0, 3]), (4, [0, 3, 10, 11, 12]), (5, [0, 3, 10, 11, 12, 13]), (6, [0, 3, 5, 10, 11, 12]), (7, [0, 3, 10, 11, 12, 17]), (8, [0, 3, 10, 11, 12, 17, 18]), (9, [0, 3, 10, 11, 12]), (10, [0, 3, 10, 11, 12, 22]), (11, [0, 3, 10, 11, 12]), (12, [0, 3, 10, 11, 12]), (13, [2])]),
  (11, [(0, [0]), (1, [0, 3]), (2, [2]), (3, [0, 14]), (4, [2]), (5, [17]), (6, [2]), (7, [2])]),
  (12, [(0, [0]), (1, [0, 3]), (2, [2]), (3, [0, 14]), (4, [2]), (5, [17]), (6, [2]), (7, [2])]),
  (13, [(0, [0]), (1, [2])]),
  (14, [(0, [0]), (1, [2])]),
  (15, [(0, []), (1, [0])]),
  (16, [(0, []), (1, [0])]),
  (17, [(0, [0]), (1, [0, 3]), (2, [3, 6, 7, 8]), (3, [3, 6, 7, 8, 9]), (4, [3, 5, 6, 7, 8]), (5, [3, 6, 7, 8]), (6, [3, 6, 7, 8]), (7, [2])]),
  (18, [(0, [0]), (1, [0, 3]), (2, [0, 3, 4]), (3, [0, 3, 4, 8]), (4, [0, 3, 4]), (5, [0, 3, 4, 16]), (6, [0, 3, 4]), (7, [2])]),
  (19, [(0, [1]), (1, [2])]),
  (20, [(0, [0, 1]), (1, [0, 1, 5]), (2, [0, 1, 5, 9]), (3, [0, 1, 5]), (4, [0, 1, 5, 27]), (5, [4]), (6, [4])]),
  (21, [(0, []), (1, [0])]),
  (22, [(0, []), (1, [0])]),
  (23, [(0, []), (1, [0])]),
  (24, [(0, [0, 1]), (1, [0, 1, 4, 5]), (2, [0, 1, 4, 5, 11]), (3, [0, 1, 4, 5, 6]), (4, [0, 1, 4, 5, 6, 22]), (5, [0, 1, 4, 5]), (6, [0, 1, 4, 5]), (7, [3])])]
def headT : List (Nat × List (Nat × List Nat)) := [
  (4, [(4, [0, 3, 4, 8, 9, 10])]),
  (5, [(5, [0, 32, 33, 34])]),
  (10, [(5, [0, 3, 10, 11, 12])]),
  (17, [(3, [3, 6, 7, 8])]),
  (18, [(3, [0, 3, 4])]),
  (20, [(2, [0, 1, 5])]),
  (24, [(2, [0, 1, 4, 5])])]
def lk2 (t : List (Nat × List (Nat × List Nat))) (f i : Nat) : List Nat := match t.lookup f with | some l => (l.lookup i).getD [] | none => []
def floT : List (Nat × List (Nat × List (Nat × Nat))) := [
  (4, [(6, [])]),
  (5, [(7, [])]),
  (24, [(1, [])])]
def lkF (t : List (Nat × List (Nat × List (Nat × Nat)))) (f i : Nat) : List (Nat × Nat) := match t.lookup f with | some l => (l.lookup i).getD [] | none => []
noncomputable def E : Env := { P := Try.prog, keep := lk2 keepT, head := lk2 headT, flo := lkF floT, glob := fun _ => none, byref := fun f => false, ext := fun _ => none }
theorem E_P : E.P = Try.prog := rfl
theorem E_glob (g : Nat) : E.glob g = none := rfl
theorem E_ext (f : Nat) : E.ext f = none := rfl
theorem E_byref (f : Nat) : E.byref f = false := rfl
theorem agg21 : aggO Try.prog 21 = some false := by kernel_rfl
theorem agg25 : aggO Try.prog 25 = some false := by kernel_rfl
theorem agg27 : aggO Try.prog 27 = some true := by kernel_rfl
theorem agg28 : aggO Try.prog 28 = some false := by kernel_rfl
theorem agg3 : aggO Try.prog 3 = some false := by kernel_rfl
theorem agg30 : aggO Try.prog 30 = some false := by kernel_rfl
theorem arr25 : arrO Try.prog 25 = none := by kernel_rfl
theorem arr27 : arrO Try.prog 27 = some (2, 21) := by kernel_rfl
theorem arr30 : arrO Try.prog 30 = none := by kernel_rfl
theorem arrz27 : arrO Try.prog 27 = some (2, 21) := by kernel_rfl
theorem eqg27 : eqgO Try.prog 27 = false := by kernel_rfl
theorem kind21 : kindO Try.prog 21 = some .i32 := by kernel_rfl
theorem kind25 : kindO Try.prog 25 = none := by kernel_rfl
theorem kind27 : kindO Try.prog 27 = none := by kernel_rfl
theorem kind28 : kindO Try.prog 28 = some .u16 := by kernel_rfl
theorem kind3 : kindO Try.prog 3 = some .i64 := by kernel_rfl
theorem kind30 : kindO Try.prog 30 = none := by kernel_rfl
theorem lv27 : leaves Try.prog 9 27 = some [.int .i32, .int .i32] := by kernel_rfl
theorem sl21 : slO Try.prog 21 = none := by kernel_rfl
theorem sl25 : slO Try.prog 25 = some 27 := by kernel_rfl
theorem sl27 : slO Try.prog 27 = none := by kernel_rfl
theorem sl28 : slO Try.prog 28 = none := by kernel_rfl
theorem sl3 : slO Try.prog 3 = none := by kernel_rfl
theorem sl30 : slO Try.prog 30 = some 21 := by kernel_rfl
theorem str21 : isStrO Try.prog 21 = false := by kernel_rfl
theorem str25 : isStrO Try.prog 25 = false := by kernel_rfl
theorem str27 : isStrO Try.prog 27 = false := by kernel_rfl
theorem str28 : isStrO Try.prog 28 = false := by kernel_rfl
theorem str3 : isStrO Try.prog 3 = false := by kernel_rfl
theorem str30 : isStrO Try.prog 30 = false := by kernel_rfl
theorem sz21 : szO Try.prog 21 = some 1 := by kernel_rfl
theorem sz25 : szO Try.prog 25 = some 1 := by kernel_rfl
theorem sz27 : szO Try.prog 27 = some 2 := by kernel_rfl
theorem und4 : Try.prog.underlying 4 = some .bool := by kernel_rfl
theorem zero21 : zeroO Try.prog 21 = some (.i (.v (.int .i32 0))) := by kernel_rfl
theorem zero27 : zeroO Try.prog 27 = some (.agg [.i (.v (.int .i32 0)), .i (.v (.int .i32 0))]) := by kernel_rfl
theorem fok2 : fnOk E 2 = true := by kernel_rfl
theorem ent2 : enterOk E 2 = true := by kernel_rfl
theorem fok3 : fnOk E 3 = true := by kernel_rfl
theorem ent3 : enterOk E 3 = true := by kernel_rfl
theorem fok4 : fnOk E 4 = true := by kernel_rfl
theorem ent4 : enterOk E 4 = true := by kernel_rfl
theorem fok5 : fnOk E 5 = true := by kernel_rfl
theorem ent5 : enterOk E 5 = true := by kernel_rfl
theorem fok6 : fnOk E 6 = true := by kernel_rfl
theorem ent6 : enterOk E 6 = true := by kernel_rfl
theorem fok7 : fnOk E 7 = true := by kernel_rfl
theorem ent7 : enterOk E 7 = true := by kernel_rfl
theorem fok8 : fnOk E 8 = true := by kernel_rfl
theorem ent8 : enterOk E 8 = true := by kernel_rfl
theorem fok9 : fnOk E 9 = true := by kernel_rfl
theorem ent9 : enterOk E 9 = true := by kernel_rfl
theorem fok10 : fnOk E 10 = true := by kernel_rfl
theorem ent10 : enterOk E 10 = true := by kernel_rfl
theorem fok11 : fnOk E 11 = true := by kernel_rfl
theorem ent11 : enterOk E 11 = true := by kernel_rfl
theorem fok12 : fnOk E 12 = true := by kernel_rfl
theorem ent12 : enterOk E 12 = true := by kernel_rfl
theorem fok13 : fnOk E 13 = true := by kernel_rfl
theorem ent13 : enterOk E 13 = true := by kernel_rfl
theorem fok14 : fnOk E 14 = true := by kernel_rfl
theorem ent14 : enterOk E 14 = true := by kernel_rfl
theorem fok15 : fnOk E 15 = true := by kernel_rfl
theorem ent15 : enterOk E 15 = true := by kernel_rfl
theorem fok16 : fnOk E 16 = true := by kernel_rfl
theorem ent16 : enterOk E 16 = true := by kernel_rfl
theorem fok17 : fnOk E 17 = true := by kernel_rfl
theorem ent17 : enterOk E 17 = true := by kernel_rfl
theorem fok18 : fnOk E 18 = true := by kernel_rfl
theorem ent18 : enterOk E 18 = true := by kernel_rfl
theorem fok19 : fnOk E 19 = true := by kernel_rfl
theorem ent19 : enterOk E 19 = true := by kernel_rfl
theorem fok20 : fnOk E 20 = true := by kernel_rfl
theorem ent20 : enterOk E 20 = true := by kernel_rfl
theorem fok21 : fnOk E 21 = true := by kernel_rfl
theorem ent21 : enterOk E 21 = true := by kernel_rfl
theorem fok22 : fnOk E 22 = true := by kernel_rfl
theorem ent22 : enterOk E 22 = true := by kernel_rfl
theorem fok23 : fnOk E 23 = true := by kernel_rfl
theorem ent23 : enterOk E 23 = true := by kernel_rfl
theorem fok24 : fnOk E 24 = true := by kernel_rfl
theorem ent24 : enterOk E 24 = true := by kernel_rfl
theorem kp2_0 : E.keep 2 0 = [] := by kernel_rfl
theorem kp3_0 : E.keep 3 0 = [0] := by kernel_rfl
theorem kp3_1 : E.keep 3 1 = [2] := by kernel_rfl
theorem kp4_0 : E.keep 4 0 = [0] := by kernel_rfl
theorem kp4_1 : E.keep 4 1 = [0, 3] := by kernel_rfl
theorem kp4_2 : E.keep 4 2 = [0, 3, 4] := by kernel_rfl
theorem kp4_3 : E.keep 4 3 = [0, 3, 4, 8, 9, 10] := by kernel_rfl
theorem kp4_4 : E.keep 4 4 = [0, 3, 4, 8, 9, 10, 11] := by kernel_rfl
theorem kp4_5 : E.keep 4 5 = [0, 3, 4, 5, 6, 8, 9, 10] := by kernel_rfl
theorem kp4_6 : E.keep 4 6 = [0, 3, 4, 6, 8, 9, 10, 34] := by kernel_rfl
theorem kp4_7 : E.keep 4 7 = [2] := by kernel_rfl
theorem kp4_8 : E.keep 4 8 = [0, 3, 4, 8, 9, 10] := by kernel_rfl
theorem kp4_9 : E.keep 4 9 = [0, 3, 4, 8, 9, 10] := by kernel_rfl
theorem kp4_10 : E.keep 4 10 = [2] := by kernel_rfl
theorem kp5_0 : E.keep 5 0 = [0] := by kernel_rfl
theorem kp5_1 : E.keep 5 1 = [0, 3] := by kernel_rfl
theorem kp5_2 : E.keep 5 2 = [0, 3, 31] := by kernel_rfl
theorem kp5_3 : E.keep 5 3 = [2] := by kernel_rfl
theorem kp5_4 : E.keep 5 4 = [0, 32, 33, 34] := by kernel_rfl
theorem kp5_5 : E.keep 5 5 = [0, 32, 33, 34, 35] := by kernel_rfl
theorem kp5_6 : E.keep 5 6 = [0, 5, 32, 33, 34] := by kernel_rfl
theorem kp5_7 : E.keep 5 7 = [0, 32, 33, 34, 65] := by kernel_rfl
theorem kp5_8 : E.keep 5 8 = [2] := by kernel_rfl
theorem kp5_9 : E.keep 5 9 = [0, 32, 33, 34] := by kernel_rfl
theorem kp5_10 : E.keep 5 10 = [2] := by kernel_rfl
theorem kp6_0 : E.keep 6 0 = [0] := by kernel_rfl
theorem kp6_1 : E.keep 6 1 = [0, 3] := by kernel_rfl
theorem kp6_2 : E.keep 6 2 = [2] := by kernel_rfl
theorem kp7_0 : E.keep 7 0 = [0] := by kernel_rfl
theorem kp7_1 : E.keep 7 1 = [3] := by kernel_rfl
theorem kp7_2 : E.keep 7 2 = [2] := by kernel_rfl
theorem kp8_0 : E.keep 8 0 = [0] := by kernel_rfl
theorem kp8_1 : E.keep 8 1 = [0, 5] := by kernel_rfl
theorem kp8_2 : E.keep 8 2 = [2] := by kernel_rfl
theorem kp8_3 : E.keep 8 3 = [2] := by kernel_rfl
theorem kp9_0 : E.keep 9 0 = [0, 1] := by kernel_rfl
theorem kp9_1 : E.keep 9 1 = [0, 1, 11] := by kernel_rfl
theorem kp9_2 : E.keep 9 2 = [4] := by kernel_rfl
theorem kp9_3 : E.keep 9 3 = [0, 1, 5] := by kernel_rfl
theorem kp9_4 : E.keep 9 4 = [4] := by kernel_rfl
theorem kp10_0 : E.keep 10 0 = [0] := by kernel_rfl
theorem kp10_1 : E.keep 10 1 = [0, 8] := by kernel_rfl
theorem kp10_2 : E.keep 10 2 = [2] := by kernel_rfl
theorem kp10_3 : E.keep 10 3 = [0, 3] := by kernel_rfl
theorem kp10_4 : E.keep 10 4 = [0, 3, 10, 11, 12] := by kernel_rfl
theorem kp10_5 : E.keep 10 5 = [0, 3, 10, 11, 12, 13] := by kernel_rfl
theorem kp10_6 : E.keep 10 6 = [0, 3, 5, 10, 11, 12] := by kernel_rfl
theorem kp10_7 : E.keep 10 7 = [0, 3, 10, 11, 12, 17] := by kernel_rfl
theorem kp10_8 : E.keep 10 8 = [0, 3, 10, 11, 12, 17, 18] := by kernel_rfl
theorem kp10_9 : E.keep 10 9 = [0, 3, 10, 11, 12] := by kernel_rfl
theorem kp10_10 : E.keep 10 10 = [0, 3, 10, 11, 12, 22] := by kernel_rfl
theorem kp10_11 : E.keep 10 11 = [0, 3, 10, 11, 12] := by kernel_rfl
theorem kp10_12 : E.keep 10 12 = [0, 3, 10, 11, 12] := by kernel_rfl
theorem kp10_13 : E.keep 10 13 = [2] := by kernel_rfl
theorem kp11_0 : E.keep 11 0 = [0] := by kernel_rfl
theorem kp11_1 : E.keep 11 1 = [0, 3] := by kernel_rfl
theorem kp11_2 : E.keep 11 2 = [2] := by kernel_rfl
theorem kp11_3 : E.keep 11 3 = [0, 14] := by kernel_rfl
theorem kp11_4 : E.keep 11 4 = [2] := by kernel_rfl
theorem kp11_5 : E.keep 11 5 = [17] := by kernel_rfl
theorem kp11_6 : E.keep 11 6 = [2] := by kernel_rfl
theorem kp11_7 : E.keep 11 7 = [2] := by kernel_rfl
theorem kp12_0 : E.keep 12 0 = [0] := by kernel_rfl
theorem kp12_1 : E.keep 12 1 = [0, 3] := by kernel_rfl
theorem kp12_2 : E.keep 12 2 = [2] := by kernel_rfl
theorem kp12_3 : E.keep 12 3 = [0, 14] := by kernel_rfl
theorem kp12_4 : E.keep 12 4 = [2] := by kernel_rfl
theorem kp12_5 : E.keep 12 5 = [17] := by kernel_rfl
theorem kp12_6 : E.keep 12 6 = [2] := by kernel_rfl
theorem kp12_7 : E.keep 12 7 = [2] := by kernel_rfl
theorem kp13_0 : E.keep 13 0 = [0] := by kernel_rfl
theorem kp13_1 : E.keep 13 1 = [2] := by kernel_rfl
theorem kp14_0 : E.keep 14 0 = [0] := by kernel_rfl
theorem kp14_1 : E.keep 14 1 = [2] := by kernel_rfl
theorem kp15_0 : E.keep 15 0 = [] := by kernel_rfl
theorem kp15_1 : E.keep 15 1 = [0] := by kernel_rfl
theorem kp16_0 : E.keep 16 0 = [] := by kernel_rfl
theorem kp16_1 : E.keep 16 1 = [0] := by kernel_rfl
theorem kp17_0 : E.keep 17 0 = [0] := by kernel_rfl
theorem kp17_1 : E.keep 17 1 = [0, 3] := by kernel_rfl
theorem kp17_2 : E.keep 17 2 = [3, 6, 7, 8] := by kernel_rfl
theorem kp17_3 : E.keep 17 3 = [3, 6, 7, 8, 9] := by kernel_rfl
theorem kp17_4 : E.keep 17 4 = [3, 5, 6, 7, 8] := by kernel_rfl
theorem kp17_5 : E.keep 17 5 = [3, 6, 7, 8] := by kernel_rfl
theorem kp17_6 : E.keep 17 6 = [3, 6, 7, 8] := by kernel_rfl
theorem kp17_7 : E.keep 17 7 = [2] := by kernel_rfl
theorem kp18_0 : E.keep 18 0 = [0] := by kernel_rfl
theorem kp18_1 : E.keep 18 1 = [0, 3] := by kernel_rfl
theorem kp18_2 : E.keep 18 2 = [0, 3, 4] := by kernel_rfl
theorem kp18_3 : E.keep 18 3 = [0, 3, 4, 8] := by kernel_rfl
theorem kp18_4 : E.keep 18 4 = [0, 3, 4] := by kernel_rfl
theorem kp18_5 : E.keep 18 5 = [0, 3, 4, 16] := by kernel_rfl
theorem kp18_6 : E.keep 18 6 = [0, 3, 4] := by kernel_rfl
theorem kp18_7 : E.keep 18 7 = [2] := by kernel_rfl
theorem kp19_0 : E.keep 19 0 = [1] := by kernel_rfl
theorem kp19_1 : E.keep 19 1 = [2] := by kernel_rfl
theorem kp20_0 : E.keep 20 0 = [0, 1] := by kernel_rfl
theorem kp20_1 : E.keep 20 1 = [0, 1, 5] := by kernel_rfl
theorem kp20_2 : E.keep 20 2 = [0, 1, 5, 9] := by kernel_rfl
theorem kp20_3 : E.keep 20 3 = [0, 1, 5] := by kernel_rfl
theorem kp20_4 : E.keep 20 4 = [0, 1, 5, 27] := by kernel_rfl
theorem kp20_5 : E.keep 20 5 = [4] := by kernel_rfl
theorem kp20_6 : E.keep 20 6 = [4] := by kernel_rfl
theorem kp21_0 : E.keep 21 0 = [] := by kernel_rfl
theorem kp21_1 : E.keep 21 1 = [0] := by kernel_rfl
theorem kp22_0 : E.keep 22 0 = [] := by kernel_rfl
theorem kp22_1 : E.keep 22 1 = [0] := by kernel_rfl
theorem kp23_0 : E.keep 23 0 = [] := by kernel_rfl
theorem kp23_1 : E.keep 23 1 = [0] := by kernel_rfl
theorem kp24_0 : E.keep 24 0 = [0, 1] := by kernel_rfl
theorem kp24_1 : E.keep 24 1 = [0, 1, 4, 5] := by kernel_rfl
theorem kp24_2 : E.keep 24 2 = [0, 1, 4, 5, 11] := by kernel_rfl
theorem kp24_3 : E.keep 24 3 = [0, 1, 4, 5, 6] := by kernel_rfl
theorem kp24_4 : E.keep 24 4 = [0, 1, 4, 5, 6, 22] := by kernel_rfl
theorem kp24_5 : E.keep 24 5 = [0, 1, 4, 5] := by kernel_rfl
theorem kp24_6 : E.keep 24 6 = [0, 1, 4, 5] := by kernel_rfl
theorem kp24_7 : E.keep 24 7 = [3] := by kernel_rfl
theorem hd4_4 : E.head 4 4 = [0, 3, 4, 8, 9, 10] := by kernel_rfl
theorem hd5_5 : E.head 5 5 = [0, 32, 33, 34] := by kernel_rfl
theorem hd10_5 : E.head 10 5 = [0, 3, 10, 11, 12] := by kernel_rfl
theorem hd17_3 : E.head 17 3 = [3, 6, 7, 8] := by kernel_rfl
theorem hd18_3 : E.head 18 3 = [0, 3, 4] := by kernel_rfl
theorem hd20_2 : E.head 20 2 = [0, 1, 5] := by kernel_rfl
theorem hd24_2 : E.head 24 2 = [0, 1, 4, 5] := by kernel_rfl
theorem fl4_6 : E.flo 4 6 = [] := by kernel_rfl
theorem fl5_7 : E.flo 5 7 = [] := by kernel_rfl
theorem fl24_1 : E.flo 24 1 = [] := by kernel_rfl
theorem ci2 (args : List AV) (H : Hp) : callIso E (callT E) 2 args H = prepK E (callT E) 2 (prep H args) := iso_prep rfl args
theorem ci3 (args : List AV) (H : Hp) : callIso E (callT E) 3 args H = prepK E (callT E) 3 (prep H args) := iso_prep rfl args
theorem ci4 (args : List AV) (H : Hp) : callIso E (callT E) 4 args H = prepK E (callT E) 4 (prep H args) := iso_prep rfl args
theorem ci5 (args : List AV) (H : Hp) : callIso E (callT E) 5 args H = prepK E (callT E) 5 (prep H args) := iso_prep rfl args
theorem ci6 (args : List AV) (H : Hp) : callIso E (callT E) 6 args H = prepK E (callT E) 6 (prep H args) := iso_prep rfl args
theorem ci7 (args : List AV) (H : Hp) : callIso E (callT E) 7 args H = prepK E (callT E) 7 (prep H args) := iso_prep rfl args
theorem ci8 (args : List AV) (H : Hp) : callIso E (callT E) 8 args H = prepK E (callT E) 8 (prep H args) := iso_prep rfl args
theorem ci9 (args : List AV) (H : Hp) : callIso E (callT E) 9 args H = prepK E (callT E) 9 (prep H args) := iso_prep rfl args
theorem ci10 (args : List AV) (H : Hp) : callIso E (callT E) 10 args H = prepK E (callT E) 10 (prep H args) := iso_prep rfl args
theorem ci11 (args : List AV) (H : Hp) : callIso E (callT E) 11 args H = prepK E (callT E) 11 (prep H args) := iso_prep rfl args
theorem ci12 (args : List AV) (H : Hp) : callIso E (callT E) 12 args H = prepK E (callT E) 12 (prep H args) := iso_prep rfl args
theorem ci13 (args : List AV) (H : Hp) : callIso E (callT E) 13 args H = prepK E (callT E) 13 (prep H args) := iso_prep rfl args
theorem ci14 (args : List AV) (H : Hp) : callIso E (callT E) 14 args H = prepK E (callT E) 14 (prep H args) := iso_prep rfl args
theorem ci15 (args : List AV) (H : Hp) : callIso E (callT E) 15 args H = prepK E (callT E) 15 (prep H args) := iso_prep rfl args
theorem ci16 (args : List AV) (H : Hp) : callIso E (callT E) 16 args H = prepK E (callT E) 16 (prep H args) := iso_prep rfl args
theorem ci17 (args : List AV) (H : Hp) : callIso E (callT E) 17 args H = prepK E (callT E) 17 (prep H args) := iso_prep rfl args
theorem ci18 (args : List AV) (H : Hp) : callIso E (callT E) 18 args H = prepK E (callT E) 18 (prep H args) := iso_prep rfl args
theorem ci19 (args : List AV) (H : Hp) : callIso E (callT E) 19 args H = prepK E (callT E) 19 (prep H args) := iso_prep rfl args
theorem ci20 (args : List AV) (H : Hp) : callIso E (callT E) 20 args H = prepK E (callT E) 20 (prep H args) := iso_prep rfl args
theorem ci21 (args : List AV) (H : Hp) : callIso E (callT E) 21 args H = prepK E (callT E) 21 (prep H args) := iso_prep rfl args
theorem ci22 (args : List AV) (H : Hp) : callIso E (callT E) 22 args H = prepK E (callT E) 22 (prep H args) := iso_prep rfl args
theorem ci23 (args : List AV) (H : Hp) : callIso E (callT E) 23 args H = prepK E (callT E) 23 (prep H args) := iso_prep rfl args
theorem ci24 (args : List AV) (H : Hp) : callIso E (callT E) 24 args H = prepK E (callT E) 24 (prep H args) := iso_prep rfl args
theorem bd27 (parts : List (Nat × AV)) : buildE E 27 parts = aggK (fillA 1 [.i (.v (.int .i32 0)), .i (.v (.int .i32 0))] parts) := bd_arr (n := 2) (e := 21) (by kernel_rfl) (by kernel_rfl) (by kernel_rfl) parts
theorem cv3_21 (cl : CallF) (fr : Fr) (H : Hp) (x : Operand) : evOp E cl (.convert 3 21 x) fr H = pK H (convE E 3 21 (opd E fr x)) := op_convert _ _ _ (by kernel_rfl)
theorem cv21_3 (cl : CallF) (fr : Fr) (H : Hp) (x : Operand) : evOp E cl (.convert 21 3 x) fr H = pK H (convE E 21 3 (opd E fr x)) := op_convert _ _ _ (by kernel_rfl)
theorem cv28_3 (cl : CallF) (fr : Fr) (H : Hp) (x : Operand) : evOp E cl (.convert 28 3 x) fr H = pK H (convE E 28 3 (opd E fr x)) := op_convert _ _ _ (by kernel_rfl)
theorem cv28_21 (cl : CallF) (fr : Fr) (H : Hp) (x : Operand) : evOp E cl (.convert 28 21 x) fr H = pK H (convE E 28 21 (opd E fr x)) := op_convert _ _ _ (by kernel_rfl)
theorem ap30_30 (H : Hp) (s x : AV) : appendE E H 30 30 s x = apS 1 H s (srcE H x) := ap_eq (by kernel_rfl) H s x
theorem bs25 (H : Hp) (n : Nat) (hn : n * 2 ≤ 16777216) (parts : List (Nat × AV)) : buildSliceE E H 25 n parts = bsF 2 n H (fillA 2 (List.replicate n [.i (.v (.int .i32 0)), .i (.v (.int .i32 0))]).flatten parts) := bs_eq (by kernel_rfl) H n hn parts
theorem bs30 (H : Hp) (n : Nat) (hn : n * 1 ≤ 16777216) (parts : List (Nat × AV)) : buildSliceE E H 30 n parts = bsF 1 n H (fillA 1 (List.replicate n [.i (.v (.int .i32 0))]).flatten parts) := bs_eq (by kernel_rfl) H n hn parts
theorem st21 (H : Hp) (c g r k : Nat) (v : AV) : storeE E H 21 (.ptr c g r k) v = if (cellsA v).length = 1 ∧ (cellsA v).all one = true then stC 1 H c g r k (cellsA v) H[c]? else none := st_eq sz21 H c g r k v
theorem st25 (H : Hp) (c g r k : Nat) (v : AV) : storeE E H 25 (.ptr c g r k) v = if (cellsA v).length = 1 ∧ (cellsA v).all one = true then stC 1 H c g r k (cellsA v) H[c]? else none := st_eq sz25 H c g r k v
theorem st27 (H : Hp) (c g r k : Nat) (v : AV) : storeE E H 27 (.ptr c g r k) v = if (cellsA v).length = 2 ∧ (cellsA v).all one = true then stC 2 H c g r k (cellsA v) H[c]? else none := st_eq sz27 H c g r k v
end Go.VI
