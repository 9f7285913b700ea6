/- VI: the environment of this seat: which slots live behind each region, and closed facts on the types. Printed by program. -/
import Derived.Test.YtokpgkknmapjlaaProg
import Derived.Test.YtokpgkknmapjlaaVI27
import Derived.KernelRfl
set_option linter.unusedVariables false
set_option linter.defProp false
namespace Go.VI
open Go.Proofs
def keepT : List (Nat × List (Nat × List Nat)) := [
  (2, [(0, [])]),
  (3, [(0, [1, 2, 3, 4]), (1, [1, 2, 3, 4, 11]), (2, [8]), (3, [8])]),
  (4, [(0, [1, 2, 3, 4, 5]), (1, [1, 2, 3, 4, 5, 19]), (2, [10]), (3, [1, 2, 3, 4, 5, 11]), (4, [10])]),
  (5, [(0, [1, 2, 3, 4]), (1, [1, 2, 3, 4, 12]), (2, [8]), (3, [1, 2, 3, 4, 9]), (4, [8])]),
  (6, [(0, [1, 2, 3]), (1, [1, 2, 3, 7, 8]), (2, [3, 7, 8, 9]), (3, [7, 8, 9, 84]), (4, [6]), (5, [9, 10, 11]), (6, [9, 10, 11, 12]), (7, [9, 10, 11, 12, 13]), (8, [9, 10, 11, 12, 13, 92]), (9, [9, 10, 11, 12, 13]), (10, [9, 10, 11, 12, 13, 103]), (11, [9, 10, 11, 12, 13]), (12, [6])]),
  (7, [(0, [1, 2, 3]), (1, [1, 2, 3, 7]), (2, [1, 2, 3, 7, 12]), (3, [2, 3, 7]), (4, [2, 3, 7]), (5, [2, 3, 7, 8]), (6, [2, 3, 7, 8]), (7, [2, 3, 7, 8]), (8, [2, 3, 7, 8, 33]), (9, [2, 3, 7, 8]), (10, [6])]),
  (8, [(0, [1, 2, 3, 4, 5]), (1, [1, 2, 3, 4, 5, 13]), (2, [10]), (3, [10])]),
  (9, [(0, [1, 2, 3, 4, 5, 6]), (1, [1, 2, 3, 4, 5, 6, 23]), (2, [12]), (3, [3, 4, 5, 6, 13]), (4, [6, 13, 14, 15]), (5, [12])]),
  (10, [(0, [1, 2, 3]), (1, [1, 2, 3, 7]), (2, [1, 2, 7, 8]), (3, [1, 2, 7, 22]), (4, [6]), (5, [1, 2, 7, 9]), (6, [1, 2, 9, 10, 11]), (7, [1, 2, 9, 10, 11, 32]), (8, [6]), (9, [1, 2, 9, 10, 11, 45]), (10, [6]), (11, [6])]),
  (11, [(0, []), (1, [1]), (2, [1, 2]), (3, [0])]),
  (12, [(0, [0]), (1, [0])]),
  (13, [(0, [0]), (1, [0])]),
  (14, [(0, [2, 3, 4, 5, 8]), (1, [2, 3, 4, 8, 9]), (2, [3, 4, 8, 9, 14, 15, 16]), (3, [3, 4, 8, 9, 14, 15, 16, 17]), (4, [3, 4, 8, 9, 11, 14, 15, 16]), (5, [3, 4, 8, 9, 12, 14, 15, 16]), (6, [3, 4, 8, 9, 12, 14, 15, 16, 24]), (7, [3, 4, 8, 9, 14, 15, 16]), (8, [3, 4, 8, 9, 14, 15, 16]), (9, [8])]),
  (15, [(0, [1, 2, 3, 4, 8]), (1, [1, 2, 3, 4, 8, 9]), (2, [1, 2, 3, 4, 8, 9, 14]), (3, [1, 2, 3, 4, 8, 9]), (4, [1, 2, 3, 4, 8, 9, 10]), (5, [1, 2, 3, 4, 8, 9, 10, 26]), (6, [1, 2, 3, 4, 8, 9, 10]), (7, [1, 2, 3, 4, 8, 9, 10, 34]), (8, [1, 2, 3, 4, 8, 9, 10]), (9, [1, 2, 3, 4, 8, 9, 10, 38]), (10, [1, 2, 3, 4, 8, 9, 39]), (11, [1, 2, 3, 4, 8, 9, 39, 40]), (12, [1, 2, 3, 4, 8, 9]), (13, [1, 2, 3, 4, 8, 9, 39, 44]), (14, [1, 2, 3, 4, 8, 9]), (15, [1, 2, 3, 4, 8, 9, 39, 48]), (16, [1, 2, 3, 4, 8, 9]), (17, [1, 2, 3, 4, 8, 9, 39, 52]), (18, [1, 2, 3, 4, 8, 9]), (19, [1, 2, 3, 4, 8, 9, 39, 56]), (20, [1, 2, 3, 4, 8, 9, 39, 56]), (21, [1, 2, 3, 4, 8, 9, 39, 56]), (22, [1, 2, 3, 4, 8, 9]), (23, [1, 2, 3, 4, 8, 9, 62]), (24, [1, 2, 3, 4, 8, 9]), (25, [8])]),
  (16, [(0, [1]), (1, [2])]),
  (17, [(0, [1, 2]), (1, [1, 2, 5]), (2, [1, 2, 5, 15]), (3, [1, 5]), (4, [1, 28]), (5, [4]), (6, [1, 6]), (7, [6, 7]), (8, [6, 38, 39, 40]), (9, [6, 38, 39, 40, 41]), (10, [6, 9, 38, 39, 40]), (11, [6, 38, 39, 40]), (12, [6, 38, 39, 40]), (13, [4])]),
  (18, [(0, [1, 2, 3, 6]), (1, [1, 2, 3, 6, 12]), (2, [6]), (3, [2, 3, 6, 14]), (4, [2, 3, 6, 14, 15]), (5, [3, 6]), (6, [2, 3, 6, 20]), (7, [3, 6]), (8, [6])]),
  (19, [(0, [1, 2, 3, 6]), (1, [1, 2, 3, 6, 12]), (2, [6]), (3, [1, 2, 3, 6, 15]), (4, [1, 2, 3, 6]), (5, [2, 3, 6, 20]), (6, [3, 6]), (7, [6])]),
  (20, [(0, [1, 2, 4]), (1, [1, 2, 4, 10]), (2, [2, 4]), (3, [4])]),
  (21, [(0, [1, 2, 4]), (1, [1, 2, 4, 10]), (2, [2, 4]), (3, [4])]),
  (22, [(0, [1, 2]), (1, [1, 2, 5]), (2, [1, 2, 5, 12]), (3, [1, 5]), (4, [1, 25]), (5, [4]), (6, [1, 6]), (7, [4])]),
  (23, [(0, [1, 2]), (1, [1, 2]), (2, [1, 2]), (3, [2])]),
  (24, [(0, [0]), (1, [2])]),
  (25, [(0, [0]), (1, [0, 3]), (2, [2]), (3, [0, 14]), (4, [2]), (5, [17]), (6, [2]), (7, [2])]),
  (26, [(0, [0, 1, 2]), (1, [0, 1, 2, 6]), (2, [2, 7]), (3, [2, 7, 8]), (4, [4]), (5, [2, 11]), (6, [4]), (7, [4]), (8, [0, 2, 15]), (9, [4]), (10, [2, 16]), (11, [2, 16, 17]), (12, [4]), (13, [2, 16, 20]), (14, [4]), (15, [2, 16, 23]), (16, [4]), (17, [2, 16, 26]), (18, [4]), (19, [2, 16, 29]), (20, [2, 16, 29]), (21, [2, 16, 29]), (22, [4]), (23, [2, 34]), (24, [4]), (25, [4])]),
  (27, [(0, [0, 1]), (1, [4])]),
  (28, [(0, [0]), (1, [2])]),
  (29, [(0, [1]), (1, [2])]),
  (30, [(0, []), (1, [0])]),
  (31, [(0, [0, 1]), (1, [4])]),
  (32, [(0, []), (1, [0])]),
  (33, [(0, [0, 1]), (1, [0, 1, 4, 5]), (2, [0, 1, 4, 5, 11]), (3, [0, 1, 4, 5, 6]), (4, [0, 1, 4, 5, 6, 22]), (5, [0, 1, 4, 5]), (6, [0, 1, 4, 5]), (7, [3])])]
def headT : List (Nat × List (Nat × List Nat)) := [
  (6, [(8, [9, 10, 11, 12, 13])]),
  (14, [(3, [3, 4, 8, 9, 14, 15, 16])]),
  (15, [(2, [1, 2, 3, 4, 8, 9])]),
  (17, [(9, [6, 38, 39, 40])]),
  (33, [(2, [0, 1, 4, 5])])]
def lk2 (t : List (Nat × List (Nat × List Nat))) (f i : Nat) : List Nat := match t.lookup f with | some l => (l.lookup i).getD [] | none => []
def floT : List (Nat × List (Nat × List (Nat × Nat))) := [
  (3, [(3, [(8, 9)])]),
  (4, [(4, [(4, 9), (8, 9)])]),
  (5, [(4, [(5, 10), (9, 10), (17, 18)])]),
  (6, [(1, [(0, 3), (3, 5), (4, 5), (0, 8), (3, 8), (4, 8), (5, 8), (0, 10), (3, 10), (4, 10), (5, 10), (8, 10), (9, 10), (0, 11), (3, 11), (4, 11), (5, 11), (8, 11), (9, 11), (10, 11)]), (5, [(1, 2)]), (10, [])]),
  (7, [(6, [(4, 8), (5, 8)]), (10, [(2, 3), (10, 11)])]),
  (8, [(3, [(3, 4), (12, 13), (21, 22)])]),
  (9, [(4, [(3, 4), (0, 7), (3, 7), (4, 7), (6, 7), (0, 8), (3, 8), (4, 8), (6, 8), (7, 8)]), (5, [(14, 15), (28, 29)])]),
  (10, [(6, [(2, 3)])]),
  (33, [(1, [])])]
def lkF (t : List (Nat × List (Nat × List (Nat × Nat)))) (f i : Nat) : List (Nat × Nat) := match t.lookup f with | some l => (l.lookup i).getD [] | none => []
noncomputable def E : Env := { P := Try.prog, keep := lk2 keepT, head := lk2 headT, flo := lkF floT, hol := fun f i => [(6, 1), (9, 4)].contains (f, i), glob := fun _ => none, byref := fun f => false, ext := fun f => if f = 31 then some extIndexByte else none }
theorem E_P : E.P = Try.prog := rfl
theorem E_glob (g : Nat) : E.glob g = none := rfl
theorem xn2 : E.ext 2 = none := rfl
theorem xn3 : E.ext 3 = none := rfl
theorem xn4 : E.ext 4 = none := rfl
theorem xn5 : E.ext 5 = none := rfl
theorem xn6 : E.ext 6 = none := rfl
theorem xn7 : E.ext 7 = none := rfl
theorem xn8 : E.ext 8 = none := rfl
theorem xn9 : E.ext 9 = none := rfl
theorem xn10 : E.ext 10 = none := rfl
theorem xn11 : E.ext 11 = none := rfl
theorem xn12 : E.ext 12 = none := rfl
theorem xn13 : E.ext 13 = none := rfl
theorem xn14 : E.ext 14 = none := rfl
theorem xn15 : E.ext 15 = none := rfl
theorem xn16 : E.ext 16 = none := rfl
theorem xn17 : E.ext 17 = none := rfl
theorem xn18 : E.ext 18 = none := rfl
theorem xn19 : E.ext 19 = none := rfl
theorem xn20 : E.ext 20 = none := rfl
theorem xn21 : E.ext 21 = none := rfl
theorem xn22 : E.ext 22 = none := rfl
theorem xn23 : E.ext 23 = none := rfl
theorem xn24 : E.ext 24 = none := rfl
theorem xn25 : E.ext 25 = none := rfl
theorem xn26 : E.ext 26 = none := rfl
theorem xn27 : E.ext 27 = none := rfl
theorem xn28 : E.ext 28 = none := rfl
theorem xn29 : E.ext 29 = none := rfl
theorem xn30 : E.ext 30 = none := rfl
theorem xk31 (xs : List AV) (H : Hp) : isoK E (callT E) 31 xs H = (extIndexByte xs).map fun r => (r, H) := isoK_ext rfl xs H
theorem xn32 : E.ext 32 = none := rfl
theorem xn33 : E.ext 33 = none := rfl
theorem E_byref (f : Nat) : E.byref f = false := rfl
theorem agg21 : aggO Try.prog 21 = some false := by kernel_rfl
theorem agg22 : aggO Try.prog 22 = some true := by kernel_rfl
theorem agg24 : aggO Try.prog 24 = some true := by kernel_rfl
theorem agg25 : aggO Try.prog 25 = some false := by kernel_rfl
theorem agg3 : aggO Try.prog 3 = some false := by kernel_rfl
theorem agg31 : aggO Try.prog 31 = some false := by kernel_rfl
theorem agg4 : aggO Try.prog 4 = some false := by kernel_rfl
theorem agg46 : aggO Try.prog 46 = some false := by kernel_rfl
theorem agg48 : aggO Try.prog 48 = some false := by kernel_rfl
theorem agg5 : aggO Try.prog 5 = some false := by kernel_rfl
theorem agg50 : aggO Try.prog 50 = some false := by kernel_rfl
theorem agg52 : aggO Try.prog 52 = some true := by kernel_rfl
theorem agg9 : aggO Try.prog 9 = some false := by kernel_rfl
theorem arr22 : arrO Try.prog 22 = some (2, 5) := by kernel_rfl
theorem arr24 : arrO Try.prog 24 = none := by kernel_rfl
theorem arr25 : arrO Try.prog 25 = none := by kernel_rfl
theorem arr31 : arrO Try.prog 31 = none := by kernel_rfl
theorem arr46 : arrO Try.prog 46 = none := by kernel_rfl
theorem arr48 : arrO Try.prog 48 = none := by kernel_rfl
theorem arr50 : arrO Try.prog 50 = none := by kernel_rfl
theorem arr52 : arrO Try.prog 52 = some (2, 21) := by kernel_rfl
theorem arrz22 : arrO Try.prog 22 = some (2, 5) := by kernel_rfl
theorem arrz24 : arrO Try.prog 24 = none := by kernel_rfl
theorem arrz52 : arrO Try.prog 52 = some (2, 21) := by kernel_rfl
theorem eqg22 : eqgO Try.prog 22 = false := by kernel_rfl
theorem eqg24 : eqgO Try.prog 24 = false := by kernel_rfl
theorem fld24_0 : fldO Try.prog 24 0 = some (0, 4) := by kernel_rfl
theorem fld24_1 : fldO Try.prog 24 1 = some (1, 4) := by kernel_rfl
theorem fld24_2 : fldO Try.prog 24 2 = some (2, 4) := by kernel_rfl
theorem fld24_3 : fldO Try.prog 24 3 = some (3, 4) := by kernel_rfl
theorem fld24_4 : fldO Try.prog 24 4 = some (4, 4) := by kernel_rfl
theorem fld24_5 : fldO Try.prog 24 5 = some (5, 4) := by kernel_rfl
theorem fld24_6 : fldO Try.prog 24 6 = some (6, 4) := by kernel_rfl
theorem fld24_7 : fldO Try.prog 24 7 = some (7, 4) := by kernel_rfl
theorem fld24_8 : fldO Try.prog 24 8 = some (8, 22) := by kernel_rfl
theorem fld24_9 : fldO Try.prog 24 9 = some (10, 3) := by kernel_rfl
theorem kind21 : kindO Try.prog 21 = some .i32 := by kernel_rfl
theorem kind22 : kindO Try.prog 22 = none := by kernel_rfl
theorem kind24 : kindO Try.prog 24 = none := by kernel_rfl
theorem kind25 : kindO Try.prog 25 = none := by kernel_rfl
theorem kind3 : kindO Try.prog 3 = some .i64 := by kernel_rfl
theorem kind31 : kindO Try.prog 31 = none := by kernel_rfl
theorem kind4 : kindO Try.prog 4 = none := by kernel_rfl
theorem kind46 : kindO Try.prog 46 = none := by kernel_rfl
theorem kind48 : kindO Try.prog 48 = none := by kernel_rfl
theorem kind5 : kindO Try.prog 5 = some .u8 := by kernel_rfl
theorem kind50 : kindO Try.prog 50 = none := by kernel_rfl
theorem kind52 : kindO Try.prog 52 = none := by kernel_rfl
theorem kind9 : kindO Try.prog 9 = none := by kernel_rfl
theorem lv22 : leaves Try.prog 9 22 = some [.int .u8, .int .u8] := by kernel_rfl
theorem lv24 : leaves Try.prog 9 24 = some [.bool, .bool, .bool, .bool, .bool, .bool, .bool, .bool, .int .u8, .int .u8, .int .i64] := by kernel_rfl
theorem pl24 : placesO Try.prog 24 = some [(0, 1), (1, 1), (2, 1), (3, 1), (4, 1), (5, 1), (6, 1), (7, 1), (8, 2), (10, 1)] := by kernel_rfl
theorem sl21 : slO Try.prog 21 = none := by kernel_rfl
theorem sl22 : slO Try.prog 22 = none := by kernel_rfl
theorem sl24 : slO Try.prog 24 = none := by kernel_rfl
theorem sl25 : slO Try.prog 25 = some 3 := by kernel_rfl
theorem sl3 : slO Try.prog 3 = none := by kernel_rfl
theorem sl31 : slO Try.prog 31 = some 4 := by kernel_rfl
theorem sl4 : slO Try.prog 4 = none := by kernel_rfl
theorem sl46 : slO Try.prog 46 = some 5 := by kernel_rfl
theorem sl48 : slO Try.prog 48 = some 21 := by kernel_rfl
theorem sl5 : slO Try.prog 5 = none := by kernel_rfl
theorem sl50 : slO Try.prog 50 = some 52 := by kernel_rfl
theorem sl52 : slO Try.prog 52 = none := by kernel_rfl
theorem sl9 : slO Try.prog 9 = none := by kernel_rfl
theorem str21 : isStrO Try.prog 21 = false := by kernel_rfl
theorem str22 : isStrO Try.prog 22 = false := by kernel_rfl
theorem str24 : isStrO Try.prog 24 = false := by kernel_rfl
theorem str25 : isStrO Try.prog 25 = false := by kernel_rfl
theorem str3 : isStrO Try.prog 3 = false := by kernel_rfl
theorem str31 : isStrO Try.prog 31 = false := by kernel_rfl
theorem str4 : isStrO Try.prog 4 = false := by kernel_rfl
theorem str46 : isStrO Try.prog 46 = false := by kernel_rfl
theorem str48 : isStrO Try.prog 48 = false := by kernel_rfl
theorem str5 : isStrO Try.prog 5 = false := by kernel_rfl
theorem str50 : isStrO Try.prog 50 = false := by kernel_rfl
theorem str52 : isStrO Try.prog 52 = false := by kernel_rfl
theorem str9 : isStrO Try.prog 9 = true := by kernel_rfl
theorem sz21 : szO Try.prog 21 = some 1 := by kernel_rfl
theorem sz22 : szO Try.prog 22 = some 2 := by kernel_rfl
theorem sz24 : szO Try.prog 24 = some 11 := by kernel_rfl
theorem sz3 : szO Try.prog 3 = some 1 := by kernel_rfl
theorem sz4 : szO Try.prog 4 = some 1 := by kernel_rfl
theorem sz5 : szO Try.prog 5 = some 1 := by kernel_rfl
theorem sz50 : szO Try.prog 50 = some 1 := by kernel_rfl
theorem sz52 : szO Try.prog 52 = some 2 := by kernel_rfl
theorem und4 : Try.prog.underlying 4 = some .bool := by kernel_rfl
theorem und44 : Try.prog.underlying 44 = some (.pointer 4) := by kernel_rfl
theorem zero21 : zeroO Try.prog 21 = some (.i (.v (.int .i32 0))) := by kernel_rfl
theorem zero22 : zeroO Try.prog 22 = some (.agg [.i (.v (.int .u8 0)), .i (.v (.int .u8 0))]) := by kernel_rfl
theorem zero24 : zeroO Try.prog 24 = some (.agg [.i (.v (.bool false)), .i (.v (.bool false)), .i (.v (.bool false)), .i (.v (.bool false)), .i (.v (.bool false)), .i (.v (.bool false)), .i (.v (.bool false)), .i (.v (.bool false)), .i (.v (.int .u8 0)), .i (.v (.int .u8 0)), .i (.v (.int .i64 0))]) := by kernel_rfl
theorem zero3 : zeroO Try.prog 3 = some (.i (.v (.int .i64 0))) := by kernel_rfl
theorem zero4 : zeroO Try.prog 4 = some (.i (.v (.bool false))) := by kernel_rfl
theorem zero5 : zeroO Try.prog 5 = some (.i (.v (.int .u8 0))) := by kernel_rfl
theorem zero52 : zeroO Try.prog 52 = some (.agg [.i (.v (.int .i32 0)), .i (.v (.int .i32 0))]) := by kernel_rfl
theorem fok2 : fnOk E 2 = true := by kernel_rfl
theorem ent2 : enterOk E 2 = true := by kernel_rfl
theorem fok3 : fnOk E 3 = true := by kernel_rfl
theorem ent3 : enterOk E 3 = true := by kernel_rfl
theorem fok4 : fnOk E 4 = true := by kernel_rfl
theorem ent4 : enterOk E 4 = true := by kernel_rfl
theorem fok5 : fnOk E 5 = true := by kernel_rfl
theorem ent5 : enterOk E 5 = true := by kernel_rfl
theorem fok6 : fnOk E 6 = true := by kernel_rfl
theorem ent6 : enterOk E 6 = true := by kernel_rfl
theorem fok7 : fnOk E 7 = true := by kernel_rfl
theorem ent7 : enterOk E 7 = true := by kernel_rfl
theorem fok8 : fnOk E 8 = true := by kernel_rfl
theorem ent8 : enterOk E 8 = true := by kernel_rfl
theorem fok9 : fnOk E 9 = true := by kernel_rfl
theorem ent9 : enterOk E 9 = true := by kernel_rfl
theorem fok10 : fnOk E 10 = true := by kernel_rfl
theorem ent10 : enterOk E 10 = true := by kernel_rfl
theorem fok11 : fnOk E 11 = true := by kernel_rfl
theorem ent11 : enterOk E 11 = true := by kernel_rfl
theorem fok12 : fnOk E 12 = true := by kernel_rfl
theorem ent12 : enterOk E 12 = true := by kernel_rfl
theorem fok13 : fnOk E 13 = true := by kernel_rfl
theorem ent13 : enterOk E 13 = true := by kernel_rfl
theorem fok14 : fnOk E 14 = true := by kernel_rfl
theorem ent14 : enterOk E 14 = true := by kernel_rfl
theorem fok15 : fnOk E 15 = true := by kernel_rfl
theorem ent15 : enterOk E 15 = true := by kernel_rfl
theorem fok16 : fnOk E 16 = true := by kernel_rfl
theorem ent16 : enterOk E 16 = true := by kernel_rfl
theorem fok17 : fnOk E 17 = true := by kernel_rfl
theorem ent17 : enterOk E 17 = true := by kernel_rfl
theorem fok18 : fnOk E 18 = true := by kernel_rfl
theorem ent18 : enterOk E 18 = true := by kernel_rfl
theorem fok19 : fnOk E 19 = true := by kernel_rfl
theorem ent19 : enterOk E 19 = true := by kernel_rfl
theorem fok20 : fnOk E 20 = true := by kernel_rfl
theorem ent20 : enterOk E 20 = true := by kernel_rfl
theorem fok21 : fnOk E 21 = true := by kernel_rfl
theorem ent21 : enterOk E 21 = true := by kernel_rfl
theorem fok22 : fnOk E 22 = true := by kernel_rfl
theorem ent22 : enterOk E 22 = true := by kernel_rfl
theorem fok23 : fnOk E 23 = true := by kernel_rfl
theorem ent23 : enterOk E 23 = true := by kernel_rfl
theorem fok24 : fnOk E 24 = true := by kernel_rfl
theorem ent24 : enterOk E 24 = true := by kernel_rfl
theorem fok25 : fnOk E 25 = true := by kernel_rfl
theorem ent25 : enterOk E 25 = true := by kernel_rfl
theorem fok26 : fnOk E 26 = true := by kernel_rfl
theorem ent26 : enterOk E 26 = true := by kernel_rfl
theorem fok27 : fnOk E 27 = true := by kernel_rfl
theorem ent27 : enterOk E 27 = true := by kernel_rfl
theorem fok28 : fnOk E 28 = true := by kernel_rfl
theorem ent28 : enterOk E 28 = true := by kernel_rfl
theorem fok29 : fnOk E 29 = true := by kernel_rfl
theorem ent29 : enterOk E 29 = true := by kernel_rfl
theorem fok30 : fnOk E 30 = true := by kernel_rfl
theorem ent30 : enterOk E 30 = true := by kernel_rfl
theorem fok31 : fnOk E 31 = true := by kernel_rfl
theorem ent31 : enterOk E 31 = true := by kernel_rfl
theorem fok32 : fnOk E 32 = true := by kernel_rfl
theorem ent32 : enterOk E 32 = true := by kernel_rfl
theorem fok33 : fnOk E 33 = true := by kernel_rfl
theorem ent33 : enterOk E 33 = true := by kernel_rfl
theorem res2 : Try.f2.results = #[] := rfl
theorem res3 : Try.f3.results = #[.tmp 8] := rfl
theorem res4 : Try.f4.results = #[.tmp 10] := rfl
theorem res5 : Try.f5.results = #[.tmp 8] := rfl
theorem res6 : Try.f6.results = #[.tmp 6] := rfl
theorem res7 : Try.f7.results = #[.tmp 6] := rfl
theorem res8 : Try.f8.results = #[.tmp 10] := rfl
theorem res9 : Try.f9.results = #[.tmp 12] := rfl
theorem res10 : Try.f10.results = #[.tmp 6] := rfl
theorem res11 : Try.f11.results = #[.tmp 0] := rfl
theorem res12 : Try.f12.results = #[.cell 0 24] := rfl
theorem res13 : Try.f13.results = #[.cell 0 24] := rfl
theorem res14 : Try.f14.results = #[.cell 8 24] := rfl
theorem res15 : Try.f15.results = #[.cell 8 24] := rfl
theorem res16 : Try.f16.results = #[.tmp 2] := rfl
theorem res17 : Try.f17.results = #[.tmp 4] := rfl
theorem res18 : Try.f18.results = #[.cell 6 24] := rfl
theorem res19 : Try.f19.results = #[.cell 6 24] := rfl
theorem res20 : Try.f20.results = #[.cell 4 24] := rfl
theorem res21 : Try.f21.results = #[.cell 4 24] := rfl
theorem res22 : Try.f22.results = #[.tmp 4] := rfl
theorem res23 : Try.f23.results = #[.cell 2 24] := rfl
theorem res24 : Try.f24.results = #[.tmp 2] := rfl
theorem res25 : Try.f25.results = #[.tmp 2] := rfl
theorem res26 : Try.f26.results = #[.tmp 4] := rfl
theorem res27 : Try.f27.results = #[.tmp 4] := rfl
theorem res28 : Try.f28.results = #[.tmp 2] := rfl
theorem res29 : Try.f29.results = #[.tmp 2] := rfl
theorem res30 : Try.f30.results = #[.tmp 0] := rfl
theorem res31 : Try.f31.results = #[.tmp 4] := rfl
theorem res32 : Try.f32.results = #[.tmp 0] := rfl
theorem res33 : Try.f33.results = #[.tmp 3] := rfl
theorem kp2_0 : E.keep 2 0 = [] := by kernel_rfl
theorem kp3_0 : E.keep 3 0 = [1, 2, 3, 4] := by kernel_rfl
theorem kp3_1 : E.keep 3 1 = [1, 2, 3, 4, 11] := by kernel_rfl
theorem kp3_2 : E.keep 3 2 = [8] := by kernel_rfl
theorem kp3_3 : E.keep 3 3 = [8] := by kernel_rfl
theorem kp4_0 : E.keep 4 0 = [1, 2, 3, 4, 5] := by kernel_rfl
theorem kp4_1 : E.keep 4 1 = [1, 2, 3, 4, 5, 19] := by kernel_rfl
theorem kp4_2 : E.keep 4 2 = [10] := by kernel_rfl
theorem kp4_3 : E.keep 4 3 = [1, 2, 3, 4, 5, 11] := by kernel_rfl
theorem kp4_4 : E.keep 4 4 = [10] := by kernel_rfl
theorem kp5_0 : E.keep 5 0 = [1, 2, 3, 4] := by kernel_rfl
theorem kp5_1 : E.keep 5 1 = [1, 2, 3, 4, 12] := by kernel_rfl
theorem kp5_2 : E.keep 5 2 = [8] := by kernel_rfl
theorem kp5_3 : E.keep 5 3 = [1, 2, 3, 4, 9] := by kernel_rfl
theorem kp5_4 : E.keep 5 4 = [8] := by kernel_rfl
theorem kp6_0 : E.keep 6 0 = [1, 2, 3] := by kernel_rfl
theorem kp6_1 : E.keep 6 1 = [1, 2, 3, 7, 8] := by kernel_rfl
theorem kp6_2 : E.keep 6 2 = [3, 7, 8, 9] := by kernel_rfl
theorem kp6_3 : E.keep 6 3 = [7, 8, 9, 84] := by kernel_rfl
theorem kp6_4 : E.keep 6 4 = [6] := by kernel_rfl
theorem kp6_5 : E.keep 6 5 = [9, 10, 11] := by kernel_rfl
theorem kp6_6 : E.keep 6 6 = [9, 10, 11, 12] := by kernel_rfl
theorem kp6_7 : E.keep 6 7 = [9, 10, 11, 12, 13] := by kernel_rfl
theorem kp6_8 : E.keep 6 8 = [9, 10, 11, 12, 13, 92] := by kernel_rfl
theorem kp6_9 : E.keep 6 9 = [9, 10, 11, 12, 13] := by kernel_rfl
theorem kp6_10 : E.keep 6 10 = [9, 10, 11, 12, 13, 103] := by kernel_rfl
theorem kp6_11 : E.keep 6 11 = [9, 10, 11, 12, 13] := by kernel_rfl
theorem kp6_12 : E.keep 6 12 = [6] := by kernel_rfl
theorem kp7_0 : E.keep 7 0 = [1, 2, 3] := by kernel_rfl
theorem kp7_1 : E.keep 7 1 = [1, 2, 3, 7] := by kernel_rfl
theorem kp7_2 : E.keep 7 2 = [1, 2, 3, 7, 12] := by kernel_rfl
theorem kp7_3 : E.keep 7 3 = [2, 3, 7] := by kernel_rfl
theorem kp7_4 : E.keep 7 4 = [2, 3, 7] := by kernel_rfl
theorem kp7_5 : E.keep 7 5 = [2, 3, 7, 8] := by kernel_rfl
theorem kp7_6 : E.keep 7 6 = [2, 3, 7, 8] := by kernel_rfl
theorem kp7_7 : E.keep 7 7 = [2, 3, 7, 8] := by kernel_rfl
theorem kp7_8 : E.keep 7 8 = [2, 3, 7, 8, 33] := by kernel_rfl
theorem kp7_9 : E.keep 7 9 = [2, 3, 7, 8] := by kernel_rfl
theorem kp7_10 : E.keep 7 10 = [6] := by kernel_rfl
theorem kp8_0 : E.keep 8 0 = [1, 2, 3, 4, 5] := by kernel_rfl
theorem kp8_1 : E.keep 8 1 = [1, 2, 3, 4, 5, 13] := by kernel_rfl
theorem kp8_2 : E.keep 8 2 = [10] := by kernel_rfl
theorem kp8_3 : E.keep 8 3 = [10] := by kernel_rfl
theorem kp9_0 : E.keep 9 0 = [1, 2, 3, 4, 5, 6] := by kernel_rfl
theorem kp9_1 : E.keep 9 1 = [1, 2, 3, 4, 5, 6, 23] := by kernel_rfl
theorem kp9_2 : E.keep 9 2 = [12] := by kernel_rfl
theorem kp9_3 : E.keep 9 3 = [3, 4, 5, 6, 13] := by kernel_rfl
theorem kp9_4 : E.keep 9 4 = [6, 13, 14, 15] := by kernel_rfl
theorem kp9_5 : E.keep 9 5 = [12] := by kernel_rfl
theorem kp10_0 : E.keep 10 0 = [1, 2, 3] := by kernel_rfl
theorem kp10_1 : E.keep 10 1 = [1, 2, 3, 7] := by kernel_rfl
theorem kp10_2 : E.keep 10 2 = [1, 2, 7, 8] := by kernel_rfl
theorem kp10_3 : E.keep 10 3 = [1, 2, 7, 22] := by kernel_rfl
theorem kp10_4 : E.keep 10 4 = [6] := by kernel_rfl
theorem kp10_5 : E.keep 10 5 = [1, 2, 7, 9] := by kernel_rfl
theorem kp10_6 : E.keep 10 6 = [1, 2, 9, 10, 11] := by kernel_rfl
theorem kp10_7 : E.keep 10 7 = [1, 2, 9, 10, 11, 32] := by kernel_rfl
theorem kp10_8 : E.keep 10 8 = [6] := by kernel_rfl
theorem kp10_9 : E.keep 10 9 = [1, 2, 9, 10, 11, 45] := by kernel_rfl
theorem kp10_10 : E.keep 10 10 = [6] := by kernel_rfl
theorem kp10_11 : E.keep 10 11 = [6] := by kernel_rfl
theorem kp11_0 : E.keep 11 0 = [] := by kernel_rfl
theorem kp11_1 : E.keep 11 1 = [1] := by kernel_rfl
theorem kp11_2 : E.keep 11 2 = [1, 2] := by kernel_rfl
theorem kp11_3 : E.keep 11 3 = [0] := by kernel_rfl
theorem kp12_0 : E.keep 12 0 = [0] := by kernel_rfl
theorem kp12_1 : E.keep 12 1 = [0] := by kernel_rfl
theorem kp13_0 : E.keep 13 0 = [0] := by kernel_rfl
theorem kp13_1 : E.keep 13 1 = [0] := by kernel_rfl
theorem kp14_0 : E.keep 14 0 = [2, 3, 4, 5, 8] := by kernel_rfl
theorem kp14_1 : E.keep 14 1 = [2, 3, 4, 8, 9] := by kernel_rfl
theorem kp14_2 : E.keep 14 2 = [3, 4, 8, 9, 14, 15, 16] := by kernel_rfl
theorem kp14_3 : E.keep 14 3 = [3, 4, 8, 9, 14, 15, 16, 17] := by kernel_rfl
theorem kp14_4 : E.keep 14 4 = [3, 4, 8, 9, 11, 14, 15, 16] := by kernel_rfl
theorem kp14_5 : E.keep 14 5 = [3, 4, 8, 9, 12, 14, 15, 16] := by kernel_rfl
theorem kp14_6 : E.keep 14 6 = [3, 4, 8, 9, 12, 14, 15, 16, 24] := by kernel_rfl
theorem kp14_7 : E.keep 14 7 = [3, 4, 8, 9, 14, 15, 16] := by kernel_rfl
theorem kp14_8 : E.keep 14 8 = [3, 4, 8, 9, 14, 15, 16] := by kernel_rfl
theorem kp14_9 : E.keep 14 9 = [8] := by kernel_rfl
theorem kp15_0 : E.keep 15 0 = [1, 2, 3, 4, 8] := by kernel_rfl
theorem kp15_1 : E.keep 15 1 = [1, 2, 3, 4, 8, 9] := by kernel_rfl
theorem kp15_2 : E.keep 15 2 = [1, 2, 3, 4, 8, 9, 14] := by kernel_rfl
theorem kp15_3 : E.keep 15 3 = [1, 2, 3, 4, 8, 9] := by kernel_rfl
theorem kp15_4 : E.keep 15 4 = [1, 2, 3, 4, 8, 9, 10] := by kernel_rfl
theorem kp15_5 : E.keep 15 5 = [1, 2, 3, 4, 8, 9, 10, 26] := by kernel_rfl
theorem kp15_6 : E.keep 15 6 = [1, 2, 3, 4, 8, 9, 10] := by kernel_rfl
theorem kp15_7 : E.keep 15 7 = [1, 2, 3, 4, 8, 9, 10, 34] := by kernel_rfl
theorem kp15_8 : E.keep 15 8 = [1, 2, 3, 4, 8, 9, 10] := by kernel_rfl
theorem kp15_9 : E.keep 15 9 = [1, 2, 3, 4, 8, 9, 10, 38] := by kernel_rfl
theorem kp15_10 : E.keep 15 10 = [1, 2, 3, 4, 8, 9, 39] := by kernel_rfl
theorem kp15_11 : E.keep 15 11 = [1, 2, 3, 4, 8, 9, 39, 40] := by kernel_rfl
theorem kp15_12 : E.keep 15 12 = [1, 2, 3, 4, 8, 9] := by kernel_rfl
theorem kp15_13 : E.keep 15 13 = [1, 2, 3, 4, 8, 9, 39, 44] := by kernel_rfl
theorem kp15_14 : E.keep 15 14 = [1, 2, 3, 4, 8, 9] := by kernel_rfl
theorem kp15_15 : E.keep 15 15 = [1, 2, 3, 4, 8, 9, 39, 48] := by kernel_rfl
theorem kp15_16 : E.keep 15 16 = [1, 2, 3, 4, 8, 9] := by kernel_rfl
theorem kp15_17 : E.keep 15 17 = [1, 2, 3, 4, 8, 9, 39, 52] := by kernel_rfl
theorem kp15_18 : E.keep 15 18 = [1, 2, 3, 4, 8, 9] := by kernel_rfl
theorem kp15_19 : E.keep 15 19 = [1, 2, 3, 4, 8, 9, 39, 56] := by kernel_rfl
theorem kp15_20 : E.keep 15 20 = [1, 2, 3, 4, 8, 9, 39, 56] := by kernel_rfl
theorem kp15_21 : E.keep 15 21 = [1, 2, 3, 4, 8, 9, 39, 56] := by kernel_rfl
theorem kp15_22 : E.keep 15 22 = [1, 2, 3, 4, 8, 9] := by kernel_rfl
theorem kp15_23 : E.keep 15 23 = [1, 2, 3, 4, 8, 9, 62] := by kernel_rfl
theorem kp15_24 : E.keep 15 24 = [1, 2, 3, 4, 8, 9] := by kernel_rfl
theorem kp15_25 : E.keep 15 25 = [8] := by kernel_rfl
theorem kp16_0 : E.keep 16 0 = [1] := by kernel_rfl
theorem kp16_1 : E.keep 16 1 = [2] := by kernel_rfl
theorem kp17_0 : E.keep 17 0 = [1, 2] := by kernel_rfl
theorem kp17_1 : E.keep 17 1 = [1, 2, 5] := by kernel_rfl
theorem kp17_2 : E.keep 17 2 = [1, 2, 5, 15] := by kernel_rfl
theorem kp17_3 : E.keep 17 3 = [1, 5] := by kernel_rfl
theorem kp17_4 : E.keep 17 4 = [1, 28] := by kernel_rfl
theorem kp17_5 : E.keep 17 5 = [4] := by kernel_rfl
theorem kp17_6 : E.keep 17 6 = [1, 6] := by kernel_rfl
theorem kp17_7 : E.keep 17 7 = [6, 7] := by kernel_rfl
theorem kp17_8 : E.keep 17 8 = [6, 38, 39, 40] := by kernel_rfl
theorem kp17_9 : E.keep 17 9 = [6, 38, 39, 40, 41] := by kernel_rfl
theorem kp17_10 : E.keep 17 10 = [6, 9, 38, 39, 40] := by kernel_rfl
theorem kp17_11 : E.keep 17 11 = [6, 38, 39, 40] := by kernel_rfl
theorem kp17_12 : E.keep 17 12 = [6, 38, 39, 40] := by kernel_rfl
theorem kp17_13 : E.keep 17 13 = [4] := by kernel_rfl
theorem kp18_0 : E.keep 18 0 = [1, 2, 3, 6] := by kernel_rfl
theorem kp18_1 : E.keep 18 1 = [1, 2, 3, 6, 12] := by kernel_rfl
theorem kp18_2 : E.keep 18 2 = [6] := by kernel_rfl
theorem kp18_3 : E.keep 18 3 = [2, 3, 6, 14] := by kernel_rfl
theorem kp18_4 : E.keep 18 4 = [2, 3, 6, 14, 15] := by kernel_rfl
theorem kp18_5 : E.keep 18 5 = [3, 6] := by kernel_rfl
theorem kp18_6 : E.keep 18 6 = [2, 3, 6, 20] := by kernel_rfl
theorem kp18_7 : E.keep 18 7 = [3, 6] := by kernel_rfl
theorem kp18_8 : E.keep 18 8 = [6] := by kernel_rfl
theorem kp19_0 : E.keep 19 0 = [1, 2, 3, 6] := by kernel_rfl
theorem kp19_1 : E.keep 19 1 = [1, 2, 3, 6, 12] := by kernel_rfl
theorem kp19_2 : E.keep 19 2 = [6] := by kernel_rfl
theorem kp19_3 : E.keep 19 3 = [1, 2, 3, 6, 15] := by kernel_rfl
theorem kp19_4 : E.keep 19 4 = [1, 2, 3, 6] := by kernel_rfl
theorem kp19_5 : E.keep 19 5 = [2, 3, 6, 20] := by kernel_rfl
theorem kp19_6 : E.keep 19 6 = [3, 6] := by kernel_rfl
theorem kp19_7 : E.keep 19 7 = [6] := by kernel_rfl
theorem kp20_0 : E.keep 20 0 = [1, 2, 4] := by kernel_rfl
theorem kp20_1 : E.keep 20 1 = [1, 2, 4, 10] := by kernel_rfl
theorem kp20_2 : E.keep 20 2 = [2, 4] := by kernel_rfl
theorem kp20_3 : E.keep 20 3 = [4] := by kernel_rfl
theorem kp21_0 : E.keep 21 0 = [1, 2, 4] := by kernel_rfl
theorem kp21_1 : E.keep 21 1 = [1, 2, 4, 10] := by kernel_rfl
theorem kp21_2 : E.keep 21 2 = [2, 4] := by kernel_rfl
theorem kp21_3 : E.keep 21 3 = [4] := by kernel_rfl
theorem kp22_0 : E.keep 22 0 = [1, 2] := by kernel_rfl
theorem kp22_1 : E.keep 22 1 = [1, 2, 5] := by kernel_rfl
theorem kp22_2 : E.keep 22 2 = [1, 2, 5, 12] := by kernel_rfl
theorem kp22_3 : E.keep 22 3 = [1, 5] := by kernel_rfl
theorem kp22_4 : E.keep 22 4 = [1, 25] := by kernel_rfl
theorem kp22_5 : E.keep 22 5 = [4] := by kernel_rfl
theorem kp22_6 : E.keep 22 6 = [1, 6] := by kernel_rfl
theorem kp22_7 : E.keep 22 7 = [4] := by kernel_rfl
theorem kp23_0 : E.keep 23 0 = [1, 2] := by kernel_rfl
theorem kp23_1 : E.keep 23 1 = [1, 2] := by kernel_rfl
theorem kp23_2 : E.keep 23 2 = [1, 2] := by kernel_rfl
theorem kp23_3 : E.keep 23 3 = [2] := by kernel_rfl
theorem kp24_0 : E.keep 24 0 = [0] := by kernel_rfl
theorem kp24_1 : E.keep 24 1 = [2] := by kernel_rfl
theorem kp25_0 : E.keep 25 0 = [0] := by kernel_rfl
theorem kp25_1 : E.keep 25 1 = [0, 3] := by kernel_rfl
theorem kp25_2 : E.keep 25 2 = [2] := by kernel_rfl
theorem kp25_3 : E.keep 25 3 = [0, 14] := by kernel_rfl
theorem kp25_4 : E.keep 25 4 = [2] := by kernel_rfl
theorem kp25_5 : E.keep 25 5 = [17] := by kernel_rfl
theorem kp25_6 : E.keep 25 6 = [2] := by kernel_rfl
theorem kp25_7 : E.keep 25 7 = [2] := by kernel_rfl
theorem kp26_0 : E.keep 26 0 = [0, 1, 2] := by kernel_rfl
theorem kp26_1 : E.keep 26 1 = [0, 1, 2, 6] := by kernel_rfl
theorem kp26_2 : E.keep 26 2 = [2, 7] := by kernel_rfl
theorem kp26_3 : E.keep 26 3 = [2, 7, 8] := by kernel_rfl
theorem kp26_4 : E.keep 26 4 = [4] := by kernel_rfl
theorem kp26_5 : E.keep 26 5 = [2, 11] := by kernel_rfl
theorem kp26_6 : E.keep 26 6 = [4] := by kernel_rfl
theorem kp26_7 : E.keep 26 7 = [4] := by kernel_rfl
theorem kp26_8 : E.keep 26 8 = [0, 2, 15] := by kernel_rfl
theorem kp26_9 : E.keep 26 9 = [4] := by kernel_rfl
theorem kp26_10 : E.keep 26 10 = [2, 16] := by kernel_rfl
theorem kp26_11 : E.keep 26 11 = [2, 16, 17] := by kernel_rfl
theorem kp26_12 : E.keep 26 12 = [4] := by kernel_rfl
theorem kp26_13 : E.keep 26 13 = [2, 16, 20] := by kernel_rfl
theorem kp26_14 : E.keep 26 14 = [4] := by kernel_rfl
theorem kp26_15 : E.keep 26 15 = [2, 16, 23] := by kernel_rfl
theorem kp26_16 : E.keep 26 16 = [4] := by kernel_rfl
theorem kp26_17 : E.keep 26 17 = [2, 16, 26] := by kernel_rfl
theorem kp26_18 : E.keep 26 18 = [4] := by kernel_rfl
theorem kp26_19 : E.keep 26 19 = [2, 16, 29] := by kernel_rfl
theorem kp26_20 : E.keep 26 20 = [2, 16, 29] := by kernel_rfl
theorem kp26_21 : E.keep 26 21 = [2, 16, 29] := by kernel_rfl
theorem kp26_22 : E.keep 26 22 = [4] := by kernel_rfl
theorem kp26_23 : E.keep 26 23 = [2, 34] := by kernel_rfl
theorem kp26_24 : E.keep 26 24 = [4] := by kernel_rfl
theorem kp26_25 : E.keep 26 25 = [4] := by kernel_rfl
theorem kp27_0 : E.keep 27 0 = [0, 1] := by kernel_rfl
theorem kp27_1 : E.keep 27 1 = [4] := by kernel_rfl
theorem kp28_0 : E.keep 28 0 = [0] := by kernel_rfl
theorem kp28_1 : E.keep 28 1 = [2] := by kernel_rfl
theorem kp29_0 : E.keep 29 0 = [1] := by kernel_rfl
theorem kp29_1 : E.keep 29 1 = [2] := by kernel_rfl
theorem kp30_0 : E.keep 30 0 = [] := by kernel_rfl
theorem kp30_1 : E.keep 30 1 = [0] := by kernel_rfl
theorem kp31_0 : E.keep 31 0 = [0, 1] := by kernel_rfl
theorem kp31_1 : E.keep 31 1 = [4] := by kernel_rfl
theorem kp32_0 : E.keep 32 0 = [] := by kernel_rfl
theorem kp32_1 : E.keep 32 1 = [0] := by kernel_rfl
theorem kp33_0 : E.keep 33 0 = [0, 1] := by kernel_rfl
theorem kp33_1 : E.keep 33 1 = [0, 1, 4, 5] := by kernel_rfl
theorem kp33_2 : E.keep 33 2 = [0, 1, 4, 5, 11] := by kernel_rfl
theorem kp33_3 : E.keep 33 3 = [0, 1, 4, 5, 6] := by kernel_rfl
theorem kp33_4 : E.keep 33 4 = [0, 1, 4, 5, 6, 22] := by kernel_rfl
theorem kp33_5 : E.keep 33 5 = [0, 1, 4, 5] := by kernel_rfl
theorem kp33_6 : E.keep 33 6 = [0, 1, 4, 5] := by kernel_rfl
theorem kp33_7 : E.keep 33 7 = [3] := by kernel_rfl
theorem hd6_8 : E.head 6 8 = [9, 10, 11, 12, 13] := by kernel_rfl
theorem hd14_3 : E.head 14 3 = [3, 4, 8, 9, 14, 15, 16] := by kernel_rfl
theorem hd15_2 : E.head 15 2 = [1, 2, 3, 4, 8, 9] := by kernel_rfl
theorem hd17_9 : E.head 17 9 = [6, 38, 39, 40] := by kernel_rfl
theorem hd33_2 : E.head 33 2 = [0, 1, 4, 5] := by kernel_rfl
theorem fl3_3 : E.flo 3 3 = [(8, 9)] := by kernel_rfl
theorem ho3_3 : E.hol 3 3 = false := by kernel_rfl
theorem dr3_3 (fr : Fr) (H : Hp) (ops : Array Oper) : execT E 3 (.region 3 ops true) fr H = regTK E 3 3 (evT E (callT E) ops.toList ops.toList fr H) := execT_draw ho3_3 ops
theorem fl4_4 : E.flo 4 4 = [(4, 9), (8, 9)] := by kernel_rfl
theorem ho4_4 : E.hol 4 4 = false := by kernel_rfl
theorem dr4_4 (fr : Fr) (H : Hp) (ops : Array Oper) : execT E 4 (.region 4 ops true) fr H = regTK E 4 4 (evT E (callT E) ops.toList ops.toList fr H) := execT_draw ho4_4 ops
theorem fl5_4 : E.flo 5 4 = [(5, 10), (9, 10), (17, 18)] := by kernel_rfl
theorem ho5_4 : E.hol 5 4 = false := by kernel_rfl
theorem dr5_4 (fr : Fr) (H : Hp) (ops : Array Oper) : execT E 5 (.region 4 ops true) fr H = regTK E 5 4 (evT E (callT E) ops.toList ops.toList fr H) := execT_draw ho5_4 ops
theorem fl6_1 : E.flo 6 1 = [(0, 3), (3, 5), (4, 5), (0, 8), (3, 8), (4, 8), (5, 8), (0, 10), (3, 10), (4, 10), (5, 10), (8, 10), (9, 10), (0, 11), (3, 11), (4, 11), (5, 11), (8, 11), (9, 11), (10, 11)] := by kernel_rfl
theorem ho6_1 : E.hol 6 1 = true := by kernel_rfl
theorem dr6_1 (fr : Fr) (H : Hp) (ops : Array Oper) : execT E 6 (.region 1 ops true) fr H = regTK E 6 1 (evD E (callT E) ops.toList H.length ops.toList fr (H ++ List.replicate (nFresh ops.toList) hole)) := execT_drawD ho6_1 ops
theorem fl6_5 : E.flo 6 5 = [(1, 2)] := by kernel_rfl
theorem ho6_5 : E.hol 6 5 = false := by kernel_rfl
theorem dr6_5 (fr : Fr) (H : Hp) (ops : Array Oper) : execT E 6 (.region 5 ops true) fr H = regTK E 6 5 (evT E (callT E) ops.toList ops.toList fr H) := execT_draw ho6_5 ops
theorem fl6_10 : E.flo 6 10 = [] := by kernel_rfl
theorem ho6_10 : E.hol 6 10 = false := by kernel_rfl
theorem dr6_10 (fr : Fr) (H : Hp) (ops : Array Oper) : execT E 6 (.region 10 ops true) fr H = regK E 6 10 (evOps E (callT E) ops.toList ops.toList fr H) := execT_draw0 ho6_10 fl6_10 ops
theorem fl7_6 : E.flo 7 6 = [(4, 8), (5, 8)] := by kernel_rfl
theorem ho7_6 : E.hol 7 6 = false := by kernel_rfl
theorem dr7_6 (fr : Fr) (H : Hp) (ops : Array Oper) : execT E 7 (.region 6 ops true) fr H = regTK E 7 6 (evT E (callT E) ops.toList ops.toList fr H) := execT_draw ho7_6 ops
theorem fl7_10 : E.flo 7 10 = [(2, 3), (10, 11)] := by kernel_rfl
theorem ho7_10 : E.hol 7 10 = false := by kernel_rfl
theorem dr7_10 (fr : Fr) (H : Hp) (ops : Array Oper) : execT E 7 (.region 10 ops true) fr H = regTK E 7 10 (evT E (callT E) ops.toList ops.toList fr H) := execT_draw ho7_10 ops
theorem fl8_3 : E.flo 8 3 = [(3, 4), (12, 13), (21, 22)] := by kernel_rfl
theorem ho8_3 : E.hol 8 3 = false := by kernel_rfl
theorem dr8_3 (fr : Fr) (H : Hp) (ops : Array Oper) : execT E 8 (.region 3 ops true) fr H = regTK E 8 3 (evT E (callT E) ops.toList ops.toList fr H) := execT_draw ho8_3 ops
theorem fl9_4 : E.flo 9 4 = [(3, 4), (0, 7), (3, 7), (4, 7), (6, 7), (0, 8), (3, 8), (4, 8), (6, 8), (7, 8)] := by kernel_rfl
theorem ho9_4 : E.hol 9 4 = true := by kernel_rfl
theorem dr9_4 (fr : Fr) (H : Hp) (ops : Array Oper) : execT E 9 (.region 4 ops true) fr H = regTK E 9 4 (evD E (callT E) ops.toList H.length ops.toList fr (H ++ List.replicate (nFresh ops.toList) hole)) := execT_drawD ho9_4 ops
theorem fl9_5 : E.flo 9 5 = [(14, 15), (28, 29)] := by kernel_rfl
theorem ho9_5 : E.hol 9 5 = false := by kernel_rfl
theorem dr9_5 (fr : Fr) (H : Hp) (ops : Array Oper) : execT E 9 (.region 5 ops true) fr H = regTK E 9 5 (evT E (callT E) ops.toList ops.toList fr H) := execT_draw ho9_5 ops
theorem fl10_6 : E.flo 10 6 = [(2, 3)] := by kernel_rfl
theorem ho10_6 : E.hol 10 6 = false := by kernel_rfl
theorem dr10_6 (fr : Fr) (H : Hp) (ops : Array Oper) : execT E 10 (.region 6 ops true) fr H = regTK E 10 6 (evT E (callT E) ops.toList ops.toList fr H) := execT_draw ho10_6 ops
theorem fl33_1 : E.flo 33 1 = [] := by kernel_rfl
theorem ho33_1 : E.hol 33 1 = false := by kernel_rfl
theorem dr33_1 (fr : Fr) (H : Hp) (ops : Array Oper) : execT E 33 (.region 1 ops true) fr H = regK E 33 1 (evOps E (callT E) ops.toList ops.toList fr H) := execT_draw0 ho33_1 fl33_1 ops
theorem cr2 (args : List AV) (H : Hp) : calleeR E 2 args H = crK args (prep H args) := cr_prep rfl args
theorem cr3 (args : List AV) (H : Hp) : calleeR E 3 args H = crK args (prep H args) := cr_prep rfl args
theorem cr4 (args : List AV) (H : Hp) : calleeR E 4 args H = crK args (prep H args) := cr_prep rfl args
theorem cr5 (args : List AV) (H : Hp) : calleeR E 5 args H = crK args (prep H args) := cr_prep rfl args
theorem cr6 (args : List AV) (H : Hp) : calleeR E 6 args H = crK args (prep H args) := cr_prep rfl args
theorem cr7 (args : List AV) (H : Hp) : calleeR E 7 args H = crK args (prep H args) := cr_prep rfl args
theorem cr8 (args : List AV) (H : Hp) : calleeR E 8 args H = crK args (prep H args) := cr_prep rfl args
theorem cr9 (args : List AV) (H : Hp) : calleeR E 9 args H = crK args (prep H args) := cr_prep rfl args
theorem cr10 (args : List AV) (H : Hp) : calleeR E 10 args H = crK args (prep H args) := cr_prep rfl args
theorem cr11 (args : List AV) (H : Hp) : calleeR E 11 args H = crK args (prep H args) := cr_prep rfl args
theorem cr12 (args : List AV) (H : Hp) : calleeR E 12 args H = crK args (prep H args) := cr_prep rfl args
theorem cr13 (args : List AV) (H : Hp) : calleeR E 13 args H = crK args (prep H args) := cr_prep rfl args
theorem cr14 (args : List AV) (H : Hp) : calleeR E 14 args H = crK args (prep H args) := cr_prep rfl args
theorem cr15 (args : List AV) (H : Hp) : calleeR E 15 args H = crK args (prep H args) := cr_prep rfl args
theorem cr16 (args : List AV) (H : Hp) : calleeR E 16 args H = crK args (prep H args) := cr_prep rfl args
theorem cr17 (args : List AV) (H : Hp) : calleeR E 17 args H = crK args (prep H args) := cr_prep rfl args
theorem cr18 (args : List AV) (H : Hp) : calleeR E 18 args H = crK args (prep H args) := cr_prep rfl args
theorem cr19 (args : List AV) (H : Hp) : calleeR E 19 args H = crK args (prep H args) := cr_prep rfl args
theorem cr20 (args : List AV) (H : Hp) : calleeR E 20 args H = crK args (prep H args) := cr_prep rfl args
theorem cr21 (args : List AV) (H : Hp) : calleeR E 21 args H = crK args (prep H args) := cr_prep rfl args
theorem cr22 (args : List AV) (H : Hp) : calleeR E 22 args H = crK args (prep H args) := cr_prep rfl args
theorem cr23 (args : List AV) (H : Hp) : calleeR E 23 args H = crK args (prep H args) := cr_prep rfl args
theorem cr24 (args : List AV) (H : Hp) : calleeR E 24 args H = crK args (prep H args) := cr_prep rfl args
theorem cr25 (args : List AV) (H : Hp) : calleeR E 25 args H = crK args (prep H args) := cr_prep rfl args
theorem cr26 (args : List AV) (H : Hp) : calleeR E 26 args H = crK args (prep H args) := cr_prep rfl args
theorem cr27 (args : List AV) (H : Hp) : calleeR E 27 args H = crK args (prep H args) := cr_prep rfl args
theorem cr28 (args : List AV) (H : Hp) : calleeR E 28 args H = crK args (prep H args) := cr_prep rfl args
theorem cr29 (args : List AV) (H : Hp) : calleeR E 29 args H = crK args (prep H args) := cr_prep rfl args
theorem cr30 (args : List AV) (H : Hp) : calleeR E 30 args H = crK args (prep H args) := cr_prep rfl args
theorem cr31 (args : List AV) (H : Hp) : calleeR E 31 args H = crK args (prep H args) := cr_prep rfl args
theorem cr32 (args : List AV) (H : Hp) : calleeR E 32 args H = crK args (prep H args) := cr_prep rfl args
theorem cr33 (args : List AV) (H : Hp) : calleeR E 33 args H = crK args (prep H args) := cr_prep rfl args
theorem ci2 (args : List AV) (H : Hp) : callIso E (callT E) 2 args H = prepK E (callT E) 2 (prep H args) := iso_prep rfl args
theorem ci3 (args : List AV) (H : Hp) : callIso E (callT E) 3 args H = prepK E (callT E) 3 (prep H args) := iso_prep rfl args
theorem ci4 (args : List AV) (H : Hp) : callIso E (callT E) 4 args H = prepK E (callT E) 4 (prep H args) := iso_prep rfl args
theorem ci5 (args : List AV) (H : Hp) : callIso E (callT E) 5 args H = prepK E (callT E) 5 (prep H args) := iso_prep rfl args
theorem ci6 (args : List AV) (H : Hp) : callIso E (callT E) 6 args H = prepK E (callT E) 6 (prep H args) := iso_prep rfl args
theorem ci7 (args : List AV) (H : Hp) : callIso E (callT E) 7 args H = prepK E (callT E) 7 (prep H args) := iso_prep rfl args
theorem ci8 (args : List AV) (H : Hp) : callIso E (callT E) 8 args H = prepK E (callT E) 8 (prep H args) := iso_prep rfl args
theorem ci9 (args : List AV) (H : Hp) : callIso E (callT E) 9 args H = prepK E (callT E) 9 (prep H args) := iso_prep rfl args
theorem ci10 (args : List AV) (H : Hp) : callIso E (callT E) 10 args H = prepK E (callT E) 10 (prep H args) := iso_prep rfl args
theorem ci11 (args : List AV) (H : Hp) : callIso E (callT E) 11 args H = prepK E (callT E) 11 (prep H args) := iso_prep rfl args
theorem ci12 (args : List AV) (H : Hp) : callIso E (callT E) 12 args H = prepK E (callT E) 12 (prep H args) := iso_prep rfl args
theorem ci13 (args : List AV) (H : Hp) : callIso E (callT E) 13 args H = prepK E (callT E) 13 (prep H args) := iso_prep rfl args
theorem ci14 (args : List AV) (H : Hp) : callIso E (callT E) 14 args H = prepK E (callT E) 14 (prep H args) := iso_prep rfl args
theorem ci15 (args : List AV) (H : Hp) : callIso E (callT E) 15 args H = prepK E (callT E) 15 (prep H args) := iso_prep rfl args
theorem ci16 (args : List AV) (H : Hp) : callIso E (callT E) 16 args H = prepK E (callT E) 16 (prep H args) := iso_prep rfl args
theorem ci17 (args : List AV) (H : Hp) : callIso E (callT E) 17 args H = prepK E (callT E) 17 (prep H args) := iso_prep rfl args
theorem ci18 (args : List AV) (H : Hp) : callIso E (callT E) 18 args H = prepK E (callT E) 18 (prep H args) := iso_prep rfl args
theorem ci19 (args : List AV) (H : Hp) : callIso E (callT E) 19 args H = prepK E (callT E) 19 (prep H args) := iso_prep rfl args
theorem ci20 (args : List AV) (H : Hp) : callIso E (callT E) 20 args H = prepK E (callT E) 20 (prep H args) := iso_prep rfl args
theorem ci21 (args : List AV) (H : Hp) : callIso E (callT E) 21 args H = prepK E (callT E) 21 (prep H args) := iso_prep rfl args
theorem ci22 (args : List AV) (H : Hp) : callIso E (callT E) 22 args H = prepK E (callT E) 22 (prep H args) := iso_prep rfl args
theorem ci23 (args : List AV) (H : Hp) : callIso E (callT E) 23 args H = prepK E (callT E) 23 (prep H args) := iso_prep rfl args
theorem ci24 (args : List AV) (H : Hp) : callIso E (callT E) 24 args H = prepK E (callT E) 24 (prep H args) := iso_prep rfl args
theorem ci25 (args : List AV) (H : Hp) : callIso E (callT E) 25 args H = prepK E (callT E) 25 (prep H args) := iso_prep rfl args
theorem ci26 (args : List AV) (H : Hp) : callIso E (callT E) 26 args H = prepK E (callT E) 26 (prep H args) := iso_prep rfl args
theorem ci27 (args : List AV) (H : Hp) : callIso E (callT E) 27 args H = prepK E (callT E) 27 (prep H args) := iso_prep rfl args
theorem ci28 (args : List AV) (H : Hp) : callIso E (callT E) 28 args H = prepK E (callT E) 28 (prep H args) := iso_prep rfl args
theorem ci29 (args : List AV) (H : Hp) : callIso E (callT E) 29 args H = prepK E (callT E) 29 (prep H args) := iso_prep rfl args
theorem ci30 (args : List AV) (H : Hp) : callIso E (callT E) 30 args H = prepK E (callT E) 30 (prep H args) := iso_prep rfl args
theorem ci31 (args : List AV) (H : Hp) : callIso E (callT E) 31 args H = prepK E (callT E) 31 (prep H args) := iso_prep rfl args
theorem ci32 (args : List AV) (H : Hp) : callIso E (callT E) 32 args H = prepK E (callT E) 32 (prep H args) := iso_prep rfl args
theorem ci33 (args : List AV) (H : Hp) : callIso E (callT E) 33 args H = prepK E (callT E) 33 (prep H args) := iso_prep rfl args
theorem bd22 (parts : List (Nat × AV)) : buildE E 22 parts = aggK (fillA 1 [.i (.v (.int .u8 0)), .i (.v (.int .u8 0))] parts) := bd_arr (n := 2) (e := 5) (by kernel_rfl) (by kernel_rfl) (by kernel_rfl) parts
theorem bd24 (parts : List (Nat × AV)) : buildE E 24 parts = aggK (fillS [(0, 1), (1, 1), (2, 1), (3, 1), (4, 1), (5, 1), (6, 1), (7, 1), (8, 2), (10, 1)] [.i (.v (.bool false)), .i (.v (.bool false)), .i (.v (.bool false)), .i (.v (.bool false)), .i (.v (.bool false)), .i (.v (.bool false)), .i (.v (.bool false)), .i (.v (.bool false)), .i (.v (.int .u8 0)), .i (.v (.int .u8 0)), .i (.v (.int .i64 0))] parts) := bd_struct (by kernel_rfl) (by kernel_rfl) (by kernel_rfl) parts
theorem bd52 (parts : List (Nat × AV)) : buildE E 52 parts = aggK (fillA 1 [.i (.v (.int .i32 0)), .i (.v (.int .i32 0))] parts) := bd_arr (n := 2) (e := 21) (by kernel_rfl) (by kernel_rfl) (by kernel_rfl) parts
theorem cv3_21 (cl : CallF) (fr : Fr) (H : Hp) (x : Operand) : evOp E cl (.convert 3 21 x) fr H = pK H (convE E 3 21 (opd E fr x)) := op_convert _ _ _ (by kernel_rfl)
theorem cv9_46 (cl : CallF) (fr : Fr) (H : Hp) (x : Operand) : evOp E cl (.convert 9 46 x) fr H = cvK H (opd E fr x) := op_convB (by kernel_rfl) (by kernel_rfl) x
theorem cv21_3 (cl : CallF) (fr : Fr) (H : Hp) (x : Operand) : evOp E cl (.convert 21 3 x) fr H = pK H (convE E 21 3 (opd E fr x)) := op_convert _ _ _ (by kernel_rfl)
theorem sx9 (H : Hp) (s : List UInt8) (lo hi : Option AV) : sliceE E H 9 (.i (.str s)) lo hi none = slSK s (bnd 0 lo) (bnd s.length hi) := sl_str (by kernel_rfl) s lo hi
theorem ap25_25 (H : Hp) (s x : AV) : appendE E H 25 25 s x = apS 1 H s (srcE H x) := ap_eq (by kernel_rfl) H s x
theorem bs25 (H : Hp) (n : Nat) (hn : n * 1 ≤ 16777216) (parts : List (Nat × AV)) : buildSliceE E H 25 n parts = bsF 1 n H (fillA 1 (List.replicate n [.i (.v (.int .i64 0))]).flatten parts) := bs_eq (by kernel_rfl) H n hn parts
theorem bs31 (H : Hp) (n : Nat) (hn : n * 1 ≤ 16777216) (parts : List (Nat × AV)) : buildSliceE E H 31 n parts = bsF 1 n H (fillA 1 (List.replicate n [.i (.v (.bool false))]).flatten parts) := bs_eq (by kernel_rfl) H n hn parts
theorem bs46 (H : Hp) (n : Nat) (hn : n * 1 ≤ 16777216) (parts : List (Nat × AV)) : buildSliceE E H 46 n parts = bsF 1 n H (fillA 1 (List.replicate n [.i (.v (.int .u8 0))]).flatten parts) := bs_eq (by kernel_rfl) H n hn parts
theorem bs48 (H : Hp) (n : Nat) (hn : n * 1 ≤ 16777216) (parts : List (Nat × AV)) : buildSliceE E H 48 n parts = bsF 1 n H (fillA 1 (List.replicate n [.i (.v (.int .i32 0))]).flatten parts) := bs_eq (by kernel_rfl) H n hn parts
theorem bs50 (H : Hp) (n : Nat) (hn : n * 2 ≤ 16777216) (parts : List (Nat × AV)) : buildSliceE E H 50 n parts = bsF 2 n H (fillA 2 (List.replicate n [.i (.v (.int .i32 0)), .i (.v (.int .i32 0))]).flatten parts) := bs_eq (by kernel_rfl) H n hn parts
theorem st21 (H : Hp) (c g r k : Nat) (v : AV) : storeE E H 21 (.ptr c g r k) v = if (cellsA v).length = 1 ∧ (cellsA v).all one = true then stC 1 H c g r k (cellsA v) H[c]? else none := st_eq sz21 H c g r k v
theorem st22 (H : Hp) (c g r k : Nat) (v : AV) : storeE E H 22 (.ptr c g r k) v = if (cellsA v).length = 2 ∧ (cellsA v).all one = true then stC 2 H c g r k (cellsA v) H[c]? else none := st_eq sz22 H c g r k v
theorem st24 (H : Hp) (c g r k : Nat) (v : AV) : storeE E H 24 (.ptr c g r k) v = if (cellsA v).length = 11 ∧ (cellsA v).all one = true then stC 11 H c g r k (cellsA v) H[c]? else none := st_eq sz24 H c g r k v
theorem st3 (H : Hp) (c g r k : Nat) (v : AV) : storeE E H 3 (.ptr c g r k) v = if (cellsA v).length = 1 ∧ (cellsA v).all one = true then stC 1 H c g r k (cellsA v) H[c]? else none := st_eq sz3 H c g r k v
theorem st4 (H : Hp) (c g r k : Nat) (v : AV) : storeE E H 4 (.ptr c g r k) v = if (cellsA v).length = 1 ∧ (cellsA v).all one = true then stC 1 H c g r k (cellsA v) H[c]? else none := st_eq sz4 H c g r k v
theorem st5 (H : Hp) (c g r k : Nat) (v : AV) : storeE E H 5 (.ptr c g r k) v = if (cellsA v).length = 1 ∧ (cellsA v).all one = true then stC 1 H c g r k (cellsA v) H[c]? else none := st_eq sz5 H c g r k v
theorem st50 (H : Hp) (c g r k : Nat) (v : AV) : storeE E H 50 (.ptr c g r k) v = if (cellsA v).length = 1 ∧ (cellsA v).all one = true then stC 1 H c g r k (cellsA v) H[c]? else none := st_eq sz50 H c g r k v
theorem st52 (H : Hp) (c g r k : Nat) (v : AV) : storeE E H 52 (.ptr c g r k) v = if (cellsA v).length = 2 ∧ (cellsA v).all one = true then stC 2 H c g r k (cellsA v) H[c]? else none := st_eq sz52 H c g r k v
-- en2: 
def en2 := And.intro @ent2 (And.intro @res2 (@kp2_0))
-- en3: bs25
def en3 := And.intro @ent3 (And.intro @res3 (And.intro @kp3_0 (And.intro @kp3_1 (And.intro @kp3_2 (And.intro @kp3_3 (And.intro @fl3_3 (And.intro @dr3_3 (And.intro @ent11 (And.intro @ci11 (And.intro @cr11 (And.intro @ent12 (And.intro @ci12 (And.intro @cr12 (And.intro @ent13 (And.intro @ci13 (And.intro @cr13 (And.intro @ent14 (And.intro @ci14 (And.intro @cr14 (And.intro @ent15 (And.intro @ci15 (And.intro @cr15 (And.intro @agg24 (And.intro @agg25 (And.intro @agg3 (And.intro @agg4 (And.intro @agg5 (And.intro @eqg24 (And.intro @kind24 (And.intro @kind25 (And.intro @kind3 (And.intro @cv3_21 (And.intro @cv21_3 (And.intro @kind4 (And.intro @kind5 (And.intro @lv24 (And.intro @sl24 (And.intro @sl25 (And.intro @ap25_25 (And.intro @sl4 (And.intro @sl5 (And.intro @str24 (And.intro @str25 (And.intro @str4 (And.intro @str5 (And.intro @sz24 (And.intro @st24 (And.intro @sz3 (And.intro @st3 (@zero3))))))))))))))))))))))))))))))))))))))))))))))))))
-- en4: bs25
def en4 := And.intro @ent4 (And.intro @res4 (And.intro @kp4_0 (And.intro @kp4_1 (And.intro @kp4_2 (And.intro @kp4_3 (And.intro @kp4_4 (And.intro @fl4_4 (And.intro @dr4_4 (And.intro @ent11 (And.intro @ci11 (And.intro @cr11 (And.intro @ent14 (And.intro @ci14 (And.intro @cr14 (And.intro @agg24 (And.intro @agg25 (And.intro @agg3 (And.intro @agg4 (And.intro @agg5 (And.intro @eqg24 (And.intro @kind24 (And.intro @kind25 (And.intro @kind3 (And.intro @cv3_21 (And.intro @cv21_3 (And.intro @kind4 (And.intro @kind5 (And.intro @lv24 (And.intro @sl24 (And.intro @sl25 (And.intro @ap25_25 (And.intro @sl4 (And.intro @sl5 (And.intro @str24 (And.intro @str25 (And.intro @str4 (And.intro @str5 (And.intro @sz24 (And.intro @st24 (And.intro @sz3 (And.intro @st3 (@zero3))))))))))))))))))))))))))))))))))))))))))
-- en5: bs25
def en5 := And.intro @ent5 (And.intro @res5 (And.intro @kp5_0 (And.intro @kp5_1 (And.intro @kp5_2 (And.intro @kp5_3 (And.intro @kp5_4 (And.intro @fl5_4 (And.intro @dr5_4 (And.intro @ent11 (And.intro @ci11 (And.intro @cr11 (And.intro @ent14 (And.intro @ci14 (And.intro @cr14 (And.intro @agg24 (And.intro @agg25 (And.intro @agg3 (And.intro @agg4 (And.intro @agg5 (And.intro @arrz24 (And.intro @eqg24 (And.intro @kind24 (And.intro @kind25 (And.intro @kind3 (And.intro @cv3_21 (And.intro @cv21_3 (And.intro @kind4 (And.intro @kind5 (And.intro @lv24 (And.intro @pl24 (And.intro @sl24 (And.intro @sl25 (And.intro @ap25_25 (And.intro @sl4 (And.intro @sl5 (And.intro @str24 (And.intro @str25 (And.intro @str4 (And.intro @str5 (And.intro @sz24 (And.intro @st24 (And.intro @sz3 (And.intro @st3 (And.intro @zero24 (And.intro @bd24 (@zero3))))))))))))))))))))))))))))))))))))))))))))))
-- en6: bs25, bs31
def en6 := And.intro @ent6 (And.intro @res6 (And.intro @kp6_0 (And.intro @kp6_1 (And.intro @kp6_2 (And.intro @kp6_3 (And.intro @kp6_4 (And.intro @kp6_5 (And.intro @kp6_6 (And.intro @kp6_7 (And.intro @kp6_8 (And.intro @kp6_9 (And.intro @kp6_10 (And.intro @kp6_11 (And.intro @kp6_12 (And.intro @hd6_8 (And.intro @fl6_1 (And.intro @dr6_1 (And.intro @fl6_5 (And.intro @dr6_5 (And.intro @fl6_10 (And.intro @dr6_10 (And.intro @ent11 (And.intro @ci11 (And.intro @cr11 (And.intro @ent14 (And.intro @ci14 (And.intro @cr14 (And.intro @ent16 (And.intro @ci16 (And.intro @cr16 (And.intro @agg24 (And.intro @agg25 (And.intro @agg3 (And.intro @agg31 (And.intro @agg4 (And.intro @agg5 (And.intro @arr31 (And.intro @arrz24 (And.intro @eqg24 (And.intro @kind24 (And.intro @kind25 (And.intro @kind3 (And.intro @cv3_21 (And.intro @cv21_3 (And.intro @kind31 (And.intro @kind4 (And.intro @kind5 (And.intro @lv24 (And.intro @pl24 (And.intro @sl24 (And.intro @sl25 (And.intro @ap25_25 (And.intro @sl31 (And.intro @sl4 (And.intro @sl5 (And.intro @str24 (And.intro @str25 (And.intro @str31 (And.intro @str4 (And.intro @str5 (And.intro @sz24 (And.intro @st24 (And.intro @sz3 (And.intro @st3 (And.intro @sz4 (And.intro @st4 (And.intro @und4 (And.intro @zero24 (And.intro @bd24 (And.intro @zero3 (@zero4)))))))))))))))))))))))))))))))))))))))))))))))))))))))))))))))))))))))
-- en7: 
def en7 := And.intro @ent7 (And.intro @res7 (And.intro @kp7_0 (And.intro @kp7_1 (And.intro @kp7_2 (And.intro @kp7_3 (And.intro @kp7_4 (And.intro @kp7_5 (And.intro @kp7_6 (And.intro @kp7_7 (And.intro @kp7_8 (And.intro @kp7_9 (And.intro @kp7_10 (And.intro @fl7_6 (And.intro @dr7_6 (And.intro @fl7_10 (And.intro @dr7_10 (And.intro @ent11 (And.intro @ci11 (And.intro @cr11 (And.intro @ent17 (And.intro @ci17 (And.intro @cr17 (And.intro @agg21 (And.intro @agg22 (And.intro @agg24 (And.intro @agg3 (And.intro @agg5 (And.intro @arr22 (And.intro @arrz24 (And.intro @fld24_8 (And.intro @fld24_9 (And.intro @kind21 (And.intro @cv3_21 (And.intro @cv21_3 (And.intro @kind22 (And.intro @kind24 (And.intro @pl24 (And.intro @sl21 (And.intro @sl22 (And.intro @sl24 (And.intro @str21 (And.intro @str22 (And.intro @str24 (And.intro @sz22 (And.intro @st22 (And.intro @sz24 (And.intro @st24 (And.intro @sz3 (And.intro @st3 (And.intro @sz5 (And.intro @st5 (And.intro @zero24 (@bd24)))))))))))))))))))))))))))))))))))))))))))))))))))))
-- en8: 
def en8 := And.intro @ent8 (And.intro @res8 (And.intro @kp8_0 (And.intro @kp8_1 (And.intro @kp8_2 (And.intro @kp8_3 (And.intro @fl8_3 (And.intro @dr8_3 (And.intro @ent11 (And.intro @ci11 (And.intro @cr11 (And.intro @ent17 (And.intro @ci17 (And.intro @cr17 (And.intro @ent18 (And.intro @ci18 (And.intro @cr18 (And.intro @ent19 (And.intro @ci19 (And.intro @cr19 (And.intro @ent20 (And.intro @ci20 (And.intro @cr20 (And.intro @ent21 (And.intro @ci21 (And.intro @cr21 (And.intro @ent22 (And.intro @ci22 (And.intro @cr22 (And.intro @agg21 (And.intro @agg24 (And.intro @agg3 (And.intro @agg5 (And.intro @agg9 (And.intro @eqg24 (And.intro @kind21 (And.intro @cv3_21 (And.intro @cv21_3 (And.intro @kind24 (And.intro @kind3 (And.intro @kind5 (And.intro @kind9 (And.intro @cv9_46 (And.intro @lv24 (And.intro @sl21 (And.intro @sl24 (And.intro @sl3 (And.intro @sl5 (And.intro @sl9 (And.intro @sx9 (And.intro @str21 (And.intro @str24 (And.intro @str3 (And.intro @str5 (And.intro @str9 (And.intro @sz24 (@st24))))))))))))))))))))))))))))))))))))))))))))))))))))))))
-- en9: bs25
def en9 := And.intro @ent9 (And.intro @res9 (And.intro @kp9_0 (And.intro @kp9_1 (And.intro @kp9_2 (And.intro @kp9_3 (And.intro @kp9_4 (And.intro @kp9_5 (And.intro @fl9_4 (And.intro @dr9_4 (And.intro @fl9_5 (And.intro @dr9_5 (And.intro @ent11 (And.intro @ci11 (And.intro @cr11 (And.intro @ent14 (And.intro @ci14 (And.intro @cr14 (And.intro @ent18 (And.intro @ci18 (And.intro @cr18 (And.intro @ent20 (And.intro @ci20 (And.intro @cr20 (And.intro @ent23 (And.intro @ci23 (And.intro @cr23 (And.intro @agg22 (And.intro @agg24 (And.intro @agg25 (And.intro @agg3 (And.intro @agg4 (And.intro @agg5 (And.intro @agg9 (And.intro @arrz24 (And.intro @eqg22 (And.intro @eqg24 (And.intro @fld24_8 (And.intro @fld24_9 (And.intro @kind24 (And.intro @kind25 (And.intro @kind3 (And.intro @cv3_21 (And.intro @cv21_3 (And.intro @kind4 (And.intro @kind5 (And.intro @kind9 (And.intro @cv9_46 (And.intro @lv22 (And.intro @lv24 (And.intro @pl24 (And.intro @sl24 (And.intro @sl25 (And.intro @ap25_25 (And.intro @sl3 (And.intro @sl4 (And.intro @sl5 (And.intro @sl9 (And.intro @sx9 (And.intro @str24 (And.intro @str25 (And.intro @str3 (And.intro @str4 (And.intro @str5 (And.intro @str9 (And.intro @sz22 (And.intro @st22 (And.intro @sz24 (And.intro @st24 (And.intro @sz3 (And.intro @st3 (And.intro @zero24 (And.intro @bd24 (@zero3)))))))))))))))))))))))))))))))))))))))))))))))))))))))))))))))))))))))))
-- en10: 
def en10 := And.intro @ent10 (And.intro @res10 (And.intro @kp10_0 (And.intro @kp10_1 (And.intro @kp10_2 (And.intro @kp10_3 (And.intro @kp10_4 (And.intro @kp10_5 (And.intro @kp10_6 (And.intro @kp10_7 (And.intro @kp10_8 (And.intro @kp10_9 (And.intro @kp10_10 (And.intro @kp10_11 (And.intro @fl10_6 (And.intro @dr10_6 (And.intro @ent11 (And.intro @ci11 (And.intro @cr11 (And.intro @ent17 (And.intro @ci17 (And.intro @cr17 (And.intro @ent18 (And.intro @ci18 (And.intro @cr18 (And.intro @ent20 (And.intro @ci20 (And.intro @cr20 (And.intro @ent25 (And.intro @ci25 (And.intro @cr25 (And.intro @agg21 (And.intro @agg24 (And.intro @agg3 (And.intro @agg5 (And.intro @agg9 (And.intro @arrz24 (And.intro @kind21 (And.intro @cv3_21 (And.intro @cv21_3 (And.intro @kind24 (And.intro @kind3 (And.intro @kind5 (And.intro @kind9 (And.intro @cv9_46 (And.intro @pl24 (And.intro @sl21 (And.intro @sl24 (And.intro @sl3 (And.intro @sl5 (And.intro @sl9 (And.intro @sx9 (And.intro @str21 (And.intro @str24 (And.intro @str3 (And.intro @str5 (And.intro @str9 (And.intro @sz24 (And.intro @st24 (And.intro @und4 (And.intro @zero24 (@bd24)))))))))))))))))))))))))))))))))))))))))))))))))))))))))))))
-- en11: bs25
def en11 := And.intro @ent11 (And.intro @res11 (And.intro @kp11_0 (And.intro @kp11_1 (And.intro @kp11_2 (And.intro @kp11_3 (And.intro @ent12 (And.intro @ci12 (And.intro @cr12 (And.intro @ent14 (And.intro @ci14 (And.intro @cr14 (And.intro @ent17 (And.intro @ci17 (And.intro @cr17 (And.intro @ent18 (And.intro @ci18 (And.intro @cr18 (And.intro @agg21 (And.intro @agg24 (And.intro @agg25 (And.intro @agg3 (And.intro @agg4 (And.intro @agg5 (And.intro @agg9 (And.intro @arrz24 (And.intro @fld24_4 (And.intro @fld24_5 (And.intro @fld24_7 (And.intro @kind21 (And.intro @cv3_21 (And.intro @cv21_3 (And.intro @kind24 (And.intro @kind25 (And.intro @kind3 (And.intro @kind4 (And.intro @kind5 (And.intro @kind9 (And.intro @cv9_46 (And.intro @pl24 (And.intro @sl21 (And.intro @sl24 (And.intro @sl25 (And.intro @ap25_25 (And.intro @sl4 (And.intro @sl5 (And.intro @sl9 (And.intro @sx9 (And.intro @str21 (And.intro @str24 (And.intro @str25 (And.intro @str4 (And.intro @str5 (And.intro @str9 (And.intro @sz24 (And.intro @st24 (And.intro @sz3 (And.intro @st3 (And.intro @sz4 (And.intro @st4 (And.intro @zero24 (And.intro @bd24 (@zero3))))))))))))))))))))))))))))))))))))))))))))))))))))))))))))))
-- en12: 
def en12 := And.intro @ent12 (And.intro @res12 (And.intro @kp12_0 (And.intro @kp12_1 (And.intro @agg22 (And.intro @agg24 (And.intro @agg4 (And.intro @agg5 (And.intro @arr22 (And.intro @arr24 (And.intro @arrz22 (And.intro @arrz24 (And.intro @fld24_4 (And.intro @fld24_5 (And.intro @fld24_8 (And.intro @pl24 (And.intro @sz22 (And.intro @st22 (And.intro @sz24 (And.intro @st24 (And.intro @sz4 (And.intro @st4 (And.intro @sz5 (And.intro @st5 (And.intro @zero22 (And.intro @bd22 (And.intro @zero24 (@bd24)))))))))))))))))))))))))))
-- en13: 
def en13 := And.intro @ent13 (And.intro @res13 (And.intro @kp13_0 (And.intro @kp13_1 (And.intro @agg22 (And.intro @agg24 (And.intro @agg4 (And.intro @agg5 (And.intro @arr22 (And.intro @arr24 (And.intro @arrz22 (And.intro @arrz24 (And.intro @fld24_4 (And.intro @fld24_5 (And.intro @fld24_8 (And.intro @pl24 (And.intro @sz22 (And.intro @st22 (And.intro @sz24 (And.intro @st24 (And.intro @sz4 (And.intro @st4 (And.intro @sz5 (And.intro @st5 (And.intro @zero22 (And.intro @bd22 (And.intro @zero24 (@bd24)))))))))))))))))))))))))))
-- en14: bs25
def en14 := And.intro @ent14 (And.intro @res14 (And.intro @kp14_0 (And.intro @kp14_1 (And.intro @kp14_2 (And.intro @kp14_3 (And.intro @kp14_4 (And.intro @kp14_5 (And.intro @kp14_6 (And.intro @kp14_7 (And.intro @kp14_8 (And.intro @kp14_9 (And.intro @hd14_3 (And.intro @ent26 (And.intro @ci26 (And.intro @cr26 (And.intro @agg24 (And.intro @agg25 (And.intro @agg3 (And.intro @agg4 (And.intro @arr25 (And.intro @arrz24 (And.intro @kind25 (And.intro @kind3 (And.intro @cv3_21 (And.intro @cv21_3 (And.intro @pl24 (And.intro @sl25 (And.intro @ap25_25 (And.intro @sl3 (And.intro @str25 (And.intro @str3 (And.intro @sz24 (And.intro @st24 (And.intro @sz3 (And.intro @st3 (And.intro @sz4 (And.intro @st4 (And.intro @und44 (And.intro @zero24 (And.intro @bd24 (@zero3)))))))))))))))))))))))))))))))))))))))))
-- en15: bs25
def en15 := And.intro @ent15 (And.intro @res15 (And.intro @kp15_0 (And.intro @kp15_1 (And.intro @kp15_2 (And.intro @kp15_3 (And.intro @kp15_4 (And.intro @kp15_5 (And.intro @kp15_6 (And.intro @kp15_7 (And.intro @kp15_8 (And.intro @kp15_9 (And.intro @kp15_10 (And.intro @kp15_11 (And.intro @kp15_12 (And.intro @kp15_13 (And.intro @kp15_14 (And.intro @kp15_15 (And.intro @kp15_16 (And.intro @kp15_17 (And.intro @kp15_18 (And.intro @kp15_19 (And.intro @kp15_20 (And.intro @kp15_21 (And.intro @kp15_22 (And.intro @kp15_23 (And.intro @kp15_24 (And.intro @kp15_25 (And.intro @hd15_2 (And.intro @agg24 (And.intro @agg25 (And.intro @agg3 (And.intro @agg4 (And.intro @arr25 (And.intro @arrz24 (And.intro @fld24_0 (And.intro @fld24_1 (And.intro @fld24_2 (And.intro @fld24_3 (And.intro @fld24_4 (And.intro @fld24_5 (And.intro @fld24_6 (And.intro @fld24_7 (And.intro @kind25 (And.intro @kind3 (And.intro @cv3_21 (And.intro @cv21_3 (And.intro @pl24 (And.intro @sl25 (And.intro @ap25_25 (And.intro @str25 (And.intro @sz24 (And.intro @st24 (And.intro @sz3 (And.intro @st3 (And.intro @sz4 (And.intro @st4 (And.intro @zero24 (And.intro @bd24 (@zero3)))))))))))))))))))))))))))))))))))))))))))))))))))))))))))
-- en16: bs31
def en16 := And.intro @ent16 (And.intro @res16 (And.intro @kp16_0 (And.intro @kp16_1 (And.intro @agg31 (And.intro @agg4 (And.intro @fld24_0 (And.intro @fld24_1 (And.intro @fld24_2 (And.intro @fld24_3 (And.intro @fld24_4 (And.intro @fld24_5 (And.intro @fld24_6 (And.intro @fld24_7 (And.intro @kind31 (And.intro @kind4 (And.intro @sl31 (And.intro @str31 (And.intro @sz4 (And.intro @st4 (@zero4))))))))))))))))))))
-- en17: bs46
def en17 := And.intro @ent17 (And.intro @res17 (And.intro @kp17_0 (And.intro @kp17_1 (And.intro @kp17_2 (And.intro @kp17_3 (And.intro @kp17_4 (And.intro @kp17_5 (And.intro @kp17_6 (And.intro @kp17_7 (And.intro @kp17_8 (And.intro @kp17_9 (And.intro @kp17_10 (And.intro @kp17_11 (And.intro @kp17_12 (And.intro @kp17_13 (And.intro @hd17_9 (And.intro @ent27 (And.intro @ci27 (And.intro @cr27 (And.intro @agg21 (And.intro @agg22 (And.intro @agg3 (And.intro @agg46 (And.intro @agg5 (And.intro @agg9 (And.intro @arr22 (And.intro @arr46 (And.intro @fld24_8 (And.intro @fld24_9 (And.intro @kind21 (And.intro @cv3_21 (And.intro @cv21_3 (And.intro @kind22 (And.intro @kind3 (And.intro @kind46 (And.intro @cv9_46 (And.intro @kind5 (And.intro @kind9 (And.intro @sl21 (And.intro @sl22 (And.intro @sl3 (And.intro @sl46 (And.intro @sl5 (And.intro @sl9 (And.intro @sx9 (And.intro @str21 (And.intro @str22 (And.intro @str3 (And.intro @str46 (And.intro @str5 (And.intro @str9 (And.intro @sz22 (And.intro @st22 (And.intro @sz3 (And.intro @st3 (And.intro @sz5 (And.intro @st5 (@zero5))))))))))))))))))))))))))))))))))))))))))))))))))))))))))
-- en18: 
def en18 := And.intro @ent18 (And.intro @res18 (And.intro @kp18_0 (And.intro @kp18_1 (And.intro @kp18_2 (And.intro @kp18_3 (And.intro @kp18_4 (And.intro @kp18_5 (And.intro @kp18_6 (And.intro @kp18_7 (And.intro @kp18_8 (And.intro @agg22 (And.intro @agg24 (And.intro @agg5 (And.intro @arr22 (And.intro @arrz24 (And.intro @fld24_8 (And.intro @kind22 (And.intro @pl24 (And.intro @sl22 (And.intro @str22 (And.intro @sz22 (And.intro @st22 (And.intro @sz24 (And.intro @st24 (And.intro @sz5 (And.intro @st5 (And.intro @zero24 (@bd24))))))))))))))))))))))))))))
-- en19: 
def en19 := And.intro @ent19 (And.intro @res19 (And.intro @kp19_0 (And.intro @kp19_1 (And.intro @kp19_2 (And.intro @kp19_3 (And.intro @kp19_4 (And.intro @kp19_5 (And.intro @kp19_6 (And.intro @kp19_7 (And.intro @agg22 (And.intro @agg24 (And.intro @agg5 (And.intro @arr22 (And.intro @arrz24 (And.intro @fld24_8 (And.intro @kind22 (And.intro @pl24 (And.intro @sl22 (And.intro @str22 (And.intro @sz22 (And.intro @st22 (And.intro @sz24 (And.intro @st24 (And.intro @sz5 (And.intro @st5 (And.intro @zero24 (@bd24)))))))))))))))))))))))))))
-- en20: 
def en20 := And.intro @ent20 (And.intro @res20 (And.intro @kp20_0 (And.intro @kp20_1 (And.intro @kp20_2 (And.intro @kp20_3 (And.intro @agg24 (And.intro @agg3 (And.intro @arrz24 (And.intro @fld24_9 (And.intro @pl24 (And.intro @sz24 (And.intro @st24 (And.intro @sz3 (And.intro @st3 (And.intro @zero24 (@bd24))))))))))))))))
-- en21: 
def en21 := And.intro @ent21 (And.intro @res21 (And.intro @kp21_0 (And.intro @kp21_1 (And.intro @kp21_2 (And.intro @kp21_3 (And.intro @agg24 (And.intro @agg3 (And.intro @arrz24 (And.intro @fld24_9 (And.intro @pl24 (And.intro @sz24 (And.intro @st24 (And.intro @sz3 (And.intro @st3 (And.intro @zero24 (@bd24))))))))))))))))
-- en22: bs48
def en22 := And.intro @ent22 (And.intro @res22 (And.intro @kp22_0 (And.intro @kp22_1 (And.intro @kp22_2 (And.intro @kp22_3 (And.intro @kp22_4 (And.intro @kp22_5 (And.intro @kp22_6 (And.intro @kp22_7 (And.intro @agg21 (And.intro @agg22 (And.intro @agg3 (And.intro @agg48 (And.intro @agg5 (And.intro @arr22 (And.intro @arr48 (And.intro @fld24_8 (And.intro @fld24_9 (And.intro @kind21 (And.intro @cv3_21 (And.intro @cv21_3 (And.intro @kind22 (And.intro @kind48 (And.intro @sl22 (And.intro @sl48 (And.intro @str22 (And.intro @str48 (And.intro @sz21 (And.intro @st21 (And.intro @sz22 (And.intro @st22 (And.intro @sz3 (And.intro @st3 (And.intro @sz5 (And.intro @st5 (@zero21))))))))))))))))))))))))))))))))))))
-- en23: 
def en23 := And.intro @ent23 (And.intro @res23 (And.intro @kp23_0 (And.intro @kp23_1 (And.intro @kp23_2 (And.intro @kp23_3 (And.intro @agg22 (And.intro @agg24 (And.intro @agg3 (And.intro @agg5 (And.intro @arr22 (And.intro @arrz22 (And.intro @arrz24 (And.intro @fld24_8 (And.intro @fld24_9 (And.intro @pl24 (And.intro @sz22 (And.intro @st22 (And.intro @sz24 (And.intro @st24 (And.intro @sz3 (And.intro @st3 (And.intro @sz5 (And.intro @st5 (And.intro @zero22 (And.intro @bd22 (And.intro @zero24 (@bd24)))))))))))))))))))))))))))
-- en24: 
def en24 := And.intro @ent24 (And.intro @res24 (And.intro @kp24_0 (@kp24_1)))
-- en25: bs50
def en25 := And.intro @ent25 (And.intro @res25 (And.intro @kp25_0 (And.intro @kp25_1 (And.intro @kp25_2 (And.intro @kp25_3 (And.intro @kp25_4 (And.intro @kp25_5 (And.intro @kp25_6 (And.intro @kp25_7 (And.intro @ent28 (And.intro @ci28 (And.intro @cr28 (And.intro @ent29 (And.intro @ci29 (And.intro @cr29 (And.intro @ent30 (And.intro @ci30 (And.intro @cr30 (And.intro @agg21 (And.intro @agg50 (And.intro @agg52 (And.intro @arrz52 (And.intro @kind21 (And.intro @cv3_21 (And.intro @cv21_3 (And.intro @kind50 (And.intro @kind52 (And.intro @sl21 (And.intro @sl50 (And.intro @str21 (And.intro @str50 (And.intro @sz52 (And.intro @st52 (And.intro @zero52 (@bd52)))))))))))))))))))))))))))))))))))
-- en26: 
def en26 := And.intro @ent26 (And.intro @res26 (And.intro @kp26_0 (And.intro @kp26_1 (And.intro @kp26_2 (And.intro @kp26_3 (And.intro @kp26_4 (And.intro @kp26_5 (And.intro @kp26_6 (And.intro @kp26_7 (And.intro @kp26_8 (And.intro @kp26_9 (And.intro @kp26_10 (And.intro @kp26_11 (And.intro @kp26_12 (And.intro @kp26_13 (And.intro @kp26_14 (And.intro @kp26_15 (And.intro @kp26_16 (And.intro @kp26_17 (And.intro @kp26_18 (And.intro @kp26_19 (And.intro @kp26_20 (And.intro @kp26_21 (And.intro @kp26_22 (And.intro @kp26_23 (And.intro @kp26_24 (And.intro @kp26_25 (And.intro @agg4 (And.intro @agg5 (And.intro @fld24_0 (And.intro @fld24_1 (And.intro @fld24_2 (And.intro @fld24_3 (And.intro @fld24_4 (And.intro @fld24_5 (And.intro @fld24_6 (And.intro @fld24_7 (And.intro @sz4 (And.intro @st4 (And.intro @sz5 (@st5)))))))))))))))))))))))))))))))))))))))))
-- en27: 
def en27 := And.intro @ent27 (And.intro @res27 (And.intro @kp27_0 (And.intro @kp27_1 (And.intro @ent31 (And.intro @ci31 (And.intro @cr31 (And.intro @xk31 (And.intro @agg5 (And.intro @agg9 (And.intro @kind5 (And.intro @kind9 (And.intro @cv9_46 (And.intro @sl5 (And.intro @sl9 (And.intro @sx9 (And.intro @str5 (@str9)))))))))))))))))
-- en28: bs50
def en28 := And.intro @ent28 (And.intro @res28 (And.intro @kp28_0 (And.intro @kp28_1 (And.intro @ent29 (And.intro @ci29 (And.intro @cr29 (And.intro @ent32 (And.intro @ci32 (And.intro @cr32 (And.intro @agg21 (And.intro @agg50 (And.intro @agg52 (And.intro @arrz52 (And.intro @kind21 (And.intro @cv3_21 (And.intro @cv21_3 (And.intro @kind50 (And.intro @kind52 (And.intro @sl21 (And.intro @sl50 (And.intro @str21 (And.intro @str50 (And.intro @sz52 (And.intro @st52 (And.intro @zero52 (@bd52))))))))))))))))))))))))))
-- en29: 
def en29 := And.intro @ent29 (And.intro @res29 (And.intro @kp29_0 (And.intro @kp29_1 (And.intro @ent33 (And.intro @ci33 (@cr33))))))
-- en30: bs50
def en30 := And.intro @ent30 (And.intro @res30 (And.intro @kp30_0 (And.intro @kp30_1 (And.intro @agg21 (And.intro @agg50 (And.intro @agg52 (And.intro @arr52 (And.intro @arrz52 (And.intro @kind50 (And.intro @kind52 (And.intro @sl50 (And.intro @str50 (And.intro @sz21 (And.intro @st21 (And.intro @sz52 (And.intro @st52 (And.intro @zero52 (@bd52))))))))))))))))))
-- en31: 
def en31 := And.intro @ent31 (And.intro @res31 (And.intro @kp31_0 (And.intro @kp31_1 (And.intro @agg5 (And.intro @agg9 (And.intro @kind5 (And.intro @kind9 (And.intro @cv9_46 (And.intro @sl5 (And.intro @sl9 (And.intro @sx9 (And.intro @str5 (@str9)))))))))))))
-- en32: bs50
def en32 := And.intro @ent32 (And.intro @res32 (And.intro @kp32_0 (And.intro @kp32_1 (And.intro @agg21 (And.intro @agg50 (And.intro @agg52 (And.intro @arr52 (And.intro @arrz52 (And.intro @kind50 (And.intro @kind52 (And.intro @sl50 (And.intro @str50 (And.intro @sz21 (And.intro @st21 (And.intro @sz52 (And.intro @st52 (And.intro @zero52 (@bd52))))))))))))))))))
-- en33: bs50
def en33 := And.intro @ent33 (And.intro @res33 (And.intro @kp33_0 (And.intro @kp33_1 (And.intro @kp33_2 (And.intro @kp33_3 (And.intro @kp33_4 (And.intro @kp33_5 (And.intro @kp33_6 (And.intro @kp33_7 (And.intro @hd33_2 (And.intro @fl33_1 (And.intro @dr33_1 (And.intro @agg21 (And.intro @agg50 (And.intro @agg52 (And.intro @arr50 (And.intro @arr52 (And.intro @arrz52 (And.intro @kind50 (And.intro @kind52 (And.intro @sl50 (And.intro @sl52 (And.intro @str50 (And.intro @str52 (And.intro @sz21 (And.intro @st21 (And.intro @sz50 (And.intro @st50 (And.intro @sz52 (And.intro @st52 (And.intro @zero52 (@bd52))))))))))))))))))))))))))))))))
-- ca2: 
def ca2 := And.intro @ent2 (And.intro @ci2 (@cr2))
-- ca3: 
def ca3 := And.intro @ent3 (And.intro @ci3 (@cr3))
-- ca4: 
def ca4 := And.intro @ent4 (And.intro @ci4 (@cr4))
-- ca5: 
def ca5 := And.intro @ent5 (And.intro @ci5 (@cr5))
-- ca6: 
def ca6 := And.intro @ent6 (And.intro @ci6 (@cr6))
-- ca7: 
def ca7 := And.intro @ent7 (And.intro @ci7 (@cr7))
-- ca8: 
def ca8 := And.intro @ent8 (And.intro @ci8 (@cr8))
-- ca9: 
def ca9 := And.intro @ent9 (And.intro @ci9 (@cr9))
-- ca10: 
def ca10 := And.intro @ent10 (And.intro @ci10 (@cr10))
-- ca11: 
def ca11 := And.intro @ent11 (And.intro @ci11 (@cr11))
-- ca12: 
def ca12 := And.intro @ent12 (And.intro @ci12 (@cr12))
-- ca13: 
def ca13 := And.intro @ent13 (And.intro @ci13 (@cr13))
-- ca14: 
def ca14 := And.intro @ent14 (And.intro @ci14 (@cr14))
-- ca15: 
def ca15 := And.intro @ent15 (And.intro @ci15 (@cr15))
-- ca16: 
def ca16 := And.intro @ent16 (And.intro @ci16 (@cr16))
-- ca17: 
def ca17 := And.intro @ent17 (And.intro @ci17 (@cr17))
-- ca18: 
def ca18 := And.intro @ent18 (And.intro @ci18 (@cr18))
-- ca19: 
def ca19 := And.intro @ent19 (And.intro @ci19 (@cr19))
-- ca20: 
def ca20 := And.intro @ent20 (And.intro @ci20 (@cr20))
-- ca21: 
def ca21 := And.intro @ent21 (And.intro @ci21 (@cr21))
-- ca22: 
def ca22 := And.intro @ent22 (And.intro @ci22 (@cr22))
-- ca23: 
def ca23 := And.intro @ent23 (And.intro @ci23 (@cr23))
-- ca24: 
def ca24 := And.intro @ent24 (And.intro @ci24 (@cr24))
-- ca25: 
def ca25 := And.intro @ent25 (And.intro @ci25 (@cr25))
-- ca26: 
def ca26 := And.intro @ent26 (And.intro @ci26 (@cr26))
-- ca27: 
def ca27 := And.intro @ent27 (And.intro @ci27 (@cr27))
-- ca28: 
def ca28 := And.intro @ent28 (And.intro @ci28 (@cr28))
-- ca29: 
def ca29 := And.intro @ent29 (And.intro @ci29 (@cr29))
-- ca30: 
def ca30 := And.intro @ent30 (And.intro @ci30 (@cr30))
-- ca31: 
def ca31 := And.intro @ent31 (And.intro @ci31 (And.intro @cr31 (@xk31)))
-- ca32: 
def ca32 := And.intro @ent32 (And.intro @ci32 (@cr32))
-- ca33: 
def ca33 := And.intro @ent33 (And.intro @ci33 (@cr33))
-- tyaa: 
def tyaa := And.intro @agg21 (And.intro @agg22 (And.intro @agg24 (And.intro @agg25 (And.intro @agg3 (And.intro @agg31 (And.intro @agg4 (And.intro @agg46 (And.intro @agg48 (And.intro @agg5 (And.intro @agg50 (And.intro @agg52 (And.intro @agg9 (And.intro @arr22 (And.intro @arr24 (And.intro @arr25 (And.intro @arr31 (And.intro @arr46 (And.intro @arr48 (And.intro @arr50 (And.intro @arr52 (And.intro @arrz22 (And.intro @arrz24 (And.intro @arrz52 (@eqg22))))))))))))))))))))))))
-- tyab: 
def tyab := And.intro @eqg24 (And.intro @fld24_0 (And.intro @fld24_1 (And.intro @fld24_2 (And.intro @fld24_3 (And.intro @fld24_4 (And.intro @fld24_5 (And.intro @fld24_6 (And.intro @fld24_7 (And.intro @fld24_8 (And.intro @fld24_9 (And.intro @kind21 (And.intro @cv3_21 (And.intro @cv21_3 (And.intro @kind22 (And.intro @kind24 (And.intro @kind25 (And.intro @kind3 (And.intro @kind31 (And.intro @kind4 (And.intro @kind46 (And.intro @cv9_46 (And.intro @kind48 (And.intro @kind5 (@kind50))))))))))))))))))))))))
-- tyac: bs25, bs31
def tyac := And.intro @kind52 (And.intro @kind9 (And.intro @lv22 (And.intro @lv24 (And.intro @pl24 (And.intro @sl21 (And.intro @sl22 (And.intro @sl24 (And.intro @sl25 (And.intro @ap25_25 (And.intro @sl3 (And.intro @sl31 (@sl4))))))))))))
-- tyad: bs46, bs48, bs50
def tyad := And.intro @sl46 (And.intro @sl48 (And.intro @sl5 (And.intro @sl50 (And.intro @sl52 (And.intro @sl9 (And.intro @sx9 (And.intro @str21 (And.intro @str22 (And.intro @str24 (And.intro @str25 (@str3)))))))))))
-- tyae: 
def tyae := And.intro @str31 (And.intro @str4 (And.intro @str46 (And.intro @str48 (And.intro @str5 (And.intro @str50 (And.intro @str52 (And.intro @str9 (And.intro @sz21 (And.intro @st21 (And.intro @sz22 (And.intro @st22 (And.intro @sz24 (And.intro @st24 (And.intro @sz3 (And.intro @st3 (And.intro @sz4 (And.intro @st4 (And.intro @sz5 (And.intro @st5 (And.intro @sz50 (And.intro @st50 (And.intro @sz52 (And.intro @st52 (@und4))))))))))))))))))))))))
-- tyaf: 
def tyaf := And.intro @und44 (And.intro @zero21 (And.intro @zero22 (And.intro @bd22 (And.intro @zero24 (And.intro @bd24 (And.intro @zero3 (And.intro @zero4 (And.intro @zero5 (And.intro @zero52 (@bd52))))))))))
end Go.VI
