import Derived.Lib.LaidTab
import Derived.MakeChecks
import Derived.Shelf.LaysM
import Derived.Shelf.Strings.BuilderK
import Derived.Test.YtediniocfjapiaaGreatDoorProg
import Derived.WalkKit
import Derived.BigCall
import Derived.Deep.LoopGhost
import Derived.Lib.Walk
import Derived.Lib.SliceRun
import Derived.LoopN
import Derived.Handy
import Derived.RangeFuncNested
import Derived.RangeFuncBound
import Derived.RangeFuncCalls
import Derived.RangeFuncLeaves
import Derived.Shelf.Abstract
import Derived.Shelf.RegionOpen
import Derived.OwnWalkIn
import Derived.TacticsInMore
import Derived.LoopNIn
import Derived.LoopIn
import Derived.Test.YtediniocfjapiaaGreatDoorZTVI7
open Int renaming reduceToNat → zq6, reduceLT → zq7, reduceLE → zq8, reduceMul → zq9, reduceAdd → zq10, reduceEq → zq12, reduceNe → zq13, reduceNeg → zq14, reduceGT → zq15, reduceGE → zq16
open Nat renaming reduceEqDiff → zq0, reduceAdd → zq1, reduceSub → zq2, reduceMul → zq3, reduceLT → zq4, reduceLeDiff → zq5, reduceBEq → zq11
open UInt8 renaming reduceToNat → zq17
set_option linter.unusedSimpArgs false
set_option linter.unusedVariables false
set_option maxRecDepth 100000
set_option maxHeartbeats 8000000
namespace Go.VI
open Go.Proofs
theorem kn_dob : isoK E (callT E) 21 [.ptr 1 0 0 0, .agg [.i (.v (.int .i64 1)), .i (.v (.int .i32 98)), .i (.v (.int .u8 0)), .i (.v (.int .u8 0)), .i (.str []), .i (.sl 1 [] false), .i (.str [])]] [.box [.i (.v (.int .i64 0)), .i (.v (.int .i64 0)), .i (.sl 0 [] true), .i (.v (.int .i64 0)), .i (.v (.int .i64 0)), .i (.sl 0 [] true), .i (.v (.int .i64 0)), .i (.v (.int .i64 0)), .i (.v (.bool false)), .i (.v (.int .i64 0)), .i (.v (.int .i64 0)), .i (.v (.bool false)), .i (.v (.int .i64 0)), .i (.v (.int .i64 0)), .i (.v (.int .i64 0)), .i (.v (.bool false)), .i (.v (.int .u8 0)), .i (.v (.int .u8 0)), .i (.v (.int .i64 0)), .i (.v (.int .i64 0)), .i (.v (.int .i64 0)), .i (.v (.int .i64 0)), .i (.v (.bool false)), .i (.v (.bool false)), .i (.v (.bool false)), .i (.v (.bool false)), .i (.v (.bool false)), .i (.v (.bool false)), .i (.v (.bool false)), .i (.v (.bool false)), .i (.v (.int .u8 0)), .i (.v (.int .u8 0)), .i (.v (.int .i64 0)), .i (.v (.int .i64 0)), .i (.v (.int .i64 0)), .i (.sl 0 [] true), .i (.sl 0 [] true), .i (.v (.int .i64 0)), .i (.str []), .i (.str []), .i (.str []), .i (.str [])], .box [.i (.v (.int .i64 3)), .i (.v (.int .i64 1)), .ref 2 0 0 1, .i (.v (.int .i64 3)), .i (.v (.int .i64 1)), .ref 3 0 0 1, .i (.v (.int .i64 0)), .i (.v (.int .i64 2)), .i (.v (.bool false)), .i (.v (.int .i64 0)), .i (.v (.int .i64 0)), .i (.v (.bool false)), .i (.v (.int .i64 (-1))), .i (.v (.int .i64 (-1))), .i (.v (.int .i64 0)), .i (.v (.bool false)), .i (.v (.int .u8 66)), .i (.v (.int .u8 66)), .i (.v (.int .i64 0)), .i (.v (.int .i64 (-1))), .i (.v (.int .i64 (-1))), .i (.v (.int .i64 0)), .i (.v (.bool false)), .i (.v (.bool false)), .i (.v (.bool false)), .i (.v (.bool false)), .i (.v (.bool true)), .i (.v (.bool true)), .i (.v (.bool false)), .i (.v (.bool false)), .i (.v (.int .u8 66)), .i (.v (.int .u8 66)), .i (.v (.int .i64 0)), .i (.v (.int .i64 0)), .i (.v (.int .i64 1)), .ref 4 0 0 3, .ref 5 0 0 0, .i (.v (.int .i64 2)), .i (.str []), .i (.str []), .i (.str []), .i (.str [])], .sl 1 0 [[.sl 5 [[.str [97], .v (.int .i64 1), .v (.int .i64 (-1)), .v (.int .i64 (-1)), .v (.int .i64 0)], [.str [32], .v (.int .i64 1), .v (.int .i64 (-1)), .v (.int .i64 (-1)), .v (.int .i64 0)], [.str [32], .v (.int .i64 1), .v (.int .i64 (-1)), .v (.int .i64 (-1)), .v (.int .i64 0)]] false]] false, .sl 1 0 [[.sl 5 [[.str [32], .v (.int .i64 1), .v (.int .i64 (-1)), .v (.int .i64 (-1)), .v (.int .i64 0)], [.str [32], .v (.int .i64 1), .v (.int .i64 (-1)), .v (.int .i64 (-1)), .v (.int .i64 0)], [.str [32], .v (.int .i64 1), .v (.int .i64 (-1)), .v (.int .i64 (-1)), .v (.int .i64 0)]] false]] false, .sl 1 0 [[.v (.bool true)], [.v (.bool false)], [.v (.bool false)]] false, .sl 1 0 [] false, .box [.i (.v (.int .i64 0)), .i (.str []), .i (.str [])], .box [.i (.v (.int .i64 1)), .i (.v (.int .i32 98)), .i (.v (.int .u8 0)), .i (.v (.int .u8 0)), .i (.str []), .i (.sl 1 [] false), .i (.str [])]] = some (.tup [], [.box [.i (.v (.int .i64 0)), .i (.v (.int .i64 0)), .i (.sl 0 [] true), .i (.v (.int .i64 0)), .i (.v (.int .i64 0)), .i (.sl 0 [] true), .i (.v (.int .i64 0)), .i (.v (.int .i64 0)), .i (.v (.bool false)), .i (.v (.int .i64 0)), .i (.v (.int .i64 0)), .i (.v (.bool false)), .i (.v (.int .i64 0)), .i (.v (.int .i64 0)), .i (.v (.int .i64 0)), .i (.v (.bool false)), .i (.v (.int .u8 0)), .i (.v (.int .u8 0)), .i (.v (.int .i64 0)), .i (.v (.int .i64 0)), .i (.v (.int .i64 0)), .i (.v (.int .i64 0)), .i (.v (.bool false)), .i (.v (.bool false)), .i (.v (.bool false)), .i (.v (.bool false)), .i (.v (.bool false)), .i (.v (.bool false)), .i (.v (.bool false)), .i (.v (.bool false)), .i (.v (.int .u8 0)), .i (.v (.int .u8 0)), .i (.v (.int .i64 0)), .i (.v (.int .i64 0)), .i (.v (.int .i64 0)), .i (.sl 0 [] true), .i (.sl 0 [] true), .i (.v (.int .i64 0)), .i (.str []), .i (.str []), .i (.str []), .i (.str [])], .box [.i (.v (.int .i64 3)), .i (.v (.int .i64 1)), .ref 2 0 0 1, .i (.v (.int .i64 3)), .i (.v (.int .i64 1)), .ref 3 0 0 1, .i (.v (.int .i64 0)), .i (.v (.int .i64 2)), .i (.v (.bool true)), .i (.v (.int .i64 0)), .i (.v (.int .i64 0)), .i (.v (.bool false)), .i (.v (.int .i64 (-1))), .i (.v (.int .i64 (-1))), .i (.v (.int .i64 0)), .i (.v (.bool false)), .i (.v (.int .u8 66)), .i (.v (.int .u8 66)), .i (.v (.int .i64 0)), .i (.v (.int .i64 (-1))), .i (.v (.int .i64 (-1))), .i (.v (.int .i64 0)), .i (.v (.bool false)), .i (.v (.bool false)), .i (.v (.bool false)), .i (.v (.bool false)), .i (.v (.bool true)), .i (.v (.bool true)), .i (.v (.bool false)), .i (.v (.bool false)), .i (.v (.int .u8 66)), .i (.v (.int .u8 66)), .i (.v (.int .i64 0)), .i (.v (.int .i64 0)), .i (.v (.int .i64 1)), .ref 4 0 0 3, .ref 5 0 0 0, .i (.v (.int .i64 2)), .i (.str []), .i (.str []), .i (.str []), .i (.str [])], .sl 1 0 [[.sl 5 [[.str [97], .v (.int .i64 1), .v (.int .i64 (-1)), .v (.int .i64 (-1)), .v (.int .i64 0)], [.str [32], .v (.int .i64 1), .v (.int .i64 (-1)), .v (.int .i64 (-1)), .v (.int .i64 0)], [.str [98], .v (.int .i64 1), .v (.int .i64 (-1)), .v (.int .i64 (-1)), .v (.int .i64 0)]] false]] false, .sl 1 0 [[.sl 5 [[.str [32], .v (.int .i64 1), .v (.int .i64 (-1)), .v (.int .i64 (-1)), .v (.int .i64 0)], [.str [32], .v (.int .i64 1), .v (.int .i64 (-1)), .v (.int .i64 (-1)), .v (.int .i64 0)], [.str [32], .v (.int .i64 1), .v (.int .i64 (-1)), .v (.int .i64 (-1)), .v (.int .i64 0)]] false]] false, .sl 1 0 [[.v (.bool true)], [.v (.bool false)], [.v (.bool false)]] false, .sl 1 0 [] false, .box [.i (.v (.int .i64 0)), .i (.str []), .i (.str [])], .box [.i (.v (.int .i64 1)), .i (.v (.int .i32 98)), .i (.v (.int .u8 0)), .i (.v (.int .u8 0)), .i (.str []), .i (.sl 1 [] false), .i (.str [])]]) := isoK_k (n := 400) (by kernel_rfl)
theorem c55 : ∃ L, callT E 55 [.ptr 0 0 0 0, .agg [.i (.v (.int .i64 4)), .i (.v (.int .i32 0)), .i (.v (.int .u8 67)), .i (.v (.int .u8 0)), .i (.str []), .i (.sl 1 [] false), .i (.str [])]] [.box [.i (.v (.int .i64 3)), .i (.v (.int .i64 1)), .ref 1 0 0 1, .i (.v (.int .i64 3)), .i (.v (.int .i64 1)), .ref 2 0 0 1, .i (.v (.int .i64 0)), .i (.v (.int .i64 1)), .i (.v (.bool false)), .i (.v (.int .i64 0)), .i (.v (.int .i64 0)), .i (.v (.bool false)), .i (.v (.int .i64 (-1))), .i (.v (.int .i64 (-1))), .i (.v (.int .i64 0)), .i (.v (.bool false)), .i (.v (.int .u8 66)), .i (.v (.int .u8 66)), .i (.v (.int .i64 0)), .i (.v (.int .i64 (-1))), .i (.v (.int .i64 (-1))), .i (.v (.int .i64 0)), .i (.v (.bool false)), .i (.v (.bool false)), .i (.v (.bool false)), .i (.v (.bool false)), .i (.v (.bool true)), .i (.v (.bool true)), .i (.v (.bool false)), .i (.v (.bool false)), .i (.v (.int .u8 66)), .i (.v (.int .u8 66)), .i (.v (.int .i64 0)), .i (.v (.int .i64 0)), .i (.v (.int .i64 1)), .ref 3 0 0 3, .ref 4 0 0 0, .i (.v (.int .i64 2)), .i (.str []), .i (.str []), .i (.str []), .i (.str [])], .sl 1 0 [[.sl 5 [[.str [97], .v (.int .i64 1), .v (.int .i64 (-1)), .v (.int .i64 (-1)), .v (.int .i64 0)], [.str [32], .v (.int .i64 1), .v (.int .i64 (-1)), .v (.int .i64 (-1)), .v (.int .i64 0)], [.str [32], .v (.int .i64 1), .v (.int .i64 (-1)), .v (.int .i64 (-1)), .v (.int .i64 0)]] false]] false, .sl 1 0 [[.sl 5 [[.str [32], .v (.int .i64 1), .v (.int .i64 (-1)), .v (.int .i64 (-1)), .v (.int .i64 0)], [.str [32], .v (.int .i64 1), .v (.int .i64 (-1)), .v (.int .i64 (-1)), .v (.int .i64 0)], [.str [32], .v (.int .i64 1), .v (.int .i64 (-1)), .v (.int .i64 (-1)), .v (.int .i64 0)]] false]] false, .sl 1 0 [[.v (.bool true)], [.v (.bool false)], [.v (.bool false)]] false, .sl 1 0 [] false] = some (.tup [], .box [.i (.v (.int .i64 3)), .i (.v (.int .i64 1)), .ref 1 0 0 1, .i (.v (.int .i64 3)), .i (.v (.int .i64 1)), .ref 2 0 0 1, .i (.v (.int .i64 0)), .i (.v (.int .i64 2)), .i (.v (.bool false)), .i (.v (.int .i64 0)), .i (.v (.int .i64 0)), .i (.v (.bool false)), .i (.v (.int .i64 (-1))), .i (.v (.int .i64 (-1))), .i (.v (.int .i64 0)), .i (.v (.bool false)), .i (.v (.int .u8 66)), .i (.v (.int .u8 66)), .i (.v (.int .i64 0)), .i (.v (.int .i64 (-1))), .i (.v (.int .i64 (-1))), .i (.v (.int .i64 0)), .i (.v (.bool false)), .i (.v (.bool false)), .i (.v (.bool false)), .i (.v (.bool false)), .i (.v (.bool true)), .i (.v (.bool true)), .i (.v (.bool false)), .i (.v (.bool false)), .i (.v (.int .u8 66)), .i (.v (.int .u8 66)), .i (.v (.int .i64 0)), .i (.v (.int .i64 0)), .i (.v (.int .i64 1)), .ref 3 0 0 3, .ref 4 0 0 0, .i (.v (.int .i64 2)), .i (.str []), .i (.str []), .i (.str []), .i (.str [])] :: .sl 1 0 [[.sl 5 [[.str [97], .v (.int .i64 1), .v (.int .i64 (-1)), .v (.int .i64 (-1)), .v (.int .i64 0)], [.str [32], .v (.int .i64 1), .v (.int .i64 (-1)), .v (.int .i64 (-1)), .v (.int .i64 0)], [.str [32], .v (.int .i64 1), .v (.int .i64 (-1)), .v (.int .i64 (-1)), .v (.int .i64 0)]] false]] false :: .sl 1 0 [[.sl 5 [[.str [32], .v (.int .i64 1), .v (.int .i64 (-1)), .v (.int .i64 (-1)), .v (.int .i64 0)], [.str [32], .v (.int .i64 1), .v (.int .i64 (-1)), .v (.int .i64 (-1)), .v (.int .i64 0)], [.str [32], .v (.int .i64 1), .v (.int .i64 (-1)), .v (.int .i64 (-1)), .v (.int .i64 0)]] false]] false :: .sl 1 0 [[.v (.bool true)], [.v (.bool false)], [.v (.bool false)]] false :: .sl 1 0 [] false :: L) := by
 have e1 := kn_eff
 have e2 := kn_clo
 have e3 := kn_lk
 have e4 : ((List.range' 6 27).all fun c => !c == 5) = true := by decide
 rw [callT_eq Tryz.func55 rfl fok55 (by simp [Tryz.ntmps55])]
 simp (disch := first | omega | (simp only [vlen]; omega)) only [vall, reduceCtorEq, ↓reduceIte, zq0, zq1, zq2, zq3, zq4, zq5, zq6, zq7, zq8, zq9, zq10, zq11, zq12, zq13, zq14, zq15, zq16, zq17, en55, bs76, e1, e2, e3, e4, ent142, ci142, ak142, rk142, ow142, cr142]
 exact ⟨_, rfl⟩
theorem kn_seq (T : Hp) : isoK E (callT E) 55 [.ptr 0 0 0 0, .agg [.i (.v (.int .i64 4)), .i (.v (.int .i32 0)), .i (.v (.int .u8 67)), .i (.v (.int .u8 0)), .i (.str []), .i (.sl 1 [] false), .i (.str [])]] (.box [.i (.v (.int .i64 3)), .i (.v (.int .i64 1)), .ref 1 0 0 1, .i (.v (.int .i64 3)), .i (.v (.int .i64 1)), .ref 2 0 0 1, .i (.v (.int .i64 0)), .i (.v (.int .i64 1)), .i (.v (.bool false)), .i (.v (.int .i64 0)), .i (.v (.int .i64 0)), .i (.v (.bool false)), .i (.v (.int .i64 (-1))), .i (.v (.int .i64 (-1))), .i (.v (.int .i64 0)), .i (.v (.bool false)), .i (.v (.int .u8 66)), .i (.v (.int .u8 66)), .i (.v (.int .i64 0)), .i (.v (.int .i64 (-1))), .i (.v (.int .i64 (-1))), .i (.v (.int .i64 0)), .i (.v (.bool false)), .i (.v (.bool false)), .i (.v (.bool false)), .i (.v (.bool false)), .i (.v (.bool true)), .i (.v (.bool true)), .i (.v (.bool false)), .i (.v (.bool false)), .i (.v (.int .u8 66)), .i (.v (.int .u8 66)), .i (.v (.int .i64 0)), .i (.v (.int .i64 0)), .i (.v (.int .i64 1)), .ref 3 0 0 3, .ref 4 0 0 0, .i (.v (.int .i64 2)), .i (.str []), .i (.str []), .i (.str []), .i (.str [])] :: .sl 1 0 [[.sl 5 [[.str [97], .v (.int .i64 1), .v (.int .i64 (-1)), .v (.int .i64 (-1)), .v (.int .i64 0)], [.str [32], .v (.int .i64 1), .v (.int .i64 (-1)), .v (.int .i64 (-1)), .v (.int .i64 0)], [.str [32], .v (.int .i64 1), .v (.int .i64 (-1)), .v (.int .i64 (-1)), .v (.int .i64 0)]] false]] false :: .sl 1 0 [[.sl 5 [[.str [32], .v (.int .i64 1), .v (.int .i64 (-1)), .v (.int .i64 (-1)), .v (.int .i64 0)], [.str [32], .v (.int .i64 1), .v (.int .i64 (-1)), .v (.int .i64 (-1)), .v (.int .i64 0)], [.str [32], .v (.int .i64 1), .v (.int .i64 (-1)), .v (.int .i64 (-1)), .v (.int .i64 0)]] false]] false :: .sl 1 0 [[.v (.bool true)], [.v (.bool false)], [.v (.bool false)]] false :: .sl 1 0 [] false :: T) = some (.tup [], .box [.i (.v (.int .i64 3)), .i (.v (.int .i64 1)), .ref 1 0 0 1, .i (.v (.int .i64 3)), .i (.v (.int .i64 1)), .ref 2 0 0 1, .i (.v (.int .i64 0)), .i (.v (.int .i64 2)), .i (.v (.bool false)), .i (.v (.int .i64 0)), .i (.v (.int .i64 0)), .i (.v (.bool false)), .i (.v (.int .i64 (-1))), .i (.v (.int .i64 (-1))), .i (.v (.int .i64 0)), .i (.v (.bool false)), .i (.v (.int .u8 66)), .i (.v (.int .u8 66)), .i (.v (.int .i64 0)), .i (.v (.int .i64 (-1))), .i (.v (.int .i64 (-1))), .i (.v (.int .i64 0)), .i (.v (.bool false)), .i (.v (.bool false)), .i (.v (.bool false)), .i (.v (.bool false)), .i (.v (.bool true)), .i (.v (.bool true)), .i (.v (.bool false)), .i (.v (.bool false)), .i (.v (.int .u8 66)), .i (.v (.int .u8 66)), .i (.v (.int .i64 0)), .i (.v (.int .i64 0)), .i (.v (.int .i64 1)), .ref 3 0 0 3, .ref 4 0 0 0, .i (.v (.int .i64 2)), .i (.str []), .i (.str []), .i (.str []), .i (.str [])] :: .sl 1 0 [[.sl 5 [[.str [97], .v (.int .i64 1), .v (.int .i64 (-1)), .v (.int .i64 (-1)), .v (.int .i64 0)], [.str [32], .v (.int .i64 1), .v (.int .i64 (-1)), .v (.int .i64 (-1)), .v (.int .i64 0)], [.str [32], .v (.int .i64 1), .v (.int .i64 (-1)), .v (.int .i64 (-1)), .v (.int .i64 0)]] false]] false :: .sl 1 0 [[.sl 5 [[.str [32], .v (.int .i64 1), .v (.int .i64 (-1)), .v (.int .i64 (-1)), .v (.int .i64 0)], [.str [32], .v (.int .i64 1), .v (.int .i64 (-1)), .v (.int .i64 (-1)), .v (.int .i64 0)], [.str [32], .v (.int .i64 1), .v (.int .i64 (-1)), .v (.int .i64 (-1)), .v (.int .i64 0)]] false]] false :: .sl 1 0 [[.v (.bool true)], [.v (.bool false)], [.v (.bool false)]] false :: .sl 1 0 [] false :: T) := isoK_mA (A := [.i (.v (.int .i64 3)), .i (.v (.int .i64 1))]) (B := [.i (.v (.int .i64 3)), .i (.v (.int .i64 1))]) (C := [.i (.v (.int .i64 0)), .i (.v (.int .i64 1)), .i (.v (.bool false)), .i (.v (.int .i64 0)), .i (.v (.int .i64 0)), .i (.v (.bool false)), .i (.v (.int .i64 (-1))), .i (.v (.int .i64 (-1))), .i (.v (.int .i64 0)), .i (.v (.bool false)), .i (.v (.int .u8 66)), .i (.v (.int .u8 66)), .i (.v (.int .i64 0)), .i (.v (.int .i64 (-1))), .i (.v (.int .i64 (-1))), .i (.v (.int .i64 0)), .i (.v (.bool false)), .i (.v (.bool false)), .i (.v (.bool false)), .i (.v (.bool false)), .i (.v (.bool true)), .i (.v (.bool true)), .i (.v (.bool false)), .i (.v (.bool false)), .i (.v (.int .u8 66)), .i (.v (.int .u8 66)), .i (.v (.int .i64 0)), .i (.v (.int .i64 0)), .i (.v (.int .i64 1))]) (D := [.i (.v (.int .i64 2)), .i (.str []), .i (.str []), .i (.str []), .i (.str [])]) (A' := [.i (.v (.int .i64 3)), .i (.v (.int .i64 1))]) (B' := [.i (.v (.int .i64 3)), .i (.v (.int .i64 1))]) (C' := [.i (.v (.int .i64 0)), .i (.v (.int .i64 2)), .i (.v (.bool false)), .i (.v (.int .i64 0)), .i (.v (.int .i64 0)), .i (.v (.bool false)), .i (.v (.int .i64 (-1))), .i (.v (.int .i64 (-1))), .i (.v (.int .i64 0)), .i (.v (.bool false)), .i (.v (.int .u8 66)), .i (.v (.int .u8 66)), .i (.v (.int .i64 0)), .i (.v (.int .i64 (-1))), .i (.v (.int .i64 (-1))), .i (.v (.int .i64 0)), .i (.v (.bool false)), .i (.v (.bool false)), .i (.v (.bool false)), .i (.v (.bool false)), .i (.v (.bool true)), .i (.v (.bool true)), .i (.v (.bool false)), .i (.v (.bool false)), .i (.v (.int .u8 66)), .i (.v (.int .u8 66)), .i (.v (.int .i64 0)), .i (.v (.int .i64 0)), .i (.v (.int .i64 1))]) (D' := [.i (.v (.int .i64 2)), .i (.str []), .i (.str []), .i (.str []), .i (.str [])]) rfl rfl rfl rfl rfl rfl rfl rfl rfl rfl rfl c55 T
theorem c21_C : ∃ L, callT E 21 [.ptr 0 0 0 0, .agg [.i (.v (.int .i64 4)), .i (.v (.int .i32 0)), .i (.v (.int .u8 67)), .i (.v (.int .u8 0)), .i (.str []), .i (.sl 1 [] false), .i (.str [])]] [.box [.i (.v (.int .i64 3)), .i (.v (.int .i64 1)), .ref 1 0 0 1, .i (.v (.int .i64 3)), .i (.v (.int .i64 1)), .ref 2 0 0 1, .i (.v (.int .i64 0)), .i (.v (.int .i64 1)), .i (.v (.bool false)), .i (.v (.int .i64 0)), .i (.v (.int .i64 0)), .i (.v (.bool false)), .i (.v (.int .i64 (-1))), .i (.v (.int .i64 (-1))), .i (.v (.int .i64 0)), .i (.v (.bool false)), .i (.v (.int .u8 66)), .i (.v (.int .u8 66)), .i (.v (.int .i64 0)), .i (.v (.int .i64 (-1))), .i (.v (.int .i64 (-1))), .i (.v (.int .i64 0)), .i (.v (.bool false)), .i (.v (.bool false)), .i (.v (.bool false)), .i (.v (.bool false)), .i (.v (.bool true)), .i (.v (.bool true)), .i (.v (.bool false)), .i (.v (.bool false)), .i (.v (.int .u8 66)), .i (.v (.int .u8 66)), .i (.v (.int .i64 0)), .i (.v (.int .i64 0)), .i (.v (.int .i64 1)), .ref 3 0 0 3, .ref 4 0 0 0, .i (.v (.int .i64 2)), .i (.str []), .i (.str []), .i (.str []), .i (.str [])], .sl 1 0 [[.sl 5 [[.str [97], .v (.int .i64 1), .v (.int .i64 (-1)), .v (.int .i64 (-1)), .v (.int .i64 0)], [.str [32], .v (.int .i64 1), .v (.int .i64 (-1)), .v (.int .i64 (-1)), .v (.int .i64 0)], [.str [32], .v (.int .i64 1), .v (.int .i64 (-1)), .v (.int .i64 (-1)), .v (.int .i64 0)]] false]] false, .sl 1 0 [[.sl 5 [[.str [32], .v (.int .i64 1), .v (.int .i64 (-1)), .v (.int .i64 (-1)), .v (.int .i64 0)], [.str [32], .v (.int .i64 1), .v (.int .i64 (-1)), .v (.int .i64 (-1)), .v (.int .i64 0)], [.str [32], .v (.int .i64 1), .v (.int .i64 (-1)), .v (.int .i64 (-1)), .v (.int .i64 0)]] false]] false, .sl 1 0 [[.v (.bool true)], [.v (.bool false)], [.v (.bool false)]] false, .sl 1 0 [] false] = some (.tup [], .box [.i (.v (.int .i64 3)), .i (.v (.int .i64 1)), .ref 1 0 0 1, .i (.v (.int .i64 3)), .i (.v (.int .i64 1)), .ref 2 0 0 1, .i (.v (.int .i64 0)), .i (.v (.int .i64 2)), .i (.v (.bool false)), .i (.v (.int .i64 0)), .i (.v (.int .i64 0)), .i (.v (.bool false)), .i (.v (.int .i64 (-1))), .i (.v (.int .i64 (-1))), .i (.v (.int .i64 0)), .i (.v (.bool false)), .i (.v (.int .u8 66)), .i (.v (.int .u8 66)), .i (.v (.int .i64 0)), .i (.v (.int .i64 (-1))), .i (.v (.int .i64 (-1))), .i (.v (.int .i64 0)), .i (.v (.bool false)), .i (.v (.bool false)), .i (.v (.bool false)), .i (.v (.bool false)), .i (.v (.bool true)), .i (.v (.bool true)), .i (.v (.bool false)), .i (.v (.bool false)), .i (.v (.int .u8 66)), .i (.v (.int .u8 66)), .i (.v (.int .i64 0)), .i (.v (.int .i64 0)), .i (.v (.int .i64 1)), .ref 3 0 0 3, .ref 4 0 0 0, .i (.v (.int .i64 2)), .i (.str []), .i (.str []), .i (.str []), .i (.str [])] :: .sl 1 0 [[.sl 5 [[.str [97], .v (.int .i64 1), .v (.int .i64 (-1)), .v (.int .i64 (-1)), .v (.int .i64 0)], [.str [32], .v (.int .i64 1), .v (.int .i64 (-1)), .v (.int .i64 (-1)), .v (.int .i64 0)], [.str [32], .v (.int .i64 1), .v (.int .i64 (-1)), .v (.int .i64 (-1)), .v (.int .i64 0)]] false]] false :: .sl 1 0 [[.sl 5 [[.str [32], .v (.int .i64 1), .v (.int .i64 (-1)), .v (.int .i64 (-1)), .v (.int .i64 0)], [.str [32], .v (.int .i64 1), .v (.int .i64 (-1)), .v (.int .i64 (-1)), .v (.int .i64 0)], [.str [32], .v (.int .i64 1), .v (.int .i64 (-1)), .v (.int .i64 (-1)), .v (.int .i64 0)]] false]] false :: .sl 1 0 [[.v (.bool true)], [.v (.bool false)], [.v (.bool false)]] false :: .sl 1 0 [] false :: L) := by
 have e1 := kn_seq
 have e2 := fun H => isoK_val (E := E) (cl := callT E) (g := 50) (H := H) rfl rfl rfl kn_ckC
 rw [callT_eq Tryz.func21 rfl fok21 (by simp [Tryz.ntmps21])]
 simp (disch := first | omega | (simp only [vlen]; omega)) only [vall, reduceCtorEq, ↓reduceIte, zq0, zq1, zq2, zq3, zq4, zq5, zq6, zq7, zq8, zq9, zq10, zq11, zq12, zq13, zq14, zq15, zq16, zq17, en21, e1, e2]
 exact ⟨_, rfl⟩
theorem kn_doC (X Y Z : Chunk) : isoK E (callT E) 21 [.ptr 1 0 0 0, .agg [.i (.v (.int .i64 4)), .i (.v (.int .i32 0)), .i (.v (.int .u8 67)), .i (.v (.int .u8 0)), .i (.str []), .i (.sl 1 [] false), .i (.str [])]] [X, .box [.i (.v (.int .i64 3)), .i (.v (.int .i64 1)), .ref 2 0 0 1, .i (.v (.int .i64 3)), .i (.v (.int .i64 1)), .ref 3 0 0 1, .i (.v (.int .i64 0)), .i (.v (.int .i64 1)), .i (.v (.bool false)), .i (.v (.int .i64 0)), .i (.v (.int .i64 0)), .i (.v (.bool false)), .i (.v (.int .i64 (-1))), .i (.v (.int .i64 (-1))), .i (.v (.int .i64 0)), .i (.v (.bool false)), .i (.v (.int .u8 66)), .i (.v (.int .u8 66)), .i (.v (.int .i64 0)), .i (.v (.int .i64 (-1))), .i (.v (.int .i64 (-1))), .i (.v (.int .i64 0)), .i (.v (.bool false)), .i (.v (.bool false)), .i (.v (.bool false)), .i (.v (.bool false)), .i (.v (.bool true)), .i (.v (.bool true)), .i (.v (.bool false)), .i (.v (.bool false)), .i (.v (.int .u8 66)), .i (.v (.int .u8 66)), .i (.v (.int .i64 0)), .i (.v (.int .i64 0)), .i (.v (.int .i64 1)), .ref 4 0 0 3, .ref 5 0 0 0, .i (.v (.int .i64 2)), .i (.str []), .i (.str []), .i (.str []), .i (.str [])], .sl 1 0 [[.sl 5 [[.str [97], .v (.int .i64 1), .v (.int .i64 (-1)), .v (.int .i64 (-1)), .v (.int .i64 0)], [.str [32], .v (.int .i64 1), .v (.int .i64 (-1)), .v (.int .i64 (-1)), .v (.int .i64 0)], [.str [32], .v (.int .i64 1), .v (.int .i64 (-1)), .v (.int .i64 (-1)), .v (.int .i64 0)]] false]] false, .sl 1 0 [[.sl 5 [[.str [32], .v (.int .i64 1), .v (.int .i64 (-1)), .v (.int .i64 (-1)), .v (.int .i64 0)], [.str [32], .v (.int .i64 1), .v (.int .i64 (-1)), .v (.int .i64 (-1)), .v (.int .i64 0)], [.str [32], .v (.int .i64 1), .v (.int .i64 (-1)), .v (.int .i64 (-1)), .v (.int .i64 0)]] false]] false, .sl 1 0 [[.v (.bool true)], [.v (.bool false)], [.v (.bool false)]] false, .sl 1 0 [] false, Y, Z] = some (.tup [], [X, .box [.i (.v (.int .i64 3)), .i (.v (.int .i64 1)), .ref 2 0 0 1, .i (.v (.int .i64 3)), .i (.v (.int .i64 1)), .ref 3 0 0 1, .i (.v (.int .i64 0)), .i (.v (.int .i64 2)), .i (.v (.bool false)), .i (.v (.int .i64 0)), .i (.v (.int .i64 0)), .i (.v (.bool false)), .i (.v (.int .i64 (-1))), .i (.v (.int .i64 (-1))), .i (.v (.int .i64 0)), .i (.v (.bool false)), .i (.v (.int .u8 66)), .i (.v (.int .u8 66)), .i (.v (.int .i64 0)), .i (.v (.int .i64 (-1))), .i (.v (.int .i64 (-1))), .i (.v (.int .i64 0)), .i (.v (.bool false)), .i (.v (.bool false)), .i (.v (.bool false)), .i (.v (.bool false)), .i (.v (.bool true)), .i (.v (.bool true)), .i (.v (.bool false)), .i (.v (.bool false)), .i (.v (.int .u8 66)), .i (.v (.int .u8 66)), .i (.v (.int .i64 0)), .i (.v (.int .i64 0)), .i (.v (.int .i64 1)), .ref 4 0 0 3, .ref 5 0 0 0, .i (.v (.int .i64 2)), .i (.str []), .i (.str []), .i (.str []), .i (.str [])], .sl 1 0 [[.sl 5 [[.str [97], .v (.int .i64 1), .v (.int .i64 (-1)), .v (.int .i64 (-1)), .v (.int .i64 0)], [.str [32], .v (.int .i64 1), .v (.int .i64 (-1)), .v (.int .i64 (-1)), .v (.int .i64 0)], [.str [32], .v (.int .i64 1), .v (.int .i64 (-1)), .v (.int .i64 (-1)), .v (.int .i64 0)]] false]] false, .sl 1 0 [[.sl 5 [[.str [32], .v (.int .i64 1), .v (.int .i64 (-1)), .v (.int .i64 (-1)), .v (.int .i64 0)], [.str [32], .v (.int .i64 1), .v (.int .i64 (-1)), .v (.int .i64 (-1)), .v (.int .i64 0)], [.str [32], .v (.int .i64 1), .v (.int .i64 (-1)), .v (.int .i64 (-1)), .v (.int .i64 0)]] false]] false, .sl 1 0 [[.v (.bool true)], [.v (.bool false)], [.v (.bool false)]] false, .sl 1 0 [] false, Y, Z]) := isoK_mB (A := [.i (.v (.int .i64 3)), .i (.v (.int .i64 1))]) (B := [.i (.v (.int .i64 3)), .i (.v (.int .i64 1))]) (C := [.i (.v (.int .i64 0)), .i (.v (.int .i64 1)), .i (.v (.bool false)), .i (.v (.int .i64 0)), .i (.v (.int .i64 0)), .i (.v (.bool false)), .i (.v (.int .i64 (-1))), .i (.v (.int .i64 (-1))), .i (.v (.int .i64 0)), .i (.v (.bool false)), .i (.v (.int .u8 66)), .i (.v (.int .u8 66)), .i (.v (.int .i64 0)), .i (.v (.int .i64 (-1))), .i (.v (.int .i64 (-1))), .i (.v (.int .i64 0)), .i (.v (.bool false)), .i (.v (.bool false)), .i (.v (.bool false)), .i (.v (.bool false)), .i (.v (.bool true)), .i (.v (.bool true)), .i (.v (.bool false)), .i (.v (.bool false)), .i (.v (.int .u8 66)), .i (.v (.int .u8 66)), .i (.v (.int .i64 0)), .i (.v (.int .i64 0)), .i (.v (.int .i64 1))]) (D := [.i (.v (.int .i64 2)), .i (.str []), .i (.str []), .i (.str []), .i (.str [])]) (A' := [.i (.v (.int .i64 3)), .i (.v (.int .i64 1))]) (B' := [.i (.v (.int .i64 3)), .i (.v (.int .i64 1))]) (C' := [.i (.v (.int .i64 0)), .i (.v (.int .i64 2)), .i (.v (.bool false)), .i (.v (.int .i64 0)), .i (.v (.int .i64 0)), .i (.v (.bool false)), .i (.v (.int .i64 (-1))), .i (.v (.int .i64 (-1))), .i (.v (.int .i64 0)), .i (.v (.bool false)), .i (.v (.int .u8 66)), .i (.v (.int .u8 66)), .i (.v (.int .i64 0)), .i (.v (.int .i64 (-1))), .i (.v (.int .i64 (-1))), .i (.v (.int .i64 0)), .i (.v (.bool false)), .i (.v (.bool false)), .i (.v (.bool false)), .i (.v (.bool false)), .i (.v (.bool true)), .i (.v (.bool true)), .i (.v (.bool false)), .i (.v (.bool false)), .i (.v (.int .u8 66)), .i (.v (.int .u8 66)), .i (.v (.int .i64 0)), .i (.v (.int .i64 0)), .i (.v (.int .i64 1))]) (D' := [.i (.v (.int .i64 2)), .i (.str []), .i (.str []), .i (.str []), .i (.str [])]) rfl rfl rfl rfl rfl rfl rfl rfl rfl rfl rfl c21_C X Y Z
theorem lwa_1 : rl E 0 7 (loopAt Tryz.f7 0) [(4, .ptr 0 0 0 0), (5, .ptr 1 0 0 0), (6, .ptr 6 0 0 0), (28, .i (.sl 7 [[.v (.int .i64 1), .v (.int .i32 97), .v (.int .u8 0), .v (.int .u8 0), .str [], .sl 1 [] false, .str []]] false)), (29, .i (.v (.int .i64 1))), (30, .i (.v (.int .i64 1)))] [.box [.i (.v (.int .i64 0)), .i (.v (.int .i64 0)), .i (.sl 0 [] true), .i (.v (.int .i64 0)), .i (.v (.int .i64 0)), .i (.sl 0 [] true), .i (.v (.int .i64 0)), .i (.v (.int .i64 0)), .i (.v (.bool false)), .i (.v (.int .i64 0)), .i (.v (.int .i64 0)), .i (.v (.bool false)), .i (.v (.int .i64 0)), .i (.v (.int .i64 0)), .i (.v (.int .i64 0)), .i (.v (.bool false)), .i (.v (.int .u8 0)), .i (.v (.int .u8 0)), .i (.v (.int .i64 0)), .i (.v (.int .i64 0)), .i (.v (.int .i64 0)), .i (.v (.int .i64 0)), .i (.v (.bool false)), .i (.v (.bool false)), .i (.v (.bool false)), .i (.v (.bool false)), .i (.v (.bool false)), .i (.v (.bool false)), .i (.v (.bool false)), .i (.v (.bool false)), .i (.v (.int .u8 0)), .i (.v (.int .u8 0)), .i (.v (.int .i64 0)), .i (.v (.int .i64 0)), .i (.v (.int .i64 0)), .i (.sl 0 [] true), .i (.sl 0 [] true), .i (.v (.int .i64 0)), .i (.str []), .i (.str []), .i (.str []), .i (.str [])], .box [.i (.v (.int .i64 3)), .i (.v (.int .i64 1)), .ref 2 0 0 1, .i (.v (.int .i64 3)), .i (.v (.int .i64 1)), .ref 3 0 0 1, .i (.v (.int .i64 0)), .i (.v (.int .i64 1)), .i (.v (.bool false)), .i (.v (.int .i64 0)), .i (.v (.int .i64 0)), .i (.v (.bool false)), .i (.v (.int .i64 (-1))), .i (.v (.int .i64 (-1))), .i (.v (.int .i64 0)), .i (.v (.bool false)), .i (.v (.int .u8 66)), .i (.v (.int .u8 66)), .i (.v (.int .i64 0)), .i (.v (.int .i64 (-1))), .i (.v (.int .i64 (-1))), .i (.v (.int .i64 0)), .i (.v (.bool false)), .i (.v (.bool false)), .i (.v (.bool false)), .i (.v (.bool false)), .i (.v (.bool true)), .i (.v (.bool true)), .i (.v (.bool false)), .i (.v (.bool false)), .i (.v (.int .u8 66)), .i (.v (.int .u8 66)), .i (.v (.int .i64 0)), .i (.v (.int .i64 0)), .i (.v (.int .i64 1)), .ref 4 0 0 3, .ref 5 0 0 0, .i (.v (.int .i64 0)), .i (.str []), .i (.str []), .i (.str []), .i (.str [])], .sl 1 0 [[.sl 5 [[.str [97], .v (.int .i64 1), .v (.int .i64 (-1)), .v (.int .i64 (-1)), .v (.int .i64 0)], [.str [32], .v (.int .i64 1), .v (.int .i64 (-1)), .v (.int .i64 (-1)), .v (.int .i64 0)], [.str [32], .v (.int .i64 1), .v (.int .i64 (-1)), .v (.int .i64 (-1)), .v (.int .i64 0)]] false]] false, .sl 1 0 [[.sl 5 [[.str [32], .v (.int .i64 1), .v (.int .i64 (-1)), .v (.int .i64 (-1)), .v (.int .i64 0)], [.str [32], .v (.int .i64 1), .v (.int .i64 (-1)), .v (.int .i64 (-1)), .v (.int .i64 0)], [.str [32], .v (.int .i64 1), .v (.int .i64 (-1)), .v (.int .i64 (-1)), .v (.int .i64 0)]] false]] false, .sl 1 0 [[.v (.bool true)], [.v (.bool false)], [.v (.bool false)]] false, .sl 1 0 [] false, .box [.i (.v (.int .i64 2)), .i (.str []), .i (.str [])]] =
   some (.exit 0, [(4, .ptr 0 0 0 0), (5, .ptr 1 0 0 0), (6, .ptr 6 0 0 0), (28, .i (.sl 7 [[.v (.int .i64 1), .v (.int .i32 97), .v (.int .u8 0), .v (.int .u8 0), .str [], .sl 1 [] false, .str []]] false)), (29, .i (.v (.int .i64 1))), (30, .i (.v (.int .i64 1))), (31, .i (.v (.bool false)))], [.box [.i (.v (.int .i64 0)), .i (.v (.int .i64 0)), .i (.sl 0 [] true), .i (.v (.int .i64 0)), .i (.v (.int .i64 0)), .i (.sl 0 [] true), .i (.v (.int .i64 0)), .i (.v (.int .i64 0)), .i (.v (.bool false)), .i (.v (.int .i64 0)), .i (.v (.int .i64 0)), .i (.v (.bool false)), .i (.v (.int .i64 0)), .i (.v (.int .i64 0)), .i (.v (.int .i64 0)), .i (.v (.bool false)), .i (.v (.int .u8 0)), .i (.v (.int .u8 0)), .i (.v (.int .i64 0)), .i (.v (.int .i64 0)), .i (.v (.int .i64 0)), .i (.v (.int .i64 0)), .i (.v (.bool false)), .i (.v (.bool false)), .i (.v (.bool false)), .i (.v (.bool false)), .i (.v (.bool false)), .i (.v (.bool false)), .i (.v (.bool false)), .i (.v (.bool false)), .i (.v (.int .u8 0)), .i (.v (.int .u8 0)), .i (.v (.int .i64 0)), .i (.v (.int .i64 0)), .i (.v (.int .i64 0)), .i (.sl 0 [] true), .i (.sl 0 [] true), .i (.v (.int .i64 0)), .i (.str []), .i (.str []), .i (.str []), .i (.str [])], .box [.i (.v (.int .i64 3)), .i (.v (.int .i64 1)), .ref 2 0 0 1, .i (.v (.int .i64 3)), .i (.v (.int .i64 1)), .ref 3 0 0 1, .i (.v (.int .i64 0)), .i (.v (.int .i64 1)), .i (.v (.bool false)), .i (.v (.int .i64 0)), .i (.v (.int .i64 0)), .i (.v (.bool false)), .i (.v (.int .i64 (-1))), .i (.v (.int .i64 (-1))), .i (.v (.int .i64 0)), .i (.v (.bool false)), .i (.v (.int .u8 66)), .i (.v (.int .u8 66)), .i (.v (.int .i64 0)), .i (.v (.int .i64 (-1))), .i (.v (.int .i64 (-1))), .i (.v (.int .i64 0)), .i (.v (.bool false)), .i (.v (.bool false)), .i (.v (.bool false)), .i (.v (.bool false)), .i (.v (.bool true)), .i (.v (.bool true)), .i (.v (.bool false)), .i (.v (.bool false)), .i (.v (.int .u8 66)), .i (.v (.int .u8 66)), .i (.v (.int .i64 0)), .i (.v (.int .i64 0)), .i (.v (.int .i64 1)), .ref 4 0 0 3, .ref 5 0 0 0, .i (.v (.int .i64 0)), .i (.str []), .i (.str []), .i (.str []), .i (.str [])], .sl 1 0 [[.sl 5 [[.str [97], .v (.int .i64 1), .v (.int .i64 (-1)), .v (.int .i64 (-1)), .v (.int .i64 0)], [.str [32], .v (.int .i64 1), .v (.int .i64 (-1)), .v (.int .i64 (-1)), .v (.int .i64 0)], [.str [32], .v (.int .i64 1), .v (.int .i64 (-1)), .v (.int .i64 (-1)), .v (.int .i64 0)]] false]] false, .sl 1 0 [[.sl 5 [[.str [32], .v (.int .i64 1), .v (.int .i64 (-1)), .v (.int .i64 (-1)), .v (.int .i64 0)], [.str [32], .v (.int .i64 1), .v (.int .i64 (-1)), .v (.int .i64 (-1)), .v (.int .i64 0)], [.str [32], .v (.int .i64 1), .v (.int .i64 (-1)), .v (.int .i64 (-1)), .v (.int .i64 0)]] false]] false, .sl 1 0 [[.v (.bool true)], [.v (.bool false)], [.v (.bool false)]] false, .sl 1 0 [] false, .box [.i (.v (.int .i64 2)), .i (.str []), .i (.str [])]]) := by
 rw [rl_step (fn := Tryz.f7) (k := 0) rfl]
 simp (disch := first | omega | (simp only [vlen]; omega)) only [vall, reduceCtorEq, ↓reduceIte, zq0, zq1, zq2, zq3, zq4, zq5, zq6, zq7, zq8, zq9, zq10, zq11, zq12, zq13, zq14, zq15, zq16, zq17, en7, bs73, lp7_6]
theorem lwa_0 : rl E 0 7 (loopAt Tryz.f7 0) [(4, .ptr 0 0 0 0), (5, .ptr 1 0 0 0), (6, .ptr 6 0 0 0), (28, .i (.sl 7 [[.v (.int .i64 1), .v (.int .i32 97), .v (.int .u8 0), .v (.int .u8 0), .str [], .sl 1 [] false, .str []]] false)), (29, .i (.v (.int .i64 1))), (30, .i (.v (.int .i64 0)))] [.box [.i (.v (.int .i64 0)), .i (.v (.int .i64 0)), .i (.sl 0 [] true), .i (.v (.int .i64 0)), .i (.v (.int .i64 0)), .i (.sl 0 [] true), .i (.v (.int .i64 0)), .i (.v (.int .i64 0)), .i (.v (.bool false)), .i (.v (.int .i64 0)), .i (.v (.int .i64 0)), .i (.v (.bool false)), .i (.v (.int .i64 0)), .i (.v (.int .i64 0)), .i (.v (.int .i64 0)), .i (.v (.bool false)), .i (.v (.int .u8 0)), .i (.v (.int .u8 0)), .i (.v (.int .i64 0)), .i (.v (.int .i64 0)), .i (.v (.int .i64 0)), .i (.v (.int .i64 0)), .i (.v (.bool false)), .i (.v (.bool false)), .i (.v (.bool false)), .i (.v (.bool false)), .i (.v (.bool false)), .i (.v (.bool false)), .i (.v (.bool false)), .i (.v (.bool false)), .i (.v (.int .u8 0)), .i (.v (.int .u8 0)), .i (.v (.int .i64 0)), .i (.v (.int .i64 0)), .i (.v (.int .i64 0)), .i (.sl 0 [] true), .i (.sl 0 [] true), .i (.v (.int .i64 0)), .i (.str []), .i (.str []), .i (.str []), .i (.str [])], .box [.i (.v (.int .i64 3)), .i (.v (.int .i64 1)), .ref 2 0 0 1, .i (.v (.int .i64 3)), .i (.v (.int .i64 1)), .ref 3 0 0 1, .i (.v (.int .i64 0)), .i (.v (.int .i64 0)), .i (.v (.bool false)), .i (.v (.int .i64 0)), .i (.v (.int .i64 0)), .i (.v (.bool false)), .i (.v (.int .i64 (-1))), .i (.v (.int .i64 (-1))), .i (.v (.int .i64 0)), .i (.v (.bool false)), .i (.v (.int .u8 66)), .i (.v (.int .u8 66)), .i (.v (.int .i64 0)), .i (.v (.int .i64 (-1))), .i (.v (.int .i64 (-1))), .i (.v (.int .i64 0)), .i (.v (.bool false)), .i (.v (.bool false)), .i (.v (.bool false)), .i (.v (.bool false)), .i (.v (.bool true)), .i (.v (.bool true)), .i (.v (.bool false)), .i (.v (.bool false)), .i (.v (.int .u8 66)), .i (.v (.int .u8 66)), .i (.v (.int .i64 0)), .i (.v (.int .i64 0)), .i (.v (.int .i64 1)), .ref 4 0 0 3, .ref 5 0 0 0, .i (.v (.int .i64 0)), .i (.str []), .i (.str []), .i (.str []), .i (.str [])], .sl 1 0 [[.sl 5 [[.str [32], .v (.int .i64 1), .v (.int .i64 (-1)), .v (.int .i64 (-1)), .v (.int .i64 0)], [.str [32], .v (.int .i64 1), .v (.int .i64 (-1)), .v (.int .i64 (-1)), .v (.int .i64 0)], [.str [32], .v (.int .i64 1), .v (.int .i64 (-1)), .v (.int .i64 (-1)), .v (.int .i64 0)]] false]] false, .sl 1 0 [[.sl 5 [[.str [32], .v (.int .i64 1), .v (.int .i64 (-1)), .v (.int .i64 (-1)), .v (.int .i64 0)], [.str [32], .v (.int .i64 1), .v (.int .i64 (-1)), .v (.int .i64 (-1)), .v (.int .i64 0)], [.str [32], .v (.int .i64 1), .v (.int .i64 (-1)), .v (.int .i64 (-1)), .v (.int .i64 0)]] false]] false, .sl 1 0 [[.v (.bool true)], [.v (.bool false)], [.v (.bool false)]] false, .sl 1 0 [] false, .box [.i (.v (.int .i64 2)), .i (.str []), .i (.str [])]] =
   some (.exit 0, [(4, .ptr 0 0 0 0), (5, .ptr 1 0 0 0), (6, .ptr 6 0 0 0), (28, .i (.sl 7 [[.v (.int .i64 1), .v (.int .i32 97), .v (.int .u8 0), .v (.int .u8 0), .str [], .sl 1 [] false, .str []]] false)), (29, .i (.v (.int .i64 1))), (30, .i (.v (.int .i64 1))), (31, .i (.v (.bool false)))], [.box [.i (.v (.int .i64 0)), .i (.v (.int .i64 0)), .i (.sl 0 [] true), .i (.v (.int .i64 0)), .i (.v (.int .i64 0)), .i (.sl 0 [] true), .i (.v (.int .i64 0)), .i (.v (.int .i64 0)), .i (.v (.bool false)), .i (.v (.int .i64 0)), .i (.v (.int .i64 0)), .i (.v (.bool false)), .i (.v (.int .i64 0)), .i (.v (.int .i64 0)), .i (.v (.int .i64 0)), .i (.v (.bool false)), .i (.v (.int .u8 0)), .i (.v (.int .u8 0)), .i (.v (.int .i64 0)), .i (.v (.int .i64 0)), .i (.v (.int .i64 0)), .i (.v (.int .i64 0)), .i (.v (.bool false)), .i (.v (.bool false)), .i (.v (.bool false)), .i (.v (.bool false)), .i (.v (.bool false)), .i (.v (.bool false)), .i (.v (.bool false)), .i (.v (.bool false)), .i (.v (.int .u8 0)), .i (.v (.int .u8 0)), .i (.v (.int .i64 0)), .i (.v (.int .i64 0)), .i (.v (.int .i64 0)), .i (.sl 0 [] true), .i (.sl 0 [] true), .i (.v (.int .i64 0)), .i (.str []), .i (.str []), .i (.str []), .i (.str [])], .box [.i (.v (.int .i64 3)), .i (.v (.int .i64 1)), .ref 2 0 0 1, .i (.v (.int .i64 3)), .i (.v (.int .i64 1)), .ref 3 0 0 1, .i (.v (.int .i64 0)), .i (.v (.int .i64 1)), .i (.v (.bool false)), .i (.v (.int .i64 0)), .i (.v (.int .i64 0)), .i (.v (.bool false)), .i (.v (.int .i64 (-1))), .i (.v (.int .i64 (-1))), .i (.v (.int .i64 0)), .i (.v (.bool false)), .i (.v (.int .u8 66)), .i (.v (.int .u8 66)), .i (.v (.int .i64 0)), .i (.v (.int .i64 (-1))), .i (.v (.int .i64 (-1))), .i (.v (.int .i64 0)), .i (.v (.bool false)), .i (.v (.bool false)), .i (.v (.bool false)), .i (.v (.bool false)), .i (.v (.bool true)), .i (.v (.bool true)), .i (.v (.bool false)), .i (.v (.bool false)), .i (.v (.int .u8 66)), .i (.v (.int .u8 66)), .i (.v (.int .i64 0)), .i (.v (.int .i64 0)), .i (.v (.int .i64 1)), .ref 4 0 0 3, .ref 5 0 0 0, .i (.v (.int .i64 0)), .i (.str []), .i (.str []), .i (.str []), .i (.str [])], .sl 1 0 [[.sl 5 [[.str [97], .v (.int .i64 1), .v (.int .i64 (-1)), .v (.int .i64 (-1)), .v (.int .i64 0)], [.str [32], .v (.int .i64 1), .v (.int .i64 (-1)), .v (.int .i64 (-1)), .v (.int .i64 0)], [.str [32], .v (.int .i64 1), .v (.int .i64 (-1)), .v (.int .i64 (-1)), .v (.int .i64 0)]] false]] false, .sl 1 0 [[.sl 5 [[.str [32], .v (.int .i64 1), .v (.int .i64 (-1)), .v (.int .i64 (-1)), .v (.int .i64 0)], [.str [32], .v (.int .i64 1), .v (.int .i64 (-1)), .v (.int .i64 (-1)), .v (.int .i64 0)], [.str [32], .v (.int .i64 1), .v (.int .i64 (-1)), .v (.int .i64 (-1)), .v (.int .i64 0)]] false]] false, .sl 1 0 [[.v (.bool true)], [.v (.bool false)], [.v (.bool false)]] false, .sl 1 0 [] false, .box [.i (.v (.int .i64 2)), .i (.str []), .i (.str [])]]) := by
 have q0 := kn_doa
 refine Eq.trans ?_ lwa_1
 rw [rl_step (fn := Tryz.f7) (k := 0) rfl]
 simp (disch := first | omega | (simp only [vlen]; omega)) only [vall, reduceCtorEq, ↓reduceIte, zq0, zq1, zq2, zq3, zq4, zq5, zq6, zq7, zq8, zq9, zq10, zq11, zq12, zq13, zq14, zq15, zq16, zq17, en7, bs73, q0, lp7_6]
theorem lwb_2 : rl E 0 7 (loopAt Tryz.f7 0) [(4, .ptr 0 0 0 0), (5, .ptr 1 0 0 0), (6, .ptr 6 0 0 0), (28, .i (.sl 7 [[.v (.int .i64 4), .v (.int .i32 0), .v (.int .u8 67), .v (.int .u8 0), .str [], .sl 1 [] false, .str []], [.v (.int .i64 1), .v (.int .i32 98), .v (.int .u8 0), .v (.int .u8 0), .str [], .sl 1 [] false, .str []]] false)), (29, .i (.v (.int .i64 2))), (30, .i (.v (.int .i64 2)))] [.box [.i (.v (.int .i64 0)), .i (.v (.int .i64 0)), .i (.sl 0 [] true), .i (.v (.int .i64 0)), .i (.v (.int .i64 0)), .i (.sl 0 [] true), .i (.v (.int .i64 0)), .i (.v (.int .i64 0)), .i (.v (.bool false)), .i (.v (.int .i64 0)), .i (.v (.int .i64 0)), .i (.v (.bool false)), .i (.v (.int .i64 0)), .i (.v (.int .i64 0)), .i (.v (.int .i64 0)), .i (.v (.bool false)), .i (.v (.int .u8 0)), .i (.v (.int .u8 0)), .i (.v (.int .i64 0)), .i (.v (.int .i64 0)), .i (.v (.int .i64 0)), .i (.v (.int .i64 0)), .i (.v (.bool false)), .i (.v (.bool false)), .i (.v (.bool false)), .i (.v (.bool false)), .i (.v (.bool false)), .i (.v (.bool false)), .i (.v (.bool false)), .i (.v (.bool false)), .i (.v (.int .u8 0)), .i (.v (.int .u8 0)), .i (.v (.int .i64 0)), .i (.v (.int .i64 0)), .i (.v (.int .i64 0)), .i (.sl 0 [] true), .i (.sl 0 [] true), .i (.v (.int .i64 0)), .i (.str []), .i (.str []), .i (.str []), .i (.str [])], .box [.i (.v (.int .i64 3)), .i (.v (.int .i64 1)), .ref 2 0 0 1, .i (.v (.int .i64 3)), .i (.v (.int .i64 1)), .ref 3 0 0 1, .i (.v (.int .i64 0)), .i (.v (.int .i64 2)), .i (.v (.bool true)), .i (.v (.int .i64 0)), .i (.v (.int .i64 0)), .i (.v (.bool false)), .i (.v (.int .i64 (-1))), .i (.v (.int .i64 (-1))), .i (.v (.int .i64 0)), .i (.v (.bool false)), .i (.v (.int .u8 66)), .i (.v (.int .u8 66)), .i (.v (.int .i64 0)), .i (.v (.int .i64 (-1))), .i (.v (.int .i64 (-1))), .i (.v (.int .i64 0)), .i (.v (.bool false)), .i (.v (.bool false)), .i (.v (.bool false)), .i (.v (.bool false)), .i (.v (.bool true)), .i (.v (.bool true)), .i (.v (.bool false)), .i (.v (.bool false)), .i (.v (.int .u8 66)), .i (.v (.int .u8 66)), .i (.v (.int .i64 0)), .i (.v (.int .i64 0)), .i (.v (.int .i64 1)), .ref 4 0 0 3, .ref 5 0 0 0, .i (.v (.int .i64 2)), .i (.str []), .i (.str []), .i (.str []), .i (.str [])], .sl 1 0 [[.sl 5 [[.str [97], .v (.int .i64 1), .v (.int .i64 (-1)), .v (.int .i64 (-1)), .v (.int .i64 0)], [.str [32], .v (.int .i64 1), .v (.int .i64 (-1)), .v (.int .i64 (-1)), .v (.int .i64 0)], [.str [98], .v (.int .i64 1), .v (.int .i64 (-1)), .v (.int .i64 (-1)), .v (.int .i64 0)]] false]] false, .sl 1 0 [[.sl 5 [[.str [32], .v (.int .i64 1), .v (.int .i64 (-1)), .v (.int .i64 (-1)), .v (.int .i64 0)], [.str [32], .v (.int .i64 1), .v (.int .i64 (-1)), .v (.int .i64 (-1)), .v (.int .i64 0)], [.str [32], .v (.int .i64 1), .v (.int .i64 (-1)), .v (.int .i64 (-1)), .v (.int .i64 0)]] false]] false, .sl 1 0 [[.v (.bool true)], [.v (.bool false)], [.v (.bool false)]] false, .sl 1 0 [] false, .box [.i (.v (.int .i64 0)), .i (.str []), .i (.str [])]] =
   some (.exit 0, [(4, .ptr 0 0 0 0), (5, .ptr 1 0 0 0), (6, .ptr 6 0 0 0), (28, .i (.sl 7 [[.v (.int .i64 4), .v (.int .i32 0), .v (.int .u8 67), .v (.int .u8 0), .str [], .sl 1 [] false, .str []], [.v (.int .i64 1), .v (.int .i32 98), .v (.int .u8 0), .v (.int .u8 0), .str [], .sl 1 [] false, .str []]] false)), (29, .i (.v (.int .i64 2))), (30, .i (.v (.int .i64 2))), (31, .i (.v (.bool false)))], [.box [.i (.v (.int .i64 0)), .i (.v (.int .i64 0)), .i (.sl 0 [] true), .i (.v (.int .i64 0)), .i (.v (.int .i64 0)), .i (.sl 0 [] true), .i (.v (.int .i64 0)), .i (.v (.int .i64 0)), .i (.v (.bool false)), .i (.v (.int .i64 0)), .i (.v (.int .i64 0)), .i (.v (.bool false)), .i (.v (.int .i64 0)), .i (.v (.int .i64 0)), .i (.v (.int .i64 0)), .i (.v (.bool false)), .i (.v (.int .u8 0)), .i (.v (.int .u8 0)), .i (.v (.int .i64 0)), .i (.v (.int .i64 0)), .i (.v (.int .i64 0)), .i (.v (.int .i64 0)), .i (.v (.bool false)), .i (.v (.bool false)), .i (.v (.bool false)), .i (.v (.bool false)), .i (.v (.bool false)), .i (.v (.bool false)), .i (.v (.bool false)), .i (.v (.bool false)), .i (.v (.int .u8 0)), .i (.v (.int .u8 0)), .i (.v (.int .i64 0)), .i (.v (.int .i64 0)), .i (.v (.int .i64 0)), .i (.sl 0 [] true), .i (.sl 0 [] true), .i (.v (.int .i64 0)), .i (.str []), .i (.str []), .i (.str []), .i (.str [])], .box [.i (.v (.int .i64 3)), .i (.v (.int .i64 1)), .ref 2 0 0 1, .i (.v (.int .i64 3)), .i (.v (.int .i64 1)), .ref 3 0 0 1, .i (.v (.int .i64 0)), .i (.v (.int .i64 2)), .i (.v (.bool true)), .i (.v (.int .i64 0)), .i (.v (.int .i64 0)), .i (.v (.bool false)), .i (.v (.int .i64 (-1))), .i (.v (.int .i64 (-1))), .i (.v (.int .i64 0)), .i (.v (.bool false)), .i (.v (.int .u8 66)), .i (.v (.int .u8 66)), .i (.v (.int .i64 0)), .i (.v (.int .i64 (-1))), .i (.v (.int .i64 (-1))), .i (.v (.int .i64 0)), .i (.v (.bool false)), .i (.v (.bool false)), .i (.v (.bool false)), .i (.v (.bool false)), .i (.v (.bool true)), .i (.v (.bool true)), .i (.v (.bool false)), .i (.v (.bool false)), .i (.v (.int .u8 66)), .i (.v (.int .u8 66)), .i (.v (.int .i64 0)), .i (.v (.int .i64 0)), .i (.v (.int .i64 1)), .ref 4 0 0 3, .ref 5 0 0 0, .i (.v (.int .i64 2)), .i (.str []), .i (.str []), .i (.str []), .i (.str [])], .sl 1 0 [[.sl 5 [[.str [97], .v (.int .i64 1), .v (.int .i64 (-1)), .v (.int .i64 (-1)), .v (.int .i64 0)], [.str [32], .v (.int .i64 1), .v (.int .i64 (-1)), .v (.int .i64 (-1)), .v (.int .i64 0)], [.str [98], .v (.int .i64 1), .v (.int .i64 (-1)), .v (.int .i64 (-1)), .v (.int .i64 0)]] false]] false, .sl 1 0 [[.sl 5 [[.str [32], .v (.int .i64 1), .v (.int .i64 (-1)), .v (.int .i64 (-1)), .v (.int .i64 0)], [.str [32], .v (.int .i64 1), .v (.int .i64 (-1)), .v (.int .i64 (-1)), .v (.int .i64 0)], [.str [32], .v (.int .i64 1), .v (.int .i64 (-1)), .v (.int .i64 (-1)), .v (.int .i64 0)]] false]] false, .sl 1 0 [[.v (.bool true)], [.v (.bool false)], [.v (.bool false)]] false, .sl 1 0 [] false, .box [.i (.v (.int .i64 0)), .i (.str []), .i (.str [])]]) := by
 rw [rl_step (fn := Tryz.f7) (k := 0) rfl]
 simp (disch := first | omega | (simp only [vlen]; omega)) only [vall, reduceCtorEq, ↓reduceIte, zq0, zq1, zq2, zq3, zq4, zq5, zq6, zq7, zq8, zq9, zq10, zq11, zq12, zq13, zq14, zq15, zq16, zq17, en7, bs73, lp7_6]
theorem lwb_1 : rl E 0 7 (loopAt Tryz.f7 0) [(4, .ptr 0 0 0 0), (5, .ptr 1 0 0 0), (6, .ptr 6 0 0 0), (28, .i (.sl 7 [[.v (.int .i64 4), .v (.int .i32 0), .v (.int .u8 67), .v (.int .u8 0), .str [], .sl 1 [] false, .str []], [.v (.int .i64 1), .v (.int .i32 98), .v (.int .u8 0), .v (.int .u8 0), .str [], .sl 1 [] false, .str []]] false)), (29, .i (.v (.int .i64 2))), (30, .i (.v (.int .i64 1)))] [.box [.i (.v (.int .i64 0)), .i (.v (.int .i64 0)), .i (.sl 0 [] true), .i (.v (.int .i64 0)), .i (.v (.int .i64 0)), .i (.sl 0 [] true), .i (.v (.int .i64 0)), .i (.v (.int .i64 0)), .i (.v (.bool false)), .i (.v (.int .i64 0)), .i (.v (.int .i64 0)), .i (.v (.bool false)), .i (.v (.int .i64 0)), .i (.v (.int .i64 0)), .i (.v (.int .i64 0)), .i (.v (.bool false)), .i (.v (.int .u8 0)), .i (.v (.int .u8 0)), .i (.v (.int .i64 0)), .i (.v (.int .i64 0)), .i (.v (.int .i64 0)), .i (.v (.int .i64 0)), .i (.v (.bool false)), .i (.v (.bool false)), .i (.v (.bool false)), .i (.v (.bool false)), .i (.v (.bool false)), .i (.v (.bool false)), .i (.v (.bool false)), .i (.v (.bool false)), .i (.v (.int .u8 0)), .i (.v (.int .u8 0)), .i (.v (.int .i64 0)), .i (.v (.int .i64 0)), .i (.v (.int .i64 0)), .i (.sl 0 [] true), .i (.sl 0 [] true), .i (.v (.int .i64 0)), .i (.str []), .i (.str []), .i (.str []), .i (.str [])], .box [.i (.v (.int .i64 3)), .i (.v (.int .i64 1)), .ref 2 0 0 1, .i (.v (.int .i64 3)), .i (.v (.int .i64 1)), .ref 3 0 0 1, .i (.v (.int .i64 0)), .i (.v (.int .i64 2)), .i (.v (.bool false)), .i (.v (.int .i64 0)), .i (.v (.int .i64 0)), .i (.v (.bool false)), .i (.v (.int .i64 (-1))), .i (.v (.int .i64 (-1))), .i (.v (.int .i64 0)), .i (.v (.bool false)), .i (.v (.int .u8 66)), .i (.v (.int .u8 66)), .i (.v (.int .i64 0)), .i (.v (.int .i64 (-1))), .i (.v (.int .i64 (-1))), .i (.v (.int .i64 0)), .i (.v (.bool false)), .i (.v (.bool false)), .i (.v (.bool false)), .i (.v (.bool false)), .i (.v (.bool true)), .i (.v (.bool true)), .i (.v (.bool false)), .i (.v (.bool false)), .i (.v (.int .u8 66)), .i (.v (.int .u8 66)), .i (.v (.int .i64 0)), .i (.v (.int .i64 0)), .i (.v (.int .i64 1)), .ref 4 0 0 3, .ref 5 0 0 0, .i (.v (.int .i64 2)), .i (.str []), .i (.str []), .i (.str []), .i (.str [])], .sl 1 0 [[.sl 5 [[.str [97], .v (.int .i64 1), .v (.int .i64 (-1)), .v (.int .i64 (-1)), .v (.int .i64 0)], [.str [32], .v (.int .i64 1), .v (.int .i64 (-1)), .v (.int .i64 (-1)), .v (.int .i64 0)], [.str [32], .v (.int .i64 1), .v (.int .i64 (-1)), .v (.int .i64 (-1)), .v (.int .i64 0)]] false]] false, .sl 1 0 [[.sl 5 [[.str [32], .v (.int .i64 1), .v (.int .i64 (-1)), .v (.int .i64 (-1)), .v (.int .i64 0)], [.str [32], .v (.int .i64 1), .v (.int .i64 (-1)), .v (.int .i64 (-1)), .v (.int .i64 0)], [.str [32], .v (.int .i64 1), .v (.int .i64 (-1)), .v (.int .i64 (-1)), .v (.int .i64 0)]] false]] false, .sl 1 0 [[.v (.bool true)], [.v (.bool false)], [.v (.bool false)]] false, .sl 1 0 [] false, .box [.i (.v (.int .i64 0)), .i (.str []), .i (.str [])]] =
   some (.exit 0, [(4, .ptr 0 0 0 0), (5, .ptr 1 0 0 0), (6, .ptr 6 0 0 0), (28, .i (.sl 7 [[.v (.int .i64 4), .v (.int .i32 0), .v (.int .u8 67), .v (.int .u8 0), .str [], .sl 1 [] false, .str []], [.v (.int .i64 1), .v (.int .i32 98), .v (.int .u8 0), .v (.int .u8 0), .str [], .sl 1 [] false, .str []]] false)), (29, .i (.v (.int .i64 2))), (30, .i (.v (.int .i64 2))), (31, .i (.v (.bool false)))], [.box [.i (.v (.int .i64 0)), .i (.v (.int .i64 0)), .i (.sl 0 [] true), .i (.v (.int .i64 0)), .i (.v (.int .i64 0)), .i (.sl 0 [] true), .i (.v (.int .i64 0)), .i (.v (.int .i64 0)), .i (.v (.bool false)), .i (.v (.int .i64 0)), .i (.v (.int .i64 0)), .i (.v (.bool false)), .i (.v (.int .i64 0)), .i (.v (.int .i64 0)), .i (.v (.int .i64 0)), .i (.v (.bool false)), .i (.v (.int .u8 0)), .i (.v (.int .u8 0)), .i (.v (.int .i64 0)), .i (.v (.int .i64 0)), .i (.v (.int .i64 0)), .i (.v (.int .i64 0)), .i (.v (.bool false)), .i (.v (.bool false)), .i (.v (.bool false)), .i (.v (.bool false)), .i (.v (.bool false)), .i (.v (.bool false)), .i (.v (.bool false)), .i (.v (.bool false)), .i (.v (.int .u8 0)), .i (.v (.int .u8 0)), .i (.v (.int .i64 0)), .i (.v (.int .i64 0)), .i (.v (.int .i64 0)), .i (.sl 0 [] true), .i (.sl 0 [] true), .i (.v (.int .i64 0)), .i (.str []), .i (.str []), .i (.str []), .i (.str [])], .box [.i (.v (.int .i64 3)), .i (.v (.int .i64 1)), .ref 2 0 0 1, .i (.v (.int .i64 3)), .i (.v (.int .i64 1)), .ref 3 0 0 1, .i (.v (.int .i64 0)), .i (.v (.int .i64 2)), .i (.v (.bool true)), .i (.v (.int .i64 0)), .i (.v (.int .i64 0)), .i (.v (.bool false)), .i (.v (.int .i64 (-1))), .i (.v (.int .i64 (-1))), .i (.v (.int .i64 0)), .i (.v (.bool false)), .i (.v (.int .u8 66)), .i (.v (.int .u8 66)), .i (.v (.int .i64 0)), .i (.v (.int .i64 (-1))), .i (.v (.int .i64 (-1))), .i (.v (.int .i64 0)), .i (.v (.bool false)), .i (.v (.bool false)), .i (.v (.bool false)), .i (.v (.bool false)), .i (.v (.bool true)), .i (.v (.bool true)), .i (.v (.bool false)), .i (.v (.bool false)), .i (.v (.int .u8 66)), .i (.v (.int .u8 66)), .i (.v (.int .i64 0)), .i (.v (.int .i64 0)), .i (.v (.int .i64 1)), .ref 4 0 0 3, .ref 5 0 0 0, .i (.v (.int .i64 2)), .i (.str []), .i (.str []), .i (.str []), .i (.str [])], .sl 1 0 [[.sl 5 [[.str [97], .v (.int .i64 1), .v (.int .i64 (-1)), .v (.int .i64 (-1)), .v (.int .i64 0)], [.str [32], .v (.int .i64 1), .v (.int .i64 (-1)), .v (.int .i64 (-1)), .v (.int .i64 0)], [.str [98], .v (.int .i64 1), .v (.int .i64 (-1)), .v (.int .i64 (-1)), .v (.int .i64 0)]] false]] false, .sl 1 0 [[.sl 5 [[.str [32], .v (.int .i64 1), .v (.int .i64 (-1)), .v (.int .i64 (-1)), .v (.int .i64 0)], [.str [32], .v (.int .i64 1), .v (.int .i64 (-1)), .v (.int .i64 (-1)), .v (.int .i64 0)], [.str [32], .v (.int .i64 1), .v (.int .i64 (-1)), .v (.int .i64 (-1)), .v (.int .i64 0)]] false]] false, .sl 1 0 [[.v (.bool true)], [.v (.bool false)], [.v (.bool false)]] false, .sl 1 0 [] false, .box [.i (.v (.int .i64 0)), .i (.str []), .i (.str [])]]) := by
 have q0 := kn_dob
 refine Eq.trans ?_ lwb_2
 rw [rl_step (fn := Tryz.f7) (k := 0) rfl]
 simp (disch := first | omega | (simp only [vlen]; omega)) only [vall, reduceCtorEq, ↓reduceIte, zq0, zq1, zq2, zq3, zq4, zq5, zq6, zq7, zq8, zq9, zq10, zq11, zq12, zq13, zq14, zq15, zq16, zq17, en7, bs73, q0, lp7_6]
theorem lwb_0 : rl E 0 7 (loopAt Tryz.f7 0) [(4, .ptr 0 0 0 0), (5, .ptr 1 0 0 0), (6, .ptr 6 0 0 0), (28, .i (.sl 7 [[.v (.int .i64 4), .v (.int .i32 0), .v (.int .u8 67), .v (.int .u8 0), .str [], .sl 1 [] false, .str []], [.v (.int .i64 1), .v (.int .i32 98), .v (.int .u8 0), .v (.int .u8 0), .str [], .sl 1 [] false, .str []]] false)), (29, .i (.v (.int .i64 2))), (30, .i (.v (.int .i64 0)))] [.box [.i (.v (.int .i64 0)), .i (.v (.int .i64 0)), .i (.sl 0 [] true), .i (.v (.int .i64 0)), .i (.v (.int .i64 0)), .i (.sl 0 [] true), .i (.v (.int .i64 0)), .i (.v (.int .i64 0)), .i (.v (.bool false)), .i (.v (.int .i64 0)), .i (.v (.int .i64 0)), .i (.v (.bool false)), .i (.v (.int .i64 0)), .i (.v (.int .i64 0)), .i (.v (.int .i64 0)), .i (.v (.bool false)), .i (.v (.int .u8 0)), .i (.v (.int .u8 0)), .i (.v (.int .i64 0)), .i (.v (.int .i64 0)), .i (.v (.int .i64 0)), .i (.v (.int .i64 0)), .i (.v (.bool false)), .i (.v (.bool false)), .i (.v (.bool false)), .i (.v (.bool false)), .i (.v (.bool false)), .i (.v (.bool false)), .i (.v (.bool false)), .i (.v (.bool false)), .i (.v (.int .u8 0)), .i (.v (.int .u8 0)), .i (.v (.int .i64 0)), .i (.v (.int .i64 0)), .i (.v (.int .i64 0)), .i (.sl 0 [] true), .i (.sl 0 [] true), .i (.v (.int .i64 0)), .i (.str []), .i (.str []), .i (.str []), .i (.str [])], .box [.i (.v (.int .i64 3)), .i (.v (.int .i64 1)), .ref 2 0 0 1, .i (.v (.int .i64 3)), .i (.v (.int .i64 1)), .ref 3 0 0 1, .i (.v (.int .i64 0)), .i (.v (.int .i64 1)), .i (.v (.bool false)), .i (.v (.int .i64 0)), .i (.v (.int .i64 0)), .i (.v (.bool false)), .i (.v (.int .i64 (-1))), .i (.v (.int .i64 (-1))), .i (.v (.int .i64 0)), .i (.v (.bool false)), .i (.v (.int .u8 66)), .i (.v (.int .u8 66)), .i (.v (.int .i64 0)), .i (.v (.int .i64 (-1))), .i (.v (.int .i64 (-1))), .i (.v (.int .i64 0)), .i (.v (.bool false)), .i (.v (.bool false)), .i (.v (.bool false)), .i (.v (.bool false)), .i (.v (.bool true)), .i (.v (.bool true)), .i (.v (.bool false)), .i (.v (.bool false)), .i (.v (.int .u8 66)), .i (.v (.int .u8 66)), .i (.v (.int .i64 0)), .i (.v (.int .i64 0)), .i (.v (.int .i64 1)), .ref 4 0 0 3, .ref 5 0 0 0, .i (.v (.int .i64 2)), .i (.str []), .i (.str []), .i (.str []), .i (.str [])], .sl 1 0 [[.sl 5 [[.str [97], .v (.int .i64 1), .v (.int .i64 (-1)), .v (.int .i64 (-1)), .v (.int .i64 0)], [.str [32], .v (.int .i64 1), .v (.int .i64 (-1)), .v (.int .i64 (-1)), .v (.int .i64 0)], [.str [32], .v (.int .i64 1), .v (.int .i64 (-1)), .v (.int .i64 (-1)), .v (.int .i64 0)]] false]] false, .sl 1 0 [[.sl 5 [[.str [32], .v (.int .i64 1), .v (.int .i64 (-1)), .v (.int .i64 (-1)), .v (.int .i64 0)], [.str [32], .v (.int .i64 1), .v (.int .i64 (-1)), .v (.int .i64 (-1)), .v (.int .i64 0)], [.str [32], .v (.int .i64 1), .v (.int .i64 (-1)), .v (.int .i64 (-1)), .v (.int .i64 0)]] false]] false, .sl 1 0 [[.v (.bool true)], [.v (.bool false)], [.v (.bool false)]] false, .sl 1 0 [] false, .box [.i (.v (.int .i64 0)), .i (.str []), .i (.str [])]] =
   some (.exit 0, [(4, .ptr 0 0 0 0), (5, .ptr 1 0 0 0), (6, .ptr 6 0 0 0), (28, .i (.sl 7 [[.v (.int .i64 4), .v (.int .i32 0), .v (.int .u8 67), .v (.int .u8 0), .str [], .sl 1 [] false, .str []], [.v (.int .i64 1), .v (.int .i32 98), .v (.int .u8 0), .v (.int .u8 0), .str [], .sl 1 [] false, .str []]] false)), (29, .i (.v (.int .i64 2))), (30, .i (.v (.int .i64 2))), (31, .i (.v (.bool false)))], [.box [.i (.v (.int .i64 0)), .i (.v (.int .i64 0)), .i (.sl 0 [] true), .i (.v (.int .i64 0)), .i (.v (.int .i64 0)), .i (.sl 0 [] true), .i (.v (.int .i64 0)), .i (.v (.int .i64 0)), .i (.v (.bool false)), .i (.v (.int .i64 0)), .i (.v (.int .i64 0)), .i (.v (.bool false)), .i (.v (.int .i64 0)), .i (.v (.int .i64 0)), .i (.v (.int .i64 0)), .i (.v (.bool false)), .i (.v (.int .u8 0)), .i (.v (.int .u8 0)), .i (.v (.int .i64 0)), .i (.v (.int .i64 0)), .i (.v (.int .i64 0)), .i (.v (.int .i64 0)), .i (.v (.bool false)), .i (.v (.bool false)), .i (.v (.bool false)), .i (.v (.bool false)), .i (.v (.bool false)), .i (.v (.bool false)), .i (.v (.bool false)), .i (.v (.bool false)), .i (.v (.int .u8 0)), .i (.v (.int .u8 0)), .i (.v (.int .i64 0)), .i (.v (.int .i64 0)), .i (.v (.int .i64 0)), .i (.sl 0 [] true), .i (.sl 0 [] true), .i (.v (.int .i64 0)), .i (.str []), .i (.str []), .i (.str []), .i (.str [])], .box [.i (.v (.int .i64 3)), .i (.v (.int .i64 1)), .ref 2 0 0 1, .i (.v (.int .i64 3)), .i (.v (.int .i64 1)), .ref 3 0 0 1, .i (.v (.int .i64 0)), .i (.v (.int .i64 2)), .i (.v (.bool true)), .i (.v (.int .i64 0)), .i (.v (.int .i64 0)), .i (.v (.bool false)), .i (.v (.int .i64 (-1))), .i (.v (.int .i64 (-1))), .i (.v (.int .i64 0)), .i (.v (.bool false)), .i (.v (.int .u8 66)), .i (.v (.int .u8 66)), .i (.v (.int .i64 0)), .i (.v (.int .i64 (-1))), .i (.v (.int .i64 (-1))), .i (.v (.int .i64 0)), .i (.v (.bool false)), .i (.v (.bool false)), .i (.v (.bool false)), .i (.v (.bool false)), .i (.v (.bool true)), .i (.v (.bool true)), .i (.v (.bool false)), .i (.v (.bool false)), .i (.v (.int .u8 66)), .i (.v (.int .u8 66)), .i (.v (.int .i64 0)), .i (.v (.int .i64 0)), .i (.v (.int .i64 1)), .ref 4 0 0 3, .ref 5 0 0 0, .i (.v (.int .i64 2)), .i (.str []), .i (.str []), .i (.str []), .i (.str [])], .sl 1 0 [[.sl 5 [[.str [97], .v (.int .i64 1), .v (.int .i64 (-1)), .v (.int .i64 (-1)), .v (.int .i64 0)], [.str [32], .v (.int .i64 1), .v (.int .i64 (-1)), .v (.int .i64 (-1)), .v (.int .i64 0)], [.str [98], .v (.int .i64 1), .v (.int .i64 (-1)), .v (.int .i64 (-1)), .v (.int .i64 0)]] false]] false, .sl 1 0 [[.sl 5 [[.str [32], .v (.int .i64 1), .v (.int .i64 (-1)), .v (.int .i64 (-1)), .v (.int .i64 0)], [.str [32], .v (.int .i64 1), .v (.int .i64 (-1)), .v (.int .i64 (-1)), .v (.int .i64 0)], [.str [32], .v (.int .i64 1), .v (.int .i64 (-1)), .v (.int .i64 (-1)), .v (.int .i64 0)]] false]] false, .sl 1 0 [[.v (.bool true)], [.v (.bool false)], [.v (.bool false)]] false, .sl 1 0 [] false, .box [.i (.v (.int .i64 0)), .i (.str []), .i (.str [])]]) := by
 have q0 := fun X Y Z => kn_doC X Y Z
 refine Eq.trans ?_ lwb_1
 rw [rl_step (fn := Tryz.f7) (k := 0) rfl]
 simp (disch := first | omega | (simp only [vlen]; omega)) only [vall, reduceCtorEq, ↓reduceIte, zq0, zq1, zq2, zq3, zq4, zq5, zq6, zq7, zq8, zq9, zq10, zq11, zq12, zq13, zq14, zq15, zq16, zq17, en7, bs73, q0, lp7_6]
theorem c_wra : ∃ L, callT E 7 [.agg [.i (.v (.int .i64 3)), .i (.v (.int .i64 1)), .i (.sl 1 [[.sl 5 [[.str [32], .v (.int .i64 1), .v (.int .i64 (-1)), .v (.int .i64 (-1)), .v (.int .i64 0)], [.str [32], .v (.int .i64 1), .v (.int .i64 (-1)), .v (.int .i64 (-1)), .v (.int .i64 0)], [.str [32], .v (.int .i64 1), .v (.int .i64 (-1)), .v (.int .i64 (-1)), .v (.int .i64 0)]] false]] false), .i (.v (.int .i64 3)), .i (.v (.int .i64 1)), .i (.sl 1 [[.sl 5 [[.str [32], .v (.int .i64 1), .v (.int .i64 (-1)), .v (.int .i64 (-1)), .v (.int .i64 0)], [.str [32], .v (.int .i64 1), .v (.int .i64 (-1)), .v (.int .i64 (-1)), .v (.int .i64 0)], [.str [32], .v (.int .i64 1), .v (.int .i64 (-1)), .v (.int .i64 (-1)), .v (.int .i64 0)]] false]] false), .i (.v (.int .i64 0)), .i (.v (.int .i64 0)), .i (.v (.bool false)), .i (.v (.int .i64 0)), .i (.v (.int .i64 0)), .i (.v (.bool false)), .i (.v (.int .i64 (-1))), .i (.v (.int .i64 (-1))), .i (.v (.int .i64 0)), .i (.v (.bool false)), .i (.v (.int .u8 66)), .i (.v (.int .u8 66)), .i (.v (.int .i64 0)), .i (.v (.int .i64 (-1))), .i (.v (.int .i64 (-1))), .i (.v (.int .i64 0)), .i (.v (.bool false)), .i (.v (.bool false)), .i (.v (.bool false)), .i (.v (.bool false)), .i (.v (.bool true)), .i (.v (.bool true)), .i (.v (.bool false)), .i (.v (.bool false)), .i (.v (.int .u8 66)), .i (.v (.int .u8 66)), .i (.v (.int .i64 0)), .i (.v (.int .i64 0)), .i (.v (.int .i64 1)), .i (.sl 1 [[.v (.bool true)], [.v (.bool false)], [.v (.bool false)]] false), .i (.sl 1 [] false), .i (.v (.int .i64 0)), .i (.str []), .i (.str []), .i (.str []), .i (.str [])], .i (.str [97, 27, 91])] [] = some (.agg [.i (.v (.int .i64 3)), .i (.v (.int .i64 1)), .i (.sl 1 [[.sl 5 [[.str [97], .v (.int .i64 1), .v (.int .i64 (-1)), .v (.int .i64 (-1)), .v (.int .i64 0)], [.str [32], .v (.int .i64 1), .v (.int .i64 (-1)), .v (.int .i64 (-1)), .v (.int .i64 0)], [.str [32], .v (.int .i64 1), .v (.int .i64 (-1)), .v (.int .i64 (-1)), .v (.int .i64 0)]] false]] false), .i (.v (.int .i64 3)), .i (.v (.int .i64 1)), .i (.sl 1 [[.sl 5 [[.str [32], .v (.int .i64 1), .v (.int .i64 (-1)), .v (.int .i64 (-1)), .v (.int .i64 0)], [.str [32], .v (.int .i64 1), .v (.int .i64 (-1)), .v (.int .i64 (-1)), .v (.int .i64 0)], [.str [32], .v (.int .i64 1), .v (.int .i64 (-1)), .v (.int .i64 (-1)), .v (.int .i64 0)]] false]] false), .i (.v (.int .i64 0)), .i (.v (.int .i64 1)), .i (.v (.bool false)), .i (.v (.int .i64 0)), .i (.v (.int .i64 0)), .i (.v (.bool false)), .i (.v (.int .i64 (-1))), .i (.v (.int .i64 (-1))), .i (.v (.int .i64 0)), .i (.v (.bool false)), .i (.v (.int .u8 66)), .i (.v (.int .u8 66)), .i (.v (.int .i64 0)), .i (.v (.int .i64 (-1))), .i (.v (.int .i64 (-1))), .i (.v (.int .i64 0)), .i (.v (.bool false)), .i (.v (.bool false)), .i (.v (.bool false)), .i (.v (.bool false)), .i (.v (.bool true)), .i (.v (.bool true)), .i (.v (.bool false)), .i (.v (.bool false)), .i (.v (.int .u8 66)), .i (.v (.int .u8 66)), .i (.v (.int .i64 0)), .i (.v (.int .i64 0)), .i (.v (.int .i64 1)), .i (.sl 1 [[.v (.bool true)], [.v (.bool false)], [.v (.bool false)]] false), .i (.sl 1 [] false), .i (.v (.int .i64 2)), .i (.str []), .i (.str []), .i (.str []), .i (.str [])], L) := by
 have q0 := fun X Y => kn_owna X Y
 have q1 := fun H => isoK_val (E := E) (cl := callT E) (g := 19) (H := H) rfl rfl rfl kn_chka
 have q2 := fun H => isoK_val (E := E) (cl := callT E) (g := 20) (H := H) rfl rfl rfl kn_fa
 have q3 := lwa_0
 rw [callT_eq Tryz.func7 rfl fok7 (by simp [Tryz.ntmps7])]
 simp (disch := first | omega | (simp only [vlen]; omega)) only [vall, reduceCtorEq, ↓reduceIte, zq0, zq1, zq2, zq3, zq4, zq5, zq6, zq7, zq8, zq9, zq10, zq11, zq12, zq13, zq14, zq15, zq16, zq17, en7, bs73, q0, q1, q2, q3, lp7_6]
 exact ⟨_, rfl⟩
theorem c_wrb : ∃ L, callT E 7 [.agg [.i (.v (.int .i64 3)), .i (.v (.int .i64 1)), .i (.sl 1 [[.sl 5 [[.str [97], .v (.int .i64 1), .v (.int .i64 (-1)), .v (.int .i64 (-1)), .v (.int .i64 0)], [.str [32], .v (.int .i64 1), .v (.int .i64 (-1)), .v (.int .i64 (-1)), .v (.int .i64 0)], [.str [32], .v (.int .i64 1), .v (.int .i64 (-1)), .v (.int .i64 (-1)), .v (.int .i64 0)]] false]] false), .i (.v (.int .i64 3)), .i (.v (.int .i64 1)), .i (.sl 1 [[.sl 5 [[.str [32], .v (.int .i64 1), .v (.int .i64 (-1)), .v (.int .i64 (-1)), .v (.int .i64 0)], [.str [32], .v (.int .i64 1), .v (.int .i64 (-1)), .v (.int .i64 (-1)), .v (.int .i64 0)], [.str [32], .v (.int .i64 1), .v (.int .i64 (-1)), .v (.int .i64 (-1)), .v (.int .i64 0)]] false]] false), .i (.v (.int .i64 0)), .i (.v (.int .i64 1)), .i (.v (.bool false)), .i (.v (.int .i64 0)), .i (.v (.int .i64 0)), .i (.v (.bool false)), .i (.v (.int .i64 (-1))), .i (.v (.int .i64 (-1))), .i (.v (.int .i64 0)), .i (.v (.bool false)), .i (.v (.int .u8 66)), .i (.v (.int .u8 66)), .i (.v (.int .i64 0)), .i (.v (.int .i64 (-1))), .i (.v (.int .i64 (-1))), .i (.v (.int .i64 0)), .i (.v (.bool false)), .i (.v (.bool false)), .i (.v (.bool false)), .i (.v (.bool false)), .i (.v (.bool true)), .i (.v (.bool true)), .i (.v (.bool false)), .i (.v (.bool false)), .i (.v (.int .u8 66)), .i (.v (.int .u8 66)), .i (.v (.int .i64 0)), .i (.v (.int .i64 0)), .i (.v (.int .i64 1)), .i (.sl 1 [[.v (.bool true)], [.v (.bool false)], [.v (.bool false)]] false), .i (.sl 1 [] false), .i (.v (.int .i64 2)), .i (.str []), .i (.str []), .i (.str []), .i (.str [])], .i (.str [67, 98])] [] = some (.agg [.i (.v (.int .i64 3)), .i (.v (.int .i64 1)), .i (.sl 1 [[.sl 5 [[.str [97], .v (.int .i64 1), .v (.int .i64 (-1)), .v (.int .i64 (-1)), .v (.int .i64 0)], [.str [32], .v (.int .i64 1), .v (.int .i64 (-1)), .v (.int .i64 (-1)), .v (.int .i64 0)], [.str [98], .v (.int .i64 1), .v (.int .i64 (-1)), .v (.int .i64 (-1)), .v (.int .i64 0)]] false]] false), .i (.v (.int .i64 3)), .i (.v (.int .i64 1)), .i (.sl 1 [[.sl 5 [[.str [32], .v (.int .i64 1), .v (.int .i64 (-1)), .v (.int .i64 (-1)), .v (.int .i64 0)], [.str [32], .v (.int .i64 1), .v (.int .i64 (-1)), .v (.int .i64 (-1)), .v (.int .i64 0)], [.str [32], .v (.int .i64 1), .v (.int .i64 (-1)), .v (.int .i64 (-1)), .v (.int .i64 0)]] false]] false), .i (.v (.int .i64 0)), .i (.v (.int .i64 2)), .i (.v (.bool true)), .i (.v (.int .i64 0)), .i (.v (.int .i64 0)), .i (.v (.bool false)), .i (.v (.int .i64 (-1))), .i (.v (.int .i64 (-1))), .i (.v (.int .i64 0)), .i (.v (.bool false)), .i (.v (.int .u8 66)), .i (.v (.int .u8 66)), .i (.v (.int .i64 0)), .i (.v (.int .i64 (-1))), .i (.v (.int .i64 (-1))), .i (.v (.int .i64 0)), .i (.v (.bool false)), .i (.v (.bool false)), .i (.v (.bool false)), .i (.v (.bool false)), .i (.v (.bool true)), .i (.v (.bool true)), .i (.v (.bool false)), .i (.v (.bool false)), .i (.v (.int .u8 66)), .i (.v (.int .u8 66)), .i (.v (.int .i64 0)), .i (.v (.int .i64 0)), .i (.v (.int .i64 1)), .i (.sl 1 [[.v (.bool true)], [.v (.bool false)], [.v (.bool false)]] false), .i (.sl 1 [] false), .i (.v (.int .i64 0)), .i (.str []), .i (.str []), .i (.str []), .i (.str [])], L) := by
 have q0 := fun X Y => kn_ownb X Y
 have q1 := fun H => isoK_val (E := E) (cl := callT E) (g := 19) (H := H) rfl rfl rfl kn_chkb
 have q2 := fun H => isoK_val (E := E) (cl := callT E) (g := 20) (H := H) rfl rfl rfl kn_fb
 have q3 := lwb_0
 rw [callT_eq Tryz.func7 rfl fok7 (by simp [Tryz.ntmps7])]
 simp (disch := first | omega | (simp only [vlen]; omega)) only [vall, reduceCtorEq, ↓reduceIte, zq0, zq1, zq2, zq3, zq4, zq5, zq6, zq7, zq8, zq9, zq10, zq11, zq12, zq13, zq14, zq15, zq16, zq17, en7, bs73, q0, q1, q2, q3, lp7_6]
 exact ⟨_, rfl⟩
theorem c4 : ∃ L, callT E 4 [] [] = some (.i (.v (.bool true)), L) := by
 have q0 := fun H => ik5 3 1 (by decide) (by decide) H
 rw [show gridR (blG 3 1) = [[.sl 5 [[.str [32], .v (.int .i64 1), .v (.int .i64 (-1)), .v (.int .i64 (-1)), .v (.int .i64 0)], [.str [32], .v (.int .i64 1), .v (.int .i64 (-1)), .v (.int .i64 (-1)), .v (.int .i64 0)], [.str [32], .v (.int .i64 1), .v (.int .i64 (-1)), .v (.int .i64 (-1)), .v (.int .i64 0)]] false]] from rfl, show tabL 3 3 = [[.v (.bool true)], [.v (.bool false)], [.v (.bool false)]] from rfl] at q0
 simp only [show ((3 : Nat) : Int) = 3 from rfl, show ((1 : Nat) : Int) = 1 from rfl] at q0
 have q1 := fun H => isoK_val (E := E) (cl := callT E) (g := 7) (H := H) rfl rfl rfl c_wra
 have q2 := fun H => isoK_val (E := E) (cl := callT E) (g := 7) (H := H) rfl rfl rfl c_wrb
 rw [callT_eq Tryz.func4 rfl fok4 (by simp [Tryz.ntmps4])]
 simp (disch := first | omega | (simp only [vlen]; omega)) only [vall, reduceCtorEq, ↓reduceIte, zq0, zq1, zq2, zq3, zq4, zq5, zq6, zq7, zq8, zq9, zq10, zq11, zq12, zq13, zq14, zq15, zq16, zq17, en4, bs23, bs52, q0, q1, q2]
 exact ⟨_, rfl⟩
theorem ik4 (H : Hp) : isoK E (callT E) 4 [] H = some (.i (.v (.bool true)), H) := isoK_val rfl rfl rfl c4
end Go.VI

set_option linter.unusedSimpArgs false
set_option linter.unusedVariables false
set_option maxRecDepth 100000
set_option maxHeartbeats 8000000
namespace Go.VI
open Go.Proofs
theorem bt_take {l : List UInt8} {n k : Nat} (h : k < n) : bt (l.take n) k = bt l k := by simp [bt, List.getElem?_take, h]
theorem bt_app {l r : List UInt8} {k : Nat} (h : k < l.length) : bt (l ++ r) k = bt l k := by simp only [bt, List.getD_eq_getElem?_getD, List.getElem?_append_left h]
theorem trN_congr {l l' : List UInt8} : ∀ n, (∀ k, k < n → bt l k = bt l' k) → trN l n = trN l' n
 | 0, _ => rfl
 | n + 1, h => by rw [trN, trN, h n (Nat.lt_succ_self n), trN_congr n fun k hk => h k (by omega)]
theorem trN_pad (l : List UInt8) : ∀ m, trN (l ++ List.replicate m 32) (l.length + m) = trN l l.length
 | 0 => by simp
 | m + 1 => by
  rw [← trN_pad l m, ← Nat.add_assoc, trN, if_pos]
  ·refine trN_congr _ fun k hk => ?_
   by_cases hl : k < l.length
   ·rw [bt_app hl, bt_app hl]
   ·have a1 : bt (l ++ List.replicate (m + 1) 32) k = 32 := by simp [bt, List.getElem?_append, hl, List.getElem?_replicate, show k - l.length < m + 1 by omega]
    have a2 : bt (l ++ List.replicate m 32) k = 32 := by simp [bt, List.getElem?_append, hl, List.getElem?_replicate, show k - l.length < m by omega]
    rw [a1, a2]
  ·simp [bt, List.getElem?_append, List.getElem?_replicate]
theorem trL_pad (l : List UInt8) (m : Nat) : trL (l ++ List.replicate m 32) = trL l := by
 have h := trN_pad l m
 have hle := trN_le l l.length
 unfold trL
 rw [List.length_append, List.length_replicate, h, List.take_append_of_le_length hle]
def lineS (w : Nat) (s : List UInt8) (i : Nat) : List UInt8 := (s.drop (min s.length (i * w))).take (min s.length (i * w + w) - min s.length (i * w))
theorem lineS_len (w : Nat) (s : List UInt8) (i : Nat) : (lineS w s i).length = min s.length (i * w + w) - min s.length (i * w) := by
 unfold lineS; rw [List.length_take, List.length_drop]; omega
theorem lineS_bt {w : Nat} {s : List UInt8} {i j : Nat} (hj : j < (lineS w s i).length) : (lineS w s i)[j]? = some (bt s (i * w + j)) ∧ i * w + j < s.length := by
 have hl := lineS_len w s i
 have h0 : min s.length (i * w) = i * w := by omega
 have h1 : i * w + j < s.length := by omega
 refine ⟨?_, h1⟩
 unfold lineS
 rw [List.getElem?_take_of_lt (by omega), List.getElem?_drop, h0, bt_eq h1, List.getElem?_eq_getElem h1]
theorem rowK_line (w : Nat) (s : List UInt8) (i : Nat) : rowK w s s.length i = lineS w s i ++ List.replicate (w - (lineS w s i).length) 32 := by
 have hl := lineS_len w s i
 apply List.ext_getElem?
 intro j
 by_cases hj : j < (lineS w s i).length
 ·obtain ⟨h1, h2⟩ := lineS_bt hj
  rw [List.getElem?_append_left hj, h1]
  unfold rowK chK
  rw [List.getElem?_map, List.getElem?_range (by omega)]
  simp [h2]
 ·rw [List.getElem?_append_right (by omega), List.getElem?_replicate]
  by_cases hw : j < w
  ·rw [if_pos (by omega)]
   unfold rowK chK
   rw [List.getElem?_map, List.getElem?_range hw]
   simp only [Option.map_some, Option.some.injEq]
   rw [if_neg (by omega)]
  ·rw [if_neg (by omega), List.getElem?_eq_none (by rw [rowK_len]; omega)]
theorem trL_row (w : Nat) (s : List UInt8) (i : Nat) : trL (rowK w s s.length i) = trL (lineS w s i) := by rw [rowK_line, trL_pad]
theorem trN_last (l : List UInt8) : ∀ n, 0 < trN l n → bt l (trN l n - 1) ≠ 32
 | 0, h => absurd h (Nat.lt_irrefl 0)
 | n + 1, h => by
  rw [trN] at h ⊢
  split
  ·rename_i hc; rw [if_pos hc] at h; exact trN_last l n h
  ·rename_i hc; exact hc
theorem trL_ok {w : Nat} {l : List UInt8} (hw : l.length ≤ w) (hp : pL l) : (trL l).length ≤ w ∧ pL (trL l) ∧ (0 < (trL l).length → bt (trL l) ((trL l).length - 1) ≠ 32) := by
 have hle := trN_le l l.length
 have hlen : (trL l).length = trN l l.length := by unfold trL; rw [List.length_take]; omega
 refine ⟨by omega, fun b hb => hp b (List.mem_of_mem_take hb), fun h => ?_⟩
 rw [hlen] at h ⊢
 unfold trL
 rw [bt_take (by omega)]
 exact trN_last l l.length h
theorem grK_okV {w h : Nat} {s : List UInt8} (hp : pL s) : okV w ((grK w h s s.length).map trL) := by
 intro l hl
 obtain ⟨r, hr, rfl⟩ := List.mem_map.1 hl
 obtain ⟨h1, h2⟩ := grK_ok (w := w) (h := h) hp (Nat.le_refl s.length) r hr
 exact trL_ok (by omega) h2
theorem grK_trL {w h : Nat} {s : List UInt8} {i : Nat} (hi : i < h) : gt ((grK w h s s.length).map trL) i = trL (lineS w s i) := by
 rw [← trL_row, gt_eq (by rw [List.length_map, grK_len]; exact hi), List.getElem_map]
 congr 1
 rw [← gt_eq (by rw [grK_len]; exact hi), grK_at hi]
end Go.VI

set_option linter.unusedSimpArgs false
set_option linter.unusedVariables false
set_option maxRecDepth 100000
set_option maxHeartbeats 8000000
namespace Go.VI
open Go.Proofs
def badA (b : UInt8) : Bool := decide (b.toNat < 32) || decide (126 < b.toNat)
theorem pL_of {s : List UInt8} (h : s.any badA = false) : pL s := by
 intro b hb
 have := List.any_eq_false.1 h b hb
 unfold badA at this
 simp at this
 exact ⟨this.1, this.2⟩
set_option linter.defProp false in
def lp3_5 := show ∀ B fr H, execT E B 3 (Code.loop _) fr H = rlG E B 3 (loopAt Tryz.f3 0) (gcn B (norm [2, 7, 8, 37, 38] fr) H) from fun B fr H => rl_intro rfl mt3_5 mb3_5 zf3_5 hd3_5 fr H
theorem l3_0 (w h : Nat) (s : List UInt8) (hs : s.length ≤ 100) : ∀ (m k : Nat), k + m = s.length →
  rl E 0 3 (loopAt Tryz.f3 0) [(2, .i (.str s)), (7, .i (.v (.int .i64 (w)))), (8, .i (.v (.int .i64 (h)))), (37, .i (.v (.int .i64 (s.length)))), (38, .i (.v (.int .i64 (k))))] [] =
  if (s.drop k).any badA = true then some (.ret, [(6, .i (.v (.bool (true))))], []) else
   some (.exit 0, [(2, .i (.str s)), (7, .i (.v (.int .i64 (w)))), (8, .i (.v (.int .i64 (h)))), (37, .i (.v (.int .i64 (s.length)))), (38, .i (.v (.int .i64 (s.length)))), (39, .i (.v (.bool (false))))], []) := by
 intro m
 induction m with
 | zero =>
  intro k hk
  obtain rfl : k = s.length := by omega
  rw [List.drop_length, List.any_nil, if_neg (by simp)]
  rw [rl_step (fn := Tryz.f3) (k := 0) rfl]
  simp (disch := first | omega | (simp only [vlen]; omega)) only [vall, reduceCtorEq, ↓reduceIte, zq0, zq1, zq2, zq3, zq4, zq5, zq6, zq7, zq8, zq9, zq10, zq11, zq12, zq13, zq14, zq15, zq16, zq17, en3, bs43, bs49, lp3_5]
 | succ m ih =>
  intro k hk
  have hlt : k < s.length := by omega
  have ih := ih (k + 1) (by omega)
  have hb : s[k]? = some s[k] := List.getElem?_eq_getElem hlt
  rw [List.drop_eq_getElem_cons hlt, List.any_cons]
  generalize s[k] = b at *
  by_cases h1 : b.toNat < 32
  ·rw [show badA b = true by simp [badA, h1], Bool.true_or, if_pos rfl]
   clear ih
   rw [rl_step (fn := Tryz.f3) (k := 0) rfl]
   simp (disch := first | omega | (simp only [vlen]; omega)) only [vall, reduceCtorEq, ↓reduceIte, zq0, zq1, zq2, zq3, zq4, zq5, zq6, zq7, zq8, zq9, zq10, zq11, zq12, zq13, zq14, zq15, zq16, zq17, en3, bs43, bs49, hb, ik4, lp3_5]
  ·by_cases h2 : 126 < b.toNat
   ·rw [show badA b = true by simp [badA, h2], Bool.true_or, if_pos rfl]
    clear ih
    rw [rl_step (fn := Tryz.f3) (k := 0) rfl]
    simp (disch := first | omega | (simp only [vlen]; omega)) only [vall, reduceCtorEq, ↓reduceIte, zq0, zq1, zq2, zq3, zq4, zq5, zq6, zq7, zq8, zq9, zq10, zq11, zq12, zq13, zq14, zq15, zq16, zq17, en3, bs43, bs49, hb, ik4, lp3_5]
   ·rw [show badA b = false by simp [badA, h1, h2], Bool.false_or, ← ih]
    clear ih
    rw [rl_step (fn := Tryz.f3) (k := 0) rfl]
    simp (disch := first | omega | (simp only [vlen]; omega)) only [vall, reduceCtorEq, ↓reduceIte, zq0, zq1, zq2, zq3, zq4, zq5, zq6, zq7, zq8, zq9, zq10, zq11, zq12, zq13, zq14, zq15, zq16, zq17, en3, bs43, bs49, hb, ik4, lp3_5]
set_option linter.defProp false in
def lp3_18 := show ∀ B fr H, execT E B 3 (Code.loop _) fr H = rlG E B 3 (loopAt Tryz.f3 2) (gcn B (norm [2, 7, 14, 15, 80, 81, 82] fr) H) from fun B fr H => rl_intro rfl mt3_18 mb3_18 zf3_18 hd3_18 fr H
theorem l3_2 (w : Nat) (s l : List UInt8) (X V : List (List IV)) (b c : Nat) (hl : l.length ≤ 100) : ∀ n, n ≤ l.length →
  rl E 0 3 (loopAt Tryz.f3 2) [(2, .i (.str s)), (7, .i (.v (.int .i64 (w)))), (14, .i (.sl 3 X false)), (15, .i (.str (l.take n))), (80, .i (.sl 1 V false)), (81, .i (.v (.int .i64 (b)))), (82, .i (.v (.int .i64 (c))))] [] =
   some (.exit 4, [(2, .i (.str s)), (7, .i (.v (.int .i64 (w)))), (14, .i (.sl 3 X false)), (15, .i (.str (l.take (trN l n)))), (80, .i (.sl 1 V false)), (81, .i (.v (.int .i64 (b)))), (82, .i (.v (.int .i64 (c)))), (113, .i (.v (.bool (false))))], []) := by
 intro n
 induction n with
 | zero =>
  intro hn
  rw [trN]
  have h0 : (l.take 0).length = 0 := rfl
  generalize l.take 0 = q at *
  rw [rl_step (fn := Tryz.f3) (k := 2) rfl]
  simp (disch := first | omega | (simp only [vlen, h0]; omega)) only [vall, reduceCtorEq, ↓reduceIte, zq0, zq1, zq2, zq3, zq4, zq5, zq6, zq7, zq8, zq9, zq10, zq11, zq12, zq13, zq14, zq15, zq16, zq17, en3, bs43, bs49, h0, lp3_18]
 | succ n ih =>
  intro hn
  have h0 : (l.take (n + 1)).length = n + 1 := by rw [List.length_take]; omega
  have h1 : (l.take (n + 1))[n]? = some (bt l n) := by rw [List.getElem?_take_of_lt (by omega), bt_eq (by omega), List.getElem?_eq_getElem]
  have h2 : (l.take (n + 1)).take n = l.take n := by rw [List.take_take, Nat.min_eq_left (by omega)]
  have hn1 : ((n + 1 : Nat) : Int) - 1 = (n : Nat) := by omega
  rw [trN]
  by_cases hb : bt l n = 32
  ·rw [if_pos hb]
   rw [hb] at h1
   refine Eq.trans ?_ (ih (by omega))
   clear ih
   generalize l.take (n + 1) = q at *
   generalize l.take n = q' at *
   rw [rl_step (fn := Tryz.f3) (k := 2) rfl]
   simp (disch := first | omega | (simp only [vlen, h0]; omega)) only [vall, reduceCtorEq, ↓reduceIte, zq0, zq1, zq2, zq3, zq4, zq5, zq6, zq7, zq8, zq9, zq10, zq11, zq12, zq13, zq14, zq15, zq16, zq17, en3, bs43, bs49, h0, h1, h2, hn1, Nat.sub_zero, lp3_18]
  ·rw [if_neg hb]
   have hbn : ((bt l n).toNat : Int) ≠ 32 := fun e => hb (UInt8.toNat_inj.1 (by simpa using (by omega : (bt l n).toNat = 32)))
   clear ih
   generalize bt l n = b1 at *
   generalize l.take (n + 1) = q at *
   rw [rl_step (fn := Tryz.f3) (k := 2) rfl]
   simp (disch := first | omega | (simp only [vlen, h0]; omega)) only [vall, reduceCtorEq, ↓reduceIte, zq0, zq1, zq2, zq3, zq4, zq5, zq6, zq7, zq8, zq9, zq10, zq11, zq12, zq13, zq14, zq15, zq16, zq17, en3, bs43, bs49, h0, h1, h2, hn1, hbn, lp3_18]
set_option linter.defProp false in
def lp3_15 := show ∀ B fr H, execT E B 3 (Code.loop _) fr H = rlG E B 3 (loopAt Tryz.f3 1) (gcn B (norm [2, 7, 80, 81, 82] fr) H) from fun B fr H => rl_intro rfl mt3_15 mb3_15 zf3_15 hd3_15 fr H
theorem l3_1 (w h : Nat) (hw : 1 ≤ w ∧ w ≤ 20) (hh : 1 ≤ h ∧ h ≤ 8) (s : List UInt8) (hs : s.length ≤ 100) (V : List (List UInt8)) (hV : V.length = h) (hk : okV w V) (he : ∀ i, i < h → gt V i = trL (lineS w s i)) : ∀ (m k : Nat), k + m = h →
  rl E 0 3 (loopAt Tryz.f3 1) [(2, .i (.str s)), (7, .i (.v (.int .i64 (w)))), (80, .i (.sl 1 (gvR V) false)), (81, .i (.v (.int .i64 (h)))), (82, .i (.v (.int .i64 (k))))] [] =
   some (.exit 2, [(2, .i (.str s)), (7, .i (.v (.int .i64 (w)))), (80, .i (.sl 1 (gvR V) false)), (81, .i (.v (.int .i64 (h)))), (82, .i (.v (.int .i64 (h)))), (83, .i (.v (.bool (false))))], []) := by
 intro m
 have hgl : (gvR V).length = h := by rw [gvR_len, hV]
 induction m with
 | zero =>
  intro k hkk
  obtain rfl : k = h := by omega
  rw [rl_step (fn := Tryz.f3) (k := 1) rfl]
  simp (disch := first | omega | (simp only [vlen, hgl]; omega)) only [vall, reduceCtorEq, ↓reduceIte, zq0, zq1, zq2, zq3, zq4, zq5, zq6, zq7, zq8, zq9, zq10, zq11, zq12, zq13, zq14, zq15, zq16, zq17, en3, bs43, bs49, hgl, lp3_15]
 | succ m ih =>
  intro k hkk
  have hlt : k < V.length := by omega
  have hrow := gvR_at hlt
  obtain ⟨h1, h2, h3⟩ := okV_at hk hlt
  have e := ih (k + 1) (by omega)
  have hek := he k (by omega)
  rw [hek] at hrow h1
  have hT := fun H => ik9 (trL (lineS w s k)) (by omega) H
  have hkw : k * w ≤ 7 * 20 := Nat.mul_le_mul (by omega) (by omega)
  have hll := lineS_len w s k
  have hin := l3_2 w s (lineS w s k) (rowG (trL (lineS w s k))) (gvR V) h k (by omega) (lineS w s k).length (Nat.le_refl _)
  rw [List.take_length] at hin
  have htr : (lineS w s k).take (trN (lineS w s k) (lineS w s k).length) = trL (lineS w s k) := rfl
  rw [htr] at hin
  have hln : (s.drop (min s.length (k * w))).take (min s.length (k * w + w) - min s.length (k * w)) = lineS w s k := rfl
  have hm1 : (k : Int) * (w : Int) = ((k * w : Nat) : Int) := by rw [Int.natCast_mul]
  have hm2 : ((k * w : Nat) : Int) + (w : Int) = ((k * w + w : Nat) : Int) := by omega
  generalize trL (lineS w s k) = t at *
  generalize lineS w s k = q at *
  refine Eq.trans ?_ e
  clear e ih
  generalize k * w = kw at *
  have hn1 : (min (s.length : Int) (kw : Int)).toNat = min s.length kw := by omega
  have hn2 : (min (s.length : Int) ((kw + w : Nat) : Int)).toNat = min s.length (kw + w) := by omega
  rw [rl_step (fn := Tryz.f3) (k := 1) rfl]
  simp (disch := first | omega | (simp only [vlen, hgl]; omega)) only [vall, reduceCtorEq, ↓reduceIte, zq0, zq1, zq2, zq3, zq4, zq5, zq6, zq7, zq8, zq9, zq10, zq11, zq12, zq13, zq14, zq15, zq16, zq17, en3, bs43, bs49, hrow, hT, hin, hm1, hm2, hn1, hn2, hln, hgl, lp3_15, lp3_18]
theorem tv_main (w h : Nat) (hw : 1 ≤ w ∧ w ≤ 20) (hh : 1 ≤ h ∧ h ≤ 8) (a b : Nat) (ha : Int.tmod (a : Int) 20 + 1 = (w : Nat)) (hb : Int.tmod (b : Int) 8 + 1 = (h : Nat)) (ha2 : a < 256) (hb2 : b < 256) (s : List UInt8) (hs : s.length ≤ 140737488351232) :
  ∃ L, callT E 3 [.i (.v (.int .u8 a)), .i (.v (.int .u8 b)), .i (.str s)] [] = some (.i (.v (.bool (true))), L) := by
 have hwh : w * h ≤ 160 := Nat.le_trans (Nat.mul_le_mul hw.2 hh.2) (by decide)
 have hm : (w : Int) * (h : Int) = ((w * h : Nat) : Int) := by rw [Int.natCast_mul]
 by_cases h1 : 100 < s.length
 ·generalize w * h = wh at *
  rw [callT_eq Tryz.func3 rfl fok3 (by simp [Tryz.ntmps3])]
  simp (disch := first | omega | (simp only [vlen]; omega)) only [vall, reduceCtorEq, ↓reduceIte, zq0, zq1, zq2, zq3, zq4, zq5, zq6, zq7, zq8, zq9, zq10, zq11, zq12, zq13, zq14, zq15, zq16, zq17, en3, bs43, bs49, ha, hb, hm, ik4]
  exact ⟨_, rfl⟩
 ·by_cases h2 : w * h < s.length
  ·generalize w * h = wh at *
   rw [callT_eq Tryz.func3 rfl fok3 (by simp [Tryz.ntmps3])]
   simp (disch := first | omega | (simp only [vlen]; omega)) only [vall, reduceCtorEq, ↓reduceIte, zq0, zq1, zq2, zq3, zq4, zq5, zq6, zq7, zq8, zq9, zq10, zq11, zq12, zq13, zq14, zq15, zq16, zq17, en3, bs43, bs49, ha, hb, hm, ik4]
   exact ⟨_, rfl⟩
  ·have hl0 := l3_0 w h s (by omega) s.length 0 (by omega)
   rw [List.drop_zero] at hl0
   have hl0' : rl E 0 3 (loopAt Tryz.f3 0) [(2, .i (.str s)), (7, .i (.v (.int .i64 (w)))), (8, .i (.v (.int .i64 (h)))), (37, .i (.v (.int .i64 (s.length)))), (38, .i (.v (.int .i64 (0))))] [] = _ := hl0
   clear hl0
   cases hbad : s.any badA with
   | true =>
    rw [hbad, if_pos rfl] at hl0'
    generalize w * h = wh at *
    rw [callT_eq Tryz.func3 rfl fok3 (by simp [Tryz.ntmps3])]
    simp (disch := first | omega | (simp only [vlen]; omega)) only [vall, reduceCtorEq, ↓reduceIte, zq0, zq1, zq2, zq3, zq4, zq5, zq6, zq7, zq8, zq9, zq10, zq11, zq12, zq13, zq14, zq15, zq16, zq17, en3, bs43, bs49, ha, hb, hm, hl0', ik4, lp3_5]
    exact ⟨_, rfl⟩
   | false =>
    rw [hbad, if_neg (by simp)] at hl0'
    have hp := pL_of hbad
    have hgl : (grK w h s s.length).length = h := grK_len w h s s.length
    have e1 := fun H => ik5 w h (by omega) (by omega) H
    have e2 := fun H => isoK_val (E := E) (cl := callT E) (g := 7) (H := H) rfl rfl rfl (c7 w h (by omega) (by omega) s hp (by omega) (by omega))
    have hwh1 : 1 * 1 ≤ w * h := Nat.mul_le_mul hw.1 hh.1
    have hr : rK w s.length < h := by
     unfold rK
     exact (Nat.div_lt_iff_lt_mul (by omega)).2 (by rw [Nat.mul_comm]; omega)
    have hc : cK w s.length < w := by
     unfold cK
     split
     ·omega
     ·split
      ·omega
      ·exact Nat.mod_lt _ (by omega)
    have e3 := fun H => isoK_val (E := E) (cl := callT E) (g := 6) (H := H) rfl rfl rfl (c6 w h (by omega) (by omega) (grK w h s s.length) (blG w h) hgl (grK_ok hp (Nat.le_refl _)) (tabL w w) (rK w s.length) (cK w s.length) (endP w s.length) hr hc)
    have hVl : ((grK w h s s.length).map trL).length = h := by rw [List.length_map, hgl]
    have hVk := grK_okV (w := w) (h := h) hp
    have hVe := fun i (hi : i < h) => grK_trL (w := w) (s := s) hi
    have e4 := fun H => isoK_val (E := E) (cl := callT E) (g := 8) (H := H) rfl rfl rfl (c8 w h (rK w s.length) (cK w s.length) (by omega) (by omega) hr hc ((grK w h s s.length).map trL) hVl hVk)
    have hl1 := l3_1 w h hw hh s (by omega) ((grK w h s s.length).map trL) hVl hVk hVe h 0 (by omega)
    have hl1' : rl E 0 3 (loopAt Tryz.f3 1) [(2, .i (.str s)), (7, .i (.v (.int .i64 (w)))), (80, .i (.sl 1 (gvR ((grK w h s s.length).map trL)) false)), (81, .i (.v (.int .i64 (h)))), (82, .i (.v (.int .i64 (0))))] [] = _ := hl1
    clear hl1
    have hvl : (gvR ((grK w h s s.length).map trL)).length = h := by rw [gvR_len, hVl]
    clear hVe hVk
    generalize (grK w h s s.length).map trL = V at *
    generalize gridR (grK w h s s.length) = x at *
    generalize gridR (blG w h) = y at *
    generalize tabL w w = z at *
    generalize rK w s.length = r at *
    generalize cK w s.length = c at *
    generalize endP w s.length = p at *
    generalize gvR V = v at *
    generalize w * h = wh at *
    rw [callT_eq Tryz.func3 rfl fok3 (by simp [Tryz.ntmps3])]
    simp (disch := first | omega | (simp only [vlen, hvl]; omega)) only [vall, reduceCtorEq, ↓reduceIte, zq0, zq1, zq2, zq3, zq4, zq5, zq6, zq7, zq8, zq9, zq10, zq11, zq12, zq13, zq14, zq15, zq16, zq17, en3, bs43, bs49, ha, hb, hm, e1, e2, e3, e4, hl0', hl1', hvl, ik4, lp3_5, lp3_15]
    exact ⟨_, rfl⟩
theorem c3 (a b : Nat) (ha : a < 256) (hb : b < 256) (s : List UInt8) (hs : s.length ≤ 140737488351232) :
  ∃ L, callT E 3 [.i (.v (.int .u8 a)), .i (.v (.int .u8 b)), .i (.str s)] [] = some (.i (.v (.bool (true))), L) :=
 tv_main (a % 20 + 1) (b % 8 + 1) (by omega) (by omega) a b (by rw [Int.tmod_eq_emod_of_nonneg (by omega)]; omega) (by rw [Int.tmod_eq_emod_of_nonneg (by omega)]; omega) ha hb s hs
end Go.VI

set_option linter.unusedSimpArgs false
set_option linter.unusedVariables false
namespace Go.VI
open Go.Proofs
theorem weight_str {H : Type} {P : Program} {t : TypeId} {l : List UInt8} : ∀ {ts : List TypeId} {ds : List (DataW H)} (j : Nat), (DataW.weightsEach P ts ds).all (· ≤ reachBytes) = true → ts[j]? = some t → ds[j]? = some (.lit (.string l)) → l.length ≤ reachBytes
 | [], _, j, _, ht, _ => by simp at ht
 | _ :: _, [], j, _, _, hd => by simp at hd
 | t' :: ts, d' :: ds, 0, h, ht, hd => by
  simp at ht hd
  subst ht; subst hd
  simp only [DataW.weightsEach, List.all_append, Bool.and_eq_true] at h
  have h1 := h.1
  simpa [DataW.weights] using h1
 | t' :: ts, d' :: ds, j + 1, h, ht, hd => by
  simp only [DataW.weightsEach, List.all_append, Bool.and_eq_true] at h
  exact weight_str j h.2 (by simpa using ht) (by simpa using hd)
theorem cv3 (n m : Int) (hn : 0 ≤ n ∧ n ≤ 255) (hm : 0 ≤ m ∧ m ≤ 255) (s : List UInt8) (hs : s.length ≤ 0x7ffffffff000) :
  ∃ L, callT E 3 [.i (.v (.int .u8 n)), .i (.v (.int .u8 m)), .i (.str s)] [] = some (.i (.v (.bool true)), L) := by
 obtain ⟨a, rfl⟩ := Int.eq_ofNat_of_zero_le hn.1
 obtain ⟨b, rfl⟩ := Int.eq_ofNat_of_zero_le hm.1
 exact c3 a b (by omega) (by omega) s (by omega)
end Go.VI

namespace Go.Proofs
open Go.Shelf
def Tryz.lays169_ren : Go.Shelf.Ren := ⟨fun | 169 => 27 | n => n, fun | 70 => 84 | 9 => 9 | 0 => 0 | 72 => 87 | 37 => 85 | 127 => 124 | 3 => 3 | 5 => 5 | n => n, fun | n => n⟩
theorem Tryz.lays169 : Go.Proofs.Lays.n169 Tryz.prog Tryz.lays169_ren := {
 mixed := by kernel_rfl
 f169 := Tryz.func27.trans (congrArg some (by kernel_rfl))
 t0 := Tryz.underlying0
 a0 := Tryz.isAgg0
 z0 := Tryz.sizeOf0
 v0 := Tryz.zeroValue0
 t3 := Tryz.underlying3
 a3 := Tryz.isAgg3
 z3 := Tryz.sizeOf3
 v3 := Tryz.zeroValue3
 t9 := Tryz.underlying9
 a9 := Tryz.isAgg9
 z9 := Tryz.sizeOf9
 v9 := Tryz.zeroValue9
 t37 := Tryz.underlying85
 a37 := Tryz.isAgg85
 z37 := Tryz.sizeOf85
 v37 := Tryz.zeroValue85
 t70 := Tryz.underlying84
 a70 := Tryz.isAgg84
 z70 := Tryz.sizeOf84
 v70 := Tryz.zeroValue84
 t72 := Tryz.underlying87
 a72 := Tryz.isAgg87
 z72 := Tryz.sizeOf87
 v72 := Tryz.zeroValue87
 t127 := Tryz.underlying124
 a127 := Tryz.isAgg124
 z127 := Tryz.sizeOf124
 v127 := Tryz.zeroValue124 }
def Tryz.lays166_ren : Go.Shelf.Ren := ⟨fun | 166 => 26 | 240 => 59 | 276 => 106 | n => n, fun | 70 => 84 | 9 => 9 | 0 => 0 | 72 => 87 | 37 => 85 | 127 => 124 | 3 => 3 | 4 => 4 | 5 => 5 | 20 => 20 | 75 => 89 | 80 => 92 | 164 => 164 | n => n, fun | n => n⟩
theorem Tryz.lays166 : Go.Proofs.Lays.n166 Tryz.prog Tryz.lays166_ren := {
 mixed := by kernel_rfl
 f166 := Tryz.func26.trans (congrArg some (by kernel_rfl))
 f240 := Tryz.func59.trans (congrArg some (by kernel_rfl))
 f276 := Tryz.func106.trans (congrArg some (by kernel_rfl))
 t0 := Tryz.underlying0
 a0 := Tryz.isAgg0
 z0 := Tryz.sizeOf0
 v0 := Tryz.zeroValue0
 t3 := Tryz.underlying3
 a3 := Tryz.isAgg3
 z3 := Tryz.sizeOf3
 v3 := Tryz.zeroValue3
 t4 := Tryz.underlying4
 a4 := Tryz.isAgg4
 z4 := Tryz.sizeOf4
 v4 := Tryz.zeroValue4
 t9 := Tryz.underlying9
 a9 := Tryz.isAgg9
 z9 := Tryz.sizeOf9
 v9 := Tryz.zeroValue9
 t20 := Tryz.underlying20
 a20 := Tryz.isAgg20
 z20 := Tryz.sizeOf20
 v20 := Tryz.zeroValue20
 t37 := Tryz.underlying85
 a37 := Tryz.isAgg85
 z37 := Tryz.sizeOf85
 v37 := Tryz.zeroValue85
 t70 := Tryz.underlying84
 a70 := Tryz.isAgg84
 z70 := Tryz.sizeOf84
 v70 := Tryz.zeroValue84
 t72 := Tryz.underlying87
 a72 := Tryz.isAgg87
 z72 := Tryz.sizeOf87
 v72 := Tryz.zeroValue87
 t75 := Tryz.underlying89
 a75 := Tryz.isAgg89
 z75 := Tryz.sizeOf89
 v75 := Tryz.zeroValue89
 t164 := Tryz.underlying164
 a164 := Tryz.isAgg164
 z164 := Tryz.sizeOf164
 v164 := Tryz.zeroValue164 }
end Go.Proofs

set_option linter.unusedSimpArgs false
set_option linter.unusedVariables false
namespace Go.VI
open Go.Proofs Go.Shelf Go.RowKit Go.Lib
theorem builder_X : Builder.Extra Tryz.prog Tryz.lays166_ren where
 sizeBuilder := by kernel_rfl
 liesBuilder := by kernel_rfl
 t5 := Tryz.underlying5
 a5 := Tryz.isAgg5
 z5 := Tryz.sizeOf5
 v5 := Tryz.zeroValue5
 infoByte := by kernel_rfl
 cellsByte := by kernel_rfl
 sizeByte := by kernel_rfl
 neB5 := by decide
theorem builder_X2 : Builder.Extra Tryz.prog Tryz.lays169_ren where
 sizeBuilder := by kernel_rfl
 liesBuilder := by kernel_rfl
 t5 := Tryz.underlying5
 a5 := Tryz.isAgg5
 z5 := Tryz.sizeOf5
 v5 := Tryz.zeroValue5
 infoByte := by kernel_rfl
 cellsByte := by kernel_rfl
 sizeByte := by kernel_rfl
 neB5 := by decide
theorem ws_k (B b : Nat) (bs : List Value) (s : ByteArray) (w : World) (h : Lib.IsBuilderF 87 5 B b bs w) (hlen : bs.length + s.size ≤ 140737488355328) (hBw : B ≤ w.heap.size) :
  Calls Tryz.prog 26 #[.pointer (some ⟨b, 0, none⟩), .string s] w fun e w' => e = .returned (.tuple #[.int .i64 s.size, .nilIface]) ∧ (Lib.BuilderAtF 87 5 B b (.pointer (some ⟨b, 0, none⟩)) (bs ++ Lib.strCells s) w' ∧ Below B w w' ∧ Lib.OthersKept 5 (some b) w w') := Any.Builder_WriteString_k Tryz.lays166 builder_X B b bs s w h hlen hBw
theorem st_k (B b : Nat) (l : List UInt8) (w : World) (h : Lib.IsBuilderF 87 5 B b (Lib.byteCells l) w) (hBw : B ≤ w.heap.size) :
  Calls Tryz.prog 27 #[.pointer (some ⟨b, 0, none⟩)] w fun e w' => e = .returned (.string ⟨l.toArray⟩) ∧ (Lib.IsBuilderF 87 5 B b (Lib.byteCells l) w' ∧ Below B w w' ∧ Lib.OthersKept 5 (some b) w w') := Any.Builder_String_any_k Tryz.lays169 builder_X2 B b l w h hBw
end Go.VI

set_option linter.unusedSimpArgs false
set_option linter.unusedVariables false
namespace Go.VI
open Go.Proofs Go.Shelf Go.RowKit Go.Lib
def catS (S : Nat → List UInt8) : Nat → List UInt8
 | 0 => []
 | k + 1 => catS S k ++ S k
theorem catS_le (S : Nat → List UInt8) : ∀ {n k : Nat}, k ≤ n → (catS S k).length ≤ (catS S n).length := by
 intro n k h
 induction h with
 | refl => exact Nat.le_refl _
 | step _ ih => rw [catS, List.length_append]; omega
set_option maxHeartbeats 4000000 in
set_option maxRecDepth 1000000 in
theorem text_walk (ao : Option Addr) (n cap b off : Nat) (ha : n ≠ 0 → ao = some ⟨b, off, none⟩) (S : Nat → List UInt8) (c1 : Nat → Bool) (c2 : Nat → Int) (w : World) (hc : ∀ j, j < n → w.cell? ⟨b, off + j * 3, none⟩ = some (.string ⟨⟨S j⟩⟩) ∧ w.cell? ⟨b, off + j * 3 + 1, none⟩ = some (.bool (c1 j)) ∧ w.cell? ⟨b, off + j * 3 + 2, none⟩ = some (.int .i64 (c2 j)))
  (hb : n ≠ 0 → b < w.heap.size) (hn : n ≤ 1000000000) (hl : (catS S n).length ≤ 140737488355328) : Calls Tryz.prog 9 #[.slice ao n cap] w fun e w' => e = .returned (.string ⟨(catS S n).toArray⟩) ∧ Below w.heap.size w w' := by
 go_enter Tryz.func9, Tryz.ntmps9
 go_wp2
 go_loopw [8] (fun i wr => ∃ k : Nat, i = .int .i64 k ∧ k ≤ n ∧ Lib.IsBuilderF 87 5 w.heap.size w.heap.size (Lib.byteCells (catS S k)) wr ∧ Below w.heap.size w wr) (fun i _ => n - (RowKit.intOf i).toNat)
 case atStart =>
  exact ⟨0, rfl, Nat.zero_le _, Lib.IsBuilderF.of (Lib.fresh_isBuilder 87 5 w), (Below.refl _ w).alloc (Nat.le_refl _) _⟩
 case round =>
  obtain ⟨k, rfl, hk, hI, hbw⟩ := hrel
  by_cases hlt : k < n
  ·obtain rfl := ha (by omega)
   obtain ⟨q0, q1, q2⟩ := hc k hlt
   have hbb := hb (by omega)
   have hblk : wr.heap[b]? = w.heap[b]? := hbw.block b hbb
   rw [← World.cell?_of_block hblk] at q0 q1 q2
   have hcat := catS_le S (show k + 1 ≤ n from hlt)
   go_wp2_with (go_at_call 26; refine (ws_k w.heap.size w.heap.size _ _ _ (hI.alloc _) (by rw [Lib.byteCells_length]; rw [catS, List.length_append] at hcat; simp [ByteArray.size]; omega) (by simp; have := hbw.size; omega)).mono ?_)
   rintro e W1 rfl h1 b1 k1
   go_wp2
   go_roundw
   case rel =>
    refine ⟨k + 1, by simp, hlt, ?_, (hbw.alloc hbw.size _).trans b1⟩
    rw [catS, Lib.byteCells_append]
    exact Or.inr h1
   case measure =>
    simp [RowKit.intOf]
    omega
  ·go_wp2_with (go_at_call 27; refine (st_k w.heap.size w.heap.size _ _ hI hbw.size).mono ?_)
   rintro e W1 ⟨rfl, _, b1, _⟩
   go_wp2
   go_ret
   obtain rfl : k = n := by omega
   exact ⟨rfl, hbw.trans b1⟩
end Go.VI

set_option linter.unusedSimpArgs false
set_option linter.unusedVariables false
namespace Go.VI
open Go.Proofs Go.Shelf Go.RowKit Go.Lib
section
variable {E : Env} {I : Imm} {η : Eta} {H : Hp} {w : World}
theorem conc_below (hC : Conc E I η H w) {w2 : World} (hb : Below w.heap.size w w2) : After E I η H w H w2 fun I' η' => I' = I ∧ η' = η := by
 have hold := hb.block
 refine ⟨I, η, ⟨fun b o h => ?_, fun c x hx => (hC.ch c x hx).mono rfl (fun _ _ h => h) (Mono.refl _ _ _) fun b n h => hold b (hC.sep _ _ _ h).2.1, hC.inj, fun c b n h => ?_, hC.glob⟩,
  ⟨hb.os, hb.tape, hb.output, hb.size, fun b h _ => hold b h, fun _ _ h => h, fun b h => .inl h, fun c b n h => .inr ⟨_, _, h⟩⟩, Mono.refl _ _ _, rfl, rfl⟩
 ·have := hC.imm b o h
  rw [hold b (Array.getElem?_eq_some_iff.1 this).1]; exact this
 ·obtain ⟨h1, h2, h3⟩ := hC.sep _ _ _ h
  exact ⟨h1, Nat.lt_of_lt_of_le h2 hb.size, h3⟩
end
def glT (r : List IV) : List UInt8 := match r with | .str s :: _ => s | _ => []
def glB (r : List IV) : Bool := match r with | [_, .v (.bool b), _] => b | _ => false
def glZ (r : List IV) : Int := match r with | [_, _, .v (.int .i64 z)] => z | _ => 0
theorem textOf_row : ∀ {rows : List (List IV)} {l : List UInt8}, textOf rows = some l → l = (rows.map glT).flatten ∧ ∀ r ∈ rows, r = [.str (glT r), .v (.bool (glB r)), .v (.int .i64 (glZ r))]
 | [], l, h => by simp only [textOf, Option.some.injEq] at h; subst h; exact ⟨rfl, by simp⟩
 | r :: rows, l, h => by
  unfold textOf at h
  split at h
  ·rename_i h0; cases h0
  ·rename_i s b z rs heq
   injection heq with h1 h2
   subst h1 h2
   simp only [Option.map_eq_some_iff] at h
   obtain ⟨m, hm, rfl⟩ := h
   obtain ⟨e1, e2⟩ := textOf_row hm
   refine ⟨by rw [List.map_cons, List.flatten_cons, ← e1]; rfl, fun q hq => ?_⟩
   rcases List.mem_cons.1 hq with rfl | hq
   ·rfl
   ·exact e2 q hq
  ·cases h
theorem catS_take (rows : List (List IV)) : ∀ k, k ≤ rows.length → catS (fun j => glT (rows.getD j [])) k = ((rows.take k).map glT).flatten
 | 0, _ => rfl
 | k + 1, h => by
  rw [catS, catS_take rows k (by omega), List.take_succ_eq_append_getElem (by omega : k < rows.length), List.map_append, List.flatten_append]
  congr 1
  rw [List.getD_eq_getElem?_getD, List.getElem?_eq_getElem (by omega : k < rows.length)]
  simp
theorem args_one {I : Imm} {η : Eta} {H : Hp} {a : AV} {vs : Array Value} (h : ArgsOK I η H [a] vs) : ∃ x, vs = #[x] ∧ RelA I η H a x := by
 obtain ⟨hs, hr⟩ := h
 obtain ⟨l⟩ := vs
 match l, hs with
 | [x], _ => exact ⟨x, rfl, hr 0 a rfl⟩
theorem ext_text : Ext1 E 9 extText := by
 intro args H r H' hr I η w vs hC hA
 unfold extText at hr
 split at hr
 ·rename_i rows ex
  split at hr
  ·rename_i l ht
   split at hr
   ·rename_i hc
    obtain ⟨hc1, hc2⟩ := hc
    cases hr
    obtain ⟨y, rfl, r1⟩ := args_one hA
    obtain ⟨e1, e2⟩ := textOf_row ht
    have hfin : ∀ {e : Ending} {w' : World}, e = .returned (.string ⟨l.toArray⟩) ∧ Below w.heap.size w w' → ∃ x, e = .returned x ∧ After E I η H w H w' fun I' η' => RelA I' η' H (.i (.str l)) x := by
     rintro e w' ⟨rfl, hb⟩
     obtain ⟨I', η', k1, k2, k3, rfl, rfl⟩ := conc_below hC hb
     exact ⟨_, rfl, _, _, k1, k2, k3, .i _ _ (.str _)⟩
    have hcat := catS_take rows rows.length (Nat.le_refl _)
    rw [List.take_length, ← e1] at hcat
    cases relA_i r1 with
    | nil _ _ a cap hx =>
     have := text_walk a 0 cap 0 0 (fun h => absurd rfl h) (fun _ => []) (fun _ => false) (fun _ => 0) w (fun j hj => absurd hj (Nat.not_lt_zero _)) (fun h => absurd rfl h) (by omega) (by decide)
     subst e1
     exact this.mono fun e w' h => hfin h
    | sl _ _ _ b off cap cs elem fz cv hI hcap hx hrr h1 h2 =>
     have hblk := hC.imm b _ hI
     have hcell : ∀ k v, cs[k]? = some v → w.cell? ⟨b, k, none⟩ = some v := by
      intro k v hk
      simp [World.cell?, hblk, hk]
     have := text_walk (some ⟨b, off, none⟩) rows.length cap b off (fun _ => rfl) (fun j => glT (rows.getD j [])) (fun j => glB (rows.getD j [])) (fun j => glZ (rows.getD j [])) w (fun j hj => by
      have hget : rows[j]? = some rows[j] := List.getElem?_eq_getElem hj
      have hgd : rows.getD j [] = rows[j] := by rw [List.getD_eq_getElem?_getD, hget]; rfl
      have hrow := e2 rows[j] (List.getElem_mem hj)
      rw [hgd]
      generalize rows[j] = q at *
      generalize glT q = gt at *
      generalize glB q = gb at *
      generalize glZ q = gz at *
      subst hrow
      refine ⟨hcell _ _ ?_, hcell _ _ ?_, hcell _ _ ?_⟩
      ·have a1 := h1 j _ 0 _ hget rfl
       have a2 := h2 j _ 0 _ hget rfl
       rw [Nat.add_zero] at a1
       rw [a1]
       generalize cv j 0 = v at a2
       cases a2
       rfl
      ·have a1 := h1 j _ 1 _ hget rfl
       have a2 := h2 j _ 1 _ hget rfl
       rw [a1]
       generalize cv j 1 = v at a2
       cases a2
       rfl
      ·have a1 := h1 j _ 2 _ hget rfl
       have a2 := h2 j _ 2 _ hget rfl
       rw [a1]
       generalize cv j 2 = v at a2
       cases a2
       rfl) (fun _ => (Array.getElem?_eq_some_iff.1 hblk).1) hc2 (by rw [hcat]; exact hc1)
     rw [hcat] at this
     exact this.mono fun e w' h => hfin h
   ·cases hr
  ·cases hr
 ·cases hr
end Go.VI

set_option linter.unusedSimpArgs false
set_option linter.unusedVariables false
namespace Go.VI
open Go.Proofs Go.Shelf Go.RowKit Go.Lib
set_option maxHeartbeats 2000000 in
set_option maxRecDepth 100000 in
theorem clone_walk (ad : Addr) (n c : Nat) (zs : List Value) (w : World) (hz : zs.length = n * 3) (hbig : n ≤ 1000000000) (hc : ∀ j u, zs[j]? = some u → w.cell? (ad.add j) = some u) (h1 : ∀ u ∈ zs, u.oneCell' = true) :
  Calls Tryz.prog 35 #[.slice (some ad) n c] w fun e w' => ∃ v', e = .returned v' ∧ w'.ownsRow w.heap.size 64 3 v' n zs ∧ Below w.heap.size w w' := by
 obtain ⟨i0, hi, hz0, hz1, hz2⟩ := info_parts (show (Tryz.prog.info? 64).map (fun i => (i.zero, i.size, i.bytes)) = some (some (.agg #[.string ⟨#[]⟩, .bool false, .int .i64 0]), 3, 32) from by kernel_rfl)
 have q36 : ∀ (w : World) (a : Option Addr) (n c n' c' : Nat), (binOp .eql 49 (.slice a n c) (.slice none n' c')).run Tryz.prog w = .ok (.bool a.isNone) w := fun w a n c n' c' => Lib.run_eql_slice_nil w _ _ a n c n' c' Tryz.underlying49
 have u36 : ∀ w, Sem.run Tryz.prog (underlying 49) w = .ok (TypeDesc.slice 64) w := run_underlying Tryz.underlying49
 have A : Aside (∀ j u, zs[j]? = some u → w.cell? (ad.add j) = some u) := hc
 clear hc
 go_enter Tryz.func35, Tryz.ntmps35
 go_wp2_with (at_builtin; refine wpList_append_own _ rfl _ _ 49 rfl w.heap.size 64 i0 _ 3 32 Tryz.underlying49 hi hz0 hz1 hz2 rfl (by decide) _ _ _ rfl (World.ownsRow_made w #[] 0 (Nat.le_refl _) (Nat.zero_le _) rfl) ad n c zs rfl hz ?qc2 ?qc3 ?qc4 ?qc5 ?qc6 ?_)
 case qc2 =>
  intro j u hj
  exact Lib.cell?_alloc_some _ (A.out j u hj)
 case qc3 => exact h1
 case qc4 => unfold maxLen; omega
 case qc5 => omega
 case qc6 => simp
 intro v' w1 hown hgrow hnil
 go_wp2
 go_ret
 exact ⟨v', rfl, by simpa using hown, ((Below.refl _ w).alloc (Nat.le_refl _) _).grown hgrow (by simp) (by intro k hk; simp [Value.ownBlock] at hk; omega)⟩
set_option maxHeartbeats 1000000 in
theorem clone_nil (n c : Nat) (w : World) : Calls Tryz.prog 35 #[.slice none n c] w fun e w' => e = .returned (.slice none 0 0) ∧ w' = w := by
 have q36 : ∀ (w : World) (a : Option Addr) (n c n' c' : Nat), (binOp .eql 49 (.slice a n c) (.slice none n' c')).run Tryz.prog w = .ok (.bool a.isNone) w := fun w a n c n' c' => Lib.run_eql_slice_nil w _ _ a n c n' c' Tryz.underlying49
 go_enter Tryz.func35, Tryz.ntmps35
 go_wp2
 go_ret
 exact ⟨rfl, rfl⟩
end Go.VI

set_option linter.unusedSimpArgs false
set_option linter.unusedVariables false
namespace Go.VI
open Go.Proofs Go.Shelf Go.RowKit Go.Lib
section
variable {E : Env} {I : Imm} {η : Eta} {H : Hp} {w : World}
theorem conc_new (hC : Conc E I η H w) {w2 : World} (hb : Below w.heap.size w w2) {g : Nat} (hg : w.heap.size ≤ g) {o : Obj} (hgo : w2.heap[g]? = some o) : After E I η H w H w2 fun I' η' => (∀ b, I' b = if b = g then some o else I b) ∧ I.le I' := by
 have ho := hb.block
 let I' : Imm := fun b => if b = g then some o else I b
 have hlt : ∀ b o, I b = some o → b < w.heap.size := fun b o hb => (Array.getElem?_eq_some_iff.1 (hC.imm b o hb)).1
 have hle : I.le I' := fun b o hb => by
  have := hlt b o hb
  show (if _ then _ else _) = _
  rw [if_neg (by omega)]; exact hb
 have hm : Mono I η H I' η H := mono_of hle (Nat.le_refl _) fun c hc => CStep.same rfl rfl
 refine ⟨I', η, ⟨fun b o' hb' => ?_, fun c x hx => (hC.ch c x hx).mono rfl hle hm fun b n h => ho b (hC.sep _ _ _ h).2.1, hC.inj, fun c b n hh => ?_, fun g cells hg => (hC.glob g cells hg).mono hle⟩,
  ⟨hb.os, hb.tape, hb.output, hb.size, fun b hb _ => ho b hb, hle, fun b hb' => ?_, fun c b n hh => .inr ⟨_, _, hh⟩⟩, hm, fun b => rfl, hle⟩
 ·have hb'' : (if b = g then some o else I b) = some o' := hb'
  by_cases he : b = g
  ·rw [if_pos he] at hb''
   rw [he, hgo]; exact hb''
  ·rw [if_neg he] at hb''
   rw [ho b (hlt b o' hb'')]; exact hC.imm b o' hb''
 ·obtain ⟨h1, h2, h3⟩ := hC.sep _ _ _ hh
  refine ⟨?_, Nat.lt_of_lt_of_le h2 hb.size, h3⟩
  show (if _ then _ else _) = _
  rw [if_neg (by omega)]; exact h1
 ·by_cases he : b = g
  ·exact .inr (.inl (by omega))
  ·have hb'' : (if b = g then some o else I b) ≠ none := hb'
   rw [if_neg he] at hb''
   exact .inl hb''
theorem rel_one {a : IV} {v : Value} (h : RelI I a v) : v.oneCell' = true := by
 cases h
 ·assumption
 all_goals rfl
end
theorem ext_clone : Ext1 E 35 (extClone 3) := by
 intro args H r H' hr I η w vs hC hA
 unfold extClone at hr
 split at hr
 ·rename_i z rows ex
  split at hr
  ·rename_i hc
   obtain ⟨rfl, hc2⟩ := hc
   cases hr
   obtain ⟨y, rfl, r1⟩ := args_one hA
   cases relA_i r1 with
   | nil _ _ a cap hx =>
    cases a with
    | none =>
     refine (clone_nil 0 cap w).mono fun e w' ⟨h1, h2⟩ => ?_
     subst h1 h2
     exact ⟨_, rfl, After.refl hC (.i _ _ (.nil _ _ _ _ (fun h => by cases h)))⟩
    | some ad =>
     refine (clone_walk ad 0 cap [] w rfl (by decide) (fun j u hj => by cases hj) (fun u hu => by cases hu)).mono fun e w' ⟨v', he, hown, hbel⟩ => ?_
     subst he
     obtain ⟨_, hv⟩ := hown
     obtain ⟨I', η', k1, k2, k3, rfl, rfl⟩ := conc_below hC hbel
     rcases hv with ⟨rfl, _⟩ | ⟨g, cap', cur, rfl, _⟩
     ·exact ⟨_, rfl, _, _, k1, k2, k3, .i _ _ (.nil _ _ _ _ (fun h => by cases h))⟩
     ·exact ⟨_, rfl, _, _, k1, k2, k3, .i _ _ (.nil _ _ _ _ (fun h => by cases h))⟩
   | sl _ _ _ b off cap cs elem fz cv hI hcap hx hrr h1 h2 =>
    have hblk := hC.imm b _ hI
    have hz3 : ∀ i k, i < rows.length → k < 3 → cs[off + i * 3 + k]? = some (cv i k) ∧ (cv i k).oneCell' = true := by
     intro i k hi hk
     have hget : rows[i]? = some rows[i] := List.getElem?_eq_getElem hi
     have hlen := hrr i _ hget
     have hgk : rows[i][k]? = some rows[i][k] := List.getElem?_eq_getElem (by omega)
     exact ⟨h1 i _ k _ hget hgk, rel_one (h2 i _ k _ hget hgk)⟩
    have hzs : ∀ j, j < rows.length * 3 → cs[off + j]? = some (cv (j / 3) (j % 3)) ∧ (cv (j / 3) (j % 3)).oneCell' = true := by
     intro j hj
     have := hz3 (j / 3) (j % 3) (by omega) (Nat.mod_lt _ (by decide))
     rw [show off + j / 3 * 3 + j % 3 = off + j from by omega] at this
     exact this
    have hgetz : ∀ j u, ((List.range (rows.length * 3)).map fun j => cv (j / 3) (j % 3))[j]? = some u → j < rows.length * 3 ∧ u = cv (j / 3) (j % 3) := by
     intro j u hj
     rw [List.getElem?_map] at hj
     by_cases hlt : j < rows.length * 3
     ·rw [List.getElem?_range hlt] at hj
      simp only [Option.map_some, Option.some.injEq] at hj
      exact ⟨hlt, hj.symm⟩
     ·rw [List.getElem?_eq_none (by simp; omega)] at hj; cases hj
    refine (clone_walk ⟨b, off, none⟩ rows.length cap ((List.range (rows.length * 3)).map fun j => cv (j / 3) (j % 3)) w (by simp) hc2 (fun j u hj => ?_) (fun u hu => ?_)).mono fun e w' ⟨v', he, hown, hbel⟩ => ?_
    ·obtain ⟨hlt, rfl⟩ := hgetz j u hj
     rw [Addr.add_lit]
     simp [World.cell?, hblk, (hzs j hlt).1]
    ·obtain ⟨j, hj⟩ := List.getElem?_of_mem hu
     obtain ⟨hlt, rfl⟩ := hgetz j u hj
     exact (hzs j hlt).2
    ·subst he
     obtain ⟨_, hv⟩ := hown
     rcases hv with ⟨rfl, hn0⟩ | ⟨g, cap', cur, rfl, hge, hcur, hcap', _, hsz, htk⟩
     ·obtain rfl : rows = [] := List.length_eq_zero_iff.1 hn0
      obtain ⟨I', η', k1, k2, k3, rfl, rfl⟩ := conc_below hC hbel
      exact ⟨_, rfl, _, _, k1, k2, k3, .i _ _ (.nil _ _ _ _ (fun h => by cases h))⟩
     ·obtain ⟨I', η', k1, k2, k3, hI', hle⟩ := conc_new hC hbel hge hcur
      refine ⟨_, rfl, _, _, k1, k2, k3, .i _ _ ?_⟩
      refine .sl 3 rows false g 0 cap' cur 64 (0, 0) cv (by rw [hI', if_pos rfl]) hcap' (fun h => by cases h) hrr (fun i r k a hi hk => ?_) (fun i r k a hi hk => (h2 i r k a hi hk).mono hle)
      have hil : i < rows.length := (List.getElem?_eq_some_iff.1 hi).1
      have hkl : k < 3 := by
       have := (List.getElem?_eq_some_iff.1 hk).1
       rw [hrr i r hi] at this; exact this
      have hj : i * 3 + k < rows.length * 3 := by omega
      have : (cur.toList.take (rows.length * 3))[i * 3 + k]? = some (cv i k) := by
       rw [htk, List.getElem?_map, List.getElem?_range hj]
       simp only [Option.map_some, Option.some.injEq]
       rw [show (i * 3 + k) / 3 = i from by omega, show (i * 3 + k) % 3 = k from by omega]
      rw [List.getElem?_take_of_lt hj] at this
      rw [Nat.zero_add]
      simpa using this
  ·cases hr
 ·cases hr
end Go.VI

set_option linter.unusedSimpArgs false
set_option linter.unusedVariables false
namespace Go.VI
open Go.Proofs Go.Shelf Go.RowKit Go.Lib
section
variable {E : Env} {I : Imm} {η : Eta} {H : Hp} {w : World}
theorem own_new (hC : Conc E I η H w) {w' : World} (hb : Below w.heap.size w w') {g : Nat} (hg : w.heap.size ≤ g) {cs : Array Value} {elem : TypeId} {fz : Nat × Nat} (hgo : w'.heap[g]? = some (.cells cs elem fz)) (hth : Thaw fz cs.size)
  {sz : Nat} {rows : List (List IV)} (hz : 0 < sz) (hf : Flat sz rows) (hcell : ∀ (i : Nat) (r : List IV) (k : Nat) (a : IV), rows[i]? = some r → r[k]? = some a → RelI I a (cs.getD (i * sz + k) undef)) (hle : rows.length * sz ≤ cs.size) {cap : Nat} (hcap : rows.length ≤ cap) (hcs : cap * sz ≤ cs.size) :
  After E I η H w (H ++ [.sl sz 0 rows false]) w' fun I' η' => RelA I' η' (H ++ [.sl sz 0 rows false]) (.ref H.length 0 0 rows.length) (.slice (some ⟨g, 0, none⟩) rows.length cap) := by
 have hgl : g < w'.heap.size := (Array.getElem?_eq_some_iff.1 hgo).1
 have hold := hb.block
 have hnew : ∀ d, H.length ≤ d → η d = none := by
  intro d hd
  cases h : η d with
  | none => rfl
  | some p => have := (hC.sep d p.1 p.2 h).2.2; omega
 have hm : Mono I η H I (etaNew η H.length g cs.size) (H ++ [.sl sz 0 rows false]) := by
  refine mono_of (fun _ _ h => h) (by simp) fun c hc => ?_
  exact CStep.same (by rw [List.getElem?_append_left hc]) (by simp [etaNew, show c ≠ H.length by omega])
 have hin : ∀ c b n, etaNew η H.length g cs.size c = some (b, n) → (c = H.length ∧ b = g ∧ n = cs.size) ∨ η c = some (b, n) := by
  intro c b n h
  unfold etaNew at h
  split at h
  ·cases h; exact .inl ⟨by assumption, rfl, rfl⟩
  ·exact .inr h
 refine ⟨I, etaNew η H.length g cs.size, ⟨fun b o hb => ?_, fun c x hx => ?_, fun c c' b n n' h1 h2 => ?_, fun c b n h => ?_, hC.glob⟩, ⟨hb.os, hb.tape, hb.output, hb.size, fun b hb' _ => hold b hb', fun _ _ h => h, fun b h => .inl h, fun c b n h => ?_⟩, hm, ?_⟩
 ·have := hC.imm b o hb
  have hlt : b < w.heap.size := (Array.getElem?_eq_some_iff.1 this).1
  rw [hold b hlt]; exact this
 ·by_cases hc : c < H.length
  ·rw [List.getElem?_append_left hc] at hx
   refine (hC.ch c x hx).mono (by simp [etaNew, show c ≠ H.length by omega]) (fun _ _ h => h) hm fun b n h => hold b (hC.sep _ _ _ h).2.1
  ·have : c = H.length := by
    have := (List.getElem?_eq_some_iff.1 hx).1
    simp at this; omega
   subst this
   simp at hx; subst hx
   exact ⟨fun e => by omega, hf, .inr ⟨g, cs, elem, fz, by simp [etaNew], hgo, hth, hle, fun h => (by cases h), hcell⟩⟩
 ·rcases hin _ _ _ h1 with ⟨rfl, rfl, rfl⟩ | e1
  ·rcases hin _ _ _ h2 with ⟨e, _, _⟩ | e2
   ·exact e.symm
   ·have := (hC.sep _ _ _ e2).2.1; omega
  ·rcases hin _ _ _ h2 with ⟨e, rfl, _⟩ | e2
   ·have := (hC.sep _ _ _ e1).2.1; omega
   ·exact hC.inj _ _ _ _ _ e1 e2
 ·rcases hin _ _ _ h with ⟨rfl, rfl, rfl⟩ | e1
  ·refine ⟨?_, hgl, by simp⟩
   cases hI : I b with
   | none => rfl
   | some o => have := (Array.getElem?_eq_some_iff.1 (hC.imm _ _ hI)).1; omega
  ·have := hC.sep _ _ _ e1
   exact ⟨this.1, Nat.lt_of_lt_of_le this.2.1 hb.size, by simp; omega⟩
 ·rcases hin _ _ _ h with ⟨rfl, rfl, rfl⟩ | e1
  ·exact .inl hg
  ·exact .inr ⟨_, _, e1⟩
 ·refine .ref _ _ _ _ _ (by simp) (fun sz2 rows2 ex2 h => ?_) (fun _ _ _ h => by simp at h) ⟨_, _, rfl⟩ (fun _ _ _ _ h => by omega)
  simp at h
  obtain ⟨rfl, rfl, rfl⟩ := h
  exact ⟨by omega, _, _, rfl, .inr ⟨g, cs.size, by simp [etaNew], by omega, by simpa using hcs, .inl (by simp)⟩⟩
theorem own_nil (hC : Conc E I η H w) {w' : World} (hb : Below w.heap.size w w') {z : Nat} (hz : 0 < z) (a : Option Addr) : After E I η H w (H ++ [.sl z 0 [] false]) w' fun I' η' => RelA I' η' (H ++ [.sl z 0 [] false]) (.ref H.length 0 0 0) (.slice a 0 0) := by
 refine (conc_below hC hb).trans fun I1 η1 hC1 _ _ _ => ?_
 have hnew : η1 H.length = none := by
  cases h : η1 H.length with
  | none => rfl
  | some p => have := (hC1.sep _ p.1 p.2 h).2.2; omega
 have hm : Mono I1 η1 H I1 η1 (H ++ [.sl z 0 [] false]) := mono_of (fun _ _ h => h) (by simp) fun c hc => CStep.same (by rw [List.getElem?_append_left hc]) rfl
 refine ⟨I1, η1, ⟨hC1.imm, fun c x hx => ?_, hC1.inj, fun c b n h => by have := hC1.sep c b n h; exact ⟨this.1, this.2.1, by simp; omega⟩, hC1.glob⟩, Trans.refl _ _ _, hm, ?_⟩
 ·by_cases hc : c < H.length
  ·rw [List.getElem?_append_left hc] at hx
   exact (hC1.ch c x hx).mono rfl (fun _ _ h => h) hm (fun _ _ _ => rfl)
  ·have : c = H.length := by have := (List.getElem?_eq_some_iff.1 hx).1; simp at this; omega
   subst this
   simp at hx; subst hx
   exact ⟨fun e => by omega, fun i r h => by simp at h, .inl ⟨hnew, rfl⟩⟩
 ·refine .ref _ _ _ _ _ (by simp) (fun sz2 rows2 ex2 h => ?_) (fun _ _ _ h => by simp at h) ⟨_, _, rfl⟩ (fun _ _ _ _ h => by omega)
  simp at h; obtain ⟨rfl, rfl, rfl⟩ := h
  exact ⟨by simp, _, _, rfl, .inl ⟨hnew, rfl⟩⟩
def CloneW (P : Program) (f : FuncId) (z : Nat) (T : TypeId) : Prop :=
 (∀ (ad : Addr) (n c : Nat) (zs : List Value) (w : World), zs.length = n * z → n ≤ 1000000000 → (∀ j u, zs[j]? = some u → w.cell? (ad.add j) = some u) → (∀ u ∈ zs, u.oneCell' = true) →
  Calls P f #[.slice (some ad) n c] w fun e w' => ∃ v', e = .returned v' ∧ w'.ownsRow w.heap.size T z v' n zs ∧ Below w.heap.size w w') ∧
 ∀ (n c : Nat) (w : World), Calls P f #[.slice none n c] w fun e w' => e = .returned (.slice none 0 0) ∧ w' = w
theorem ext_cloneO {E : Env} {f : FuncId} {z : Nat} {T : TypeId} (hz : 0 < z) (hcl : CloneW E.P f z T) : Ext1 E f (extCloneO z) := by
 intro args H r H' hr I η w vs hC hA
 unfold extCloneO at hr
 split at hr
 ·rename_i z1 rows ex
  split at hr
  ·rename_i hc
   obtain ⟨rfl, hc2⟩ := hc
   cases hr
   obtain ⟨y, rfl, r1⟩ := args_one hA
   cases relA_i r1 with
   | nil _ _ a cap hx =>
    cases a with
    | none =>
     refine (hcl.2 0 cap w).mono fun e w' ⟨h1, h2⟩ => ?_
     subst h1 h2
     exact ⟨_, rfl, own_nil hC (Below.refl _ _) hz none⟩
    | some ad =>
     refine (hcl.1 ad 0 cap [] w (by simp) (by decide) (fun j u hj => by cases hj) (fun u hu => by cases hu)).mono fun e w' ⟨v', he, hown, hbel⟩ => ?_
     subst he
     obtain ⟨_, hv⟩ := hown
     rcases hv with ⟨rfl, _⟩ | ⟨g, cap', cur, rfl, hge, hcur, hcap', _, hsz, _⟩
     ·exact ⟨_, rfl, own_nil hC hbel hz none⟩
     ·exact ⟨_, rfl, own_new hC hbel hge hcur (thaw0 _) hz (fun i r h => by simp at h) (fun i r k a h => by simp at h) (by simp) hcap' (by omega)⟩
   | sl _ _ _ b off cap cs elem fz cv hI hcap hx hrr h1 h2 =>
    have hblk := hC.imm b _ hI
    have hz3 : ∀ i k, i < rows.length → k < z1 → cs[off + i * z1 + k]? = some (cv i k) ∧ (cv i k).oneCell' = true := by
     intro i k hi hk
     have hget : rows[i]? = some rows[i] := List.getElem?_eq_getElem hi
     have hlen := hrr i _ hget
     have hgk : rows[i][k]? = some rows[i][k] := List.getElem?_eq_getElem (by omega)
     exact ⟨h1 i _ k _ hget hgk, rel_one (h2 i _ k _ hget hgk)⟩
    have hdm : ∀ j, j / z1 * z1 + j % z1 = j := fun j => by rw [Nat.mul_comm]; exact Nat.div_add_mod _ _
    have hzs : ∀ j, j < rows.length * z1 → cs[off + j]? = some (cv (j / z1) (j % z1)) ∧ (cv (j / z1) (j % z1)).oneCell' = true := by
     intro j hj
     have := hz3 (j / z1) (j % z1) ((Nat.div_lt_iff_lt_mul hz).2 hj) (Nat.mod_lt _ hz)
     rw [Nat.add_assoc, hdm] at this
     exact this
    have hgetz : ∀ j u, ((List.range (rows.length * z1)).map fun j => cv (j / z1) (j % z1))[j]? = some u → j < rows.length * z1 ∧ u = cv (j / z1) (j % z1) := by
     intro j u hj
     rw [List.getElem?_map] at hj
     by_cases hlt : j < rows.length * z1
     ·rw [List.getElem?_range hlt] at hj
      simp only [Option.map_some, Option.some.injEq] at hj
      exact ⟨hlt, hj.symm⟩
     ·rw [List.getElem?_eq_none (by simp; omega)] at hj; cases hj
    refine (hcl.1 ⟨b, off, none⟩ rows.length cap ((List.range (rows.length * z1)).map fun j => cv (j / z1) (j % z1)) w (by simp) hc2 (fun j u hj => ?_) (fun u hu => ?_)).mono fun e w' ⟨v', he, hown, hbel⟩ => ?_
    ·obtain ⟨hlt, rfl⟩ := hgetz j u hj
     rw [Addr.add_lit]
     simp [World.cell?, hblk, (hzs j hlt).1]
    ·obtain ⟨j, hj⟩ := List.getElem?_of_mem hu
     obtain ⟨hlt, rfl⟩ := hgetz j u hj
     exact (hzs j hlt).2
    ·subst he
     obtain ⟨_, hv⟩ := hown
     rcases hv with ⟨rfl, hn0⟩ | ⟨g, cap', cur, rfl, hge, hcur, hcap', _, hsz, htk⟩
     ·obtain rfl : rows = [] := List.length_eq_zero_iff.1 hn0
      exact ⟨_, rfl, own_nil hC hbel hz none⟩
     ·have hle : rows.length * z1 ≤ cur.size := by rw [hsz]; exact Nat.mul_le_mul_right _ hcap'
      refine ⟨_, rfl, own_new hC hbel hge hcur (thaw0 _) hz hrr (fun i r k a hi hk => ?_) hle hcap' (by omega)⟩
      have hil : i < rows.length := (List.getElem?_eq_some_iff.1 hi).1
      have hkl : k < z1 := by
       have := (List.getElem?_eq_some_iff.1 hk).1
       rw [hrr i r hi] at this; exact this
      have hj : i * z1 + k < rows.length * z1 := by
       have : (i + 1) * z1 ≤ rows.length * z1 := Nat.mul_le_mul_right _ hil
       rw [Nat.add_mul] at this; omega
      have hd : (i * z1 + k) / z1 = i := by rw [Nat.mul_comm, Nat.mul_add_div hz, Nat.div_eq_of_lt hkl, Nat.add_zero]
      have hmo : (i * z1 + k) % z1 = k := by rw [Nat.mul_comm, Nat.mul_add_mod, Nat.mod_eq_of_lt hkl]
      have : (cur.toList.take (rows.length * z1))[i * z1 + k]? = some (cv i k) := by
       rw [htk, List.getElem?_map, List.getElem?_range hj]
       simp only [Option.map_some, Option.some.injEq]
       rw [hd, hmo]
      rw [List.getElem?_take_of_lt hj] at this
      have hcu : cur[i * z1 + k]? = some (cv i k) := by simpa using this
      rw [Array.getD_eq_getD_getElem?, hcu]
      exact h2 i r k a hi hk
  ·cases hr
 ·cases hr
end
end Go.VI

set_option linter.unusedSimpArgs false
set_option linter.unusedVariables false
namespace Go.VI
open Go.Proofs Go.Shelf Go.RowKit Go.Lib
set_option maxHeartbeats 2000000 in
set_option maxRecDepth 100000 in
theorem cw_walk40 (ad : Addr) (n c : Nat) (zs : List Value) (w : World) (hz : zs.length = n * 1) (hbig : n ≤ 1000000000) (hc : ∀ j u, zs[j]? = some u → w.cell? (ad.add j) = some u) (h1 : ∀ u ∈ zs, u.oneCell' = true) :
  Calls Tryz.prog 40 #[.slice (some ad) n c] w fun e w' => ∃ v', e = .returned v' ∧ w'.ownsRow w.heap.size 4 1 v' n zs ∧ Below w.heap.size w w' := by
 obtain ⟨i0, hi, hz0, hz1, hz2⟩ := info_parts (show (Tryz.prog.info? 4).map (fun i => (i.zero, i.size, i.bytes)) = some (some (.bool false), 1, 1) from by kernel_rfl)
 have q36 : ∀ (w : World) (a : Option Addr) (n c n' c' : Nat), (binOp .eql 35 (.slice a n c) (.slice none n' c')).run Tryz.prog w = .ok (.bool a.isNone) w := fun w a n c n' c' => Lib.run_eql_slice_nil w _ _ a n c n' c' Tryz.underlying35
 have u36 : ∀ w, Sem.run Tryz.prog (underlying 35) w = .ok (TypeDesc.slice 4) w := run_underlying Tryz.underlying35
 have A : Aside (∀ j u, zs[j]? = some u → w.cell? (ad.add j) = some u) := hc
 clear hc
 go_enter Tryz.func40, Tryz.ntmps40
 go_wp2_with (at_builtin; refine wpList_append_own _ rfl _ _ 35 rfl w.heap.size 4 i0 _ 1 1 Tryz.underlying35 hi hz0 hz1 hz2 rfl (by decide) _ _ _ rfl (World.ownsRow_made w #[] 0 (Nat.le_refl _) (Nat.zero_le _) rfl) ad n c zs rfl hz ?qc2 ?qc3 ?qc4 ?qc5 ?qc6 ?_)
 case qc2 =>
  intro j u hj
  exact Lib.cell?_alloc_some _ (A.out j u hj)
 case qc3 => exact h1
 case qc4 => unfold maxLen; omega
 case qc5 => omega
 case qc6 => simp
 intro v' w1 hown hgrow hnil
 go_wp2
 go_ret
 exact ⟨v', rfl, by simpa using hown, ((Below.refl _ w).alloc (Nat.le_refl _) _).grown hgrow (by simp) (by intro k hk; simp [Value.ownBlock] at hk; omega)⟩
set_option maxHeartbeats 1000000 in
theorem cw_nil40 (n c : Nat) (w : World) : Calls Tryz.prog 40 #[.slice none n c] w fun e w' => e = .returned (.slice none 0 0) ∧ w' = w := by
 have q36 : ∀ (w : World) (a : Option Addr) (n c n' c' : Nat), (binOp .eql 35 (.slice a n c) (.slice none n' c')).run Tryz.prog w = .ok (.bool a.isNone) w := fun w a n c n' c' => Lib.run_eql_slice_nil w _ _ a n c n' c' Tryz.underlying35
 go_enter Tryz.func40, Tryz.ntmps40
 go_wp2
 go_ret
 exact ⟨rfl, rfl⟩
theorem ext_cl40 : Ext1 E 40 (extCloneO 1) := ext_cloneO (T := 4) (by decide) ⟨cw_walk40, cw_nil40⟩
set_option maxHeartbeats 2000000 in
set_option maxRecDepth 100000 in
theorem cw_walk63 (ad : Addr) (n c : Nat) (zs : List Value) (w : World) (hz : zs.length = n * 1) (hbig : n ≤ 1000000000) (hc : ∀ j u, zs[j]? = some u → w.cell? (ad.add j) = some u) (h1 : ∀ u ∈ zs, u.oneCell' = true) :
  Calls Tryz.prog 63 #[.slice (some ad) n c] w fun e w' => ∃ v', e = .returned v' ∧ w'.ownsRow w.heap.size 52 1 v' n zs ∧ Below w.heap.size w w' := by
 obtain ⟨i0, hi, hz0, hz1, hz2⟩ := info_parts (show (Tryz.prog.info? 52).map (fun i => (i.zero, i.size, i.bytes)) = some (some (.slice none 0 0), 1, 24) from by kernel_rfl)
 have q36 : ∀ (w : World) (a : Option Addr) (n c n' c' : Nat), (binOp .eql 23 (.slice a n c) (.slice none n' c')).run Tryz.prog w = .ok (.bool a.isNone) w := fun w a n c n' c' => Lib.run_eql_slice_nil w _ _ a n c n' c' Tryz.underlying23
 have u36 : ∀ w, Sem.run Tryz.prog (underlying 23) w = .ok (TypeDesc.slice 52) w := run_underlying Tryz.underlying23
 have A : Aside (∀ j u, zs[j]? = some u → w.cell? (ad.add j) = some u) := hc
 clear hc
 go_enter Tryz.func63, Tryz.ntmps63
 go_wp2_with (at_builtin; refine wpList_append_own _ rfl _ _ 23 rfl w.heap.size 52 i0 _ 1 24 Tryz.underlying23 hi hz0 hz1 hz2 rfl (by decide) _ _ _ rfl (World.ownsRow_made w #[] 0 (Nat.le_refl _) (Nat.zero_le _) rfl) ad n c zs rfl hz ?qc2 ?qc3 ?qc4 ?qc5 ?qc6 ?_)
 case qc2 =>
  intro j u hj
  exact Lib.cell?_alloc_some _ (A.out j u hj)
 case qc3 => exact h1
 case qc4 => unfold maxLen; omega
 case qc5 => omega
 case qc6 => simp
 intro v' w1 hown hgrow hnil
 go_wp2
 go_ret
 exact ⟨v', rfl, by simpa using hown, ((Below.refl _ w).alloc (Nat.le_refl _) _).grown hgrow (by simp) (by intro k hk; simp [Value.ownBlock] at hk; omega)⟩
set_option maxHeartbeats 1000000 in
theorem cw_nil63 (n c : Nat) (w : World) : Calls Tryz.prog 63 #[.slice none n c] w fun e w' => e = .returned (.slice none 0 0) ∧ w' = w := by
 have q36 : ∀ (w : World) (a : Option Addr) (n c n' c' : Nat), (binOp .eql 23 (.slice a n c) (.slice none n' c')).run Tryz.prog w = .ok (.bool a.isNone) w := fun w a n c n' c' => Lib.run_eql_slice_nil w _ _ a n c n' c' Tryz.underlying23
 go_enter Tryz.func63, Tryz.ntmps63
 go_wp2
 go_ret
 exact ⟨rfl, rfl⟩
theorem ext_cl63 : Ext1 E 63 (extCloneO 1) := ext_cloneO (T := 52) (by decide) ⟨cw_walk63, cw_nil63⟩
set_option maxHeartbeats 2000000 in
set_option maxRecDepth 100000 in
theorem cw_walk64 (ad : Addr) (n c : Nat) (zs : List Value) (w : World) (hz : zs.length = n * 5) (hbig : n ≤ 1000000000) (hc : ∀ j u, zs[j]? = some u → w.cell? (ad.add j) = some u) (h1 : ∀ u ∈ zs, u.oneCell' = true) :
  Calls Tryz.prog 64 #[.slice (some ad) n c] w fun e w' => ∃ v', e = .returned v' ∧ w'.ownsRow w.heap.size 54 5 v' n zs ∧ Below w.heap.size w w' := by
 obtain ⟨i0, hi, hz0, hz1, hz2⟩ := info_parts (show (Tryz.prog.info? 54).map (fun i => (i.zero, i.size, i.bytes)) = some (some (.agg #[.string ⟨#[]⟩, .int .i64 0, .int .i64 0, .int .i64 0, .int .i64 0]), 5, 48) from by kernel_rfl)
 have q36 : ∀ (w : World) (a : Option Addr) (n c n' c' : Nat), (binOp .eql 52 (.slice a n c) (.slice none n' c')).run Tryz.prog w = .ok (.bool a.isNone) w := fun w a n c n' c' => Lib.run_eql_slice_nil w _ _ a n c n' c' Tryz.underlying52
 have u36 : ∀ w, Sem.run Tryz.prog (underlying 52) w = .ok (TypeDesc.slice 54) w := run_underlying Tryz.underlying52
 have A : Aside (∀ j u, zs[j]? = some u → w.cell? (ad.add j) = some u) := hc
 clear hc
 go_enter Tryz.func64, Tryz.ntmps64
 go_wp2_with (at_builtin; refine wpList_append_own _ rfl _ _ 52 rfl w.heap.size 54 i0 _ 5 48 Tryz.underlying52 hi hz0 hz1 hz2 rfl (by decide) _ _ _ rfl (World.ownsRow_made w #[] 0 (Nat.le_refl _) (Nat.zero_le _) rfl) ad n c zs rfl hz ?qc2 ?qc3 ?qc4 ?qc5 ?qc6 ?_)
 case qc2 =>
  intro j u hj
  exact Lib.cell?_alloc_some _ (A.out j u hj)
 case qc3 => exact h1
 case qc4 => unfold maxLen; omega
 case qc5 => omega
 case qc6 => simp
 intro v' w1 hown hgrow hnil
 go_wp2
 go_ret
 exact ⟨v', rfl, by simpa using hown, ((Below.refl _ w).alloc (Nat.le_refl _) _).grown hgrow (by simp) (by intro k hk; simp [Value.ownBlock] at hk; omega)⟩
set_option maxHeartbeats 1000000 in
theorem cw_nil64 (n c : Nat) (w : World) : Calls Tryz.prog 64 #[.slice none n c] w fun e w' => e = .returned (.slice none 0 0) ∧ w' = w := by
 have q36 : ∀ (w : World) (a : Option Addr) (n c n' c' : Nat), (binOp .eql 52 (.slice a n c) (.slice none n' c')).run Tryz.prog w = .ok (.bool a.isNone) w := fun w a n c n' c' => Lib.run_eql_slice_nil w _ _ a n c n' c' Tryz.underlying52
 go_enter Tryz.func64, Tryz.ntmps64
 go_wp2
 go_ret
 exact ⟨rfl, rfl⟩
theorem ext_cl64 : Ext1 E 64 (extCloneO 5) := ext_cloneO (T := 54) (by decide) ⟨cw_walk64, cw_nil64⟩
end Go.VI

set_option linter.unusedSimpArgs false
set_option linter.unusedVariables false
namespace Go.VI
open Go.Proofs Go.Shelf Go.RowKit Go.Lib
def badS (x : Int) : Bool := (x != 66) && (x != 48)
set_option maxRecDepth 100000
set_option maxHeartbeats 4000000
theorem w66 (x : Int) (w : World) : Calls Tryz.prog 66 #[.int .u8 x] w fun e w' => e = .returned (.bool (badS x)) ∧ w' = w := by
 go_enter Tryz.func66, Tryz.ntmps66
 unfold badS
 by_cases h : x = 66
 ·subst h
  go_wp2
  go_ret
  exact ⟨rfl, rfl⟩
 ·have h1 : (x != 66) = true := by simpa using h
  go_wp2
  go_ret
  exact ⟨by simp [h1], rfl⟩
theorem w108 (a b : Int) (B c : Nat) (w : World) (h0 : w.cell? ⟨B, 0, none⟩ = some (.int .u8 a)) (h1 : w.cell? ⟨B, 1, none⟩ = some (.int .u8 b)) :
  Calls Tryz.prog 108 #[.slice (some ⟨B, 0, none⟩) 2 c, .func (.func 66) #[] #[]] w fun e w' => e = .returned (.int .i64 (if badS a = true then 0 else if badS b = true then 1 else -1)) ∧ w' = w := by
 cases ha : badS a with
 | true =>
  rw [if_pos rfl]
  go_enter Tryz.func108, Tryz.ntmps108
  go_wp2
  refine wp_loop_rounds 3 ?_
  rw [rounds_succ]
  go_wp2_with (go_at_call 66; refine (w66 a w).mono ?_; rw [ha]; rintro e w' ⟨rfl, rfl⟩)
  go_wp2
  go_ret
  exact ⟨rfl, rfl⟩
 | false =>
  rw [if_neg (by simp)]
  cases hb : badS b with
  | true =>
   rw [if_pos rfl]
   go_enter Tryz.func108, Tryz.ntmps108
   go_wp2
   refine wp_loop_rounds 3 ?_
   rw [rounds_succ]
   go_wp2_with (go_at_call 66; refine (w66 a w).mono ?_; rw [ha]; rintro e w' ⟨rfl, rfl⟩)
   go_wp2
   rw [rounds_succ]
   go_wp2_with (go_at_call 66; refine (w66 b w').mono ?_; rw [hb]; rintro e w' ⟨rfl, rfl⟩)
   go_wp2
   go_ret
   exact ⟨rfl, rfl⟩
  | false =>
   rw [if_neg (by simp)]
   go_enter Tryz.func108, Tryz.ntmps108
   go_wp2
   refine wp_loop_rounds 3 ?_
   rw [rounds_succ]
   go_wp2_with (go_at_call 66; refine (w66 a w).mono ?_; rw [ha]; rintro e w' ⟨rfl, rfl⟩)
   go_wp2
   rw [rounds_succ]
   go_wp2_with (go_at_call 66; refine (w66 b w').mono ?_; rw [hb]; rintro e w' ⟨rfl, rfl⟩)
   go_wp2
   rw [rounds_succ]
   go_wp2
   go_ret
   exact ⟨rfl, rfl⟩
theorem setsB_eq (a b s : Int) : setsB a b s = ((!badS a) && (!badS b) && (s == 0 || s == 1)) := by
 unfold setsB badS
 simp [bne]
theorem w65 (a b : Int) (B c : Nat) (w : World) (h0 : w.cell? ⟨B, 0, none⟩ = some (.int .u8 a)) (h1 : w.cell? ⟨B, 1, none⟩ = some (.int .u8 b)) :
  Calls Tryz.prog 65 #[.slice (some ⟨B, 0, none⟩) 2 c, .func (.func 66) #[] #[]] w fun e w' => e = .returned (.bool (badS a || badS b)) ∧ w' = w := by
 cases ha : badS a <;> cases hb : badS b
 all_goals
  go_enter Tryz.func65, Tryz.ntmps65
  go_wp2_with (go_at_call 108; refine (w108 a b B c w h0 h1).mono ?_; simp only [ha, hb, Bool.false_eq_true, if_true, if_false]; rintro e w' ⟨rfl, rfl⟩)
  go_wp2
  go_ret
  exact ⟨rfl, rfl⟩
theorem w43 (a b s : Int) (w : World) : Calls Tryz.prog 43 #[.agg #[.int .u8 a, .int .u8 b], .int .i64 s] w fun e w' => e = .returned (.bool (setsB a b s)) ∧ Below w.heap.size w w' := by
 rw [setsB_eq]
 cases hab : badS a || badS b with
 | true =>
  have hr : ((!badS a) && (!badS b) && (s == 0 || s == 1)) = false := by
   cases h1 : badS a <;> cases h2 : badS b <;> simp_all
  rw [hr]
  go_enter Tryz.func43, Tryz.ntmps43
  go_wp2_with (go_at_call 65; refine (w65 a b w.heap.size _ _ ((World.cell?_alloc_new w _ _ 0).trans rfl) ((World.cell?_alloc_new w _ _ 1).trans rfl)).mono ?_; rw [hab]; rintro e w' ⟨rfl, rfl⟩)
  go_wp2
  go_ret
  exact ⟨rfl, (Below.refl _ w).alloc (Nat.le_refl _) _⟩
 | false =>
  have hr : ((!badS a) && (!badS b) && (s == 0 || s == 1)) = (s == 0 || s == 1) := by
   cases h1 : badS a <;> cases h2 : badS b <;> simp_all
  rw [hr]
  by_cases h0 : s = 0
  ·subst h0
   go_enter Tryz.func43, Tryz.ntmps43
   go_wp2_with (go_at_call 65; refine (w65 a b w.heap.size _ _ ((World.cell?_alloc_new w _ _ 0).trans rfl) ((World.cell?_alloc_new w _ _ 1).trans rfl)).mono ?_; rw [hab]; rintro e w' ⟨rfl, rfl⟩)
   go_wp2
   go_ret
   exact ⟨rfl, (Below.refl _ w).alloc (Nat.le_refl _) _⟩
  ·have h0' : (s == 0) = false := by simpa using h0
   go_enter Tryz.func43, Tryz.ntmps43
   go_wp2_with (go_at_call 65; refine (w65 a b w.heap.size _ _ ((World.cell?_alloc_new w _ _ 0).trans rfl) ((World.cell?_alloc_new w _ _ 1).trans rfl)).mono ?_; rw [hab]; rintro e w' ⟨rfl, rfl⟩)
   go_wp2
   go_ret
   exact ⟨by simp [h0'], (Below.refl _ w).alloc (Nat.le_refl _) _⟩
theorem ext_sets : Ext1 E 43 extSets := by
 intro args H r H' hr I η w vs hC hA
 unfold extSets at hr
 split at hr
 ·rename_i a b s
  cases hr
  obtain ⟨x, y, rfl, h1, h2⟩ := args_two hA
  obtain rfl := relA_v h2
  cases h1 with
  | agg _ cs hl hk =>
   have k0 := relA_v (hk 0 _ rfl)
   have k1 := relA_v (hk 1 _ rfl)
   obtain ⟨l⟩ := cs
   match l, hl with
   | [c0, c1], _ =>
    simp at k0 k1
    subst k0 k1
    refine (w43 a b s w).mono fun e w' ⟨h1, h2⟩ => ?_
    subst h1
    obtain ⟨I', η', q1, q2, q3, rfl, rfl⟩ := conc_below hC h2
    exact ⟨_, rfl, _, _, q1, q2, q3, .i _ _ (.v _ rfl)⟩
 ·cases hr
theorem extOK : ExtOK E := by
 intro f h hf
 rcases E_extI f h hf with ⟨rfl, rfl⟩ | ⟨rfl, rfl⟩ | ⟨rfl, rfl⟩ | ⟨rfl, rfl⟩ | ⟨rfl, rfl⟩ | ⟨rfl, rfl⟩ | h2
 ·exact ext_text
 ·exact ext_clone
 ·exact ext_cl40
 ·exact ext_sets
 ·exact ext_cl63
 ·exact ext_cl64
 ·exact h2.elim
end Go.VI

set_option linter.unusedSimpArgs false
set_option linter.unusedVariables false
namespace Go.VI
open Go.Proofs Go.RowKit Go.Shelf
attribute [local go_sem] Oper.semAt_some
set_option maxRecDepth 100000
set_option maxHeartbeats 40000000
theorem w38 (nn : Nat) (w : World) : CallsIn Fence.wide nn Tryz.prog 38 #[.agg #[.int .i64 (-1), .int .i64 (-1), .int .i64 0]] w fun e w' => e = .returned (.int .i64 0) ∧ w' = w.alloc (.cells #[.int .i64 (-1), .int .i64 (-1), .int .i64 0] 29) := by
 refine callsIn_of_wp Tryz.func38 rfl trivial ?_ rfl
 simp only [Tryz.ntmps38, List.size_toArray, List.length_cons, List.length_nil, Nat.reduceAdd, Nat.reduceSub, Array.replicate_succ, Array.replicate_zero, List.push_toArray, List.append_toArray, List.nil_append, List.cons_append]
 gi_wp2
 go_ret
 exact ⟨rfl, rfl⟩
def cellG (t : List UInt8) : List IV := [.str t, .v (.int .i64 1), .v (.int .i64 (-1)), .v (.int .i64 (-1)), .v (.int .i64 0)]
theorem glyphsL_inv : ∀ {rows : List (List IV)} {xs : List AV}, glyphsL rows = some xs → ∃ ts : List (List UInt8), rows = ts.map cellG ∧ xs = ts.map glyphA
 | [], xs, h => by
  simp only [glyphsL, Option.some.injEq] at h; subst h; exact ⟨[], rfl, rfl⟩
 | r :: rows, xs, h => by
  unfold glyphsL at h
  split at h
  ·rename_i h0; cases h0
  ·rename_i t rs heq
   injection heq with h1 h2
   subst h1 h2
   simp only [Option.map_eq_some_iff] at h
   obtain ⟨m, hm, rfl⟩ := h
   obtain ⟨ts, rfl, rfl⟩ := glyphsL_inv hm
   exact ⟨t :: ts, rfl, rfl⟩
  ·cases h
theorem seqG_inv {css : List (List IV)} {xs : List AV} (h : seqGlyphs css = some xs) : ∃ (ts : List (List UInt8)) (ex : Bool), css = [[.sl 5 (ts.map cellG) ex]] ∧ ts.length < 1000000 ∧ xs = ts.map glyphA := by
 unfold seqGlyphs at h
 split at h
 ·rename_i rows ex
  split at h
  ·rename_i hl
   obtain ⟨ts, rfl, rfl⟩ := glyphsL_inv h
   exact ⟨ts, ex, rfl, by simpa using hl, rfl⟩
  ·cases h
 ·cases h
theorem glyph_rows {I : Imm} {ts : List (List UInt8)} {ex : Bool} {v : Value} (h : RelI I (.sl 5 (ts.map cellG) ex) v) : ∃ b off cap ao, v = .slice ao ts.length cap ∧ (ts ≠ [] → ao = some ⟨b, off, none⟩) ∧
  ∀ W : World, (∀ b o, I b = some o → W.heap[b]? = some o) → ∀ (k : Nat) (t : List UInt8), ts[k]? = some t → W.cell? ⟨b, off + k * 5, none⟩ = some (.string ⟨⟨t⟩⟩) ∧ W.cell? ⟨b, off + k * 5 + 1, none⟩ = some (.int .i64 1) ∧
   W.cell? ⟨b, off + k * 5 + 2, none⟩ = some (.int .i64 (-1)) ∧ W.cell? ⟨b, off + k * 5 + 3, none⟩ = some (.int .i64 (-1)) ∧ W.cell? ⟨b, off + k * 5 + 4, none⟩ = some (.int .i64 0) := by
 generalize hr : ts.map cellG = rows at h
 cases h with
 | nil _ _ a cap hx =>
  obtain rfl : ts = [] := by simpa using hr
  exact ⟨0, 0, cap, a, rfl, fun h => absurd rfl h, fun W _ k t h => by simp at h⟩
 | sl _ _ _ b off cap cs elem fz cv hI hcap hx hrr h1 h2 =>
  subst hr
  refine ⟨b, off, cap, some ⟨b, off, none⟩, by simp, fun _ => rfl, fun W hW k t hk => ?_⟩
  have hblk := hW b _ hI
  have hrow : (ts.map cellG)[k]? = some (cellG t) := by simp [hk]
  have key : ∀ m a, (cellG t)[m]? = some a → W.cell? ⟨b, off + k * 5 + m, none⟩ = some (cv k m) ∧ RelI I a (cv k m) := fun m a hm => ⟨by simp [World.cell?, hblk, h1 k _ m a hrow hm], h2 k _ m a hrow hm⟩
  have conv : ∀ {x y : Value}, RelI I (.v x) y → y = x := fun r => by cases r; rfl
  obtain ⟨a0, r0⟩ := key 0 _ rfl
  obtain ⟨a1, r1⟩ := key 1 _ rfl
  obtain ⟨a2, r2⟩ := key 2 _ rfl
  obtain ⟨a3, r3⟩ := key 3 _ rfl
  obtain ⟨a4, r4⟩ := key 4 _ rfl
  rw [conv r1] at a1
  rw [conv r2] at a2
  rw [conv r3] at a3
  rw [conv r4] at a4
  refine ⟨?_, a1, a2, a3, a4⟩
  rw [Nat.add_zero] at a0
  rw [a0]
  generalize cv k 0 = y at r0
  cases r0
  rfl
theorem seq_glyphs : Seq1 Tryz.prog 37 seqGlyphs := by
 intro l nn css xs bs I J Jx W hL hlen hcells hImm hdr hdrx hB hBx hY h0
 obtain ⟨ts, ex, rfl, hsm, rfl⟩ := seqG_inv hL
 obtain ⟨b1, rfl⟩ : ∃ b1, bs = [b1] := by
  cases bs with
  | nil => cases hlen
  | cons a bs => cases bs with
   | nil => exact ⟨a, rfl⟩
   | cons b bs => simp at hlen
 obtain ⟨v, hv, rv⟩ := hcells 0 b1 _ rfl rfl 0 _ rfl
 obtain ⟨b, off, cap, ao, rfl, hao, hrow⟩ := glyph_rows rv
 rw [List.length_map]
 have hmx : Tryz.prog.follows .mixedOrders = true := by kernel_rfl
 have h38 : Fence.wide.fn 38 := trivial
 have hdp : Fence.wide.depth.isSome = false := rfl
 have AY : Aside (∀ (m j : Nat) (y : AV) (x : Value) (W : World), (ts.map glyphA)[j]? = some y → RelA I (fun _ => none) [] y x → J j W → YieldAt Fence.wide m Tryz.prog l #[x] W fun e W' => (e = .returned (.bool true) ∧ J (j + 1) W') ∨ (e = .returned (.bool false) ∧ Jx W')) := hY
 have AB : Aside (∀ j W W', J j W → RowKit.Below W.heap.size W W' → J j W') := hB
 clear hY hB hBx hdr hdrx hL hcells rv hlen
 refine callsIn_of_wp Tryz.func37 rfl trivial ?_ rfl
 simp only [ptrV, List.map_cons, List.map_nil, Tryz.ntmps37, List.size_toArray, List.length_cons, List.length_nil, Nat.reduceAdd, Nat.reduceSub, Array.replicate_succ, Array.replicate_zero, List.push_toArray, List.append_toArray, List.nil_append, List.cons_append]
 gi_wp2
 gi_loopw [8] (fun i wr => ∃ k : Nat, i = .int .i64 k ∧ k ≤ ts.length ∧ J k wr) (fun i _ => ts.length - (RowKit.intOf i).toNat)
 case atStart => exact ⟨0, rfl, Nat.zero_le _, h0⟩
 case round =>
  obtain ⟨k, rfl, hk, hJ⟩ := hrel
  by_cases hlt : k < ts.length
  ·obtain ⟨c0, c1, c2, c3, c4⟩ := hrow wr (hImm k wr hJ) k _ (List.getElem?_eq_getElem hlt)
   obtain rfl := hao (fun e => by subst e; simp at hlt)
   clear hrow hImm
   gi_wp2
   gi_region_with_o (gi_at_call 38; refine (w38 _ _).mono ?_; rintro e w' ⟨rfl, rfl⟩)
   all_goals
    have hget : (ts.map glyphA)[k]? = some (glyphA ts[k]) := by simp [hlt]
    have hrel : RelA I (fun _ => none) [] (glyphA ts[k]) (.agg #[.string ⟨⟨ts[k]⟩⟩, .bool false, .int .i64 0]) := by
     refine .agg _ _ rfl fun m a hm => ?_
     match m, hm with
     | 0, hm => cases hm; exact .i _ _ (.str _)
     | 1, hm => cases hm; exact .i _ _ (.v _ rfl)
     | 2, hm => cases hm; exact .i _ _ (.v _ rfl)
    have hJ1 : J k (((wr.alloc (.cells #[.string ⟨⟨ts[k]⟩⟩, .int .i64 1, .int .i64 (-1), .int .i64 (-1), .int .i64 0] 54)).alloc (.cells #[.string ⟨⟨ts[k]⟩⟩, .bool false, .int .i64 0] 64)).alloc (.cells #[.int .i64 (-1), .int .i64 (-1), .int .i64 0] 29)).drew := AB.out k wr _ hJ (((((Below.refl _ wr).alloc (Nat.le_refl _) _).alloc (by simp <;> omega) _).alloc (by simp <;> omega) _).drew)
    have hJ2 : J k (((wr.alloc (.cells #[.string ⟨⟨ts[k]⟩⟩, .int .i64 1, .int .i64 (-1), .int .i64 (-1), .int .i64 0] 54)).alloc (.cells #[.int .i64 (-1), .int .i64 (-1), .int .i64 0] 29)).alloc (.cells #[.string ⟨⟨ts[k]⟩⟩, .bool false, .int .i64 0] 64)).drew := AB.out k wr _ hJ (((((Below.refl _ wr).alloc (Nat.le_refl _) _).alloc (by simp <;> omega) _).alloc (by simp <;> omega) _).drew)
    obtain ⟨f1, t1, s1, d1, hy1, hR1⟩ := AY.out (nn - 1) k _ _ _ hget hrel hJ1
    obtain ⟨f2, t2, s2, d2, hy2, hR2⟩ := AY.out (nn - 1) k _ _ _ hget hrel hJ2
    gi_wp2
   all_goals first
    | refine hR1.mono ?_
    | refine hR2.mono ?_
    | refine ⟨fun h => (by cases h), hR1.mono ?_⟩
    | refine ⟨fun h => (by cases h), hR2.mono ?_⟩
    | refine ⟨trivial, hR1.mono ?_⟩
    | refine ⟨trivial, hR2.mono ?_⟩
    | refine ⟨trivial, fun h => (by cases h), hR1.mono ?_⟩
    | refine ⟨trivial, fun h => (by cases h), hR2.mono ?_⟩
   all_goals rintro e W3 (⟨rfl, hJ3⟩ | ⟨rfl, hx3⟩)
   all_goals gi_wp2
   all_goals first | exact bodyPost_ret (results_none rfl _ _ _) rfl ⟨⟨_, rfl⟩, .inr hx3⟩ | skip
   all_goals
    go_roundw
    case rel => exact ⟨k + 1, by simp, hlt, hJ3⟩
    case measure =>
     simp [RowKit.intOf]
     omega
  ·gi_wp2
   go_end0
   obtain rfl : k = ts.length := by omega
   exact ⟨⟨_, rfl⟩, .inl hJ⟩
theorem seqOK : SeqOK E := by
 intro g L h
 rcases E_seqI g L h with ⟨rfl, rfl⟩ | h
 ·exact ⟨ent37, seq_glyphs⟩
 ·exact h.elim
end Go.VI

set_option linter.unusedSimpArgs false
set_option linter.unusedVariables false
namespace Go.VI
open Go.Proofs Go.RowKit Go.Shelf
set_option maxRecDepth 100000
set_option maxHeartbeats 4000000
theorem mkOK : MkOK E := by
 intro g fn h v w hv
 rcases E_mkI g fn h with ⟨rfl, rfl⟩ | ⟨rfl, rfl⟩ | h
 ·go_enter Tryz.func141, Tryz.ntmps141
  go_wp2
  go_ret
  exact ⟨rfl, _, rfl⟩
 ·go_enter Tryz.func144, Tryz.ntmps144
  go_wp2
  go_ret
  exact ⟨rfl, _, rfl⟩
 ·exact h.elim
end Go.VI

