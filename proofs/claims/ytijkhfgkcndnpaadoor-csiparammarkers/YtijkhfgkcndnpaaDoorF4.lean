import Derived.Test.YtijkhfgkcndnpaaDoorF3
import Derived.Test.YtijkhfgkcndnpaaDoorS1
namespace Go.VI
open Go.Proofs
set_option maxRecDepth 100000
set_option linter.unusedSimpArgs false
set_option linter.unusedVariables false
set_option maxHeartbeats 4000000
/-! narratorlaw05's example -/
def exS : List UInt8 := [63, 50, 53, 59, 59, 55]
theorem pex : parseS exS = (63, [25, -1, 7], [], 0) := by decide
theorem fex : fmtS 63 [25, -1, 7] [] = (exS, 0) := by
  have h7 : numB 7 = [55] := by rw [numB, if_pos (by decide), show Int.toNat 7 = 7 from rfl, Lib.decDigits, dif_pos (by decide)]; rfl
  have h25 : numB 25 = [50, 53] := by rw [numB, if_pos (by decide), show Int.toNat 25 = 25 from rfl, Lib.decDigits, dif_neg (by decide), show 25 / 10 = 2 from rfl, Lib.decDigits, dif_pos (by decide)]; rfl
  have h1 : numB (-1) = [] := by rw [numB, if_neg (by decide)]
  have hg : fmtG true [25, -1, 7] = [50, 53, 59, 59, 55] := by simp only [fmtG, h7, h25, h1, List.cons_append, List.nil_append, List.append_nil]
  rw [fmtS, if_neg (by decide), if_neg (by decide), if_neg (by decide), hg]
  rfl
theorem c11 : ∃ L, callT E 11 [] [] = some (.i (.v (.bool true)), L) := by
  have hP : ∀ H, isoK E (callT E) 12 [.i (.str [63, 50, 53, 59, 59, 55])] H = some (.tup [.i (.v (.int .u8 63)), .i (.sl 1 [[.v (.int .i64 25)], [.v (.int .i64 (-1))], [.v (.int .i64 7)]] false), .i (.str []), .i (.v (.int .i64 0))], H) := fun H => by
    have := ik12 exS (by decide) H
    rw [pex] at this
    exact this
  have hF : ∀ H, isoK E (callT E) 15 [.i (.v (.int .u8 63)), .i (.sl 1 [[.v (.int .i64 25)], [.v (.int .i64 (-1))], [.v (.int .i64 7)]] false), .i (.str [])] H = some (.tup [.i (.str [63, 50, 53, 59, 59, 55]), .i (.v (.int .i64 0))], H) := fun H => by
    have := ik15 63 (by decide) [25, -1, 7] [] (by decide) (by decide) H
    rw [fex] at this
    exact this
  have hS : ∀ H, isoK E (callT E) 14 [.i (.sl 1 [[.v (.int .i64 25)], [.v (.int .i64 (-1))], [.v (.int .i64 7)]] false), .i (.sl 1 [[.v (.int .i64 25)], [.v (.int .i64 (-1))], [.v (.int .i64 7)]] false)] H = some (.i (.v (.bool true)), H) := ik14 [25, -1, 7] (by decide)
  rw [callT_eq Tryd.func11 rfl fok11 (by simp [Tryd.ntmps11])]
  simp (disch := first | omega | (simp only [List.length_append, List.length_map, List.length_set, List.length_cons, List.length_nil, List.length_take, List.length_drop]; omega)) only [va0, va1, va2, va3, va4, va5, va6, va7, va8, va9, va10, va11, va12, va13, va14, vb0, vb1, vb2, vb3, w_i8, w_u8, w_i16, w_u16, w_i32, w_u32, w_i64, w_u64, lt_T, lt_F, le_T, le_F, nlt_T, nlt_F, nle_T, nle_F, List.take_of_length_le, gB, gcW, gcR, posIn, renA, renL, Chunk.ren, Chunk.refs, evOpD, touchD, stepC, isFresh, nFresh, freshOf, mkR, hole, evL, evH, opd, get, putD, ofVal, cellOf, loadE, behind, lenE, idxAddrE, idxE, addPtr, intE, strE, unE, convE, AV.int, AV.bool, AV.str, ivs, take, frameOf, firstRegion, refsA, refsL, one, cellsA, floatOk, apartT, List.map, if_true, if_false, E_P, E_glob0, reduceCtorEq, beq_self_eq_true, decide_true, decide_false, ↓reduceIte, Nat.reduceEqDiff, cond_true, cond_false, or_true, true_or, or_false, false_or, and_true, true_and, and_self, false_and, and_false, not_true, not_false_iff, Nat.reduceAdd, Nat.reduceSub, Nat.reduceMul, Nat.reduceLT, Nat.reduceLeDiff, Int.reduceToNat, Int.reduceLT, Int.reduceLE, Option.getD, Int.reduceMul, Int.reduceAdd, List.drop, List.take, Nat.reduceBEq, List.isEmpty, Int.reduceEq, Int.reduceNe, Int.reduceNeg, Int.reduceGT, Int.reduceGE, beq_true, beq_false, UInt8.reduceToNat, eqE, eq_self, foldE, maxE, minE, eq_T, eq_F, ndec, odec, adec, sdec, fillA, over, chop, List.replicate, leavesOk, leafOk, cellsEq, cellEq, E_byref, en11, bs23, hP, hF, hS]
  exact ⟨_, rfl⟩
theorem ik11 (H : Hp) : isoK E (callT E) 11 [] H = some (.i (.v (.bool true)), H) := isoK_val rfl rfl rfl c11
end Go.VI
