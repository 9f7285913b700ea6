import Derived.RangeFuncNested
import Derived.RangeFuncBound
import Derived.RangeFuncCalls
import Derived.RangeFuncLeaves
import Derived.Shelf.Abstract
import Derived.Shelf.RegionOpen
import Derived.WalkKit
import Derived.OwnWalkIn
import Derived.TacticsInMore
import Derived.LoopNIn
import Derived.LoopIn
import Derived.Test.YtgaeknackpfdcaaDoorZIN4
namespace Go.VI
open Go.Proofs
set_option maxRecDepth 100000
set_option linter.unusedSimpArgs false
set_option linter.unusedVariables false
set_option maxHeartbeats 4000000
def simK (row : Int) (l : List Gl) (c w : Int) (k : Kk) (op arg : Int) : Int × Int × Kk :=
  if isV op then (c, w, pushK k (valK row c w l.length op arg))
  else if 8 ≤ op ∧ op ≤ 12 then (c, w, pushK (popK (popK k)) (twoS op (popV (popK k)) (popV k)))
  else if op = 4 then (c, w, pushK (popK k) (charS l (popV k)))
  else if op = 5 then (c, w, pushK (popK k) (styleV l (popV k)))
  else if op = 13 then (c, w, pushK (popK k) (if popV k = 0 then 1 else 0))
  else if op = 14 then (c, w, pushK (pushK (popK k) (popV k)) (popV k))
  else if op = 16 then (c, w, pushK (pushK (popK (popK k)) (popV k)) (popV (popK k)))
  else if op = 19 then (if 1 ≤ popV k ∧ popV k ≤ 3 then popV k else c, w, popK k)
  else if op = 20 then (c, if 0 ≤ popV k ∧ popV k ≤ 60000 then popV k else w, popK k)
  else (c, w, popK k)
theorem op_lookup {E : Env} {cl : CallF} {fr : Fr} {H : Hp} (t : TypeId) (x k : Operand) : evOp E cl (.lookup t x k true) fr H = pK H (lookE E t (opd E fr x) (opd E fr k)) := map_pK _
theorem ik38 (H : Hp) : isoK E (callT E) 38 [] H = some (.i (.mp [(8, 50), (9, 51), (10, 52), (11, 53), (12, 54)]), H) := isoK_ext (show E.ext 38 = some (extMap [(8, 50), (9, 51), (10, 52), (11, 53), (12, 54)]) from rfl) rfl rfl ⟨[], rfl⟩
theorem s_val (op : Int) (hv : isV op) (row : Int) (l : List Gl) (hg : okG l) (c w r : Int) (k : Kk) (arg : Int) (hk : okK k) (hb : bI arg ∧ bI row ∧ bI c ∧ bI w) : ∃ L, callT E 25 [.ptr 0 0 0 0, .agg [.i (.v (.int .i64 (op))), .i (.v (.int .i64 arg))]] [.box (mcK row (.sl 3 (rowsG l) false) c w r k)] = some (.tup [], .box (mcK row (.sl 3 (rowsG l) false) (simK row l c w k (op) arg).1 (simK row l c w k (op) arg).2.1 r (simK row l c w k (op) arg).2.2) :: L) := by
  have h1 := fun T => ik37_K row (rowsG l) c w r k op arg ⟨hb.1, hb.2.1, hb.2.2.1, hb.2.2.2, by rw [rowsG_len]; have := hg.1; omega⟩ hk hv T
  simp only [simK, if_pos hv]
  rw [rowsG_len] at h1
  generalize pushK k (valK row c w l.length op arg) = k2 at *
  rw [callT_eq Tryd.func25 rfl fok25 (by simp [Tryd.ntmps25])]
  simp (disch := first | omega | (simp only [vlen]; omega)) only [vall, List.take_of_length_le, gB, gcW, gcR, posIn, renA, renL, Chunk.ren, Chunk.refs, evOpD, touchD, stepC, isFresh, nFresh, freshOf, mkR, hole, evL, evH, opd, get, putD, ofVal, cellOf, loadE, behind, lenE, idxAddrE, idxE, lookE, lookM, addPtr, intE, strE, unE, convE, AV.int, AV.bool, AV.str, ivs, take, frameOf, firstRegion, refsA, refsL, one, cellsA, floatOk, apartT, List.map, if_true, if_false, E_P, E_glob0, E_glob1, reduceCtorEq, beq_self_eq_true, ↓reduceIte, Nat.reduceEqDiff, cond_true, cond_false, Nat.reduceAdd, Nat.reduceSub, Nat.reduceMul, Nat.reduceLT, Nat.reduceLeDiff, Int.reduceToNat, Int.reduceLT, Int.reduceLE, Option.getD, Int.reduceMul, Int.reduceAdd, List.drop, List.take, Nat.reduceBEq, List.isEmpty, Int.reduceEq, Int.reduceNe, Int.reduceNeg, Int.reduceGT, Int.reduceGE, beq_true, beq_false, UInt8.reduceToNat, eqE, eq_self, foldE, maxE, minE, fillA, over, chop, List.replicate, leavesOk, leafOk, cellsEq, cellEq, E_byref, en25, h1, mcK_cn, mcK_0, mcK_1, mcK_2, mcK_3]
  exact ⟨_, rfl⟩
theorem s_8 (row : Int) (l : List Gl) (hg : okG l) (c w r : Int) (k : Kk) (arg : Int) (hk : okK k) (hb : bI arg ∧ bI row ∧ bI c ∧ bI w) : ∃ L, callT E 25 [.ptr 0 0 0 0, .agg [.i (.v (.int .i64 (8))), .i (.v (.int .i64 arg))]] [.box (mcK row (.sl 3 (rowsG l) false) c w r k)] = some (.tup [], .box (mcK row (.sl 3 (rowsG l) false) (simK row l c w k (8) arg).1 (simK row l c w k (8) arg).2.1 r (simK row l c w k (8) arg).2.2) :: L) := by
  have hnv : ¬ isV 8 := by decide
  have h1 := fun T => ik37_N row (.sl 3 (rowsG l) false) c w r k 8 arg hnv T
  have b0 := popV_b hk
  have h2 := fun T => ik24_K row (.sl 3 (rowsG l) false) c w r k hk T
  have b1 := popV_b (popK_ok hk)
  have h3 := fun T => ik24_K row (.sl 3 (rowsG l) false) c w r (popK k) (popK_ok hk) T
  have h5 := fun T => ik39_K row (.sl 3 (rowsG l) false) c w r (popK (popK k)) (twoS 8 (popV (popK k)) (popV k)) (twoS_b 8 b1 b0) (popK_ok (popK_ok hk)) T
  rw [show twoS 8 (popV (popK k)) (popV k) = (popV (popK k) + popV k) from rfl] at h5
  have h4 := fun H => ik50 (popV (popK k)) (popV k) b1 b0 H
  have h6 : simK row l c w k 8 arg = (c, w, pushK (popK (popK k)) (popV (popK k) + popV k)) := by simp only [simK, if_neg hnv]; rfl
  rw [h6]
  simp only
  generalize (popV (popK k) + popV k) = y at *
  generalize popV (popK k) = a at *
  generalize popV k = b at *
  rw [callT_eq Tryd.func25 rfl fok25 (by simp [Tryd.ntmps25])]
  simp (disch := first | omega | (simp only [vlen]; omega)) only [vall, List.take_of_length_le, gB, gcW, gcR, posIn, renA, renL, Chunk.ren, Chunk.refs, evOpD, touchD, stepC, isFresh, nFresh, freshOf, mkR, hole, evL, evH, opd, get, putD, ofVal, cellOf, loadE, behind, lenE, idxAddrE, idxE, lookE, lookM, addPtr, intE, strE, unE, convE, AV.int, AV.bool, AV.str, ivs, take, frameOf, firstRegion, refsA, refsL, one, cellsA, floatOk, apartT, List.map, if_true, if_false, E_P, E_glob0, E_glob1, reduceCtorEq, beq_self_eq_true, ↓reduceIte, Nat.reduceEqDiff, cond_true, cond_false, Nat.reduceAdd, Nat.reduceSub, Nat.reduceMul, Nat.reduceLT, Nat.reduceLeDiff, Int.reduceToNat, Int.reduceLT, Int.reduceLE, Option.getD, Int.reduceMul, Int.reduceAdd, List.drop, List.take, Nat.reduceBEq, List.isEmpty, Int.reduceEq, Int.reduceNe, Int.reduceNeg, Int.reduceGT, Int.reduceGE, beq_true, beq_false, UInt8.reduceToNat, eqE, eq_self, foldE, maxE, minE, fillA, over, chop, List.replicate, leavesOk, leafOk, cellsEq, cellEq, E_byref, en25, op_lookup, ca50, ik38, h1, h2, h3, h4, h5, mcK_cn, mcK_0, mcK_1, mcK_2, mcK_3]
  exact ⟨_, rfl⟩
theorem s_9 (row : Int) (l : List Gl) (hg : okG l) (c w r : Int) (k : Kk) (arg : Int) (hk : okK k) (hb : bI arg ∧ bI row ∧ bI c ∧ bI w) : ∃ L, callT E 25 [.ptr 0 0 0 0, .agg [.i (.v (.int .i64 (9))), .i (.v (.int .i64 arg))]] [.box (mcK row (.sl 3 (rowsG l) false) c w r k)] = some (.tup [], .box (mcK row (.sl 3 (rowsG l) false) (simK row l c w k (9) arg).1 (simK row l c w k (9) arg).2.1 r (simK row l c w k (9) arg).2.2) :: L) := by
  have hnv : ¬ isV 9 := by decide
  have h1 := fun T => ik37_N row (.sl 3 (rowsG l) false) c w r k 9 arg hnv T
  have b0 := popV_b hk
  have h2 := fun T => ik24_K row (.sl 3 (rowsG l) false) c w r k hk T
  have b1 := popV_b (popK_ok hk)
  have h3 := fun T => ik24_K row (.sl 3 (rowsG l) false) c w r (popK k) (popK_ok hk) T
  have h5 := fun T => ik39_K row (.sl 3 (rowsG l) false) c w r (popK (popK k)) (twoS 9 (popV (popK k)) (popV k)) (twoS_b 9 b1 b0) (popK_ok (popK_ok hk)) T
  rw [show twoS 9 (popV (popK k)) (popV k) = (popV (popK k) - popV k) from rfl] at h5
  have h4 := fun H => ik51 (popV (popK k)) (popV k) b1 b0 H
  have h6 : simK row l c w k 9 arg = (c, w, pushK (popK (popK k)) (popV (popK k) - popV k)) := by simp only [simK, if_neg hnv]; rfl
  rw [h6]
  simp only
  generalize (popV (popK k) - popV k) = y at *
  generalize popV (popK k) = a at *
  generalize popV k = b at *
  rw [callT_eq Tryd.func25 rfl fok25 (by simp [Tryd.ntmps25])]
  simp (disch := first | omega | (simp only [vlen]; omega)) only [vall, List.take_of_length_le, gB, gcW, gcR, posIn, renA, renL, Chunk.ren, Chunk.refs, evOpD, touchD, stepC, isFresh, nFresh, freshOf, mkR, hole, evL, evH, opd, get, putD, ofVal, cellOf, loadE, behind, lenE, idxAddrE, idxE, lookE, lookM, addPtr, intE, strE, unE, convE, AV.int, AV.bool, AV.str, ivs, take, frameOf, firstRegion, refsA, refsL, one, cellsA, floatOk, apartT, List.map, if_true, if_false, E_P, E_glob0, E_glob1, reduceCtorEq, beq_self_eq_true, ↓reduceIte, Nat.reduceEqDiff, cond_true, cond_false, Nat.reduceAdd, Nat.reduceSub, Nat.reduceMul, Nat.reduceLT, Nat.reduceLeDiff, Int.reduceToNat, Int.reduceLT, Int.reduceLE, Option.getD, Int.reduceMul, Int.reduceAdd, List.drop, List.take, Nat.reduceBEq, List.isEmpty, Int.reduceEq, Int.reduceNe, Int.reduceNeg, Int.reduceGT, Int.reduceGE, beq_true, beq_false, UInt8.reduceToNat, eqE, eq_self, foldE, maxE, minE, fillA, over, chop, List.replicate, leavesOk, leafOk, cellsEq, cellEq, E_byref, en25, op_lookup, ca51, ik38, h1, h2, h3, h4, h5, mcK_cn, mcK_0, mcK_1, mcK_2, mcK_3]
  exact ⟨_, rfl⟩
theorem s_10 (row : Int) (l : List Gl) (hg : okG l) (c w r : Int) (k : Kk) (arg : Int) (hk : okK k) (hb : bI arg ∧ bI row ∧ bI c ∧ bI w) : ∃ L, callT E 25 [.ptr 0 0 0 0, .agg [.i (.v (.int .i64 (10))), .i (.v (.int .i64 arg))]] [.box (mcK row (.sl 3 (rowsG l) false) c w r k)] = some (.tup [], .box (mcK row (.sl 3 (rowsG l) false) (simK row l c w k (10) arg).1 (simK row l c w k (10) arg).2.1 r (simK row l c w k (10) arg).2.2) :: L) := by
  have hnv : ¬ isV 10 := by decide
  have h1 := fun T => ik37_N row (.sl 3 (rowsG l) false) c w r k 10 arg hnv T
  have b0 := popV_b hk
  have h2 := fun T => ik24_K row (.sl 3 (rowsG l) false) c w r k hk T
  have b1 := popV_b (popK_ok hk)
  have h3 := fun T => ik24_K row (.sl 3 (rowsG l) false) c w r (popK k) (popK_ok hk) T
  have h5 := fun T => ik39_K row (.sl 3 (rowsG l) false) c w r (popK (popK k)) (twoS 10 (popV (popK k)) (popV k)) (twoS_b 10 b1 b0) (popK_ok (popK_ok hk)) T
  rw [show twoS 10 (popV (popK k)) (popV k) = (popV (popK k) * popV k) from rfl] at h5
  have h4 := fun H => ik52 (popV (popK k)) (popV k) b1 b0 H
  have h6 : simK row l c w k 10 arg = (c, w, pushK (popK (popK k)) (popV (popK k) * popV k)) := by simp only [simK, if_neg hnv]; rfl
  rw [h6]
  simp only
  generalize (popV (popK k) * popV k) = y at *
  generalize popV (popK k) = a at *
  generalize popV k = b at *
  rw [callT_eq Tryd.func25 rfl fok25 (by simp [Tryd.ntmps25])]
  simp (disch := first | omega | (simp only [vlen]; omega)) only [vall, List.take_of_length_le, gB, gcW, gcR, posIn, renA, renL, Chunk.ren, Chunk.refs, evOpD, touchD, stepC, isFresh, nFresh, freshOf, mkR, hole, evL, evH, opd, get, putD, ofVal, cellOf, loadE, behind, lenE, idxAddrE, idxE, lookE, lookM, addPtr, intE, strE, unE, convE, AV.int, AV.bool, AV.str, ivs, take, frameOf, firstRegion, refsA, refsL, one, cellsA, floatOk, apartT, List.map, if_true, if_false, E_P, E_glob0, E_glob1, reduceCtorEq, beq_self_eq_true, ↓reduceIte, Nat.reduceEqDiff, cond_true, cond_false, Nat.reduceAdd, Nat.reduceSub, Nat.reduceMul, Nat.reduceLT, Nat.reduceLeDiff, Int.reduceToNat, Int.reduceLT, Int.reduceLE, Option.getD, Int.reduceMul, Int.reduceAdd, List.drop, List.take, Nat.reduceBEq, List.isEmpty, Int.reduceEq, Int.reduceNe, Int.reduceNeg, Int.reduceGT, Int.reduceGE, beq_true, beq_false, UInt8.reduceToNat, eqE, eq_self, foldE, maxE, minE, fillA, over, chop, List.replicate, leavesOk, leafOk, cellsEq, cellEq, E_byref, en25, op_lookup, ca52, ik38, h1, h2, h3, h4, h5, mcK_cn, mcK_0, mcK_1, mcK_2, mcK_3]
  exact ⟨_, rfl⟩
theorem s_11 (row : Int) (l : List Gl) (hg : okG l) (c w r : Int) (k : Kk) (arg : Int) (hk : okK k) (hb : bI arg ∧ bI row ∧ bI c ∧ bI w) : ∃ L, callT E 25 [.ptr 0 0 0 0, .agg [.i (.v (.int .i64 (11))), .i (.v (.int .i64 arg))]] [.box (mcK row (.sl 3 (rowsG l) false) c w r k)] = some (.tup [], .box (mcK row (.sl 3 (rowsG l) false) (simK row l c w k (11) arg).1 (simK row l c w k (11) arg).2.1 r (simK row l c w k (11) arg).2.2) :: L) := by
  have hnv : ¬ isV 11 := by decide
  have h1 := fun T => ik37_N row (.sl 3 (rowsG l) false) c w r k 11 arg hnv T
  have b0 := popV_b hk
  have h2 := fun T => ik24_K row (.sl 3 (rowsG l) false) c w r k hk T
  have b1 := popV_b (popK_ok hk)
  have h3 := fun T => ik24_K row (.sl 3 (rowsG l) false) c w r (popK k) (popK_ok hk) T
  have h5 := fun T => ik39_K row (.sl 3 (rowsG l) false) c w r (popK (popK k)) (twoS 11 (popV (popK k)) (popV k)) (twoS_b 11 b1 b0) (popK_ok (popK_ok hk)) T
  rw [show twoS 11 (popV (popK k)) (popV k) = (if popV (popK k) = popV k then 1 else 0) from rfl] at h5
  have h4 := fun H => ik53 (popV (popK k)) (popV k) H
  have h6 : simK row l c w k 11 arg = (c, w, pushK (popK (popK k)) (if popV (popK k) = popV k then 1 else 0)) := by simp only [simK, if_neg hnv]; rfl
  rw [h6]
  simp only
  generalize (if popV (popK k) = popV k then 1 else 0) = y at *
  generalize popV (popK k) = a at *
  generalize popV k = b at *
  rw [callT_eq Tryd.func25 rfl fok25 (by simp [Tryd.ntmps25])]
  simp (disch := first | omega | (simp only [vlen]; omega)) only [vall, List.take_of_length_le, gB, gcW, gcR, posIn, renA, renL, Chunk.ren, Chunk.refs, evOpD, touchD, stepC, isFresh, nFresh, freshOf, mkR, hole, evL, evH, opd, get, putD, ofVal, cellOf, loadE, behind, lenE, idxAddrE, idxE, lookE, lookM, addPtr, intE, strE, unE, convE, AV.int, AV.bool, AV.str, ivs, take, frameOf, firstRegion, refsA, refsL, one, cellsA, floatOk, apartT, List.map, if_true, if_false, E_P, E_glob0, E_glob1, reduceCtorEq, beq_self_eq_true, ↓reduceIte, Nat.reduceEqDiff, cond_true, cond_false, Nat.reduceAdd, Nat.reduceSub, Nat.reduceMul, Nat.reduceLT, Nat.reduceLeDiff, Int.reduceToNat, Int.reduceLT, Int.reduceLE, Option.getD, Int.reduceMul, Int.reduceAdd, List.drop, List.take, Nat.reduceBEq, List.isEmpty, Int.reduceEq, Int.reduceNe, Int.reduceNeg, Int.reduceGT, Int.reduceGE, beq_true, beq_false, UInt8.reduceToNat, eqE, eq_self, foldE, maxE, minE, fillA, over, chop, List.replicate, leavesOk, leafOk, cellsEq, cellEq, E_byref, en25, op_lookup, ca53, ik38, h1, h2, h3, h4, h5, mcK_cn, mcK_0, mcK_1, mcK_2, mcK_3]
  exact ⟨_, rfl⟩
theorem s_12 (row : Int) (l : List Gl) (hg : okG l) (c w r : Int) (k : Kk) (arg : Int) (hk : okK k) (hb : bI arg ∧ bI row ∧ bI c ∧ bI w) : ∃ L, callT E 25 [.ptr 0 0 0 0, .agg [.i (.v (.int .i64 (12))), .i (.v (.int .i64 arg))]] [.box (mcK row (.sl 3 (rowsG l) false) c w r k)] = some (.tup [], .box (mcK row (.sl 3 (rowsG l) false) (simK row l c w k (12) arg).1 (simK row l c w k (12) arg).2.1 r (simK row l c w k (12) arg).2.2) :: L) := by
  have hnv : ¬ isV 12 := by decide
  have h1 := fun T => ik37_N row (.sl 3 (rowsG l) false) c w r k 12 arg hnv T
  have b0 := popV_b hk
  have h2 := fun T => ik24_K row (.sl 3 (rowsG l) false) c w r k hk T
  have b1 := popV_b (popK_ok hk)
  have h3 := fun T => ik24_K row (.sl 3 (rowsG l) false) c w r (popK k) (popK_ok hk) T
  have h5 := fun T => ik39_K row (.sl 3 (rowsG l) false) c w r (popK (popK k)) (twoS 12 (popV (popK k)) (popV k)) (twoS_b 12 b1 b0) (popK_ok (popK_ok hk)) T
  rw [show twoS 12 (popV (popK k)) (popV k) = (if popV (popK k) < popV k then 1 else 0) from rfl] at h5
  have h4 := fun H => ik54 (popV (popK k)) (popV k) H
  have h6 : simK row l c w k 12 arg = (c, w, pushK (popK (popK k)) (if popV (popK k) < popV k then 1 else 0)) := by simp only [simK, if_neg hnv]; rfl
  rw [h6]
  simp only
  generalize (if popV (popK k) < popV k then 1 else 0) = y at *
  generalize popV (popK k) = a at *
  generalize popV k = b at *
  rw [callT_eq Tryd.func25 rfl fok25 (by simp [Tryd.ntmps25])]
  simp (disch := first | omega | (simp only [vlen]; omega)) only [vall, List.take_of_length_le, gB, gcW, gcR, posIn, renA, renL, Chunk.ren, Chunk.refs, evOpD, touchD, stepC, isFresh, nFresh, freshOf, mkR, hole, evL, evH, opd, get, putD, ofVal, cellOf, loadE, behind, lenE, idxAddrE, idxE, lookE, lookM, addPtr, intE, strE, unE, convE, AV.int, AV.bool, AV.str, ivs, take, frameOf, firstRegion, refsA, refsL, one, cellsA, floatOk, apartT, List.map, if_true, if_false, E_P, E_glob0, E_glob1, reduceCtorEq, beq_self_eq_true, ↓reduceIte, Nat.reduceEqDiff, cond_true, cond_false, Nat.reduceAdd, Nat.reduceSub, Nat.reduceMul, Nat.reduceLT, Nat.reduceLeDiff, Int.reduceToNat, Int.reduceLT, Int.reduceLE, Option.getD, Int.reduceMul, Int.reduceAdd, List.drop, List.take, Nat.reduceBEq, List.isEmpty, Int.reduceEq, Int.reduceNe, Int.reduceNeg, Int.reduceGT, Int.reduceGE, beq_true, beq_false, UInt8.reduceToNat, eqE, eq_self, foldE, maxE, minE, fillA, over, chop, List.replicate, leavesOk, leafOk, cellsEq, cellEq, E_byref, en25, op_lookup, ca54, ik38, h1, h2, h3, h4, h5, mcK_cn, mcK_0, mcK_1, mcK_2, mcK_3]
  exact ⟨_, rfl⟩
theorem s_4 (row : Int) (l : List Gl) (hg : okG l) (c w r : Int) (k : Kk) (arg : Int) (hk : okK k) (hb : bI arg ∧ bI row ∧ bI c ∧ bI w) : ∃ L, callT E 25 [.ptr 0 0 0 0, .agg [.i (.v (.int .i64 (4))), .i (.v (.int .i64 arg))]] [.box (mcK row (.sl 3 (rowsG l) false) c w r k)] = some (.tup [], .box (mcK row (.sl 3 (rowsG l) false) (simK row l c w k (4) arg).1 (simK row l c w k (4) arg).2.1 r (simK row l c w k (4) arg).2.2) :: L) := by
  have hnv : ¬ isV 4 := by decide
  have h1 := fun T => ik37_N row (.sl 3 (rowsG l) false) c w r k 4 arg hnv T
  have b0 := popV_b hk
  have h2 := fun T => ik24_K row (.sl 3 (rowsG l) false) c w r k hk T
  have h3 := fun T => ik40 l hg (mcK row (.sl 3 (rowsG l) false) c w r (popK k)) (fun B H => mcK_cn B H) mcK_1 (mcK_len (popK_ok hk)) mcK_refs (popV k) T
  have h5 := fun T => ik39_K row (.sl 3 (rowsG l) false) c w r (popK k) (charS l (popV k)) (charS_b l (popV k)) (popK_ok hk) T
  have h6 : simK row l c w k 4 arg = (c, w, pushK (popK k) (charS l (popV k))) := by simp only [simK, if_neg hnv]; rfl
  rw [h6]
  simp only
  generalize charS l (popV k) = y at *
  generalize popV k = b at *
  rw [callT_eq Tryd.func25 rfl fok25 (by simp [Tryd.ntmps25])]
  simp (disch := first | omega | (simp only [vlen]; omega)) only [vall, List.take_of_length_le, gB, gcW, gcR, posIn, renA, renL, Chunk.ren, Chunk.refs, evOpD, touchD, stepC, isFresh, nFresh, freshOf, mkR, hole, evL, evH, opd, get, putD, ofVal, cellOf, loadE, behind, lenE, idxAddrE, idxE, lookE, lookM, addPtr, intE, strE, unE, convE, AV.int, AV.bool, AV.str, ivs, take, frameOf, firstRegion, refsA, refsL, one, cellsA, floatOk, apartT, List.map, if_true, if_false, E_P, E_glob0, E_glob1, reduceCtorEq, beq_self_eq_true, ↓reduceIte, Nat.reduceEqDiff, cond_true, cond_false, Nat.reduceAdd, Nat.reduceSub, Nat.reduceMul, Nat.reduceLT, Nat.reduceLeDiff, Int.reduceToNat, Int.reduceLT, Int.reduceLE, Option.getD, Int.reduceMul, Int.reduceAdd, List.drop, List.take, Nat.reduceBEq, List.isEmpty, Int.reduceEq, Int.reduceNe, Int.reduceNeg, Int.reduceGT, Int.reduceGE, beq_true, beq_false, UInt8.reduceToNat, eqE, eq_self, foldE, maxE, minE, fillA, over, chop, List.replicate, leavesOk, leafOk, cellsEq, cellEq, E_byref, en25, op_lookup, ik38, h1, h2, h3, h5, mcK_cn, mcK_0, mcK_1, mcK_2, mcK_3]
  exact ⟨_, rfl⟩
theorem s_5_in (row : Int) (l : List Gl) (hg : okG l) (c w r : Int) (k : Kk) (arg : Int) (hk : okK k) (hi : 0 ≤ popV k ∧ popV k < l.length) : ∃ L, callT E 25 [.ptr 0 0 0 0, .agg [.i (.v (.int .i64 5)), .i (.v (.int .i64 arg))]] [.box (mcK row (.sl 3 (rowsG l) false) c w r k)] = some (.tup [], .box (mcK row (.sl 3 (rowsG l) false) c w r (pushK (popK k) (l.getD (popV k).toNat ([], false, 0)).2.2)) :: L) := by
  have hnv : ¬ isV 5 := by decide
  have h1 := fun T => ik37_N row (.sl 3 (rowsG l) false) c w r k 5 arg hnv T
  have h2 := fun T => ik24_K row (.sl 3 (rowsG l) false) c w r k hk T
  have h3 := fun T => ik41_in l (by have := hg.1; omega) (mcK row (.sl 3 (rowsG l) false) c w r (popK k)) (fun B H => mcK_cn B H) mcK_1 (mcK_len (popK_ok hk)) mcK_refs (popV k) hi T
  have h5 := fun T => ik39_K row (.sl 3 (rowsG l) false) c w r (popK k) (l.getD (popV k).toNat ([], false, 0)).2.2 (okG_at hg _).2 (popK_ok hk) T
  generalize l.getD (popV k).toNat ([], false, 0) = y at *
  generalize popV k = b at *
  obtain ⟨y1, y2, y3⟩ := y
  simp only at h3 h5 ⊢
  rw [callT_eq Tryd.func25 rfl fok25 (by simp [Tryd.ntmps25])]
  simp (disch := first | omega | (simp only [vlen]; omega)) only [vall, List.take_of_length_le, gB, gcW, gcR, posIn, renA, renL, Chunk.ren, Chunk.refs, evOpD, touchD, stepC, isFresh, nFresh, freshOf, mkR, hole, evL, evH, opd, get, putD, ofVal, cellOf, loadE, behind, lenE, idxAddrE, idxE, lookE, lookM, addPtr, intE, strE, unE, convE, AV.int, AV.bool, AV.str, ivs, take, frameOf, firstRegion, refsA, refsL, one, cellsA, floatOk, apartT, List.map, if_true, if_false, E_P, E_glob0, E_glob1, reduceCtorEq, beq_self_eq_true, ↓reduceIte, Nat.reduceEqDiff, cond_true, cond_false, Nat.reduceAdd, Nat.reduceSub, Nat.reduceMul, Nat.reduceLT, Nat.reduceLeDiff, Int.reduceToNat, Int.reduceLT, Int.reduceLE, Option.getD, Int.reduceMul, Int.reduceAdd, List.drop, List.take, Nat.reduceBEq, List.isEmpty, Int.reduceEq, Int.reduceNe, Int.reduceNeg, Int.reduceGT, Int.reduceGE, beq_true, beq_false, UInt8.reduceToNat, eqE, eq_self, foldE, maxE, minE, fillA, over, chop, List.replicate, leavesOk, leafOk, cellsEq, cellEq, E_byref, en25, op_lookup, ik38, h1, h2, h3, h5, mcK_cn, mcK_0, mcK_1, mcK_2, mcK_3]
  exact ⟨_, rfl⟩
theorem s_5_out (row : Int) (l : List Gl) (hg : okG l) (c w r : Int) (k : Kk) (arg : Int) (hk : okK k) (hi : popV k < 0 ∨ (l.length : Int) ≤ popV k) : ∃ L, callT E 25 [.ptr 0 0 0 0, .agg [.i (.v (.int .i64 5)), .i (.v (.int .i64 arg))]] [.box (mcK row (.sl 3 (rowsG l) false) c w r k)] = some (.tup [], .box (mcK row (.sl 3 (rowsG l) false) c w r (pushK (popK k) 0)) :: L) := by
  have hnv : ¬ isV 5 := by decide
  have h1 := fun T => ik37_N row (.sl 3 (rowsG l) false) c w r k 5 arg hnv T
  have h2 := fun T => ik24_K row (.sl 3 (rowsG l) false) c w r k hk T
  have h3 := fun T => ik41_out l (by have := hg.1; omega) (mcK row (.sl 3 (rowsG l) false) c w r (popK k)) (fun B H => mcK_cn B H) mcK_1 (mcK_len (popK_ok hk)) mcK_refs (popV k) hi T
  have h5 := fun T => ik39_K row (.sl 3 (rowsG l) false) c w r (popK k) 0 (by decide) (popK_ok hk) T
  generalize popV k = b at *
  rw [callT_eq Tryd.func25 rfl fok25 (by simp [Tryd.ntmps25])]
  simp (disch := first | omega | (simp only [vlen]; omega)) only [vall, List.take_of_length_le, gB, gcW, gcR, posIn, renA, renL, Chunk.ren, Chunk.refs, evOpD, touchD, stepC, isFresh, nFresh, freshOf, mkR, hole, evL, evH, opd, get, putD, ofVal, cellOf, loadE, behind, lenE, idxAddrE, idxE, lookE, lookM, addPtr, intE, strE, unE, convE, AV.int, AV.bool, AV.str, ivs, take, frameOf, firstRegion, refsA, refsL, one, cellsA, floatOk, apartT, List.map, if_true, if_false, E_P, E_glob0, E_glob1, reduceCtorEq, beq_self_eq_true, ↓reduceIte, Nat.reduceEqDiff, cond_true, cond_false, Nat.reduceAdd, Nat.reduceSub, Nat.reduceMul, Nat.reduceLT, Nat.reduceLeDiff, Int.reduceToNat, Int.reduceLT, Int.reduceLE, Option.getD, Int.reduceMul, Int.reduceAdd, List.drop, List.take, Nat.reduceBEq, List.isEmpty, Int.reduceEq, Int.reduceNe, Int.reduceNeg, Int.reduceGT, Int.reduceGE, beq_true, beq_false, UInt8.reduceToNat, eqE, eq_self, foldE, maxE, minE, fillA, over, chop, List.replicate, leavesOk, leafOk, cellsEq, cellEq, E_byref, en25, op_lookup, ik38, h1, h2, h3, h5, mcK_cn, mcK_0, mcK_1, mcK_2, mcK_3]
  exact ⟨_, rfl⟩
theorem s_5 (row : Int) (l : List Gl) (hg : okG l) (c w r : Int) (k : Kk) (arg : Int) (hk : okK k) (hb : bI arg ∧ bI row ∧ bI c ∧ bI w) : ∃ L, callT E 25 [.ptr 0 0 0 0, .agg [.i (.v (.int .i64 (5))), .i (.v (.int .i64 arg))]] [.box (mcK row (.sl 3 (rowsG l) false) c w r k)] = some (.tup [], .box (mcK row (.sl 3 (rowsG l) false) (simK row l c w k (5) arg).1 (simK row l c w k (5) arg).2.1 r (simK row l c w k (5) arg).2.2) :: L) := by
  have h6 : simK row l c w k 5 arg = (c, w, pushK (popK k) (styleV l (popV k))) := by simp only [simK, if_neg (show ¬ isV 5 from by decide)]; rfl
  rw [h6]
  unfold styleV
  by_cases hi : popV k < 0 ∨ (l.length : Int) ≤ popV k
  · rw [if_pos hi]
    exact s_5_out row l hg c w r k arg hk hi
  · rw [if_neg hi]
    exact s_5_in row l hg c w r k arg hk (by omega)
theorem s_13 (row : Int) (l : List Gl) (hg : okG l) (c w r : Int) (k : Kk) (arg : Int) (hk : okK k) (hb : bI arg ∧ bI row ∧ bI c ∧ bI w) : ∃ L, callT E 25 [.ptr 0 0 0 0, .agg [.i (.v (.int .i64 (13))), .i (.v (.int .i64 arg))]] [.box (mcK row (.sl 3 (rowsG l) false) c w r k)] = some (.tup [], .box (mcK row (.sl 3 (rowsG l) false) (simK row l c w k (13) arg).1 (simK row l c w k (13) arg).2.1 r (simK row l c w k (13) arg).2.2) :: L) := by
  have hnv : ¬ isV 13 := by decide
  have h1 := fun T => ik37_N row (.sl 3 (rowsG l) false) c w r k 13 arg hnv T
  have h2 := fun T => ik24_K row (.sl 3 (rowsG l) false) c w r k hk T
  have h6 : simK row l c w k 13 arg = (c, w, pushK (popK k) (if popV k = 0 then 1 else 0)) := by simp only [simK, if_neg hnv]; rfl
  rw [h6]
  simp only
  by_cases h0 : popV k = 0
  · have ht := fun H => ik42 true H
    rw [if_pos rfl] at ht
    rw [if_pos h0]
    have h5 := fun T => ik39_K row (.sl 3 (rowsG l) false) c w r (popK k) 1 (by decide) (popK_ok hk) T
    rw [h0] at h2
    rw [callT_eq Tryd.func25 rfl fok25 (by simp [Tryd.ntmps25])]
    simp (disch := first | omega | (simp only [vlen]; omega)) only [vall, List.take_of_length_le, gB, gcW, gcR, posIn, renA, renL, Chunk.ren, Chunk.refs, evOpD, touchD, stepC, isFresh, nFresh, freshOf, mkR, hole, evL, evH, opd, get, putD, ofVal, cellOf, loadE, behind, lenE, idxAddrE, idxE, lookE, lookM, addPtr, intE, strE, unE, convE, AV.int, AV.bool, AV.str, ivs, take, frameOf, firstRegion, refsA, refsL, one, cellsA, floatOk, apartT, List.map, if_true, if_false, E_P, E_glob0, E_glob1, reduceCtorEq, beq_self_eq_true, ↓reduceIte, Nat.reduceEqDiff, cond_true, cond_false, Nat.reduceAdd, Nat.reduceSub, Nat.reduceMul, Nat.reduceLT, Nat.reduceLeDiff, Int.reduceToNat, Int.reduceLT, Int.reduceLE, Option.getD, Int.reduceMul, Int.reduceAdd, List.drop, List.take, Nat.reduceBEq, List.isEmpty, Int.reduceEq, Int.reduceNe, Int.reduceNeg, Int.reduceGT, Int.reduceGE, beq_true, beq_false, UInt8.reduceToNat, eqE, eq_self, foldE, maxE, minE, fillA, over, chop, List.replicate, leavesOk, leafOk, cellsEq, cellEq, E_byref, en25, op_lookup, ik38, h1, h2, ht, h5, mcK_cn, mcK_0, mcK_1, mcK_2, mcK_3]
    exact ⟨_, rfl⟩
  · have ht := fun H => ik42 false H
    rw [if_neg (by decide)] at ht
    rw [if_neg h0]
    have h5 := fun T => ik39_K row (.sl 3 (rowsG l) false) c w r (popK k) 0 (by decide) (popK_ok hk) T
    generalize popV k = b at *
    rw [callT_eq Tryd.func25 rfl fok25 (by simp [Tryd.ntmps25])]
    simp (disch := first | omega | (simp only [vlen]; omega)) only [vall, List.take_of_length_le, gB, gcW, gcR, posIn, renA, renL, Chunk.ren, Chunk.refs, evOpD, touchD, stepC, isFresh, nFresh, freshOf, mkR, hole, evL, evH, opd, get, putD, ofVal, cellOf, loadE, behind, lenE, idxAddrE, idxE, lookE, lookM, addPtr, intE, strE, unE, convE, AV.int, AV.bool, AV.str, ivs, take, frameOf, firstRegion, refsA, refsL, one, cellsA, floatOk, apartT, List.map, if_true, if_false, E_P, E_glob0, E_glob1, reduceCtorEq, beq_self_eq_true, ↓reduceIte, Nat.reduceEqDiff, cond_true, cond_false, Nat.reduceAdd, Nat.reduceSub, Nat.reduceMul, Nat.reduceLT, Nat.reduceLeDiff, Int.reduceToNat, Int.reduceLT, Int.reduceLE, Option.getD, Int.reduceMul, Int.reduceAdd, List.drop, List.take, Nat.reduceBEq, List.isEmpty, Int.reduceEq, Int.reduceNe, Int.reduceNeg, Int.reduceGT, Int.reduceGE, beq_true, beq_false, UInt8.reduceToNat, eqE, eq_self, foldE, maxE, minE, fillA, over, chop, List.replicate, leavesOk, leafOk, cellsEq, cellEq, E_byref, en25, op_lookup, ik38, h0, h1, h2, ht, h5, mcK_cn, mcK_0, mcK_1, mcK_2, mcK_3]
    exact ⟨_, rfl⟩
theorem s_14 (row : Int) (l : List Gl) (hg : okG l) (c w r : Int) (k : Kk) (arg : Int) (hk : okK k) (hb : bI arg ∧ bI row ∧ bI c ∧ bI w) : ∃ L, callT E 25 [.ptr 0 0 0 0, .agg [.i (.v (.int .i64 (14))), .i (.v (.int .i64 arg))]] [.box (mcK row (.sl 3 (rowsG l) false) c w r k)] = some (.tup [], .box (mcK row (.sl 3 (rowsG l) false) (simK row l c w k (14) arg).1 (simK row l c w k (14) arg).2.1 r (simK row l c w k (14) arg).2.2) :: L) := by
  have hnv : ¬ isV 14 := by decide
  have h1 := fun T => ik37_N row (.sl 3 (rowsG l) false) c w r k 14 arg hnv T
  have b0 := popV_b hk
  have h2 := fun T => ik24_K row (.sl 3 (rowsG l) false) c w r k hk T
  have h3 := fun T => ik39_K row (.sl 3 (rowsG l) false) c w r (popK k) (popV k) (by omega) (popK_ok hk) T
  have h5 := fun T => ik39_K row (.sl 3 (rowsG l) false) c w r (pushK (popK k) (popV k)) (popV k) (by omega) (pushK_ok (popK_ok hk) _) T
  have h6 : simK row l c w k 14 arg = (c, w, pushK (pushK (popK k) (popV k)) (popV k)) := by simp only [simK, if_neg hnv]; rfl
  rw [h6]
  simp only
  generalize hk2 : pushK (popK k) (popV k) = k2 at *
  generalize popV k = b at *
  rw [callT_eq Tryd.func25 rfl fok25 (by simp [Tryd.ntmps25])]
  simp (disch := first | omega | (simp only [vlen]; omega)) only [vall, List.take_of_length_le, gB, gcW, gcR, posIn, renA, renL, Chunk.ren, Chunk.refs, evOpD, touchD, stepC, isFresh, nFresh, freshOf, mkR, hole, evL, evH, opd, get, putD, ofVal, cellOf, loadE, behind, lenE, idxAddrE, idxE, lookE, lookM, addPtr, intE, strE, unE, convE, AV.int, AV.bool, AV.str, ivs, take, frameOf, firstRegion, refsA, refsL, one, cellsA, floatOk, apartT, List.map, if_true, if_false, E_P, E_glob0, E_glob1, reduceCtorEq, beq_self_eq_true, ↓reduceIte, Nat.reduceEqDiff, cond_true, cond_false, Nat.reduceAdd, Nat.reduceSub, Nat.reduceMul, Nat.reduceLT, Nat.reduceLeDiff, Int.reduceToNat, Int.reduceLT, Int.reduceLE, Option.getD, Int.reduceMul, Int.reduceAdd, List.drop, List.take, Nat.reduceBEq, List.isEmpty, Int.reduceEq, Int.reduceNe, Int.reduceNeg, Int.reduceGT, Int.reduceGE, beq_true, beq_false, UInt8.reduceToNat, eqE, eq_self, foldE, maxE, minE, fillA, over, chop, List.replicate, leavesOk, leafOk, cellsEq, cellEq, E_byref, en25, op_lookup, ik38, h1, h2, h3, h5, mcK_cn, mcK_0, mcK_1, mcK_2, mcK_3]
  exact ⟨_, rfl⟩
theorem s_16 (row : Int) (l : List Gl) (hg : okG l) (c w r : Int) (k : Kk) (arg : Int) (hk : okK k) (hb : bI arg ∧ bI row ∧ bI c ∧ bI w) : ∃ L, callT E 25 [.ptr 0 0 0 0, .agg [.i (.v (.int .i64 (16))), .i (.v (.int .i64 arg))]] [.box (mcK row (.sl 3 (rowsG l) false) c w r k)] = some (.tup [], .box (mcK row (.sl 3 (rowsG l) false) (simK row l c w k (16) arg).1 (simK row l c w k (16) arg).2.1 r (simK row l c w k (16) arg).2.2) :: L) := by
  have hnv : ¬ isV 16 := by decide
  have h1 := fun T => ik37_N row (.sl 3 (rowsG l) false) c w r k 16 arg hnv T
  have b0 := popV_b hk
  have h2 := fun T => ik24_K row (.sl 3 (rowsG l) false) c w r k hk T
  have b1 := popV_b (popK_ok hk)
  have h3 := fun T => ik24_K row (.sl 3 (rowsG l) false) c w r (popK k) (popK_ok hk) T
  have h4 := fun T => ik39_K row (.sl 3 (rowsG l) false) c w r (popK (popK k)) (popV k) (by omega) (popK_ok (popK_ok hk)) T
  have h5 := fun T => ik39_K row (.sl 3 (rowsG l) false) c w r (pushK (popK (popK k)) (popV k)) (popV (popK k)) (by omega) (pushK_ok (popK_ok (popK_ok hk)) _) T
  have h6 : simK row l c w k 16 arg = (c, w, pushK (pushK (popK (popK k)) (popV k)) (popV (popK k))) := by simp only [simK, if_neg hnv]; rfl
  rw [h6]
  simp only
  generalize hk2 : pushK (popK (popK k)) (popV k) = k2 at *
  generalize popV (popK k) = a at *
  generalize popV k = b at *
  rw [callT_eq Tryd.func25 rfl fok25 (by simp [Tryd.ntmps25])]
  simp (disch := first | omega | (simp only [vlen]; omega)) only [vall, List.take_of_length_le, gB, gcW, gcR, posIn, renA, renL, Chunk.ren, Chunk.refs, evOpD, touchD, stepC, isFresh, nFresh, freshOf, mkR, hole, evL, evH, opd, get, putD, ofVal, cellOf, loadE, behind, lenE, idxAddrE, idxE, lookE, lookM, addPtr, intE, strE, unE, convE, AV.int, AV.bool, AV.str, ivs, take, frameOf, firstRegion, refsA, refsL, one, cellsA, floatOk, apartT, List.map, if_true, if_false, E_P, E_glob0, E_glob1, reduceCtorEq, beq_self_eq_true, ↓reduceIte, Nat.reduceEqDiff, cond_true, cond_false, Nat.reduceAdd, Nat.reduceSub, Nat.reduceMul, Nat.reduceLT, Nat.reduceLeDiff, Int.reduceToNat, Int.reduceLT, Int.reduceLE, Option.getD, Int.reduceMul, Int.reduceAdd, List.drop, List.take, Nat.reduceBEq, List.isEmpty, Int.reduceEq, Int.reduceNe, Int.reduceNeg, Int.reduceGT, Int.reduceGE, beq_true, beq_false, UInt8.reduceToNat, eqE, eq_self, foldE, maxE, minE, fillA, over, chop, List.replicate, leavesOk, leafOk, cellsEq, cellEq, E_byref, en25, op_lookup, ik38, h1, h2, h3, h4, h5, mcK_cn, mcK_0, mcK_1, mcK_2, mcK_3]
  exact ⟨_, rfl⟩
theorem s_15 (row : Int) (l : List Gl) (hg : okG l) (c w r : Int) (k : Kk) (arg : Int) (hk : okK k) (hb : bI arg ∧ bI row ∧ bI c ∧ bI w) : ∃ L, callT E 25 [.ptr 0 0 0 0, .agg [.i (.v (.int .i64 (15))), .i (.v (.int .i64 arg))]] [.box (mcK row (.sl 3 (rowsG l) false) c w r k)] = some (.tup [], .box (mcK row (.sl 3 (rowsG l) false) (simK row l c w k (15) arg).1 (simK row l c w k (15) arg).2.1 r (simK row l c w k (15) arg).2.2) :: L) := by
  have hnv : ¬ isV 15 := by decide
  have h1 := fun T => ik37_N row (.sl 3 (rowsG l) false) c w r k 15 arg hnv T
  have b0 := popV_b hk
  have h2 := fun T => ik24_K row (.sl 3 (rowsG l) false) c w r k hk T
  have h6 : simK row l c w k 15 arg = (c, w, popK k) := by simp only [simK, if_neg hnv]; rfl
  rw [h6]
  simp only
  generalize popV k = b at *
  rw [callT_eq Tryd.func25 rfl fok25 (by simp [Tryd.ntmps25])]
  simp (disch := first | omega | (simp only [vlen]; omega)) only [vall, List.take_of_length_le, gB, gcW, gcR, posIn, renA, renL, Chunk.ren, Chunk.refs, evOpD, touchD, stepC, isFresh, nFresh, freshOf, mkR, hole, evL, evH, opd, get, putD, ofVal, cellOf, loadE, behind, lenE, idxAddrE, idxE, lookE, lookM, addPtr, intE, strE, unE, convE, AV.int, AV.bool, AV.str, ivs, take, frameOf, firstRegion, refsA, refsL, one, cellsA, floatOk, apartT, List.map, if_true, if_false, E_P, E_glob0, E_glob1, reduceCtorEq, beq_self_eq_true, ↓reduceIte, Nat.reduceEqDiff, cond_true, cond_false, Nat.reduceAdd, Nat.reduceSub, Nat.reduceMul, Nat.reduceLT, Nat.reduceLeDiff, Int.reduceToNat, Int.reduceLT, Int.reduceLE, Option.getD, Int.reduceMul, Int.reduceAdd, List.drop, List.take, Nat.reduceBEq, List.isEmpty, Int.reduceEq, Int.reduceNe, Int.reduceNeg, Int.reduceGT, Int.reduceGE, beq_true, beq_false, UInt8.reduceToNat, eqE, eq_self, foldE, maxE, minE, fillA, over, chop, List.replicate, leavesOk, leafOk, cellsEq, cellEq, E_byref, en25, op_lookup, ik38, h1, h2, mcK_cn, mcK_0, mcK_1, mcK_2, mcK_3]
  exact ⟨_, rfl⟩
theorem s_19 (row : Int) (l : List Gl) (hg : okG l) (c w r : Int) (k : Kk) (arg : Int) (hk : okK k) (hb : bI arg ∧ bI row ∧ bI c ∧ bI w) : ∃ L, callT E 25 [.ptr 0 0 0 0, .agg [.i (.v (.int .i64 (19))), .i (.v (.int .i64 arg))]] [.box (mcK row (.sl 3 (rowsG l) false) c w r k)] = some (.tup [], .box (mcK row (.sl 3 (rowsG l) false) (simK row l c w k (19) arg).1 (simK row l c w k (19) arg).2.1 r (simK row l c w k (19) arg).2.2) :: L) := by
  have hnv : ¬ isV 19 := by decide
  have h1 := fun T => ik37_N row (.sl 3 (rowsG l) false) c w r k 19 arg hnv T
  have b0 := popV_b hk
  have h2 := fun T => ik24_K row (.sl 3 (rowsG l) false) c w r k hk T
  have hlen := mcK_len (row := row) (g := .sl 3 (rowsG l) false) (c := c) (w := w) (r := r) (popK_ok hk)
  by_cases h3 : 1 ≤ popV k
  · by_cases h4 : popV k ≤ 3
    · have h6 : simK row l c w k 19 arg = (popV k, w, popK k) := by
        have : simK row l c w k 19 arg = (if 1 ≤ popV k ∧ popV k ≤ 3 then popV k else c, w, popK k) := by simp only [simK, if_neg hnv]; rfl
        rw [this, if_pos ⟨h3, h4⟩]
      rw [h6]
      simp only
      have hput := mcK_put2 (row := row) (g := .sl 3 (rowsG l) false) (c := c) (w := w) (r := r) (k := popK k) (popV k)
      generalize popV k = b at *
      rw [callT_eq Tryd.func25 rfl fok25 (by simp [Tryd.ntmps25])]
      simp (disch := first | omega | (simp only [vlen, hlen]; omega)) only [vall, List.take_of_length_le, gB, gcW, gcR, posIn, renA, renL, Chunk.ren, Chunk.refs, evOpD, touchD, stepC, isFresh, nFresh, freshOf, mkR, hole, evL, evH, opd, get, putD, ofVal, cellOf, loadE, behind, lenE, idxAddrE, idxE, lookE, lookM, addPtr, intE, strE, unE, convE, AV.int, AV.bool, AV.str, ivs, take, frameOf, firstRegion, refsA, refsL, one, cellsA, floatOk, apartT, List.map, if_true, if_false, E_P, E_glob0, E_glob1, reduceCtorEq, beq_self_eq_true, ↓reduceIte, Nat.reduceEqDiff, cond_true, cond_false, Nat.reduceAdd, Nat.reduceSub, Nat.reduceMul, Nat.reduceLT, Nat.reduceLeDiff, Int.reduceToNat, Int.reduceLT, Int.reduceLE, Option.getD, Int.reduceMul, Int.reduceAdd, List.drop, List.take, Nat.reduceBEq, List.isEmpty, Int.reduceEq, Int.reduceNe, Int.reduceNeg, Int.reduceGT, Int.reduceGE, beq_true, beq_false, UInt8.reduceToNat, eqE, eq_self, foldE, maxE, minE, fillA, over, chop, List.replicate, leavesOk, leafOk, cellsEq, cellEq, E_byref, en25, op_lookup, ik38, h1, h2, h3, h4, hput, hlen, mcK_cn, mcK_0, mcK_1, mcK_2, mcK_3]
      exact ⟨_, rfl⟩
    · have h6 : simK row l c w k 19 arg = (c, w, popK k) := by
        have : simK row l c w k 19 arg = (if 1 ≤ popV k ∧ popV k ≤ 3 then popV k else c, w, popK k) := by simp only [simK, if_neg hnv]; rfl
        rw [this, if_neg (fun h => h4 h.2)]
      rw [h6]
      simp only
      generalize popV k = b at *
      rw [callT_eq Tryd.func25 rfl fok25 (by simp [Tryd.ntmps25])]
      simp (disch := first | omega | (simp only [vlen]; omega)) only [vall, List.take_of_length_le, gB, gcW, gcR, posIn, renA, renL, Chunk.ren, Chunk.refs, evOpD, touchD, stepC, isFresh, nFresh, freshOf, mkR, hole, evL, evH, opd, get, putD, ofVal, cellOf, loadE, behind, lenE, idxAddrE, idxE, lookE, lookM, addPtr, intE, strE, unE, convE, AV.int, AV.bool, AV.str, ivs, take, frameOf, firstRegion, refsA, refsL, one, cellsA, floatOk, apartT, List.map, if_true, if_false, E_P, E_glob0, E_glob1, reduceCtorEq, beq_self_eq_true, ↓reduceIte, Nat.reduceEqDiff, cond_true, cond_false, Nat.reduceAdd, Nat.reduceSub, Nat.reduceMul, Nat.reduceLT, Nat.reduceLeDiff, Int.reduceToNat, Int.reduceLT, Int.reduceLE, Option.getD, Int.reduceMul, Int.reduceAdd, List.drop, List.take, Nat.reduceBEq, List.isEmpty, Int.reduceEq, Int.reduceNe, Int.reduceNeg, Int.reduceGT, Int.reduceGE, beq_true, beq_false, UInt8.reduceToNat, eqE, eq_self, foldE, maxE, minE, fillA, over, chop, List.replicate, leavesOk, leafOk, cellsEq, cellEq, E_byref, en25, op_lookup, ik38, h1, h2, h3, h4, mcK_cn, mcK_0, mcK_1, mcK_2, mcK_3]
      exact ⟨_, rfl⟩
  · have h6 : simK row l c w k 19 arg = (c, w, popK k) := by
      have : simK row l c w k 19 arg = (if 1 ≤ popV k ∧ popV k ≤ 3 then popV k else c, w, popK k) := by simp only [simK, if_neg hnv]; rfl
      rw [this, if_neg (fun h => h3 h.1)]
    rw [h6]
    simp only
    generalize popV k = b at *
    rw [callT_eq Tryd.func25 rfl fok25 (by simp [Tryd.ntmps25])]
    simp (disch := first | omega | (simp only [vlen]; omega)) only [vall, List.take_of_length_le, gB, gcW, gcR, posIn, renA, renL, Chunk.ren, Chunk.refs, evOpD, touchD, stepC, isFresh, nFresh, freshOf, mkR, hole, evL, evH, opd, get, putD, ofVal, cellOf, loadE, behind, lenE, idxAddrE, idxE, lookE, lookM, addPtr, intE, strE, unE, convE, AV.int, AV.bool, AV.str, ivs, take, frameOf, firstRegion, refsA, refsL, one, cellsA, floatOk, apartT, List.map, if_true, if_false, E_P, E_glob0, E_glob1, reduceCtorEq, beq_self_eq_true, ↓reduceIte, Nat.reduceEqDiff, cond_true, cond_false, Nat.reduceAdd, Nat.reduceSub, Nat.reduceMul, Nat.reduceLT, Nat.reduceLeDiff, Int.reduceToNat, Int.reduceLT, Int.reduceLE, Option.getD, Int.reduceMul, Int.reduceAdd, List.drop, List.take, Nat.reduceBEq, List.isEmpty, Int.reduceEq, Int.reduceNe, Int.reduceNeg, Int.reduceGT, Int.reduceGE, beq_true, beq_false, UInt8.reduceToNat, eqE, eq_self, foldE, maxE, minE, fillA, over, chop, List.replicate, leavesOk, leafOk, cellsEq, cellEq, E_byref, en25, op_lookup, ik38, h1, h2, h3, mcK_cn, mcK_0, mcK_1, mcK_2, mcK_3]
    exact ⟨_, rfl⟩
theorem s_20 (row : Int) (l : List Gl) (hg : okG l) (c w r : Int) (k : Kk) (arg : Int) (hk : okK k) (hb : bI arg ∧ bI row ∧ bI c ∧ bI w) : ∃ L, callT E 25 [.ptr 0 0 0 0, .agg [.i (.v (.int .i64 (20))), .i (.v (.int .i64 arg))]] [.box (mcK row (.sl 3 (rowsG l) false) c w r k)] = some (.tup [], .box (mcK row (.sl 3 (rowsG l) false) (simK row l c w k (20) arg).1 (simK row l c w k (20) arg).2.1 r (simK row l c w k (20) arg).2.2) :: L) := by
  have hnv : ¬ isV 20 := by decide
  have h1 := fun T => ik37_N row (.sl 3 (rowsG l) false) c w r k 20 arg hnv T
  have b0 := popV_b hk
  have h2 := fun T => ik24_K row (.sl 3 (rowsG l) false) c w r k hk T
  have hlen := mcK_len (row := row) (g := .sl 3 (rowsG l) false) (c := c) (w := w) (r := r) (popK_ok hk)
  by_cases h3 : 0 ≤ popV k
  · by_cases h4 : popV k ≤ 60000
    · have h6 : simK row l c w k 20 arg = (c, popV k, popK k) := by
        have : simK row l c w k 20 arg = (c, if 0 ≤ popV k ∧ popV k ≤ 60000 then popV k else w, popK k) := by simp only [simK, if_neg hnv]; rfl
        rw [this, if_pos ⟨h3, h4⟩]
      rw [h6]
      simp only
      have hput := mcK_put3 (row := row) (g := .sl 3 (rowsG l) false) (c := c) (w := w) (r := r) (k := popK k) (popV k)
      generalize popV k = b at *
      rw [callT_eq Tryd.func25 rfl fok25 (by simp [Tryd.ntmps25])]
      simp (disch := first | omega | (simp only [vlen, hlen]; omega)) only [vall, List.take_of_length_le, gB, gcW, gcR, posIn, renA, renL, Chunk.ren, Chunk.refs, evOpD, touchD, stepC, isFresh, nFresh, freshOf, mkR, hole, evL, evH, opd, get, putD, ofVal, cellOf, loadE, behind, lenE, idxAddrE, idxE, lookE, lookM, addPtr, intE, strE, unE, convE, AV.int, AV.bool, AV.str, ivs, take, frameOf, firstRegion, refsA, refsL, one, cellsA, floatOk, apartT, List.map, if_true, if_false, E_P, E_glob0, E_glob1, reduceCtorEq, beq_self_eq_true, ↓reduceIte, Nat.reduceEqDiff, cond_true, cond_false, Nat.reduceAdd, Nat.reduceSub, Nat.reduceMul, Nat.reduceLT, Nat.reduceLeDiff, Int.reduceToNat, Int.reduceLT, Int.reduceLE, Option.getD, Int.reduceMul, Int.reduceAdd, List.drop, List.take, Nat.reduceBEq, List.isEmpty, Int.reduceEq, Int.reduceNe, Int.reduceNeg, Int.reduceGT, Int.reduceGE, beq_true, beq_false, UInt8.reduceToNat, eqE, eq_self, foldE, maxE, minE, fillA, over, chop, List.replicate, leavesOk, leafOk, cellsEq, cellEq, E_byref, en25, op_lookup, ik38, h1, h2, h3, h4, hput, hlen, mcK_cn, mcK_0, mcK_1, mcK_2, mcK_3]
      exact ⟨_, rfl⟩
    · have h6 : simK row l c w k 20 arg = (c, w, popK k) := by
        have : simK row l c w k 20 arg = (c, if 0 ≤ popV k ∧ popV k ≤ 60000 then popV k else w, popK k) := by simp only [simK, if_neg hnv]; rfl
        rw [this, if_neg (fun h => h4 h.2)]
      rw [h6]
      simp only
      generalize popV k = b at *
      rw [callT_eq Tryd.func25 rfl fok25 (by simp [Tryd.ntmps25])]
      simp (disch := first | omega | (simp only [vlen]; omega)) only [vall, List.take_of_length_le, gB, gcW, gcR, posIn, renA, renL, Chunk.ren, Chunk.refs, evOpD, touchD, stepC, isFresh, nFresh, freshOf, mkR, hole, evL, evH, opd, get, putD, ofVal, cellOf, loadE, behind, lenE, idxAddrE, idxE, lookE, lookM, addPtr, intE, strE, unE, convE, AV.int, AV.bool, AV.str, ivs, take, frameOf, firstRegion, refsA, refsL, one, cellsA, floatOk, apartT, List.map, if_true, if_false, E_P, E_glob0, E_glob1, reduceCtorEq, beq_self_eq_true, ↓reduceIte, Nat.reduceEqDiff, cond_true, cond_false, Nat.reduceAdd, Nat.reduceSub, Nat.reduceMul, Nat.reduceLT, Nat.reduceLeDiff, Int.reduceToNat, Int.reduceLT, Int.reduceLE, Option.getD, Int.reduceMul, Int.reduceAdd, List.drop, List.take, Nat.reduceBEq, List.isEmpty, Int.reduceEq, Int.reduceNe, Int.reduceNeg, Int.reduceGT, Int.reduceGE, beq_true, beq_false, UInt8.reduceToNat, eqE, eq_self, foldE, maxE, minE, fillA, over, chop, List.replicate, leavesOk, leafOk, cellsEq, cellEq, E_byref, en25, op_lookup, ik38, h1, h2, h3, h4, mcK_cn, mcK_0, mcK_1, mcK_2, mcK_3]
      exact ⟨_, rfl⟩
  · have h6 : simK row l c w k 20 arg = (c, w, popK k) := by
      have : simK row l c w k 20 arg = (c, if 0 ≤ popV k ∧ popV k ≤ 60000 then popV k else w, popK k) := by simp only [simK, if_neg hnv]; rfl
      rw [this, if_neg (fun h => h3 h.1)]
    rw [h6]
    simp only
    generalize popV k = b at *
    rw [callT_eq Tryd.func25 rfl fok25 (by simp [Tryd.ntmps25])]
    simp (disch := first | omega | (simp only [vlen]; omega)) only [vall, List.take_of_length_le, gB, gcW, gcR, posIn, renA, renL, Chunk.ren, Chunk.refs, evOpD, touchD, stepC, isFresh, nFresh, freshOf, mkR, hole, evL, evH, opd, get, putD, ofVal, cellOf, loadE, behind, lenE, idxAddrE, idxE, lookE, lookM, addPtr, intE, strE, unE, convE, AV.int, AV.bool, AV.str, ivs, take, frameOf, firstRegion, refsA, refsL, one, cellsA, floatOk, apartT, List.map, if_true, if_false, E_P, E_glob0, E_glob1, reduceCtorEq, beq_self_eq_true, ↓reduceIte, Nat.reduceEqDiff, cond_true, cond_false, Nat.reduceAdd, Nat.reduceSub, Nat.reduceMul, Nat.reduceLT, Nat.reduceLeDiff, Int.reduceToNat, Int.reduceLT, Int.reduceLE, Option.getD, Int.reduceMul, Int.reduceAdd, List.drop, List.take, Nat.reduceBEq, List.isEmpty, Int.reduceEq, Int.reduceNe, Int.reduceNeg, Int.reduceGT, Int.reduceGE, beq_true, beq_false, UInt8.reduceToNat, eqE, eq_self, foldE, maxE, minE, fillA, over, chop, List.replicate, leavesOk, leafOk, cellsEq, cellEq, E_byref, en25, op_lookup, ik38, h1, h2, h3, mcK_cn, mcK_0, mcK_1, mcK_2, mcK_3]
    exact ⟨_, rfl⟩
theorem c25 (op : Int) (ho : 0 ≤ op ∧ op ≤ 20 ∧ op ≠ 0 ∧ op ≠ 17 ∧ op ≠ 18) (row : Int) (l : List Gl) (hg : okG l) (c w r : Int) (k : Kk) (arg : Int) (hk : okK k) (hb : bI arg ∧ bI row ∧ bI c ∧ bI w) : ∃ L, callT E 25 [.ptr 0 0 0 0, .agg [.i (.v (.int .i64 (op))), .i (.v (.int .i64 arg))]] [.box (mcK row (.sl 3 (rowsG l) false) c w r k)] = some (.tup [], .box (mcK row (.sl 3 (rowsG l) false) (simK row l c w k (op) arg).1 (simK row l c w k (op) arg).2.1 r (simK row l c w k (op) arg).2.2) :: L) := by
  obtain ⟨n, rfl⟩ := Int.eq_ofNat_of_zero_le ho.1
  have hn : n < 21 := by omega
  have hcases : n = 1 ∨ n = 2 ∨ n = 3 ∨ n = 4 ∨ n = 5 ∨ n = 6 ∨ n = 7 ∨ n = 8 ∨ n = 9 ∨ n = 10 ∨ n = 11 ∨ n = 12 ∨ n = 13 ∨ n = 14 ∨ n = 15 ∨ n = 16 ∨ n = 19 ∨ n = 20 := by omega
  rcases hcases with rfl | rfl | rfl | rfl | rfl | rfl | rfl | rfl | rfl | rfl | rfl | rfl | rfl | rfl | rfl | rfl | rfl | rfl
  · exact s_val 1 (by decide) row l hg c w r k arg hk hb
  · exact s_val 2 (by decide) row l hg c w r k arg hk hb
  · exact s_val 3 (by decide) row l hg c w r k arg hk hb
  · exact s_4 row l hg c w r k arg hk hb
  · exact s_5 row l hg c w r k arg hk hb
  · exact s_val 6 (by decide) row l hg c w r k arg hk hb
  · exact s_val 7 (by decide) row l hg c w r k arg hk hb
  · exact s_8 row l hg c w r k arg hk hb
  · exact s_9 row l hg c w r k arg hk hb
  · exact s_10 row l hg c w r k arg hk hb
  · exact s_11 row l hg c w r k arg hk hb
  · exact s_12 row l hg c w r k arg hk hb
  · exact s_13 row l hg c w r k arg hk hb
  · exact s_14 row l hg c w r k arg hk hb
  · exact s_15 row l hg c w r k arg hk hb
  · exact s_16 row l hg c w r k arg hk hb
  · exact s_19 row l hg c w r k arg hk hb
  · exact s_20 row l hg c w r k arg hk hb
end Go.VI

namespace Go.VI
open Go.Proofs Go.RowKit Go.Shelf
attribute [local go_sem] Oper.semAt_some
set_option maxRecDepth 100000
set_option linter.unusedSimpArgs false
set_option linter.unusedVariables false
set_option maxHeartbeats 4000000
theorem seq_inv {css : List (List Int)} {xs : List Int} (h : seqSucc css = some xs) : ∃ op arg i, css = [[op, arg], [i]] ∧ (-9223372036854775808 ≤ i + 1 ∧ i + 1 ≤ 9223372036854775807) ∧ sucL op arg i = xs := by
  unfold seqSucc at h
  split at h
  · rename_i op arg i
    split at h
    · rename_i hi
      cases h
      exact ⟨op, arg, i, rfl, hi, rfl⟩
    · cases h
  · cases h
theorem seq_succ : Seq1 Tryd.prog 49 seqSucc := by
  intro l nn css xs bs J Jx W hL hlen hcells hdr hdrx hY h0
  obtain ⟨op, arg, i, rfl, ⟨hi1, hi2⟩, rfl⟩ := seq_inv hL
  obtain ⟨b1, b2, rfl⟩ : ∃ b1 b2, bs = [b1, b2] := by
    cases bs with
    | nil => cases hlen
    | cons a bs => cases bs with
      | nil => cases hlen
      | cons b bs => cases bs with
        | nil => exact ⟨a, b, rfl⟩
        | cons c bs => simp at hlen
  have c1 : ∀ j W, J j W → W.cell? ⟨b1, 0, none⟩ = some (.int .i64 op) := fun j W h => hcells j W h 0 b1 [op, arg] rfl rfl 0 op rfl
  have c2 : ∀ j W, J j W → W.cell? ⟨b1, 1, none⟩ = some (.int .i64 arg) := fun j W h => hcells j W h 0 b1 [op, arg] rfl rfl 1 arg rfl
  have c3 : ∀ j W, J j W → W.cell? ⟨b2, 0, none⟩ = some (.int .i64 i) := fun j W h => hcells j W h 1 b2 [i] rfl rfl 0 i rfl
  have a1 := c1 0 W h0
  have a2 := c2 0 W h0
  have a3 := c3 0 W h0
  have hw : IntKind.i64.wrap (i + 1) = i + 1 := w_i64 hi1 hi2
  refine callsIn_of_wp Tryd.func49 rfl trivial ?_ rfl
  simp only [ptrV, List.map_cons, List.map_nil, Tryd.ntmps49, List.size_toArray, List.length_cons, List.length_nil, Nat.reduceAdd, Nat.reduceSub, Array.replicate_succ, Array.replicate_zero, List.push_toArray, List.append_toArray, List.nil_append, List.cons_append]
  by_cases h : op = 0
  · subst h
    have hs : sucL 0 arg i = [] := by simp [sucL]
    rw [hs] at hY ⊢
    gi_wp2
    refine ⟨fun _ h => (by cases h), ?_⟩
    gi_wp2
    go_end0
    exact ⟨⟨_, rfl⟩, .inl h0⟩
  · by_cases h17 : op = 17
    · subst h17
      have hs : sucL 17 arg i = [arg] := by simp [sucL]
      rw [hs] at hY ⊢
      obtain ⟨f1, t1, s1, d1, hy1, hR1⟩ := hY (nn - 1) 0 arg W rfl h0
      gi_wp2
      refine ⟨fun _ h => (by cases h), ?_⟩
      gi_wp2
      refine ⟨fun h => (by cases h), hR1.mono ?_⟩
      rintro e W1 (⟨rfl, hJ1⟩ | ⟨rfl, hx1⟩)
      · gi_wp2
        go_end0
        exact ⟨⟨_, rfl⟩, .inl hJ1⟩
      · gi_wp2
        go_end0
        exact ⟨⟨_, rfl⟩, .inr hx1⟩
    · have hs : sucL op arg i = (i + 1) :: (if op = 17 ∨ op = 18 then [arg] else []) := by unfold sucL; rw [if_neg (by omega)]; rfl
      rw [hs] at hY ⊢
      obtain ⟨f1, t1, s1, d1, hy1, hR1⟩ := hY (nn - 1) 0 (i + 1) W rfl h0
      have q1 : (op != 0) = true := by simp [h]
      have q2 : (op != 17) = true := by simp [h17]
      have q4 : (op == 17) = false := by simp [h17]
      by_cases h18 : op = 18
      · subst h18
        gi_wp2
        refine ⟨fun h => (by cases h), hR1.mono ?_⟩
        rintro e W1 (⟨rfl, hJ1⟩ | ⟨rfl, hx1⟩)
        · have e1 := c1 1 W1 hJ1
          have e2 := c2 1 W1 hJ1
          obtain ⟨f2, t2, s2, d2, hy2, hR2⟩ := hY (nn - 1) 1 arg W1 rfl hJ1
          gi_wp2
          refine ⟨fun h => (by cases h), hR2.mono ?_⟩
          rintro e W2 (⟨rfl, hJ2⟩ | ⟨rfl, hx2⟩)
          · gi_wp2
            go_end0
            exact ⟨⟨_, rfl⟩, .inl hJ2⟩
          · gi_wp2
            go_end0
            exact ⟨⟨_, rfl⟩, .inr hx2⟩
        · gi_wp2
          refine bodyPost_ret (results_none rfl _ _ _) rfl ?_
          exact ⟨⟨_, rfl⟩, .inr hx1⟩
      · rw [if_neg (show ¬ (op = 17 ∨ op = 18) by omega)] at hY ⊢
        have q3 : (op == 18) = false := by simp [h18]
        gi_wp2
        refine ⟨fun h => (by cases h), hR1.mono ?_⟩
        rintro e W1 (⟨rfl, hJ1⟩ | ⟨rfl, hx1⟩)
        · have e1 := c1 1 W1 hJ1
          gi_wp2
          go_end0
          exact ⟨⟨_, rfl⟩, .inl hJ1⟩
        · gi_wp2
          refine bodyPost_ret (results_none rfl _ _ _) rfl ?_
          exact ⟨⟨_, rfl⟩, .inr hx1⟩
theorem seqOK : SeqOK E := by
  intro g L h
  rcases E_seqI g L h with ⟨rfl, rfl⟩ | h
  · exact ⟨ent49, seq_succ⟩
  · exact h.elim
end Go.VI

namespace Go.VI
open Go.Proofs
set_option maxRecDepth 100000
set_option linter.unusedSimpArgs false
set_option linter.unusedVariables false
set_option maxHeartbeats 4000000
abbrev Ins := Int × Int
def insC (p : Ins) : List IV := [.v (.int .i64 p.1), .v (.int .i64 p.2)]
def rowsI (l : List Ins) : List (List IV) := l.map insC
theorem rowsI_len (l : List Ins) : (rowsI l).length = l.length := by simp [rowsI]
theorem rowsI_at {l : List Ins} {k : Nat} (h : k < l.length) : (rowsI l)[k]? = some [.v (.int .i64 l[k].1), .v (.int .i64 l[k].2)] := by simp [rowsI, insC, h]
def boundsS (op i n : Int) : Int × Int := if op = 1 then (-999999999, 999999999) else if op = 17 ∨ op = 18 then (i + 1, n) else (0, 0)
def chk1 (n i : Int) (p : Ins) : Int := if p.1 < 0 ∨ 20 < p.1 then 9 else if p.2 < (boundsS p.1 i n).1 ∨ (boundsS p.1 i n).2 < p.2 then 2 else 0
def chkL (n : Int) : Nat → List Ins → Int
  | _, [] => 0
  | i, p :: r => if chk1 n i p = 0 then chkL n (i + 1) r else chk1 n i p
def checkI (l : List Ins) : Int := if 500 < (l.length : Int) then 5 else chkL l.length 0 l
theorem c36 (op i n : Int) (hi : -9223372036854775808 ≤ i + 1 ∧ i + 1 ≤ 9223372036854775807) : ∃ L, callT E 36 [.i (.v (.int .i64 op)), .i (.v (.int .i64 i)), .i (.v (.int .i64 n))] [] = some (.tup [.i (.v (.int .i64 (boundsS op i n).1)), .i (.v (.int .i64 (boundsS op i n).2))], L) := by
  unfold boundsS
  by_cases h1 : op = 1
  · subst h1; rw [callT_eq Tryd.func36 rfl fok36 (by simp [Tryd.ntmps36])]; simp (disch := first | omega | (simp only [vlen]; omega)) only [vall, List.take_of_length_le, gB, gcW, gcR, posIn, renA, renL, Chunk.ren, Chunk.refs, evOpD, touchD, stepC, isFresh, nFresh, freshOf, mkR, hole, evL, evH, opd, get, putD, ofVal, cellOf, loadE, behind, lenE, idxAddrE, idxE, lookE, lookM, addPtr, intE, strE, unE, convE, AV.int, AV.bool, AV.str, ivs, take, frameOf, firstRegion, refsA, refsL, one, cellsA, floatOk, apartT, List.map, if_true, if_false, E_P, E_glob0, E_glob1, reduceCtorEq, beq_self_eq_true, ↓reduceIte, Nat.reduceEqDiff, cond_true, cond_false, Nat.reduceAdd, Nat.reduceSub, Nat.reduceMul, Nat.reduceLT, Nat.reduceLeDiff, Int.reduceToNat, Int.reduceLT, Int.reduceLE, Option.getD, Int.reduceMul, Int.reduceAdd, List.drop, List.take, Nat.reduceBEq, List.isEmpty, Int.reduceEq, Int.reduceNe, Int.reduceNeg, Int.reduceGT, Int.reduceGE, beq_true, beq_false, UInt8.reduceToNat, eqE, eq_self, foldE, maxE, minE, fillA, over, chop, List.replicate, leavesOk, leafOk, cellsEq, cellEq, E_byref, en36]; exact ⟨_, rfl⟩
  · by_cases h2 : op = 17
    · subst h2; rw [callT_eq Tryd.func36 rfl fok36 (by simp [Tryd.ntmps36])]; simp (disch := first | omega | (simp only [vlen]; omega)) only [vall, List.take_of_length_le, gB, gcW, gcR, posIn, renA, renL, Chunk.ren, Chunk.refs, evOpD, touchD, stepC, isFresh, nFresh, freshOf, mkR, hole, evL, evH, opd, get, putD, ofVal, cellOf, loadE, behind, lenE, idxAddrE, idxE, lookE, lookM, addPtr, intE, strE, unE, convE, AV.int, AV.bool, AV.str, ivs, take, frameOf, firstRegion, refsA, refsL, one, cellsA, floatOk, apartT, List.map, if_true, if_false, E_P, E_glob0, E_glob1, reduceCtorEq, beq_self_eq_true, ↓reduceIte, Nat.reduceEqDiff, cond_true, cond_false, Nat.reduceAdd, Nat.reduceSub, Nat.reduceMul, Nat.reduceLT, Nat.reduceLeDiff, Int.reduceToNat, Int.reduceLT, Int.reduceLE, Option.getD, Int.reduceMul, Int.reduceAdd, List.drop, List.take, Nat.reduceBEq, List.isEmpty, Int.reduceEq, Int.reduceNe, Int.reduceNeg, Int.reduceGT, Int.reduceGE, beq_true, beq_false, UInt8.reduceToNat, eqE, eq_self, foldE, maxE, minE, fillA, over, chop, List.replicate, leavesOk, leafOk, cellsEq, cellEq, E_byref, en36, w_i64]; exact ⟨_, rfl⟩
    · by_cases h3 : op = 18
      · subst h3; rw [callT_eq Tryd.func36 rfl fok36 (by simp [Tryd.ntmps36])]; simp (disch := first | omega | (simp only [vlen]; omega)) only [vall, List.take_of_length_le, gB, gcW, gcR, posIn, renA, renL, Chunk.ren, Chunk.refs, evOpD, touchD, stepC, isFresh, nFresh, freshOf, mkR, hole, evL, evH, opd, get, putD, ofVal, cellOf, loadE, behind, lenE, idxAddrE, idxE, lookE, lookM, addPtr, intE, strE, unE, convE, AV.int, AV.bool, AV.str, ivs, take, frameOf, firstRegion, refsA, refsL, one, cellsA, floatOk, apartT, List.map, if_true, if_false, E_P, E_glob0, E_glob1, reduceCtorEq, beq_self_eq_true, ↓reduceIte, Nat.reduceEqDiff, cond_true, cond_false, Nat.reduceAdd, Nat.reduceSub, Nat.reduceMul, Nat.reduceLT, Nat.reduceLeDiff, Int.reduceToNat, Int.reduceLT, Int.reduceLE, Option.getD, Int.reduceMul, Int.reduceAdd, List.drop, List.take, Nat.reduceBEq, List.isEmpty, Int.reduceEq, Int.reduceNe, Int.reduceNeg, Int.reduceGT, Int.reduceGE, beq_true, beq_false, UInt8.reduceToNat, eqE, eq_self, foldE, maxE, minE, fillA, over, chop, List.replicate, leavesOk, leafOk, cellsEq, cellEq, E_byref, en36, w_i64]; exact ⟨_, rfl⟩
      · rw [if_neg h1, if_neg (by omega)]; rw [callT_eq Tryd.func36 rfl fok36 (by simp [Tryd.ntmps36])]; simp (disch := first | omega | (simp only [vlen]; omega)) only [vall, List.take_of_length_le, gB, gcW, gcR, posIn, renA, renL, Chunk.ren, Chunk.refs, evOpD, touchD, stepC, isFresh, nFresh, freshOf, mkR, hole, evL, evH, opd, get, putD, ofVal, cellOf, loadE, behind, lenE, idxAddrE, idxE, lookE, lookM, addPtr, intE, strE, unE, convE, AV.int, AV.bool, AV.str, ivs, take, frameOf, firstRegion, refsA, refsL, one, cellsA, floatOk, apartT, List.map, if_true, if_false, E_P, E_glob0, E_glob1, reduceCtorEq, beq_self_eq_true, ↓reduceIte, Nat.reduceEqDiff, cond_true, cond_false, Nat.reduceAdd, Nat.reduceSub, Nat.reduceMul, Nat.reduceLT, Nat.reduceLeDiff, Int.reduceToNat, Int.reduceLT, Int.reduceLE, Option.getD, Int.reduceMul, Int.reduceAdd, List.drop, List.take, Nat.reduceBEq, List.isEmpty, Int.reduceEq, Int.reduceNe, Int.reduceNeg, Int.reduceGT, Int.reduceGE, beq_true, beq_false, UInt8.reduceToNat, eqE, eq_self, foldE, maxE, minE, fillA, over, chop, List.replicate, leavesOk, leafOk, cellsEq, cellEq, E_byref, en36, h1, h2, h3]; exact ⟨_, rfl⟩
theorem ik36 (op i n : Int) (hi : -9223372036854775808 ≤ i + 1 ∧ i + 1 ≤ 9223372036854775807) (H : Hp) : isoK E (callT E) 36 [.i (.v (.int .i64 op)), .i (.v (.int .i64 i)), .i (.v (.int .i64 n))] H = some (.tup [.i (.v (.int .i64 (boundsS op i n).1)), .i (.v (.int .i64 (boundsS op i n).2))], H) := isoK_val rfl rfl rfl (c36 op i n hi)
theorem names_all : (match call E 60 35 [] [] with | some (.i (.sl 1 R false), _) => decide (R.length = 21) | _ => false) = true := by kernel_rfl
theorem c35 : ∃ R : List (List IV), R.length = 21 ∧ ∃ L, callT E 35 [] [] = some (.i (.sl 1 R false), L) := by
  have h := names_all
  split at h
  · rename_i R L hL
    exact ⟨R, of_decide_eq_true h, L, callT_of hL⟩
  · cases h
theorem ik35 : ∃ R : List (List IV), (R.length : Int) = 21 ∧ ∀ H, isoK E (callT E) 35 [] H = some (.i (.sl 1 R false), H) := by
  obtain ⟨R, h1, h2⟩ := c35
  exact ⟨R, by omega, fun H => isoK_val rfl rfl rfl h2⟩
def chP (e : Int) (fr : Fr) (ex : Ex) : Prop := (e = 0 ∧ ex = .exit 0) ∨ (e ≠ 0 ∧ ex = .ret ∧ get 2 fr = .i (.v (.int .i64 e)))
theorem l23 (l : List Ins) (hl : l.length ≤ 500) (k : Nat) (hk : k ≤ l.length) :
    ∃ fr ex H', rl E 0 23 (loopAt Tryd.f23 0) [(0, .i (.sl 2 (rowsI l) false)), (10, .i (.sl 2 (rowsI l) false)), (11, .i (.v (.int .i64 l.length))), (12, .i (.v (.int .i64 k)))] [] = some (ex, fr, H') ∧ chP (chkL l.length k (l.drop k)) fr ex := by
  rw [rl_step (fn := Tryd.f23) (k := 0) rfl]
  by_cases hlt : k < l.length
  · have hrow := rowsI_at hlt
    rw [List.drop_eq_getElem_cons hlt, chkL]
    obtain ⟨fr, ex, H', e, hh⟩ := l23 l hl (k + 1) hlt
    obtain ⟨op, arg, hp⟩ : ∃ op arg, l[k] = (op, arg) := ⟨_, _, rfl⟩
    rw [hp] at hrow ⊢
    simp only at hrow
    obtain ⟨R, hR, hN⟩ := ik35
    have hb := fun H => ik36 op k l.length (by omega) H
    have hchk : chk1 l.length k (op, arg) = if op < 0 ∨ 20 < op then 9 else if arg < (boundsS op k l.length).1 ∨ (boundsS op k l.length).2 < arg then 2 else 0 := rfl
    generalize boundsS op k l.length = q at *
    generalize chk1 l.length k (op, arg) = ch at *
    obtain ⟨lo, hi⟩ := q
    simp only at hb hchk ⊢
    by_cases h1 : op < 0
    · rw [if_pos (.inl h1)] at hchk
      subst hchk
      rw [if_neg (by decide)]
      clear e hh
      simp (disch := first | omega | (simp only [vlen, rowsI_len]; omega)) only [vall, List.take_of_length_le, gB, gcW, gcR, posIn, renA, renL, Chunk.ren, Chunk.refs, evOpD, touchD, stepC, isFresh, nFresh, freshOf, mkR, hole, evL, evH, opd, get, putD, ofVal, cellOf, loadE, behind, lenE, idxAddrE, idxE, lookE, lookM, addPtr, intE, strE, unE, convE, AV.int, AV.bool, AV.str, ivs, take, frameOf, firstRegion, refsA, refsL, one, cellsA, floatOk, apartT, List.map, if_true, if_false, E_P, E_glob0, E_glob1, reduceCtorEq, beq_self_eq_true, ↓reduceIte, Nat.reduceEqDiff, cond_true, cond_false, Nat.reduceAdd, Nat.reduceSub, Nat.reduceMul, Nat.reduceLT, Nat.reduceLeDiff, Int.reduceToNat, Int.reduceLT, Int.reduceLE, Option.getD, Int.reduceMul, Int.reduceAdd, List.drop, List.take, Nat.reduceBEq, List.isEmpty, Int.reduceEq, Int.reduceNe, Int.reduceNeg, Int.reduceGT, Int.reduceGE, beq_true, beq_false, UInt8.reduceToNat, eqE, eq_self, foldE, maxE, minE, fillA, over, chop, List.replicate, leavesOk, leafOk, cellsEq, cellEq, E_byref, en23, bs22, bs37, hrow, rowsI_len, h1, hN, hR, show ∀ B fr H, execT E B 23 (Code.loop _) fr H = rlG E B 23 (loopAt Tryd.f23 0) (gcn B (norm [0, 10, 11, 12] fr) H) from fun B fr H => rl_intro rfl mt23_4 mb23_4 zf23_4 hd23_4 fr H]
      exact ⟨_, _, _, rfl, .inr ⟨by decide, rfl, rfl⟩⟩
    · by_cases h2 : 21 ≤ op
      · rw [if_pos (.inr (by omega))] at hchk
        subst hchk
        rw [if_neg (by decide)]
        clear e hh
        simp (disch := first | omega | (simp only [vlen, rowsI_len]; omega)) only [vall, List.take_of_length_le, gB, gcW, gcR, posIn, renA, renL, Chunk.ren, Chunk.refs, evOpD, touchD, stepC, isFresh, nFresh, freshOf, mkR, hole, evL, evH, opd, get, putD, ofVal, cellOf, loadE, behind, lenE, idxAddrE, idxE, lookE, lookM, addPtr, intE, strE, unE, convE, AV.int, AV.bool, AV.str, ivs, take, frameOf, firstRegion, refsA, refsL, one, cellsA, floatOk, apartT, List.map, if_true, if_false, E_P, E_glob0, E_glob1, reduceCtorEq, beq_self_eq_true, ↓reduceIte, Nat.reduceEqDiff, cond_true, cond_false, Nat.reduceAdd, Nat.reduceSub, Nat.reduceMul, Nat.reduceLT, Nat.reduceLeDiff, Int.reduceToNat, Int.reduceLT, Int.reduceLE, Option.getD, Int.reduceMul, Int.reduceAdd, List.drop, List.take, Nat.reduceBEq, List.isEmpty, Int.reduceEq, Int.reduceNe, Int.reduceNeg, Int.reduceGT, Int.reduceGE, beq_true, beq_false, UInt8.reduceToNat, eqE, eq_self, foldE, maxE, minE, fillA, over, chop, List.replicate, leavesOk, leafOk, cellsEq, cellEq, E_byref, en23, bs22, bs37, hrow, rowsI_len, h1, h2, hN, hR, show ∀ B fr H, execT E B 23 (Code.loop _) fr H = rlG E B 23 (loopAt Tryd.f23 0) (gcn B (norm [0, 10, 11, 12] fr) H) from fun B fr H => rl_intro rfl mt23_4 mb23_4 zf23_4 hd23_4 fr H]
        exact ⟨_, _, _, rfl, .inr ⟨by decide, rfl, rfl⟩⟩
      · rw [if_neg (by omega)] at hchk
        by_cases h3 : arg < lo
        · rw [if_pos (.inl h3)] at hchk
          subst hchk
          rw [if_neg (by decide)]
          clear e hh
          simp (disch := first | omega | (simp only [vlen, rowsI_len]; omega)) only [vall, List.take_of_length_le, gB, gcW, gcR, posIn, renA, renL, Chunk.ren, Chunk.refs, evOpD, touchD, stepC, isFresh, nFresh, freshOf, mkR, hole, evL, evH, opd, get, putD, ofVal, cellOf, loadE, behind, lenE, idxAddrE, idxE, lookE, lookM, addPtr, intE, strE, unE, convE, AV.int, AV.bool, AV.str, ivs, take, frameOf, firstRegion, refsA, refsL, one, cellsA, floatOk, apartT, List.map, if_true, if_false, E_P, E_glob0, E_glob1, reduceCtorEq, beq_self_eq_true, ↓reduceIte, Nat.reduceEqDiff, cond_true, cond_false, Nat.reduceAdd, Nat.reduceSub, Nat.reduceMul, Nat.reduceLT, Nat.reduceLeDiff, Int.reduceToNat, Int.reduceLT, Int.reduceLE, Option.getD, Int.reduceMul, Int.reduceAdd, List.drop, List.take, Nat.reduceBEq, List.isEmpty, Int.reduceEq, Int.reduceNe, Int.reduceNeg, Int.reduceGT, Int.reduceGE, beq_true, beq_false, UInt8.reduceToNat, eqE, eq_self, foldE, maxE, minE, fillA, over, chop, List.replicate, leavesOk, leafOk, cellsEq, cellEq, E_byref, en23, bs22, bs37, hrow, rowsI_len, h1, h2, h3, hN, hR, hb, show ∀ B fr H, execT E B 23 (Code.loop _) fr H = rlG E B 23 (loopAt Tryd.f23 0) (gcn B (norm [0, 10, 11, 12] fr) H) from fun B fr H => rl_intro rfl mt23_4 mb23_4 zf23_4 hd23_4 fr H]
          exact ⟨_, _, _, rfl, .inr ⟨by decide, rfl, rfl⟩⟩
        · by_cases h4 : hi < arg
          · rw [if_pos (.inr h4)] at hchk
            subst hchk
            rw [if_neg (by decide)]
            clear e hh
            simp (disch := first | omega | (simp only [vlen, rowsI_len]; omega)) only [vall, List.take_of_length_le, gB, gcW, gcR, posIn, renA, renL, Chunk.ren, Chunk.refs, evOpD, touchD, stepC, isFresh, nFresh, freshOf, mkR, hole, evL, evH, opd, get, putD, ofVal, cellOf, loadE, behind, lenE, idxAddrE, idxE, lookE, lookM, addPtr, intE, strE, unE, convE, AV.int, AV.bool, AV.str, ivs, take, frameOf, firstRegion, refsA, refsL, one, cellsA, floatOk, apartT, List.map, if_true, if_false, E_P, E_glob0, E_glob1, reduceCtorEq, beq_self_eq_true, ↓reduceIte, Nat.reduceEqDiff, cond_true, cond_false, Nat.reduceAdd, Nat.reduceSub, Nat.reduceMul, Nat.reduceLT, Nat.reduceLeDiff, Int.reduceToNat, Int.reduceLT, Int.reduceLE, Option.getD, Int.reduceMul, Int.reduceAdd, List.drop, List.take, Nat.reduceBEq, List.isEmpty, Int.reduceEq, Int.reduceNe, Int.reduceNeg, Int.reduceGT, Int.reduceGE, beq_true, beq_false, UInt8.reduceToNat, eqE, eq_self, foldE, maxE, minE, fillA, over, chop, List.replicate, leavesOk, leafOk, cellsEq, cellEq, E_byref, en23, bs22, bs37, hrow, rowsI_len, h1, h2, h3, h4, hN, hR, hb, show ∀ B fr H, execT E B 23 (Code.loop _) fr H = rlG E B 23 (loopAt Tryd.f23 0) (gcn B (norm [0, 10, 11, 12] fr) H) from fun B fr H => rl_intro rfl mt23_4 mb23_4 zf23_4 hd23_4 fr H]
            exact ⟨_, _, _, rfl, .inr ⟨by decide, rfl, rfl⟩⟩
          · rw [if_neg (by omega)] at hchk
            subst hchk
            rw [if_pos rfl]
            refine ⟨fr, ex, H', Eq.trans ?_ e, hh⟩
            clear e hh
            simp (disch := first | omega | (simp only [vlen, rowsI_len]; omega)) only [vall, List.take_of_length_le, gB, gcW, gcR, posIn, renA, renL, Chunk.ren, Chunk.refs, evOpD, touchD, stepC, isFresh, nFresh, freshOf, mkR, hole, evL, evH, opd, get, putD, ofVal, cellOf, loadE, behind, lenE, idxAddrE, idxE, lookE, lookM, addPtr, intE, strE, unE, convE, AV.int, AV.bool, AV.str, ivs, take, frameOf, firstRegion, refsA, refsL, one, cellsA, floatOk, apartT, List.map, if_true, if_false, E_P, E_glob0, E_glob1, reduceCtorEq, beq_self_eq_true, ↓reduceIte, Nat.reduceEqDiff, cond_true, cond_false, Nat.reduceAdd, Nat.reduceSub, Nat.reduceMul, Nat.reduceLT, Nat.reduceLeDiff, Int.reduceToNat, Int.reduceLT, Int.reduceLE, Option.getD, Int.reduceMul, Int.reduceAdd, List.drop, List.take, Nat.reduceBEq, List.isEmpty, Int.reduceEq, Int.reduceNe, Int.reduceNeg, Int.reduceGT, Int.reduceGE, beq_true, beq_false, UInt8.reduceToNat, eqE, eq_self, foldE, maxE, minE, fillA, over, chop, List.replicate, leavesOk, leafOk, cellsEq, cellEq, E_byref, en23, bs22, bs37, hrow, rowsI_len, h1, h2, h3, h4, hN, hR, hb, show ∀ B fr H, execT E B 23 (Code.loop _) fr H = rlG E B 23 (loopAt Tryd.f23 0) (gcn B (norm [0, 10, 11, 12] fr) H) from fun B fr H => rl_intro rfl mt23_4 mb23_4 zf23_4 hd23_4 fr H]
  · obtain rfl : k = l.length := by omega
    rw [List.drop_length, chkL]
    simp (disch := first | omega | (simp only [vlen, rowsI_len]; omega)) only [vall, List.take_of_length_le, gB, gcW, gcR, posIn, renA, renL, Chunk.ren, Chunk.refs, evOpD, touchD, stepC, isFresh, nFresh, freshOf, mkR, hole, evL, evH, opd, get, putD, ofVal, cellOf, loadE, behind, lenE, idxAddrE, idxE, lookE, lookM, addPtr, intE, strE, unE, convE, AV.int, AV.bool, AV.str, ivs, take, frameOf, firstRegion, refsA, refsL, one, cellsA, floatOk, apartT, List.map, if_true, if_false, E_P, E_glob0, E_glob1, reduceCtorEq, beq_self_eq_true, ↓reduceIte, Nat.reduceEqDiff, cond_true, cond_false, Nat.reduceAdd, Nat.reduceSub, Nat.reduceMul, Nat.reduceLT, Nat.reduceLeDiff, Int.reduceToNat, Int.reduceLT, Int.reduceLE, Option.getD, Int.reduceMul, Int.reduceAdd, List.drop, List.take, Nat.reduceBEq, List.isEmpty, Int.reduceEq, Int.reduceNe, Int.reduceNeg, Int.reduceGT, Int.reduceGE, beq_true, beq_false, UInt8.reduceToNat, eqE, eq_self, foldE, maxE, minE, fillA, over, chop, List.replicate, leavesOk, leafOk, cellsEq, cellEq, E_byref, en23, bs22, bs37, rowsI_len, show ∀ B fr H, execT E B 23 (Code.loop _) fr H = rlG E B 23 (loopAt Tryd.f23 0) (gcn B (norm [0, 10, 11, 12] fr) H) from fun B fr H => rl_intro rfl mt23_4 mb23_4 zf23_4 hd23_4 fr H]
    exact ⟨_, _, _, rfl, .inl ⟨rfl, rfl⟩⟩
termination_by l.length - k
theorem c23 (l : List Ins) (hl : (l.length : Int) < 9223372036854775808) : ∃ L, callT E 23 [.i (.sl 2 (rowsI l) false)] [] = some (.i (.v (.int .i64 (checkI l))), L) := by
  unfold checkI
  by_cases h5 : 500 < (l.length : Int)
  · rw [if_pos h5]
    rw [callT_eq Tryd.func23 rfl fok23 (by simp [Tryd.ntmps23])]
    simp (disch := first | omega | (simp only [vlen, rowsI_len]; omega)) only [vall, List.take_of_length_le, gB, gcW, gcR, posIn, renA, renL, Chunk.ren, Chunk.refs, evOpD, touchD, stepC, isFresh, nFresh, freshOf, mkR, hole, evL, evH, opd, get, putD, ofVal, cellOf, loadE, behind, lenE, idxAddrE, idxE, lookE, lookM, addPtr, intE, strE, unE, convE, AV.int, AV.bool, AV.str, ivs, take, frameOf, firstRegion, refsA, refsL, one, cellsA, floatOk, apartT, List.map, if_true, if_false, E_P, E_glob0, E_glob1, reduceCtorEq, beq_self_eq_true, ↓reduceIte, Nat.reduceEqDiff, cond_true, cond_false, Nat.reduceAdd, Nat.reduceSub, Nat.reduceMul, Nat.reduceLT, Nat.reduceLeDiff, Int.reduceToNat, Int.reduceLT, Int.reduceLE, Option.getD, Int.reduceMul, Int.reduceAdd, List.drop, List.take, Nat.reduceBEq, List.isEmpty, Int.reduceEq, Int.reduceNe, Int.reduceNeg, Int.reduceGT, Int.reduceGE, beq_true, beq_false, UInt8.reduceToNat, eqE, eq_self, foldE, maxE, minE, fillA, over, chop, List.replicate, leavesOk, leafOk, cellsEq, cellEq, E_byref, en23, bs22, bs37, rowsI_len, h5]
    exact ⟨_, rfl⟩
  · rw [if_neg h5]
    obtain ⟨fr, ex, H', e, hh⟩ := l23 l (by omega) 0 (Nat.zero_le _)
    rw [List.drop_zero] at hh
    have e' : rl E 0 23 (loopAt Tryd.f23 0) [(0, .i (.sl 2 (rowsI l) false)), (10, .i (.sl 2 (rowsI l) false)), (11, .i (.v (.int .i64 l.length))), (12, .i (.v (.int .i64 0)))] [] = _ := e
    rcases hh with ⟨h1, rfl⟩ | ⟨h1, rfl, h2⟩
    · rw [h1]
      rw [callT_eq Tryd.func23 rfl fok23 (by simp [Tryd.ntmps23])]
      simp (disch := first | omega | (simp only [vlen, rowsI_len]; omega)) only [vall, List.take_of_length_le, gB, gcW, gcR, posIn, renA, renL, Chunk.ren, Chunk.refs, evOpD, touchD, stepC, isFresh, nFresh, freshOf, mkR, hole, evL, evH, opd, get, putD, ofVal, cellOf, loadE, behind, lenE, idxAddrE, idxE, lookE, lookM, addPtr, intE, strE, unE, convE, AV.int, AV.bool, AV.str, ivs, take, frameOf, firstRegion, refsA, refsL, one, cellsA, floatOk, apartT, List.map, if_true, if_false, E_P, E_glob0, E_glob1, reduceCtorEq, beq_self_eq_true, ↓reduceIte, Nat.reduceEqDiff, cond_true, cond_false, Nat.reduceAdd, Nat.reduceSub, Nat.reduceMul, Nat.reduceLT, Nat.reduceLeDiff, Int.reduceToNat, Int.reduceLT, Int.reduceLE, Option.getD, Int.reduceMul, Int.reduceAdd, List.drop, List.take, Nat.reduceBEq, List.isEmpty, Int.reduceEq, Int.reduceNe, Int.reduceNeg, Int.reduceGT, Int.reduceGE, beq_true, beq_false, UInt8.reduceToNat, eqE, eq_self, foldE, maxE, minE, fillA, over, chop, List.replicate, leavesOk, leafOk, cellsEq, cellEq, E_byref, en23, bs22, bs37, rowsI_len, h5, e', show ∀ B fr H, execT E B 23 (Code.loop _) fr H = rlG E B 23 (loopAt Tryd.f23 0) (gcn B (norm [0, 10, 11, 12] fr) H) from fun B fr H => rl_intro rfl mt23_4 mb23_4 zf23_4 hd23_4 fr H]
      exact ⟨_, rfl⟩
    · generalize chkL l.length 0 l = q at *
      rw [callT_eq Tryd.func23 rfl fok23 (by simp [Tryd.ntmps23])]
      simp (disch := first | omega | (simp only [vlen, rowsI_len]; omega)) only [vall, List.take_of_length_le, gB, gcW, gcR, posIn, renA, renL, Chunk.ren, Chunk.refs, evOpD, touchD, stepC, isFresh, nFresh, freshOf, mkR, hole, evL, evH, opd, get, putD, ofVal, cellOf, loadE, behind, lenE, idxAddrE, idxE, lookE, lookM, addPtr, intE, strE, unE, convE, AV.int, AV.bool, AV.str, ivs, take, frameOf, firstRegion, refsA, refsL, one, cellsA, floatOk, apartT, List.map, if_true, if_false, E_P, E_glob0, E_glob1, reduceCtorEq, beq_self_eq_true, ↓reduceIte, Nat.reduceEqDiff, cond_true, cond_false, Nat.reduceAdd, Nat.reduceSub, Nat.reduceMul, Nat.reduceLT, Nat.reduceLeDiff, Int.reduceToNat, Int.reduceLT, Int.reduceLE, Option.getD, Int.reduceMul, Int.reduceAdd, List.drop, List.take, Nat.reduceBEq, List.isEmpty, Int.reduceEq, Int.reduceNe, Int.reduceNeg, Int.reduceGT, Int.reduceGE, beq_true, beq_false, UInt8.reduceToNat, eqE, eq_self, foldE, maxE, minE, fillA, over, chop, List.replicate, leavesOk, leafOk, cellsEq, cellEq, E_byref, en23, bs22, bs37, rowsI_len, h5, e', h2, show ∀ B fr H, execT E B 23 (Code.loop _) fr H = rlG E B 23 (loopAt Tryd.f23 0) (gcn B (norm [0, 10, 11, 12] fr) H) from fun B fr H => rl_intro rfl mt23_4 mb23_4 zf23_4 hd23_4 fr H]
      exact ⟨_, rfl⟩
theorem ik23 (l : List Ins) (hl : (l.length : Int) < 9223372036854775808) (H : Hp) : isoK E (callT E) 23 [.i (.sl 2 (rowsI l) false)] H = some (.i (.v (.int .i64 (checkI l))), H) := isoK_val rfl rfl rfl (c23 l hl)
end Go.VI

namespace Go.VI
open Go.Proofs
set_option maxRecDepth 100000
set_option linter.unusedSimpArgs false
set_option linter.unusedVariables false
set_option maxHeartbeats 4000000
def rows64 (l : List Int) : List (List IV) := l.map fun n => [.v (.int .i64 n)]
theorem rows64_len (l : List Int) : (rows64 l).length = l.length := by simp [rows64]
theorem rows64_at {l : List Int} {k : Nat} (h : k < l.length) : (rows64 l)[k]? = some [.v (.int .i64 l[k])] := by simp [rows64, h]
theorem rows64_set (l : List Int) (k : Nat) (x : Int) : (rows64 l).set k [.v (.int .i64 x)] = rows64 (l.set k x) := by simp [rows64, List.map_set]
theorem rows64_rep (n : Nat) (x : Int) : List.replicate n [IV.v (.int .i64 x)] = rows64 (List.replicate n x) := by simp [rows64]
def popS (op : Int) : Int := popsL.getD op.toNat 0
def pushS (op : Int) : Int := pushesL.getD op.toNat 0
theorem tab_at {l : List Int} {n : Nat} (h : n < l.length) : (tabT l)[n]? = some (.v (.int .i64 (l.getD n 0))) := by
  rw [List.getD_eq_getElem?_getD, List.getElem?_eq_getElem h]
  simp [tabT, h]
theorem pops_at {op : Int} (h0 : 0 ≤ op) (h1 : op ≤ 20) : popsT[op.toNat]? = some (.v (.int .i64 (popS op))) := tab_at (by show op.toNat < 21; omega)
theorem pushes_at {op : Int} (h0 : 0 ≤ op) (h1 : op ≤ 20) : pushesT[op.toNat]? = some (.v (.int .i64 (pushS op))) := tab_at (by show op.toNat < 21; omega)
theorem popS_r (op : Int) : 0 ≤ popS op ∧ popS op ≤ 2 := by
  have key : ∀ x ∈ popsL, 0 ≤ x ∧ x ≤ 2 := by decide
  unfold popS
  rw [List.getD_eq_getElem?_getD]
  cases h : popsL[op.toNat]? with
  | none => simp
  | some x => exact key x (List.mem_of_getElem? h)
theorem pushS_r (op : Int) : 0 ≤ pushS op ∧ pushS op ≤ 2 := by
  have key : ∀ x ∈ pushesL, 0 ≤ x ∧ x ≤ 2 := by decide
  unfold pushS
  rw [List.getD_eq_getElem?_getD]
  cases h : pushesL[op.toNat]? with
  | none => simp
  | some x => exact key x (List.mem_of_getElem? h)
def dSet (n after : Int) : List Int → List Int → Option (List Int)
  | [], out => some out
  | k :: ks, out => if k < n ∧ 0 ≤ out.getD k.toNat 0 ∧ out.getD k.toNat 0 ≠ after then none else dSet n after ks (out.set k.toNat after)
def dStep (n : Nat) (i : Nat) (p : Ins) (out : List Int) : Option (List Int) :=
  if out.getD i 0 < 0 then some out
  else if out.getD i 0 < popS p.1 ∨ 16 < out.getD i 0 - popS p.1 + pushS p.1 then none
  else dSet n (out.getD i 0 - popS p.1 + pushS p.1) (sucL p.1 p.2 i) out
def dRun (n : Nat) : Nat → List Ins → List Int → Option (List Int)
  | _, [], out => some out
  | i, p :: r, out => match dStep n i p out with
    | some out' => dRun n (i + 1) r out'
    | none => none
def depthsS (l : List Ins) : List Int × Int := if checkI l = 0 then match dRun l.length 0 l (0 :: List.replicate l.length (-1)) with
  | some out => (out.take l.length, 0)
  | none => ([], 13) else ([], checkI l)
theorem l32_0 (l : List Ins) (n : Nat) (hn : n < 1000000) (k : Nat) (hk : k ≤ n) :
    ∃ fr, rl E 0 32 (loopAt Tryd.f32 0) [(1, .ptr 0 0 0 0), (2, .ptr 1 0 0 0), (3, .ptr 2 0 0 0), (5, .ptr 3 0 0 0), (21, .i (.v (.int .i64 (n)))), (22, .i (.v (.int .i64 (k))))] [.box [.i (.sl 2 (rowsI l) false)], .box [.i (.sl 0 [] true)], .box [.i (.v (.int .i64 0))], .box [.ref 4 0 0 (n)], .sl 1 0 (rows64 (List.replicate k (-1) ++ List.replicate (n - k) 0)) false] = some (.exit 0, fr, [.box [.i (.sl 2 (rowsI l) false)], .box [.i (.sl 0 [] true)], .box [.i (.v (.int .i64 0))], .box [.ref 4 0 0 (n)], .sl 1 0 (rows64 (List.replicate n (-1))) false]) ∧ get 1 fr = .ptr 0 0 0 0 ∧ get 2 fr = .ptr 1 0 0 0 ∧ get 3 fr = .ptr 2 0 0 0 ∧ get 5 fr = .ptr 3 0 0 0 := by
  rw [rl_step (fn := Tryd.f32) (k := 0) rfl]
  by_cases hlt : k < n
  · obtain ⟨fr, e, hh⟩ := l32_0 l n hn (k + 1) hlt
    refine ⟨fr, Eq.trans ?_ e, hh⟩
    clear e hh
    have ho : (List.replicate k (-1 : Int) ++ List.replicate (n - k) 0).length = n := by simp; omega
    have hs : (List.replicate k (-1 : Int) ++ List.replicate (n - k) 0).set k (-1) = List.replicate (k + 1) (-1) ++ List.replicate (n - (k + 1)) 0 := by
      apply List.ext_getElem?
      intro j
      rw [List.getElem?_set]
      by_cases hj : k = j
      · subst hj
        rw [if_pos rfl, if_pos (by omega), List.getElem?_append_left (by simp), List.getElem?_replicate, if_pos (by omega)]
      · rw [if_neg hj]
        by_cases hjk : j < k
        · rw [List.getElem?_append_left (by simpa using hjk), List.getElem?_append_left (by simp; omega), List.getElem?_replicate, List.getElem?_replicate, if_pos hjk, if_pos (by omega)]
        · rw [List.getElem?_append_right (by simp; omega), List.getElem?_append_right (by simp; omega), List.getElem?_replicate, List.getElem?_replicate]
          simp only [List.length_replicate]
          by_cases hjn : j - k < n - k
          · rw [if_pos hjn, if_pos (by omega)]
          · rw [if_neg hjn, if_neg (by omega)]
    obtain ⟨x, hrow⟩ : ∃ x, (rows64 (List.replicate k (-1 : Int) ++ List.replicate (n - k) 0))[k]? = some [.v (.int .i64 x)] := ⟨_, rows64_at (by omega)⟩
    rw [← hs]
    generalize List.replicate k (-1 : Int) ++ List.replicate (n - k) 0 = out at *
    simp (disch := first | omega | (simp only [vlen, rows64_len]; omega)) only [vall, List.take_of_length_le, gB, gcW, gcR, posIn, renA, renL, Chunk.ren, Chunk.refs, evOpD, touchD, stepC, isFresh, nFresh, freshOf, mkR, hole, evL, evH, opd, get, putD, ofVal, cellOf, loadE, behind, lenE, idxAddrE, idxE, lookE, lookM, addPtr, intE, strE, unE, convE, AV.int, AV.bool, AV.str, ivs, take, frameOf, firstRegion, refsA, refsL, one, cellsA, floatOk, apartT, List.map, if_true, if_false, E_P, E_glob0, E_glob1, reduceCtorEq, beq_self_eq_true, ↓reduceIte, Nat.reduceEqDiff, cond_true, cond_false, Nat.reduceAdd, Nat.reduceSub, Nat.reduceMul, Nat.reduceLT, Nat.reduceLeDiff, Int.reduceToNat, Int.reduceLT, Int.reduceLE, Option.getD, Int.reduceMul, Int.reduceAdd, List.drop, List.take, Nat.reduceBEq, List.isEmpty, Int.reduceEq, Int.reduceNe, Int.reduceNeg, Int.reduceGT, Int.reduceGE, beq_true, beq_false, UInt8.reduceToNat, eqE, eq_self, foldE, maxE, minE, fillA, over, chop, List.replicate, leavesOk, leafOk, cellsEq, cellEq, E_byref, en32, bs22, bs46, rows64_len, hrow, rows64_set, show ∀ B fr H, execT E B 32 (Code.loop _) fr H = rlG E B 32 (loopAt Tryd.f32 0) (gcn B (norm [1, 2, 3, 5, 21, 22] fr) H) from fun B fr H => rl_intro rfl mt32_6 mb32_6 zf32_6 hd32_6 fr H]
  · obtain rfl : k = n := by omega
    rw [Nat.sub_self, List.replicate_zero, List.append_nil]
    generalize List.replicate k (-1 : Int) = out at *
    simp (disch := first | omega | (simp only [vlen, rows64_len]; omega)) only [vall, List.take_of_length_le, gB, gcW, gcR, posIn, renA, renL, Chunk.ren, Chunk.refs, evOpD, touchD, stepC, isFresh, nFresh, freshOf, mkR, hole, evL, evH, opd, get, putD, ofVal, cellOf, loadE, behind, lenE, idxAddrE, idxE, lookE, lookM, addPtr, intE, strE, unE, convE, AV.int, AV.bool, AV.str, ivs, take, frameOf, firstRegion, refsA, refsL, one, cellsA, floatOk, apartT, List.map, if_true, if_false, E_P, E_glob0, E_glob1, reduceCtorEq, beq_self_eq_true, ↓reduceIte, Nat.reduceEqDiff, cond_true, cond_false, Nat.reduceAdd, Nat.reduceSub, Nat.reduceMul, Nat.reduceLT, Nat.reduceLeDiff, Int.reduceToNat, Int.reduceLT, Int.reduceLE, Option.getD, Int.reduceMul, Int.reduceAdd, List.drop, List.take, Nat.reduceBEq, List.isEmpty, Int.reduceEq, Int.reduceNe, Int.reduceNeg, Int.reduceGT, Int.reduceGE, beq_true, beq_false, UInt8.reduceToNat, eqE, eq_self, foldE, maxE, minE, fillA, over, chop, List.replicate, leavesOk, leafOk, cellsEq, cellEq, E_byref, en32, bs22, bs46, rows64_len, show ∀ B fr H, execT E B 32 (Code.loop _) fr H = rlG E B 32 (loopAt Tryd.f32 0) (gcn B (norm [1, 2, 3, 5, 21, 22] fr) H) from fun B fr H => rl_intro rfl mt32_6 mb32_6 zf32_6 hd32_6 fr H]
    exact ⟨_, rfl, rfl, rfl, rfl, rfl⟩
termination_by n - k
end Go.VI

namespace Go.VI
open Go.Proofs
set_option maxRecDepth 100000
set_option linter.unusedSimpArgs false
set_option linter.unusedVariables false
set_option maxHeartbeats 4000000
theorem rows64_get {l : List Int} {k : Nat} (h : k < l.length) : (rows64 l)[k]? = some [.v (.int .i64 (l.getD k 0))] := by
  rw [rows64_at h, List.getD_eq_getElem?_getD, List.getElem?_eq_getElem h]; rfl
theorem rd32 (l : List Ins) (hl : l.length < 100000) (n : Nat) (hn : n = l.length + 1) (out : List Int) (ho : out.length = n) (op arg af i k x : Int) (hx : 0 ≤ x ∧ x ≤ l.length) :
    rdF E 32 (rfAt Tryd.f32 0) ((73, .i (.v (.int .i64 x))) :: [(1, .ptr 0 0 0 0), (2, .ptr 1 0 0 0), (3, .ptr 2 0 0 0), (5, .ptr 3 0 0 0), (9, .ptr 6 0 0 0), (31, .i (.sl 2 (rowsI l) false)), (32, .i (.v (.int .i64 l.length))), (33, .i (.v (.int .i64 (k)))), (72, .clo (.func 49) [] [.ptr 7 0 0 0, .ptr 8 0 0 0])]) [.box [.i (.sl 2 (rowsI l) false)], .box [.i (.sl 0 [] true)], .box [.i (.v (.int .i64 (0)))], .box [.ref 4 0 0 (n)], .sl 1 0 (rows64 (out)) false, .box [.i (.v (.int .i64 (op))), .i (.v (.int .i64 (arg)))], .box [.i (.v (.int .i64 (af)))], .box [.i (.v (.int .i64 (op))), .i (.v (.int .i64 (arg)))], .box [.i (.v (.int .i64 (i)))]] =
      if x < l.length ∧ 0 ≤ out.getD x.toNat 0 ∧ out.getD x.toNat 0 ≠ af then some (.ret, [.box [.i (.sl 2 (rowsI l) false)], .box [.i (.sl 0 [] true)], .box [.i (.v (.int .i64 (13)))], .box [.ref 4 0 0 (n)], .sl 1 0 (rows64 (out)) false, .box [.i (.v (.int .i64 (op))), .i (.v (.int .i64 (arg)))], .box [.i (.v (.int .i64 (af)))], .box [.i (.v (.int .i64 (op))), .i (.v (.int .i64 (arg)))], .box [.i (.v (.int .i64 (i)))]]) else some (.normal, [.box [.i (.sl 2 (rowsI l) false)], .box [.i (.sl 0 [] true)], .box [.i (.v (.int .i64 (0)))], .box [.ref 4 0 0 (n)], .sl 1 0 (rows64 (out.set x.toNat af)) false, .box [.i (.v (.int .i64 (op))), .i (.v (.int .i64 (arg)))], .box [.i (.v (.int .i64 (af)))], .box [.i (.v (.int .i64 (op))), .i (.v (.int .i64 (arg)))], .box [.i (.v (.int .i64 (i)))]]) := by
  have hrow := rows64_get (l := out) (k := x.toNat) (by omega)
  generalize hy : out.getD x.toNat 0 = y at *
  rw [rd_step (fn := Tryd.f32) (k := 0) rfl]
  by_cases h1 : x < l.length
  · by_cases h2 : 0 ≤ y
    · by_cases h3 : y = af
      · rw [if_neg (fun h => h.2.2 h3)]
        subst h3
        simp (disch := first | omega | (simp only [vlen, rows64_len, rowsI_len]; omega)) only [vall, List.take_of_length_le, gB, gcW, gcR, posIn, renA, renL, Chunk.ren, Chunk.refs, evOpD, touchD, stepC, isFresh, nFresh, freshOf, mkR, hole, evL, evH, opd, get, putD, ofVal, cellOf, loadE, behind, lenE, idxAddrE, idxE, lookE, lookM, addPtr, intE, strE, unE, convE, AV.int, AV.bool, AV.str, ivs, take, frameOf, firstRegion, refsA, refsL, one, cellsA, floatOk, apartT, List.map, if_true, if_false, E_P, E_glob0, E_glob1, reduceCtorEq, beq_self_eq_true, ↓reduceIte, Nat.reduceEqDiff, cond_true, cond_false, Nat.reduceAdd, Nat.reduceSub, Nat.reduceMul, Nat.reduceLT, Nat.reduceLeDiff, Int.reduceToNat, Int.reduceLT, Int.reduceLE, Option.getD, Int.reduceMul, Int.reduceAdd, List.drop, List.take, Nat.reduceBEq, List.isEmpty, Int.reduceEq, Int.reduceNe, Int.reduceNeg, Int.reduceGT, Int.reduceGE, beq_true, beq_false, UInt8.reduceToNat, eqE, eq_self, foldE, maxE, minE, fillA, over, chop, List.replicate, leavesOk, leafOk, cellsEq, cellEq, E_byref, en32, bs22, bs46, rows64_len, rowsI_len, hrow, h1, h2, rows64_set]
      · rw [if_pos ⟨h1, h2, h3⟩]
        simp (disch := first | omega | (simp only [vlen, rows64_len, rowsI_len]; omega)) only [vall, List.take_of_length_le, gB, gcW, gcR, posIn, renA, renL, Chunk.ren, Chunk.refs, evOpD, touchD, stepC, isFresh, nFresh, freshOf, mkR, hole, evL, evH, opd, get, putD, ofVal, cellOf, loadE, behind, lenE, idxAddrE, idxE, lookE, lookM, addPtr, intE, strE, unE, convE, AV.int, AV.bool, AV.str, ivs, take, frameOf, firstRegion, refsA, refsL, one, cellsA, floatOk, apartT, List.map, if_true, if_false, E_P, E_glob0, E_glob1, reduceCtorEq, beq_self_eq_true, ↓reduceIte, Nat.reduceEqDiff, cond_true, cond_false, Nat.reduceAdd, Nat.reduceSub, Nat.reduceMul, Nat.reduceLT, Nat.reduceLeDiff, Int.reduceToNat, Int.reduceLT, Int.reduceLE, Option.getD, Int.reduceMul, Int.reduceAdd, List.drop, List.take, Nat.reduceBEq, List.isEmpty, Int.reduceEq, Int.reduceNe, Int.reduceNeg, Int.reduceGT, Int.reduceGE, beq_true, beq_false, UInt8.reduceToNat, eqE, eq_self, foldE, maxE, minE, fillA, over, chop, List.replicate, leavesOk, leafOk, cellsEq, cellEq, E_byref, en32, bs22, bs46, rows64_len, rowsI_len, hrow, h1, h2, h3, rows64_set]
    · rw [if_neg (fun h => h2 h.2.1)]
      simp (disch := first | omega | (simp only [vlen, rows64_len, rowsI_len]; omega)) only [vall, List.take_of_length_le, gB, gcW, gcR, posIn, renA, renL, Chunk.ren, Chunk.refs, evOpD, touchD, stepC, isFresh, nFresh, freshOf, mkR, hole, evL, evH, opd, get, putD, ofVal, cellOf, loadE, behind, lenE, idxAddrE, idxE, lookE, lookM, addPtr, intE, strE, unE, convE, AV.int, AV.bool, AV.str, ivs, take, frameOf, firstRegion, refsA, refsL, one, cellsA, floatOk, apartT, List.map, if_true, if_false, E_P, E_glob0, E_glob1, reduceCtorEq, beq_self_eq_true, ↓reduceIte, Nat.reduceEqDiff, cond_true, cond_false, Nat.reduceAdd, Nat.reduceSub, Nat.reduceMul, Nat.reduceLT, Nat.reduceLeDiff, Int.reduceToNat, Int.reduceLT, Int.reduceLE, Option.getD, Int.reduceMul, Int.reduceAdd, List.drop, List.take, Nat.reduceBEq, List.isEmpty, Int.reduceEq, Int.reduceNe, Int.reduceNeg, Int.reduceGT, Int.reduceGE, beq_true, beq_false, UInt8.reduceToNat, eqE, eq_self, foldE, maxE, minE, fillA, over, chop, List.replicate, leavesOk, leafOk, cellsEq, cellEq, E_byref, en32, bs22, bs46, rows64_len, rowsI_len, hrow, h1, h2, rows64_set]
  · rw [if_neg (fun h => h1 h.1)]
    simp (disch := first | omega | (simp only [vlen, rows64_len, rowsI_len]; omega)) only [vall, List.take_of_length_le, gB, gcW, gcR, posIn, renA, renL, Chunk.ren, Chunk.refs, evOpD, touchD, stepC, isFresh, nFresh, freshOf, mkR, hole, evL, evH, opd, get, putD, ofVal, cellOf, loadE, behind, lenE, idxAddrE, idxE, lookE, lookM, addPtr, intE, strE, unE, convE, AV.int, AV.bool, AV.str, ivs, take, frameOf, firstRegion, refsA, refsL, one, cellsA, floatOk, apartT, List.map, if_true, if_false, E_P, E_glob0, E_glob1, reduceCtorEq, beq_self_eq_true, ↓reduceIte, Nat.reduceEqDiff, cond_true, cond_false, Nat.reduceAdd, Nat.reduceSub, Nat.reduceMul, Nat.reduceLT, Nat.reduceLeDiff, Int.reduceToNat, Int.reduceLT, Int.reduceLE, Option.getD, Int.reduceMul, Int.reduceAdd, List.drop, List.take, Nat.reduceBEq, List.isEmpty, Int.reduceEq, Int.reduceNe, Int.reduceNeg, Int.reduceGT, Int.reduceGE, beq_true, beq_false, UInt8.reduceToNat, eqE, eq_self, foldE, maxE, minE, fillA, over, chop, List.replicate, leavesOk, leafOk, cellsEq, cellEq, E_byref, en32, bs22, bs46, rows64_len, rowsI_len, hrow, h1, rows64_set]
end Go.VI

namespace Go.VI
open Go.Proofs
set_option maxRecDepth 100000
set_option linter.unusedSimpArgs false
set_option linter.unusedVariables false
set_option maxHeartbeats 4000000
theorem c33 (op arg i : Int) : callT E 33 [.agg [.i (.v (.int .i64 op)), .i (.v (.int .i64 arg))], .i (.v (.int .i64 i))] [] = some (.clo (.func 49) [] [.ptr 0 0 0 0, .ptr 1 0 0 0], [.box [.i (.v (.int .i64 op)), .i (.v (.int .i64 arg))], .box [.i (.v (.int .i64 i))]]) := by
  rw [callT_eq Tryd.func33 rfl fok33 (by simp [Tryd.ntmps33])]
  simp (disch := first | omega | (simp only [vlen]; omega)) only [vall, List.take_of_length_le, gB, gcW, gcR, posIn, renA, renL, Chunk.ren, Chunk.refs, evOpD, touchD, stepC, isFresh, nFresh, freshOf, mkR, hole, evL, evH, opd, get, putD, ofVal, cellOf, loadE, behind, lenE, idxAddrE, idxE, lookE, lookM, addPtr, intE, strE, unE, convE, AV.int, AV.bool, AV.str, ivs, take, frameOf, firstRegion, refsA, refsL, one, cellsA, floatOk, apartT, List.map, if_true, if_false, E_P, E_glob0, E_glob1, reduceCtorEq, beq_self_eq_true, ↓reduceIte, Nat.reduceEqDiff, cond_true, cond_false, Nat.reduceAdd, Nat.reduceSub, Nat.reduceMul, Nat.reduceLT, Nat.reduceLeDiff, Int.reduceToNat, Int.reduceLT, Int.reduceLE, Option.getD, Int.reduceMul, Int.reduceAdd, List.drop, List.take, Nat.reduceBEq, List.isEmpty, Int.reduceEq, Int.reduceNe, Int.reduceNeg, Int.reduceGT, Int.reduceGE, beq_true, beq_false, UInt8.reduceToNat, eqE, eq_self, foldE, maxE, minE, fillA, over, chop, List.replicate, leavesOk, leafOk, cellsEq, cellEq, E_byref, en33]
theorem ik33 (op arg i : Int) (H : Hp) : isoK E (callT E) 33 [.agg [.i (.v (.int .i64 op)), .i (.v (.int .i64 arg))], .i (.v (.int .i64 i))] H = some (.clo (.func 49) [] [.ptr H.length 0 0 0, .ptr (H.length + 1) 0 0 0], H ++ [.box [.i (.v (.int .i64 op)), .i (.v (.int .i64 arg))], .box [.i (.v (.int .i64 i))]]) := by
  have h := c33 op arg i
  unfold isoK
  simp [exCl, show E.ext 33 = none from rfl, refsL, refsA, reach, renL, renA, posIn, h, Chunk.refs, Chunk.ren, setAll, backRen]
  exact Nat.add_comm _ _
theorem rg32 (l : List Ins) (hl : l.length < 100000) (n : Nat) (hn : n = l.length + 1) (op arg af i k : Int) : ∀ (xs : List Int), (∀ x ∈ xs, 0 ≤ x ∧ x ≤ l.length) → ∀ out : List Int, out.length = n →
    (∃ out', dSet l.length af xs out = some out' ∧ out'.length = n ∧ rgE (rdF E 32 (rfAt Tryd.f32 0)) 73 [(1, .ptr 0 0 0 0), (2, .ptr 1 0 0 0), (3, .ptr 2 0 0 0), (5, .ptr 3 0 0 0), (9, .ptr 6 0 0 0), (31, .i (.sl 2 (rowsI l) false)), (32, .i (.v (.int .i64 l.length))), (33, .i (.v (.int .i64 (k)))), (72, .clo (.func 49) [] [.ptr 7 0 0 0, .ptr 8 0 0 0])] [.ptr 7 0 0 0, .ptr 8 0 0 0] [[op, arg], [i]] xs [.box [.i (.sl 2 (rowsI l) false)], .box [.i (.sl 0 [] true)], .box [.i (.v (.int .i64 (0)))], .box [.ref 4 0 0 (n)], .sl 1 0 (rows64 (out)) false, .box [.i (.v (.int .i64 (op))), .i (.v (.int .i64 (arg)))], .box [.i (.v (.int .i64 (af)))], .box [.i (.v (.int .i64 (op))), .i (.v (.int .i64 (arg)))], .box [.i (.v (.int .i64 (i)))]] = some (.normal, [(1, .ptr 0 0 0 0), (2, .ptr 1 0 0 0), (3, .ptr 2 0 0 0), (5, .ptr 3 0 0 0), (9, .ptr 6 0 0 0), (31, .i (.sl 2 (rowsI l) false)), (32, .i (.v (.int .i64 l.length))), (33, .i (.v (.int .i64 (k)))), (72, .clo (.func 49) [] [.ptr 7 0 0 0, .ptr 8 0 0 0])], [.box [.i (.sl 2 (rowsI l) false)], .box [.i (.sl 0 [] true)], .box [.i (.v (.int .i64 (0)))], .box [.ref 4 0 0 (n)], .sl 1 0 (rows64 (out')) false, .box [.i (.v (.int .i64 (op))), .i (.v (.int .i64 (arg)))], .box [.i (.v (.int .i64 (af)))], .box [.i (.v (.int .i64 (op))), .i (.v (.int .i64 (arg)))], .box [.i (.v (.int .i64 (i)))]])) ∨
    (dSet l.length af xs out = none ∧ ∃ out', rgE (rdF E 32 (rfAt Tryd.f32 0)) 73 [(1, .ptr 0 0 0 0), (2, .ptr 1 0 0 0), (3, .ptr 2 0 0 0), (5, .ptr 3 0 0 0), (9, .ptr 6 0 0 0), (31, .i (.sl 2 (rowsI l) false)), (32, .i (.v (.int .i64 l.length))), (33, .i (.v (.int .i64 (k)))), (72, .clo (.func 49) [] [.ptr 7 0 0 0, .ptr 8 0 0 0])] [.ptr 7 0 0 0, .ptr 8 0 0 0] [[op, arg], [i]] xs [.box [.i (.sl 2 (rowsI l) false)], .box [.i (.sl 0 [] true)], .box [.i (.v (.int .i64 (0)))], .box [.ref 4 0 0 (n)], .sl 1 0 (rows64 (out)) false, .box [.i (.v (.int .i64 (op))), .i (.v (.int .i64 (arg)))], .box [.i (.v (.int .i64 (af)))], .box [.i (.v (.int .i64 (op))), .i (.v (.int .i64 (arg)))], .box [.i (.v (.int .i64 (i)))]] = some (.ret, [(1, .ptr 0 0 0 0), (2, .ptr 1 0 0 0), (3, .ptr 2 0 0 0), (5, .ptr 3 0 0 0), (9, .ptr 6 0 0 0), (31, .i (.sl 2 (rowsI l) false)), (32, .i (.v (.int .i64 l.length))), (33, .i (.v (.int .i64 (k)))), (72, .clo (.func 49) [] [.ptr 7 0 0 0, .ptr 8 0 0 0])], [.box [.i (.sl 2 (rowsI l) false)], .box [.i (.sl 0 [] true)], .box [.i (.v (.int .i64 (13)))], .box [.ref 4 0 0 (n)], .sl 1 0 (rows64 (out')) false, .box [.i (.v (.int .i64 (op))), .i (.v (.int .i64 (arg)))], .box [.i (.v (.int .i64 (af)))], .box [.i (.v (.int .i64 (op))), .i (.v (.int .i64 (arg)))], .box [.i (.v (.int .i64 (i)))]]))
  | [], _, out, ho => .inl ⟨out, rfl, ho, rfl⟩
  | x :: xs, hx, out, ho => by
    have h1 := rd32 l hl n hn out ho op arg af i k x (hx x (.head _))
    rw [rgE_cons, h1]
    simp only [dSet]
    by_cases hc : x < l.length ∧ 0 ≤ out.getD x.toNat 0 ∧ out.getD x.toNat 0 ≠ af
    · rw [if_pos hc, if_pos hc]
      exact .inr ⟨rfl, out, rfl⟩
    · rw [if_neg hc, if_neg hc, rgN_n, if_pos (show capsI _ [.ptr 7 0 0 0, .ptr 8 0 0 0] = some [[op, arg], [i]] from rfl)]
      exact rg32 l hl n hn op arg af i k xs (fun y hy => hx y (.tail _ hy)) (out.set x.toNat af) (by simpa using ho)
theorem sucL_in {n k : Nat} {op arg : Int} (hk : k < n) (h : chk1 n k (op, arg) = 0) : (0 ≤ op ∧ op ≤ 20) ∧ ∀ x ∈ sucL op arg k, (k : Int) < x ∧ x ≤ n := by
  unfold chk1 at h
  simp only at h
  split at h
  · cases h
  rename_i h1
  split at h
  · cases h
  rename_i h2
  refine ⟨by omega, fun x hx => ?_⟩
  unfold sucL at hx
  rw [List.mem_append] at hx
  rcases hx with hx | hx
  · split at hx
    · cases hx
    · rw [List.mem_singleton] at hx; omega
  · split at hx
    · rename_i hj
      rw [List.mem_singleton] at hx
      subst hx
      have h1 : ¬ op = 1 := by omega
      unfold boundsS at h2
      rw [if_neg h1, if_pos hj] at h2
      simp only at h2
      omega
    · cases hx
theorem dSet_r {n after : Int} (ha : 0 ≤ after ∧ after ≤ 16) : ∀ (ks out out' : List Int), dSet n after ks out = some out' → (∀ x ∈ out, -1 ≤ x ∧ x ≤ 16) → ∀ x ∈ out', -1 ≤ x ∧ x ≤ 16
  | [], out, out', h, hr => by simp only [dSet, Option.some.injEq] at h; subst h; exact hr
  | k :: ks, out, out', h, hr => by
    simp only [dSet] at h
    split at h
    · cases h
    · exact dSet_r ha ks _ out' h fun x hx => by
        rcases List.mem_or_eq_of_mem_set hx with h1 | h1
        · exact hr x h1
        · omega
theorem dSet_len {n after : Int} : ∀ (ks out out' : List Int), dSet n after ks out = some out' → out'.length = out.length
  | [], out, out', h => by simp only [dSet, Option.some.injEq] at h; subst h; rfl
  | k :: ks, out, out', h => by
    simp only [dSet] at h
    split at h
    · cases h
    · rw [dSet_len ks _ out' h, List.length_set]
def dP (l : List Ins) (n : Nat) (fr : Fr) (ex : Ex) (H' : Hp) : Option (List Int) → Prop
  | some out' => ex = .exit 2 ∧ out'.length = n ∧ H' = [.box [.i (.sl 2 (rowsI l) false)], .box [.i (.sl 0 [] true)], .box [.i (.v (.int .i64 0))], .box [.ref 4 0 0 (n)], .sl 1 0 (rows64 (out')) false] ∧ get 1 fr = .ptr 0 0 0 0 ∧ get 2 fr = .ptr 1 0 0 0 ∧ get 3 fr = .ptr 2 0 0 0 ∧ get 5 fr = .ptr 3 0 0 0
  | none => ex = .ret ∧ H'[1]? = some (.box [.i (.sl 0 [] true)]) ∧ H'[2]? = some (.box [.i (.v (.int .i64 13))]) ∧ get 2 fr = .ptr 1 0 0 0 ∧ get 3 fr = .ptr 2 0 0 0
theorem l32_1 (l : List Ins) (hl : l.length ≤ 500) (n : Nat) (hn : n = l.length + 1) (hok : ∀ (j : Nat) (h : j < l.length), chk1 l.length j l[j] = 0) (k : Nat) (hk : k ≤ l.length) (out : List Int) (ho : out.length = n) (hr : ∀ x ∈ out, -1 ≤ x ∧ x ≤ 16) :
    ∃ fr ex H', rl E 0 32 (loopAt Tryd.f32 1) [(1, .ptr 0 0 0 0), (2, .ptr 1 0 0 0), (3, .ptr 2 0 0 0), (5, .ptr 3 0 0 0), (31, .i (.sl 2 (rowsI l) false)), (32, .i (.v (.int .i64 l.length))), (33, .i (.v (.int .i64 (k))))] [.box [.i (.sl 2 (rowsI l) false)], .box [.i (.sl 0 [] true)], .box [.i (.v (.int .i64 0))], .box [.ref 4 0 0 (n)], .sl 1 0 (rows64 (out)) false] = some (ex, fr, H') ∧ dP l n fr ex H' (dRun l.length k (l.drop k) out) := by
  rw [rl_step (fn := Tryd.f32) (k := 1) rfl]
  by_cases hlt : k < l.length
  · have hrow := rowsI_at hlt
    have hck := hok k hlt
    rw [List.drop_eq_getElem_cons hlt, dRun, dStep]
    have ih := fun out ho hr => l32_1 l hl n hn hok (k + 1) hlt out ho hr
    obtain ⟨op, arg, hp⟩ : ∃ op arg, l[k] = (op, arg) := ⟨_, _, rfl⟩
    rw [hp] at hrow hck ⊢
    simp only at hrow ⊢
    obtain ⟨⟨o1, o2⟩, hsuc⟩ := sucL_in hlt hck
    have hd := rows64_get (l := out) (k := k) (by omega)
    have hdr := hr (out.getD k 0) (by rw [List.getD_eq_getElem?_getD, List.getElem?_eq_getElem (by omega)]; exact List.getElem_mem _)
    have hpo := pops_at o1 o2
    have hpu := pushes_at o1 o2
    have hp1 := popS_r op
    have hp2 := pushS_r op
    have hrg := fun af => rg32 l (by omega) n hn op arg af k k (sucL op arg k) (fun x hx => by have := hsuc x hx; omega) out ho
    have hsq := seqSucc_eq op arg k (by omega) (by omega)
    generalize out.getD k 0 = d at *
    generalize popS op = po at *
    generalize pushS op = pu at *
    generalize sucL op arg k = xs at *
    by_cases h1 : d < 0
    · rw [if_pos h1]
      simp only
      obtain ⟨fr, ex, H', e, hh⟩ := ih out ho hr
      refine ⟨fr, ex, H', Eq.trans ?_ e, hh⟩
      clear e hh ih hrg
      simp (disch := first | omega | (simp only [vlen, rowsI_len, rows64_len]; omega)) only [vall, List.take_of_length_le, gB, gcW, gcR, posIn, renA, renL, Chunk.ren, Chunk.refs, evOpD, touchD, stepC, isFresh, nFresh, freshOf, mkR, hole, evL, evH, opd, get, putD, ofVal, cellOf, loadE, behind, lenE, idxAddrE, idxE, lookE, lookM, addPtr, intE, strE, unE, convE, AV.int, AV.bool, AV.str, ivs, take, frameOf, firstRegion, refsA, refsL, one, cellsA, floatOk, apartT, List.map, if_true, if_false, E_P, E_glob0, E_glob1, reduceCtorEq, beq_self_eq_true, ↓reduceIte, Nat.reduceEqDiff, cond_true, cond_false, Nat.reduceAdd, Nat.reduceSub, Nat.reduceMul, Nat.reduceLT, Nat.reduceLeDiff, Int.reduceToNat, Int.reduceLT, Int.reduceLE, Option.getD, Int.reduceMul, Int.reduceAdd, List.drop, List.take, Nat.reduceBEq, List.isEmpty, Int.reduceEq, Int.reduceNe, Int.reduceNeg, Int.reduceGT, Int.reduceGE, beq_true, beq_false, UInt8.reduceToNat, eqE, eq_self, foldE, maxE, minE, fillA, over, chop, List.replicate, leavesOk, leafOk, cellsEq, cellEq, E_byref, en32, bs22, bs46, hrow, rowsI_len, rows64_len, hd, h1, show ∀ B fr H, execT E B 32 (Code.loop _) fr H = rlG E B 32 (loopAt Tryd.f32 1) (gcn B (norm [1, 2, 3, 5, 31, 32, 33] fr) H) from fun B fr H => rl_intro rfl mt32_12 mb32_12 zf32_12 hd32_12 fr H]
    · rw [if_neg h1]
      by_cases h2 : d < po
      · rw [if_pos (.inl h2)]
        clear ih hrg
        simp (disch := first | omega | (simp only [vlen, rowsI_len, rows64_len]; omega)) only [vall, List.take_of_length_le, gB, gcW, gcR, posIn, renA, renL, Chunk.ren, Chunk.refs, evOpD, touchD, stepC, isFresh, nFresh, freshOf, mkR, hole, evL, evH, opd, get, putD, ofVal, cellOf, loadE, behind, lenE, idxAddrE, idxE, lookE, lookM, addPtr, intE, strE, unE, convE, AV.int, AV.bool, AV.str, ivs, take, frameOf, firstRegion, refsA, refsL, one, cellsA, floatOk, apartT, List.map, if_true, if_false, E_P, E_glob0, E_glob1, reduceCtorEq, beq_self_eq_true, ↓reduceIte, Nat.reduceEqDiff, cond_true, cond_false, Nat.reduceAdd, Nat.reduceSub, Nat.reduceMul, Nat.reduceLT, Nat.reduceLeDiff, Int.reduceToNat, Int.reduceLT, Int.reduceLE, Option.getD, Int.reduceMul, Int.reduceAdd, List.drop, List.take, Nat.reduceBEq, List.isEmpty, Int.reduceEq, Int.reduceNe, Int.reduceNeg, Int.reduceGT, Int.reduceGE, beq_true, beq_false, UInt8.reduceToNat, eqE, eq_self, foldE, maxE, minE, fillA, over, chop, List.replicate, leavesOk, leafOk, cellsEq, cellEq, E_byref, en32, bs22, bs46, hrow, rowsI_len, rows64_len, hd, hpo, hpu, h1, h2, Nat.mul_one, show ∀ B fr H, execT E B 32 (Code.loop _) fr H = rlG E B 32 (loopAt Tryd.f32 1) (gcn B (norm [1, 2, 3, 5, 31, 32, 33] fr) H) from fun B fr H => rl_intro rfl mt32_12 mb32_12 zf32_12 hd32_12 fr H]
        refine ⟨_, _, _, rfl, ?_⟩
        exact ⟨rfl, rfl, rfl, rfl, rfl⟩
      · by_cases h3 : 16 < d - po + pu
        · rw [if_pos (.inr h3)]
          clear ih hrg
          simp (disch := first | omega | (simp only [vlen, rowsI_len, rows64_len]; omega)) only [vall, List.take_of_length_le, gB, gcW, gcR, posIn, renA, renL, Chunk.ren, Chunk.refs, evOpD, touchD, stepC, isFresh, nFresh, freshOf, mkR, hole, evL, evH, opd, get, putD, ofVal, cellOf, loadE, behind, lenE, idxAddrE, idxE, lookE, lookM, addPtr, intE, strE, unE, convE, AV.int, AV.bool, AV.str, ivs, take, frameOf, firstRegion, refsA, refsL, one, cellsA, floatOk, apartT, List.map, if_true, if_false, E_P, E_glob0, E_glob1, reduceCtorEq, beq_self_eq_true, ↓reduceIte, Nat.reduceEqDiff, cond_true, cond_false, Nat.reduceAdd, Nat.reduceSub, Nat.reduceMul, Nat.reduceLT, Nat.reduceLeDiff, Int.reduceToNat, Int.reduceLT, Int.reduceLE, Option.getD, Int.reduceMul, Int.reduceAdd, List.drop, List.take, Nat.reduceBEq, List.isEmpty, Int.reduceEq, Int.reduceNe, Int.reduceNeg, Int.reduceGT, Int.reduceGE, beq_true, beq_false, UInt8.reduceToNat, eqE, eq_self, foldE, maxE, minE, fillA, over, chop, List.replicate, leavesOk, leafOk, cellsEq, cellEq, E_byref, en32, bs22, bs46, hrow, rowsI_len, rows64_len, hd, hpo, hpu, h1, h2, h3, Nat.mul_one, show ∀ B fr H, execT E B 32 (Code.loop _) fr H = rlG E B 32 (loopAt Tryd.f32 1) (gcn B (norm [1, 2, 3, 5, 31, 32, 33] fr) H) from fun B fr H => rl_intro rfl mt32_12 mb32_12 zf32_12 hd32_12 fr H]
          refine ⟨_, _, _, rfl, ?_⟩
          exact ⟨rfl, rfl, rfl, rfl, rfl⟩
        · rw [if_neg (by omega)]
          rcases hrg (d - po + pu) with ⟨out', g1, g2, g3⟩ | ⟨g1, out', g3⟩
          · rw [g1]
            simp only
            obtain ⟨fr, ex, H', e, hh⟩ := ih out' g2 (dSet_r (by omega) xs out out' g1 hr)
            refine ⟨fr, ex, H', Eq.trans ?_ e, hh⟩
            clear e hh ih hrg
            simp (disch := first | omega | (simp only [vlen, rowsI_len, rows64_len]; omega)) only [vall, List.take_of_length_le, gB, gcW, gcR, posIn, renA, renL, Chunk.ren, Chunk.refs, evOpD, touchD, stepC, isFresh, nFresh, freshOf, mkR, hole, evL, evH, opd, get, putD, ofVal, cellOf, loadE, behind, lenE, idxAddrE, idxE, lookE, lookM, addPtr, intE, strE, unE, convE, AV.int, AV.bool, AV.str, ivs, take, frameOf, firstRegion, refsA, refsL, one, cellsA, floatOk, apartT, List.map, if_true, if_false, E_P, E_glob0, E_glob1, reduceCtorEq, beq_self_eq_true, ↓reduceIte, Nat.reduceEqDiff, cond_true, cond_false, Nat.reduceAdd, Nat.reduceSub, Nat.reduceMul, Nat.reduceLT, Nat.reduceLeDiff, Int.reduceToNat, Int.reduceLT, Int.reduceLE, Option.getD, Int.reduceMul, Int.reduceAdd, List.drop, List.take, Nat.reduceBEq, List.isEmpty, Int.reduceEq, Int.reduceNe, Int.reduceNeg, Int.reduceGT, Int.reduceGE, beq_true, beq_false, UInt8.reduceToNat, eqE, eq_self, foldE, maxE, minE, fillA, over, chop, List.replicate, leavesOk, leafOk, cellsEq, cellEq, E_byref, en32, bs22, bs46, hrow, rowsI_len, rows64_len, hd, hpo, hpu, h1, h2, h3, Nat.mul_one, ik33, hsq, g3, show ∀ B fr H, execT E B 32 (Code.rangeFunc _ _ _ _) fr H = rgO (rdF E 32 (rfAt Tryd.f32 0)) 73 fr H (seqE E H (opd E fr _)) from fun B fr H => rf_intro rfl rfl fr H, show ∀ B fr H, execT E B 32 (Code.loop _) fr H = rlG E B 32 (loopAt Tryd.f32 1) (gcn B (norm [1, 2, 3, 5, 31, 32, 33] fr) H) from fun B fr H => rl_intro rfl mt32_12 mb32_12 zf32_12 hd32_12 fr H]
          · rw [g1]
            simp only
            clear ih hrg
            simp (disch := first | omega | (simp only [vlen, rowsI_len, rows64_len]; omega)) only [vall, List.take_of_length_le, gB, gcW, gcR, posIn, renA, renL, Chunk.ren, Chunk.refs, evOpD, touchD, stepC, isFresh, nFresh, freshOf, mkR, hole, evL, evH, opd, get, putD, ofVal, cellOf, loadE, behind, lenE, idxAddrE, idxE, lookE, lookM, addPtr, intE, strE, unE, convE, AV.int, AV.bool, AV.str, ivs, take, frameOf, firstRegion, refsA, refsL, one, cellsA, floatOk, apartT, List.map, if_true, if_false, E_P, E_glob0, E_glob1, reduceCtorEq, beq_self_eq_true, ↓reduceIte, Nat.reduceEqDiff, cond_true, cond_false, Nat.reduceAdd, Nat.reduceSub, Nat.reduceMul, Nat.reduceLT, Nat.reduceLeDiff, Int.reduceToNat, Int.reduceLT, Int.reduceLE, Option.getD, Int.reduceMul, Int.reduceAdd, List.drop, List.take, Nat.reduceBEq, List.isEmpty, Int.reduceEq, Int.reduceNe, Int.reduceNeg, Int.reduceGT, Int.reduceGE, beq_true, beq_false, UInt8.reduceToNat, eqE, eq_self, foldE, maxE, minE, fillA, over, chop, List.replicate, leavesOk, leafOk, cellsEq, cellEq, E_byref, en32, bs22, bs46, hrow, rowsI_len, rows64_len, hd, hpo, hpu, h1, h2, h3, Nat.mul_one, ik33, hsq, g3, show ∀ B fr H, execT E B 32 (Code.rangeFunc _ _ _ _) fr H = rgO (rdF E 32 (rfAt Tryd.f32 0)) 73 fr H (seqE E H (opd E fr _)) from fun B fr H => rf_intro rfl rfl fr H, show ∀ B fr H, execT E B 32 (Code.loop _) fr H = rlG E B 32 (loopAt Tryd.f32 1) (gcn B (norm [1, 2, 3, 5, 31, 32, 33] fr) H) from fun B fr H => rl_intro rfl mt32_12 mb32_12 zf32_12 hd32_12 fr H]
            refine ⟨_, _, _, rfl, ?_⟩
            exact ⟨rfl, rfl, rfl, rfl, rfl⟩
  · obtain rfl : k = l.length := by omega
    rw [List.drop_length, dRun]
    simp (disch := first | omega | (simp only [vlen, rows64_len, rowsI_len]; omega)) only [vall, List.take_of_length_le, gB, gcW, gcR, posIn, renA, renL, Chunk.ren, Chunk.refs, evOpD, touchD, stepC, isFresh, nFresh, freshOf, mkR, hole, evL, evH, opd, get, putD, ofVal, cellOf, loadE, behind, lenE, idxAddrE, idxE, lookE, lookM, addPtr, intE, strE, unE, convE, AV.int, AV.bool, AV.str, ivs, take, frameOf, firstRegion, refsA, refsL, one, cellsA, floatOk, apartT, List.map, if_true, if_false, E_P, E_glob0, E_glob1, reduceCtorEq, beq_self_eq_true, ↓reduceIte, Nat.reduceEqDiff, cond_true, cond_false, Nat.reduceAdd, Nat.reduceSub, Nat.reduceMul, Nat.reduceLT, Nat.reduceLeDiff, Int.reduceToNat, Int.reduceLT, Int.reduceLE, Option.getD, Int.reduceMul, Int.reduceAdd, List.drop, List.take, Nat.reduceBEq, List.isEmpty, Int.reduceEq, Int.reduceNe, Int.reduceNeg, Int.reduceGT, Int.reduceGE, beq_true, beq_false, UInt8.reduceToNat, eqE, eq_self, foldE, maxE, minE, fillA, over, chop, List.replicate, leavesOk, leafOk, cellsEq, cellEq, E_byref, en32, bs22, bs46, rows64_len, rowsI_len, show ∀ B fr H, execT E B 32 (Code.loop _) fr H = rlG E B 32 (loopAt Tryd.f32 1) (gcn B (norm [1, 2, 3, 5, 31, 32, 33] fr) H) from fun B fr H => rl_intro rfl mt32_12 mb32_12 zf32_12 hd32_12 fr H]
    exact ⟨_, _, _, rfl, rfl, ho, rfl, rfl, rfl, rfl, rfl⟩
termination_by l.length - k
end Go.VI

namespace Go.VI
open Go.Proofs
set_option maxRecDepth 100000
set_option linter.unusedSimpArgs false
set_option linter.unusedVariables false
set_option maxHeartbeats 4000000
theorem rows64_take (l : List Int) (k : Nat) : (rows64 l).take k = rows64 (l.take k) := by simp [rows64, List.map_take]
theorem chkL_ok {n : Int} : ∀ (l : List Ins) (k : Nat), chkL n k l = 0 → ∀ (j : Nat) (h : j < l.length), chk1 n ((k + j : Nat)) l[j] = 0
  | [], k, _, j, h => by simp at h
  | p :: r, k, hc, j, h => by
    simp only [chkL] at hc
    split at hc
    · rename_i h1
      cases j with
      | zero => simpa using h1
      | succ j =>
        have := chkL_ok r (k + 1) hc j (by simpa using h)
        simpa [Nat.add_assoc, Nat.add_comm 1 j] using this
    · rename_i h1
      exact absurd hc h1
theorem check_len {l : List Ins} (h : checkI l = 0) : l.length ≤ 500 := by
  unfold checkI at h
  split at h
  · cases h
  · omega
theorem check_ok {l : List Ins} (h : checkI l = 0) (j : Nat) (hj : j < l.length) : chk1 l.length j l[j] = 0 := by
  unfold checkI at h
  split at h
  · cases h
  · simpa using chkL_ok l 0 h j hj
theorem c32 (l : List Ins) (hl : (l.length : Int) < 9223372036854775808) : ∃ L, callT E 32 [.i (.sl 2 (rowsI l) false)] [] = some (.tup [.i (.sl 1 (rows64 (depthsS l).1) false), .i (.v (.int .i64 (depthsS l).2))], L) := by
  have hC := fun H => ik23 l hl H
  unfold depthsS
  by_cases h0 : checkI l = 0
  rotate_left
  · rw [if_neg h0]
    generalize checkI l = q at *
    simp only
    have hz : rows64 [] = [] := rfl
    rw [hz]
    rw [callT_eq Tryd.func32 rfl fok32 (by simp [Tryd.ntmps32])]
    simp (disch := first | omega | (simp only [vlen]; omega)) only [vall, List.take_of_length_le, gB, gcW, gcR, posIn, renA, renL, Chunk.ren, Chunk.refs, evOpD, touchD, stepC, isFresh, nFresh, freshOf, mkR, hole, evL, evH, opd, get, putD, ofVal, cellOf, loadE, behind, lenE, idxAddrE, idxE, lookE, lookM, addPtr, intE, strE, unE, convE, AV.int, AV.bool, AV.str, ivs, take, frameOf, firstRegion, refsA, refsL, one, cellsA, floatOk, apartT, List.map, if_true, if_false, E_P, E_glob0, E_glob1, reduceCtorEq, beq_self_eq_true, ↓reduceIte, Nat.reduceEqDiff, cond_true, cond_false, Nat.reduceAdd, Nat.reduceSub, Nat.reduceMul, Nat.reduceLT, Nat.reduceLeDiff, Int.reduceToNat, Int.reduceLT, Int.reduceLE, Option.getD, Int.reduceMul, Int.reduceAdd, List.drop, List.take, Nat.reduceBEq, List.isEmpty, Int.reduceEq, Int.reduceNe, Int.reduceNeg, Int.reduceGT, Int.reduceGE, beq_true, beq_false, UInt8.reduceToNat, eqE, eq_self, foldE, maxE, minE, fillA, over, chop, List.replicate, leavesOk, leafOk, cellsEq, cellEq, E_byref, en32, bs22, bs46, hC, h0]
    exact ⟨_, rfl⟩
  · rw [if_pos h0]
    rw [h0] at hC
    have h5 := check_len h0
    have hnn : ((l.length : Int) + 1).toNat = l.length + 1 := by omega
    obtain ⟨fr0, e0, f1, f2, f3, f5⟩ := l32_0 l (l.length + 1) (by omega) 0 (Nat.zero_le _)
    rw [Nat.sub_zero, List.replicate_zero, List.nil_append] at e0
    have e0' : rl E 0 32 (loopAt Tryd.f32 0) [(1, .ptr 0 0 0 0), (2, .ptr 1 0 0 0), (3, .ptr 2 0 0 0), (5, .ptr 3 0 0 0), (21, .i (.v (.int .i64 ((l.length + 1 : Nat))))), (22, .i (.v (.int .i64 (0))))] [.box [.i (.sl 2 (rowsI l) false)], .box [.i (.sl 0 [] true)], .box [.i (.v (.int .i64 0))], .box [.ref 4 0 0 (l.length + 1)], .sl 1 0 ([.v (.int .i64 0)] :: rows64 (List.replicate l.length 0)) false] = _ := e0
    have hs : (List.replicate (l.length + 1) (-1 : Int)).set 0 0 = 0 :: List.replicate l.length (-1) := by rw [List.replicate_succ]; rfl
    have hrow : (rows64 (List.replicate (l.length + 1) (-1)))[0]? = some [.v (.int .i64 (-1))] := by rw [List.replicate_succ]; rfl
    obtain ⟨fr1, ex1, H1, e1, hh⟩ := l32_1 l h5 (l.length + 1) rfl (check_ok h0) 0 (Nat.zero_le _) (0 :: List.replicate l.length (-1)) (by simp) (fun x hx => by
      rcases List.mem_cons.1 hx with rfl | hx
      · omega
      · have := List.eq_of_mem_replicate hx; omega)
    rw [List.drop_zero] at hh
    have e1' : rl E 0 32 (loopAt Tryd.f32 1) [(1, .ptr 0 0 0 0), (2, .ptr 1 0 0 0), (3, .ptr 2 0 0 0), (5, .ptr 3 0 0 0), (31, .i (.sl 2 (rowsI l) false)), (32, .i (.v (.int .i64 l.length))), (33, .i (.v (.int .i64 (0))))] [.box [.i (.sl 2 (rowsI l) false)], .box [.i (.sl 0 [] true)], .box [.i (.v (.int .i64 0))], .box [.ref 4 0 0 ((l.length + 1 : Nat))], .sl 1 0 (rows64 (0 :: List.replicate l.length (-1))) false] = _ := e1
    rw [← hs] at e1'
    clear e0 e1
    cases hd : dRun l.length 0 l (0 :: List.replicate l.length (-1)) with
    | none =>
      rw [hd] at hh
      obtain ⟨rfl, g1, g2, g3, g4⟩ := hh
      simp only
      have hz : rows64 [] = [] := rfl
      rw [hz]
      generalize List.replicate (l.length + 1) (-1 : Int) = o1 at *
      clear hs
      rw [callT_eq Tryd.func32 rfl fok32 (by simp [Tryd.ntmps32])]
      simp (disch := first | omega | (simp only [vlen, rowsI_len, rows64_len]; omega)) only [vall, List.take_of_length_le, gB, gcW, gcR, posIn, renA, renL, Chunk.ren, Chunk.refs, evOpD, touchD, stepC, isFresh, nFresh, freshOf, mkR, hole, evL, evH, opd, get, putD, ofVal, cellOf, loadE, behind, lenE, idxAddrE, idxE, lookE, lookM, addPtr, intE, strE, unE, convE, AV.int, AV.bool, AV.str, ivs, take, frameOf, firstRegion, refsA, refsL, one, cellsA, floatOk, apartT, List.map, if_true, if_false, E_P, E_glob0, E_glob1, reduceCtorEq, beq_self_eq_true, ↓reduceIte, Nat.reduceEqDiff, cond_true, cond_false, Nat.reduceAdd, Nat.reduceSub, Nat.reduceMul, Nat.reduceLT, Nat.reduceLeDiff, Int.reduceToNat, Int.reduceLT, Int.reduceLE, Option.getD, Int.reduceMul, Int.reduceAdd, List.drop, List.take, Nat.reduceBEq, List.isEmpty, Int.reduceEq, Int.reduceNe, Int.reduceNeg, Int.reduceGT, Int.reduceGE, beq_true, beq_false, UInt8.reduceToNat, eqE, eq_self, foldE, maxE, minE, fillA, over, chop, List.replicate, leavesOk, leafOk, cellsEq, cellEq, E_byref, en32, bs22, bs46, hC, rowsI_len, rows64_len, rows64_rep, rows64_set, hnn, hrow, e0', f1, f2, f3, f5, e1', g1, g2, g3, g4, show ∀ B fr H, execT E B 32 (Code.loop _) fr H = rlG E B 32 (loopAt Tryd.f32 0) (gcn B (norm [1, 2, 3, 5, 21, 22] fr) H) from fun B fr H => rl_intro rfl mt32_6 mb32_6 zf32_6 hd32_6 fr H, show ∀ B fr H, execT E B 32 (Code.loop _) fr H = rlG E B 32 (loopAt Tryd.f32 1) (gcn B (norm [1, 2, 3, 5, 31, 32, 33] fr) H) from fun B fr H => rl_intro rfl mt32_12 mb32_12 zf32_12 hd32_12 fr H]
      exact ⟨_, rfl⟩
    | some out =>
      rw [hd] at hh
      obtain ⟨rfl, ho, rfl, g1, g2, g3, g5⟩ := hh
      simp only
      generalize List.replicate (l.length + 1) (-1 : Int) = o1 at *
      clear hs
      rw [callT_eq Tryd.func32 rfl fok32 (by simp [Tryd.ntmps32])]
      simp (disch := first | omega | (simp only [vlen, rowsI_len, rows64_len]; omega)) only [vall, List.take_of_length_le, gB, gcW, gcR, posIn, renA, renL, Chunk.ren, Chunk.refs, evOpD, touchD, stepC, isFresh, nFresh, freshOf, mkR, hole, evL, evH, opd, get, putD, ofVal, cellOf, loadE, behind, lenE, idxAddrE, idxE, lookE, lookM, addPtr, intE, strE, unE, convE, AV.int, AV.bool, AV.str, ivs, take, frameOf, firstRegion, refsA, refsL, one, cellsA, floatOk, apartT, List.map, if_true, if_false, E_P, E_glob0, E_glob1, reduceCtorEq, beq_self_eq_true, ↓reduceIte, Nat.reduceEqDiff, cond_true, cond_false, Nat.reduceAdd, Nat.reduceSub, Nat.reduceMul, Nat.reduceLT, Nat.reduceLeDiff, Int.reduceToNat, Int.reduceLT, Int.reduceLE, Option.getD, Int.reduceMul, Int.reduceAdd, List.drop, List.take, Nat.reduceBEq, List.isEmpty, Int.reduceEq, Int.reduceNe, Int.reduceNeg, Int.reduceGT, Int.reduceGE, beq_true, beq_false, UInt8.reduceToNat, eqE, eq_self, foldE, maxE, minE, fillA, over, chop, List.replicate, leavesOk, leafOk, cellsEq, cellEq, E_byref, en32, bs22, bs46, hC, rowsI_len, rows64_len, rows64_rep, rows64_set, rows64_take, hnn, hrow, e0', f1, f2, f3, f5, e1', g1, g2, g3, g5, show ∀ B fr H, execT E B 32 (Code.loop _) fr H = rlG E B 32 (loopAt Tryd.f32 0) (gcn B (norm [1, 2, 3, 5, 21, 22] fr) H) from fun B fr H => rl_intro rfl mt32_6 mb32_6 zf32_6 hd32_6 fr H, show ∀ B fr H, execT E B 32 (Code.loop _) fr H = rlG E B 32 (loopAt Tryd.f32 1) (gcn B (norm [1, 2, 3, 5, 31, 32, 33] fr) H) from fun B fr H => rl_intro rfl mt32_12 mb32_12 zf32_12 hd32_12 fr H]
      exact ⟨_, rfl⟩
theorem ik32 (l : List Ins) (hl : (l.length : Int) < 9223372036854775808) (H : Hp) : isoK E (callT E) 32 [.i (.sl 2 (rowsI l) false)] H = some (.tup [.i (.sl 1 (rows64 (depthsS l).1) false), .i (.v (.int .i64 (depthsS l).2))], H) := isoK_val rfl rfl rfl (c32 l hl)
theorem c19 (l : List Ins) (hl : (l.length : Int) < 9223372036854775808) : ∃ L, callT E 19 [.i (.sl 2 (rowsI l) false)] [] = some (.i (.v (.int .i64 (depthsS l).2)), L) := by
  have h := fun H => ik32 l hl H
  generalize depthsS l = q at *
  rw [callT_eq Tryd.func19 rfl fok19 (by simp [Tryd.ntmps19])]
  simp (disch := first | omega | (simp only [vlen]; omega)) only [vall, List.take_of_length_le, gB, gcW, gcR, posIn, renA, renL, Chunk.ren, Chunk.refs, evOpD, touchD, stepC, isFresh, nFresh, freshOf, mkR, hole, evL, evH, opd, get, putD, ofVal, cellOf, loadE, behind, lenE, idxAddrE, idxE, lookE, lookM, addPtr, intE, strE, unE, convE, AV.int, AV.bool, AV.str, ivs, take, frameOf, firstRegion, refsA, refsL, one, cellsA, floatOk, apartT, List.map, if_true, if_false, E_P, E_glob0, E_glob1, reduceCtorEq, beq_self_eq_true, ↓reduceIte, Nat.reduceEqDiff, cond_true, cond_false, Nat.reduceAdd, Nat.reduceSub, Nat.reduceMul, Nat.reduceLT, Nat.reduceLeDiff, Int.reduceToNat, Int.reduceLT, Int.reduceLE, Option.getD, Int.reduceMul, Int.reduceAdd, List.drop, List.take, Nat.reduceBEq, List.isEmpty, Int.reduceEq, Int.reduceNe, Int.reduceNeg, Int.reduceGT, Int.reduceGE, beq_true, beq_false, UInt8.reduceToNat, eqE, eq_self, foldE, maxE, minE, fillA, over, chop, List.replicate, leavesOk, leafOk, cellsEq, cellEq, E_byref, en19, bs22, h]
  exact ⟨_, rfl⟩
theorem ik19 (l : List Ins) (hl : (l.length : Int) < 9223372036854775808) (H : Hp) : isoK E (callT E) 19 [.i (.sl 2 (rowsI l) false)] H = some (.i (.v (.int .i64 (depthsS l).2)), H) := isoK_val rfl rfl rfl (c19 l hl)
end Go.VI

namespace Go.VI
open Go.Proofs
set_option maxRecDepth 100000
set_option linter.unusedSimpArgs false
set_option linter.unusedVariables false
set_option maxHeartbeats 4000000
theorem ran_true {f n : Nat} (h : (match call E n f [] [] with | some (.i (.v (.bool true)), _) => true | _ => false) = true) : ∃ L, callT E f [] [] = some (.i (.v (.bool true)), L) := by
  split at h
  · rename_i L hL; exact ⟨L, callT_of hL⟩
  · cases h
end Go.VI

namespace Go.VI
open Go.Proofs
set_option maxRecDepth 100000
set_option linter.unusedSimpArgs false
set_option linter.unusedVariables false
set_option maxHeartbeats 4000000
def fSet (i : Nat) : List Int → List Int → List Int
  | [], out => out
  | x :: xs, out => fSet i xs (out.set i (max (out.getD i 0) (out.getD x.toNat 0)))
def fStep (i : Nat) (p : Ins) (out : List Int) : List Int := (fSet i (sucL p.1 p.2 i) out).set i ((fSet i (sucL p.1 p.2 i) out).getD i 0 + 1)
def fRun (l : List Ins) : Nat → List Int → List Int
  | 0, out => out
  | k + 1, out => fRun l k (fStep k (l.getD k (0, 0)) out)
def fuelS (l : List Ins) : Int × Int := if checkI l = 0 then ((fRun l l.length (List.replicate (l.length + 1) 0)).getD 0 0, 0) else (0, checkI l)
theorem getD_set_int (l : List Int) (i j : Nat) (x : Int) : (l.set i x).getD j 0 = if i = j ∧ i < l.length then x else l.getD j 0 := by
  simp only [List.getD_eq_getElem?_getD, List.getElem?_set]
  by_cases h : i = j
  · subst h
    by_cases hl : i < l.length
    · simp [hl]
    · simp [hl]
  · simp [h]
theorem getD_mem_b {l : List Int} {P : Int → Prop} (h0 : P 0) (h : ∀ x ∈ l, P x) (j : Nat) : P (l.getD j 0) := by
  rw [List.getD_eq_getElem?_getD]
  cases hh : l[j]? with
  | none => exact h0
  | some x => exact h x (List.mem_of_getElem? hh)
theorem fSet_len (i : Nat) : ∀ (xs out : List Int), (fSet i xs out).length = out.length
  | [], out => rfl
  | x :: xs, out => by rw [fSet, fSet_len i xs, List.length_set]
theorem fStep_len (i : Nat) (p : Ins) (out : List Int) : (fStep i p out).length = out.length := by rw [fStep, List.length_set, fSet_len]
end Go.VI

namespace Go.VI
open Go.Proofs
set_option maxRecDepth 100000
set_option linter.unusedSimpArgs false
set_option linter.unusedVariables false
set_option maxHeartbeats 4000000
theorem isoK_mc2 {f : Nat} {ar X X' : List AV} {r : AV} (he : E.ext f = none) (ha : refsL ar = []) (hr : refsA r = []) (hX : refsL X = []) (hX' : refsL X' = [])
    (h : ∃ L, callT E f (.ptr 0 0 0 0 :: ar) [.box X] = some (r, .box X' :: L)) (A B : Chunk) (T : Hp) :
    isoK E (callT E) f (.ptr 2 0 0 0 :: ar) (A :: B :: .box X :: T) = some (r, A :: B :: .box X' :: T) := by
  obtain ⟨L, h⟩ := h
  have ha2 : ∀ ρ, renL ρ ar = ar := fun ρ => (refs_ren ρ).2 ar ha
  have hr2 : ∀ ρ, renA ρ r = r := fun ρ => (refs_ren ρ).1 r hr
  have hX2 : ∀ ρ, renL ρ X = X := fun ρ => (refs_ren ρ).2 X hX
  have hX2' : ∀ ρ, renL ρ X' = X' := fun ρ => (refs_ren ρ).2 X' hX'
  have hR := reach_one (L := A :: B :: .box X :: T) (c := 2) rfl hX
  unfold isoK
  simp [exCl, he, refsL, refsA, hR, renL, renA, posIn, Chunk.ren, ha, ha2, h, Chunk.refs, reach, setAll, backRen, hr, hr2, hX, hX', hX2, hX2']
theorem ik24_2 (row : Int) (g : IV) (c w r : Int) (k : Kk) (hk : okK k) (A B : Chunk) (T : Hp) :
    isoK E (callT E) 24 [.ptr 2 0 0 0] (A :: B :: .box (mcK row g c w r k) :: T) = some (.i (.v (.int .i64 (popV k))), A :: B :: .box (mcK row g c w r (popK k)) :: T) :=
  isoK_mc2 rfl rfl rfl mcK_refs mcK_refs (c24 row g c w r k.st k.d k.f hk.1 hk.2.1) A B T
theorem ik25_2 (op : Int) (ho : 0 ≤ op ∧ op ≤ 20 ∧ op ≠ 0 ∧ op ≠ 17 ∧ op ≠ 18) (row : Int) (l : List Gl) (hg : okG l) (c w r : Int) (k : Kk) (arg : Int) (hk : okK k) (hb : bI arg ∧ bI row ∧ bI c ∧ bI w) (A B : Chunk) (T : Hp) :
    isoK E (callT E) 25 [.ptr 2 0 0 0, .agg [.i (.v (.int .i64 op)), .i (.v (.int .i64 arg))]] (A :: B :: .box (mcK row (.sl 3 (rowsG l) false) c w r k) :: T) = some (.tup [], A :: B :: .box (mcK row (.sl 3 (rowsG l) false) (simK row l c w k op arg).1 (simK row l c w k op arg).2.1 r (simK row l c w k op arg).2.2) :: T) :=
  isoK_mc2 rfl rfl rfl mcK_refs mcK_refs (c25 op ho row l hg c w r k arg hk hb) A B T
def nextC (op arg i n : Int) (k : Kk) : Int := if op = 0 then n else if op = 17 then arg else if op = 18 ∧ popV k = 0 then arg else i + 1
def doC (row : Int) (g : List Gl) (op arg c w : Int) (k : Kk) : Int × Int × Kk := if op = 0 ∨ op = 17 then (c, w, k) else if op = 18 then (c, w, popK k) else simK row g c w k op arg
def runC (l : List Ins) (row : Int) (g : List Gl) (c0 w0 : Int) : Nat → Nat → Nat → Int → Int → Kk → Int × Int × Nat × Int
  | 0, i, s, c, w, k => match l[i]? with
    | none => (c, w, s, 0)
    | some _ => (c0, w0, s, 14)
  | n + 1, i, s, c, w, k => match l[i]? with
    | none => (c, w, s, 0)
    | some p => if (doC row g p.1 p.2 c w k).2.2.f = true then (c0, w0, s + 1, 13)
      else runC l row g c0 w0 n (nextC p.1 p.2 i l.length k).toNat (s + 1) (doC row g p.1 p.2 c w k).1 (doC row g p.1 p.2 c w k).2.1 (doC row g p.1 p.2 c w k).2.2
theorem runC_none {l : List Ins} {row : Int} {g : List Gl} {c0 w0 : Int} {n i s : Nat} {c w : Int} {k : Kk} (h : l[i]? = none) : runC l row g c0 w0 n i s c w k = (c, w, s, 0) := by
  cases n <;> simp only [runC, h]
theorem runC_fuel {l : List Ins} {row : Int} {g : List Gl} {c0 w0 : Int} {i s : Nat} {c w : Int} {k : Kk} {p : Ins} (h : l[i]? = some p) : runC l row g c0 w0 0 i s c w k = (c0, w0, s, 14) := by
  simp only [runC, h]
theorem runC_fail {l : List Ins} {row : Int} {g : List Gl} {c0 w0 : Int} {n i s : Nat} {c w : Int} {k : Kk} {p : Ins} (h : l[i]? = some p) (hf : (doC row g p.1 p.2 c w k).2.2.f = true) : runC l row g c0 w0 (n + 1) i s c w k = (c0, w0, s + 1, 13) := by
  simp only [runC, h, hf, if_true]
theorem runC_step {l : List Ins} {row : Int} {g : List Gl} {c0 w0 : Int} {n i s : Nat} {c w : Int} {k : Kk} {p : Ins} (h : l[i]? = some p) (hf : (doC row g p.1 p.2 c w k).2.2.f = false) :
    runC l row g c0 w0 (n + 1) i s c w k = runC l row g c0 w0 n (nextC p.1 p.2 i l.length k).toNat (s + 1) (doC row g p.1 p.2 c w k).1 (doC row g p.1 p.2 c w k).2.1 (doC row g p.1 p.2 c w k).2.2 := by
  simp only [runC, h, hf, Bool.false_eq_true, if_false]
theorem simK_ok {row : Int} {g : List Gl} {c w : Int} {k : Kk} {op arg : Int} (hk : okK k) (hc : bI c) (hw : bI w) : okK (simK row g c w k op arg).2.2 ∧ bI (simK row g c w k op arg).1 ∧ bI (simK row g c w k op arg).2.1 := by
  have hp := popV_b hk
  unfold simK
  repeat' split
  all_goals refine ⟨?_, ?_, ?_⟩
  all_goals first | exact hc | exact hw | skip
  all_goals first | (unfold bI; simp only; omega) | skip
  all_goals first | exact pushK_ok hk _ | exact pushK_ok (popK_ok (popK_ok hk)) _ | exact pushK_ok (popK_ok hk) _ | exact pushK_ok (pushK_ok (popK_ok hk) _) _ | exact pushK_ok (pushK_ok (popK_ok (popK_ok hk)) _) _ | exact popK_ok hk
theorem doC_ok {row : Int} {g : List Gl} {c w : Int} {k : Kk} {op arg : Int} (hk : okK k) (hc : bI c) (hw : bI w) : okK (doC row g op arg c w k).2.2 ∧ bI (doC row g op arg c w k).1 ∧ bI (doC row g op arg c w k).2.1 := by
  unfold doC
  split
  · exact ⟨hk, hc, hw⟩
  · split
    · exact ⟨popK_ok hk, hc, hw⟩
    · exact simK_ok hk hc hw
theorem chk_at {l : List Ins} (h : checkI l = 0) {i : Nat} {p : Ins} (hp : l[i]? = some p) : 0 ≤ p.1 ∧ p.1 ≤ 20 ∧ -999999999 ≤ p.2 ∧ p.2 ≤ 999999999 ∧ (p.1 = 17 ∨ p.1 = 18 → (i : Int) < p.2 ∧ p.2 ≤ l.length) := by
  obtain ⟨hi, rfl⟩ := List.getElem?_eq_some_iff.1 hp
  have h1 := check_ok h i hi
  have h2 := check_len h
  unfold chk1 at h1
  generalize l[i] = q at *
  split at h1
  · cases h1
  · split at h1
    · cases h1
    · rename_i h3 h4
      unfold boundsS at h4
      by_cases a1 : q.1 = 1
      · rw [if_pos a1] at h4; simp only at h4; omega
      · by_cases a2 : q.1 = 17 ∨ q.1 = 18
        · rw [if_neg a1, if_pos a2] at h4; simp only at h4; omega
        · rw [if_neg a1, if_neg a2] at h4; simp only at h4; omega
def runP (V : Chunk) (row : Int) (g : IV) (r : Int) (R : List (List IV)) (lim : Nat) (q : Int × Int × Nat × Int) (fr : Fr) (ex : Ex) (H : Hp) : Prop :=
  (q.2.2.2 = 0 ∧ ex = .exit 0 ∧ ∃ (k : Kk) (i : Int), okK k ∧ fr = [(0, .i (.sl 2 R false)), (4, .i (.v (.int .i64 lim))), (8, .ptr 0 0 0 0), (10, .ptr 1 0 0 0), (12, .ptr 2 0 0 0), (13, .i (.v (.int .i64 q.2.2.1))), (14, .i (.v (.int .i64 i))), (34, .i (.v (.bool false)))] ∧ H = [V, .box [i64 0, i64 0, i64 0, i64 0, i64 0], .box (mcK row g q.1 q.2.1 r k)]) ∨
  (q.2.2.2 ≠ 0 ∧ ex = .ret ∧ get 10 fr = .ptr 1 0 0 0 ∧ ∃ A L, H = A :: .box [i64 q.1, i64 q.2.1, i64 r, i64 q.2.2.1, i64 q.2.2.2] :: L)
theorem l13 (l : List Ins) (hl : checkI l = 0) (row : Int) (hrow : bI row) (g : List Gl) (hg : okG g) (c0 w0 r : Int) (lim : Nat) (hlim : lim ≤ 5000) : ∀ (n i s : Nat) (c w : Int) (k : Kk), i ≤ l.length → s + n = lim → okK k → k.f = false → bI c → bI w →
    ∃ fr ex H', rl E 0 13 (loopAt Tryd.f13 0) [(0, .i (.sl 2 (rowsI l) false)), (4, .i (.v (.int .i64 lim))), (8, .ptr 0 0 0 0), (10, .ptr 1 0 0 0), (12, .ptr 2 0 0 0), (13, .i (.v (.int .i64 (s)))), (14, .i (.v (.int .i64 (i))))] [.box [i64 c0, i64 w0, i64 r], .box [i64 0, i64 0, i64 0, i64 0, i64 0], .box (mcK row (.sl 3 (rowsG g) false) c w r k)] = some (ex, fr, H') ∧ runP (.box [i64 c0, i64 w0, i64 r]) row (.sl 3 (rowsG g) false) r (rowsI l) lim (runC l row g c0 w0 n i s c w k) fr ex H' := by
  intro n
  induction n with
  | zero =>
    intro i s c w k hi hs hk hf hc hw
    have hll := check_len hl
    rw [rl_step (fn := Tryd.f13) (k := 0) rfl]
    by_cases hlt : i < l.length
    · obtain ⟨p, hp⟩ : ∃ p, l[i]? = some p := ⟨_, List.getElem?_eq_getElem hlt⟩
      rw [runC_fuel hp]
      obtain rfl : s = lim := by omega
      simp (disch := first | omega | (simp only [vlen, rowsI_len]; omega)) only [vall, List.take_of_length_le, gB, gcW, gcR, posIn, renA, renL, Chunk.ren, Chunk.refs, evOpD, touchD, stepC, isFresh, nFresh, freshOf, mkR, hole, evL, evH, opd, get, putD, ofVal, cellOf, loadE, behind, lenE, idxAddrE, idxE, lookE, lookM, addPtr, intE, strE, unE, convE, AV.int, AV.bool, AV.str, ivs, take, frameOf, firstRegion, refsA, refsL, one, cellsA, floatOk, apartT, List.map, if_true, if_false, E_P, E_glob0, E_glob1, reduceCtorEq, beq_self_eq_true, ↓reduceIte, Nat.reduceEqDiff, cond_true, cond_false, Nat.reduceAdd, Nat.reduceSub, Nat.reduceMul, Nat.reduceLT, Nat.reduceLeDiff, Int.reduceToNat, Int.reduceLT, Int.reduceLE, Option.getD, Int.reduceMul, Int.reduceAdd, List.drop, List.take, Nat.reduceBEq, List.isEmpty, Int.reduceEq, Int.reduceNe, Int.reduceNeg, Int.reduceGT, Int.reduceGE, beq_true, beq_false, UInt8.reduceToNat, eqE, eq_self, foldE, maxE, minE, fillA, over, chop, List.replicate, leavesOk, leafOk, cellsEq, cellEq, E_byref, en13, bs22, rowsI_len, i64, mcK_cn, mcK_refs, mcK_ren, show ∀ B fr H, execT E B 13 (Code.loop _) fr H = rlG E B 13 (loopAt Tryd.f13 0) (gcn B (norm [0, 4, 8, 10, 12, 13, 14] fr) H) from fun B fr H => rl_intro rfl mt13_8 mb13_8 zf13_8 hd13_8 fr H]
      exact ⟨_, _, _, rfl, .inr ⟨(by decide : (14 : Int) ≠ 0), rfl, rfl, _, _, rfl⟩⟩
    · rw [runC_none (List.getElem?_eq_none (by omega))]
      simp (disch := first | omega | (simp only [vlen, rowsI_len]; omega)) only [vall, List.take_of_length_le, gB, gcW, gcR, posIn, renA, renL, Chunk.ren, Chunk.refs, evOpD, touchD, stepC, isFresh, nFresh, freshOf, mkR, hole, evL, evH, opd, get, putD, ofVal, cellOf, loadE, behind, lenE, idxAddrE, idxE, lookE, lookM, addPtr, intE, strE, unE, convE, AV.int, AV.bool, AV.str, ivs, take, frameOf, firstRegion, refsA, refsL, one, cellsA, floatOk, apartT, List.map, if_true, if_false, E_P, E_glob0, E_glob1, reduceCtorEq, beq_self_eq_true, ↓reduceIte, Nat.reduceEqDiff, cond_true, cond_false, Nat.reduceAdd, Nat.reduceSub, Nat.reduceMul, Nat.reduceLT, Nat.reduceLeDiff, Int.reduceToNat, Int.reduceLT, Int.reduceLE, Option.getD, Int.reduceMul, Int.reduceAdd, List.drop, List.take, Nat.reduceBEq, List.isEmpty, Int.reduceEq, Int.reduceNe, Int.reduceNeg, Int.reduceGT, Int.reduceGE, beq_true, beq_false, UInt8.reduceToNat, eqE, eq_self, foldE, maxE, minE, fillA, over, chop, List.replicate, leavesOk, leafOk, cellsEq, cellEq, E_byref, en13, bs22, rowsI_len, i64, mcK_cn, mcK_refs, mcK_ren, show ∀ B fr H, execT E B 13 (Code.loop _) fr H = rlG E B 13 (loopAt Tryd.f13 0) (gcn B (norm [0, 4, 8, 10, 12, 13, 14] fr) H) from fun B fr H => rl_intro rfl mt13_8 mb13_8 zf13_8 hd13_8 fr H]
      exact ⟨_, _, _, rfl, .inl ⟨rfl, rfl, k, i, hk, rfl, rfl⟩⟩
  | succ n ih =>
    intro i s c w k hi hs hk hf hc hw
    have hll := check_len hl
    by_cases hlt : i < l.length
    · obtain ⟨p, hp⟩ : ∃ p, l[i]? = some p := ⟨_, List.getElem?_eq_getElem hlt⟩
      obtain ⟨a1, a2, a3, a4, a5⟩ := chk_at hl hp
      obtain ⟨d1, d2, d3⟩ := doC_ok (row := row) (g := g) (op := p.1) (arg := p.2) hk hc hw
      have hr1 : (rowsI l)[i]? = some [.v (.int .i64 p.1), .v (.int .i64 p.2)] := by simp [rowsI, insC, hp]
      obtain ⟨op, arg⟩ := p
      simp only at a1 a2 a3 a4 a5 d1 d2 d3 hr1
      have hsl : (s : Int) ≠ lim := by omega
      by_cases hff : (doC row g op arg c w k).2.2.f = true
      · rw [runC_fail hp hff]
        by_cases o0 : op = 0 ∨ op = 17
        · exfalso
          simp only [doC, if_pos o0, hf, Bool.false_eq_true] at hff
        · by_cases o18 : op = 18
          · simp only [doC, if_neg o0, if_pos o18] at hff d1
            have hpk := fun A B T => ik24_2 row (.sl 3 (rowsG g) false) c w r k hk A B T
            have h22 := mcK_22 (row := row) (g := .sl 3 (rowsG g) false) (c := c) (w := w) (r := r) d1
            rw [hff] at h22
            subst o18
            rw [rl_step (fn := Tryd.f13) (k := 0) rfl]
            by_cases hz : popV k = 0
            · rw [hz] at hpk
              simp (disch := first | omega | (simp only [vlen, rowsI_len]; omega)) only [vall, List.take_of_length_le, gB, gcW, gcR, posIn, renA, renL, Chunk.ren, Chunk.refs, evOpD, touchD, stepC, isFresh, nFresh, freshOf, mkR, hole, evL, evH, opd, get, putD, ofVal, cellOf, loadE, behind, lenE, idxAddrE, idxE, lookE, lookM, addPtr, intE, strE, unE, convE, AV.int, AV.bool, AV.str, ivs, take, frameOf, firstRegion, refsA, refsL, one, cellsA, floatOk, apartT, List.map, if_true, if_false, E_P, E_glob0, E_glob1, reduceCtorEq, beq_self_eq_true, ↓reduceIte, Nat.reduceEqDiff, cond_true, cond_false, Nat.reduceAdd, Nat.reduceSub, Nat.reduceMul, Nat.reduceLT, Nat.reduceLeDiff, Int.reduceToNat, Int.reduceLT, Int.reduceLE, Option.getD, Int.reduceMul, Int.reduceAdd, List.drop, List.take, Nat.reduceBEq, List.isEmpty, Int.reduceEq, Int.reduceNe, Int.reduceNeg, Int.reduceGT, Int.reduceGE, beq_true, beq_false, UInt8.reduceToNat, eqE, eq_self, foldE, maxE, minE, fillA, over, chop, List.replicate, leavesOk, leafOk, cellsEq, cellEq, E_byref, en13, bs22, rowsI_len, i64, hr1, hpk, mcK_cn, mcK_refs, mcK_ren, h22, show ∀ B fr H, execT E B 13 (Code.loop _) fr H = rlG E B 13 (loopAt Tryd.f13 0) (gcn B (norm [0, 4, 8, 10, 12, 13, 14] fr) H) from fun B fr H => rl_intro rfl mt13_8 mb13_8 zf13_8 hd13_8 fr H]
              exact ⟨_, _, _, rfl, .inr ⟨(by decide : (13 : Int) ≠ 0), rfl, rfl, _, _, rfl⟩⟩
            · generalize popV k = pv at *
              simp (disch := first | omega | (simp only [vlen, rowsI_len]; omega)) only [vall, List.take_of_length_le, gB, gcW, gcR, posIn, renA, renL, Chunk.ren, Chunk.refs, evOpD, touchD, stepC, isFresh, nFresh, freshOf, mkR, hole, evL, evH, opd, get, putD, ofVal, cellOf, loadE, behind, lenE, idxAddrE, idxE, lookE, lookM, addPtr, intE, strE, unE, convE, AV.int, AV.bool, AV.str, ivs, take, frameOf, firstRegion, refsA, refsL, one, cellsA, floatOk, apartT, List.map, if_true, if_false, E_P, E_glob0, E_glob1, reduceCtorEq, beq_self_eq_true, ↓reduceIte, Nat.reduceEqDiff, cond_true, cond_false, Nat.reduceAdd, Nat.reduceSub, Nat.reduceMul, Nat.reduceLT, Nat.reduceLeDiff, Int.reduceToNat, Int.reduceLT, Int.reduceLE, Option.getD, Int.reduceMul, Int.reduceAdd, List.drop, List.take, Nat.reduceBEq, List.isEmpty, Int.reduceEq, Int.reduceNe, Int.reduceNeg, Int.reduceGT, Int.reduceGE, beq_true, beq_false, UInt8.reduceToNat, eqE, eq_self, foldE, maxE, minE, fillA, over, chop, List.replicate, leavesOk, leafOk, cellsEq, cellEq, E_byref, en13, bs22, rowsI_len, i64, hr1, hpk, hz, mcK_cn, mcK_refs, mcK_ren, h22, show ∀ B fr H, execT E B 13 (Code.loop _) fr H = rlG E B 13 (loopAt Tryd.f13 0) (gcn B (norm [0, 4, 8, 10, 12, 13, 14] fr) H) from fun B fr H => rl_intro rfl mt13_8 mb13_8 zf13_8 hd13_8 fr H]
              exact ⟨_, _, _, rfl, .inr ⟨(by decide : (13 : Int) ≠ 0), rfl, rfl, _, _, rfl⟩⟩
          · simp only [doC, if_neg o0, if_neg o18] at hff d1
            have hpk := fun A B T => ik25_2 op (by omega) row g hg c w r k arg hk ⟨by unfold bI; omega, hrow, hc, hw⟩ A B T
            generalize simK row g c w k op arg = q at *
            have h22 := mcK_22 (row := row) (g := .sl 3 (rowsG g) false) (c := q.1) (w := q.2.1) (r := r) d1
            rw [hff] at h22
            have z0 : op ≠ 0 := fun h => o0 (.inl h)
            have z17 : op ≠ 17 := fun h => o0 (.inr h)
            rw [rl_step (fn := Tryd.f13) (k := 0) rfl]
            simp (disch := first | omega | (simp only [vlen, rowsI_len]; omega)) only [vall, List.take_of_length_le, gB, gcW, gcR, posIn, renA, renL, Chunk.ren, Chunk.refs, evOpD, touchD, stepC, isFresh, nFresh, freshOf, mkR, hole, evL, evH, opd, get, putD, ofVal, cellOf, loadE, behind, lenE, idxAddrE, idxE, lookE, lookM, addPtr, intE, strE, unE, convE, AV.int, AV.bool, AV.str, ivs, take, frameOf, firstRegion, refsA, refsL, one, cellsA, floatOk, apartT, List.map, if_true, if_false, E_P, E_glob0, E_glob1, reduceCtorEq, beq_self_eq_true, ↓reduceIte, Nat.reduceEqDiff, cond_true, cond_false, Nat.reduceAdd, Nat.reduceSub, Nat.reduceMul, Nat.reduceLT, Nat.reduceLeDiff, Int.reduceToNat, Int.reduceLT, Int.reduceLE, Option.getD, Int.reduceMul, Int.reduceAdd, List.drop, List.take, Nat.reduceBEq, List.isEmpty, Int.reduceEq, Int.reduceNe, Int.reduceNeg, Int.reduceGT, Int.reduceGE, beq_true, beq_false, UInt8.reduceToNat, eqE, eq_self, foldE, maxE, minE, fillA, over, chop, List.replicate, leavesOk, leafOk, cellsEq, cellEq, E_byref, en13, bs22, rowsI_len, i64, hr1, hpk, z0, z17, o18, mcK_cn, mcK_refs, mcK_ren, h22, show ∀ B fr H, execT E B 13 (Code.loop _) fr H = rlG E B 13 (loopAt Tryd.f13 0) (gcn B (norm [0, 4, 8, 10, 12, 13, 14] fr) H) from fun B fr H => rl_intro rfl mt13_8 mb13_8 zf13_8 hd13_8 fr H]
            exact ⟨_, _, _, rfl, .inr ⟨(by decide : (13 : Int) ≠ 0), rfl, rfl, _, _, rfl⟩⟩
      · have hff : (doC row g op arg c w k).2.2.f = false := by simpa using hff
        rw [runC_step hp hff]
        have hj0 : 0 ≤ nextC op arg i l.length k ∧ nextC op arg i l.length k ≤ l.length := by
          unfold nextC
          split
          · omega
          · split
            · omega
            · split
              · omega
              · omega
        obtain ⟨j, hj⟩ := Int.eq_ofNat_of_zero_le hj0.1
        simp only
        rw [hj, Int.toNat_natCast]
        obtain ⟨fr, ex, H', e, hh⟩ := ih j (s + 1) _ _ _ (by omega) (by omega) d1 hff d2 d3
        refine ⟨fr, ex, H', Eq.trans ?_ e, hh⟩
        clear e hh ih
        rw [rl_step (fn := Tryd.f13) (k := 0) rfl]
        by_cases o0 : op = 0
        · have hd : doC row g op arg c w k = (c, w, k) := by unfold doC; rw [if_pos (.inl o0)]
          rw [hd] at d1 d2 d3 hff ⊢
          have h22 := mcK_22 (row := row) (g := .sl 3 (rowsG g) false) (c := c) (w := w) (r := r) hk
          rw [hf] at h22
          have hj1 : (l.length : Int) = j := by rw [← hj, nextC, if_pos o0]
          subst o0
          rw [← hj1]
          simp (disch := first | omega | (simp only [vlen, rowsI_len]; omega)) only [vall, List.take_of_length_le, gB, gcW, gcR, posIn, renA, renL, Chunk.ren, Chunk.refs, evOpD, touchD, stepC, isFresh, nFresh, freshOf, mkR, hole, evL, evH, opd, get, putD, ofVal, cellOf, loadE, behind, lenE, idxAddrE, idxE, lookE, lookM, addPtr, intE, strE, unE, convE, AV.int, AV.bool, AV.str, ivs, take, frameOf, firstRegion, refsA, refsL, one, cellsA, floatOk, apartT, List.map, if_true, if_false, E_P, E_glob0, E_glob1, reduceCtorEq, beq_self_eq_true, ↓reduceIte, Nat.reduceEqDiff, cond_true, cond_false, Nat.reduceAdd, Nat.reduceSub, Nat.reduceMul, Nat.reduceLT, Nat.reduceLeDiff, Int.reduceToNat, Int.reduceLT, Int.reduceLE, Option.getD, Int.reduceMul, Int.reduceAdd, List.drop, List.take, Nat.reduceBEq, List.isEmpty, Int.reduceEq, Int.reduceNe, Int.reduceNeg, Int.reduceGT, Int.reduceGE, beq_true, beq_false, UInt8.reduceToNat, eqE, eq_self, foldE, maxE, minE, fillA, over, chop, List.replicate, leavesOk, leafOk, cellsEq, cellEq, E_byref, en13, bs22, rowsI_len, i64, hr1, mcK_cn, mcK_refs, mcK_ren, h22, show ∀ B fr H, execT E B 13 (Code.loop _) fr H = rlG E B 13 (loopAt Tryd.f13 0) (gcn B (norm [0, 4, 8, 10, 12, 13, 14] fr) H) from fun B fr H => rl_intro rfl mt13_8 mb13_8 zf13_8 hd13_8 fr H]
        · by_cases o17 : op = 17
          · have hd : doC row g op arg c w k = (c, w, k) := by unfold doC; rw [if_pos (.inr o17)]
            rw [hd] at d1 d2 d3 hff ⊢
            have h22 := mcK_22 (row := row) (g := .sl 3 (rowsG g) false) (c := c) (w := w) (r := r) hk
            rw [hf] at h22
            have hj1 : arg = j := by rw [← hj, nextC, if_neg o0, if_pos o17]
            subst o17
            rw [← hj1]
            simp (disch := first | omega | (simp only [vlen, rowsI_len]; omega)) only [vall, List.take_of_length_le, gB, gcW, gcR, posIn, renA, renL, Chunk.ren, Chunk.refs, evOpD, touchD, stepC, isFresh, nFresh, freshOf, mkR, hole, evL, evH, opd, get, putD, ofVal, cellOf, loadE, behind, lenE, idxAddrE, idxE, lookE, lookM, addPtr, intE, strE, unE, convE, AV.int, AV.bool, AV.str, ivs, take, frameOf, firstRegion, refsA, refsL, one, cellsA, floatOk, apartT, List.map, if_true, if_false, E_P, E_glob0, E_glob1, reduceCtorEq, beq_self_eq_true, ↓reduceIte, Nat.reduceEqDiff, cond_true, cond_false, Nat.reduceAdd, Nat.reduceSub, Nat.reduceMul, Nat.reduceLT, Nat.reduceLeDiff, Int.reduceToNat, Int.reduceLT, Int.reduceLE, Option.getD, Int.reduceMul, Int.reduceAdd, List.drop, List.take, Nat.reduceBEq, List.isEmpty, Int.reduceEq, Int.reduceNe, Int.reduceNeg, Int.reduceGT, Int.reduceGE, beq_true, beq_false, UInt8.reduceToNat, eqE, eq_self, foldE, maxE, minE, fillA, over, chop, List.replicate, leavesOk, leafOk, cellsEq, cellEq, E_byref, en13, bs22, rowsI_len, i64, hr1, mcK_cn, mcK_refs, mcK_ren, h22, show ∀ B fr H, execT E B 13 (Code.loop _) fr H = rlG E B 13 (loopAt Tryd.f13 0) (gcn B (norm [0, 4, 8, 10, 12, 13, 14] fr) H) from fun B fr H => rl_intro rfl mt13_8 mb13_8 zf13_8 hd13_8 fr H]
          · by_cases o18 : op = 18
            · have hd : doC row g op arg c w k = (c, w, popK k) := by unfold doC; rw [if_neg (by omega), if_pos o18]
              rw [hd] at d1 d2 d3 hff ⊢
              try simp only at d1 hff
              have h22 := mcK_22 (row := row) (g := .sl 3 (rowsG g) false) (c := c) (w := w) (r := r) d1
              rw [hff] at h22
              have hpk := fun A B T => ik24_2 row (.sl 3 (rowsG g) false) c w r k hk A B T
              by_cases hz : popV k = 0
              · have hj1 : arg = j := by rw [← hj, nextC, if_neg o0, if_neg o17, if_pos ⟨o18, hz⟩]
                subst o18
                rw [← hj1]
                rw [hz] at hpk
                simp (disch := first | omega | (simp only [vlen, rowsI_len]; omega)) only [vall, List.take_of_length_le, gB, gcW, gcR, posIn, renA, renL, Chunk.ren, Chunk.refs, evOpD, touchD, stepC, isFresh, nFresh, freshOf, mkR, hole, evL, evH, opd, get, putD, ofVal, cellOf, loadE, behind, lenE, idxAddrE, idxE, lookE, lookM, addPtr, intE, strE, unE, convE, AV.int, AV.bool, AV.str, ivs, take, frameOf, firstRegion, refsA, refsL, one, cellsA, floatOk, apartT, List.map, if_true, if_false, E_P, E_glob0, E_glob1, reduceCtorEq, beq_self_eq_true, ↓reduceIte, Nat.reduceEqDiff, cond_true, cond_false, Nat.reduceAdd, Nat.reduceSub, Nat.reduceMul, Nat.reduceLT, Nat.reduceLeDiff, Int.reduceToNat, Int.reduceLT, Int.reduceLE, Option.getD, Int.reduceMul, Int.reduceAdd, List.drop, List.take, Nat.reduceBEq, List.isEmpty, Int.reduceEq, Int.reduceNe, Int.reduceNeg, Int.reduceGT, Int.reduceGE, beq_true, beq_false, UInt8.reduceToNat, eqE, eq_self, foldE, maxE, minE, fillA, over, chop, List.replicate, leavesOk, leafOk, cellsEq, cellEq, E_byref, en13, bs22, rowsI_len, i64, hr1, hpk, mcK_cn, mcK_refs, mcK_ren, h22, show ∀ B fr H, execT E B 13 (Code.loop _) fr H = rlG E B 13 (loopAt Tryd.f13 0) (gcn B (norm [0, 4, 8, 10, 12, 13, 14] fr) H) from fun B fr H => rl_intro rfl mt13_8 mb13_8 zf13_8 hd13_8 fr H]
              · have hj1 : (i : Int) + 1 = j := by rw [← hj, nextC, if_neg o0, if_neg o17, if_neg (fun h => hz h.2)]
                subst o18
                rw [← hj1]
                clear hj hj0
                generalize popV k = pv at *
                simp (disch := first | omega | (simp only [vlen, rowsI_len]; omega)) only [vall, List.take_of_length_le, gB, gcW, gcR, posIn, renA, renL, Chunk.ren, Chunk.refs, evOpD, touchD, stepC, isFresh, nFresh, freshOf, mkR, hole, evL, evH, opd, get, putD, ofVal, cellOf, loadE, behind, lenE, idxAddrE, idxE, lookE, lookM, addPtr, intE, strE, unE, convE, AV.int, AV.bool, AV.str, ivs, take, frameOf, firstRegion, refsA, refsL, one, cellsA, floatOk, apartT, List.map, if_true, if_false, E_P, E_glob0, E_glob1, reduceCtorEq, beq_self_eq_true, ↓reduceIte, Nat.reduceEqDiff, cond_true, cond_false, Nat.reduceAdd, Nat.reduceSub, Nat.reduceMul, Nat.reduceLT, Nat.reduceLeDiff, Int.reduceToNat, Int.reduceLT, Int.reduceLE, Option.getD, Int.reduceMul, Int.reduceAdd, List.drop, List.take, Nat.reduceBEq, List.isEmpty, Int.reduceEq, Int.reduceNe, Int.reduceNeg, Int.reduceGT, Int.reduceGE, beq_true, beq_false, UInt8.reduceToNat, eqE, eq_self, foldE, maxE, minE, fillA, over, chop, List.replicate, leavesOk, leafOk, cellsEq, cellEq, E_byref, en13, bs22, rowsI_len, i64, hr1, hpk, hz, mcK_cn, mcK_refs, mcK_ren, h22, show ∀ B fr H, execT E B 13 (Code.loop _) fr H = rlG E B 13 (loopAt Tryd.f13 0) (gcn B (norm [0, 4, 8, 10, 12, 13, 14] fr) H) from fun B fr H => rl_intro rfl mt13_8 mb13_8 zf13_8 hd13_8 fr H]
            · have hd : doC row g op arg c w k = simK row g c w k op arg := by unfold doC; rw [if_neg (by omega), if_neg o18]
              rw [hd] at d1 d2 d3 hff ⊢
              have hpk := fun A B T => ik25_2 op (by omega) row g hg c w r k arg hk ⟨by unfold bI; omega, hrow, hc, hw⟩ A B T
              have hj1 : (i : Int) + 1 = j := by rw [← hj, nextC, if_neg o0, if_neg o17, if_neg (fun h => o18 h.1)]
              clear hd
              generalize simK row g c w k op arg = q at *
              have h22 := mcK_22 (row := row) (g := .sl 3 (rowsG g) false) (c := q.1) (w := q.2.1) (r := r) d1
              rw [hff] at h22
              rw [← hj1]
              simp (disch := first | omega | (simp only [vlen, rowsI_len]; omega)) only [vall, List.take_of_length_le, gB, gcW, gcR, posIn, renA, renL, Chunk.ren, Chunk.refs, evOpD, touchD, stepC, isFresh, nFresh, freshOf, mkR, hole, evL, evH, opd, get, putD, ofVal, cellOf, loadE, behind, lenE, idxAddrE, idxE, lookE, lookM, addPtr, intE, strE, unE, convE, AV.int, AV.bool, AV.str, ivs, take, frameOf, firstRegion, refsA, refsL, one, cellsA, floatOk, apartT, List.map, if_true, if_false, E_P, E_glob0, E_glob1, reduceCtorEq, beq_self_eq_true, ↓reduceIte, Nat.reduceEqDiff, cond_true, cond_false, Nat.reduceAdd, Nat.reduceSub, Nat.reduceMul, Nat.reduceLT, Nat.reduceLeDiff, Int.reduceToNat, Int.reduceLT, Int.reduceLE, Option.getD, Int.reduceMul, Int.reduceAdd, List.drop, List.take, Nat.reduceBEq, List.isEmpty, Int.reduceEq, Int.reduceNe, Int.reduceNeg, Int.reduceGT, Int.reduceGE, beq_true, beq_false, UInt8.reduceToNat, eqE, eq_self, foldE, maxE, minE, fillA, over, chop, List.replicate, leavesOk, leafOk, cellsEq, cellEq, E_byref, en13, bs22, rowsI_len, i64, hr1, hpk, o0, o17, o18, mcK_cn, mcK_refs, mcK_ren, h22, show ∀ B fr H, execT E B 13 (Code.loop _) fr H = rlG E B 13 (loopAt Tryd.f13 0) (gcn B (norm [0, 4, 8, 10, 12, 13, 14] fr) H) from fun B fr H => rl_intro rfl mt13_8 mb13_8 zf13_8 hd13_8 fr H]
    · rw [runC_none (List.getElem?_eq_none (by omega))]
      rw [rl_step (fn := Tryd.f13) (k := 0) rfl]
      simp (disch := first | omega | (simp only [vlen, rowsI_len]; omega)) only [vall, List.take_of_length_le, gB, gcW, gcR, posIn, renA, renL, Chunk.ren, Chunk.refs, evOpD, touchD, stepC, isFresh, nFresh, freshOf, mkR, hole, evL, evH, opd, get, putD, ofVal, cellOf, loadE, behind, lenE, idxAddrE, idxE, lookE, lookM, addPtr, intE, strE, unE, convE, AV.int, AV.bool, AV.str, ivs, take, frameOf, firstRegion, refsA, refsL, one, cellsA, floatOk, apartT, List.map, if_true, if_false, E_P, E_glob0, E_glob1, reduceCtorEq, beq_self_eq_true, ↓reduceIte, Nat.reduceEqDiff, cond_true, cond_false, Nat.reduceAdd, Nat.reduceSub, Nat.reduceMul, Nat.reduceLT, Nat.reduceLeDiff, Int.reduceToNat, Int.reduceLT, Int.reduceLE, Option.getD, Int.reduceMul, Int.reduceAdd, List.drop, List.take, Nat.reduceBEq, List.isEmpty, Int.reduceEq, Int.reduceNe, Int.reduceNeg, Int.reduceGT, Int.reduceGE, beq_true, beq_false, UInt8.reduceToNat, eqE, eq_self, foldE, maxE, minE, fillA, over, chop, List.replicate, leavesOk, leafOk, cellsEq, cellEq, E_byref, en13, bs22, rowsI_len, i64, mcK_cn, mcK_refs, mcK_ren, show ∀ B fr H, execT E B 13 (Code.loop _) fr H = rlG E B 13 (loopAt Tryd.f13 0) (gcn B (norm [0, 4, 8, 10, 12, 13, 14] fr) H) from fun B fr H => rl_intro rfl mt13_8 mb13_8 zf13_8 hd13_8 fr H]
      exact ⟨_, _, _, rfl, .inl ⟨rfl, rfl, k, i, hk, rfl, rfl⟩⟩
end Go.VI

namespace Go.VI
open Go.Proofs
set_option maxRecDepth 100000
set_option linter.unusedSimpArgs false
set_option linter.unusedVariables false
set_option maxHeartbeats 4000000
def k0 : Kk := ⟨List.replicate 16 0, 0, false⟩
theorem k0_ok : okK k0 := ⟨rfl, by decide, by intro x hx; rw [List.eq_of_mem_replicate hx]; decide⟩
def limI (fuel : Int) : Nat := (max 0 (min fuel 5000)).toNat
structure Oc where
  (c w r s e : Int)
def ocA (q : Oc) : AV := .agg [.i (.v (.int .i64 q.c)), .i (.v (.int .i64 q.w)), .i (.v (.int .i64 q.r)), .i (.v (.int .i64 q.s)), .i (.v (.int .i64 q.e))]
def runS (l : List Ins) (row : Int) (g : List Gl) (c w r fuel : Int) : Oc :=
  if checkI l = 0 then ⟨(runC l row g c w (limI fuel) 0 0 c w k0).1, (runC l row g c w (limI fuel) 0 0 c w k0).2.1, r, (runC l row g c w (limI fuel) 0 0 c w k0).2.2.1, (runC l row g c w (limI fuel) 0 0 c w k0).2.2.2⟩ else ⟨c, w, r, 0, checkI l⟩
theorem mcK_v {row : Int} {g : IV} {c w r : Int} {k : Kk} : List.take 3 (List.drop 2 (mcK row g c w r k)) = [.i (.v (.int .i64 c)), .i (.v (.int .i64 w)), .i (.v (.int .i64 r))] := rfl
theorem c13 (l : List Ins) (hl : (l.length : Int) < 9223372036854775808) (row : Int) (hrow : bI row) (g : List Gl) (hg : okG g) (c w r fuel : Int) (hv : bI c ∧ bI w ∧ bI r) (hf : bI fuel) :
    ∃ L, callT E 13 [.i (.sl 2 (rowsI l) false), .i (.v (.int .i64 row)), .i (.sl 3 (rowsG g) false), .agg [.i (.v (.int .i64 c)), .i (.v (.int .i64 w)), .i (.v (.int .i64 r))], .i (.v (.int .i64 fuel))] [] = some (ocA (runS l row g c w r fuel), L) := by
  have hck := fun H => ik23 l hl H
  unfold runS
  by_cases h0 : checkI l = 0
  · rw [if_pos h0]
    rw [h0] at hck
    obtain ⟨lim, hlim⟩ : ∃ lim : Nat, lim = limI fuel := ⟨_, rfl⟩
    rw [← hlim]
    have hlim2 : max 0 (min fuel 5000) = (lim : Int) := by rw [hlim, limI]; omega
    obtain ⟨fr, ex, H', e, hh⟩ := l13 l h0 row hrow g hg c w r lim (by omega) lim 0 0 c w k0 (Nat.zero_le _) (by omega) k0_ok rfl hv.1 hv.2.1
    have e' : rl E 0 13 (loopAt Tryd.f13 0) [(0, .i (.sl 2 (rowsI l) false)), (4, .i (.v (.int .i64 lim))), (8, .ptr 0 0 0 0), (10, .ptr 1 0 0 0), (12, .ptr 2 0 0 0), (13, .i (.v (.int .i64 0))), (14, .i (.v (.int .i64 0)))] [.box [.i (.v (.int .i64 c)), .i (.v (.int .i64 w)), .i (.v (.int .i64 r))], .box [.i (.v (.int .i64 0)), .i (.v (.int .i64 0)), .i (.v (.int .i64 0)), .i (.v (.int .i64 0)), .i (.v (.int .i64 0))], .box [.i (.v (.int .i64 row)), .i (.sl 3 (rowsG g) false), .i (.v (.int .i64 c)), .i (.v (.int .i64 w)), .i (.v (.int .i64 r)), .i (.v (.int .i64 0)), .i (.v (.int .i64 0)), .i (.v (.int .i64 0)), .i (.v (.int .i64 0)), .i (.v (.int .i64 0)), .i (.v (.int .i64 0)), .i (.v (.int .i64 0)), .i (.v (.int .i64 0)), .i (.v (.int .i64 0)), .i (.v (.int .i64 0)), .i (.v (.int .i64 0)), .i (.v (.int .i64 0)), .i (.v (.int .i64 0)), .i (.v (.int .i64 0)), .i (.v (.int .i64 0)), .i (.v (.int .i64 0)), .i (.v (.int .i64 0)), .i (.v (.bool false))]] = _ := e
    clear e
    rcases hh with ⟨hz, rfl, k, i, hk, rfl, rfl⟩ | ⟨hz, rfl, hg10, A, L, rfl⟩
    · rw [hz]
      have hlen := mcK_len (row := row) (g := .sl 3 (rowsG g) false) (c := (runC l row g c w lim 0 0 c w k0).1) (w := (runC l row g c w lim 0 0 c w k0).2.1) (r := r) hk
      generalize runC l row g c w lim 0 0 c w k0 = q at *
      obtain ⟨q1, q2, q3, q4⟩ := q
      simp only [i64] at e' hlen ⊢
      unfold ocA
      simp only
      rw [callT_eq Tryd.func13 rfl fok13 (by simp [Tryd.ntmps13])]
      simp (disch := first | omega | (simp only [vlen, rowsI_len, hlen]; omega)) only [vall, List.take_of_length_le, gB, gcW, gcR, posIn, renA, renL, Chunk.ren, Chunk.refs, evOpD, touchD, stepC, isFresh, nFresh, freshOf, mkR, hole, evL, evH, opd, get, putD, ofVal, cellOf, loadE, behind, lenE, idxAddrE, idxE, lookE, lookM, addPtr, intE, strE, unE, convE, AV.int, AV.bool, AV.str, ivs, take, frameOf, firstRegion, refsA, refsL, one, cellsA, floatOk, apartT, List.map, if_true, if_false, E_P, E_glob0, E_glob1, reduceCtorEq, beq_self_eq_true, ↓reduceIte, Nat.reduceEqDiff, cond_true, cond_false, Nat.reduceAdd, Nat.reduceSub, Nat.reduceMul, Nat.reduceLT, Nat.reduceLeDiff, Int.reduceToNat, Int.reduceLT, Int.reduceLE, Option.getD, Int.reduceMul, Int.reduceAdd, List.drop, List.take, Nat.reduceBEq, List.isEmpty, Int.reduceEq, Int.reduceNe, Int.reduceNeg, Int.reduceGT, Int.reduceGE, beq_true, beq_false, UInt8.reduceToNat, eqE, eq_self, foldE, maxE, minE, fillA, over, chop, List.replicate, leavesOk, leafOk, cellsEq, cellEq, E_byref, en13, bs22, rowsI_len, hck, hlim2, e', mcK_v, hlen, mcK_cn, mcK_refs, mcK_ren, show ∀ B fr H, execT E B 13 (Code.loop _) fr H = rlG E B 13 (loopAt Tryd.f13 0) (gcn B (norm [0, 4, 8, 10, 12, 13, 14] fr) H) from fun B fr H => rl_intro rfl mt13_8 mb13_8 zf13_8 hd13_8 fr H]
      exact ⟨_, rfl⟩
    · generalize runC l row g c w lim 0 0 c w k0 = q at *
      obtain ⟨q1, q2, q3, q4⟩ := q
      simp only [i64] at e' ⊢
      unfold ocA
      simp only
      rw [callT_eq Tryd.func13 rfl fok13 (by simp [Tryd.ntmps13])]
      simp (disch := first | omega | (simp only [vlen, rowsI_len]; omega)) only [vall, List.take_of_length_le, gB, gcW, gcR, posIn, renA, renL, Chunk.ren, Chunk.refs, evOpD, touchD, stepC, isFresh, nFresh, freshOf, mkR, hole, evL, evH, opd, get, putD, ofVal, cellOf, loadE, behind, lenE, idxAddrE, idxE, lookE, lookM, addPtr, intE, strE, unE, convE, AV.int, AV.bool, AV.str, ivs, take, frameOf, firstRegion, refsA, refsL, one, cellsA, floatOk, apartT, List.map, if_true, if_false, E_P, E_glob0, E_glob1, reduceCtorEq, beq_self_eq_true, ↓reduceIte, Nat.reduceEqDiff, cond_true, cond_false, Nat.reduceAdd, Nat.reduceSub, Nat.reduceMul, Nat.reduceLT, Nat.reduceLeDiff, Int.reduceToNat, Int.reduceLT, Int.reduceLE, Option.getD, Int.reduceMul, Int.reduceAdd, List.drop, List.take, Nat.reduceBEq, List.isEmpty, Int.reduceEq, Int.reduceNe, Int.reduceNeg, Int.reduceGT, Int.reduceGE, beq_true, beq_false, UInt8.reduceToNat, eqE, eq_self, foldE, maxE, minE, fillA, over, chop, List.replicate, leavesOk, leafOk, cellsEq, cellEq, E_byref, en13, bs22, rowsI_len, hck, hlim2, e', hg10, show ∀ B fr H, execT E B 13 (Code.loop _) fr H = rlG E B 13 (loopAt Tryd.f13 0) (gcn B (norm [0, 4, 8, 10, 12, 13, 14] fr) H) from fun B fr H => rl_intro rfl mt13_8 mb13_8 zf13_8 hd13_8 fr H]
      exact ⟨_, rfl⟩
  · rw [if_neg h0]
    generalize checkI l = q at *
    unfold ocA
    simp only
    rw [callT_eq Tryd.func13 rfl fok13 (by simp [Tryd.ntmps13])]
    simp (disch := first | omega | (simp only [vlen, rowsI_len]; omega)) only [vall, List.take_of_length_le, gB, gcW, gcR, posIn, renA, renL, Chunk.ren, Chunk.refs, evOpD, touchD, stepC, isFresh, nFresh, freshOf, mkR, hole, evL, evH, opd, get, putD, ofVal, cellOf, loadE, behind, lenE, idxAddrE, idxE, lookE, lookM, addPtr, intE, strE, unE, convE, AV.int, AV.bool, AV.str, ivs, take, frameOf, firstRegion, refsA, refsL, one, cellsA, floatOk, apartT, List.map, if_true, if_false, E_P, E_glob0, E_glob1, reduceCtorEq, beq_self_eq_true, ↓reduceIte, Nat.reduceEqDiff, cond_true, cond_false, Nat.reduceAdd, Nat.reduceSub, Nat.reduceMul, Nat.reduceLT, Nat.reduceLeDiff, Int.reduceToNat, Int.reduceLT, Int.reduceLE, Option.getD, Int.reduceMul, Int.reduceAdd, List.drop, List.take, Nat.reduceBEq, List.isEmpty, Int.reduceEq, Int.reduceNe, Int.reduceNeg, Int.reduceGT, Int.reduceGE, beq_true, beq_false, UInt8.reduceToNat, eqE, eq_self, foldE, maxE, minE, fillA, over, chop, List.replicate, leavesOk, leafOk, cellsEq, cellEq, E_byref, en13, bs22, rowsI_len, hck, h0]
    exact ⟨_, rfl⟩
theorem ik13 (l : List Ins) (hl : (l.length : Int) < 9223372036854775808) (row : Int) (hrow : bI row) (g : List Gl) (hg : okG g) (c w r fuel : Int) (hv : bI c ∧ bI w ∧ bI r) (hf : bI fuel) (H : Hp) :
    isoK E (callT E) 13 [.i (.sl 2 (rowsI l) false), .i (.v (.int .i64 row)), .i (.sl 3 (rowsG g) false), .agg [.i (.v (.int .i64 c)), .i (.v (.int .i64 w)), .i (.v (.int .i64 r))], .i (.v (.int .i64 fuel))] H = some (ocA (runS l row g c w r fuel), H) := isoK_val rfl rfl rfl (c13 l hl row hrow g hg c w r fuel hv hf)
end Go.VI

namespace Go.VI
open Go.Proofs
set_option maxRecDepth 100000
set_option linter.unusedSimpArgs false
set_option linter.unusedVariables false
set_option maxHeartbeats 4000000
def pushedR (row : Int) (g : List Gl) (c w op arg : Int) (p : List Int) : List Int :=
  if isV op then [valK row c w g.length op arg]
  else if op = 4 then [charS g (p.getD 0 0)]
  else if op = 5 then [styleV g (p.getD 0 0)]
  else if 8 ≤ op ∧ op ≤ 12 then [twoS op (p.getD 0 0) (p.getD 1 0)]
  else if op = 13 then [if p.getD 0 0 = 0 then 1 else 0]
  else if op = 14 then [p.getD 0 0, p.getD 0 0]
  else if op = 16 then [p.getD 1 0, p.getD 0 0]
  else []
end Go.VI

namespace Go.VI
open Go.Proofs
set_option maxRecDepth 100000
set_option linter.unusedSimpArgs false
set_option linter.unusedVariables false
set_option maxHeartbeats 4000000
def nextR (op arg i n p0 : Int) : Int := if op = 0 then n else if op = 17 then arg else if op = 18 ∧ p0 = 0 then arg else i + 1
def clsR (op c p0 : Int) : Int := if op = 19 ∧ 1 ≤ p0 ∧ p0 ≤ 3 then p0 else c
def waiR (op w p0 : Int) : Int := if op = 20 ∧ 0 ≤ p0 ∧ p0 ≤ 60000 then p0 else w
def rstK (stk : List Int) (op : Int) : Nat := stk.length - (popS op).toNat
def failR (stk : List Int) (op : Int) : Prop := (stk.length : Int) - popS op < 0 ∨ 16 < (stk.length : Int) - popS op + pushS op
instance (stk : List Int) (op : Int) : Decidable (failR stk op) := by unfold failR; infer_instance
def runR (l : List Ins) (row : Int) (g : List Gl) (c0 w0 : Int) : Nat → Nat → Nat → Int → Int → List Int → Int × Int × Nat × Int
  | 0, i, s, c, w, stk => match l[i]? with
    | none => (c, w, s, 0)
    | some _ => (c0, w0, s, 14)
  | n + 1, i, s, c, w, stk => match l[i]? with
    | none => (c, w, s, 0)
    | some p => if failR stk p.1 then (c0, w0, s + 1, 13)
      else runR l row g c0 w0 n (nextR p.1 p.2 i l.length ((stk.drop (rstK stk p.1)).getD 0 0)).toNat (s + 1) (clsR p.1 c ((stk.drop (rstK stk p.1)).getD 0 0)) (waiR p.1 w ((stk.drop (rstK stk p.1)).getD 0 0))
        (stk.take (rstK stk p.1) ++ (pushedR row g c w p.1 p.2 (stk.drop (rstK stk p.1))).map limS)
theorem runR_none {l : List Ins} {row : Int} {g : List Gl} {c0 w0 : Int} {n i s : Nat} {c w : Int} {k : List Int} (h : l[i]? = none) : runR l row g c0 w0 n i s c w k = (c, w, s, 0) := by
  cases n <;> simp only [runR, h]
theorem runR_fuel {l : List Ins} {row : Int} {g : List Gl} {c0 w0 : Int} {i s : Nat} {c w : Int} {k : List Int} {p : Ins} (h : l[i]? = some p) : runR l row g c0 w0 0 i s c w k = (c0, w0, s, 14) := by
  simp only [runR, h]
theorem runR_fail {l : List Ins} {row : Int} {g : List Gl} {c0 w0 : Int} {n i s : Nat} {c w : Int} {k : List Int} {p : Ins} (h : l[i]? = some p) (hf : failR k p.1) : runR l row g c0 w0 (n + 1) i s c w k = (c0, w0, s + 1, 13) := by
  simp only [runR, h, if_pos hf]
theorem runR_step {l : List Ins} {row : Int} {g : List Gl} {c0 w0 : Int} {n i s : Nat} {c w : Int} {a pp : List Int} {p : Ins} (h : l[i]? = some p) (hf : ¬ failR (a ++ pp) p.1) (hr : rstK (a ++ pp) p.1 = a.length) :
    runR l row g c0 w0 (n + 1) i s c w (a ++ pp) = runR l row g c0 w0 n (nextR p.1 p.2 i l.length (pp.getD 0 0)).toNat (s + 1) (clsR p.1 c (pp.getD 0 0)) (waiR p.1 w (pp.getD 0 0)) (a ++ (pushedR row g c w p.1 p.2 pp).map limS) := by
  simp only [runR, h, if_neg hf, hr, List.drop_left, List.take_left]
theorem op_all {P : Int → Prop} (h : ∀ n : Nat, n < 21 → P n) {op : Int} (h0 : 0 ≤ op) (h1 : op ≤ 20) : P op := by
  obtain ⟨n, rfl⟩ := Int.eq_ofNat_of_zero_le h0
  exact h n (by omega)
theorem pp_all : ∀ n : Nat, n < 21 → 0 ≤ popS n ∧ popS n ≤ 2 ∧ 0 ≤ pushS n ∧ pushS n ≤ 2 := by decide
theorem pp_b {op : Int} (h0 : 0 ≤ op) (h1 : op ≤ 20) : 0 ≤ popS op ∧ popS op ≤ 2 ∧ 0 ≤ pushS op ∧ pushS op ≤ 2 := op_all (P := fun op => 0 ≤ popS op ∧ popS op ≤ 2 ∧ 0 ≤ pushS op ∧ pushS op ≤ 2) pp_all h0 h1
theorem pushedR_len (row : Int) (g : List Gl) (c w : Int) {op : Int} (arg : Int) (p : List Int) (h0 : 0 ≤ op) (h1 : op ≤ 20) : ((pushedR row g c w op arg p).length : Int) = pushS op := by
  obtain ⟨n, rfl⟩ := Int.eq_ofNat_of_zero_le h0
  have : n = 0 ∨ n = 1 ∨ n = 2 ∨ n = 3 ∨ n = 4 ∨ n = 5 ∨ n = 6 ∨ n = 7 ∨ n = 8 ∨ n = 9 ∨ n = 10 ∨ n = 11 ∨ n = 12 ∨ n = 13 ∨ n = 14 ∨ n = 15 ∨ n = 16 ∨ n = 17 ∨ n = 18 ∨ n = 19 ∨ n = 20 := by omega
  rcases this with rfl | rfl | rfl | rfl | rfl | rfl | rfl | rfl | rfl | rfl | rfl | rfl | rfl | rfl | rfl | rfl | rfl | rfl | rfl | rfl | rfl <;> rfl
def okS (s : List Int) : Prop := s.length ≤ 16 ∧ ∀ x ∈ s, -999999999 ≤ x ∧ x ≤ 999999999
theorem okS_split {s : List Int} (h : okS s) {op : Int} (h0 : 0 ≤ op) (h1 : op ≤ 20) (hf : ¬ failR s op) : ∃ a pp, s = a ++ pp ∧ rstK s op = a.length ∧ (pp.length : Int) = popS op := by
  have hb := pp_b h0 h1
  unfold failR at hf
  refine ⟨s.take (rstK s op), s.drop (rstK s op), (List.take_append_drop _ _).symm, ?_, ?_⟩
  · rw [List.length_take]; unfold rstK; omega
  · rw [List.length_drop]; unfold rstK; omega
theorem okS_next {row : Int} {g : List Gl} {c w : Int} {op arg : Int} {a pp : List Int} (h : okS (a ++ pp)) (h0 : 0 ≤ op) (h1 : op ≤ 20) (hf : ¬ failR (a ++ pp) op) (hp : (pp.length : Int) = popS op) : okS (a ++ (pushedR row g c w op arg pp).map limS) := by
  have hl := pushedR_len row g c w arg pp h0 h1
  refine ⟨?_, ?_⟩
  · unfold failR at hf
    rw [List.length_append] at hf
    rw [List.length_append, List.length_map]
    omega
  · intro x hx
    rcases List.mem_append.1 hx with hx | hx
    · exact h.2 x (List.mem_append_left _ hx)
    · obtain ⟨y, _, rfl⟩ := List.mem_map.1 hx
      exact limS_b y
end Go.VI

namespace Go.VI
open Go.Proofs
set_option maxRecDepth 100000
set_option linter.unusedSimpArgs false
set_option linter.unusedVariables false
set_option maxHeartbeats 4000000
def runT (l : List Ins) (row : Int) (g : List Gl) (c w r fuel : Int) : Oc :=
  if checkI l = 0 then ⟨(runR l row g c w (limI fuel) 0 0 c w []).1, (runR l row g c w (limI fuel) 0 0 c w []).2.1, r, (runR l row g c w (limI fuel) 0 0 c w []).2.2.1, (runR l row g c w (limI fuel) 0 0 c w []).2.2.2⟩ else ⟨c, w, r, 0, checkI l⟩
theorem fld_v {a b c d e : AV} : fieldE E 30 (.agg [a, b, c, d, e]) 0 = some (.agg [a, b, c]) := by kernel_rfl
structure Vd where
  (c w r : Int)
def vdA (v : Vd) : AV := .agg [.i (.v (.int .i64 v.c)), .i (.v (.int .i64 v.w)), .i (.v (.int .i64 v.r))]
def fixV (o : Oc) : Vd := ⟨o.c, if o.c = 3 then o.w else 0, o.r⟩
def decS (l : List Ins) (row : Int) (g : List Gl) (c w r : Int) : Vd := if c = 1 ∨ (l.length : Int) = 0 ∨ (depthsS l).2 ≠ 0 then ⟨c, w, r⟩ else fixV (runS l row g c w r 5000)
def decT (l : List Ins) (row : Int) (g : List Gl) (c w r : Int) : Vd := if c = 1 ∨ (l.length : Int) = 0 ∨ (depthsS l).2 ≠ 0 then ⟨c, w, r⟩ else fixV (runT l row g c w r 5000)
theorem c15 (l : List Ins) (hl : (l.length : Int) < 9223372036854775808) (row : Int) (hrow : bI row) (g : List Gl) (hg : okG g) (c w r : Int) (hv : bI c ∧ bI w ∧ bI r) :
    ∃ L, callT E 15 [.i (.sl 2 (rowsI l) false), .i (.v (.int .i64 row)), .i (.sl 3 (rowsG g) false), .agg [.i (.v (.int .i64 c)), .i (.v (.int .i64 w)), .i (.v (.int .i64 r))]] [] = some (vdA (decS l row g c w r), L) := by
  have hve := fun H => ik19 l hl H
  have hrn := fun H => ik13 l hl row hrow g hg c w r 5000 hv (by unfold bI; omega) H
  unfold decS
  by_cases h1 : c = 1 
  · rw [if_pos (.inl h1)] 
    subst h1 
    unfold vdA 
    rw [callT_eq Tryd.func15 rfl fok15 (by simp [Tryd.ntmps15])] 
    simp (disch := first | omega | (simp only [vlen, rowsI_len]; omega)) only [vall, List.take_of_length_le, gB, gcW, gcR, posIn, renA, renL, Chunk.ren, Chunk.refs, evOpD, touchD, stepC, isFresh, nFresh, freshOf, mkR, hole, evL, evH, opd, get, putD, ofVal, cellOf, loadE, behind, lenE, idxAddrE, idxE, lookE, lookM, addPtr, intE, strE, unE, convE, AV.int, AV.bool, AV.str, ivs, take, frameOf, firstRegion, refsA, refsL, one, cellsA, floatOk, apartT, List.map, if_true, if_false, E_P, E_glob0, E_glob1, reduceCtorEq, beq_self_eq_true, ↓reduceIte, Nat.reduceEqDiff, cond_true, cond_false, Nat.reduceAdd, Nat.reduceSub, Nat.reduceMul, Nat.reduceLT, Nat.reduceLeDiff, Int.reduceToNat, Int.reduceLT, Int.reduceLE, Option.getD, Int.reduceMul, Int.reduceAdd, List.drop, List.take, Nat.reduceBEq, List.isEmpty, Int.reduceEq, Int.reduceNe, Int.reduceNeg, Int.reduceGT, Int.reduceGE, beq_true, beq_false, UInt8.reduceToNat, eqE, eq_self, foldE, maxE, minE, fillA, over, chop, List.replicate, leavesOk, leafOk, cellsEq, cellEq, E_byref, en15, bs22, bs23, rowsI_len, hve, hrn] 
    exact ⟨_, rfl⟩ 
  · by_cases h2 : (l.length : Int) = 0 
    · rw [if_pos (.inr (.inl h2))] 
      unfold vdA 
      rw [callT_eq Tryd.func15 rfl fok15 (by simp [Tryd.ntmps15])] 
      simp (disch := first | omega | (simp only [vlen, rowsI_len]; omega)) only [vall, List.take_of_length_le, gB, gcW, gcR, posIn, renA, renL, Chunk.ren, Chunk.refs, evOpD, touchD, stepC, isFresh, nFresh, freshOf, mkR, hole, evL, evH, opd, get, putD, ofVal, cellOf, loadE, behind, lenE, idxAddrE, idxE, lookE, lookM, addPtr, intE, strE, unE, convE, AV.int, AV.bool, AV.str, ivs, take, frameOf, firstRegion, refsA, refsL, one, cellsA, floatOk, apartT, List.map, if_true, if_false, E_P, E_glob0, E_glob1, reduceCtorEq, beq_self_eq_true, ↓reduceIte, Nat.reduceEqDiff, cond_true, cond_false, Nat.reduceAdd, Nat.reduceSub, Nat.reduceMul, Nat.reduceLT, Nat.reduceLeDiff, Int.reduceToNat, Int.reduceLT, Int.reduceLE, Option.getD, Int.reduceMul, Int.reduceAdd, List.drop, List.take, Nat.reduceBEq, List.isEmpty, Int.reduceEq, Int.reduceNe, Int.reduceNeg, Int.reduceGT, Int.reduceGE, beq_true, beq_false, UInt8.reduceToNat, eqE, eq_self, foldE, maxE, minE, fillA, over, chop, List.replicate, leavesOk, leafOk, cellsEq, cellEq, E_byref, en15, bs22, bs23, rowsI_len, hve, hrn, h1, h2] 
      exact ⟨_, rfl⟩ 
    · by_cases h3 : (depthsS l).2 = 0 
      · rw [if_neg (fun h => h.elim h1 (fun h => h.elim h2 (fun h => h h3)))] 
        rw [h3] at hve 
        generalize runS l row g c w r 5000 = o at * 
        obtain ⟨o1, o2, o3, o4, o5⟩ := o 
        unfold ocA at hrn 
        unfold vdA fixV 
        simp only at hrn ⊢ 
        by_cases h4 : o1 = 3 
        · rw [if_pos h4] 
          subst h4 
          rw [callT_eq Tryd.func15 rfl fok15 (by simp [Tryd.ntmps15])] 
          simp (disch := first | omega | (simp only [vlen, rowsI_len]; omega)) only [vall, List.take_of_length_le, gB, gcW, gcR, posIn, renA, renL, Chunk.ren, Chunk.refs, evOpD, touchD, stepC, isFresh, nFresh, freshOf, mkR, hole, evL, evH, opd, get, putD, ofVal, cellOf, loadE, behind, lenE, idxAddrE, idxE, lookE, lookM, addPtr, intE, strE, unE, convE, AV.int, AV.bool, AV.str, ivs, take, frameOf, firstRegion, refsA, refsL, one, cellsA, floatOk, apartT, List.map, if_true, if_false, E_P, E_glob0, E_glob1, reduceCtorEq, beq_self_eq_true, ↓reduceIte, Nat.reduceEqDiff, cond_true, cond_false, Nat.reduceAdd, Nat.reduceSub, Nat.reduceMul, Nat.reduceLT, Nat.reduceLeDiff, Int.reduceToNat, Int.reduceLT, Int.reduceLE, Option.getD, Int.reduceMul, Int.reduceAdd, List.drop, List.take, Nat.reduceBEq, List.isEmpty, Int.reduceEq, Int.reduceNe, Int.reduceNeg, Int.reduceGT, Int.reduceGE, beq_true, beq_false, UInt8.reduceToNat, eqE, eq_self, foldE, maxE, minE, fillA, over, chop, List.replicate, leavesOk, leafOk, cellsEq, cellEq, E_byref, en15, bs22, bs23, rowsI_len, hve, hrn, h1, h2, fld_v] 
          exact ⟨_, rfl⟩ 
        · rw [if_neg h4] 
          rw [callT_eq Tryd.func15 rfl fok15 (by simp [Tryd.ntmps15])] 
          simp (disch := first | omega | (simp only [vlen, rowsI_len]; omega)) only [vall, List.take_of_length_le, gB, gcW, gcR, posIn, renA, renL, Chunk.ren, Chunk.refs, evOpD, touchD, stepC, isFresh, nFresh, freshOf, mkR, hole, evL, evH, opd, get, putD, ofVal, cellOf, loadE, behind, lenE, idxAddrE, idxE, lookE, lookM, addPtr, intE, strE, unE, convE, AV.int, AV.bool, AV.str, ivs, take, frameOf, firstRegion, refsA, refsL, one, cellsA, floatOk, apartT, List.map, if_true, if_false, E_P, E_glob0, E_glob1, reduceCtorEq, beq_self_eq_true, ↓reduceIte, Nat.reduceEqDiff, cond_true, cond_false, Nat.reduceAdd, Nat.reduceSub, Nat.reduceMul, Nat.reduceLT, Nat.reduceLeDiff, Int.reduceToNat, Int.reduceLT, Int.reduceLE, Option.getD, Int.reduceMul, Int.reduceAdd, List.drop, List.take, Nat.reduceBEq, List.isEmpty, Int.reduceEq, Int.reduceNe, Int.reduceNeg, Int.reduceGT, Int.reduceGE, beq_true, beq_false, UInt8.reduceToNat, eqE, eq_self, foldE, maxE, minE, fillA, over, chop, List.replicate, leavesOk, leafOk, cellsEq, cellEq, E_byref, en15, bs22, bs23, rowsI_len, hve, hrn, h1, h2, h4, fld_v] 
          exact ⟨_, rfl⟩ 
      · rw [if_pos (.inr (.inr h3))] 
        generalize (depthsS l).2 = d at * 
        unfold vdA 
        rw [callT_eq Tryd.func15 rfl fok15 (by simp [Tryd.ntmps15])] 
        simp (disch := first | omega | (simp only [vlen, rowsI_len]; omega)) only [vall, List.take_of_length_le, gB, gcW, gcR, posIn, renA, renL, Chunk.ren, Chunk.refs, evOpD, touchD, stepC, isFresh, nFresh, freshOf, mkR, hole, evL, evH, opd, get, putD, ofVal, cellOf, loadE, behind, lenE, idxAddrE, idxE, lookE, lookM, addPtr, intE, strE, unE, convE, AV.int, AV.bool, AV.str, ivs, take, frameOf, firstRegion, refsA, refsL, one, cellsA, floatOk, apartT, List.map, if_true, if_false, E_P, E_glob0, E_glob1, reduceCtorEq, beq_self_eq_true, ↓reduceIte, Nat.reduceEqDiff, cond_true, cond_false, Nat.reduceAdd, Nat.reduceSub, Nat.reduceMul, Nat.reduceLT, Nat.reduceLeDiff, Int.reduceToNat, Int.reduceLT, Int.reduceLE, Option.getD, Int.reduceMul, Int.reduceAdd, List.drop, List.take, Nat.reduceBEq, List.isEmpty, Int.reduceEq, Int.reduceNe, Int.reduceNeg, Int.reduceGT, Int.reduceGE, beq_true, beq_false, UInt8.reduceToNat, eqE, eq_self, foldE, maxE, minE, fillA, over, chop, List.replicate, leavesOk, leafOk, cellsEq, cellEq, E_byref, en15, bs22, bs23, rowsI_len, hve, hrn, h1, h2, h3] 
        exact ⟨_, rfl⟩
theorem ik15 (l : List Ins) (hl : (l.length : Int) < 9223372036854775808) (row : Int) (hrow : bI row) (g : List Gl) (hg : okG g) (c w r : Int) (hv : bI c ∧ bI w ∧ bI r) (H : Hp) :
    isoK E (callT E) 15 [.i (.sl 2 (rowsI l) false), .i (.v (.int .i64 row)), .i (.sl 3 (rowsG g) false), .agg [.i (.v (.int .i64 c)), .i (.v (.int .i64 w)), .i (.v (.int .i64 r))]] H = some (vdA (decS l row g c w r), H) := isoK_val rfl rfl rfl (c15 l hl row hrow g hg c w r hv)
end Go.VI

namespace Go.VI
open Go.Proofs
set_option maxRecDepth 100000
set_option linter.unusedSimpArgs false
set_option linter.unusedVariables false
def Rk (k : Kk) (s : List Int) : Prop := okK k ∧ k.f = false ∧ k.st.take k.d = s
theorem Rk_len {k : Kk} {s : List Int} (h : Rk k s) : s.length = k.d := by
  obtain ⟨⟨h1, h2, h3⟩, _, h4⟩ := h
  rw [← h4, List.length_take]; omega
theorem Rk_le {k : Kk} {s : List Int} (h : Rk k s) : s.length ≤ 16 := by rw [Rk_len h]; exact h.1.2.1
theorem R_pop0 {k : Kk} (h : Rk k []) : (popK k).f = true := by
  have : k.d = 0 := (Rk_len h).symm
  simp [popK, this]
theorem R_pop1 {k : Kk} {s : List Int} {x : Int} (h : Rk k (s ++ [x])) : popV k = x ∧ Rk (popK k) s := by
  have hl := Rk_len h
  rw [List.length_append, List.length_singleton] at hl
  obtain ⟨h1, h2, h3⟩ := h
  have hd : k.d = s.length + 1 := by omega
  have hne : k.d ≠ 0 := by omega
  have hx : k.st[s.length]? = some x := by
    have : (k.st.take k.d)[s.length]? = some x := by rw [h3]; simp
    rwa [List.getElem?_take_of_lt (by omega)] at this
  refine ⟨?_, popK_ok h1, ?_, ?_⟩
  · unfold popV
    rw [if_neg hne, hd, Nat.add_sub_cancel, List.getD_eq_getElem?_getD, hx]; rfl
  · simp only [popK, h2, Bool.false_or]
    exact decide_eq_false hne
  · show k.st.take (k.d - 1) = s
    rw [hd, Nat.add_sub_cancel]
    have : (k.st.take k.d).take s.length = s := by rw [h3]; simp
    rwa [List.take_take, Nat.min_eq_left (by omega)] at this
theorem R_push {k : Kk} {s : List Int} (h : Rk k s) (hs : s.length < 16) (n : Int) : Rk (pushK k n) (s ++ [limS n]) := by
  have hl := Rk_len h
  obtain ⟨h1, h2, h3⟩ := h
  refine ⟨pushK_ok h1 n, ?_, ?_⟩
  · unfold pushK; rw [if_neg (by omega)]; exact h2
  · unfold pushK
    rw [if_neg (by omega)]
    show (k.st.set k.d (limS n)).take (k.d + 1) = s ++ [limS n]
    have hlt : k.d < k.st.length := by have := h1.1; omega
    have hlt2 : k.d < (k.st.set k.d (limS n)).length := by rw [List.length_set]; exact hlt
    rw [List.take_succ_eq_append_getElem hlt2, List.getElem_set_self, List.take_set_of_le (Nat.le_refl _), h3]
theorem R_push16 {k : Kk} {s : List Int} (h : Rk k s) (hs : s.length = 16) (n : Int) : (pushK k n).f = true := by
  have hl := Rk_len h
  unfold pushK; rw [if_pos (by omega)]
theorem popf {k : Kk} (h : k.f = true) : (popK k).f = true := by simp [popK, h]
theorem pushf {k : Kk} (h : k.f = true) (n : Int) : (pushK k n).f = true := by
  unfold pushK; split
  · rfl
  · exact h
theorem snoc_cases (s : List Int) : s = [] ∨ ∃ a x, s = a ++ [x] := by
  rcases List.eq_nil_or_concat s with h | ⟨a, x, h⟩
  · exact .inl h
  · exact .inr ⟨a, x, by rw [h, List.concat_eq_append]⟩
theorem stp_0 (row : Int) (g : List Gl) (arg c w : Int) (i n : Int) {k : Kk} {stk : List Int} (h : Rk k stk) : (failR stk (0) ∧ (doC row g (0) arg c w k).2.2.f = true) ∨ (¬ failR stk (0) ∧ ∃ a pp, stk = a ++ pp ∧ rstK stk (0) = a.length ∧ Rk (doC row g (0) arg c w k).2.2 (a ++ (pushedR row g c w (0) arg pp).map limS) ∧ (doC row g (0) arg c w k).1 = clsR (0) c (pp.getD 0 0) ∧ (doC row g (0) arg c w k).2.1 = waiR (0) w (pp.getD 0 0) ∧ nextC (0) arg i n k = nextR (0) arg i n (pp.getD 0 0)) := by
  have hl := Rk_le h
  have hp : popS 0 = 0 := rfl
  have hq : pushS 0 = 0 := rfl
  have hd : doC row g 0 arg c w k = (c, w, k) := rfl
  rw [hd]
  unfold failR rstK
  rw [hp, hq]
  exact .inr ⟨by omega, stk, [], by simp, by simp, by rw [show pushedR row g c w 0 arg [] = [] from rfl, List.map_nil, List.append_nil]; exact h, rfl, rfl, rfl⟩
theorem stp_17 (row : Int) (g : List Gl) (arg c w : Int) (i n : Int) {k : Kk} {stk : List Int} (h : Rk k stk) : (failR stk (17) ∧ (doC row g (17) arg c w k).2.2.f = true) ∨ (¬ failR stk (17) ∧ ∃ a pp, stk = a ++ pp ∧ rstK stk (17) = a.length ∧ Rk (doC row g (17) arg c w k).2.2 (a ++ (pushedR row g c w (17) arg pp).map limS) ∧ (doC row g (17) arg c w k).1 = clsR (17) c (pp.getD 0 0) ∧ (doC row g (17) arg c w k).2.1 = waiR (17) w (pp.getD 0 0) ∧ nextC (17) arg i n k = nextR (17) arg i n (pp.getD 0 0)) := by
  have hl := Rk_le h
  have hp : popS 17 = 0 := rfl
  have hq : pushS 17 = 0 := rfl
  have hd : doC row g 17 arg c w k = (c, w, k) := rfl
  rw [hd]
  unfold failR rstK
  rw [hp, hq]
  exact .inr ⟨by omega, stk, [], by simp, by simp, by rw [show pushedR row g c w 17 arg [] = [] from rfl, List.map_nil, List.append_nil]; exact h, rfl, rfl, rfl⟩
theorem stp_1 (row : Int) (g : List Gl) (arg c w : Int) (i n : Int) {k : Kk} {stk : List Int} (h : Rk k stk) : (failR stk (1) ∧ (doC row g (1) arg c w k).2.2.f = true) ∨ (¬ failR stk (1) ∧ ∃ a pp, stk = a ++ pp ∧ rstK stk (1) = a.length ∧ Rk (doC row g (1) arg c w k).2.2 (a ++ (pushedR row g c w (1) arg pp).map limS) ∧ (doC row g (1) arg c w k).1 = clsR (1) c (pp.getD 0 0) ∧ (doC row g (1) arg c w k).2.1 = waiR (1) w (pp.getD 0 0) ∧ nextC (1) arg i n k = nextR (1) arg i n (pp.getD 0 0)) := by
  have hl := Rk_le h
  have hp : popS 1 = 0 := rfl
  have hq : pushS 1 = 1 := rfl
  have hd : doC row g 1 arg c w k = (c, w, pushK k (arg)) := rfl
  rw [hd]
  unfold failR rstK
  rw [hp, hq]
  by_cases h16 : stk.length = 16
  · exact .inl ⟨by omega, R_push16 h h16 _⟩
  · exact .inr ⟨by omega, stk, [], by simp, by simp, by rw [show pushedR row g c w 1 arg [] = [arg] from rfl]; exact R_push h (by omega) _, rfl, rfl, rfl⟩
theorem stp_2 (row : Int) (g : List Gl) (arg c w : Int) (i n : Int) {k : Kk} {stk : List Int} (h : Rk k stk) : (failR stk (2) ∧ (doC row g (2) arg c w k).2.2.f = true) ∨ (¬ failR stk (2) ∧ ∃ a pp, stk = a ++ pp ∧ rstK stk (2) = a.length ∧ Rk (doC row g (2) arg c w k).2.2 (a ++ (pushedR row g c w (2) arg pp).map limS) ∧ (doC row g (2) arg c w k).1 = clsR (2) c (pp.getD 0 0) ∧ (doC row g (2) arg c w k).2.1 = waiR (2) w (pp.getD 0 0) ∧ nextC (2) arg i n k = nextR (2) arg i n (pp.getD 0 0)) := by
  have hl := Rk_le h
  have hp : popS 2 = 0 := rfl
  have hq : pushS 2 = 1 := rfl
  have hd : doC row g 2 arg c w k = (c, w, pushK k (row)) := rfl
  rw [hd]
  unfold failR rstK
  rw [hp, hq]
  by_cases h16 : stk.length = 16
  · exact .inl ⟨by omega, R_push16 h h16 _⟩
  · exact .inr ⟨by omega, stk, [], by simp, by simp, by rw [show pushedR row g c w 2 arg [] = [row] from rfl]; exact R_push h (by omega) _, rfl, rfl, rfl⟩
theorem stp_3 (row : Int) (g : List Gl) (arg c w : Int) (i n : Int) {k : Kk} {stk : List Int} (h : Rk k stk) : (failR stk (3) ∧ (doC row g (3) arg c w k).2.2.f = true) ∨ (¬ failR stk (3) ∧ ∃ a pp, stk = a ++ pp ∧ rstK stk (3) = a.length ∧ Rk (doC row g (3) arg c w k).2.2 (a ++ (pushedR row g c w (3) arg pp).map limS) ∧ (doC row g (3) arg c w k).1 = clsR (3) c (pp.getD 0 0) ∧ (doC row g (3) arg c w k).2.1 = waiR (3) w (pp.getD 0 0) ∧ nextC (3) arg i n k = nextR (3) arg i n (pp.getD 0 0)) := by
  have hl := Rk_le h
  have hp : popS 3 = 0 := rfl
  have hq : pushS 3 = 1 := rfl
  have hd : doC row g 3 arg c w k = (c, w, pushK k ((g.length : Int))) := rfl
  rw [hd]
  unfold failR rstK
  rw [hp, hq]
  by_cases h16 : stk.length = 16
  · exact .inl ⟨by omega, R_push16 h h16 _⟩
  · exact .inr ⟨by omega, stk, [], by simp, by simp, by rw [show pushedR row g c w 3 arg [] = [(g.length : Int)] from rfl]; exact R_push h (by omega) _, rfl, rfl, rfl⟩
theorem stp_6 (row : Int) (g : List Gl) (arg c w : Int) (i n : Int) {k : Kk} {stk : List Int} (h : Rk k stk) : (failR stk (6) ∧ (doC row g (6) arg c w k).2.2.f = true) ∨ (¬ failR stk (6) ∧ ∃ a pp, stk = a ++ pp ∧ rstK stk (6) = a.length ∧ Rk (doC row g (6) arg c w k).2.2 (a ++ (pushedR row g c w (6) arg pp).map limS) ∧ (doC row g (6) arg c w k).1 = clsR (6) c (pp.getD 0 0) ∧ (doC row g (6) arg c w k).2.1 = waiR (6) w (pp.getD 0 0) ∧ nextC (6) arg i n k = nextR (6) arg i n (pp.getD 0 0)) := by
  have hl := Rk_le h
  have hp : popS 6 = 0 := rfl
  have hq : pushS 6 = 1 := rfl
  have hd : doC row g 6 arg c w k = (c, w, pushK k (c)) := rfl
  rw [hd]
  unfold failR rstK
  rw [hp, hq]
  by_cases h16 : stk.length = 16
  · exact .inl ⟨by omega, R_push16 h h16 _⟩
  · exact .inr ⟨by omega, stk, [], by simp, by simp, by rw [show pushedR row g c w 6 arg [] = [c] from rfl]; exact R_push h (by omega) _, rfl, rfl, rfl⟩
theorem stp_7 (row : Int) (g : List Gl) (arg c w : Int) (i n : Int) {k : Kk} {stk : List Int} (h : Rk k stk) : (failR stk (7) ∧ (doC row g (7) arg c w k).2.2.f = true) ∨ (¬ failR stk (7) ∧ ∃ a pp, stk = a ++ pp ∧ rstK stk (7) = a.length ∧ Rk (doC row g (7) arg c w k).2.2 (a ++ (pushedR row g c w (7) arg pp).map limS) ∧ (doC row g (7) arg c w k).1 = clsR (7) c (pp.getD 0 0) ∧ (doC row g (7) arg c w k).2.1 = waiR (7) w (pp.getD 0 0) ∧ nextC (7) arg i n k = nextR (7) arg i n (pp.getD 0 0)) := by
  have hl := Rk_le h
  have hp : popS 7 = 0 := rfl
  have hq : pushS 7 = 1 := rfl
  have hd : doC row g 7 arg c w k = (c, w, pushK k (w)) := rfl
  rw [hd]
  unfold failR rstK
  rw [hp, hq]
  by_cases h16 : stk.length = 16
  · exact .inl ⟨by omega, R_push16 h h16 _⟩
  · exact .inr ⟨by omega, stk, [], by simp, by simp, by rw [show pushedR row g c w 7 arg [] = [w] from rfl]; exact R_push h (by omega) _, rfl, rfl, rfl⟩
theorem stp_15 (row : Int) (g : List Gl) (arg c w : Int) (i n : Int) {k : Kk} {stk : List Int} (h : Rk k stk) : (failR stk (15) ∧ (doC row g (15) arg c w k).2.2.f = true) ∨ (¬ failR stk (15) ∧ ∃ a pp, stk = a ++ pp ∧ rstK stk (15) = a.length ∧ Rk (doC row g (15) arg c w k).2.2 (a ++ (pushedR row g c w (15) arg pp).map limS) ∧ (doC row g (15) arg c w k).1 = clsR (15) c (pp.getD 0 0) ∧ (doC row g (15) arg c w k).2.1 = waiR (15) w (pp.getD 0 0) ∧ nextC (15) arg i n k = nextR (15) arg i n (pp.getD 0 0)) := by
  have hl := Rk_le h
  have hp : popS 15 = 1 := rfl
  have hq : pushS 15 = 0 := rfl
  have hd : doC row g 15 arg c w k = (c, w, popK k) := rfl
  rw [hd]
  unfold failR rstK
  rw [hp, hq]
  rcases snoc_cases stk with rfl | ⟨a, x, rfl⟩
  · exact .inl ⟨by simp, R_pop0 h⟩
  · obtain ⟨e1, e2⟩ := R_pop1 h
    exact .inr ⟨by simp only [List.length_append, List.length_singleton] at *; omega, a, [x], rfl, by simp, by rw [show pushedR row g c w 15 arg [x] = [] from rfl, List.map_nil, List.append_nil]; exact e2, rfl, rfl, rfl⟩
theorem stp_18 (row : Int) (g : List Gl) (arg c w : Int) (i n : Int) {k : Kk} {stk : List Int} (h : Rk k stk) : (failR stk (18) ∧ (doC row g (18) arg c w k).2.2.f = true) ∨ (¬ failR stk (18) ∧ ∃ a pp, stk = a ++ pp ∧ rstK stk (18) = a.length ∧ Rk (doC row g (18) arg c w k).2.2 (a ++ (pushedR row g c w (18) arg pp).map limS) ∧ (doC row g (18) arg c w k).1 = clsR (18) c (pp.getD 0 0) ∧ (doC row g (18) arg c w k).2.1 = waiR (18) w (pp.getD 0 0) ∧ nextC (18) arg i n k = nextR (18) arg i n (pp.getD 0 0)) := by
  have hl := Rk_le h
  have hp : popS 18 = 1 := rfl
  have hq : pushS 18 = 0 := rfl
  have hd : doC row g 18 arg c w k = (c, w, popK k) := rfl
  rw [hd]
  unfold failR rstK
  rw [hp, hq]
  rcases snoc_cases stk with rfl | ⟨a, x, rfl⟩
  · exact .inl ⟨by simp, R_pop0 h⟩
  · obtain ⟨e1, e2⟩ := R_pop1 h
    exact .inr ⟨by simp only [List.length_append, List.length_singleton] at *; omega, a, [x], rfl, by simp, by rw [show pushedR row g c w 18 arg [x] = [] from rfl, List.map_nil, List.append_nil]; exact e2, rfl, rfl, by unfold nextC nextR; rw [e1]; rfl⟩
theorem stp_19 (row : Int) (g : List Gl) (arg c w : Int) (i n : Int) {k : Kk} {stk : List Int} (h : Rk k stk) : (failR stk (19) ∧ (doC row g (19) arg c w k).2.2.f = true) ∨ (¬ failR stk (19) ∧ ∃ a pp, stk = a ++ pp ∧ rstK stk (19) = a.length ∧ Rk (doC row g (19) arg c w k).2.2 (a ++ (pushedR row g c w (19) arg pp).map limS) ∧ (doC row g (19) arg c w k).1 = clsR (19) c (pp.getD 0 0) ∧ (doC row g (19) arg c w k).2.1 = waiR (19) w (pp.getD 0 0) ∧ nextC (19) arg i n k = nextR (19) arg i n (pp.getD 0 0)) := by
  have hl := Rk_le h
  have hp : popS 19 = 1 := rfl
  have hq : pushS 19 = 0 := rfl
  have hd : doC row g 19 arg c w k = (if 1 ≤ popV k ∧ popV k ≤ 3 then popV k else c, w, popK k) := rfl
  rw [hd]
  unfold failR rstK
  rw [hp, hq]
  rcases snoc_cases stk with rfl | ⟨a, x, rfl⟩
  · exact .inl ⟨by simp, R_pop0 h⟩
  · obtain ⟨e1, e2⟩ := R_pop1 h
    exact .inr ⟨by simp only [List.length_append, List.length_singleton] at *; omega, a, [x], rfl, by simp, by rw [show pushedR row g c w 19 arg [x] = [] from rfl, List.map_nil, List.append_nil]; exact e2, by simp only [clsR, e1]; simp, rfl, rfl⟩
theorem stp_20 (row : Int) (g : List Gl) (arg c w : Int) (i n : Int) {k : Kk} {stk : List Int} (h : Rk k stk) : (failR stk (20) ∧ (doC row g (20) arg c w k).2.2.f = true) ∨ (¬ failR stk (20) ∧ ∃ a pp, stk = a ++ pp ∧ rstK stk (20) = a.length ∧ Rk (doC row g (20) arg c w k).2.2 (a ++ (pushedR row g c w (20) arg pp).map limS) ∧ (doC row g (20) arg c w k).1 = clsR (20) c (pp.getD 0 0) ∧ (doC row g (20) arg c w k).2.1 = waiR (20) w (pp.getD 0 0) ∧ nextC (20) arg i n k = nextR (20) arg i n (pp.getD 0 0)) := by
  have hl := Rk_le h
  have hp : popS 20 = 1 := rfl
  have hq : pushS 20 = 0 := rfl
  have hd : doC row g 20 arg c w k = (c, if 0 ≤ popV k ∧ popV k ≤ 60000 then popV k else w, popK k) := rfl
  rw [hd]
  unfold failR rstK
  rw [hp, hq]
  rcases snoc_cases stk with rfl | ⟨a, x, rfl⟩
  · exact .inl ⟨by simp, R_pop0 h⟩
  · obtain ⟨e1, e2⟩ := R_pop1 h
    exact .inr ⟨by simp only [List.length_append, List.length_singleton] at *; omega, a, [x], rfl, by simp, by rw [show pushedR row g c w 20 arg [x] = [] from rfl, List.map_nil, List.append_nil]; exact e2, rfl, by simp only [waiR, e1]; simp, rfl⟩
theorem stp_4 (row : Int) (g : List Gl) (arg c w : Int) (i n : Int) {k : Kk} {stk : List Int} (h : Rk k stk) : (failR stk (4) ∧ (doC row g (4) arg c w k).2.2.f = true) ∨ (¬ failR stk (4) ∧ ∃ a pp, stk = a ++ pp ∧ rstK stk (4) = a.length ∧ Rk (doC row g (4) arg c w k).2.2 (a ++ (pushedR row g c w (4) arg pp).map limS) ∧ (doC row g (4) arg c w k).1 = clsR (4) c (pp.getD 0 0) ∧ (doC row g (4) arg c w k).2.1 = waiR (4) w (pp.getD 0 0) ∧ nextC (4) arg i n k = nextR (4) arg i n (pp.getD 0 0)) := by
  have hl := Rk_le h
  have hp : popS 4 = 1 := rfl
  have hq : pushS 4 = 1 := rfl
  have hd : doC row g 4 arg c w k = (c, w, pushK (popK k) (charS g (popV k))) := rfl
  rw [hd]
  unfold failR rstK
  rw [hp, hq]
  rcases snoc_cases stk with rfl | ⟨a, x, rfl⟩
  · exact .inl ⟨by simp, pushf (R_pop0 h) _⟩
  · obtain ⟨e1, e2⟩ := R_pop1 h
    have hl2 : a.length < 16 := by simp only [List.length_append, List.length_singleton] at hl; omega
    exact .inr ⟨by simp only [List.length_append, List.length_singleton] at *; omega, a, [x], rfl, by simp, by rw [show pushedR row g c w 4 arg [x] = [charS g (x)] from rfl, e1]; exact R_push e2 hl2 _, rfl, rfl, rfl⟩
theorem stp_5 (row : Int) (g : List Gl) (arg c w : Int) (i n : Int) {k : Kk} {stk : List Int} (h : Rk k stk) : (failR stk (5) ∧ (doC row g (5) arg c w k).2.2.f = true) ∨ (¬ failR stk (5) ∧ ∃ a pp, stk = a ++ pp ∧ rstK stk (5) = a.length ∧ Rk (doC row g (5) arg c w k).2.2 (a ++ (pushedR row g c w (5) arg pp).map limS) ∧ (doC row g (5) arg c w k).1 = clsR (5) c (pp.getD 0 0) ∧ (doC row g (5) arg c w k).2.1 = waiR (5) w (pp.getD 0 0) ∧ nextC (5) arg i n k = nextR (5) arg i n (pp.getD 0 0)) := by
  have hl := Rk_le h
  have hp : popS 5 = 1 := rfl
  have hq : pushS 5 = 1 := rfl
  have hd : doC row g 5 arg c w k = (c, w, pushK (popK k) (styleV g (popV k))) := rfl
  rw [hd]
  unfold failR rstK
  rw [hp, hq]
  rcases snoc_cases stk with rfl | ⟨a, x, rfl⟩
  · exact .inl ⟨by simp, pushf (R_pop0 h) _⟩
  · obtain ⟨e1, e2⟩ := R_pop1 h
    have hl2 : a.length < 16 := by simp only [List.length_append, List.length_singleton] at hl; omega
    exact .inr ⟨by simp only [List.length_append, List.length_singleton] at *; omega, a, [x], rfl, by simp, by rw [show pushedR row g c w 5 arg [x] = [styleV g (x)] from rfl, e1]; exact R_push e2 hl2 _, rfl, rfl, rfl⟩
theorem stp_13 (row : Int) (g : List Gl) (arg c w : Int) (i n : Int) {k : Kk} {stk : List Int} (h : Rk k stk) : (failR stk (13) ∧ (doC row g (13) arg c w k).2.2.f = true) ∨ (¬ failR stk (13) ∧ ∃ a pp, stk = a ++ pp ∧ rstK stk (13) = a.length ∧ Rk (doC row g (13) arg c w k).2.2 (a ++ (pushedR row g c w (13) arg pp).map limS) ∧ (doC row g (13) arg c w k).1 = clsR (13) c (pp.getD 0 0) ∧ (doC row g (13) arg c w k).2.1 = waiR (13) w (pp.getD 0 0) ∧ nextC (13) arg i n k = nextR (13) arg i n (pp.getD 0 0)) := by
  have hl := Rk_le h
  have hp : popS 13 = 1 := rfl
  have hq : pushS 13 = 1 := rfl
  have hd : doC row g 13 arg c w k = (c, w, pushK (popK k) (if popV k = 0 then 1 else 0)) := rfl
  rw [hd]
  unfold failR rstK
  rw [hp, hq]
  rcases snoc_cases stk with rfl | ⟨a, x, rfl⟩
  · exact .inl ⟨by simp, pushf (R_pop0 h) _⟩
  · obtain ⟨e1, e2⟩ := R_pop1 h
    have hl2 : a.length < 16 := by simp only [List.length_append, List.length_singleton] at hl; omega
    exact .inr ⟨by simp only [List.length_append, List.length_singleton] at *; omega, a, [x], rfl, by simp, by rw [show pushedR row g c w 13 arg [x] = [if x = 0 then 1 else 0] from rfl, e1]; exact R_push e2 hl2 _, rfl, rfl, rfl⟩
theorem stp_8 (row : Int) (g : List Gl) (arg c w : Int) (i n : Int) {k : Kk} {stk : List Int} (h : Rk k stk) : (failR stk (8) ∧ (doC row g (8) arg c w k).2.2.f = true) ∨ (¬ failR stk (8) ∧ ∃ a pp, stk = a ++ pp ∧ rstK stk (8) = a.length ∧ Rk (doC row g (8) arg c w k).2.2 (a ++ (pushedR row g c w (8) arg pp).map limS) ∧ (doC row g (8) arg c w k).1 = clsR (8) c (pp.getD 0 0) ∧ (doC row g (8) arg c w k).2.1 = waiR (8) w (pp.getD 0 0) ∧ nextC (8) arg i n k = nextR (8) arg i n (pp.getD 0 0)) := by
  have hl := Rk_le h
  have hp : popS 8 = 2 := rfl
  have hq : pushS 8 = 1 := rfl
  have hd : doC row g 8 arg c w k = (c, w, pushK (popK (popK k)) (popV (popK k) + popV k)) := rfl
  rw [hd]
  unfold failR rstK
  rw [hp, hq]
  rcases snoc_cases stk with rfl | ⟨a, x, rfl⟩
  · exact .inl ⟨by simp, pushf (popf (R_pop0 h)) _⟩
  · obtain ⟨e1, e2⟩ := R_pop1 h
    rcases snoc_cases a with rfl | ⟨a, y, rfl⟩
    · exact .inl ⟨by simp, pushf (R_pop0 e2) _⟩
    · obtain ⟨e3, e4⟩ := R_pop1 e2
      have hl2 : a.length < 16 := by simp only [List.length_append, List.length_singleton] at hl; omega
      exact .inr ⟨by simp only [List.length_append, List.length_singleton] at *; omega, a, [y, x], by simp, by simp, by rw [show pushedR row g c w 8 arg [y, x] = [y + x] from rfl, e1, e3]; exact R_push e4 hl2 _, rfl, rfl, rfl⟩
theorem stp_9 (row : Int) (g : List Gl) (arg c w : Int) (i n : Int) {k : Kk} {stk : List Int} (h : Rk k stk) : (failR stk (9) ∧ (doC row g (9) arg c w k).2.2.f = true) ∨ (¬ failR stk (9) ∧ ∃ a pp, stk = a ++ pp ∧ rstK stk (9) = a.length ∧ Rk (doC row g (9) arg c w k).2.2 (a ++ (pushedR row g c w (9) arg pp).map limS) ∧ (doC row g (9) arg c w k).1 = clsR (9) c (pp.getD 0 0) ∧ (doC row g (9) arg c w k).2.1 = waiR (9) w (pp.getD 0 0) ∧ nextC (9) arg i n k = nextR (9) arg i n (pp.getD 0 0)) := by
  have hl := Rk_le h
  have hp : popS 9 = 2 := rfl
  have hq : pushS 9 = 1 := rfl
  have hd : doC row g 9 arg c w k = (c, w, pushK (popK (popK k)) (popV (popK k) - popV k)) := rfl
  rw [hd]
  unfold failR rstK
  rw [hp, hq]
  rcases snoc_cases stk with rfl | ⟨a, x, rfl⟩
  · exact .inl ⟨by simp, pushf (popf (R_pop0 h)) _⟩
  · obtain ⟨e1, e2⟩ := R_pop1 h
    rcases snoc_cases a with rfl | ⟨a, y, rfl⟩
    · exact .inl ⟨by simp, pushf (R_pop0 e2) _⟩
    · obtain ⟨e3, e4⟩ := R_pop1 e2
      have hl2 : a.length < 16 := by simp only [List.length_append, List.length_singleton] at hl; omega
      exact .inr ⟨by simp only [List.length_append, List.length_singleton] at *; omega, a, [y, x], by simp, by simp, by rw [show pushedR row g c w 9 arg [y, x] = [y - x] from rfl, e1, e3]; exact R_push e4 hl2 _, rfl, rfl, rfl⟩
theorem stp_10 (row : Int) (g : List Gl) (arg c w : Int) (i n : Int) {k : Kk} {stk : List Int} (h : Rk k stk) : (failR stk (10) ∧ (doC row g (10) arg c w k).2.2.f = true) ∨ (¬ failR stk (10) ∧ ∃ a pp, stk = a ++ pp ∧ rstK stk (10) = a.length ∧ Rk (doC row g (10) arg c w k).2.2 (a ++ (pushedR row g c w (10) arg pp).map limS) ∧ (doC row g (10) arg c w k).1 = clsR (10) c (pp.getD 0 0) ∧ (doC row g (10) arg c w k).2.1 = waiR (10) w (pp.getD 0 0) ∧ nextC (10) arg i n k = nextR (10) arg i n (pp.getD 0 0)) := by
  have hl := Rk_le h
  have hp : popS 10 = 2 := rfl
  have hq : pushS 10 = 1 := rfl
  have hd : doC row g 10 arg c w k = (c, w, pushK (popK (popK k)) (popV (popK k) * popV k)) := rfl
  rw [hd]
  unfold failR rstK
  rw [hp, hq]
  rcases snoc_cases stk with rfl | ⟨a, x, rfl⟩
  · exact .inl ⟨by simp, pushf (popf (R_pop0 h)) _⟩
  · obtain ⟨e1, e2⟩ := R_pop1 h
    rcases snoc_cases a with rfl | ⟨a, y, rfl⟩
    · exact .inl ⟨by simp, pushf (R_pop0 e2) _⟩
    · obtain ⟨e3, e4⟩ := R_pop1 e2
      have hl2 : a.length < 16 := by simp only [List.length_append, List.length_singleton] at hl; omega
      exact .inr ⟨by simp only [List.length_append, List.length_singleton] at *; omega, a, [y, x], by simp, by simp, by rw [show pushedR row g c w 10 arg [y, x] = [y * x] from rfl, e1, e3]; exact R_push e4 hl2 _, rfl, rfl, rfl⟩
theorem stp_11 (row : Int) (g : List Gl) (arg c w : Int) (i n : Int) {k : Kk} {stk : List Int} (h : Rk k stk) : (failR stk (11) ∧ (doC row g (11) arg c w k).2.2.f = true) ∨ (¬ failR stk (11) ∧ ∃ a pp, stk = a ++ pp ∧ rstK stk (11) = a.length ∧ Rk (doC row g (11) arg c w k).2.2 (a ++ (pushedR row g c w (11) arg pp).map limS) ∧ (doC row g (11) arg c w k).1 = clsR (11) c (pp.getD 0 0) ∧ (doC row g (11) arg c w k).2.1 = waiR (11) w (pp.getD 0 0) ∧ nextC (11) arg i n k = nextR (11) arg i n (pp.getD 0 0)) := by
  have hl := Rk_le h
  have hp : popS 11 = 2 := rfl
  have hq : pushS 11 = 1 := rfl
  have hd : doC row g 11 arg c w k = (c, w, pushK (popK (popK k)) (if popV (popK k) = popV k then 1 else 0)) := rfl
  rw [hd]
  unfold failR rstK
  rw [hp, hq]
  rcases snoc_cases stk with rfl | ⟨a, x, rfl⟩
  · exact .inl ⟨by simp, pushf (popf (R_pop0 h)) _⟩
  · obtain ⟨e1, e2⟩ := R_pop1 h
    rcases snoc_cases a with rfl | ⟨a, y, rfl⟩
    · exact .inl ⟨by simp, pushf (R_pop0 e2) _⟩
    · obtain ⟨e3, e4⟩ := R_pop1 e2
      have hl2 : a.length < 16 := by simp only [List.length_append, List.length_singleton] at hl; omega
      exact .inr ⟨by simp only [List.length_append, List.length_singleton] at *; omega, a, [y, x], by simp, by simp, by rw [show pushedR row g c w 11 arg [y, x] = [if y = x then 1 else 0] from rfl, e1, e3]; exact R_push e4 hl2 _, rfl, rfl, rfl⟩
theorem stp_12 (row : Int) (g : List Gl) (arg c w : Int) (i n : Int) {k : Kk} {stk : List Int} (h : Rk k stk) : (failR stk (12) ∧ (doC row g (12) arg c w k).2.2.f = true) ∨ (¬ failR stk (12) ∧ ∃ a pp, stk = a ++ pp ∧ rstK stk (12) = a.length ∧ Rk (doC row g (12) arg c w k).2.2 (a ++ (pushedR row g c w (12) arg pp).map limS) ∧ (doC row g (12) arg c w k).1 = clsR (12) c (pp.getD 0 0) ∧ (doC row g (12) arg c w k).2.1 = waiR (12) w (pp.getD 0 0) ∧ nextC (12) arg i n k = nextR (12) arg i n (pp.getD 0 0)) := by
  have hl := Rk_le h
  have hp : popS 12 = 2 := rfl
  have hq : pushS 12 = 1 := rfl
  have hd : doC row g 12 arg c w k = (c, w, pushK (popK (popK k)) (if popV (popK k) < popV k then 1 else 0)) := rfl
  rw [hd]
  unfold failR rstK
  rw [hp, hq]
  rcases snoc_cases stk with rfl | ⟨a, x, rfl⟩
  · exact .inl ⟨by simp, pushf (popf (R_pop0 h)) _⟩
  · obtain ⟨e1, e2⟩ := R_pop1 h
    rcases snoc_cases a with rfl | ⟨a, y, rfl⟩
    · exact .inl ⟨by simp, pushf (R_pop0 e2) _⟩
    · obtain ⟨e3, e4⟩ := R_pop1 e2
      have hl2 : a.length < 16 := by simp only [List.length_append, List.length_singleton] at hl; omega
      exact .inr ⟨by simp only [List.length_append, List.length_singleton] at *; omega, a, [y, x], by simp, by simp, by rw [show pushedR row g c w 12 arg [y, x] = [if y < x then 1 else 0] from rfl, e1, e3]; exact R_push e4 hl2 _, rfl, rfl, rfl⟩
theorem stp_14 (row : Int) (g : List Gl) (arg c w : Int) (i n : Int) {k : Kk} {stk : List Int} (h : Rk k stk) : (failR stk (14) ∧ (doC row g (14) arg c w k).2.2.f = true) ∨ (¬ failR stk (14) ∧ ∃ a pp, stk = a ++ pp ∧ rstK stk (14) = a.length ∧ Rk (doC row g (14) arg c w k).2.2 (a ++ (pushedR row g c w (14) arg pp).map limS) ∧ (doC row g (14) arg c w k).1 = clsR (14) c (pp.getD 0 0) ∧ (doC row g (14) arg c w k).2.1 = waiR (14) w (pp.getD 0 0) ∧ nextC (14) arg i n k = nextR (14) arg i n (pp.getD 0 0)) := by
  have hl := Rk_le h
  have hp : popS 14 = 1 := rfl
  have hq : pushS 14 = 2 := rfl
  have hd : doC row g 14 arg c w k = (c, w, pushK (pushK (popK k) (popV k)) (popV k)) := rfl
  rw [hd]
  unfold failR rstK
  rw [hp, hq]
  rcases snoc_cases stk with rfl | ⟨a, x, rfl⟩
  · exact .inl ⟨by simp, pushf (pushf (R_pop0 h) _) _⟩
  · obtain ⟨e1, e2⟩ := R_pop1 h
    have hl2 : a.length < 16 := by simp only [List.length_append, List.length_singleton] at hl; omega
    have e5 := R_push e2 hl2 (popV k)
    by_cases h15 : a.length = 15
    · exact .inl ⟨by simp only [List.length_append, List.length_singleton] at *; omega, R_push16 e5 (by simp only [List.length_append, List.length_singleton]; omega) _⟩
    · exact .inr ⟨by simp only [List.length_append, List.length_singleton] at *; omega, a, [x], rfl, by simp, by
        rw [show pushedR row g c w 14 arg [x] = [x, x] from rfl]
        have e6 := R_push e5 (by simp only [List.length_append, List.length_singleton]; omega) (popV k)
        rw [e1] at e6 ⊢
        simpa using e6, rfl, rfl, rfl⟩
theorem stp_16 (row : Int) (g : List Gl) (arg c w : Int) (i n : Int) {k : Kk} {stk : List Int} (h : Rk k stk) : (failR stk (16) ∧ (doC row g (16) arg c w k).2.2.f = true) ∨ (¬ failR stk (16) ∧ ∃ a pp, stk = a ++ pp ∧ rstK stk (16) = a.length ∧ Rk (doC row g (16) arg c w k).2.2 (a ++ (pushedR row g c w (16) arg pp).map limS) ∧ (doC row g (16) arg c w k).1 = clsR (16) c (pp.getD 0 0) ∧ (doC row g (16) arg c w k).2.1 = waiR (16) w (pp.getD 0 0) ∧ nextC (16) arg i n k = nextR (16) arg i n (pp.getD 0 0)) := by
  have hl := Rk_le h
  have hp : popS 16 = 2 := rfl
  have hq : pushS 16 = 2 := rfl
  have hd : doC row g 16 arg c w k = (c, w, pushK (pushK (popK (popK k)) (popV k)) (popV (popK k))) := rfl
  rw [hd]
  unfold failR rstK
  rw [hp, hq]
  rcases snoc_cases stk with rfl | ⟨a, x, rfl⟩
  · exact .inl ⟨by simp, pushf (pushf (popf (R_pop0 h)) _) _⟩
  · obtain ⟨e1, e2⟩ := R_pop1 h
    rcases snoc_cases a with rfl | ⟨a, y, rfl⟩
    · exact .inl ⟨by simp, pushf (pushf (R_pop0 e2) _) _⟩
    · obtain ⟨e3, e4⟩ := R_pop1 e2
      have hl2 : a.length < 15 := by simp only [List.length_append, List.length_singleton] at hl; omega
      have e5 := R_push e4 (by omega) (popV k)
      have e6 := R_push e5 (by simp only [List.length_append, List.length_singleton]; omega) (popV (popK k))
      exact .inr ⟨by simp only [List.length_append, List.length_singleton] at *; omega, a, [y, x], by simp, by simp, by
        rw [show pushedR row g c w 16 arg [y, x] = [x, y] from rfl]
        rw [e1, e3] at e6 ⊢
        simpa using e6, rfl, rfl, rfl⟩
theorem stpM (op : Int) (h0 : 0 ≤ op) (h1 : op ≤ 20) (row : Int) (g : List Gl) (arg c w : Int) (i n : Int) {k : Kk} {stk : List Int} (h : Rk k stk) : (failR stk (op) ∧ (doC row g (op) arg c w k).2.2.f = true) ∨ (¬ failR stk (op) ∧ ∃ a pp, stk = a ++ pp ∧ rstK stk (op) = a.length ∧ Rk (doC row g (op) arg c w k).2.2 (a ++ (pushedR row g c w (op) arg pp).map limS) ∧ (doC row g (op) arg c w k).1 = clsR (op) c (pp.getD 0 0) ∧ (doC row g (op) arg c w k).2.1 = waiR (op) w (pp.getD 0 0) ∧ nextC (op) arg i n k = nextR (op) arg i n (pp.getD 0 0)) := by
  obtain ⟨m, rfl⟩ := Int.eq_ofNat_of_zero_le h0
  have : m = 0 ∨ m = 1 ∨ m = 2 ∨ m = 3 ∨ m = 4 ∨ m = 5 ∨ m = 6 ∨ m = 7 ∨ m = 8 ∨ m = 9 ∨ m = 10 ∨ m = 11 ∨ m = 12 ∨ m = 13 ∨ m = 14 ∨ m = 15 ∨ m = 16 ∨ m = 17 ∨ m = 18 ∨ m = 19 ∨ m = 20 := by omega
  rcases this with rfl | rfl | rfl | rfl | rfl | rfl | rfl | rfl | rfl | rfl | rfl | rfl | rfl | rfl | rfl | rfl | rfl | rfl | rfl | rfl | rfl
  · exact stp_0 row g arg c w i n h
  · exact stp_1 row g arg c w i n h
  · exact stp_2 row g arg c w i n h
  · exact stp_3 row g arg c w i n h
  · exact stp_4 row g arg c w i n h
  · exact stp_5 row g arg c w i n h
  · exact stp_6 row g arg c w i n h
  · exact stp_7 row g arg c w i n h
  · exact stp_8 row g arg c w i n h
  · exact stp_9 row g arg c w i n h
  · exact stp_10 row g arg c w i n h
  · exact stp_11 row g arg c w i n h
  · exact stp_12 row g arg c w i n h
  · exact stp_13 row g arg c w i n h
  · exact stp_14 row g arg c w i n h
  · exact stp_15 row g arg c w i n h
  · exact stp_16 row g arg c w i n h
  · exact stp_17 row g arg c w i n h
  · exact stp_18 row g arg c w i n h
  · exact stp_19 row g arg c w i n h
  · exact stp_20 row g arg c w i n h
theorem runCR_eq {l : List Ins} (hl : checkI l = 0) (row : Int) (g : List Gl) (c0 w0 : Int) : ∀ (n i s : Nat) (c w : Int) (k : Kk) (stk : List Int), Rk k stk → runC l row g c0 w0 n i s c w k = runR l row g c0 w0 n i s c w stk := by
  intro n
  induction n with
  | zero =>
    intro i s c w k stk h
    cases e : l[i]? with
    | none => rw [runC_none e, runR_none e]
    | some p => rw [runC_fuel e, runR_fuel e]
  | succ n ih =>
    intro i s c w k stk h
    cases e : l[i]? with
    | none => rw [runC_none e, runR_none e]
    | some p =>
      obtain ⟨a1, a2, _⟩ := chk_at hl e
      rcases stpM p.1 a1 a2 row g p.2 c w i l.length h with ⟨f1, f2⟩ | ⟨f1, a, pp, rfl, f3, f4, f5, f6, f7⟩
      · rw [runC_fail e f2, runR_fail e f1]
      · rw [runC_step e f4.2.1, runR_step e f1 f3, f5, f6, f7]
        exact ih _ _ _ _ _ _ f4
theorem Rk_0 : Rk k0 [] := ⟨k0_ok, rfl, rfl⟩
theorem run_eqS (l : List Ins) (row : Int) (g : List Gl) (c w r fuel : Int) : runS l row g c w r fuel = runT l row g c w r fuel := by
  unfold runS runT
  split
  · rename_i h
    rw [runCR_eq h row g c w _ 0 0 c w k0 [] Rk_0]
  · rfl
theorem dec_eqS (l : List Ins) (row : Int) (g : List Gl) (c w r : Int) : decS l row g c w r = decT l row g c w r := by
  unfold decS decT
  rw [run_eqS]
end Go.VI

namespace Go.VI
open Go.Proofs
set_option maxRecDepth 100000
set_option linter.unusedSimpArgs false
set_option linter.unusedVariables false
set_option maxHeartbeats 4000000
def longG (g : List Gl) : Bool := g.any fun x => decide (40 < (x.1.length : Int))
def greatB (n : Nat) (g : List Gl) : Bool := decide (520 < (n : Int)) || decide (100 < (g.length : Int)) || longG g
def grP (b : Bool) (fr : Fr) (ex : Ex) : Prop := (b = false ∧ ex = .exit 0) ∨ (b = true ∧ ex = .ret ∧ get 4 fr = .i (.v (.int .i64 1)))
theorem l11 (g : List Gl) (hg : g.length ≤ 100) (k : Nat) (hk : k ≤ g.length) :
    ∃ fr ex H', rl E 0 11 (loopAt Tryd.f11 0) [(1, .i (.sl 3 (rowsG g) false)), (5, .i (.v (.int .i64 k)))] [] = some (ex, fr, H') ∧ grP (longG (g.drop k)) fr ex := by
  by_cases hlt : k < g.length
  · have hrow := rowsG_at hlt
    rw [List.drop_eq_getElem_cons hlt]
    obtain ⟨fr, ex, H', e, hh⟩ := l11 g hg (k + 1) hlt
    generalize g[k] = a at *
    obtain ⟨t, cc, s⟩ := a
    have hq : longG ((t, cc, s) :: g.drop (k + 1)) = (decide (40 < (t.length : Int)) || longG (g.drop (k + 1))) := by simp only [longG, List.any_cons]
    rw [hq]
    simp only at hrow
    rw [rl_step (fn := Tryd.f11) (k := 0) rfl]
    by_cases h4 : 40 < (t.length : Int)
    · rw [decide_eq_true h4, Bool.true_or]
      clear e hh
      simp (disch := first | omega | (simp only [vlen, rowsG_len]; omega)) only [vall, List.take_of_length_le, gB, gcW, gcR, posIn, renA, renL, Chunk.ren, Chunk.refs, evOpD, touchD, stepC, isFresh, nFresh, freshOf, mkR, hole, evL, evH, opd, get, putD, ofVal, cellOf, loadE, behind, lenE, idxAddrE, idxE, lookE, lookM, addPtr, intE, strE, unE, convE, AV.int, AV.bool, AV.str, ivs, take, frameOf, firstRegion, refsA, refsL, one, cellsA, floatOk, apartT, List.map, if_true, if_false, E_P, E_glob0, E_glob1, reduceCtorEq, beq_self_eq_true, ↓reduceIte, Nat.reduceEqDiff, cond_true, cond_false, Nat.reduceAdd, Nat.reduceSub, Nat.reduceMul, Nat.reduceLT, Nat.reduceLeDiff, Int.reduceToNat, Int.reduceLT, Int.reduceLE, Option.getD, Int.reduceMul, Int.reduceAdd, List.drop, List.take, Nat.reduceBEq, List.isEmpty, Int.reduceEq, Int.reduceNe, Int.reduceNeg, Int.reduceGT, Int.reduceGE, beq_true, beq_false, UInt8.reduceToNat, eqE, eq_self, foldE, maxE, minE, fillA, over, chop, List.replicate, leavesOk, leafOk, cellsEq, cellEq, E_byref, en11, bs22, bs23, hrow, rowsG_len, h4, show ∀ B fr H, execT E B 11 (Code.loop _) fr H = rlG E B 11 (loopAt Tryd.f11 0) (gcn B (norm [1, 5] fr) H) from fun B fr H => rl_intro rfl mt11_4 mb11_4 zf11_4 hd11_4 fr H]
      exact ⟨_, _, _, rfl, .inr ⟨rfl, rfl, rfl⟩⟩
    · rw [decide_eq_false h4, Bool.false_or]
      refine ⟨fr, ex, H', Eq.trans ?_ e, hh⟩
      clear e hh
      simp (disch := first | omega | (simp only [vlen, rowsG_len]; omega)) only [vall, List.take_of_length_le, gB, gcW, gcR, posIn, renA, renL, Chunk.ren, Chunk.refs, evOpD, touchD, stepC, isFresh, nFresh, freshOf, mkR, hole, evL, evH, opd, get, putD, ofVal, cellOf, loadE, behind, lenE, idxAddrE, idxE, lookE, lookM, addPtr, intE, strE, unE, convE, AV.int, AV.bool, AV.str, ivs, take, frameOf, firstRegion, refsA, refsL, one, cellsA, floatOk, apartT, List.map, if_true, if_false, E_P, E_glob0, E_glob1, reduceCtorEq, beq_self_eq_true, ↓reduceIte, Nat.reduceEqDiff, cond_true, cond_false, Nat.reduceAdd, Nat.reduceSub, Nat.reduceMul, Nat.reduceLT, Nat.reduceLeDiff, Int.reduceToNat, Int.reduceLT, Int.reduceLE, Option.getD, Int.reduceMul, Int.reduceAdd, List.drop, List.take, Nat.reduceBEq, List.isEmpty, Int.reduceEq, Int.reduceNe, Int.reduceNeg, Int.reduceGT, Int.reduceGE, beq_true, beq_false, UInt8.reduceToNat, eqE, eq_self, foldE, maxE, minE, fillA, over, chop, List.replicate, leavesOk, leafOk, cellsEq, cellEq, E_byref, en11, bs22, bs23, hrow, rowsG_len, h4, show ∀ B fr H, execT E B 11 (Code.loop _) fr H = rlG E B 11 (loopAt Tryd.f11 0) (gcn B (norm [1, 5] fr) H) from fun B fr H => rl_intro rfl mt11_4 mb11_4 zf11_4 hd11_4 fr H]
  · obtain rfl : k = g.length := by omega
    rw [List.drop_length]
    rw [rl_step (fn := Tryd.f11) (k := 0) rfl]
    simp (disch := first | omega | (simp only [vlen, rowsG_len]; omega)) only [vall, List.take_of_length_le, gB, gcW, gcR, posIn, renA, renL, Chunk.ren, Chunk.refs, evOpD, touchD, stepC, isFresh, nFresh, freshOf, mkR, hole, evL, evH, opd, get, putD, ofVal, cellOf, loadE, behind, lenE, idxAddrE, idxE, lookE, lookM, addPtr, intE, strE, unE, convE, AV.int, AV.bool, AV.str, ivs, take, frameOf, firstRegion, refsA, refsL, one, cellsA, floatOk, apartT, List.map, if_true, if_false, E_P, E_glob0, E_glob1, reduceCtorEq, beq_self_eq_true, ↓reduceIte, Nat.reduceEqDiff, cond_true, cond_false, Nat.reduceAdd, Nat.reduceSub, Nat.reduceMul, Nat.reduceLT, Nat.reduceLeDiff, Int.reduceToNat, Int.reduceLT, Int.reduceLE, Option.getD, Int.reduceMul, Int.reduceAdd, List.drop, List.take, Nat.reduceBEq, List.isEmpty, Int.reduceEq, Int.reduceNe, Int.reduceNeg, Int.reduceGT, Int.reduceGE, beq_true, beq_false, UInt8.reduceToNat, eqE, eq_self, foldE, maxE, minE, fillA, over, chop, List.replicate, leavesOk, leafOk, cellsEq, cellEq, E_byref, en11, bs22, bs23, rowsG_len, show ∀ B fr H, execT E B 11 (Code.loop _) fr H = rlG E B 11 (loopAt Tryd.f11 0) (gcn B (norm [1, 5] fr) H) from fun B fr H => rl_intro rfl mt11_4 mb11_4 zf11_4 hd11_4 fr H]
    exact ⟨_, _, _, rfl, .inl ⟨rfl, rfl⟩⟩
termination_by g.length - k
theorem c11 (l : List Ins) (g : List Gl) (hl : (l.length : Int) < 9223372036854775808) (hg : (g.length : Int) < 9223372036854775808) : ∃ L, callT E 11 [.i (.sl 2 (rowsI l) false), .i (.sl 3 (rowsG g) false)] [] = some (.i (.v (.int .i64 (if greatB l.length g = true then 1 else 0))), L) := by
  unfold greatB
  by_cases h1 : 520 < (l.length : Int)
  · rw [decide_eq_true h1, Bool.true_or, Bool.true_or, if_pos rfl]
    rw [callT_eq Tryd.func11 rfl fok11 (by simp [Tryd.ntmps11])]
    simp (disch := first | omega | (simp only [vlen, rowsI_len, rowsG_len]; omega)) only [vall, List.take_of_length_le, gB, gcW, gcR, posIn, renA, renL, Chunk.ren, Chunk.refs, evOpD, touchD, stepC, isFresh, nFresh, freshOf, mkR, hole, evL, evH, opd, get, putD, ofVal, cellOf, loadE, behind, lenE, idxAddrE, idxE, lookE, lookM, addPtr, intE, strE, unE, convE, AV.int, AV.bool, AV.str, ivs, take, frameOf, firstRegion, refsA, refsL, one, cellsA, floatOk, apartT, List.map, if_true, if_false, E_P, E_glob0, E_glob1, reduceCtorEq, beq_self_eq_true, ↓reduceIte, Nat.reduceEqDiff, cond_true, cond_false, Nat.reduceAdd, Nat.reduceSub, Nat.reduceMul, Nat.reduceLT, Nat.reduceLeDiff, Int.reduceToNat, Int.reduceLT, Int.reduceLE, Option.getD, Int.reduceMul, Int.reduceAdd, List.drop, List.take, Nat.reduceBEq, List.isEmpty, Int.reduceEq, Int.reduceNe, Int.reduceNeg, Int.reduceGT, Int.reduceGE, beq_true, beq_false, UInt8.reduceToNat, eqE, eq_self, foldE, maxE, minE, fillA, over, chop, List.replicate, leavesOk, leafOk, cellsEq, cellEq, E_byref, en11, bs22, bs23, rowsI_len, rowsG_len, h1]
    exact ⟨_, rfl⟩
  · by_cases h2 : 100 < (g.length : Int)
    · rw [decide_eq_true h2, Bool.or_true, Bool.true_or, if_pos rfl]
      rw [callT_eq Tryd.func11 rfl fok11 (by simp [Tryd.ntmps11])]
      simp (disch := first | omega | (simp only [vlen, rowsI_len, rowsG_len]; omega)) only [vall, List.take_of_length_le, gB, gcW, gcR, posIn, renA, renL, Chunk.ren, Chunk.refs, evOpD, touchD, stepC, isFresh, nFresh, freshOf, mkR, hole, evL, evH, opd, get, putD, ofVal, cellOf, loadE, behind, lenE, idxAddrE, idxE, lookE, lookM, addPtr, intE, strE, unE, convE, AV.int, AV.bool, AV.str, ivs, take, frameOf, firstRegion, refsA, refsL, one, cellsA, floatOk, apartT, List.map, if_true, if_false, E_P, E_glob0, E_glob1, reduceCtorEq, beq_self_eq_true, ↓reduceIte, Nat.reduceEqDiff, cond_true, cond_false, Nat.reduceAdd, Nat.reduceSub, Nat.reduceMul, Nat.reduceLT, Nat.reduceLeDiff, Int.reduceToNat, Int.reduceLT, Int.reduceLE, Option.getD, Int.reduceMul, Int.reduceAdd, List.drop, List.take, Nat.reduceBEq, List.isEmpty, Int.reduceEq, Int.reduceNe, Int.reduceNeg, Int.reduceGT, Int.reduceGE, beq_true, beq_false, UInt8.reduceToNat, eqE, eq_self, foldE, maxE, minE, fillA, over, chop, List.replicate, leavesOk, leafOk, cellsEq, cellEq, E_byref, en11, bs22, bs23, rowsI_len, rowsG_len, h1, h2]
      exact ⟨_, rfl⟩
    · rw [decide_eq_false h1, decide_eq_false h2, Bool.false_or, Bool.false_or]
      obtain ⟨fr, ex, H', e, hh⟩ := l11 g (by omega) 0 (Nat.zero_le _)
      rw [List.drop_zero] at hh
      have e' : rl E 0 11 (loopAt Tryd.f11 0) [(1, .i (.sl 3 (rowsG g) false)), (5, .i (.v (.int .i64 0)))] [] = _ := e
      clear e
      rcases hh with ⟨hz, rfl⟩ | ⟨hz, rfl, h4⟩
      · rw [hz, if_neg (by decide)]
        rw [callT_eq Tryd.func11 rfl fok11 (by simp [Tryd.ntmps11])]
        simp (disch := first | omega | (simp only [vlen, rowsI_len, rowsG_len]; omega)) only [vall, List.take_of_length_le, gB, gcW, gcR, posIn, renA, renL, Chunk.ren, Chunk.refs, evOpD, touchD, stepC, isFresh, nFresh, freshOf, mkR, hole, evL, evH, opd, get, putD, ofVal, cellOf, loadE, behind, lenE, idxAddrE, idxE, lookE, lookM, addPtr, intE, strE, unE, convE, AV.int, AV.bool, AV.str, ivs, take, frameOf, firstRegion, refsA, refsL, one, cellsA, floatOk, apartT, List.map, if_true, if_false, E_P, E_glob0, E_glob1, reduceCtorEq, beq_self_eq_true, ↓reduceIte, Nat.reduceEqDiff, cond_true, cond_false, Nat.reduceAdd, Nat.reduceSub, Nat.reduceMul, Nat.reduceLT, Nat.reduceLeDiff, Int.reduceToNat, Int.reduceLT, Int.reduceLE, Option.getD, Int.reduceMul, Int.reduceAdd, List.drop, List.take, Nat.reduceBEq, List.isEmpty, Int.reduceEq, Int.reduceNe, Int.reduceNeg, Int.reduceGT, Int.reduceGE, beq_true, beq_false, UInt8.reduceToNat, eqE, eq_self, foldE, maxE, minE, fillA, over, chop, List.replicate, leavesOk, leafOk, cellsEq, cellEq, E_byref, en11, bs22, bs23, rowsI_len, rowsG_len, h1, h2, e', show ∀ B fr H, execT E B 11 (Code.loop _) fr H = rlG E B 11 (loopAt Tryd.f11 0) (gcn B (norm [1, 5] fr) H) from fun B fr H => rl_intro rfl mt11_4 mb11_4 zf11_4 hd11_4 fr H]
        exact ⟨_, rfl⟩
      · rw [hz, if_pos rfl]
        rw [callT_eq Tryd.func11 rfl fok11 (by simp [Tryd.ntmps11])]
        simp (disch := first | omega | (simp only [vlen, rowsI_len, rowsG_len]; omega)) only [vall, List.take_of_length_le, gB, gcW, gcR, posIn, renA, renL, Chunk.ren, Chunk.refs, evOpD, touchD, stepC, isFresh, nFresh, freshOf, mkR, hole, evL, evH, opd, get, putD, ofVal, cellOf, loadE, behind, lenE, idxAddrE, idxE, lookE, lookM, addPtr, intE, strE, unE, convE, AV.int, AV.bool, AV.str, ivs, take, frameOf, firstRegion, refsA, refsL, one, cellsA, floatOk, apartT, List.map, if_true, if_false, E_P, E_glob0, E_glob1, reduceCtorEq, beq_self_eq_true, ↓reduceIte, Nat.reduceEqDiff, cond_true, cond_false, Nat.reduceAdd, Nat.reduceSub, Nat.reduceMul, Nat.reduceLT, Nat.reduceLeDiff, Int.reduceToNat, Int.reduceLT, Int.reduceLE, Option.getD, Int.reduceMul, Int.reduceAdd, List.drop, List.take, Nat.reduceBEq, List.isEmpty, Int.reduceEq, Int.reduceNe, Int.reduceNeg, Int.reduceGT, Int.reduceGE, beq_true, beq_false, UInt8.reduceToNat, eqE, eq_self, foldE, maxE, minE, fillA, over, chop, List.replicate, leavesOk, leafOk, cellsEq, cellEq, E_byref, en11, bs22, bs23, rowsI_len, rowsG_len, h1, h2, h4, e', show ∀ B fr H, execT E B 11 (Code.loop _) fr H = rlG E B 11 (loopAt Tryd.f11 0) (gcn B (norm [1, 5] fr) H) from fun B fr H => rl_intro rfl mt11_4 mb11_4 zf11_4 hd11_4 fr H]
        exact ⟨_, rfl⟩
theorem ik11 (l : List Ins) (g : List Gl) (hl : (l.length : Int) < 9223372036854775808) (hg : (g.length : Int) < 9223372036854775808) (H : Hp) : isoK E (callT E) 11 [.i (.sl 2 (rowsI l) false), .i (.sl 3 (rowsG g) false)] H = some (.i (.v (.int .i64 (if greatB l.length g = true then 1 else 0))), H) := isoK_val rfl rfl rfl (c11 l g hl hg)
theorem ik12 (H : Hp) : isoK E (callT E) 12 [] H = some (.i (.v (.bool true)), H) := isoK_val rfl rfl rfl (ran_true (n := 200) (by kernel_rfl))
def bG (g : List Gl) : Prop := ∀ a ∈ g, a.1.length ≤ maxLen ∧ -9223372036854775808 ≤ a.2.2 ∧ a.2.2 ≤ 9223372036854775807
theorem okG_of {n : Nat} {g : List Gl} (h : greatB n g = false) (hb : bG g) : n ≤ 520 ∧ okG g := by
  unfold greatB at h
  rw [Bool.or_eq_false_iff, Bool.or_eq_false_iff] at h
  obtain ⟨⟨h1, h2⟩, h3⟩ := h
  have h1 := of_decide_eq_false h1
  have h2 := of_decide_eq_false h2
  refine ⟨by omega, by omega, fun a ha => ⟨?_, (hb a ha).2⟩⟩
  have := List.any_eq_false.1 h3 a ha
  have := of_decide_eq_false (Bool.eq_false_iff.2 this)
  omega
theorem eq_vd (a1 a2 a3 b1 b2 b3 : Int) : binE Tryd.prog .eql 25 (.agg [.i (.v (.int .i64 a1)), .i (.v (.int .i64 a2)), .i (.v (.int .i64 a3))]) (.agg [.i (.v (.int .i64 b1)), .i (.v (.int .i64 b2)), .i (.v (.int .i64 b3))]) = some (.i (.v (.bool (decide (a1 = b1) && (decide (a2 = b2) && (decide (a3 = b3) && true)))))) := by
  rw [be_aa]
  unfold eqE
  simp only
  rw [if_neg (by rw [eqg25]; decide), agg25, lv25]
  rfl
end Go.VI

namespace Go.VI
open Go.Proofs
set_option maxRecDepth 100000
set_option linter.unusedSimpArgs false
set_option linter.unusedVariables false
set_option maxHeartbeats 4000000
theorem limI_5000 : limI 5000 = 5000 := rfl
end Go.VI

namespace Go.VI
open Go.Proofs
set_option maxRecDepth 100000
set_option linter.unusedSimpArgs false
set_option linter.unusedVariables false
set_option maxHeartbeats 4000000
def walkF (l : List Ins) : Nat → Nat → Int → List Int
  | 0, _, _ => []
  | f + 1, i, q => if i < l.length then (i : Int) :: (if (l.getD i (0, 0)).1 = 0 then [] else if (l.getD i (0, 0)).1 = 17 then walkF l f (l.getD i (0, 0)).2.toNat q else if (l.getD i (0, 0)).1 = 18 then walkF l f (if q % 2 = 1 then (l.getD i (0, 0)).2.toNat else i + 1) (q / 2) else walkF l f (i + 1) q) else []
theorem chk1_jump {n k : Nat} {op arg : Int} (h : chk1 n k (op, arg) = 0) (hj : op = 17 ∨ op = 18) : (k : Int) + 1 ≤ arg ∧ arg ≤ n := by
  unfold chk1 at h
  simp only at h
  split at h
  · cases h
  rename_i h1
  split at h
  · cases h
  rename_i h2
  have h1 : ¬ op = 1 := by omega
  unfold boundsS at h2
  rw [if_neg h1, if_pos hj] at h2
  simp only at h2
  omega
def walkS (l : List Ins) (q : Int) : List Int := walkF l (l.length + 1) 0 q
end Go.VI

namespace Go.VI
open Go.Proofs
set_option maxRecDepth 100000
set_option linter.unusedSimpArgs false
set_option linter.unusedVariables false
set_option maxHeartbeats 4000000
theorem dSet_keep {n after : Int} : ∀ (ks out out' : List Int), dSet n after ks out = some out' → (∀ x ∈ ks, 0 ≤ x) → ∀ j : Nat, (j : Int) < n → 0 ≤ out.getD j 0 → j < out.length → out'.getD j 0 = out.getD j 0
  | [], out, out', h, hk, j, hj, h0, hl => by simp only [dSet, Option.some.injEq] at h; rw [h]
  | k :: ks, out, out', h, hk, j, hj, h0, hl => by
    simp only [dSet] at h
    split at h
    · cases h
    · rename_i hc
      have hk0 := hk k (.head _)
      have hs : (out.set k.toNat after).getD j 0 = out.getD j 0 := by
        rw [getD_set_int]
        split
        · rename_i he
          obtain ⟨rfl, _⟩ := he
          by_cases hx : out.getD k.toNat 0 = after
          · exact hx.symm
          · exact absurd ⟨by omega, h0, hx⟩ hc
        · rfl
      rw [dSet_keep ks _ out' h (fun x hx => hk x (.tail _ hx)) j hj (by rw [hs]; exact h0) (by rw [List.length_set]; exact hl), hs]
theorem dSet_hit {n after : Int} (ha : 0 ≤ after) : ∀ (ks out out' : List Int), dSet n after ks out = some out' → (∀ x ∈ ks, 0 ≤ x) → ∀ j : Nat, (j : Int) < n → j < out.length → (j : Int) ∈ ks → out'.getD j 0 = after
  | [], out, out', h, hk, j, hj, hl, hm => by cases hm
  | k :: ks, out, out', h, hk, j, hj, hl, hm => by
    simp only [dSet] at h
    split at h
    · cases h
    · rename_i hc
      rcases List.mem_cons.1 hm with e | hm
      · subst e
        have hs : (out.set (j : Int).toNat after).getD j 0 = after := by rw [getD_set_int, if_pos ⟨by omega, by omega⟩]
        rw [dSet_keep ks _ out' h (fun x hx => hk x (.tail _ hx)) j hj (by rw [hs]; exact ha) (by rw [List.length_set]; exact hl), hs]
      · exact dSet_hit ha ks _ out' h (fun x hx => hk x (.tail _ hx)) j hj (by rw [List.length_set]; exact hl) hm
theorem dSet_new {n after : Int} : ∀ (ks out out' : List Int), dSet n after ks out = some out' → (∀ x ∈ ks, 0 ≤ x) → ∀ j : Nat, (j : Int) ∉ ks → out'.getD j 0 = out.getD j 0
  | [], out, out', h, hk, j, hm => by simp only [dSet, Option.some.injEq] at h; rw [h]
  | k :: ks, out, out', h, hk, j, hm => by
    simp only [dSet] at h
    split at h
    · cases h
    · rename_i hc
      have hk0 := hk k (.head _)
      rw [dSet_new ks _ out' h (fun x hx => hk x (.tail _ hx)) j (fun hx => hm (.tail _ hx)), getD_set_int, if_neg]
      intro he
      exact hm (by rw [← he.1]; have : ((k.toNat : Nat) : Int) = k := by omega
                   rw [this]; exact .head _)
structure Good (l : List Ins) : Prop where
  ok : ∀ (j : Nat) (h : j < l.length), chk1 l.length j l[j] = 0
theorem good_of {l : List Ins} (h : checkI l = 0) : Good l := ⟨check_ok h⟩
theorem good_getD {l : List Ins} {j : Nat} (h : j < l.length) : l.getD j (0, 0) = l[j] := by rw [List.getD_eq_getElem?_getD, List.getElem?_eq_getElem h]; rfl
theorem good_suc {l : List Ins} (g : Good l) {j : Nat} (h : j < l.length) : (0 ≤ (l.getD j (0, 0)).1 ∧ (l.getD j (0, 0)).1 ≤ 20) ∧ ∀ x ∈ sucL (l.getD j (0, 0)).1 (l.getD j (0, 0)).2 j, (j : Int) < x ∧ x ≤ l.length := by
  rw [good_getD h]; exact sucL_in h (g.ok j h)
theorem good_jump {l : List Ins} (g : Good l) {j : Nat} (h : j < l.length) (hj : (l.getD j (0, 0)).1 = 17 ∨ (l.getD j (0, 0)).1 = 18) : (j : Int) + 1 ≤ (l.getD j (0, 0)).2 ∧ (l.getD j (0, 0)).2 ≤ l.length := by
  rw [good_getD h] at hj ⊢; exact chk1_jump (g.ok j h) hj
theorem dStep_keep {l : List Ins} (g : Good l) {k : Nat} (hk : k < l.length) {out out' : List Int} (h : dStep l.length k (l.getD k (0, 0)) out = some out') : ∀ j : Nat, j < l.length → 0 ≤ out.getD j 0 → j < out.length → out'.getD j 0 = out.getD j 0 := fun j hj h0 hl => by
  unfold dStep at h
  split at h
  · injection h with h; rw [h]
  split at h
  · cases h
  · exact dSet_keep _ _ _ h (fun x hx => by have := (good_suc g hk).2 x hx; omega) j (by omega) h0 hl
theorem dStep_len {n i : Nat} {p : Ins} {out out' : List Int} (h : dStep n i p out = some out') : out'.length = out.length := by
  unfold dStep at h
  split at h
  · injection h with h; rw [h]
  split at h
  · cases h
  · exact dSet_len _ _ _ h
theorem dRun_next {l : List Ins} {k : Nat} (hk : k < l.length) {out fin : List Int} (h : dRun l.length k (l.drop k) out = some fin) : ∃ out', dStep l.length k (l.getD k (0, 0)) out = some out' ∧ dRun l.length (k + 1) (l.drop (k + 1)) out' = some fin := by
  rw [List.drop_eq_getElem_cons hk, dRun, ← good_getD hk] at h
  cases hd : dStep l.length k (l.getD k (0, 0)) out with
  | none => rw [hd] at h; cases h
  | some out' => rw [hd] at h; exact ⟨out', rfl, h⟩
theorem dRun_to {l : List Ins} (g : Good l) {fin : List Int} (b : Nat) (hb : b ≤ l.length) (a : Nat) (ha : a ≤ b) (out : List Int) (hl : out.length = l.length + 1) (h : dRun l.length a (l.drop a) out = some fin) :
    ∃ out', dRun l.length b (l.drop b) out' = some fin ∧ out'.length = l.length + 1 ∧ ∀ j : Nat, j < l.length → 0 ≤ out.getD j 0 → out'.getD j 0 = out.getD j 0 := by
  by_cases hlt : a < b
  · obtain ⟨o1, h1, h2⟩ := dRun_next (by omega) h
    obtain ⟨o2, g1, g2, g3⟩ := dRun_to g b hb (a + 1) hlt o1 (by rw [dStep_len h1]; exact hl) h2
    refine ⟨o2, g1, g2, fun j hj h0 => ?_⟩
    have h3 := dStep_keep g (by omega) h1 j hj h0 (by omega)
    rw [g3 j hj (by rw [h3]; exact h0), h3]
  · obtain rfl : a = b := by omega
    exact ⟨out, h, hl, fun _ _ _ => rfl⟩
termination_by b - a
theorem dRun_fin {l : List Ins} (g : Good l) {fin : List Int} (a : Nat) (ha : a ≤ l.length) (out : List Int) (hl : out.length = l.length + 1) (h : dRun l.length a (l.drop a) out = some fin) : fin.length = l.length + 1 ∧ ∀ j : Nat, j < l.length → 0 ≤ out.getD j 0 → fin.getD j 0 = out.getD j 0 := by
  obtain ⟨o, g1, g2, g3⟩ := dRun_to g l.length (Nat.le_refl _) a ha out hl h
  rw [List.drop_length, dRun, Option.some.injEq] at g1
  subst g1
  exact ⟨g2, g3⟩
def pathOK (fin : List Int) (l : List Ins) : List Int → Int → Prop
  | [], _ => True
  | i :: r, d => (0 ≤ i ∧ i < l.length ∧ fin.getD i.toNat 0 = d ∧ popS (l.getD i.toNat (0, 0)).1 ≤ d ∧ d - popS (l.getD i.toNat (0, 0)).1 + pushS (l.getD i.toNat (0, 0)).1 ≤ 16 ∧ 0 ≤ d) ∧ pathOK fin l r (d - popS (l.getD i.toNat (0, 0)).1 + pushS (l.getD i.toNat (0, 0)).1)
theorem walk_end {l : List Ins} (f : Nat) {k : Nat} (q : Int) (hk : l.length ≤ k) : walkF l f k q = [] := by
  cases f with
  | zero => rfl
  | succ f => rw [walkF, if_neg (by omega)]
def nextW (p : Ins) (k : Nat) (q : Int) : Option (Nat × Int) := if p.1 = 0 then none else if p.1 = 17 then some (p.2.toNat, q) else if p.1 = 18 then some (if q % 2 = 1 then p.2.toNat else k + 1, q / 2) else some (k + 1, q)
theorem walk_step {l : List Ins} (f : Nat) {k : Nat} (q : Int) (hk : k < l.length) : walkF l (f + 1) k q = (k : Int) :: (match nextW (l.getD k (0, 0)) k q with | none => [] | some (k', q') => walkF l f k' q') := by
  rw [walkF, if_pos hk]
  unfold nextW
  by_cases h0 : (l.getD k (0, 0)).1 = 0
  · rw [if_pos h0, if_pos h0]
  · rw [if_neg h0, if_neg h0]
    by_cases h17 : (l.getD k (0, 0)).1 = 17
    · rw [if_pos h17, if_pos h17]
    · rw [if_neg h17, if_neg h17]
      by_cases h18 : (l.getD k (0, 0)).1 = 18
      · rw [if_pos h18, if_pos h18]
      · rw [if_neg h18, if_neg h18]
theorem nextW_suc {l : List Ins} (g : Good l) {k : Nat} (hk : k < l.length) {q : Int} {k' : Nat} {q' : Int} (h : nextW (l.getD k (0, 0)) k q = some (k', q')) : (k' : Int) ∈ sucL (l.getD k (0, 0)).1 (l.getD k (0, 0)).2 k ∧ k < k' ∧ k' ≤ l.length := by
  have key : (k' : Int) ∈ sucL (l.getD k (0, 0)).1 (l.getD k (0, 0)).2 k := by
    unfold nextW at h
    unfold sucL
    rw [List.mem_append]
    split at h
    · cases h
    rename_i h0
    split at h
    · rename_i h17
      have := good_jump g hk (.inl h17)
      injection h with h; injection h with h1 h2
      refine .inr ?_
      rw [if_pos (.inl h17), List.mem_singleton]; omega
    rename_i h17
    split at h
    · rename_i h18
      have := good_jump g hk (.inr h18)
      injection h with h; injection h with h1 h2
      split at h1
      · refine .inr ?_
        rw [if_pos (.inr h18), List.mem_singleton]; omega
      · refine .inl ?_
        rw [if_neg (by omega), List.mem_singleton]; omega
    · injection h with h; injection h with h1 h2
      refine .inl ?_
      rw [if_neg (by omega), List.mem_singleton]; omega
  have := (good_suc g hk).2 _ key
  exact ⟨key, by omega, by omega⟩
theorem path_ok {l : List Ins} (g : Good l) {fin : List Int} : ∀ (f k : Nat) (hk : k ≤ l.length) (out : List Int) (hl : out.length = l.length + 1) (h : dRun l.length k (l.drop k) out = some fin) (d : Int) (h0 : 0 ≤ d) (hd : k < l.length → out.getD k 0 = d) (q : Int), pathOK fin l (walkF l f k q) d
  | 0, _, _, _, _, _, _, _, _, _ => trivial
  | f + 1, k, hk, out, hl, h, d, h0, hd, q => by
    by_cases hlt : k < l.length
    · rw [walk_step f q hlt]
      have hd := hd hlt
      have hfin := (dRun_fin g k hk out hl h).2 k hlt (by omega)
      obtain ⟨o1, h1, h2⟩ := dRun_next hlt h
      have hl1 := (dStep_len h1).trans hl
      unfold dStep at h1
      rw [if_neg (by omega)] at h1
      split at h1
      · cases h1
      rename_i hc
      have hpu := pushS_r (l.getD k (0, 0)).1
      rw [hd] at hc h1
      refine ⟨?_, ?_⟩
      · exact ⟨by omega, by omega, by rw [Int.toNat_natCast, hfin, hd], by rw [Int.toNat_natCast]; omega, by rw [Int.toNat_natCast]; omega, h0⟩
      · rw [Int.toNat_natCast]
        cases hn : nextW (l.getD k (0, 0)) k q with
        | none => trivial
        | some kq =>
          obtain ⟨k', q'⟩ := kq
          obtain ⟨hs, hb1, hb2⟩ := nextW_suc g hlt hn
          simp only
          obtain ⟨o2, g1, g2, g3⟩ := dRun_to g k' hb2 (k + 1) hb1 o1 hl1 h2
          refine path_ok g f k' hb2 o2 g2 g1 _ (by omega) (fun hlt' => ?_) q'
          have hh := dSet_hit (by omega) _ _ _ h1 (fun x hx => by have := (good_suc g hlt).2 x hx; omega) k' (by omega) (by omega) hs
          rw [g3 k' hlt' (by rw [hh]; omega), hh]
    · rw [walk_end _ _ (by omega)]
      trivial
end Go.VI

namespace Go.VI
open Go.Proofs
set_option maxRecDepth 100000
set_option linter.unusedSimpArgs false
set_option linter.unusedVariables false
set_option maxHeartbeats 4000000
theorem pathOK_congr {l : List Ins} {d fin : List Int} (h : ∀ j : Nat, j < l.length → d.getD j 0 = fin.getD j 0) : ∀ (w : List Int) (dep : Int), pathOK fin l w dep → pathOK d l w dep
  | [], _, _ => trivial
  | i :: r, dep, ⟨⟨p1, p2, p3, p4⟩, hr⟩ => ⟨⟨p1, p2, by rw [h i.toNat (by omega)]; exact p3, p4⟩, pathOK_congr h r _ hr⟩
theorem getD_take (l : List Int) (n j : Nat) (h : j < n) : (l.take n).getD j 0 = l.getD j 0 := by
  rw [List.getD_eq_getElem?_getD, List.getD_eq_getElem?_getD, List.getElem?_take, if_pos h]
theorem depths_ok {l : List Ins} (h : (depthsS l).2 = 0) : ∃ fin, checkI l = 0 ∧ dRun l.length 0 l (0 :: List.replicate l.length (-1)) = some fin ∧ (depthsS l).1 = fin.take l.length ∧ fin.length = l.length + 1 := by
  unfold depthsS at h ⊢
  by_cases h0 : checkI l = 0
  · rw [if_pos h0] at h ⊢
    cases hd : dRun l.length 0 l (0 :: List.replicate l.length (-1)) with
    | none => rw [hd] at h; cases h
    | some fin =>
      refine ⟨fin, h0, rfl, rfl, ?_⟩
      exact (dRun_fin (good_of h0) 0 (Nat.zero_le _) (0 :: List.replicate l.length (-1)) (by simp) (by rw [List.drop_zero]; exact hd)).1
  · rw [if_neg h0] at h
    exact absurd h h0
theorem depths_path {l : List Ins} (h : (depthsS l).2 = 0) (f : Nat) (q : Int) : pathOK (depthsS l).1 l (walkF l f 0 q) 0 := by
  obtain ⟨fin, h0, hd, h1, h2⟩ := depths_ok h
  rw [h1]
  refine pathOK_congr (fun j hj => getD_take _ _ _ hj) _ _ ?_
  exact path_ok (good_of h0) f 0 (Nat.zero_le _) (0 :: List.replicate l.length (-1)) (by simp) (by rw [List.drop_zero]; exact hd) 0 (by omega) (fun _ => rfl) q
theorem fSet_own (i : Nat) : ∀ (xs out : List Int), (∀ x ∈ xs, (i : Int) < x) → i < out.length → ∀ j : Nat, j ≠ i → (fSet i xs out).getD j 0 = out.getD j 0
  | [], out, h, hl, j, hj => rfl
  | x :: xs, out, h, hl, j, hj => by
    rw [fSet, fSet_own i xs _ (fun y hy => h y (.tail _ hy)) (by rw [List.length_set]; exact hl) j hj, getD_set_int, if_neg (fun e => hj e.1.symm)]
theorem fSet_ge (i : Nat) : ∀ (xs out : List Int), (∀ x ∈ xs, (i : Int) < x) → i < out.length → out.getD i 0 ≤ (fSet i xs out).getD i 0 ∧ ∀ x ∈ xs, out.getD x.toNat 0 ≤ (fSet i xs out).getD i 0
  | [], out, h, hl => ⟨Int.le_refl _, fun x hx => by cases hx⟩
  | x :: xs, out, h, hl => by
    have hx := h x (.head _)
    obtain ⟨h1, h2⟩ := fSet_ge i xs (out.set i (max (out.getD i 0) (out.getD x.toNat 0))) (fun y hy => h y (.tail _ hy)) (by rw [List.length_set]; exact hl)
    rw [getD_set_int, if_pos ⟨rfl, hl⟩] at h1
    rw [fSet]
    refine ⟨by omega, fun y hy => ?_⟩
    rcases List.mem_cons.1 hy with rfl | hy
    · omega
    · have hyy := h y (.tail _ hy)
      have := h2 y hy
      rw [getD_set_int, if_neg (by omega)] at this
      exact this
theorem fSet_at (i : Nat) : ∀ (xs out : List Int), (∀ x ∈ xs, (i : Int) < x) → i < out.length → (fSet i xs out).getD i 0 = out.getD i 0 ∨ ∃ x ∈ xs, (fSet i xs out).getD i 0 = out.getD x.toNat 0
  | [], out, h, hl => .inl rfl
  | x :: xs, out, h, hl => by
    have hx := h x (.head _)
    rw [fSet]
    rcases fSet_at i xs (out.set i (max (out.getD i 0) (out.getD x.toNat 0))) (fun y hy => h y (.tail _ hy)) (by rw [List.length_set]; exact hl) with h1 | ⟨y, hy, h1⟩
    · rw [h1, getD_set_int, if_pos ⟨rfl, hl⟩]
      by_cases hm : out.getD i 0 ≤ out.getD x.toNat 0
      · exact .inr ⟨x, .head _, by omega⟩
      · exact .inl (by omega)
    · have hyy := h y (.tail _ hy)
      rw [getD_set_int, if_neg (by omega)] at h1
      exact .inr ⟨y, .tail _ hy, h1⟩
structure Most (l : List Ins) (k : Nat) (out : List Int) : Prop where
  len : out.length = l.length + 1
  low : ∀ j : Nat, j < k → out.getD j 0 = 0
  end_ : 0 ≤ out.getD l.length 0
  ge : ∀ j : Nat, k ≤ j → j ≤ l.length → ∀ f q, ((walkF l f j q).length : Int) ≤ out.getD j 0
theorem most_step {l : List Ins} (g : Good l) {k : Nat} (hk : k < l.length) {out : List Int} (h : Most l (k + 1) out) : Most l k (fStep k (l.getD k (0, 0)) out) := by
  have hs := good_suc g hk
  have hxs : ∀ x ∈ sucL (l.getD k (0, 0)).1 (l.getD k (0, 0)).2 k, (k : Int) < x := fun x hx => (hs.2 x hx).1
  have hl : k < out.length := by rw [h.len]; omega
  have hl2 := fSet_len k (sucL (l.getD k (0, 0)).1 (l.getD k (0, 0)).2 k) out
  have hother : ∀ j : Nat, j ≠ k → (fStep k (l.getD k (0, 0)) out).getD j 0 = out.getD j 0 := fun j hj => by
    unfold fStep
    rw [getD_set_int, if_neg (fun e => hj e.1.symm), fSet_own k _ _ hxs hl j hj]
  have hown : (fStep k (l.getD k (0, 0)) out).getD k 0 = (fSet k (sucL (l.getD k (0, 0)).1 (l.getD k (0, 0)).2 k) out).getD k 0 + 1 := by
    unfold fStep
    rw [getD_set_int, if_pos ⟨rfl, by rw [hl2]; exact hl⟩]
  refine ⟨by rw [fStep_len]; exact h.len, fun j hj => ?_, ?_, fun j hj hjl f q => ?_⟩
  · rw [hother j (by omega)]; exact h.low j (by omega)
  · rw [hother _ (by omega)]; exact h.end_
  · by_cases hjk : j = k
    · subst hjk
      rw [hown]
      obtain ⟨h1, h2⟩ := fSet_ge j _ _ hxs hl
      rw [h.low j (by omega)] at h1
      cases f with
      | zero => simp only [walkF, List.length_nil]; omega
      | succ f =>
        rw [walk_step f q hk, List.length_cons]
        cases hn : nextW (l.getD j (0, 0)) j q with
        | none => simp only [List.length_nil]; omega
        | some kq =>
          obtain ⟨k', q'⟩ := kq
          obtain ⟨hs', hb1, hb2⟩ := nextW_suc g hk hn
          have h3 := h2 _ hs'
          rw [Int.toNat_natCast] at h3
          have h4 := h.ge k' hb1 hb2 f q'
          simp only
          omega
    · rw [hother j hjk]; exact h.ge j (by omega) hjl f q
theorem most_run {l : List Ins} (g : Good l) : ∀ (k : Nat), k ≤ l.length → ∀ out, Most l k out → Most l 0 (fRun l k out)
  | 0, _, out, h => h
  | k + 1, hk, out, h => most_run g k (by omega) _ (most_step g hk h)
theorem getD_rep0 (n j : Nat) : (List.replicate n (0 : Int)).getD j 0 = 0 := by
  rw [List.getD_eq_getElem?_getD, List.getElem?_replicate]; split <;> rfl
theorem most_start (l : List Ins) : Most l l.length (List.replicate (l.length + 1) 0) :=
  ⟨by simp, fun j _ => getD_rep0 _ _, by rw [getD_rep0]; exact Int.le_refl _, fun j h1 h2 f q => by rw [walk_end f q h1, getD_rep0]; exact Int.le_refl _⟩
theorem fuel_ge {l : List Ins} (h : checkI l = 0) (f : Nat) (q : Int) : (fuelS l).2 = 0 ∧ ((walkF l f 0 q).length : Int) ≤ (fuelS l).1 := by
  unfold fuelS
  rw [if_pos h]
  exact ⟨rfl, (most_run (good_of h) l.length (Nat.le_refl _) _ (most_start l)).ge 0 (Nat.le_refl _) (Nat.zero_le _) f q⟩
theorem walk_len {l : List Ins} : ∀ (f k : Nat) (q : Int), (walkF l f k q).length ≤ f
  | 0, k, q => Nat.le_refl _
  | f + 1, k, q => by
    by_cases hk : k < l.length
    · rw [walk_step f q hk, List.length_cons]
      cases nextW (l.getD k (0, 0)) k q with
      | none => simp only [List.length_nil]; omega
      | some kq => have := walk_len (l := l) f kq.1 kq.2; simp only; omega
    · rw [walk_end _ _ (by omega)]; exact Nat.zero_le _
end Go.VI

namespace Go.VI
open Go.Proofs
set_option maxRecDepth 100000
set_option linter.unusedSimpArgs false
set_option linter.unusedVariables false
set_option maxHeartbeats 4000000
def jz : List Ins → Nat
  | [] => 0
  | p :: r => (if p.1 = 18 then 1 else 0) + jz r
theorem jz_drop (l : List Ins) {k : Nat} (hk : k < l.length) : jz (l.drop k) = (if (l.getD k (0, 0)).1 = 18 then 1 else 0) + jz (l.drop (k + 1)) := by
  rw [List.drop_eq_getElem_cons hk, jz, good_getD hk]
theorem jz_mono (l : List Ins) (a b : Nat) (h : a ≤ b) (hb : b ≤ l.length) : jz (l.drop b) ≤ jz (l.drop a) := by
  by_cases hlt : a < b
  · have h1 := jz_mono l (a + 1) b hlt hb
    rw [jz_drop l (k := a) (by omega)]
    omega
  · obtain rfl : a = b := by omega
    exact Nat.le_refl _
termination_by b - a
def two (n : Nat) : Int := ((2 ^ n : Nat) : Int)
theorem two_pos (n : Nat) : 1 ≤ two n := by unfold two; have := Nat.two_pow_pos n; omega
theorem two_succ (n : Nat) : two (n + 1) = 2 * two n := by unfold two; rw [Nat.pow_succ]; omega
theorem two_mono {a b : Nat} (h : a ≤ b) : two a ≤ two b := by unfold two; have := Nat.pow_le_pow_right (n := 2) (by omega) h; omega
structure Hit (l : List Ins) (k : Nat) (out : List Int) : Prop where
  len : out.length = l.length + 1
  low : ∀ j : Nat, j < k → out.getD j 0 = 0
  at_ : ∀ j : Nat, k ≤ j → j ≤ l.length → ∃ q, 0 ≤ q ∧ q < two (jz (l.drop j)) ∧ ∀ f, l.length + 1 ≤ j + f → ((walkF l f j q).length : Int) = out.getD j 0
theorem pick_next {l : List Ins} (g : Good l) {k : Nat} (hk : k < l.length) {k' : Nat} (hs : (k' : Int) ∈ sucL (l.getD k (0, 0)).1 (l.getD k (0, 0)).2 k) (q' : Int) (h0 : 0 ≤ q') (m : Nat) (h1 : q' < two m) : ∃ q, 0 ≤ q ∧ q < two ((if (l.getD k (0, 0)).1 = 18 then 1 else 0) + m) ∧ nextW (l.getD k (0, 0)) k q = some (k', q') := by
  unfold sucL at hs
  rw [List.mem_append] at hs
  unfold nextW
  by_cases h18 : (l.getD k (0, 0)).1 = 18
  · have hj := good_jump g hk (.inr h18)
    rw [if_pos h18, Nat.add_comm, two_succ]
    rw [if_neg (by omega), if_pos (.inr h18), List.mem_singleton, List.mem_singleton] at hs
    rcases hs with hs | hs
    · refine ⟨2 * q', by omega, by omega, ?_⟩
      rw [if_neg (by omega), if_neg (by omega), if_pos h18, if_neg (by omega)]
      have e1 : k + 1 = k' := by omega
      have e2 : 2 * q' / 2 = q' := by omega
      rw [e1, e2]
    · refine ⟨2 * q' + 1, by omega, by omega, ?_⟩
      rw [if_neg (by omega), if_neg (by omega), if_pos h18, if_pos (by omega)]
      have e1 : (l.getD k (0, 0)).2.toNat = k' := by omega
      have e2 : (2 * q' + 1) / 2 = q' := by omega
      rw [e1, e2]
  · rw [if_neg h18, Nat.zero_add]
    refine ⟨q', h0, h1, ?_⟩
    by_cases h17 : (l.getD k (0, 0)).1 = 17
    · rw [if_neg (by omega), if_pos h17]
      rw [if_pos (.inr h17), if_pos (.inl h17), List.mem_singleton] at hs
      rcases hs with hs | hs
      · cases hs
      · have e1 : (l.getD k (0, 0)).2.toNat = k' := by omega
        rw [e1]
    · by_cases h00 : (l.getD k (0, 0)).1 = 0
      · rw [if_pos (.inl h00), if_neg (by omega)] at hs
        rcases hs with hs | hs <;> cases hs
      · rw [if_neg h00, if_neg h17, if_neg h18]
        rw [if_neg (by omega), if_neg (by omega), List.mem_singleton] at hs
        rcases hs with hs | hs
        · have e1 : k + 1 = k' := by omega
          rw [e1]
        · cases hs
theorem sucL_nil {op arg i : Int} (h : sucL op arg i = []) : op = 0 := by
  unfold sucL at h
  rw [List.append_eq_nil_iff] at h
  by_cases h0 : op = 0
  · exact h0
  · exfalso
    obtain ⟨h1, h2⟩ := h
    by_cases h17 : op = 17
    · rw [if_pos (.inl h17)] at h2; cases h2
    · rw [if_neg (by omega)] at h1; cases h1
theorem hit_step {l : List Ins} (g : Good l) {k : Nat} (hk : k < l.length) {out : List Int} (hm : Most l (k + 1) out) (h : Hit l (k + 1) out) : Hit l k (fStep k (l.getD k (0, 0)) out) := by
  have hs := good_suc g hk
  have hxs : ∀ x ∈ sucL (l.getD k (0, 0)).1 (l.getD k (0, 0)).2 k, (k : Int) < x := fun x hx => (hs.2 x hx).1
  have hl : k < out.length := by rw [h.len]; omega
  have hl2 := fSet_len k (sucL (l.getD k (0, 0)).1 (l.getD k (0, 0)).2 k) out
  have hother : ∀ j : Nat, j ≠ k → (fStep k (l.getD k (0, 0)) out).getD j 0 = out.getD j 0 := fun j hj => by
    unfold fStep
    rw [getD_set_int, if_neg (fun e => hj e.1.symm), fSet_own k _ _ hxs hl j hj]
  have hown : (fStep k (l.getD k (0, 0)) out).getD k 0 = (fSet k (sucL (l.getD k (0, 0)).1 (l.getD k (0, 0)).2 k) out).getD k 0 + 1 := by
    unfold fStep
    rw [getD_set_int, if_pos ⟨rfl, by rw [hl2]; exact hl⟩]
  have via : ∀ k' : Nat, (k' : Int) ∈ sucL (l.getD k (0, 0)).1 (l.getD k (0, 0)).2 k → (fSet k (sucL (l.getD k (0, 0)).1 (l.getD k (0, 0)).2 k) out).getD k 0 = out.getD k' 0 →
      ∃ q, 0 ≤ q ∧ q < two (jz (l.drop k)) ∧ ∀ f, l.length + 1 ≤ k + f → ((walkF l f k q).length : Int) = (fStep k (l.getD k (0, 0)) out).getD k 0 := fun k' hk' he => by
    have hb := hs.2 _ hk'
    obtain ⟨q', p1, p2, p3⟩ := h.at_ k' (by omega) (by omega)
    obtain ⟨q, r1, r2, r3⟩ := pick_next g hk hk' q' p1 (jz (l.drop (k + 1))) (Int.lt_of_lt_of_le p2 (two_mono (jz_mono l (k + 1) k' (by omega) (by omega))))
    rw [← jz_drop l hk] at r2
    refine ⟨q, r1, r2, fun f hf => ?_⟩
    cases f with
    | zero => omega
    | succ f =>
      rw [walk_step f q hk, r3, hown, he, List.length_cons]
      simp only
      have := p3 f (by omega)
      omega
  refine ⟨by rw [fStep_len]; exact h.len, fun j hj => ?_, fun j hj hjl => ?_⟩
  · rw [hother j (by omega)]; exact h.low j (by omega)
  · by_cases hjk : j = k
    · subst hjk
      rcases fSet_at j _ _ hxs hl with h1 | ⟨x, hx, h1⟩
      · rw [h.low j (by omega)] at h1
        cases hsu : sucL (l.getD j (0, 0)).1 (l.getD j (0, 0)).2 j with
        | nil =>
          have h0 := sucL_nil hsu
          refine ⟨0, Int.le_refl _, Int.lt_of_lt_of_le (by omega) (two_pos _), fun f hf => ?_⟩
          cases f with
          | zero => omega
          | succ f =>
            rw [walk_step f 0 hk, hown, h1, nextW, if_pos h0]
            rfl
        | cons x xs =>
          have hx : x ∈ sucL (l.getD j (0, 0)).1 (l.getD j (0, 0)).2 j := by rw [hsu]; exact .head _
          have hb := hs.2 x hx
          have hge := (fSet_ge j _ _ hxs hl).2 x hx
          have h0 := hm.ge x.toNat (by omega) (by omega) 0 0
          simp only [walkF, List.length_nil] at h0
          have hc : ((x.toNat : Nat) : Int) = x := by omega
          exact via x.toNat (by rw [hc]; exact hx) (by omega)
      · have hb := hs.2 x hx
        have hc : ((x.toNat : Nat) : Int) = x := by omega
        exact via x.toNat (by rw [hc]; exact hx) h1
    · rw [hother j hjk]; exact h.at_ j (by omega) hjl
theorem hit_run {l : List Ins} (g : Good l) : ∀ (k : Nat), k ≤ l.length → ∀ out, Most l k out → Hit l k out → Hit l 0 (fRun l k out)
  | 0, _, out, hm, h => h
  | k + 1, hk, out, hm, h => hit_run g k (by omega) _ (most_step g hk hm) (hit_step g hk hm h)
theorem hit_start (l : List Ins) : Hit l l.length (List.replicate (l.length + 1) 0) :=
  ⟨by simp, fun j _ => getD_rep0 _ _, fun j h1 h2 => ⟨0, Int.le_refl _, Int.lt_of_lt_of_le (by omega) (two_pos _), fun f _ => by rw [walk_end f 0 h1, getD_rep0]; rfl⟩⟩
theorem fuel_hit {l : List Ins} (h : checkI l = 0) : ∃ q, 0 ≤ q ∧ q < two (jz l) ∧ ((walkS l q).length : Int) = (fuelS l).1 := by
  obtain ⟨q, h1, h2, h3⟩ := (hit_run (good_of h) l.length (Nat.le_refl _) _ (most_start l) (hit_start l)).at_ 0 (Nat.le_refl _) (Nat.zero_le _)
  refine ⟨q, h1, by rw [List.drop_zero] at h2; exact h2, ?_⟩
  unfold fuelS walkS
  rw [if_pos h]
  exact h3 _ (by omega)
end Go.VI

namespace Go.VI
open Go.Proofs
set_option maxRecDepth 100000
set_option linter.unusedSimpArgs false
set_option linter.unusedVariables false
set_option maxHeartbeats 4000000
theorem getD_some {l : List Ins} {i : Nat} {p : Ins} (h : l[i]? = some p) : l.getD i (0, 0) = p := by rw [List.getD_eq_getElem?_getD, h]; rfl
theorem walk_enc {l : List Ins} {k : Nat} {p : Ins} (h : l[k]? = some p) (h0 : p.1 ≠ 0) (h1 : p.1 = 17 ∨ p.1 = 18 → 0 ≤ p.2) (p0 : Int) (q' : Int) : ∃ q, ∀ f, walkF l (f + 1) k q = (k : Int) :: walkF l f (nextR p.1 p.2 k l.length p0).toNat q' := by
  have hk : k < l.length := (List.getElem?_eq_some_iff.1 h).1
  have hg := getD_some h
  have step : ∀ q, nextW p k q = some ((nextR p.1 p.2 k l.length p0).toNat, q') → ∀ f, walkF l (f + 1) k q = (k : Int) :: walkF l f (nextR p.1 p.2 k l.length p0).toNat q' := by
    intro q hq f
    rw [walk_step f q hk, hg, hq]
  by_cases h17 : p.1 = 17
  · refine ⟨q', step q' ?_⟩
    unfold nextW nextR
    rw [if_neg h0, if_pos h17, if_neg h0, if_pos h17]
  · by_cases h18 : p.1 = 18
    · by_cases hz : p0 = 0
      · refine ⟨2 * q' + 1, step _ ?_⟩
        have e1 : nextR p.1 p.2 k l.length p0 = p.2 := by unfold nextR; rw [if_neg h0, if_neg h17, if_pos ⟨h18, hz⟩]
        rw [e1]
        unfold nextW
        rw [if_neg h0, if_neg h17, if_pos h18, if_pos (by omega), show (2 * q' + 1) / 2 = q' from by omega]
      · refine ⟨2 * q', step _ ?_⟩
        have e1 : nextR p.1 p.2 k l.length p0 = ((k + 1 : Nat) : Int) := by unfold nextR; rw [if_neg h0, if_neg h17, if_neg (fun h => hz h.2)]; rfl
        rw [e1, Int.toNat_natCast]
        unfold nextW
        rw [if_neg h0, if_neg h17, if_pos h18, if_neg (by omega), show 2 * q' / 2 = q' from by omega]
    · refine ⟨q', step q' ?_⟩
      unfold nextW nextR
      rw [if_neg h0, if_neg h17, if_neg h18, if_neg h0, if_neg h17, if_neg (fun h => h18 h.1)]
      congr 2
theorem run_path {l : List Ins} (hl : checkI l = 0) (row : Int) (g : List Gl) (c0 w0 : Int) (fin : List Int) : ∀ (n i s : Nat) (c w : Int) (stk : List Int), okS stk → (∀ f q, pathOK fin l (walkF l f i q) stk.length) →
    ∃ q, ((runR l row g c0 w0 n i s c w stk).2.2.2 = 0 ∧ ∃ m, (runR l row g c0 w0 n i s c w stk).2.2.1 = s + m ∧ m ≤ (walkF l n i q).length) ∨ ((runR l row g c0 w0 n i s c w stk).2.2.2 = 14 ∧ (walkF l (n + 1) i q).length = n + 1) := by
  intro n
  induction n with
  | zero =>
    intro i s c w stk hk hp
    cases e : l[i]? with
    | none => rw [runR_none e]; exact ⟨0, .inl ⟨rfl, 0, rfl, Nat.zero_le _⟩⟩
    | some p =>
      rw [runR_fuel e]
      have hi : i < l.length := (List.getElem?_eq_some_iff.1 e).1
      refine ⟨0, .inr ⟨rfl, ?_⟩⟩
      rw [walk_step 0 0 hi]
      cases nextW (l.getD i (0, 0)) i 0 <;> rfl
  | succ n ih =>
    intro i s c w stk hk hp
    cases e : l[i]? with
    | none => rw [runR_none e]; exact ⟨0, .inl ⟨rfl, 0, rfl, Nat.zero_le _⟩⟩
    | some p =>
      have hi : i < l.length := (List.getElem?_eq_some_iff.1 e).1
      obtain ⟨a1, a2, a3, a4, a5⟩ := chk_at hl e
      have hgd := getD_some e
      have hp1 := hp 1 0
      rw [walk_step 0 0 hi] at hp1
      have hp1 := hp1.1
      rw [Int.toNat_natCast, hgd] at hp1
      obtain ⟨_, _, _, b1, b2, _⟩ := hp1
      have hf : ¬ failR stk p.1 := by unfold failR; omega
      obtain ⟨a, pp, rfl, hrs, hpl⟩ := okS_split hk a1 a2 hf
      rw [runR_step e hf hrs]
      have hkn := okS_next (row := row) (g := g) (c := c) (w := w) (arg := p.2) hk a1 a2 hf hpl
      have hml := pushedR_len row g c w p.2 pp a1 a2
      by_cases h0 : p.1 = 0
      · have hj : (nextR p.1 p.2 i l.length (pp.getD 0 0)).toNat = l.length := by unfold nextR; rw [if_pos h0]; omega
        rw [hj, runR_none (List.getElem?_eq_none (Nat.le_refl _))]
        refine ⟨0, .inl ⟨rfl, 1, rfl, ?_⟩⟩
        rw [walk_step n 0 hi]
        simp
      · have hen := walk_enc e h0 (fun h => by have := a5 h; omega) (pp.getD 0 0)
        have hp2 : ∀ f q, pathOK fin l (walkF l f (nextR p.1 p.2 i l.length (pp.getD 0 0)).toNat q) (a ++ (pushedR row g c w p.1 p.2 pp).map limS).length := by
          intro f q
          obtain ⟨q2, hq⟩ := hen q
          have := hp (f + 1) q2
          rw [hq f] at this
          have := this.2
          rw [Int.toNat_natCast, hgd] at this
          rw [List.length_append, List.length_map]
          rw [List.length_append] at this
          rw [show ((a.length + (pushedR row g c w p.1 p.2 pp).length : Nat) : Int) = ((a.length + pp.length : Nat) : Int) - popS p.1 + pushS p.1 from by omega]
          exact this
        obtain ⟨q', hq'⟩ := ih _ (s + 1) (clsR p.1 c (pp.getD 0 0)) (waiR p.1 w (pp.getD 0 0)) _ hkn hp2
        obtain ⟨q, hq⟩ := hen q'
        refine ⟨q, ?_⟩
        rcases hq' with ⟨r1, m, r2, r3⟩ | ⟨r1, r2⟩
        · refine .inl ⟨r1, m + 1, by rw [r2]; omega, ?_⟩
          rw [hq n, List.length_cons]; omega
        · refine .inr ⟨r1, ?_⟩
          rw [hq (n + 1), List.length_cons, r2]
theorem fuel_501 {l : List Ins} (h : checkI l = 0) : 0 ≤ (fuelS l).1 ∧ (fuelS l).1 ≤ 501 := by
  obtain ⟨q, _, _, hq⟩ := fuel_hit h
  have h1 := walk_len (l := l) (l.length + 1) 0 q
  have h2 := check_len h
  unfold walkS at hq
  omega
end Go.VI

namespace Go.VI
open Go.Proofs
set_option maxRecDepth 100000
set_option linter.unusedSimpArgs false
set_option linter.unusedVariables false
set_option maxHeartbeats 4000000
def SimG (a g : List Gl) : Prop := a.length = g.length ∧ ∀ i : Nat, (a.getD i ([], false, 0)).2.2 = (g.getD i ([], false, 0)).2.2 ∧ ((g.getD i ([], false, 0)).2.2 ≠ 3 → a.getD i ([], false, 0) = g.getD i ([], false, 0))
theorem SimG.refl (g : List Gl) : SimG g g := ⟨rfl, fun _ => ⟨rfl, fun _ => rfl⟩⟩
theorem getD_set_gl (a : List Gl) (k i : Nat) (x : Gl) (hk : k < a.length) : (a.set k x).getD i ([], false, 0) = if k = i then x else a.getD i ([], false, 0) := by
  rw [List.getD_eq_getElem?_getD, List.getD_eq_getElem?_getD, List.getElem?_set]
  by_cases h : k = i
  · subst h
    rw [if_pos rfl, if_pos hk, if_pos rfl]; rfl
  · rw [if_neg h, if_neg h]
theorem SimG.set {a g : List Gl} (h : SimG a g) {k : Nat} (hk : k < a.length) (h3 : (a.getD k ([], false, 0)).2.2 = 3) (t : List UInt8) : SimG (a.set k (t, (a.getD k ([], false, 0)).2)) g := by
  refine ⟨by rw [List.length_set]; exact h.1, fun i => ?_⟩
  rw [getD_set_gl a k i _ hk]
  obtain ⟨h1, h2⟩ := h.2 i
  split
  · rename_i he
    subst he
    exact ⟨h1, fun hn => absurd (h1.symm.trans h3) hn⟩
  · exact ⟨h1, h2⟩
end Go.VI

namespace Go.VI
open Go.Proofs
set_option maxRecDepth 100000
set_option linter.unusedSimpArgs false
set_option linter.unusedVariables false
set_option maxHeartbeats 4000000
def strt (p : Ins) : Prop := p.1 ≠ 0 ∧ p.1 ≠ 17 ∧ p.1 ≠ 18
end Go.VI

namespace Go.VI
open Go.Proofs
set_option maxRecDepth 100000
set_option linter.unusedSimpArgs false
set_option linter.unusedVariables false
set_option maxHeartbeats 4000000
instance (p : Ins) : Decidable (strt p) := by unfold strt; infer_instance
end Go.VI

namespace Go.VI
open Go.Proofs
set_option maxRecDepth 100000
set_option linter.unusedSimpArgs false
set_option linter.unusedVariables false
set_option maxHeartbeats 4000000
theorem getD_set_bool (l : List Bool) (i j : Nat) (x : Bool) : (l.set i x).getD j false = if i = j ∧ i < l.length then x else l.getD j false := by
  simp only [List.getD_eq_getElem?_getD, List.getElem?_set]
  by_cases h : i = j
  · subst h
    by_cases hl : i < l.length
    · simp [hl]
    · simp [hl]
  · simp [h]
end Go.VI

