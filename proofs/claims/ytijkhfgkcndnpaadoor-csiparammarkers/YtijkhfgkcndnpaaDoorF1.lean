import Derived.Test.YtijkhfgkcndnpaaDoorP3
import Derived.Test.YtijkhfgkcndnpaaDoorB1
import Derived.Test.YtijkhfgkcndnpaaDoorN3
namespace Go.VI
open Go.Proofs
set_option maxRecDepth 100000
set_option linter.unusedSimpArgs false
set_option linter.unusedVariables false
set_option maxHeartbeats 4000000
/-! csiparam.Format -/
def lowB (n : Int) : Bool := decide (n < -1)
theorem c27 (n : Int) : ∃ L, callT E 27 [.i (.v (.int .i64 n))] [] = some (.i (.v (.bool (lowB n))), L) := by
  rw [callT_eq Tryd.func27 rfl fok27 (by simp [Tryd.ntmps27])]
  simp (disch := first | omega | (simp only [List.length_append, List.length_map, List.length_set, List.length_cons, List.length_nil, List.length_take, List.length_drop]; omega)) only [va0, va1, va2, va3, va4, va5, va6, va7, va8, va9, va10, va11, va12, va13, va14, vb0, vb1, vb2, vb3, w_i8, w_u8, w_i16, w_u16, w_i32, w_u32, w_i64, w_u64, lt_T, lt_F, le_T, le_F, nlt_T, nlt_F, nle_T, nle_F, List.take_of_length_le, gB, gcW, gcR, posIn, renA, renL, Chunk.ren, Chunk.refs, evOpD, touchD, stepC, isFresh, nFresh, freshOf, mkR, hole, evL, evH, opd, get, putD, ofVal, cellOf, loadE, behind, lenE, idxAddrE, idxE, addPtr, intE, strE, unE, convE, AV.int, AV.bool, AV.str, ivs, take, frameOf, firstRegion, refsA, refsL, one, cellsA, floatOk, apartT, List.map, if_true, if_false, E_P, E_glob0, reduceCtorEq, beq_self_eq_true, decide_true, decide_false, ↓reduceIte, Nat.reduceEqDiff, cond_true, cond_false, or_true, true_or, or_false, false_or, and_true, true_and, and_self, false_and, and_false, not_true, not_false_iff, Nat.reduceAdd, Nat.reduceSub, Nat.reduceMul, Nat.reduceLT, Nat.reduceLeDiff, Int.reduceToNat, Int.reduceLT, Int.reduceLE, Option.getD, Int.reduceMul, Int.reduceAdd, List.drop, List.take, Nat.reduceBEq, List.isEmpty, Int.reduceEq, Int.reduceNe, Int.reduceNeg, Int.reduceGT, Int.reduceGE, beq_true, beq_false, UInt8.reduceToNat, eqE, eq_self, foldE, maxE, minE, eq_T, eq_F, ndec, odec, adec, sdec, fillA, over, chop, List.replicate, leavesOk, leafOk, cellsEq, cellEq, E_byref, en27, lowB]
  exact ⟨_, rfl⟩
theorem ik27 (n : Int) (H : Hp) : isoK E (callT E) 27 [.i (.v (.int .i64 n))] H = some (.i (.v (.bool (lowB n))), H) := isoK_val rfl rfl rfl (c27 n)
theorem lf34 (l : List Int) (hl : l.length < 100000) (k : Nat) (hk : k ≤ l.length) : rl E 0 34 (loopAt Tryd.f34 0) [(0, .i (.sl 1 (rows64 l) false)), (1, .clo (.func 27) [] []), (7, .i (.v (.int .i64 l.length))), (8, .i (.v (.int .i64 k)))] [] =
    match ixF lowB (l.drop k) k with
    | some i => some (.ret, [(4, .i (.v (.int .i64 i)))], [])
    | none => some (.exit 0, [(0, .i (.sl 1 (rows64 l) false)), (1, .clo (.func 27) [] []), (7, .i (.v (.int .i64 l.length))), (8, .i (.v (.int .i64 l.length))), (9, .i (.v (.bool false)))], []) := by
  rw [rl_step (fn := Tryd.f34) (k := 0) rfl]
  by_cases hlt : k < l.length
  · have hrow := rows64_at hlt
    have ih := lf34 l hl (k + 1) hlt
    rw [List.drop_eq_getElem_cons hlt, ixF]
    generalize l[k] = a at *
    by_cases hp : lowB a = true
    · rw [if_pos hp]
      clear ih
      simp (disch := first | omega | (simp only [List.length_append, List.length_map, List.length_set, List.length_cons, List.length_nil, List.length_take, List.length_drop, rows64_len]; omega)) only [va0, va1, va2, va3, va4, va5, va6, va7, va8, va9, va10, va11, va12, va13, va14, vb0, vb1, vb2, vb3, w_i8, w_u8, w_i16, w_u16, w_i32, w_u32, w_i64, w_u64, lt_T, lt_F, le_T, le_F, nlt_T, nlt_F, nle_T, nle_F, List.take_of_length_le, gB, gcW, gcR, posIn, renA, renL, Chunk.ren, Chunk.refs, evOpD, touchD, stepC, isFresh, nFresh, freshOf, mkR, hole, evL, evH, opd, get, putD, ofVal, cellOf, loadE, behind, lenE, idxAddrE, idxE, addPtr, intE, strE, unE, convE, AV.int, AV.bool, AV.str, ivs, take, frameOf, firstRegion, refsA, refsL, one, cellsA, floatOk, apartT, List.map, if_true, if_false, E_P, E_glob0, reduceCtorEq, beq_self_eq_true, decide_true, decide_false, ↓reduceIte, Nat.reduceEqDiff, cond_true, cond_false, or_true, true_or, or_false, false_or, and_true, true_and, and_self, false_and, and_false, not_true, not_false_iff, Nat.reduceAdd, Nat.reduceSub, Nat.reduceMul, Nat.reduceLT, Nat.reduceLeDiff, Int.reduceToNat, Int.reduceLT, Int.reduceLE, Option.getD, Int.reduceMul, Int.reduceAdd, List.drop, List.take, Nat.reduceBEq, List.isEmpty, Int.reduceEq, Int.reduceNe, Int.reduceNeg, Int.reduceGT, Int.reduceGE, beq_true, beq_false, UInt8.reduceToNat, eqE, eq_self, foldE, maxE, minE, eq_T, eq_F, ndec, odec, adec, sdec, fillA, over, chop, List.replicate, leavesOk, leafOk, cellsEq, cellEq, E_byref, en34, bs23, hrow, rows64_len, ik27, hp, show ∀ B fr H, execT E B 34 (Code.loop _) fr H = rlG E B 34 (loopAt Tryd.f34 0) (gcn B (norm [0, 1, 7, 8] fr) H) from fun B fr H => rl_intro rfl mt34_2 mb34_2 zf34_2 hd34_2 fr H, ca27]
    · rw [if_neg hp, ← ih]
      clear ih
      rw [Bool.not_eq_true] at hp
      simp (disch := first | omega | (simp only [List.length_append, List.length_map, List.length_set, List.length_cons, List.length_nil, List.length_take, List.length_drop, rows64_len]; omega)) only [va0, va1, va2, va3, va4, va5, va6, va7, va8, va9, va10, va11, va12, va13, va14, vb0, vb1, vb2, vb3, w_i8, w_u8, w_i16, w_u16, w_i32, w_u32, w_i64, w_u64, lt_T, lt_F, le_T, le_F, nlt_T, nlt_F, nle_T, nle_F, List.take_of_length_le, gB, gcW, gcR, posIn, renA, renL, Chunk.ren, Chunk.refs, evOpD, touchD, stepC, isFresh, nFresh, freshOf, mkR, hole, evL, evH, opd, get, putD, ofVal, cellOf, loadE, behind, lenE, idxAddrE, idxE, addPtr, intE, strE, unE, convE, AV.int, AV.bool, AV.str, ivs, take, frameOf, firstRegion, refsA, refsL, one, cellsA, floatOk, apartT, List.map, if_true, if_false, E_P, E_glob0, reduceCtorEq, beq_self_eq_true, decide_true, decide_false, ↓reduceIte, Nat.reduceEqDiff, cond_true, cond_false, or_true, true_or, or_false, false_or, and_true, true_and, and_self, false_and, and_false, not_true, not_false_iff, Nat.reduceAdd, Nat.reduceSub, Nat.reduceMul, Nat.reduceLT, Nat.reduceLeDiff, Int.reduceToNat, Int.reduceLT, Int.reduceLE, Option.getD, Int.reduceMul, Int.reduceAdd, List.drop, List.take, Nat.reduceBEq, List.isEmpty, Int.reduceEq, Int.reduceNe, Int.reduceNeg, Int.reduceGT, Int.reduceGE, beq_true, beq_false, UInt8.reduceToNat, eqE, eq_self, foldE, maxE, minE, eq_T, eq_F, ndec, odec, adec, sdec, fillA, over, chop, List.replicate, leavesOk, leafOk, cellsEq, cellEq, E_byref, en34, bs23, hrow, rows64_len, ik27, hp, show ∀ B fr H, execT E B 34 (Code.loop _) fr H = rlG E B 34 (loopAt Tryd.f34 0) (gcn B (norm [0, 1, 7, 8] fr) H) from fun B fr H => rl_intro rfl mt34_2 mb34_2 zf34_2 hd34_2 fr H, ca27]
  · obtain rfl : k = l.length := by omega
    rw [List.drop_length, ixF]
    simp (disch := first | omega | (simp only [List.length_append, List.length_map, List.length_set, List.length_cons, List.length_nil, List.length_take, List.length_drop]; omega)) only [va0, va1, va2, va3, va4, va5, va6, va7, va8, va9, va10, va11, va12, va13, va14, vb0, vb1, vb2, vb3, w_i8, w_u8, w_i16, w_u16, w_i32, w_u32, w_i64, w_u64, lt_T, lt_F, le_T, le_F, nlt_T, nlt_F, nle_T, nle_F, List.take_of_length_le, gB, gcW, gcR, posIn, renA, renL, Chunk.ren, Chunk.refs, evOpD, touchD, stepC, isFresh, nFresh, freshOf, mkR, hole, evL, evH, opd, get, putD, ofVal, cellOf, loadE, behind, lenE, idxAddrE, idxE, addPtr, intE, strE, unE, convE, AV.int, AV.bool, AV.str, ivs, take, frameOf, firstRegion, refsA, refsL, one, cellsA, floatOk, apartT, List.map, if_true, if_false, E_P, E_glob0, reduceCtorEq, beq_self_eq_true, decide_true, decide_false, ↓reduceIte, Nat.reduceEqDiff, cond_true, cond_false, or_true, true_or, or_false, false_or, and_true, true_and, and_self, false_and, and_false, not_true, not_false_iff, Nat.reduceAdd, Nat.reduceSub, Nat.reduceMul, Nat.reduceLT, Nat.reduceLeDiff, Int.reduceToNat, Int.reduceLT, Int.reduceLE, Option.getD, Int.reduceMul, Int.reduceAdd, List.drop, List.take, Nat.reduceBEq, List.isEmpty, Int.reduceEq, Int.reduceNe, Int.reduceNeg, Int.reduceGT, Int.reduceGE, beq_true, beq_false, UInt8.reduceToNat, eqE, eq_self, foldE, maxE, minE, eq_T, eq_F, ndec, odec, adec, sdec, fillA, over, chop, List.replicate, leavesOk, leafOk, cellsEq, cellEq, E_byref, en34, bs23]
termination_by l.length - k
theorem cf34 (l : List Int) (hl : (l.length : Int) < 100000) : ∃ L, callT E 34 [.i (.sl 1 (rows64 l) false), .clo (.func 27) [] []] [] = some (.i (.v (.int .i64 (ixN (ixF lowB l 0)))), L) := by
  have h : rl E 0 34 (loopAt Tryd.f34 0) [(0, .i (.sl 1 (rows64 l) false)), (1, .clo (.func 27) [] []), (7, .i (.v (.int .i64 l.length))), (8, .i (.v (.int .i64 0)))] [] = _ := lf34 l (by omega) 0 (Nat.zero_le _)
  rw [List.drop_zero] at h
  rw [callT_eq Tryd.func34 rfl fok34 (by simp [Tryd.ntmps34])]
  cases hx : ixF lowB l 0 with
  | some i =>
    simp only [hx] at h
    simp (disch := first | omega | (simp only [List.length_append, List.length_map, List.length_set, List.length_cons, List.length_nil, List.length_take, List.length_drop, rows64_len]; omega)) only [va0, va1, va2, va3, va4, va5, va6, va7, va8, va9, va10, va11, va12, va13, va14, vb0, vb1, vb2, vb3, w_i8, w_u8, w_i16, w_u16, w_i32, w_u32, w_i64, w_u64, lt_T, lt_F, le_T, le_F, nlt_T, nlt_F, nle_T, nle_F, List.take_of_length_le, gB, gcW, gcR, posIn, renA, renL, Chunk.ren, Chunk.refs, evOpD, touchD, stepC, isFresh, nFresh, freshOf, mkR, hole, evL, evH, opd, get, putD, ofVal, cellOf, loadE, behind, lenE, idxAddrE, idxE, addPtr, intE, strE, unE, convE, AV.int, AV.bool, AV.str, ivs, take, frameOf, firstRegion, refsA, refsL, one, cellsA, floatOk, apartT, List.map, if_true, if_false, E_P, E_glob0, reduceCtorEq, beq_self_eq_true, decide_true, decide_false, ↓reduceIte, Nat.reduceEqDiff, cond_true, cond_false, or_true, true_or, or_false, false_or, and_true, true_and, and_self, false_and, and_false, not_true, not_false_iff, Nat.reduceAdd, Nat.reduceSub, Nat.reduceMul, Nat.reduceLT, Nat.reduceLeDiff, Int.reduceToNat, Int.reduceLT, Int.reduceLE, Option.getD, Int.reduceMul, Int.reduceAdd, List.drop, List.take, Nat.reduceBEq, List.isEmpty, Int.reduceEq, Int.reduceNe, Int.reduceNeg, Int.reduceGT, Int.reduceGE, beq_true, beq_false, UInt8.reduceToNat, eqE, eq_self, foldE, maxE, minE, eq_T, eq_F, ndec, odec, adec, sdec, fillA, over, chop, List.replicate, leavesOk, leafOk, cellsEq, cellEq, E_byref, en34, bs23, h, rows64_len, show ∀ B fr H, execT E B 34 (Code.loop _) fr H = rlG E B 34 (loopAt Tryd.f34 0) (gcn B (norm [0, 1, 7, 8] fr) H) from fun B fr H => rl_intro rfl mt34_2 mb34_2 zf34_2 hd34_2 fr H, ixN]
    exact ⟨_, rfl⟩
  | none =>
    simp only [hx] at h
    simp (disch := first | omega | (simp only [List.length_append, List.length_map, List.length_set, List.length_cons, List.length_nil, List.length_take, List.length_drop, rows64_len]; omega)) only [va0, va1, va2, va3, va4, va5, va6, va7, va8, va9, va10, va11, va12, va13, va14, vb0, vb1, vb2, vb3, w_i8, w_u8, w_i16, w_u16, w_i32, w_u32, w_i64, w_u64, lt_T, lt_F, le_T, le_F, nlt_T, nlt_F, nle_T, nle_F, List.take_of_length_le, gB, gcW, gcR, posIn, renA, renL, Chunk.ren, Chunk.refs, evOpD, touchD, stepC, isFresh, nFresh, freshOf, mkR, hole, evL, evH, opd, get, putD, ofVal, cellOf, loadE, behind, lenE, idxAddrE, idxE, addPtr, intE, strE, unE, convE, AV.int, AV.bool, AV.str, ivs, take, frameOf, firstRegion, refsA, refsL, one, cellsA, floatOk, apartT, List.map, if_true, if_false, E_P, E_glob0, reduceCtorEq, beq_self_eq_true, decide_true, decide_false, ↓reduceIte, Nat.reduceEqDiff, cond_true, cond_false, or_true, true_or, or_false, false_or, and_true, true_and, and_self, false_and, and_false, not_true, not_false_iff, Nat.reduceAdd, Nat.reduceSub, Nat.reduceMul, Nat.reduceLT, Nat.reduceLeDiff, Int.reduceToNat, Int.reduceLT, Int.reduceLE, Option.getD, Int.reduceMul, Int.reduceAdd, List.drop, List.take, Nat.reduceBEq, List.isEmpty, Int.reduceEq, Int.reduceNe, Int.reduceNeg, Int.reduceGT, Int.reduceGE, beq_true, beq_false, UInt8.reduceToNat, eqE, eq_self, foldE, maxE, minE, eq_T, eq_F, ndec, odec, adec, sdec, fillA, over, chop, List.replicate, leavesOk, leafOk, cellsEq, cellEq, E_byref, en34, bs23, h, rows64_len, show ∀ B fr H, execT E B 34 (Code.loop _) fr H = rlG E B 34 (loopAt Tryd.f34 0) (gcn B (norm [0, 1, 7, 8] fr) H) from fun B fr H => rl_intro rfl mt34_2 mb34_2 zf34_2 hd34_2 fr H, ixN]
    exact ⟨_, rfl⟩
theorem ikf34 (l : List Int) (hl : (l.length : Int) < 100000) (H : Hp) : isoK E (callT E) 34 [.i (.sl 1 (rows64 l) false), .clo (.func 27) [] []] H = some (.i (.v (.int .i64 (ixN (ixF lowB l 0)))), H) := isoK_val rfl rfl rfl (cf34 l hl)
theorem cf26 (l : List Int) (hl : (l.length : Int) < 100000) : ∃ L, callT E 26 [.i (.sl 1 (rows64 l) false), .clo (.func 27) [] []] [] = some (.i (.v (.bool (l.any lowB))), L) := by
  have hd : decide (0 ≤ ixN (ixF lowB l 0)) = l.any lowB := ixF_dec lowB l 0
  rw [callT_eq Tryd.func26 rfl fok26 (by simp [Tryd.ntmps26])]
  simp (disch := first | omega | (simp only [List.length_append, List.length_map, List.length_set, List.length_cons, List.length_nil, List.length_take, List.length_drop]; omega)) only [va0, va1, va2, va3, va4, va5, va6, va7, va8, va9, va10, va11, va12, va13, va14, vb0, vb1, vb2, vb3, w_i8, w_u8, w_i16, w_u16, w_i32, w_u32, w_i64, w_u64, lt_T, lt_F, le_T, le_F, nlt_T, nlt_F, nle_T, nle_F, List.take_of_length_le, gB, gcW, gcR, posIn, renA, renL, Chunk.ren, Chunk.refs, evOpD, touchD, stepC, isFresh, nFresh, freshOf, mkR, hole, evL, evH, opd, get, putD, ofVal, cellOf, loadE, behind, lenE, idxAddrE, idxE, addPtr, intE, strE, unE, convE, AV.int, AV.bool, AV.str, ivs, take, frameOf, firstRegion, refsA, refsL, one, cellsA, floatOk, apartT, List.map, if_true, if_false, E_P, E_glob0, reduceCtorEq, beq_self_eq_true, decide_true, decide_false, ↓reduceIte, Nat.reduceEqDiff, cond_true, cond_false, or_true, true_or, or_false, false_or, and_true, true_and, and_self, false_and, and_false, not_true, not_false_iff, Nat.reduceAdd, Nat.reduceSub, Nat.reduceMul, Nat.reduceLT, Nat.reduceLeDiff, Int.reduceToNat, Int.reduceLT, Int.reduceLE, Option.getD, Int.reduceMul, Int.reduceAdd, List.drop, List.take, Nat.reduceBEq, List.isEmpty, Int.reduceEq, Int.reduceNe, Int.reduceNeg, Int.reduceGT, Int.reduceGE, beq_true, beq_false, UInt8.reduceToNat, eqE, eq_self, foldE, maxE, minE, eq_T, eq_F, ndec, odec, adec, sdec, fillA, over, chop, List.replicate, leavesOk, leafOk, cellsEq, cellEq, E_byref, en26, bs23, ikf34, hd]
  exact ⟨_, rfl⟩
theorem ikf26 (l : List Int) (hl : (l.length : Int) < 100000) (H : Hp) : isoK E (callT E) 26 [.i (.sl 1 (rows64 l) false), .clo (.func 27) [] []] H = some (.i (.v (.bool (l.any lowB))), H) := isoK_val rfl rfl rfl (cf26 l hl)
/-! strconv.AppendInt -/
def numB (n : Int) : List UInt8 := if 0 ≤ n then Lib.decDigits n.toNat else []
theorem numB_len (n : Int) (h : n ≤ 9223372036854775807) : (numB n).length ≤ 20 := by
  unfold numB
  split
  · rw [Lib.decDigits_length]
    by_cases h0 : n.toNat = 0
    · rw [h0, Lib.nDigits_small (by decide)]; decide
    · have := Lib.numDigits_eq n.toNat (by omega) (by omega)
      split at this <;> omega
  · simp
theorem ik28 {H : Hp} {c g n : Nat} {a : List UInt8} (x : Int) (h0 : 0 ≤ x) (h1 : x ≤ 9223372036854775807) (hn : n = a.length) (hl : n < 1000000) (hH : H[c]? = some (.sl 1 g (rowsB a) false)) :
    isoK E (callT E) 28 [.ref c g 0 n, .i (.v (.int .i64 x)), .i (.v (.int .i64 10))] H = some (.ref c (g + 1) 0 (n + (numB x).length), H.set c (.sl 1 (g + 1) (rowsB (a ++ numB x)) false)) := by
  have h20 := numB_len x h1
  have hx : Lib.decDigits x.toNat = numB x := by rw [numB, if_pos h0]
  refine isoK_app xk28 hH rfl ?_
  have e1 : (n : Int) = (rowsB a).length := by rw [rowsB_len, hn]
  subst hn
  simp only [extAppendInt]
  rw [if_pos ⟨trivial, h0, h1⟩, show appendE (envP Tryd.prog) = appendE E from appendE_P E, hx]
  generalize numB x = ds at *
  rw [ap_eq (z := 1) (by kernel_rfl)]
  simp only [srcE, bytes_map, apS, apV, apC, List.getElem?_cons_zero, rowsB_len, or_true, true_and, if_true, rowsB_take a _ (Nat.le_refl _), rowsB_app, Bool.false_and]
  rw [if_pos (by omega)]
  rfl
end Go.VI
