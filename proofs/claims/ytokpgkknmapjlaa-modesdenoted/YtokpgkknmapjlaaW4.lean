import Derived.Test.YtokpgkknmapjlaaW3
namespace Go.VI
open Go.Proofs
set_option maxRecDepth 100000
set_option linter.unusedSimpArgs false
set_option linter.unusedVariables false
set_option maxHeartbeats 4000000
theorem setMany_drop {p : Int} {on : Bool} {m : Md} {l : List Int} {k : Nat} (h : k < l.length) : setMany p on m (l.drop k) = setMany p on (set1 p on m l[k]) (l.drop (k + 1)) := by
  rw [List.drop_eq_getElem_cons h]; rfl
theorem l15 (p : Int) (on : Bool) (l : List Int) (ex : Bool) (z : List AV) (hn : l.length < 1000000) (k : Nat) (hk : k ≤ l.length) (m : Md) :
    ∃ fr, rl E 15 (loopAt Try.f15 0) [(1, .i (.v (.int .u8 p))), (2, .i (.sl 1 (rows64 l) ex)), (3, .i (.v (.bool on))), (4, .ptr 0 0 0 0), (8, .ptr 1 0 0 0), (9, .i (.v (.int .i64 k)))] [.box (cells m), .box z] =
      some (.exit 0, fr, [.box (cells (setMany p on m (l.drop k))), .box z]) ∧ get 4 fr = .ptr 0 0 0 0 ∧ get 8 fr = .ptr 1 0 0 0 := by
  have hm := cells_eq m
  rw [rl_step (fn := Try.f15) (k := 0) rfl hd15_2 rfl]
  by_cases hlt : k < l.length
  · have hrow := rows64_at hlt
    rw [setMany_drop hlt]
    rcases cases_pn p l[k] with ⟨rfl, h⟩ | ⟨rfl, h⟩ | ⟨rfl, h1, h2⟩ | ⟨h1, h2⟩ | ⟨rfl, h⟩ | ⟨rfl, h⟩ | ⟨rfl, h⟩ | ⟨rfl, h⟩ | ⟨rfl, h⟩ | ⟨rfl, h⟩ | ⟨rfl, h⟩ | ⟨rfl, h⟩ | ⟨rfl, h1, h2, h3, h4, h5, h6, h7, h8⟩
    all_goals simp (disch := first | omega | (simp only [List.length_append, List.length_map, List.length_set, List.length_cons, List.length_nil, List.length_take, List.length_drop, rows64_len]; omega)) only [va0, va1, va2, va3, va4, va5, va6, va7, vb0, vb1, vb2, vb3, w_i8, w_u8, w_i16, w_u16, w_i32, w_u32, w_i64, w_u64, lt_T, lt_F, le_T, le_F, nlt_T, nlt_F, nle_T, nle_F, List.take_of_length_le, gB, evOpD, touchD, stepC, isFresh, nFresh, freshOf, mkR, hole, evL, evH, opd, get, putD, ofVal, cellOf, loadE, behind, lenE, idxAddrE, idxE, addPtr, intE, strE, unE, convE, AV.int, AV.bool, AV.str, ivs, take, frameOf, firstRegion, refsA, refsL, one, cellsA, floatOk, apartT, List.map, if_true, if_false, E_P, E_glob, reduceCtorEq, beq_self_eq_true, decide_true, decide_false, ↓reduceIte, Nat.reduceEqDiff, cond_true, cond_false, or_true, true_or, or_false, false_or, and_true, true_and, and_self, false_and, and_false, not_true, not_false_iff, Nat.reduceAdd, Nat.reduceSub, Nat.reduceMul, Nat.reduceLT, Nat.reduceLeDiff, Int.reduceToNat, Int.reduceLT, Int.reduceLE, Option.getD, Int.reduceMul, Int.reduceAdd, List.drop, List.take, Nat.reduceBEq, List.isEmpty, Int.reduceEq, Int.reduceNe, Int.reduceNeg, Int.reduceGT, Int.reduceGE, beq_true, beq_false, UInt8.reduceToNat, eqE, eq_self, foldE, maxE, minE, prep, freeze, freezeAll, eq_T, eq_F, ndec, odec, adec, sdec, fillA, over, chop, List.replicate, leavesOk, leafOk, cellsEq, cellEq, E_byref, en15, bs25, rows64_len, show ∀ fr H, execT E 15 (Code.loop _) fr H = rl E 15 (loopAt Try.f15 0) (norm [1, 2, 3, 4, 8, 9] fr) H from fun fr H => rl_intro rfl hd15_2 fr H, hrow, hm]
    · rw [show set1 0 on m l[k] = setField m on 0 by simp [set1, fieldOf, h]]; exact l15 _ on l ex z hn (k + 1) hlt (setField m on 0)
    · rw [show set1 0 on m l[k] = setField m on 1 by simp [set1, fieldOf, h]]; exact l15 _ on l ex z hn (k + 1) hlt (setField m on 1)
    · rw [show set1 0 on m l[k] = m by simp [set1, fieldOf, h1, h2]]; exact l15 _ on l ex z hn (k + 1) hlt m
    · rw [show set1 p on m l[k] = m by simp [set1, fieldOf, h1, h2]]; exact l15 _ on l ex z hn (k + 1) hlt m
    · rw [show set1 63 on m l[k] = setField m on 2 by simp [set1, fieldOf, h]]; exact l15 _ on l ex z hn (k + 1) hlt (setField m on 2)
    · rw [show set1 63 on m l[k] = setField m on 3 by simp [set1, fieldOf, h]]; exact l15 _ on l ex z hn (k + 1) hlt (setField m on 3)
    · rw [show set1 63 on m l[k] = setField m on 4 by simp [set1, fieldOf, h]]; exact l15 _ on l ex z hn (k + 1) hlt (setField m on 4)
    · rw [show set1 63 on m l[k] = setField m on 5 by simp [set1, fieldOf, h]]; exact l15 _ on l ex z hn (k + 1) hlt (setField m on 5)
    · rw [show set1 63 on m l[k] = setField m on 6 by simp [set1, fieldOf, h]]; exact l15 _ on l ex z hn (k + 1) hlt (setField m on 6)
    · rw [show set1 63 on m l[k] = setField m on 6 by simp [set1, fieldOf, h]]; exact l15 _ on l ex z hn (k + 1) hlt (setField m on 6)
    · rw [show set1 63 on m l[k] = setField m on 6 by simp [set1, fieldOf, h]]; exact l15 _ on l ex z hn (k + 1) hlt (setField m on 6)
    · rw [show set1 63 on m l[k] = setField m on 7 by simp [set1, fieldOf, h]]; exact l15 _ on l ex z hn (k + 1) hlt (setField m on 7)
    · rw [show set1 63 on m l[k] = m by simp [set1, fieldOf, h1, h2, h3, h4, h5, h6, h7, h8]]; exact l15 _ on l ex z hn (k + 1) hlt m
  · obtain rfl : k = l.length := by omega
    rw [List.drop_length]
    simp (disch := first | omega | (simp only [List.length_append, List.length_map, List.length_set, List.length_cons, List.length_nil, List.length_take, List.length_drop]; omega)) only [va0, va1, va2, va3, va4, va5, va6, va7, vb0, vb1, vb2, vb3, w_i8, w_u8, w_i16, w_u16, w_i32, w_u32, w_i64, w_u64, lt_T, lt_F, le_T, le_F, nlt_T, nlt_F, nle_T, nle_F, List.take_of_length_le, gB, evOpD, touchD, stepC, isFresh, nFresh, freshOf, mkR, hole, evL, evH, opd, get, putD, ofVal, cellOf, loadE, behind, lenE, idxAddrE, idxE, addPtr, intE, strE, unE, convE, AV.int, AV.bool, AV.str, ivs, take, frameOf, firstRegion, refsA, refsL, one, cellsA, floatOk, apartT, List.map, if_true, if_false, E_P, E_glob, reduceCtorEq, beq_self_eq_true, decide_true, decide_false, ↓reduceIte, Nat.reduceEqDiff, cond_true, cond_false, or_true, true_or, or_false, false_or, and_true, true_and, and_self, false_and, and_false, not_true, not_false_iff, Nat.reduceAdd, Nat.reduceSub, Nat.reduceMul, Nat.reduceLT, Nat.reduceLeDiff, Int.reduceToNat, Int.reduceLT, Int.reduceLE, Option.getD, Int.reduceMul, Int.reduceAdd, List.drop, List.take, Nat.reduceBEq, List.isEmpty, Int.reduceEq, Int.reduceNe, Int.reduceNeg, Int.reduceGT, Int.reduceGE, beq_true, beq_false, UInt8.reduceToNat, eqE, eq_self, foldE, maxE, minE, prep, freeze, freezeAll, eq_T, eq_F, ndec, odec, adec, sdec, fillA, over, chop, List.replicate, leavesOk, leafOk, cellsEq, cellEq, E_byref, en15, bs25, rows64_len, hm]
    exact ⟨_, rfl, rfl, rfl⟩
termination_by l.length - k
theorem c15 (m : Md) (p : Int) (on : Bool) (l : List Int) (ex : Bool) (hn : (l.length : Int) < 1000000) : ∃ L, callT E 15 [.agg (cells m), .i (.v (.int .u8 p)), .i (.sl 1 (rows64 l) ex), .i (.v (.bool on))] [] = some (.agg (cells (setMany p on m l)), L) := by
  rw [callT_eq Try.func15 rfl fok15 (by simp [Try.ntmps15])]
  have hm := cells_eq m
  obtain ⟨fr, h1, h2, h3⟩ := l15 p on l ex (cells ⟨false, false, false, false, false, false, false, false, 0, 0, 0⟩) (by omega) 0 (by omega) m
  have hm2 := cells_eq (setMany p on m l)
  have hm3 := cells_eq ⟨false, false, false, false, false, false, false, false, 0, 0, 0⟩
  simp only [List.drop_zero, hm, hm2, hm3, Int.natCast_zero] at h1
  simp (disch := first | omega | (simp only [List.length_append, List.length_map, List.length_set, List.length_cons, List.length_nil, List.length_take, List.length_drop, rows64_len]; omega)) only [va0, va1, va2, va3, va4, va5, va6, va7, vb0, vb1, vb2, vb3, w_i8, w_u8, w_i16, w_u16, w_i32, w_u32, w_i64, w_u64, lt_T, lt_F, le_T, le_F, nlt_T, nlt_F, nle_T, nle_F, List.take_of_length_le, gB, evOpD, touchD, stepC, isFresh, nFresh, freshOf, mkR, hole, evL, evH, opd, get, putD, ofVal, cellOf, loadE, behind, lenE, idxAddrE, idxE, addPtr, intE, strE, unE, convE, AV.int, AV.bool, AV.str, ivs, take, frameOf, firstRegion, refsA, refsL, one, cellsA, floatOk, apartT, List.map, if_true, if_false, E_P, E_glob, reduceCtorEq, beq_self_eq_true, decide_true, decide_false, ↓reduceIte, Nat.reduceEqDiff, cond_true, cond_false, or_true, true_or, or_false, false_or, and_true, true_and, and_self, false_and, and_false, not_true, not_false_iff, Nat.reduceAdd, Nat.reduceSub, Nat.reduceMul, Nat.reduceLT, Nat.reduceLeDiff, Int.reduceToNat, Int.reduceLT, Int.reduceLE, Option.getD, Int.reduceMul, Int.reduceAdd, List.drop, List.take, Nat.reduceBEq, List.isEmpty, Int.reduceEq, Int.reduceNe, Int.reduceNeg, Int.reduceGT, Int.reduceGE, beq_true, beq_false, UInt8.reduceToNat, eqE, eq_self, foldE, maxE, minE, prep, freeze, freezeAll, eq_T, eq_F, ndec, odec, adec, sdec, fillA, over, chop, List.replicate, leavesOk, leafOk, cellsEq, cellEq, E_byref, en15, bs25, show ∀ fr H, execT E 15 (Code.loop _) fr H = rl E 15 (loopAt Try.f15 0) (norm [1, 2, 3, 4, 8, 9] fr) H from fun fr H => rl_intro rfl hd15_2 fr H, rows64_len, hm, hm2, h1, h2, h3, res15]
  exact ⟨_, rfl⟩
end Go.VI
