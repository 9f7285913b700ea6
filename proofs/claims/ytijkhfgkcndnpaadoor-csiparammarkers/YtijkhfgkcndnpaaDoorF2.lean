import Derived.Test.YtijkhfgkcndnpaaDoorF1
namespace Go.VI
open Go.Proofs
set_option maxRecDepth 100000
set_option linter.unusedSimpArgs false
set_option linter.unusedVariables false
set_option maxHeartbeats 4000000
theorem ika28 (x : Int) (h0 : 0 ≤ x) (h1 : x ≤ 9999) (a : List UInt8) (n : Nat) (hn : n = a.length) (hl : n < 1000000) (g : Nat) (T : Hp) :
    isoK E (callT E) 28 [.ref 0 g 0 n, .i (.v (.int .i64 x)), .i (.v (.int .i64 10))] (.sl 1 g (rowsB a) false :: T) = some (.ref 0 (g + 1) 0 (n + (numB x).length), .sl 1 (g + 1) (rowsB (a ++ numB x)) false :: T) :=
  ik28 x h0 (by omega) hn hl rfl
def fmtG : Bool → List Int → List UInt8
  | _, [] => []
  | true, n :: l => numB n ++ fmtG false l
  | false, n :: l => 59 :: (numB n ++ fmtG false l)
theorem b59 (a : List UInt8) : rowsB a ++ [[.v (.int .u8 59)]] = rowsB (a ++ [59]) := rowsB_snoc a 59 59 rfl
theorem l15 (s : List UInt8) (l : List Int) (hl : l.length < 1000) (hl9 : ∀ n ∈ l, n ≤ 9999) (k : Nat) (hk : k ≤ l.length) (out : List UInt8) (ho : out.length ≤ 21 * k + 1) :
    rl E 0 15 (loopAt Tryd.f15 0) [(2, .i (.str s)), (8, .ref 0 0 0 out.length), (45, .i (.sl 1 (rows64 l) false)), (46, .i (.v (.int .i64 l.length))), (47, .i (.v (.int .i64 k)))] [.sl 1 0 (rowsB out) false] =
    some (.exit 1, [(2, .i (.str s)), (8, .ref 0 0 0 (out ++ fmtG (decide (k = 0)) (l.drop k)).length), (45, .i (.sl 1 (rows64 l) false)), (46, .i (.v (.int .i64 l.length))), (47, .i (.v (.int .i64 l.length))), (48, .i (.v (.bool false)))], [.sl 1 0 (rowsB (out ++ fmtG (decide (k = 0)) (l.drop k))) false]) := by
  rw [rl_step (fn := Tryd.f15) (k := 0) rfl]
  by_cases hlt : k < l.length
  · have hrow := rows64_at hlt
    have h9 : l[k] ≤ 9999 := hl9 _ (List.getElem_mem hlt)
    have h20 : (numB l[k]).length ≤ 20 := numB_len _ (by omega)
    have hn0 : ¬ 0 ≤ l[k] → numB l[k] = [] := fun h => by rw [numB, if_neg h]
    have hka := ika28 l[k]
    by_cases h0 : k = 0
    · have ih := l15 s l hl hl9 (k + 1) hlt (out ++ numB l[k]) (by rw [List.length_append]; omega)
      rw [show decide (k + 1 = 0) = false by simp, List.append_assoc] at ih
      rw [List.drop_eq_getElem_cons hlt, show decide (k = 0) = true by simpa using h0, fmtG, ← ih]
      clear ih
      generalize l[k] = n at *
      by_cases hn : 0 ≤ n
      · have hka := hka hn h9
        simp (disch := first | omega | (simp only [List.length_append, List.length_map, List.length_set, List.length_cons, List.length_nil, List.length_take, List.length_drop, rows64_len, rowsB_len]; omega)) only [va0, va1, va2, va3, va4, va5, va6, va7, va8, va9, va10, va11, va12, va13, va14, vb0, vb1, vb2, vb3, w_i8, w_u8, w_i16, w_u16, w_i32, w_u32, w_i64, w_u64, lt_T, lt_F, le_T, le_F, nlt_T, nlt_F, nle_T, nle_F, List.take_of_length_le, gB, gcW, gcR, posIn, renA, renL, Chunk.ren, Chunk.refs, evOpD, touchD, stepC, isFresh, nFresh, freshOf, mkR, hole, evL, evH, opd, get, putD, ofVal, cellOf, loadE, behind, lenE, idxAddrE, idxE, addPtr, intE, strE, unE, convE, AV.int, AV.bool, AV.str, ivs, take, frameOf, firstRegion, refsA, refsL, one, cellsA, floatOk, apartT, List.map, if_true, if_false, E_P, E_glob0, reduceCtorEq, beq_self_eq_true, decide_true, decide_false, ↓reduceIte, Nat.reduceEqDiff, cond_true, cond_false, or_true, true_or, or_false, false_or, and_true, true_and, and_self, false_and, and_false, not_true, not_false_iff, Nat.reduceAdd, Nat.reduceSub, Nat.reduceMul, Nat.reduceLT, Nat.reduceLeDiff, Int.reduceToNat, Int.reduceLT, Int.reduceLE, Option.getD, Int.reduceMul, Int.reduceAdd, List.drop, List.take, Nat.reduceBEq, List.isEmpty, Int.reduceEq, Int.reduceNe, Int.reduceNeg, Int.reduceGT, Int.reduceGE, beq_true, beq_false, UInt8.reduceToNat, eqE, eq_self, foldE, maxE, minE, eq_T, eq_F, ndec, odec, adec, sdec, fillA, over, chop, List.replicate, leavesOk, leafOk, cellsEq, cellEq, E_byref, en15, bs23, bs32, hrow, hn, hka, rows64_len, rowsB_len, show ∀ B fr H, execT E B 15 (Code.loop _) fr H = rlM E B 15 (loopAt Tryd.f15 0) [2, 8, 45, 46, 47] [] (matF [(8, 1)] fr H).1 (matB [] (matF [(8, 1)] fr H).1 (matF [(8, 1)] fr H).2) from fun B fr H => rl_introM rfl mt15_13 mb15_13 zf15_13 hd15_13 fr H]
      · rw [hn0 hn, List.append_nil]
        simp (disch := first | omega | (simp only [List.length_append, List.length_map, List.length_set, List.length_cons, List.length_nil, List.length_take, List.length_drop, rows64_len, rowsB_len]; omega)) only [va0, va1, va2, va3, va4, va5, va6, va7, va8, va9, va10, va11, va12, va13, va14, vb0, vb1, vb2, vb3, w_i8, w_u8, w_i16, w_u16, w_i32, w_u32, w_i64, w_u64, lt_T, lt_F, le_T, le_F, nlt_T, nlt_F, nle_T, nle_F, List.take_of_length_le, gB, gcW, gcR, posIn, renA, renL, Chunk.ren, Chunk.refs, evOpD, touchD, stepC, isFresh, nFresh, freshOf, mkR, hole, evL, evH, opd, get, putD, ofVal, cellOf, loadE, behind, lenE, idxAddrE, idxE, addPtr, intE, strE, unE, convE, AV.int, AV.bool, AV.str, ivs, take, frameOf, firstRegion, refsA, refsL, one, cellsA, floatOk, apartT, List.map, if_true, if_false, E_P, E_glob0, reduceCtorEq, beq_self_eq_true, decide_true, decide_false, ↓reduceIte, Nat.reduceEqDiff, cond_true, cond_false, or_true, true_or, or_false, false_or, and_true, true_and, and_self, false_and, and_false, not_true, not_false_iff, Nat.reduceAdd, Nat.reduceSub, Nat.reduceMul, Nat.reduceLT, Nat.reduceLeDiff, Int.reduceToNat, Int.reduceLT, Int.reduceLE, Option.getD, Int.reduceMul, Int.reduceAdd, List.drop, List.take, Nat.reduceBEq, List.isEmpty, Int.reduceEq, Int.reduceNe, Int.reduceNeg, Int.reduceGT, Int.reduceGE, beq_true, beq_false, UInt8.reduceToNat, eqE, eq_self, foldE, maxE, minE, eq_T, eq_F, ndec, odec, adec, sdec, fillA, over, chop, List.replicate, leavesOk, leafOk, cellsEq, cellEq, E_byref, en15, bs23, bs32, hrow, hn, rows64_len, rowsB_len, show ∀ B fr H, execT E B 15 (Code.loop _) fr H = rlM E B 15 (loopAt Tryd.f15 0) [2, 8, 45, 46, 47] [] (matF [(8, 1)] fr H).1 (matB [] (matF [(8, 1)] fr H).1 (matF [(8, 1)] fr H).2) from fun B fr H => rl_introM rfl mt15_13 mb15_13 zf15_13 hd15_13 fr H]
    · have ih := l15 s l hl hl9 (k + 1) hlt (out ++ ([59] ++ numB l[k])) (by simp only [List.length_append, List.length_cons, List.length_nil]; omega)
      rw [show decide (k + 1 = 0) = false by simp, List.append_assoc, List.append_assoc] at ih
      rw [List.drop_eq_getElem_cons hlt, show decide (k = 0) = false by simpa using h0, fmtG]
      have ih' := ih
      simp only [List.cons_append, List.nil_append] at ih'
      rw [← ih']
      clear ih ih'
      have hk0 : 0 < k := by omega
      generalize l[k] = n at *
      by_cases hn : 0 ≤ n
      · have hka := hka hn h9 (out ++ [59]) (out.length + 1) (by simp) (by omega)
        have e1 : out.length + ((numB n).length + 1) = out.length + 1 + (numB n).length := by omega
        simp (disch := first | omega | (simp only [List.length_append, List.length_map, List.length_set, List.length_cons, List.length_nil, List.length_take, List.length_drop, rows64_len, rowsB_len]; omega)) only [va0, va1, va2, va3, va4, va5, va6, va7, va8, va9, va10, va11, va12, va13, va14, vb0, vb1, vb2, vb3, w_i8, w_u8, w_i16, w_u16, w_i32, w_u32, w_i64, w_u64, lt_T, lt_F, le_T, le_F, nlt_T, nlt_F, nle_T, nle_F, List.take_of_length_le, gB, gcW, gcR, posIn, renA, renL, Chunk.ren, Chunk.refs, evOpD, touchD, stepC, isFresh, nFresh, freshOf, mkR, hole, evL, evH, opd, get, putD, ofVal, cellOf, loadE, behind, lenE, idxAddrE, idxE, addPtr, intE, strE, unE, convE, AV.int, AV.bool, AV.str, ivs, take, frameOf, firstRegion, refsA, refsL, one, cellsA, floatOk, apartT, List.map, if_true, if_false, E_P, E_glob0, reduceCtorEq, beq_self_eq_true, decide_true, decide_false, ↓reduceIte, Nat.reduceEqDiff, cond_true, cond_false, or_true, true_or, or_false, false_or, and_true, true_and, and_self, false_and, and_false, not_true, not_false_iff, Nat.reduceAdd, Nat.reduceSub, Nat.reduceMul, Nat.reduceLT, Nat.reduceLeDiff, Int.reduceToNat, Int.reduceLT, Int.reduceLE, Option.getD, Int.reduceMul, Int.reduceAdd, List.drop, List.take, Nat.reduceBEq, List.isEmpty, Int.reduceEq, Int.reduceNe, Int.reduceNeg, Int.reduceGT, Int.reduceGE, beq_true, beq_false, UInt8.reduceToNat, eqE, eq_self, foldE, maxE, minE, eq_T, eq_F, ndec, odec, adec, sdec, fillA, over, chop, List.replicate, leavesOk, leafOk, cellsEq, cellEq, E_byref, en15, bs23, bs32, hrow, hk0, hn, hka, b59, rows64_len, rowsB_len, List.append_assoc, show ∀ B fr H, execT E B 15 (Code.loop _) fr H = rlM E B 15 (loopAt Tryd.f15 0) [2, 8, 45, 46, 47] [] (matF [(8, 1)] fr H).1 (matB [] (matF [(8, 1)] fr H).1 (matF [(8, 1)] fr H).2) from fun B fr H => rl_introM rfl mt15_13 mb15_13 zf15_13 hd15_13 fr H]
        rw [e1]
      · rw [hn0 hn]
        simp (disch := first | omega | (simp only [List.length_append, List.length_map, List.length_set, List.length_cons, List.length_nil, List.length_take, List.length_drop, rows64_len, rowsB_len]; omega)) only [va0, va1, va2, va3, va4, va5, va6, va7, va8, va9, va10, va11, va12, va13, va14, vb0, vb1, vb2, vb3, w_i8, w_u8, w_i16, w_u16, w_i32, w_u32, w_i64, w_u64, lt_T, lt_F, le_T, le_F, nlt_T, nlt_F, nle_T, nle_F, List.take_of_length_le, gB, gcW, gcR, posIn, renA, renL, Chunk.ren, Chunk.refs, evOpD, touchD, stepC, isFresh, nFresh, freshOf, mkR, hole, evL, evH, opd, get, putD, ofVal, cellOf, loadE, behind, lenE, idxAddrE, idxE, addPtr, intE, strE, unE, convE, AV.int, AV.bool, AV.str, ivs, take, frameOf, firstRegion, refsA, refsL, one, cellsA, floatOk, apartT, List.map, if_true, if_false, E_P, E_glob0, reduceCtorEq, beq_self_eq_true, decide_true, decide_false, ↓reduceIte, Nat.reduceEqDiff, cond_true, cond_false, or_true, true_or, or_false, false_or, and_true, true_and, and_self, false_and, and_false, not_true, not_false_iff, Nat.reduceAdd, Nat.reduceSub, Nat.reduceMul, Nat.reduceLT, Nat.reduceLeDiff, Int.reduceToNat, Int.reduceLT, Int.reduceLE, Option.getD, Int.reduceMul, Int.reduceAdd, List.drop, List.take, Nat.reduceBEq, List.isEmpty, Int.reduceEq, Int.reduceNe, Int.reduceNeg, Int.reduceGT, Int.reduceGE, beq_true, beq_false, UInt8.reduceToNat, eqE, eq_self, foldE, maxE, minE, eq_T, eq_F, ndec, odec, adec, sdec, fillA, over, chop, List.replicate, leavesOk, leafOk, cellsEq, cellEq, E_byref, en15, bs23, bs32, hrow, hk0, hn, b59, rows64_len, rowsB_len, List.append_assoc, show ∀ B fr H, execT E B 15 (Code.loop _) fr H = rlM E B 15 (loopAt Tryd.f15 0) [2, 8, 45, 46, 47] [] (matF [(8, 1)] fr H).1 (matB [] (matF [(8, 1)] fr H).1 (matF [(8, 1)] fr H).2) from fun B fr H => rl_introM rfl mt15_13 mb15_13 zf15_13 hd15_13 fr H]
  · obtain rfl : k = l.length := by omega
    rw [List.drop_length]
    simp only [fmtG, List.append_nil]
    simp (disch := first | omega | (simp only [List.length_append, List.length_map, List.length_set, List.length_cons, List.length_nil, List.length_take, List.length_drop]; omega)) only [va0, va1, va2, va3, va4, va5, va6, va7, va8, va9, va10, va11, va12, va13, va14, vb0, vb1, vb2, vb3, w_i8, w_u8, w_i16, w_u16, w_i32, w_u32, w_i64, w_u64, lt_T, lt_F, le_T, le_F, nlt_T, nlt_F, nle_T, nle_F, List.take_of_length_le, gB, gcW, gcR, posIn, renA, renL, Chunk.ren, Chunk.refs, evOpD, touchD, stepC, isFresh, nFresh, freshOf, mkR, hole, evL, evH, opd, get, putD, ofVal, cellOf, loadE, behind, lenE, idxAddrE, idxE, addPtr, intE, strE, unE, convE, AV.int, AV.bool, AV.str, ivs, take, frameOf, firstRegion, refsA, refsL, one, cellsA, floatOk, apartT, List.map, if_true, if_false, E_P, E_glob0, reduceCtorEq, beq_self_eq_true, decide_true, decide_false, ↓reduceIte, Nat.reduceEqDiff, cond_true, cond_false, or_true, true_or, or_false, false_or, and_true, true_and, and_self, false_and, and_false, not_true, not_false_iff, Nat.reduceAdd, Nat.reduceSub, Nat.reduceMul, Nat.reduceLT, Nat.reduceLeDiff, Int.reduceToNat, Int.reduceLT, Int.reduceLE, Option.getD, Int.reduceMul, Int.reduceAdd, List.drop, List.take, Nat.reduceBEq, List.isEmpty, Int.reduceEq, Int.reduceNe, Int.reduceNeg, Int.reduceGT, Int.reduceGE, beq_true, beq_false, UInt8.reduceToNat, eqE, eq_self, foldE, maxE, minE, eq_T, eq_F, ndec, odec, adec, sdec, fillA, over, chop, List.replicate, leavesOk, leafOk, cellsEq, cellEq, E_byref, en15, bs23, bs32]
termination_by l.length - k
def fmtS (p : Int) (l : List Int) (s : List UInt8) : List UInt8 × Int :=
  if (p ≠ 0 ∧ privB p = false) ∨ trailB s = false ∨ l = [-1] then ([], 1) else if l.any lowB then ([], 1) else if limB l s = false then ([], 5) else
    ((if p = 0 then [] else [UInt8.ofNat p.toNat]) ++ fmtG true l ++ s, 0)
def fmtA (r : List UInt8 × Int) : AV := .tup [.i (.str r.1), .i (.v (.int .i64 r.2))]
theorem fmtG_len (l : List Int) (b : Bool) (h9 : ∀ n ∈ l, n ≤ 9999) : (fmtG b l).length ≤ 21 * l.length := by
  induction l generalizing b with
  | nil => cases b <;> simp [fmtG]
  | cons n l ih =>
    have := ih false fun n hn => h9 n (List.mem_cons_of_mem _ hn)
    have h20 := numB_len n (by have := h9 n (List.mem_cons_self ..); omega)
    cases b <;> simp only [fmtG, List.length_cons, List.length_append] <;> omega
theorem one_row {l : List Int} : (rows64 l).length = l.length := rows64_len l
end Go.VI
