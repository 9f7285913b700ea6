import Derived.Test.YtdhcingoplkkgaaDoorZPL4
namespace Go.VI
open Go.Proofs
set_option maxRecDepth 100000
set_option linter.unusedSimpArgs false
set_option linter.unusedVariables false
set_option maxHeartbeats 4000000
def sameL (ls : List Ln) (f t : Nat) : Prop := (atL ls f).em = false ∧ (atL ls t).em = false ∧ (atL ls t).i = (atL ls f).i
instance (ls : List Ln) (f t : Nat) : Decidable (sameL ls f t) := by unfold sameL; infer_instance
def grow (ls : List Ln) (f : Nat) : Nat → Nat → Nat
  | 0, t => t
  | m + 1, t => if sameL ls f t then grow ls f m (t + 1) else t
theorem grow_b (ls : List Ln) (f : Nat) : ∀ m t, t ≤ grow ls f m t ∧ grow ls f m t ≤ t + m
  | 0, t => ⟨Nat.le_refl _, Nat.le_refl _⟩
  | m + 1, t => by
    rw [grow]
    split
    · have := grow_b ls f m (t + 1); omega
    · omega
def nextT (ls : List Ln) (f : Nat) : Nat := grow ls f (ls.length - (f + 1)) (f + 1)
def addR (ls : List Ln) (f : Nat) (out : List Rg) : List Rg := if (atL ls f).em = false ∧ hitR ls f (nextT ls f) then out ++ [regR ls f (nextT ls f)] else out
def rngS (ls : List Ln) : Nat → Nat → List Rg → List Rg
  | 0, _, out => out
  | m + 1, f, out => if f < ls.length then rngS ls m (nextT ls f) (addR ls f out) else out
theorem rl_in0 (ls : List Ln) (hls : ls.length ≤ 100000) (f : Nat) (hf : f < ls.length) : ∀ (m t : Nat), t + m = ls.length →
    rl E 3 18 (loopAt Tryd.f18 1) [(0, .i (.sl 5 (rowsLn ls) false)), (1, .clo (.func 19) [] [.ptr 0 0 0 0, .ptr 2 0 0 0]), (4, .i (.v (.int .i64 (f)))), (5, .i (.v (.int .i64 (t))))] [.box [.ref 1 0 0 ls.length], .fz 5 0 (rowsLn ls) false, .box [.i (.sl 0 [] true)]] = some (.exit 2, [(0, .i (.sl 5 (rowsLn ls) false)), (1, .clo (.func 19) [] [.ptr 0 0 0 0, .ptr 2 0 0 0]), (4, .i (.v (.int .i64 (f)))), (5, .i (.v (.int .i64 ((grow ls f m t : Nat))))), (44, .i (.v (.bool false)))], [.box [.ref 1 0 0 ls.length], .fz 5 0 (rowsLn ls) false, .box [.i (.sl 0 [] true)]]) := by
  intro m
  induction m with
  | zero =>
    intro t ht
    obtain rfl : t = ls.length := by omega
    rw [grow]
    rw [rl_step (fn := Tryd.f18) (k := 1) rfl]
    simp (disch := first | omega | (simp only [List.length_append, List.length_map, List.length_set, List.length_cons, List.length_nil, List.length_take, List.length_drop, rowsLn_len, rowsR_len]; omega)) only [va0, va1, va2, va3, va4, va5, va6, va7, va8, va9, va10, va11, va12, va13, va14, va15, vb0, vb1, vb2, vb3, w_i8, w_u8, w_i16, w_u16, w_i32, w_u32, w_i64, w_u64, lt_T, lt_F, le_T, le_F, nlt_T, nlt_F, nle_T, nle_F, List.take_of_length_le, gB, gcW, gcR, posIn, renA, renL, Chunk.ren, Chunk.refs, evOpD, touchD, stepC, isFresh, nFresh, freshOf, mkR, hole, evL, evH, opd, get, putD, ofVal, cellOf, loadE, behind, lenE, idxAddrE, idxE, lookE, lookM, addPtr, intE, strE, unE, convE, AV.int, AV.bool, AV.str, ivs, take, frameOf, firstRegion, refsA, refsL, one, cellsA, floatOk, apartT, List.map, if_true, if_false, E_P, E_glob, reduceCtorEq, beq_self_eq_true, decide_true, decide_false, ↓reduceIte, Nat.reduceEqDiff, cond_true, cond_false, or_true, true_or, or_false, false_or, and_true, true_and, and_self, false_and, and_false, not_true, not_false_iff, Nat.reduceAdd, Nat.reduceSub, Nat.reduceMul, Nat.reduceLT, Nat.reduceLeDiff, Int.reduceToNat, Int.reduceLT, Int.reduceLE, Option.getD, Int.reduceMul, Int.reduceAdd, List.drop, List.take, Nat.reduceBEq, List.isEmpty, Int.reduceEq, Int.reduceNe, Int.reduceNeg, Int.reduceGT, Int.reduceGE, beq_true, beq_false, UInt8.reduceToNat, eqE, eq_self, foldE, maxE, minE, eq_T, eq_F, ndec, odec, adec, sdec, fillA, over, chop, List.replicate, leavesOk, leafOk, cellsEq, cellEq, E_byref, en18, bs47, rowsLn_len, rowsR_len, show ∀ B fr H, execT E B 18 (Code.loop _) fr H = rlG E B 18 (loopAt Tryd.f18 1) (gcn B (norm [0, 1, 4, 5] fr) H) from fun B fr H => rl_intro rfl mt18_3 mb18_3 zf18_3 hd18_3 fr H]
  | succ m ih =>
    intro t ht
    have hlt : t < ls.length := by omega
    have hrf := rowsLn_D hf
    have hrt := rowsLn_D hlt
    rw [grow]
    have e := ih (t + 1) (by omega)
    by_cases h1 : (atL ls f).em = true
    · rw [if_neg (show ¬ sameL ls f t from fun h => by obtain ⟨g1, g2, g3⟩ := h; rw [h1] at g1; cases g1)]
      rw [h1] at hrf
      clear e ih
      generalize atL ls f = x at *
      rw [rl_step (fn := Tryd.f18) (k := 1) rfl]
      simp (disch := first | omega | (simp only [List.length_append, List.length_map, List.length_set, List.length_cons, List.length_nil, List.length_take, List.length_drop, rowsLn_len, rowsR_len]; omega)) only [va0, va1, va2, va3, va4, va5, va6, va7, va8, va9, va10, va11, va12, va13, va14, va15, vb0, vb1, vb2, vb3, w_i8, w_u8, w_i16, w_u16, w_i32, w_u32, w_i64, w_u64, lt_T, lt_F, le_T, le_F, nlt_T, nlt_F, nle_T, nle_F, List.take_of_length_le, gB, gcW, gcR, posIn, renA, renL, Chunk.ren, Chunk.refs, evOpD, touchD, stepC, isFresh, nFresh, freshOf, mkR, hole, evL, evH, opd, get, putD, ofVal, cellOf, loadE, behind, lenE, idxAddrE, idxE, lookE, lookM, addPtr, intE, strE, unE, convE, AV.int, AV.bool, AV.str, ivs, take, frameOf, firstRegion, refsA, refsL, one, cellsA, floatOk, apartT, List.map, if_true, if_false, E_P, E_glob, reduceCtorEq, beq_self_eq_true, decide_true, decide_false, ↓reduceIte, Nat.reduceEqDiff, cond_true, cond_false, or_true, true_or, or_false, false_or, and_true, true_and, and_self, false_and, and_false, not_true, not_false_iff, Nat.reduceAdd, Nat.reduceSub, Nat.reduceMul, Nat.reduceLT, Nat.reduceLeDiff, Int.reduceToNat, Int.reduceLT, Int.reduceLE, Option.getD, Int.reduceMul, Int.reduceAdd, List.drop, List.take, Nat.reduceBEq, List.isEmpty, Int.reduceEq, Int.reduceNe, Int.reduceNeg, Int.reduceGT, Int.reduceGE, beq_true, beq_false, UInt8.reduceToNat, eqE, eq_self, foldE, maxE, minE, eq_T, eq_F, ndec, odec, adec, sdec, fillA, over, chop, List.replicate, leavesOk, leafOk, cellsEq, cellEq, E_byref, en18, bs47, hrf, hrt, rowsLn_len, rowsR_len, show ∀ B fr H, execT E B 18 (Code.loop _) fr H = rlG E B 18 (loopAt Tryd.f18 1) (gcn B (norm [0, 1, 4, 5] fr) H) from fun B fr H => rl_intro rfl mt18_3 mb18_3 zf18_3 hd18_3 fr H]
    · have h1 : (atL ls f).em = false := by simpa using h1
      by_cases h2 : (atL ls t).em = true
      · rw [if_neg (show ¬ sameL ls f t from fun h => by obtain ⟨g1, g2, g3⟩ := h; rw [h2] at g2; cases g2)]
        rw [h1] at hrf
        rw [h2] at hrt
        clear e ih
        generalize atL ls f = x at *
        generalize atL ls t = y at *
        rw [rl_step (fn := Tryd.f18) (k := 1) rfl]
        simp (disch := first | omega | (simp only [List.length_append, List.length_map, List.length_set, List.length_cons, List.length_nil, List.length_take, List.length_drop, rowsLn_len, rowsR_len]; omega)) only [va0, va1, va2, va3, va4, va5, va6, va7, va8, va9, va10, va11, va12, va13, va14, va15, vb0, vb1, vb2, vb3, w_i8, w_u8, w_i16, w_u16, w_i32, w_u32, w_i64, w_u64, lt_T, lt_F, le_T, le_F, nlt_T, nlt_F, nle_T, nle_F, List.take_of_length_le, gB, gcW, gcR, posIn, renA, renL, Chunk.ren, Chunk.refs, evOpD, touchD, stepC, isFresh, nFresh, freshOf, mkR, hole, evL, evH, opd, get, putD, ofVal, cellOf, loadE, behind, lenE, idxAddrE, idxE, lookE, lookM, addPtr, intE, strE, unE, convE, AV.int, AV.bool, AV.str, ivs, take, frameOf, firstRegion, refsA, refsL, one, cellsA, floatOk, apartT, List.map, if_true, if_false, E_P, E_glob, reduceCtorEq, beq_self_eq_true, decide_true, decide_false, ↓reduceIte, Nat.reduceEqDiff, cond_true, cond_false, or_true, true_or, or_false, false_or, and_true, true_and, and_self, false_and, and_false, not_true, not_false_iff, Nat.reduceAdd, Nat.reduceSub, Nat.reduceMul, Nat.reduceLT, Nat.reduceLeDiff, Int.reduceToNat, Int.reduceLT, Int.reduceLE, Option.getD, Int.reduceMul, Int.reduceAdd, List.drop, List.take, Nat.reduceBEq, List.isEmpty, Int.reduceEq, Int.reduceNe, Int.reduceNeg, Int.reduceGT, Int.reduceGE, beq_true, beq_false, UInt8.reduceToNat, eqE, eq_self, foldE, maxE, minE, eq_T, eq_F, ndec, odec, adec, sdec, fillA, over, chop, List.replicate, leavesOk, leafOk, cellsEq, cellEq, E_byref, en18, bs47, hrf, hrt, rowsLn_len, rowsR_len, show ∀ B fr H, execT E B 18 (Code.loop _) fr H = rlG E B 18 (loopAt Tryd.f18 1) (gcn B (norm [0, 1, 4, 5] fr) H) from fun B fr H => rl_intro rfl mt18_3 mb18_3 zf18_3 hd18_3 fr H]
      · have h2 : (atL ls t).em = false := by simpa using h2
        by_cases h3 : (atL ls t).i = (atL ls f).i
        · rw [if_pos (show sameL ls f t from ⟨h1, h2, h3⟩)]
          refine Eq.trans ?_ e
          rw [h1] at hrf
          rw [h2, h3] at hrt
          clear e ih
          generalize atL ls f = x at *
          generalize atL ls t = y at *
          rw [rl_step (fn := Tryd.f18) (k := 1) rfl]
          simp (disch := first | omega | (simp only [List.length_append, List.length_map, List.length_set, List.length_cons, List.length_nil, List.length_take, List.length_drop, rowsLn_len, rowsR_len]; omega)) only [va0, va1, va2, va3, va4, va5, va6, va7, va8, va9, va10, va11, va12, va13, va14, va15, vb0, vb1, vb2, vb3, w_i8, w_u8, w_i16, w_u16, w_i32, w_u32, w_i64, w_u64, lt_T, lt_F, le_T, le_F, nlt_T, nlt_F, nle_T, nle_F, List.take_of_length_le, gB, gcW, gcR, posIn, renA, renL, Chunk.ren, Chunk.refs, evOpD, touchD, stepC, isFresh, nFresh, freshOf, mkR, hole, evL, evH, opd, get, putD, ofVal, cellOf, loadE, behind, lenE, idxAddrE, idxE, lookE, lookM, addPtr, intE, strE, unE, convE, AV.int, AV.bool, AV.str, ivs, take, frameOf, firstRegion, refsA, refsL, one, cellsA, floatOk, apartT, List.map, if_true, if_false, E_P, E_glob, reduceCtorEq, beq_self_eq_true, decide_true, decide_false, ↓reduceIte, Nat.reduceEqDiff, cond_true, cond_false, or_true, true_or, or_false, false_or, and_true, true_and, and_self, false_and, and_false, not_true, not_false_iff, Nat.reduceAdd, Nat.reduceSub, Nat.reduceMul, Nat.reduceLT, Nat.reduceLeDiff, Int.reduceToNat, Int.reduceLT, Int.reduceLE, Option.getD, Int.reduceMul, Int.reduceAdd, List.drop, List.take, Nat.reduceBEq, List.isEmpty, Int.reduceEq, Int.reduceNe, Int.reduceNeg, Int.reduceGT, Int.reduceGE, beq_true, beq_false, UInt8.reduceToNat, eqE, eq_self, foldE, maxE, minE, eq_T, eq_F, ndec, odec, adec, sdec, fillA, over, chop, List.replicate, leavesOk, leafOk, cellsEq, cellEq, E_byref, en18, bs47, hrf, hrt, rowsLn_len, rowsR_len, show ∀ B fr H, execT E B 18 (Code.loop _) fr H = rlG E B 18 (loopAt Tryd.f18 1) (gcn B (norm [0, 1, 4, 5] fr) H) from fun B fr H => rl_intro rfl mt18_3 mb18_3 zf18_3 hd18_3 fr H]
        · rw [if_neg (show ¬ sameL ls f t from fun h => by obtain ⟨g1, g2, g3⟩ := h; exact h3 g3)]
          rw [h1] at hrf
          rw [h2] at hrt
          have h3' : ¬ (((atL ls t).i : Nat) : Int) = (((atL ls f).i : Nat) : Int) := fun h => h3 (by omega)
          clear e ih h3
          generalize atL ls f = x at *
          generalize atL ls t = y at *
          rw [rl_step (fn := Tryd.f18) (k := 1) rfl]
          simp (disch := first | omega | (simp only [List.length_append, List.length_map, List.length_set, List.length_cons, List.length_nil, List.length_take, List.length_drop, rowsLn_len, rowsR_len]; omega)) only [va0, va1, va2, va3, va4, va5, va6, va7, va8, va9, va10, va11, va12, va13, va14, va15, vb0, vb1, vb2, vb3, w_i8, w_u8, w_i16, w_u16, w_i32, w_u32, w_i64, w_u64, lt_T, lt_F, le_T, le_F, nlt_T, nlt_F, nle_T, nle_F, List.take_of_length_le, gB, gcW, gcR, posIn, renA, renL, Chunk.ren, Chunk.refs, evOpD, touchD, stepC, isFresh, nFresh, freshOf, mkR, hole, evL, evH, opd, get, putD, ofVal, cellOf, loadE, behind, lenE, idxAddrE, idxE, lookE, lookM, addPtr, intE, strE, unE, convE, AV.int, AV.bool, AV.str, ivs, take, frameOf, firstRegion, refsA, refsL, one, cellsA, floatOk, apartT, List.map, if_true, if_false, E_P, E_glob, reduceCtorEq, beq_self_eq_true, decide_true, decide_false, ↓reduceIte, Nat.reduceEqDiff, cond_true, cond_false, or_true, true_or, or_false, false_or, and_true, true_and, and_self, false_and, and_false, not_true, not_false_iff, Nat.reduceAdd, Nat.reduceSub, Nat.reduceMul, Nat.reduceLT, Nat.reduceLeDiff, Int.reduceToNat, Int.reduceLT, Int.reduceLE, Option.getD, Int.reduceMul, Int.reduceAdd, List.drop, List.take, Nat.reduceBEq, List.isEmpty, Int.reduceEq, Int.reduceNe, Int.reduceNeg, Int.reduceGT, Int.reduceGE, beq_true, beq_false, UInt8.reduceToNat, eqE, eq_self, foldE, maxE, minE, eq_T, eq_F, ndec, odec, adec, sdec, fillA, over, chop, List.replicate, leavesOk, leafOk, cellsEq, cellEq, E_byref, en18, bs47, hrf, hrt, h3', rowsLn_len, rowsR_len, show ∀ B fr H, execT E B 18 (Code.loop _) fr H = rlG E B 18 (loopAt Tryd.f18 1) (gcn B (norm [0, 1, 4, 5] fr) H) from fun B fr H => rl_intro rfl mt18_3 mb18_3 zf18_3 hd18_3 fr H]
theorem rl_in1 (ls : List Ln) (hls : ls.length ≤ 100000) (out : List Rg) (ho : out.length ≤ 200000) (f : Nat) (hf : f < ls.length) : ∀ (m t : Nat), t + m = ls.length →
    rl E 3 18 (loopAt Tryd.f18 1) [(0, .i (.sl 5 (rowsLn ls) false)), (1, .clo (.func 19) [] [.ptr 0 0 0 0, .ptr 2 0 0 0]), (4, .i (.v (.int .i64 (f)))), (5, .i (.v (.int .i64 (t))))] [.box [.ref 1 0 0 ls.length], .fz 5 0 (rowsLn ls) false, .box [.ref 3 0 0 out.length], .sl 8 0 (rowsR out) false] = some (.exit 2, [(0, .i (.sl 5 (rowsLn ls) false)), (1, .clo (.func 19) [] [.ptr 0 0 0 0, .ptr 2 0 0 0]), (4, .i (.v (.int .i64 (f)))), (5, .i (.v (.int .i64 ((grow ls f m t : Nat))))), (44, .i (.v (.bool false)))], [.box [.ref 1 0 0 ls.length], .fz 5 0 (rowsLn ls) false, .box [.ref 3 0 0 out.length], .sl 8 0 (rowsR out) false]) := by
  intro m
  induction m with
  | zero =>
    intro t ht
    obtain rfl : t = ls.length := by omega
    rw [grow]
    rw [rl_step (fn := Tryd.f18) (k := 1) rfl]
    simp (disch := first | omega | (simp only [List.length_append, List.length_map, List.length_set, List.length_cons, List.length_nil, List.length_take, List.length_drop, rowsLn_len, rowsR_len]; omega)) only [va0, va1, va2, va3, va4, va5, va6, va7, va8, va9, va10, va11, va12, va13, va14, va15, vb0, vb1, vb2, vb3, w_i8, w_u8, w_i16, w_u16, w_i32, w_u32, w_i64, w_u64, lt_T, lt_F, le_T, le_F, nlt_T, nlt_F, nle_T, nle_F, List.take_of_length_le, gB, gcW, gcR, posIn, renA, renL, Chunk.ren, Chunk.refs, evOpD, touchD, stepC, isFresh, nFresh, freshOf, mkR, hole, evL, evH, opd, get, putD, ofVal, cellOf, loadE, behind, lenE, idxAddrE, idxE, lookE, lookM, addPtr, intE, strE, unE, convE, AV.int, AV.bool, AV.str, ivs, take, frameOf, firstRegion, refsA, refsL, one, cellsA, floatOk, apartT, List.map, if_true, if_false, E_P, E_glob, reduceCtorEq, beq_self_eq_true, decide_true, decide_false, ↓reduceIte, Nat.reduceEqDiff, cond_true, cond_false, or_true, true_or, or_false, false_or, and_true, true_and, and_self, false_and, and_false, not_true, not_false_iff, Nat.reduceAdd, Nat.reduceSub, Nat.reduceMul, Nat.reduceLT, Nat.reduceLeDiff, Int.reduceToNat, Int.reduceLT, Int.reduceLE, Option.getD, Int.reduceMul, Int.reduceAdd, List.drop, List.take, Nat.reduceBEq, List.isEmpty, Int.reduceEq, Int.reduceNe, Int.reduceNeg, Int.reduceGT, Int.reduceGE, beq_true, beq_false, UInt8.reduceToNat, eqE, eq_self, foldE, maxE, minE, eq_T, eq_F, ndec, odec, adec, sdec, fillA, over, chop, List.replicate, leavesOk, leafOk, cellsEq, cellEq, E_byref, en18, bs47, rowsLn_len, rowsR_len, show ∀ B fr H, execT E B 18 (Code.loop _) fr H = rlG E B 18 (loopAt Tryd.f18 1) (gcn B (norm [0, 1, 4, 5] fr) H) from fun B fr H => rl_intro rfl mt18_3 mb18_3 zf18_3 hd18_3 fr H]
  | succ m ih =>
    intro t ht
    have hlt : t < ls.length := by omega
    have hrf := rowsLn_D hf
    have hrt := rowsLn_D hlt
    rw [grow]
    have e := ih (t + 1) (by omega)
    by_cases h1 : (atL ls f).em = true
    · rw [if_neg (show ¬ sameL ls f t from fun h => by obtain ⟨g1, g2, g3⟩ := h; rw [h1] at g1; cases g1)]
      rw [h1] at hrf
      clear e ih
      generalize atL ls f = x at *
      rw [rl_step (fn := Tryd.f18) (k := 1) rfl]
      simp (disch := first | omega | (simp only [List.length_append, List.length_map, List.length_set, List.length_cons, List.length_nil, List.length_take, List.length_drop, rowsLn_len, rowsR_len]; omega)) only [va0, va1, va2, va3, va4, va5, va6, va7, va8, va9, va10, va11, va12, va13, va14, va15, vb0, vb1, vb2, vb3, w_i8, w_u8, w_i16, w_u16, w_i32, w_u32, w_i64, w_u64, lt_T, lt_F, le_T, le_F, nlt_T, nlt_F, nle_T, nle_F, List.take_of_length_le, gB, gcW, gcR, posIn, renA, renL, Chunk.ren, Chunk.refs, evOpD, touchD, stepC, isFresh, nFresh, freshOf, mkR, hole, evL, evH, opd, get, putD, ofVal, cellOf, loadE, behind, lenE, idxAddrE, idxE, lookE, lookM, addPtr, intE, strE, unE, convE, AV.int, AV.bool, AV.str, ivs, take, frameOf, firstRegion, refsA, refsL, one, cellsA, floatOk, apartT, List.map, if_true, if_false, E_P, E_glob, reduceCtorEq, beq_self_eq_true, decide_true, decide_false, ↓reduceIte, Nat.reduceEqDiff, cond_true, cond_false, or_true, true_or, or_false, false_or, and_true, true_and, and_self, false_and, and_false, not_true, not_false_iff, Nat.reduceAdd, Nat.reduceSub, Nat.reduceMul, Nat.reduceLT, Nat.reduceLeDiff, Int.reduceToNat, Int.reduceLT, Int.reduceLE, Option.getD, Int.reduceMul, Int.reduceAdd, List.drop, List.take, Nat.reduceBEq, List.isEmpty, Int.reduceEq, Int.reduceNe, Int.reduceNeg, Int.reduceGT, Int.reduceGE, beq_true, beq_false, UInt8.reduceToNat, eqE, eq_self, foldE, maxE, minE, eq_T, eq_F, ndec, odec, adec, sdec, fillA, over, chop, List.replicate, leavesOk, leafOk, cellsEq, cellEq, E_byref, en18, bs47, hrf, hrt, rowsLn_len, rowsR_len, show ∀ B fr H, execT E B 18 (Code.loop _) fr H = rlG E B 18 (loopAt Tryd.f18 1) (gcn B (norm [0, 1, 4, 5] fr) H) from fun B fr H => rl_intro rfl mt18_3 mb18_3 zf18_3 hd18_3 fr H]
    · have h1 : (atL ls f).em = false := by simpa using h1
      by_cases h2 : (atL ls t).em = true
      · rw [if_neg (show ¬ sameL ls f t from fun h => by obtain ⟨g1, g2, g3⟩ := h; rw [h2] at g2; cases g2)]
        rw [h1] at hrf
        rw [h2] at hrt
        clear e ih
        generalize atL ls f = x at *
        generalize atL ls t = y at *
        rw [rl_step (fn := Tryd.f18) (k := 1) rfl]
        simp (disch := first | omega | (simp only [List.length_append, List.length_map, List.length_set, List.length_cons, List.length_nil, List.length_take, List.length_drop, rowsLn_len, rowsR_len]; omega)) only [va0, va1, va2, va3, va4, va5, va6, va7, va8, va9, va10, va11, va12, va13, va14, va15, vb0, vb1, vb2, vb3, w_i8, w_u8, w_i16, w_u16, w_i32, w_u32, w_i64, w_u64, lt_T, lt_F, le_T, le_F, nlt_T, nlt_F, nle_T, nle_F, List.take_of_length_le, gB, gcW, gcR, posIn, renA, renL, Chunk.ren, Chunk.refs, evOpD, touchD, stepC, isFresh, nFresh, freshOf, mkR, hole, evL, evH, opd, get, putD, ofVal, cellOf, loadE, behind, lenE, idxAddrE, idxE, lookE, lookM, addPtr, intE, strE, unE, convE, AV.int, AV.bool, AV.str, ivs, take, frameOf, firstRegion, refsA, refsL, one, cellsA, floatOk, apartT, List.map, if_true, if_false, E_P, E_glob, reduceCtorEq, beq_self_eq_true, decide_true, decide_false, ↓reduceIte, Nat.reduceEqDiff, cond_true, cond_false, or_true, true_or, or_false, false_or, and_true, true_and, and_self, false_and, and_false, not_true, not_false_iff, Nat.reduceAdd, Nat.reduceSub, Nat.reduceMul, Nat.reduceLT, Nat.reduceLeDiff, Int.reduceToNat, Int.reduceLT, Int.reduceLE, Option.getD, Int.reduceMul, Int.reduceAdd, List.drop, List.take, Nat.reduceBEq, List.isEmpty, Int.reduceEq, Int.reduceNe, Int.reduceNeg, Int.reduceGT, Int.reduceGE, beq_true, beq_false, UInt8.reduceToNat, eqE, eq_self, foldE, maxE, minE, eq_T, eq_F, ndec, odec, adec, sdec, fillA, over, chop, List.replicate, leavesOk, leafOk, cellsEq, cellEq, E_byref, en18, bs47, hrf, hrt, rowsLn_len, rowsR_len, show ∀ B fr H, execT E B 18 (Code.loop _) fr H = rlG E B 18 (loopAt Tryd.f18 1) (gcn B (norm [0, 1, 4, 5] fr) H) from fun B fr H => rl_intro rfl mt18_3 mb18_3 zf18_3 hd18_3 fr H]
      · have h2 : (atL ls t).em = false := by simpa using h2
        by_cases h3 : (atL ls t).i = (atL ls f).i
        · rw [if_pos (show sameL ls f t from ⟨h1, h2, h3⟩)]
          refine Eq.trans ?_ e
          rw [h1] at hrf
          rw [h2, h3] at hrt
          clear e ih
          generalize atL ls f = x at *
          generalize atL ls t = y at *
          rw [rl_step (fn := Tryd.f18) (k := 1) rfl]
          simp (disch := first | omega | (simp only [List.length_append, List.length_map, List.length_set, List.length_cons, List.length_nil, List.length_take, List.length_drop, rowsLn_len, rowsR_len]; omega)) only [va0, va1, va2, va3, va4, va5, va6, va7, va8, va9, va10, va11, va12, va13, va14, va15, vb0, vb1, vb2, vb3, w_i8, w_u8, w_i16, w_u16, w_i32, w_u32, w_i64, w_u64, lt_T, lt_F, le_T, le_F, nlt_T, nlt_F, nle_T, nle_F, List.take_of_length_le, gB, gcW, gcR, posIn, renA, renL, Chunk.ren, Chunk.refs, evOpD, touchD, stepC, isFresh, nFresh, freshOf, mkR, hole, evL, evH, opd, get, putD, ofVal, cellOf, loadE, behind, lenE, idxAddrE, idxE, lookE, lookM, addPtr, intE, strE, unE, convE, AV.int, AV.bool, AV.str, ivs, take, frameOf, firstRegion, refsA, refsL, one, cellsA, floatOk, apartT, List.map, if_true, if_false, E_P, E_glob, reduceCtorEq, beq_self_eq_true, decide_true, decide_false, ↓reduceIte, Nat.reduceEqDiff, cond_true, cond_false, or_true, true_or, or_false, false_or, and_true, true_and, and_self, false_and, and_false, not_true, not_false_iff, Nat.reduceAdd, Nat.reduceSub, Nat.reduceMul, Nat.reduceLT, Nat.reduceLeDiff, Int.reduceToNat, Int.reduceLT, Int.reduceLE, Option.getD, Int.reduceMul, Int.reduceAdd, List.drop, List.take, Nat.reduceBEq, List.isEmpty, Int.reduceEq, Int.reduceNe, Int.reduceNeg, Int.reduceGT, Int.reduceGE, beq_true, beq_false, UInt8.reduceToNat, eqE, eq_self, foldE, maxE, minE, eq_T, eq_F, ndec, odec, adec, sdec, fillA, over, chop, List.replicate, leavesOk, leafOk, cellsEq, cellEq, E_byref, en18, bs47, hrf, hrt, rowsLn_len, rowsR_len, show ∀ B fr H, execT E B 18 (Code.loop _) fr H = rlG E B 18 (loopAt Tryd.f18 1) (gcn B (norm [0, 1, 4, 5] fr) H) from fun B fr H => rl_intro rfl mt18_3 mb18_3 zf18_3 hd18_3 fr H]
        · rw [if_neg (show ¬ sameL ls f t from fun h => by obtain ⟨g1, g2, g3⟩ := h; exact h3 g3)]
          rw [h1] at hrf
          rw [h2] at hrt
          have h3' : ¬ (((atL ls t).i : Nat) : Int) = (((atL ls f).i : Nat) : Int) := fun h => h3 (by omega)
          clear e ih h3
          generalize atL ls f = x at *
          generalize atL ls t = y at *
          rw [rl_step (fn := Tryd.f18) (k := 1) rfl]
          simp (disch := first | omega | (simp only [List.length_append, List.length_map, List.length_set, List.length_cons, List.length_nil, List.length_take, List.length_drop, rowsLn_len, rowsR_len]; omega)) only [va0, va1, va2, va3, va4, va5, va6, va7, va8, va9, va10, va11, va12, va13, va14, va15, vb0, vb1, vb2, vb3, w_i8, w_u8, w_i16, w_u16, w_i32, w_u32, w_i64, w_u64, lt_T, lt_F, le_T, le_F, nlt_T, nlt_F, nle_T, nle_F, List.take_of_length_le, gB, gcW, gcR, posIn, renA, renL, Chunk.ren, Chunk.refs, evOpD, touchD, stepC, isFresh, nFresh, freshOf, mkR, hole, evL, evH, opd, get, putD, ofVal, cellOf, loadE, behind, lenE, idxAddrE, idxE, lookE, lookM, addPtr, intE, strE, unE, convE, AV.int, AV.bool, AV.str, ivs, take, frameOf, firstRegion, refsA, refsL, one, cellsA, floatOk, apartT, List.map, if_true, if_false, E_P, E_glob, reduceCtorEq, beq_self_eq_true, decide_true, decide_false, ↓reduceIte, Nat.reduceEqDiff, cond_true, cond_false, or_true, true_or, or_false, false_or, and_true, true_and, and_self, false_and, and_false, not_true, not_false_iff, Nat.reduceAdd, Nat.reduceSub, Nat.reduceMul, Nat.reduceLT, Nat.reduceLeDiff, Int.reduceToNat, Int.reduceLT, Int.reduceLE, Option.getD, Int.reduceMul, Int.reduceAdd, List.drop, List.take, Nat.reduceBEq, List.isEmpty, Int.reduceEq, Int.reduceNe, Int.reduceNeg, Int.reduceGT, Int.reduceGE, beq_true, beq_false, UInt8.reduceToNat, eqE, eq_self, foldE, maxE, minE, eq_T, eq_F, ndec, odec, adec, sdec, fillA, over, chop, List.replicate, leavesOk, leafOk, cellsEq, cellEq, E_byref, en18, bs47, hrf, hrt, h3', rowsLn_len, rowsR_len, show ∀ B fr H, execT E B 18 (Code.loop _) fr H = rlG E B 18 (loopAt Tryd.f18 1) (gcn B (norm [0, 1, 4, 5] fr) H) from fun B fr H => rl_intro rfl mt18_3 mb18_3 zf18_3 hd18_3 fr H]
def hpO (ls : List Ln) : List Rg → Hp
  | [] => [.box [.ref 1 0 0 ls.length], .fz 5 0 (rowsLn ls) false, .box [.i (.sl 0 [] true)]]
  | r :: o => [.box [.ref 1 0 0 ls.length], .fz 5 0 (rowsLn ls) false, .box [.ref 3 0 0 (r :: o).length], .sl 8 0 (rowsR (r :: o)) false]
theorem addR_len (ls : List Ln) (f : Nat) (out : List Rg) : (addR ls f out).length ≤ out.length + 1 := by
  unfold addR; split
  · simp
  · omega
theorem nextT_b (ls : List Ln) (f : Nat) (hf : f < ls.length) : f < nextT ls f ∧ nextT ls f ≤ ls.length := by
  have := grow_b ls f (ls.length - (f + 1)) (f + 1)
  unfold nextT; omega
theorem rl_rnd (ls : List Ln) (hls : ls.length ≤ 100000) (f : Nat) (hf : f < ls.length) (out : List Rg) (ho : out.length ≤ 200000) :
    rl E 3 18 (loopAt Tryd.f18 0) [(0, .i (.sl 5 (rowsLn ls) false)), (1, .clo (.func 19) [] [.ptr 0 0 0 0, .ptr 2 0 0 0]), (4, .i (.v (.int .i64 (f))))] (hpO ls out) = rl E 3 18 (loopAt Tryd.f18 0) [(0, .i (.sl 5 (rowsLn ls) false)), (1, .clo (.func 19) [] [.ptr 0 0 0 0, .ptr 2 0 0 0]), (4, .i (.v (.int .i64 ((nextT ls f : Nat)))))] (hpO ls (addR ls f out)) := by
  have hrf := rowsLn_D hf
  obtain ⟨t1, t2⟩ := nextT_b ls f hf
  unfold addR
  cases out with
  | nil =>
    have e1 := rl_in0 ls hls f hf (ls.length - (f + 1)) (f + 1) (by omega)
    rw [show grow ls f (ls.length - (f + 1)) (f + 1) = nextT ls f from rfl] at e1
    cases hem : (atL ls f).em with
    | true =>
      rw [if_neg (fun h => by cases h.1)]
      rw [hem] at hrf
      unfold hpO
      generalize nextT ls f = t at *
      generalize atL ls f = x at *
      rw [rl_step (fn := Tryd.f18) (k := 0) rfl]
      simp (disch := first | omega | (simp only [List.length_append, List.length_map, List.length_set, List.length_cons, List.length_nil, List.length_take, List.length_drop, rowsLn_len, rowsR_len]; omega)) only [va0, va1, va2, va3, va4, va5, va6, va7, va8, va9, va10, va11, va12, va13, va14, va15, vb0, vb1, vb2, vb3, w_i8, w_u8, w_i16, w_u16, w_i32, w_u32, w_i64, w_u64, lt_T, lt_F, le_T, le_F, nlt_T, nlt_F, nle_T, nle_F, List.take_of_length_le, gB, gcW, gcR, posIn, renA, renL, Chunk.ren, Chunk.refs, evOpD, touchD, stepC, isFresh, nFresh, freshOf, mkR, hole, evL, evH, opd, get, putD, ofVal, cellOf, loadE, behind, lenE, idxAddrE, idxE, lookE, lookM, addPtr, intE, strE, unE, convE, AV.int, AV.bool, AV.str, ivs, take, frameOf, firstRegion, refsA, refsL, one, cellsA, floatOk, apartT, List.map, if_true, if_false, E_P, E_glob, reduceCtorEq, beq_self_eq_true, decide_true, decide_false, ↓reduceIte, Nat.reduceEqDiff, cond_true, cond_false, or_true, true_or, or_false, false_or, and_true, true_and, and_self, false_and, and_false, not_true, not_false_iff, Nat.reduceAdd, Nat.reduceSub, Nat.reduceMul, Nat.reduceLT, Nat.reduceLeDiff, Int.reduceToNat, Int.reduceLT, Int.reduceLE, Option.getD, Int.reduceMul, Int.reduceAdd, List.drop, List.take, Nat.reduceBEq, List.isEmpty, Int.reduceEq, Int.reduceNe, Int.reduceNeg, Int.reduceGT, Int.reduceGE, beq_true, beq_false, UInt8.reduceToNat, eqE, eq_self, foldE, maxE, minE, eq_T, eq_F, ndec, odec, adec, sdec, fillA, over, chop, List.replicate, leavesOk, leafOk, cellsEq, cellEq, E_byref, en18, bs47, hrf, e1, rowsLn_len, rowsR_len, show ∀ B fr H, execT E B 18 (Code.loop _) fr H = rlG E B 18 (loopAt Tryd.f18 0) (gcn B (norm [0, 1, 4] fr) H) from fun B fr H => rl_intro rfl mt18_1 mb18_1 zf18_1 hd18_1 fr H, show ∀ B fr H, execT E B 18 (Code.loop _) fr H = rlG E B 18 (loopAt Tryd.f18 1) (gcn B (norm [0, 1, 4, 5] fr) H) from fun B fr H => rl_intro rfl mt18_3 mb18_3 zf18_3 hd18_3 fr H]
    | false =>
      by_cases hh : hitR ls f (nextT ls f)
      · rw [if_pos ⟨rfl, hh⟩, List.nil_append]
        rw [hem] at hrf
        have hk := ik0h ls hls f (nextT ls f) t1 t2 hh
        unfold hpO
        simp only
        rw [show [regR ls f (nextT ls f)].length = 1 from rfl]
        generalize regR ls f (nextT ls f) = rr at *
        generalize nextT ls f = t at *
        generalize atL ls f = x at *
        rw [rl_step (fn := Tryd.f18) (k := 0) rfl]
        simp (disch := first | omega | (simp only [List.length_append, List.length_map, List.length_set, List.length_cons, List.length_nil, List.length_take, List.length_drop, rowsLn_len, rowsR_len]; omega)) only [va0, va1, va2, va3, va4, va5, va6, va7, va8, va9, va10, va11, va12, va13, va14, va15, vb0, vb1, vb2, vb3, w_i8, w_u8, w_i16, w_u16, w_i32, w_u32, w_i64, w_u64, lt_T, lt_F, le_T, le_F, nlt_T, nlt_F, nle_T, nle_F, List.take_of_length_le, gB, gcW, gcR, posIn, renA, renL, Chunk.ren, Chunk.refs, evOpD, touchD, stepC, isFresh, nFresh, freshOf, mkR, hole, evL, evH, opd, get, putD, ofVal, cellOf, loadE, behind, lenE, idxAddrE, idxE, lookE, lookM, addPtr, intE, strE, unE, convE, AV.int, AV.bool, AV.str, ivs, take, frameOf, firstRegion, refsA, refsL, one, cellsA, floatOk, apartT, List.map, if_true, if_false, E_P, E_glob, reduceCtorEq, beq_self_eq_true, decide_true, decide_false, ↓reduceIte, Nat.reduceEqDiff, cond_true, cond_false, or_true, true_or, or_false, false_or, and_true, true_and, and_self, false_and, and_false, not_true, not_false_iff, Nat.reduceAdd, Nat.reduceSub, Nat.reduceMul, Nat.reduceLT, Nat.reduceLeDiff, Int.reduceToNat, Int.reduceLT, Int.reduceLE, Option.getD, Int.reduceMul, Int.reduceAdd, List.drop, List.take, Nat.reduceBEq, List.isEmpty, Int.reduceEq, Int.reduceNe, Int.reduceNeg, Int.reduceGT, Int.reduceGE, beq_true, beq_false, UInt8.reduceToNat, eqE, eq_self, foldE, maxE, minE, eq_T, eq_F, ndec, odec, adec, sdec, fillA, over, chop, List.replicate, leavesOk, leafOk, cellsEq, cellEq, E_byref, en18, bs47, hrf, e1, hk, ca19, rowsLn_len, rowsR_len, show ∀ B fr H, execT E B 18 (Code.loop _) fr H = rlG E B 18 (loopAt Tryd.f18 0) (gcn B (norm [0, 1, 4] fr) H) from fun B fr H => rl_intro rfl mt18_1 mb18_1 zf18_1 hd18_1 fr H, show ∀ B fr H, execT E B 18 (Code.loop _) fr H = rlG E B 18 (loopAt Tryd.f18 1) (gcn B (norm [0, 1, 4, 5] fr) H) from fun B fr H => rl_intro rfl mt18_3 mb18_3 zf18_3 hd18_3 fr H]
      · rw [if_neg (fun h => hh h.2)]
        rw [hem] at hrf
        have hk := ik0n ls hls f (nextT ls f) t1 t2 hh
        unfold hpO
        generalize nextT ls f = t at *
        generalize atL ls f = x at *
        rw [rl_step (fn := Tryd.f18) (k := 0) rfl]
        simp (disch := first | omega | (simp only [List.length_append, List.length_map, List.length_set, List.length_cons, List.length_nil, List.length_take, List.length_drop, rowsLn_len, rowsR_len]; omega)) only [va0, va1, va2, va3, va4, va5, va6, va7, va8, va9, va10, va11, va12, va13, va14, va15, vb0, vb1, vb2, vb3, w_i8, w_u8, w_i16, w_u16, w_i32, w_u32, w_i64, w_u64, lt_T, lt_F, le_T, le_F, nlt_T, nlt_F, nle_T, nle_F, List.take_of_length_le, gB, gcW, gcR, posIn, renA, renL, Chunk.ren, Chunk.refs, evOpD, touchD, stepC, isFresh, nFresh, freshOf, mkR, hole, evL, evH, opd, get, putD, ofVal, cellOf, loadE, behind, lenE, idxAddrE, idxE, lookE, lookM, addPtr, intE, strE, unE, convE, AV.int, AV.bool, AV.str, ivs, take, frameOf, firstRegion, refsA, refsL, one, cellsA, floatOk, apartT, List.map, if_true, if_false, E_P, E_glob, reduceCtorEq, beq_self_eq_true, decide_true, decide_false, ↓reduceIte, Nat.reduceEqDiff, cond_true, cond_false, or_true, true_or, or_false, false_or, and_true, true_and, and_self, false_and, and_false, not_true, not_false_iff, Nat.reduceAdd, Nat.reduceSub, Nat.reduceMul, Nat.reduceLT, Nat.reduceLeDiff, Int.reduceToNat, Int.reduceLT, Int.reduceLE, Option.getD, Int.reduceMul, Int.reduceAdd, List.drop, List.take, Nat.reduceBEq, List.isEmpty, Int.reduceEq, Int.reduceNe, Int.reduceNeg, Int.reduceGT, Int.reduceGE, beq_true, beq_false, UInt8.reduceToNat, eqE, eq_self, foldE, maxE, minE, eq_T, eq_F, ndec, odec, adec, sdec, fillA, over, chop, List.replicate, leavesOk, leafOk, cellsEq, cellEq, E_byref, en18, bs47, hrf, e1, hk, ca19, rowsLn_len, rowsR_len, show ∀ B fr H, execT E B 18 (Code.loop _) fr H = rlG E B 18 (loopAt Tryd.f18 0) (gcn B (norm [0, 1, 4] fr) H) from fun B fr H => rl_intro rfl mt18_1 mb18_1 zf18_1 hd18_1 fr H, show ∀ B fr H, execT E B 18 (Code.loop _) fr H = rlG E B 18 (loopAt Tryd.f18 1) (gcn B (norm [0, 1, 4, 5] fr) H) from fun B fr H => rl_intro rfl mt18_3 mb18_3 zf18_3 hd18_3 fr H]
  | cons r o =>
    have e1 := rl_in1 ls hls (r :: o) ho f hf (ls.length - (f + 1)) (f + 1) (by omega)
    rw [show grow ls f (ls.length - (f + 1)) (f + 1) = nextT ls f from rfl] at e1
    cases hem : (atL ls f).em with
    | true =>
      rw [if_neg (fun h => by cases h.1)]
      rw [hem] at hrf
      unfold hpO
      simp only
      generalize r :: o = out at *
      generalize nextT ls f = t at *
      generalize atL ls f = x at *
      rw [rl_step (fn := Tryd.f18) (k := 0) rfl]
      simp (disch := first | omega | (simp only [List.length_append, List.length_map, List.length_set, List.length_cons, List.length_nil, List.length_take, List.length_drop, rowsLn_len, rowsR_len]; omega)) only [va0, va1, va2, va3, va4, va5, va6, va7, va8, va9, va10, va11, va12, va13, va14, va15, vb0, vb1, vb2, vb3, w_i8, w_u8, w_i16, w_u16, w_i32, w_u32, w_i64, w_u64, lt_T, lt_F, le_T, le_F, nlt_T, nlt_F, nle_T, nle_F, List.take_of_length_le, gB, gcW, gcR, posIn, renA, renL, Chunk.ren, Chunk.refs, evOpD, touchD, stepC, isFresh, nFresh, freshOf, mkR, hole, evL, evH, opd, get, putD, ofVal, cellOf, loadE, behind, lenE, idxAddrE, idxE, lookE, lookM, addPtr, intE, strE, unE, convE, AV.int, AV.bool, AV.str, ivs, take, frameOf, firstRegion, refsA, refsL, one, cellsA, floatOk, apartT, List.map, if_true, if_false, E_P, E_glob, reduceCtorEq, beq_self_eq_true, decide_true, decide_false, ↓reduceIte, Nat.reduceEqDiff, cond_true, cond_false, or_true, true_or, or_false, false_or, and_true, true_and, and_self, false_and, and_false, not_true, not_false_iff, Nat.reduceAdd, Nat.reduceSub, Nat.reduceMul, Nat.reduceLT, Nat.reduceLeDiff, Int.reduceToNat, Int.reduceLT, Int.reduceLE, Option.getD, Int.reduceMul, Int.reduceAdd, List.drop, List.take, Nat.reduceBEq, List.isEmpty, Int.reduceEq, Int.reduceNe, Int.reduceNeg, Int.reduceGT, Int.reduceGE, beq_true, beq_false, UInt8.reduceToNat, eqE, eq_self, foldE, maxE, minE, eq_T, eq_F, ndec, odec, adec, sdec, fillA, over, chop, List.replicate, leavesOk, leafOk, cellsEq, cellEq, E_byref, en18, bs47, hrf, e1, rowsLn_len, rowsR_len, show ∀ B fr H, execT E B 18 (Code.loop _) fr H = rlG E B 18 (loopAt Tryd.f18 0) (gcn B (norm [0, 1, 4] fr) H) from fun B fr H => rl_intro rfl mt18_1 mb18_1 zf18_1 hd18_1 fr H, show ∀ B fr H, execT E B 18 (Code.loop _) fr H = rlG E B 18 (loopAt Tryd.f18 1) (gcn B (norm [0, 1, 4, 5] fr) H) from fun B fr H => rl_intro rfl mt18_3 mb18_3 zf18_3 hd18_3 fr H]
    | false =>
      by_cases hh : hitR ls f (nextT ls f)
      · rw [if_pos ⟨rfl, hh⟩]
        rw [hem] at hrf
        have hk := ik1h ls hls (r :: o) ho f (nextT ls f) t1 t2 hh
        rw [show hpO ls (r :: o ++ [regR ls f (nextT ls f)]) = [.box [.ref 1 0 0 ls.length], .fz 5 0 (rowsLn ls) false, .box [.ref 3 0 0 (r :: o ++ [regR ls f (nextT ls f)]).length], .sl 8 0 (rowsR (r :: o ++ [regR ls f (nextT ls f)])) false] from rfl]
        rw [show (r :: o ++ [regR ls f (nextT ls f)]).length = (r :: o).length + 1 from by simp]
        rw [show hpO ls (r :: o) = [.box [.ref 1 0 0 ls.length], .fz 5 0 (rowsLn ls) false, .box [.ref 3 0 0 (r :: o).length], .sl 8 0 (rowsR (r :: o)) false] from rfl]
        generalize rowsR (r :: o ++ [regR ls f (nextT ls f)]) = rr at *
        generalize r :: o = out at *
        generalize nextT ls f = t at *
        generalize atL ls f = x at *
        rw [rl_step (fn := Tryd.f18) (k := 0) rfl]
        simp (disch := first | omega | (simp only [List.length_append, List.length_map, List.length_set, List.length_cons, List.length_nil, List.length_take, List.length_drop, rowsLn_len, rowsR_len]; omega)) only [va0, va1, va2, va3, va4, va5, va6, va7, va8, va9, va10, va11, va12, va13, va14, va15, vb0, vb1, vb2, vb3, w_i8, w_u8, w_i16, w_u16, w_i32, w_u32, w_i64, w_u64, lt_T, lt_F, le_T, le_F, nlt_T, nlt_F, nle_T, nle_F, List.take_of_length_le, gB, gcW, gcR, posIn, renA, renL, Chunk.ren, Chunk.refs, evOpD, touchD, stepC, isFresh, nFresh, freshOf, mkR, hole, evL, evH, opd, get, putD, ofVal, cellOf, loadE, behind, lenE, idxAddrE, idxE, lookE, lookM, addPtr, intE, strE, unE, convE, AV.int, AV.bool, AV.str, ivs, take, frameOf, firstRegion, refsA, refsL, one, cellsA, floatOk, apartT, List.map, if_true, if_false, E_P, E_glob, reduceCtorEq, beq_self_eq_true, decide_true, decide_false, ↓reduceIte, Nat.reduceEqDiff, cond_true, cond_false, or_true, true_or, or_false, false_or, and_true, true_and, and_self, false_and, and_false, not_true, not_false_iff, Nat.reduceAdd, Nat.reduceSub, Nat.reduceMul, Nat.reduceLT, Nat.reduceLeDiff, Int.reduceToNat, Int.reduceLT, Int.reduceLE, Option.getD, Int.reduceMul, Int.reduceAdd, List.drop, List.take, Nat.reduceBEq, List.isEmpty, Int.reduceEq, Int.reduceNe, Int.reduceNeg, Int.reduceGT, Int.reduceGE, beq_true, beq_false, UInt8.reduceToNat, eqE, eq_self, foldE, maxE, minE, eq_T, eq_F, ndec, odec, adec, sdec, fillA, over, chop, List.replicate, leavesOk, leafOk, cellsEq, cellEq, E_byref, en18, bs47, hrf, e1, hk, ca19, rowsLn_len, rowsR_len, show ∀ B fr H, execT E B 18 (Code.loop _) fr H = rlG E B 18 (loopAt Tryd.f18 0) (gcn B (norm [0, 1, 4] fr) H) from fun B fr H => rl_intro rfl mt18_1 mb18_1 zf18_1 hd18_1 fr H, show ∀ B fr H, execT E B 18 (Code.loop _) fr H = rlG E B 18 (loopAt Tryd.f18 1) (gcn B (norm [0, 1, 4, 5] fr) H) from fun B fr H => rl_intro rfl mt18_3 mb18_3 zf18_3 hd18_3 fr H]
      · rw [if_neg (fun h => hh h.2)]
        rw [hem] at hrf
        have hk := ik1n ls hls (r :: o) ho f (nextT ls f) t1 t2 hh
        unfold hpO
        simp only
        generalize r :: o = out at *
        generalize nextT ls f = t at *
        generalize atL ls f = x at *
        rw [rl_step (fn := Tryd.f18) (k := 0) rfl]
        simp (disch := first | omega | (simp only [List.length_append, List.length_map, List.length_set, List.length_cons, List.length_nil, List.length_take, List.length_drop, rowsLn_len, rowsR_len]; omega)) only [va0, va1, va2, va3, va4, va5, va6, va7, va8, va9, va10, va11, va12, va13, va14, va15, vb0, vb1, vb2, vb3, w_i8, w_u8, w_i16, w_u16, w_i32, w_u32, w_i64, w_u64, lt_T, lt_F, le_T, le_F, nlt_T, nlt_F, nle_T, nle_F, List.take_of_length_le, gB, gcW, gcR, posIn, renA, renL, Chunk.ren, Chunk.refs, evOpD, touchD, stepC, isFresh, nFresh, freshOf, mkR, hole, evL, evH, opd, get, putD, ofVal, cellOf, loadE, behind, lenE, idxAddrE, idxE, lookE, lookM, addPtr, intE, strE, unE, convE, AV.int, AV.bool, AV.str, ivs, take, frameOf, firstRegion, refsA, refsL, one, cellsA, floatOk, apartT, List.map, if_true, if_false, E_P, E_glob, reduceCtorEq, beq_self_eq_true, decide_true, decide_false, ↓reduceIte, Nat.reduceEqDiff, cond_true, cond_false, or_true, true_or, or_false, false_or, and_true, true_and, and_self, false_and, and_false, not_true, not_false_iff, Nat.reduceAdd, Nat.reduceSub, Nat.reduceMul, Nat.reduceLT, Nat.reduceLeDiff, Int.reduceToNat, Int.reduceLT, Int.reduceLE, Option.getD, Int.reduceMul, Int.reduceAdd, List.drop, List.take, Nat.reduceBEq, List.isEmpty, Int.reduceEq, Int.reduceNe, Int.reduceNeg, Int.reduceGT, Int.reduceGE, beq_true, beq_false, UInt8.reduceToNat, eqE, eq_self, foldE, maxE, minE, eq_T, eq_F, ndec, odec, adec, sdec, fillA, over, chop, List.replicate, leavesOk, leafOk, cellsEq, cellEq, E_byref, en18, bs47, hrf, e1, hk, ca19, rowsLn_len, rowsR_len, show ∀ B fr H, execT E B 18 (Code.loop _) fr H = rlG E B 18 (loopAt Tryd.f18 0) (gcn B (norm [0, 1, 4] fr) H) from fun B fr H => rl_intro rfl mt18_1 mb18_1 zf18_1 hd18_1 fr H, show ∀ B fr H, execT E B 18 (Code.loop _) fr H = rlG E B 18 (loopAt Tryd.f18 1) (gcn B (norm [0, 1, 4, 5] fr) H) from fun B fr H => rl_intro rfl mt18_3 mb18_3 zf18_3 hd18_3 fr H]
theorem l18 (ls : List Ln) (hls : ls.length ≤ 100000) : ∀ (m f : Nat) (out : List Rg), f ≤ ls.length → ls.length ≤ f + m → out.length + m ≤ 200000 →
    rl E 3 18 (loopAt Tryd.f18 0) [(0, .i (.sl 5 (rowsLn ls) false)), (1, .clo (.func 19) [] [.ptr 0 0 0 0, .ptr 2 0 0 0]), (4, .i (.v (.int .i64 (f))))] (hpO ls out) = some (.exit 0, [(0, .i (.sl 5 (rowsLn ls) false)), (1, .clo (.func 19) [] [.ptr 0 0 0 0, .ptr 2 0 0 0]), (4, .i (.v (.int .i64 (ls.length)))), (9, .i (.v (.bool false)))], hpO ls (rngS ls m f out)) := by
  intro m
  induction m with
  | zero =>
    intro f out hf hm ho
    obtain rfl : f = ls.length := by omega
    rw [rngS]
    cases out with
    | nil =>
      unfold hpO
      rw [rl_step (fn := Tryd.f18) (k := 0) rfl]
      simp (disch := first | omega | (simp only [List.length_append, List.length_map, List.length_set, List.length_cons, List.length_nil, List.length_take, List.length_drop, rowsLn_len, rowsR_len]; omega)) only [va0, va1, va2, va3, va4, va5, va6, va7, va8, va9, va10, va11, va12, va13, va14, va15, vb0, vb1, vb2, vb3, w_i8, w_u8, w_i16, w_u16, w_i32, w_u32, w_i64, w_u64, lt_T, lt_F, le_T, le_F, nlt_T, nlt_F, nle_T, nle_F, List.take_of_length_le, gB, gcW, gcR, posIn, renA, renL, Chunk.ren, Chunk.refs, evOpD, touchD, stepC, isFresh, nFresh, freshOf, mkR, hole, evL, evH, opd, get, putD, ofVal, cellOf, loadE, behind, lenE, idxAddrE, idxE, lookE, lookM, addPtr, intE, strE, unE, convE, AV.int, AV.bool, AV.str, ivs, take, frameOf, firstRegion, refsA, refsL, one, cellsA, floatOk, apartT, List.map, if_true, if_false, E_P, E_glob, reduceCtorEq, beq_self_eq_true, decide_true, decide_false, ↓reduceIte, Nat.reduceEqDiff, cond_true, cond_false, or_true, true_or, or_false, false_or, and_true, true_and, and_self, false_and, and_false, not_true, not_false_iff, Nat.reduceAdd, Nat.reduceSub, Nat.reduceMul, Nat.reduceLT, Nat.reduceLeDiff, Int.reduceToNat, Int.reduceLT, Int.reduceLE, Option.getD, Int.reduceMul, Int.reduceAdd, List.drop, List.take, Nat.reduceBEq, List.isEmpty, Int.reduceEq, Int.reduceNe, Int.reduceNeg, Int.reduceGT, Int.reduceGE, beq_true, beq_false, UInt8.reduceToNat, eqE, eq_self, foldE, maxE, minE, eq_T, eq_F, ndec, odec, adec, sdec, fillA, over, chop, List.replicate, leavesOk, leafOk, cellsEq, cellEq, E_byref, en18, bs47, rowsLn_len, rowsR_len, show ∀ B fr H, execT E B 18 (Code.loop _) fr H = rlG E B 18 (loopAt Tryd.f18 0) (gcn B (norm [0, 1, 4] fr) H) from fun B fr H => rl_intro rfl mt18_1 mb18_1 zf18_1 hd18_1 fr H, show ∀ B fr H, execT E B 18 (Code.loop _) fr H = rlG E B 18 (loopAt Tryd.f18 1) (gcn B (norm [0, 1, 4, 5] fr) H) from fun B fr H => rl_intro rfl mt18_3 mb18_3 zf18_3 hd18_3 fr H]
    | cons r o =>
      unfold hpO
      simp only
      generalize r :: o = out at *
      rw [rl_step (fn := Tryd.f18) (k := 0) rfl]
      simp (disch := first | omega | (simp only [List.length_append, List.length_map, List.length_set, List.length_cons, List.length_nil, List.length_take, List.length_drop, rowsLn_len, rowsR_len]; omega)) only [va0, va1, va2, va3, va4, va5, va6, va7, va8, va9, va10, va11, va12, va13, va14, va15, vb0, vb1, vb2, vb3, w_i8, w_u8, w_i16, w_u16, w_i32, w_u32, w_i64, w_u64, lt_T, lt_F, le_T, le_F, nlt_T, nlt_F, nle_T, nle_F, List.take_of_length_le, gB, gcW, gcR, posIn, renA, renL, Chunk.ren, Chunk.refs, evOpD, touchD, stepC, isFresh, nFresh, freshOf, mkR, hole, evL, evH, opd, get, putD, ofVal, cellOf, loadE, behind, lenE, idxAddrE, idxE, lookE, lookM, addPtr, intE, strE, unE, convE, AV.int, AV.bool, AV.str, ivs, take, frameOf, firstRegion, refsA, refsL, one, cellsA, floatOk, apartT, List.map, if_true, if_false, E_P, E_glob, reduceCtorEq, beq_self_eq_true, decide_true, decide_false, ↓reduceIte, Nat.reduceEqDiff, cond_true, cond_false, or_true, true_or, or_false, false_or, and_true, true_and, and_self, false_and, and_false, not_true, not_false_iff, Nat.reduceAdd, Nat.reduceSub, Nat.reduceMul, Nat.reduceLT, Nat.reduceLeDiff, Int.reduceToNat, Int.reduceLT, Int.reduceLE, Option.getD, Int.reduceMul, Int.reduceAdd, List.drop, List.take, Nat.reduceBEq, List.isEmpty, Int.reduceEq, Int.reduceNe, Int.reduceNeg, Int.reduceGT, Int.reduceGE, beq_true, beq_false, UInt8.reduceToNat, eqE, eq_self, foldE, maxE, minE, eq_T, eq_F, ndec, odec, adec, sdec, fillA, over, chop, List.replicate, leavesOk, leafOk, cellsEq, cellEq, E_byref, en18, bs47, rowsLn_len, rowsR_len, show ∀ B fr H, execT E B 18 (Code.loop _) fr H = rlG E B 18 (loopAt Tryd.f18 0) (gcn B (norm [0, 1, 4] fr) H) from fun B fr H => rl_intro rfl mt18_1 mb18_1 zf18_1 hd18_1 fr H, show ∀ B fr H, execT E B 18 (Code.loop _) fr H = rlG E B 18 (loopAt Tryd.f18 1) (gcn B (norm [0, 1, 4, 5] fr) H) from fun B fr H => rl_intro rfl mt18_3 mb18_3 zf18_3 hd18_3 fr H]
  | succ m ih =>
    intro f out hf hm ho
    rw [rngS]
    by_cases hlt : f < ls.length
    · rw [if_pos hlt, rl_rnd ls hls f hlt out (by omega)]
      obtain ⟨t1, t2⟩ := nextT_b ls f hlt
      have := addR_len ls f out
      exact ih _ _ t2 (by omega) (by omega)
    · rw [if_neg hlt]
      obtain rfl : f = ls.length := by omega
      clear ih
      cases out with
      | nil =>
        unfold hpO
        rw [rl_step (fn := Tryd.f18) (k := 0) rfl]
        simp (disch := first | omega | (simp only [List.length_append, List.length_map, List.length_set, List.length_cons, List.length_nil, List.length_take, List.length_drop, rowsLn_len, rowsR_len]; omega)) only [va0, va1, va2, va3, va4, va5, va6, va7, va8, va9, va10, va11, va12, va13, va14, va15, vb0, vb1, vb2, vb3, w_i8, w_u8, w_i16, w_u16, w_i32, w_u32, w_i64, w_u64, lt_T, lt_F, le_T, le_F, nlt_T, nlt_F, nle_T, nle_F, List.take_of_length_le, gB, gcW, gcR, posIn, renA, renL, Chunk.ren, Chunk.refs, evOpD, touchD, stepC, isFresh, nFresh, freshOf, mkR, hole, evL, evH, opd, get, putD, ofVal, cellOf, loadE, behind, lenE, idxAddrE, idxE, lookE, lookM, addPtr, intE, strE, unE, convE, AV.int, AV.bool, AV.str, ivs, take, frameOf, firstRegion, refsA, refsL, one, cellsA, floatOk, apartT, List.map, if_true, if_false, E_P, E_glob, reduceCtorEq, beq_self_eq_true, decide_true, decide_false, ↓reduceIte, Nat.reduceEqDiff, cond_true, cond_false, or_true, true_or, or_false, false_or, and_true, true_and, and_self, false_and, and_false, not_true, not_false_iff, Nat.reduceAdd, Nat.reduceSub, Nat.reduceMul, Nat.reduceLT, Nat.reduceLeDiff, Int.reduceToNat, Int.reduceLT, Int.reduceLE, Option.getD, Int.reduceMul, Int.reduceAdd, List.drop, List.take, Nat.reduceBEq, List.isEmpty, Int.reduceEq, Int.reduceNe, Int.reduceNeg, Int.reduceGT, Int.reduceGE, beq_true, beq_false, UInt8.reduceToNat, eqE, eq_self, foldE, maxE, minE, eq_T, eq_F, ndec, odec, adec, sdec, fillA, over, chop, List.replicate, leavesOk, leafOk, cellsEq, cellEq, E_byref, en18, bs47, rowsLn_len, rowsR_len, show ∀ B fr H, execT E B 18 (Code.loop _) fr H = rlG E B 18 (loopAt Tryd.f18 0) (gcn B (norm [0, 1, 4] fr) H) from fun B fr H => rl_intro rfl mt18_1 mb18_1 zf18_1 hd18_1 fr H, show ∀ B fr H, execT E B 18 (Code.loop _) fr H = rlG E B 18 (loopAt Tryd.f18 1) (gcn B (norm [0, 1, 4, 5] fr) H) from fun B fr H => rl_intro rfl mt18_3 mb18_3 zf18_3 hd18_3 fr H]
      | cons r o =>
        unfold hpO
        simp only
        generalize r :: o = out at *
        rw [rl_step (fn := Tryd.f18) (k := 0) rfl]
        simp (disch := first | omega | (simp only [List.length_append, List.length_map, List.length_set, List.length_cons, List.length_nil, List.length_take, List.length_drop, rowsLn_len, rowsR_len]; omega)) only [va0, va1, va2, va3, va4, va5, va6, va7, va8, va9, va10, va11, va12, va13, va14, va15, vb0, vb1, vb2, vb3, w_i8, w_u8, w_i16, w_u16, w_i32, w_u32, w_i64, w_u64, lt_T, lt_F, le_T, le_F, nlt_T, nlt_F, nle_T, nle_F, List.take_of_length_le, gB, gcW, gcR, posIn, renA, renL, Chunk.ren, Chunk.refs, evOpD, touchD, stepC, isFresh, nFresh, freshOf, mkR, hole, evL, evH, opd, get, putD, ofVal, cellOf, loadE, behind, lenE, idxAddrE, idxE, lookE, lookM, addPtr, intE, strE, unE, convE, AV.int, AV.bool, AV.str, ivs, take, frameOf, firstRegion, refsA, refsL, one, cellsA, floatOk, apartT, List.map, if_true, if_false, E_P, E_glob, reduceCtorEq, beq_self_eq_true, decide_true, decide_false, ↓reduceIte, Nat.reduceEqDiff, cond_true, cond_false, or_true, true_or, or_false, false_or, and_true, true_and, and_self, false_and, and_false, not_true, not_false_iff, Nat.reduceAdd, Nat.reduceSub, Nat.reduceMul, Nat.reduceLT, Nat.reduceLeDiff, Int.reduceToNat, Int.reduceLT, Int.reduceLE, Option.getD, Int.reduceMul, Int.reduceAdd, List.drop, List.take, Nat.reduceBEq, List.isEmpty, Int.reduceEq, Int.reduceNe, Int.reduceNeg, Int.reduceGT, Int.reduceGE, beq_true, beq_false, UInt8.reduceToNat, eqE, eq_self, foldE, maxE, minE, eq_T, eq_F, ndec, odec, adec, sdec, fillA, over, chop, List.replicate, leavesOk, leafOk, cellsEq, cellEq, E_byref, en18, bs47, rowsLn_len, rowsR_len, show ∀ B fr H, execT E B 18 (Code.loop _) fr H = rlG E B 18 (loopAt Tryd.f18 0) (gcn B (norm [0, 1, 4] fr) H) from fun B fr H => rl_intro rfl mt18_1 mb18_1 zf18_1 hd18_1 fr H, show ∀ B fr H, execT E B 18 (Code.loop _) fr H = rlG E B 18 (loopAt Tryd.f18 1) (gcn B (norm [0, 1, 4, 5] fr) H) from fun B fr H => rl_intro rfl mt18_3 mb18_3 zf18_3 hd18_3 fr H]
end Go.VI

namespace Go.VI
open Go.Proofs
set_option maxRecDepth 100000
set_option linter.unusedSimpArgs false
set_option linter.unusedVariables false
set_option maxHeartbeats 4000000
theorem c18 (ls : List Ln) (hls : ls.length ≤ 100000) : ∃ L, callT E 18 [.i (.sl 5 (rowsLn ls) false), .clo (.func 19) [] [.ptr 0 0 0 0, .ptr 2 0 0 0]] [.box [.ref 1 0 0 ls.length], .fz 5 0 (rowsLn ls) false, .box [.i (.sl 0 [] true)]] = some (.tup [], hpO ls (rngS ls ls.length 0 []) ++ L) := by
  have h := l18 ls hls ls.length 0 [] (Nat.zero_le _) (by omega) (by simp; omega)
  have h' : rl E 3 18 (loopAt Tryd.f18 0) [(0, .i (.sl 5 (rowsLn ls) false)), (1, .clo (.func 19) [] [.ptr 0 0 0 0, .ptr 2 0 0 0]), (4, .i (.v (.int .i64 0)))] [.box [.ref 1 0 0 ls.length], .fz 5 0 (rowsLn ls) false, .box [.i (.sl 0 [] true)]] = _ := h
  clear h
  generalize rngS ls ls.length 0 [] = out at *
  cases out with
  | nil =>
    unfold hpO at h' ⊢
    rw [callT_eq Tryd.func18 rfl fok18 (by simp [Tryd.ntmps18])]
    simp (disch := first | omega | (simp only [List.length_append, List.length_map, List.length_set, List.length_cons, List.length_nil, List.length_take, List.length_drop, rowsLn_len, rowsR_len]; omega)) only [va0, va1, va2, va3, va4, va5, va6, va7, va8, va9, va10, va11, va12, va13, va14, va15, vb0, vb1, vb2, vb3, w_i8, w_u8, w_i16, w_u16, w_i32, w_u32, w_i64, w_u64, lt_T, lt_F, le_T, le_F, nlt_T, nlt_F, nle_T, nle_F, List.take_of_length_le, gB, gcW, gcR, posIn, renA, renL, Chunk.ren, Chunk.refs, evOpD, touchD, stepC, isFresh, nFresh, freshOf, mkR, hole, evL, evH, opd, get, putD, ofVal, cellOf, loadE, behind, lenE, idxAddrE, idxE, lookE, lookM, addPtr, intE, strE, unE, convE, AV.int, AV.bool, AV.str, ivs, take, frameOf, firstRegion, refsA, refsL, one, cellsA, floatOk, apartT, List.map, if_true, if_false, E_P, E_glob, reduceCtorEq, beq_self_eq_true, decide_true, decide_false, ↓reduceIte, Nat.reduceEqDiff, cond_true, cond_false, or_true, true_or, or_false, false_or, and_true, true_and, and_self, false_and, and_false, not_true, not_false_iff, Nat.reduceAdd, Nat.reduceSub, Nat.reduceMul, Nat.reduceLT, Nat.reduceLeDiff, Int.reduceToNat, Int.reduceLT, Int.reduceLE, Option.getD, Int.reduceMul, Int.reduceAdd, List.drop, List.take, Nat.reduceBEq, List.isEmpty, Int.reduceEq, Int.reduceNe, Int.reduceNeg, Int.reduceGT, Int.reduceGE, beq_true, beq_false, UInt8.reduceToNat, eqE, eq_self, foldE, maxE, minE, eq_T, eq_F, ndec, odec, adec, sdec, fillA, over, chop, List.replicate, leavesOk, leafOk, cellsEq, cellEq, E_byref, en18, bs47, h', rowsLn_len, rowsR_len, show ∀ B fr H, execT E B 18 (Code.loop _) fr H = rlG E B 18 (loopAt Tryd.f18 0) (gcn B (norm [0, 1, 4] fr) H) from fun B fr H => rl_intro rfl mt18_1 mb18_1 zf18_1 hd18_1 fr H]
    exact ⟨_, rfl⟩
  | cons r o =>
    unfold hpO at h' ⊢
    simp only at h' ⊢
    generalize r :: o = out at *
    rw [callT_eq Tryd.func18 rfl fok18 (by simp [Tryd.ntmps18])]
    simp (disch := first | omega | (simp only [List.length_append, List.length_map, List.length_set, List.length_cons, List.length_nil, List.length_take, List.length_drop, rowsLn_len, rowsR_len]; omega)) only [va0, va1, va2, va3, va4, va5, va6, va7, va8, va9, va10, va11, va12, va13, va14, va15, vb0, vb1, vb2, vb3, w_i8, w_u8, w_i16, w_u16, w_i32, w_u32, w_i64, w_u64, lt_T, lt_F, le_T, le_F, nlt_T, nlt_F, nle_T, nle_F, List.take_of_length_le, gB, gcW, gcR, posIn, renA, renL, Chunk.ren, Chunk.refs, evOpD, touchD, stepC, isFresh, nFresh, freshOf, mkR, hole, evL, evH, opd, get, putD, ofVal, cellOf, loadE, behind, lenE, idxAddrE, idxE, lookE, lookM, addPtr, intE, strE, unE, convE, AV.int, AV.bool, AV.str, ivs, take, frameOf, firstRegion, refsA, refsL, one, cellsA, floatOk, apartT, List.map, if_true, if_false, E_P, E_glob, reduceCtorEq, beq_self_eq_true, decide_true, decide_false, ↓reduceIte, Nat.reduceEqDiff, cond_true, cond_false, or_true, true_or, or_false, false_or, and_true, true_and, and_self, false_and, and_false, not_true, not_false_iff, Nat.reduceAdd, Nat.reduceSub, Nat.reduceMul, Nat.reduceLT, Nat.reduceLeDiff, Int.reduceToNat, Int.reduceLT, Int.reduceLE, Option.getD, Int.reduceMul, Int.reduceAdd, List.drop, List.take, Nat.reduceBEq, List.isEmpty, Int.reduceEq, Int.reduceNe, Int.reduceNeg, Int.reduceGT, Int.reduceGE, beq_true, beq_false, UInt8.reduceToNat, eqE, eq_self, foldE, maxE, minE, eq_T, eq_F, ndec, odec, adec, sdec, fillA, over, chop, List.replicate, leavesOk, leafOk, cellsEq, cellEq, E_byref, en18, bs47, h', rowsLn_len, rowsR_len, show ∀ B fr H, execT E B 18 (Code.loop _) fr H = rlG E B 18 (loopAt Tryd.f18 0) (gcn B (norm [0, 1, 4] fr) H) from fun B fr H => rl_intro rfl mt18_1 mb18_1 zf18_1 hd18_1 fr H]
    exact ⟨_, rfl⟩
theorem ik18 (ls : List Ln) (hls : ls.length ≤ 100000) : isoK E (callT E) 18 [.i (.sl 5 (rowsLn ls) false), .clo (.func 19) [] [.ptr 0 0 0 0, .ptr 2 0 0 0]] [.box [.ref 1 0 0 ls.length], .fz 5 0 (rowsLn ls) false, .box [.i (.sl 0 [] true)]] = some (.tup [], hpO ls (rngS ls ls.length 0 [])) := by
  obtain ⟨L, h⟩ := c18 ls hls
  have he : E.ext 18 = none := rfl
  generalize rngS ls ls.length 0 [] = out at *
  cases out with
  | nil =>
    unfold hpO at h ⊢
    simp only [List.cons_append, List.nil_append] at h
    unfold isoK
    simp [exCl, he, refsL, refsA, renL, renA, posIn, Chunk.ren, h, Chunk.refs, reach, setAll, backRen]
  | cons r o =>
    unfold hpO at h ⊢
    simp only [List.cons_append, List.nil_append] at h ⊢
    generalize rowsR (r :: o) = rr at *
    generalize (r :: o).length = n at *
    unfold isoK
    simp [exCl, he, refsL, refsA, renL, renA, posIn, Chunk.ren, h, Chunk.refs, reach, setAll, backRen]
def findS (v : List (List Gl)) : List Rg := rngS (v.map readS) v.length 0 []
theorem rngS_len (ls : List Ln) : ∀ (m f : Nat) (out : List Rg), (rngS ls m f out).length ≤ out.length + m
  | 0, f, out => Nat.le_refl _
  | m + 1, f, out => by
    rw [rngS]
    split
    · have := rngS_len ls m (nextT ls f) (addR ls f out)
      have := addR_len ls f out
      omega
    · omega
theorem c10 (v : List (List Gl)) (hv : okV v) (a b c d : Int) (e : Bool) : ∃ L, callT E 10 [.agg [.i (.v (.int .i64 a)), .i (.v (.int .i64 b)), .i (.sl 1 (rowsV v) false), .i (.v (.int .i64 c)), .i (.v (.int .i64 d)), .i (.v (.bool e))]] [] = some (.i (.sl 8 (rowsR (findS v)) false), L) := by
  have h := l10 v hv v.length 0 [] (by omega) (by have := hv.1; simp; omega)
  have hv1 := hv.1
  rw [List.drop_zero, List.nil_append] at h
  have h' : rl E 0 10 (loopAt Tryd.f10 0) [(3, .ptr 0 0 0 0), (8, .i (.sl 1 (rowsV v) false)), (9, .i (.v (.int .i64 v.length))), (10, .i (.v (.int .i64 0)))] [.box [.ref 1 0 0 0], .sl 5 0 [] false] = _ := h
  clear h
  have hk := ik18 (v.map readS) (by rw [List.length_map]; exact hv1)
  have hml : (v.map readS).length = v.length := List.length_map ..
  have hfs : findS v = rngS (v.map readS) (v.map readS).length 0 [] := by rw [hml]; rfl
  rw [hfs]
  have hrl := rngS_len (v.map readS) (v.map readS).length 0 []
  rw [List.length_nil] at hrl
  have htk0 : List.take (v.map readS).length (rowsLn (v.map readS)) = rowsLn (v.map readS) := List.take_of_length_le (by rw [rowsLn_len]; exact Nat.le_refl _)
  generalize v.map readS = ls at *
  generalize rngS ls ls.length 0 [] = out at *
  have htk : List.take out.length (rowsR out) = rowsR out := List.take_of_length_le (by rw [rowsR_len]; exact Nat.le_refl _)
  cases out with
  | nil =>
    unfold hpO at hk
    rw [show rowsR [] = [] from rfl]
    rw [callT_eq Tryd.func10 rfl fok10 (by simp [Tryd.ntmps10])]
    simp (disch := first | omega | (simp only [List.length_append, List.length_map, List.length_set, List.length_cons, List.length_nil, List.length_take, List.length_drop, rowsV_len, rowsLn_len, rowsR_len]; omega)) only [va0, va1, va2, va3, va4, va5, va6, va7, va8, va9, va10, va11, va12, va13, va14, va15, vb0, vb1, vb2, vb3, w_i8, w_u8, w_i16, w_u16, w_i32, w_u32, w_i64, w_u64, lt_T, lt_F, le_T, le_F, nlt_T, nlt_F, nle_T, nle_F, List.take_of_length_le, gB, gcW, gcR, posIn, renA, renL, Chunk.ren, Chunk.refs, evOpD, touchD, stepC, isFresh, nFresh, freshOf, mkR, hole, evL, evH, opd, get, putD, ofVal, cellOf, loadE, behind, lenE, idxAddrE, idxE, lookE, lookM, addPtr, intE, strE, unE, convE, AV.int, AV.bool, AV.str, ivs, take, frameOf, firstRegion, refsA, refsL, one, cellsA, floatOk, apartT, List.map, if_true, if_false, E_P, E_glob, reduceCtorEq, beq_self_eq_true, decide_true, decide_false, ↓reduceIte, Nat.reduceEqDiff, cond_true, cond_false, or_true, true_or, or_false, false_or, and_true, true_and, and_self, false_and, and_false, not_true, not_false_iff, Nat.reduceAdd, Nat.reduceSub, Nat.reduceMul, Nat.reduceLT, Nat.reduceLeDiff, Int.reduceToNat, Int.reduceLT, Int.reduceLE, Option.getD, Int.reduceMul, Int.reduceAdd, List.drop, List.take, Nat.reduceBEq, List.isEmpty, Int.reduceEq, Int.reduceNe, Int.reduceNeg, Int.reduceGT, Int.reduceGE, beq_true, beq_false, UInt8.reduceToNat, eqE, eq_self, foldE, maxE, minE, eq_T, eq_F, ndec, odec, adec, sdec, fillA, over, chop, List.replicate, leavesOk, leafOk, cellsEq, cellEq, E_byref, en10, bs22, bs36, bs47, h', hk, htk0, rowsV_len, rowsLn_len, rowsR_len, show ∀ B fr H, execT E B 10 (Code.loop _) fr H = rlM E B 10 (loopAt Tryd.f10 0) [3, 8, 9, 10] [] (matF [] fr H).1 (matB [(3, 0, 5)] (matF [] fr H).1 (matF [] fr H).2) from fun B fr H => rl_introM rfl mt10_3 mb10_3 zf10_3 hd10_3 fr H]
    exact ⟨_, rfl⟩
  | cons r o =>
    unfold hpO at hk
    simp only at hk
    generalize r :: o = out at *
    rw [callT_eq Tryd.func10 rfl fok10 (by simp [Tryd.ntmps10])]
    simp (disch := first | omega | (simp only [List.length_append, List.length_map, List.length_set, List.length_cons, List.length_nil, List.length_take, List.length_drop, rowsV_len, rowsLn_len, rowsR_len]; omega)) only [va0, va1, va2, va3, va4, va5, va6, va7, va8, va9, va10, va11, va12, va13, va14, va15, vb0, vb1, vb2, vb3, w_i8, w_u8, w_i16, w_u16, w_i32, w_u32, w_i64, w_u64, lt_T, lt_F, le_T, le_F, nlt_T, nlt_F, nle_T, nle_F, List.take_of_length_le, gB, gcW, gcR, posIn, renA, renL, Chunk.ren, Chunk.refs, evOpD, touchD, stepC, isFresh, nFresh, freshOf, mkR, hole, evL, evH, opd, get, putD, ofVal, cellOf, loadE, behind, lenE, idxAddrE, idxE, lookE, lookM, addPtr, intE, strE, unE, convE, AV.int, AV.bool, AV.str, ivs, take, frameOf, firstRegion, refsA, refsL, one, cellsA, floatOk, apartT, List.map, if_true, if_false, E_P, E_glob, reduceCtorEq, beq_self_eq_true, decide_true, decide_false, ↓reduceIte, Nat.reduceEqDiff, cond_true, cond_false, or_true, true_or, or_false, false_or, and_true, true_and, and_self, false_and, and_false, not_true, not_false_iff, Nat.reduceAdd, Nat.reduceSub, Nat.reduceMul, Nat.reduceLT, Nat.reduceLeDiff, Int.reduceToNat, Int.reduceLT, Int.reduceLE, Option.getD, Int.reduceMul, Int.reduceAdd, List.drop, List.take, Nat.reduceBEq, List.isEmpty, Int.reduceEq, Int.reduceNe, Int.reduceNeg, Int.reduceGT, Int.reduceGE, beq_true, beq_false, UInt8.reduceToNat, eqE, eq_self, foldE, maxE, minE, eq_T, eq_F, ndec, odec, adec, sdec, fillA, over, chop, List.replicate, leavesOk, leafOk, cellsEq, cellEq, E_byref, en10, bs22, bs36, bs47, h', hk, htk, htk0, rowsV_len, rowsLn_len, rowsR_len, show ∀ B fr H, execT E B 10 (Code.loop _) fr H = rlM E B 10 (loopAt Tryd.f10 0) [3, 8, 9, 10] [] (matF [] fr H).1 (matB [(3, 0, 5)] (matF [] fr H).1 (matF [] fr H).2) from fun B fr H => rl_introM rfl mt10_3 mb10_3 zf10_3 hd10_3 fr H]
    exact ⟨_, rfl⟩
theorem ik10 (v : List (List Gl)) (hv : okV v) (a b c d : Int) (e : Bool) (H : Hp) : isoK E (callT E) 10 [.agg [.i (.v (.int .i64 a)), .i (.v (.int .i64 b)), .i (.sl 1 (rowsV v) false), .i (.v (.int .i64 c)), .i (.v (.int .i64 d)), .i (.v (.bool e))]] H = some (.i (.sl 8 (rowsR (findS v)) false), H) := isoK_val rfl rfl rfl (c10 v hv a b c d e)
end Go.VI

namespace Go.VI
open Go.Proofs
set_option maxRecDepth 100000
set_option linter.unusedSimpArgs false
set_option linter.unusedVariables false
set_option maxHeartbeats 4000000
def fineR (v : List (List Gl)) : Bool := v.all fun r => decide (r.length ≤ 20)
def fineS (v : List (List Gl)) : Bool := decide (v.length ≤ 8) && fineR v
def smallV (v : List (List Gl)) : Prop := v.length ≤ 1048576 ∧ ∀ r ∈ v, r.length ≤ 1048576 ∧ (textS r).length ≤ 1048576
theorem fine_ok {v : List (List Gl)} (h : smallV v) (hf : fineS v = true) : okV v ∧ v.length ≤ 8 ∧ ∀ r ∈ v, r.length ≤ 20 ∧ (textS r).length ≤ 1048576 := by
  unfold fineS fineR at hf
  rw [Bool.and_eq_true, decide_eq_true_iff, List.all_eq_true] at hf
  obtain ⟨h1, h2⟩ := hf
  have h3 : ∀ r ∈ v, r.length ≤ 20 ∧ (textS r).length ≤ 1048576 := fun r hr => ⟨of_decide_eq_true (h2 r hr), (h.2 r hr).2⟩
  exact ⟨⟨by omega, fun r hr => ⟨by have := (h3 r hr).1; omega, (h3 r hr).2⟩⟩, h1, h3⟩
theorem l8 (v : List (List Gl)) (hv : smallV v) : ∀ (m k : Nat), k + m = v.length →
    rl E 0 8 (loopAt Tryd.f8 0) [(10, .i (.sl 1 (rowsV v) false)), (11, .i (.v (.int .i64 v.length))), (12, .i (.v (.int .i64 k)))] [] =
      if fineR (v.drop k) = true then some (.exit 0, [(10, .i (.sl 1 (rowsV v) false)), (11, .i (.v (.int .i64 v.length))), (12, .i (.v (.int .i64 v.length))), (13, .i (.v (.bool false)))], []) else some (.ret, [(2, .i (.v (.bool false)))], []) := by
  have hv1 := hv.1
  intro m
  induction m with
  | zero =>
    intro k hk
    obtain rfl : k = v.length := by omega
    rw [List.drop_length, if_pos (show fineR [] = true from rfl)]
    rw [rl_step (fn := Tryd.f8) (k := 0) rfl]
    simp (disch := first | omega | (simp only [List.length_append, List.length_map, List.length_set, List.length_cons, List.length_nil, List.length_take, List.length_drop, rowsV_len]; omega)) only [va0, va1, va2, va3, va4, va5, va6, va7, va8, va9, va10, va11, va12, va13, va14, va15, vb0, vb1, vb2, vb3, w_i8, w_u8, w_i16, w_u16, w_i32, w_u32, w_i64, w_u64, lt_T, lt_F, le_T, le_F, nlt_T, nlt_F, nle_T, nle_F, List.take_of_length_le, gB, gcW, gcR, posIn, renA, renL, Chunk.ren, Chunk.refs, evOpD, touchD, stepC, isFresh, nFresh, freshOf, mkR, hole, evL, evH, opd, get, putD, ofVal, cellOf, loadE, behind, lenE, idxAddrE, idxE, lookE, lookM, addPtr, intE, strE, unE, convE, AV.int, AV.bool, AV.str, ivs, take, frameOf, firstRegion, refsA, refsL, one, cellsA, floatOk, apartT, List.map, if_true, if_false, E_P, E_glob, reduceCtorEq, beq_self_eq_true, decide_true, decide_false, ↓reduceIte, Nat.reduceEqDiff, cond_true, cond_false, or_true, true_or, or_false, false_or, and_true, true_and, and_self, false_and, and_false, not_true, not_false_iff, Nat.reduceAdd, Nat.reduceSub, Nat.reduceMul, Nat.reduceLT, Nat.reduceLeDiff, Int.reduceToNat, Int.reduceLT, Int.reduceLE, Option.getD, Int.reduceMul, Int.reduceAdd, List.drop, List.take, Nat.reduceBEq, List.isEmpty, Int.reduceEq, Int.reduceNe, Int.reduceNeg, Int.reduceGT, Int.reduceGE, beq_true, beq_false, UInt8.reduceToNat, eqE, eq_self, foldE, maxE, minE, eq_T, eq_F, ndec, odec, adec, sdec, fillA, over, chop, List.replicate, leavesOk, leafOk, cellsEq, cellEq, E_byref, en8, bs22, bs36, rowsV_len, show ∀ B fr H, execT E B 8 (Code.loop _) fr H = rlG E B 8 (loopAt Tryd.f8 0) (gcn B (norm [10, 11, 12] fr) H) from fun B fr H => rl_intro rfl mt8_4 mb8_4 zf8_4 hd8_4 fr H]
  | succ m ih =>
    intro k hk
    have hlt : k < v.length := by omega
    have hrow := rowsV_D hlt
    have hrl := rowsG_len (atV v k)
    have hb := (hv.2 (atV v k) (by rw [atV_eq hlt]; exact List.getElem_mem hlt)).1
    have hs : fineR (v.drop k) = (decide ((atV v k).length ≤ 20) && fineR (v.drop (k + 1))) := by rw [drop_V hlt]; rfl
    rw [hs]
    have e := ih (k + 1) (by omega)
    generalize rowsG (atV v k) = rr at *
    generalize (atV v k).length = n at *
    by_cases h20 : n ≤ 20
    · rw [decide_eq_true h20, Bool.true_and]
      refine Eq.trans ?_ e
      clear e ih hs
      rw [rl_step (fn := Tryd.f8) (k := 0) rfl]
      simp (disch := first | omega | (simp only [List.length_append, List.length_map, List.length_set, List.length_cons, List.length_nil, List.length_take, List.length_drop, rowsV_len]; omega)) only [va0, va1, va2, va3, va4, va5, va6, va7, va8, va9, va10, va11, va12, va13, va14, va15, vb0, vb1, vb2, vb3, w_i8, w_u8, w_i16, w_u16, w_i32, w_u32, w_i64, w_u64, lt_T, lt_F, le_T, le_F, nlt_T, nlt_F, nle_T, nle_F, List.take_of_length_le, gB, gcW, gcR, posIn, renA, renL, Chunk.ren, Chunk.refs, evOpD, touchD, stepC, isFresh, nFresh, freshOf, mkR, hole, evL, evH, opd, get, putD, ofVal, cellOf, loadE, behind, lenE, idxAddrE, idxE, lookE, lookM, addPtr, intE, strE, unE, convE, AV.int, AV.bool, AV.str, ivs, take, frameOf, firstRegion, refsA, refsL, one, cellsA, floatOk, apartT, List.map, if_true, if_false, E_P, E_glob, reduceCtorEq, beq_self_eq_true, decide_true, decide_false, ↓reduceIte, Nat.reduceEqDiff, cond_true, cond_false, or_true, true_or, or_false, false_or, and_true, true_and, and_self, false_and, and_false, not_true, not_false_iff, Nat.reduceAdd, Nat.reduceSub, Nat.reduceMul, Nat.reduceLT, Nat.reduceLeDiff, Int.reduceToNat, Int.reduceLT, Int.reduceLE, Option.getD, Int.reduceMul, Int.reduceAdd, List.drop, List.take, Nat.reduceBEq, List.isEmpty, Int.reduceEq, Int.reduceNe, Int.reduceNeg, Int.reduceGT, Int.reduceGE, beq_true, beq_false, UInt8.reduceToNat, eqE, eq_self, foldE, maxE, minE, eq_T, eq_F, ndec, odec, adec, sdec, fillA, over, chop, List.replicate, leavesOk, leafOk, cellsEq, cellEq, E_byref, en8, bs22, bs36, hrow, hrl, rowsV_len, show ∀ B fr H, execT E B 8 (Code.loop _) fr H = rlG E B 8 (loopAt Tryd.f8 0) (gcn B (norm [10, 11, 12] fr) H) from fun B fr H => rl_intro rfl mt8_4 mb8_4 zf8_4 hd8_4 fr H]
    · rw [decide_eq_false h20, Bool.false_and, if_neg (by decide)]
      clear e ih hs
      rw [rl_step (fn := Tryd.f8) (k := 0) rfl]
      simp (disch := first | omega | (simp only [List.length_append, List.length_map, List.length_set, List.length_cons, List.length_nil, List.length_take, List.length_drop, rowsV_len]; omega)) only [va0, va1, va2, va3, va4, va5, va6, va7, va8, va9, va10, va11, va12, va13, va14, va15, vb0, vb1, vb2, vb3, w_i8, w_u8, w_i16, w_u16, w_i32, w_u32, w_i64, w_u64, lt_T, lt_F, le_T, le_F, nlt_T, nlt_F, nle_T, nle_F, List.take_of_length_le, gB, gcW, gcR, posIn, renA, renL, Chunk.ren, Chunk.refs, evOpD, touchD, stepC, isFresh, nFresh, freshOf, mkR, hole, evL, evH, opd, get, putD, ofVal, cellOf, loadE, behind, lenE, idxAddrE, idxE, lookE, lookM, addPtr, intE, strE, unE, convE, AV.int, AV.bool, AV.str, ivs, take, frameOf, firstRegion, refsA, refsL, one, cellsA, floatOk, apartT, List.map, if_true, if_false, E_P, E_glob, reduceCtorEq, beq_self_eq_true, decide_true, decide_false, ↓reduceIte, Nat.reduceEqDiff, cond_true, cond_false, or_true, true_or, or_false, false_or, and_true, true_and, and_self, false_and, and_false, not_true, not_false_iff, Nat.reduceAdd, Nat.reduceSub, Nat.reduceMul, Nat.reduceLT, Nat.reduceLeDiff, Int.reduceToNat, Int.reduceLT, Int.reduceLE, Option.getD, Int.reduceMul, Int.reduceAdd, List.drop, List.take, Nat.reduceBEq, List.isEmpty, Int.reduceEq, Int.reduceNe, Int.reduceNeg, Int.reduceGT, Int.reduceGE, beq_true, beq_false, UInt8.reduceToNat, eqE, eq_self, foldE, maxE, minE, eq_T, eq_F, ndec, odec, adec, sdec, fillA, over, chop, List.replicate, leavesOk, leafOk, cellsEq, cellEq, E_byref, en8, bs22, bs36, hrow, hrl, rowsV_len, show ∀ B fr H, execT E B 8 (Code.loop _) fr H = rlG E B 8 (loopAt Tryd.f8 0) (gcn B (norm [10, 11, 12] fr) H) from fun B fr H => rl_intro rfl mt8_4 mb8_4 zf8_4 hd8_4 fr H]
theorem c8 (v : List (List Gl)) (hv : smallV v) (a b c d : Int) (e : Bool) : ∃ L, callT E 8 [.agg [.i (.v (.int .i64 a)), .i (.v (.int .i64 b)), .i (.sl 1 (rowsV v) false), .i (.v (.int .i64 c)), .i (.v (.int .i64 d)), .i (.v (.bool e))]] [] = some (.i (.v (.bool (fineS v))), L) := by
  have h := l8 v hv v.length 0 (by omega)
  have hv1 := hv.1
  rw [List.drop_zero] at h
  have h' : rl E 0 8 (loopAt Tryd.f8 0) [(10, .i (.sl 1 (rowsV v) false)), (11, .i (.v (.int .i64 v.length))), (12, .i (.v (.int .i64 0)))] [] = _ := h
  clear h
  unfold fineS
  by_cases h8 : v.length ≤ 8
  · rw [decide_eq_true h8, Bool.true_and]
    cases hf : fineR v with
    | true =>
      rw [hf, if_pos rfl] at h'
      rw [callT_eq Tryd.func8 rfl fok8 (by simp [Tryd.ntmps8])]
      simp (disch := first | omega | (simp only [List.length_append, List.length_map, List.length_set, List.length_cons, List.length_nil, List.length_take, List.length_drop, rowsV_len]; omega)) only [va0, va1, va2, va3, va4, va5, va6, va7, va8, va9, va10, va11, va12, va13, va14, va15, vb0, vb1, vb2, vb3, w_i8, w_u8, w_i16, w_u16, w_i32, w_u32, w_i64, w_u64, lt_T, lt_F, le_T, le_F, nlt_T, nlt_F, nle_T, nle_F, List.take_of_length_le, gB, gcW, gcR, posIn, renA, renL, Chunk.ren, Chunk.refs, evOpD, touchD, stepC, isFresh, nFresh, freshOf, mkR, hole, evL, evH, opd, get, putD, ofVal, cellOf, loadE, behind, lenE, idxAddrE, idxE, lookE, lookM, addPtr, intE, strE, unE, convE, AV.int, AV.bool, AV.str, ivs, take, frameOf, firstRegion, refsA, refsL, one, cellsA, floatOk, apartT, List.map, if_true, if_false, E_P, E_glob, reduceCtorEq, beq_self_eq_true, decide_true, decide_false, ↓reduceIte, Nat.reduceEqDiff, cond_true, cond_false, or_true, true_or, or_false, false_or, and_true, true_and, and_self, false_and, and_false, not_true, not_false_iff, Nat.reduceAdd, Nat.reduceSub, Nat.reduceMul, Nat.reduceLT, Nat.reduceLeDiff, Int.reduceToNat, Int.reduceLT, Int.reduceLE, Option.getD, Int.reduceMul, Int.reduceAdd, List.drop, List.take, Nat.reduceBEq, List.isEmpty, Int.reduceEq, Int.reduceNe, Int.reduceNeg, Int.reduceGT, Int.reduceGE, beq_true, beq_false, UInt8.reduceToNat, eqE, eq_self, foldE, maxE, minE, eq_T, eq_F, ndec, odec, adec, sdec, fillA, over, chop, List.replicate, leavesOk, leafOk, cellsEq, cellEq, E_byref, en8, bs22, bs36, h', rowsV_len, show ∀ B fr H, execT E B 8 (Code.loop _) fr H = rlG E B 8 (loopAt Tryd.f8 0) (gcn B (norm [10, 11, 12] fr) H) from fun B fr H => rl_intro rfl mt8_4 mb8_4 zf8_4 hd8_4 fr H]
      exact ⟨_, rfl⟩
    | false =>
      rw [hf, if_neg (by decide)] at h'
      rw [callT_eq Tryd.func8 rfl fok8 (by simp [Tryd.ntmps8])]
      simp (disch := first | omega | (simp only [List.length_append, List.length_map, List.length_set, List.length_cons, List.length_nil, List.length_take, List.length_drop, rowsV_len]; omega)) only [va0, va1, va2, va3, va4, va5, va6, va7, va8, va9, va10, va11, va12, va13, va14, va15, vb0, vb1, vb2, vb3, w_i8, w_u8, w_i16, w_u16, w_i32, w_u32, w_i64, w_u64, lt_T, lt_F, le_T, le_F, nlt_T, nlt_F, nle_T, nle_F, List.take_of_length_le, gB, gcW, gcR, posIn, renA, renL, Chunk.ren, Chunk.refs, evOpD, touchD, stepC, isFresh, nFresh, freshOf, mkR, hole, evL, evH, opd, get, putD, ofVal, cellOf, loadE, behind, lenE, idxAddrE, idxE, lookE, lookM, addPtr, intE, strE, unE, convE, AV.int, AV.bool, AV.str, ivs, take, frameOf, firstRegion, refsA, refsL, one, cellsA, floatOk, apartT, List.map, if_true, if_false, E_P, E_glob, reduceCtorEq, beq_self_eq_true, decide_true, decide_false, ↓reduceIte, Nat.reduceEqDiff, cond_true, cond_false, or_true, true_or, or_false, false_or, and_true, true_and, and_self, false_and, and_false, not_true, not_false_iff, Nat.reduceAdd, Nat.reduceSub, Nat.reduceMul, Nat.reduceLT, Nat.reduceLeDiff, Int.reduceToNat, Int.reduceLT, Int.reduceLE, Option.getD, Int.reduceMul, Int.reduceAdd, List.drop, List.take, Nat.reduceBEq, List.isEmpty, Int.reduceEq, Int.reduceNe, Int.reduceNeg, Int.reduceGT, Int.reduceGE, beq_true, beq_false, UInt8.reduceToNat, eqE, eq_self, foldE, maxE, minE, eq_T, eq_F, ndec, odec, adec, sdec, fillA, over, chop, List.replicate, leavesOk, leafOk, cellsEq, cellEq, E_byref, en8, bs22, bs36, h', rowsV_len, show ∀ B fr H, execT E B 8 (Code.loop _) fr H = rlG E B 8 (loopAt Tryd.f8 0) (gcn B (norm [10, 11, 12] fr) H) from fun B fr H => rl_intro rfl mt8_4 mb8_4 zf8_4 hd8_4 fr H]
      exact ⟨_, rfl⟩
  · rw [decide_eq_false h8, Bool.false_and]
    clear h'
    rw [callT_eq Tryd.func8 rfl fok8 (by simp [Tryd.ntmps8])]
    simp (disch := first | omega | (simp only [List.length_append, List.length_map, List.length_set, List.length_cons, List.length_nil, List.length_take, List.length_drop, rowsV_len]; omega)) only [va0, va1, va2, va3, va4, va5, va6, va7, va8, va9, va10, va11, va12, va13, va14, va15, vb0, vb1, vb2, vb3, w_i8, w_u8, w_i16, w_u16, w_i32, w_u32, w_i64, w_u64, lt_T, lt_F, le_T, le_F, nlt_T, nlt_F, nle_T, nle_F, List.take_of_length_le, gB, gcW, gcR, posIn, renA, renL, Chunk.ren, Chunk.refs, evOpD, touchD, stepC, isFresh, nFresh, freshOf, mkR, hole, evL, evH, opd, get, putD, ofVal, cellOf, loadE, behind, lenE, idxAddrE, idxE, lookE, lookM, addPtr, intE, strE, unE, convE, AV.int, AV.bool, AV.str, ivs, take, frameOf, firstRegion, refsA, refsL, one, cellsA, floatOk, apartT, List.map, if_true, if_false, E_P, E_glob, reduceCtorEq, beq_self_eq_true, decide_true, decide_false, ↓reduceIte, Nat.reduceEqDiff, cond_true, cond_false, or_true, true_or, or_false, false_or, and_true, true_and, and_self, false_and, and_false, not_true, not_false_iff, Nat.reduceAdd, Nat.reduceSub, Nat.reduceMul, Nat.reduceLT, Nat.reduceLeDiff, Int.reduceToNat, Int.reduceLT, Int.reduceLE, Option.getD, Int.reduceMul, Int.reduceAdd, List.drop, List.take, Nat.reduceBEq, List.isEmpty, Int.reduceEq, Int.reduceNe, Int.reduceNeg, Int.reduceGT, Int.reduceGE, beq_true, beq_false, UInt8.reduceToNat, eqE, eq_self, foldE, maxE, minE, eq_T, eq_F, ndec, odec, adec, sdec, fillA, over, chop, List.replicate, leavesOk, leafOk, cellsEq, cellEq, E_byref, en8, bs22, bs36, rowsV_len, show ∀ B fr H, execT E B 8 (Code.loop _) fr H = rlG E B 8 (loopAt Tryd.f8 0) (gcn B (norm [10, 11, 12] fr) H) from fun B fr H => rl_intro rfl mt8_4 mb8_4 zf8_4 hd8_4 fr H]
    exact ⟨_, rfl⟩
theorem ik8 (v : List (List Gl)) (hv : smallV v) (a b c d : Int) (e : Bool) (H : Hp) : isoK E (callT E) 8 [.agg [.i (.v (.int .i64 a)), .i (.v (.int .i64 b)), .i (.sl 1 (rowsV v) false), .i (.v (.int .i64 c)), .i (.v (.int .i64 d)), .i (.v (.bool e))]] H = some (.i (.v (.bool (fineS v))), H) := isoK_val rfl rfl rfl (c8 v hv a b c d e)
end Go.VI

namespace Go.VI
open Go.Proofs
set_option maxRecDepth 100000
set_option linter.unusedSimpArgs false
set_option linter.unusedVariables false
set_option maxHeartbeats 4000000
def plainG (g : Gl) : Gl := if g.2.2 = 2 then (g.1, g.2.1, 1) else g
def noInv (l : List Gl) : Prop := ∀ g ∈ l, g.2.2 ≠ 2
theorem plain_no (l : List Gl) : noInv (l.map plainG) := by
  intro g hg
  obtain ⟨x, _, rfl⟩ := List.mem_map.1 hg
  unfold plainG
  split
  · show (1 : Int) ≠ 2; decide
  · assumption
theorem spans_no : ∀ (l : List Gl) (i : Nat), noInv l → spansL l i none = []
  | [], i, _ => rfl
  | g :: r, i, h => by
    rw [spansL, if_neg (h g (List.mem_cons_self ..)), spans_no r (i + 1) (fun x hx => h x (List.mem_cons_of_mem _ hx))]; rfl
theorem inv_no : ∀ (l : List Gl), noInv l → invN l = 0
  | [], _ => rfl
  | g :: r, h => by
    rw [invN, if_neg (h g (List.mem_cons_self ..)), inv_no r (fun x hx => h x (List.mem_cons_of_mem _ hx))]
theorem lit_no (l : List Gl) (h : noInv l) : (readS l).lit = false := by
  show (!emS l && decide ((restS l).length ≤ 2 * invN (restS l))) = false
  have h2 : noInv (restS l) := fun g hg => h g (by
    unfold restS trimS at hg
    exact List.mem_of_mem_take (List.mem_of_mem_drop hg))
  rw [inv_no _ h2]
  unfold emS
  by_cases hz : (restS l).length = 0
  · rw [decide_eq_true hz]; rfl
  · rw [decide_eq_false hz, decide_eq_false (by omega)]; rfl
def noLit (ls : List Ln) : Prop := ∀ x ∈ ls, x.lit = false
theorem fold_no : ∀ (l : List Ln) (q : Nat × List UInt8 × Nat), noLit l → (l.foldl stpL q).2.2 = q.2.2
  | [], q, _ => rfl
  | x :: r, q, h => by
    rw [List.foldl_cons, fold_no r _ (fun y hy => h y (List.mem_cons_of_mem _ hy))]
    have := h x (List.mem_cons_self ..)
    unfold stpL
    simp only
    rw [this, if_neg (by decide)]
theorem hit_no (ls : List Ln) (h : noLit ls) (f t : Nat) : ¬ hitR ls f t := by
  intro hh
  have h2 : noLit (cutL ls f t) := fun x hx => h x (by
    unfold cutL at hx
    exact List.mem_of_mem_drop (List.mem_of_mem_take hx))
  have := fold_no _ (0, [], 0) h2
  unfold hitR foldQ at hh
  rw [this] at hh
  exact absurd hh.2 (by decide)
theorem rng_no (ls : List Ln) (h : noLit ls) : ∀ (m f : Nat), rngS ls m f [] = []
  | 0, f => rfl
  | m + 1, f => by
    rw [rngS]
    split
    · rw [show addR ls f [] = [] from if_neg (fun hh => hit_no ls h _ _ hh.2)]
      exact rng_no ls h m _
    · rfl
theorem find_no (v : List (List Gl)) (h : ∀ r ∈ v, noInv r) : findS v = [] :=
  rng_no _ (fun x hx => by obtain ⟨r, hr, rfl⟩ := List.mem_map.1 hx; exact lit_no r (h r hr)) _ _
theorem plain_text (l : List Gl) : textS (l.map plainG) = textS l := by
  unfold textS
  rw [List.map_map]
  congr 1
  refine List.map_congr_left fun g _ => ?_
  show (plainG g).1 = g.1
  unfold plainG; split <;> rfl
theorem rowsG_snoc (l : List Gl) (g : Gl) : rowsG l ++ [[.str g.1, .v (.bool g.2.1), .v (.int .i64 g.2.2)]] = rowsG (l ++ [g]) := by simp [rowsG]
theorem rowsV_snoc (l : List (List Gl)) (r : List Gl) : rowsV l ++ [[.sl 3 (rowsG r) false]] = rowsV (l ++ [r]) := by simp [rowsV]
theorem l7_1 (v o : List (List Gl)) (l : List Gl) (hl : l.length ≤ 20) (a b c d : Int) (e : Bool) (q : Int) : ∀ (m k : Nat) (dn : List Gl), k + m = l.length → dn.length + m ≤ 1000000 →
    rl E 0 7 (loopAt Tryd.f7 1) ([(3, .ptr 0 0 0 0), (6, .ref 2 0 0 (dn).length), (17, .i (.sl 1 (rowsV v) false)), (18, .i (.v (.int .i64 v.length))), (19, .i (.v (.int .i64 q))), (24, .i (.sl 3 (rowsG l) false)), (25, .i (.v (.int .i64 l.length))), (26, .i (.v (.int .i64 (k))))]) [.box [.i (.v (.int .i64 a)), .i (.v (.int .i64 b)), .ref 1 0 0 (o).length, .i (.v (.int .i64 c)), .i (.v (.int .i64 d)), .i (.v (.bool e))], .sl 1 0 (rowsV (o)) false, .sl 3 0 (rowsG dn) false] =
      some (.exit 2, [(3, .ptr 0 0 0 0), (6, .ref 2 0 0 (dn ++ (l.drop k).map plainG).length), (17, .i (.sl 1 (rowsV v) false)), (18, .i (.v (.int .i64 v.length))), (19, .i (.v (.int .i64 q))), (24, .i (.sl 3 (rowsG l) false)), (25, .i (.v (.int .i64 l.length))), (26, .i (.v (.int .i64 (l.length)))), (27, .i (.v (.bool false)))], [.box [.i (.v (.int .i64 a)), .i (.v (.int .i64 b)), .ref 1 0 0 (o).length, .i (.v (.int .i64 c)), .i (.v (.int .i64 d)), .i (.v (.bool e))], .sl 1 0 (rowsV (o)) false, .sl 3 0 (rowsG (dn ++ (l.drop k).map plainG)) false]) := by
  intro m
  induction m with
  | zero =>
    intro k dn hk hd
    obtain rfl : k = l.length := by omega
    rw [List.drop_length, List.map_nil, List.append_nil]
    rw [rl_step (fn := Tryd.f7) (k := 1) rfl]
    simp (disch := first | omega | (simp only [List.length_append, List.length_map, List.length_set, List.length_cons, List.length_nil, List.length_take, List.length_drop, rowsV_len, rowsG_len]; omega)) only [va0, va1, va2, va3, va4, va5, va6, va7, va8, va9, va10, va11, va12, va13, va14, va15, vb0, vb1, vb2, vb3, w_i8, w_u8, w_i16, w_u16, w_i32, w_u32, w_i64, w_u64, lt_T, lt_F, le_T, le_F, nlt_T, nlt_F, nle_T, nle_F, List.take_of_length_le, gB, gcW, gcR, posIn, renA, renL, Chunk.ren, Chunk.refs, evOpD, touchD, stepC, isFresh, nFresh, freshOf, mkR, hole, evL, evH, opd, get, putD, ofVal, cellOf, loadE, behind, lenE, idxAddrE, idxE, lookE, lookM, addPtr, intE, strE, unE, convE, AV.int, AV.bool, AV.str, ivs, take, frameOf, firstRegion, refsA, refsL, one, cellsA, floatOk, apartT, List.map, if_true, if_false, E_P, E_glob, reduceCtorEq, beq_self_eq_true, decide_true, decide_false, ↓reduceIte, Nat.reduceEqDiff, cond_true, cond_false, or_true, true_or, or_false, false_or, and_true, true_and, and_self, false_and, and_false, not_true, not_false_iff, Nat.reduceAdd, Nat.reduceSub, Nat.reduceMul, Nat.reduceLT, Nat.reduceLeDiff, Int.reduceToNat, Int.reduceLT, Int.reduceLE, Option.getD, Int.reduceMul, Int.reduceAdd, List.drop, List.take, Nat.reduceBEq, List.isEmpty, Int.reduceEq, Int.reduceNe, Int.reduceNeg, Int.reduceGT, Int.reduceGE, beq_true, beq_false, UInt8.reduceToNat, eqE, eq_self, foldE, maxE, minE, eq_T, eq_F, ndec, odec, adec, sdec, fillA, over, chop, List.replicate, leavesOk, leafOk, cellsEq, cellEq, E_byref, en7, bs22, bs27, bs36, bs38, rowsV_len, rowsG_len, show ∀ B fr H, execT E B 7 (Code.loop _) fr H = rlM E B 7 (loopAt Tryd.f7 1) [3, 6, 17, 18, 19, 24, 25, 26] [] (matF [(6, 3)] fr H).1 (matB [] (matF [(6, 3)] fr H).1 (matF [(6, 3)] fr H).2) from fun B fr H => rl_introM rfl mt7_10 mb7_10 zf7_10 hd7_10 fr H]
  | succ m ih =>
    intro k dn hk hd
    have hlt : k < l.length := by omega
    have hrow := rowsG_D hlt
    rw [drop_G hlt, List.map_cons]
    have hsn := rowsG_snoc dn (plainG (atG l k))
    have e1 := ih (k + 1) (dn ++ [plainG (atG l k)]) (by omega) (by simp; omega)
    rw [List.append_assoc, List.singleton_append] at e1
    refine Eq.trans ?_ e1
    clear e1 ih
    unfold plainG at hsn ⊢
    have htk : List.take dn.length (rowsG dn) = rowsG dn := List.take_of_length_le (by rw [rowsG_len]; exact Nat.le_refl _)
    generalize atG l k = g at *
    obtain ⟨t, ww, s⟩ := g
    simp only at hrow hsn ⊢
    by_cases h : s = 2
    · subst h
      rw [if_pos rfl] at hsn ⊢
      simp only at hsn ⊢
      rw [rl_step (fn := Tryd.f7) (k := 1) rfl]
      simp (disch := first | omega | (simp only [List.length_append, List.length_map, List.length_set, List.length_cons, List.length_nil, List.length_take, List.length_drop, rowsV_len, rowsG_len]; omega)) only [va0, va1, va2, va3, va4, va5, va6, va7, va8, va9, va10, va11, va12, va13, va14, va15, vb0, vb1, vb2, vb3, w_i8, w_u8, w_i16, w_u16, w_i32, w_u32, w_i64, w_u64, lt_T, lt_F, le_T, le_F, nlt_T, nlt_F, nle_T, nle_F, List.take_of_length_le, gB, gcW, gcR, posIn, renA, renL, Chunk.ren, Chunk.refs, evOpD, touchD, stepC, isFresh, nFresh, freshOf, mkR, hole, evL, evH, opd, get, putD, ofVal, cellOf, loadE, behind, lenE, idxAddrE, idxE, lookE, lookM, addPtr, intE, strE, unE, convE, AV.int, AV.bool, AV.str, ivs, take, frameOf, firstRegion, refsA, refsL, one, cellsA, floatOk, apartT, List.map, if_true, if_false, E_P, E_glob, reduceCtorEq, beq_self_eq_true, decide_true, decide_false, ↓reduceIte, Nat.reduceEqDiff, cond_true, cond_false, or_true, true_or, or_false, false_or, and_true, true_and, and_self, false_and, and_false, not_true, not_false_iff, Nat.reduceAdd, Nat.reduceSub, Nat.reduceMul, Nat.reduceLT, Nat.reduceLeDiff, Int.reduceToNat, Int.reduceLT, Int.reduceLE, Option.getD, Int.reduceMul, Int.reduceAdd, List.drop, List.take, Nat.reduceBEq, List.isEmpty, Int.reduceEq, Int.reduceNe, Int.reduceNeg, Int.reduceGT, Int.reduceGE, beq_true, beq_false, UInt8.reduceToNat, eqE, eq_self, foldE, maxE, minE, eq_T, eq_F, ndec, odec, adec, sdec, fillA, over, chop, List.replicate, leavesOk, leafOk, cellsEq, cellEq, E_byref, en7, bs22, bs27, bs36, bs38, hrow, hsn, htk, List.length_append, List.length_singleton, rowsV_len, rowsG_len, show ∀ B fr H, execT E B 7 (Code.loop _) fr H = rlM E B 7 (loopAt Tryd.f7 1) [3, 6, 17, 18, 19, 24, 25, 26] [] (matF [(6, 3)] fr H).1 (matB [] (matF [(6, 3)] fr H).1 (matF [(6, 3)] fr H).2) from fun B fr H => rl_introM rfl mt7_10 mb7_10 zf7_10 hd7_10 fr H]
    · rw [if_neg h] at hsn ⊢
      simp only at hsn ⊢
      rw [rl_step (fn := Tryd.f7) (k := 1) rfl]
      simp (disch := first | omega | (simp only [List.length_append, List.length_map, List.length_set, List.length_cons, List.length_nil, List.length_take, List.length_drop, rowsV_len, rowsG_len]; omega)) only [va0, va1, va2, va3, va4, va5, va6, va7, va8, va9, va10, va11, va12, va13, va14, va15, vb0, vb1, vb2, vb3, w_i8, w_u8, w_i16, w_u16, w_i32, w_u32, w_i64, w_u64, lt_T, lt_F, le_T, le_F, nlt_T, nlt_F, nle_T, nle_F, List.take_of_length_le, gB, gcW, gcR, posIn, renA, renL, Chunk.ren, Chunk.refs, evOpD, touchD, stepC, isFresh, nFresh, freshOf, mkR, hole, evL, evH, opd, get, putD, ofVal, cellOf, loadE, behind, lenE, idxAddrE, idxE, lookE, lookM, addPtr, intE, strE, unE, convE, AV.int, AV.bool, AV.str, ivs, take, frameOf, firstRegion, refsA, refsL, one, cellsA, floatOk, apartT, List.map, if_true, if_false, E_P, E_glob, reduceCtorEq, beq_self_eq_true, decide_true, decide_false, ↓reduceIte, Nat.reduceEqDiff, cond_true, cond_false, or_true, true_or, or_false, false_or, and_true, true_and, and_self, false_and, and_false, not_true, not_false_iff, Nat.reduceAdd, Nat.reduceSub, Nat.reduceMul, Nat.reduceLT, Nat.reduceLeDiff, Int.reduceToNat, Int.reduceLT, Int.reduceLE, Option.getD, Int.reduceMul, Int.reduceAdd, List.drop, List.take, Nat.reduceBEq, List.isEmpty, Int.reduceEq, Int.reduceNe, Int.reduceNeg, Int.reduceGT, Int.reduceGE, beq_true, beq_false, UInt8.reduceToNat, eqE, eq_self, foldE, maxE, minE, eq_T, eq_F, ndec, odec, adec, sdec, fillA, over, chop, List.replicate, leavesOk, leafOk, cellsEq, cellEq, E_byref, en7, bs22, bs27, bs36, bs38, hrow, h, hsn, htk, List.length_append, List.length_singleton, rowsV_len, rowsG_len, show ∀ B fr H, execT E B 7 (Code.loop _) fr H = rlM E B 7 (loopAt Tryd.f7 1) [3, 6, 17, 18, 19, 24, 25, 26] [] (matF [(6, 3)] fr H).1 (matB [] (matF [(6, 3)] fr H).1 (matF [(6, 3)] fr H).2) from fun B fr H => rl_introM rfl mt7_10 mb7_10 zf7_10 hd7_10 fr H]
theorem l7_0 (v : List (List Gl)) (hv : okV v) (hv2 : ∀ r ∈ v, r.length ≤ 20) (a b c d : Int) (e : Bool) : ∀ (m k : Nat) (o : List (List Gl)), k + m = v.length → o.length + m ≤ 1000000 →
    rl E 0 7 (loopAt Tryd.f7 0) ([(3, .ptr 0 0 0 0), (17, .i (.sl 1 (rowsV v) false)), (18, .i (.v (.int .i64 v.length))), (19, .i (.v (.int .i64 (k))))]) [.box [.i (.v (.int .i64 a)), .i (.v (.int .i64 b)), .ref 1 0 0 (o).length, .i (.v (.int .i64 c)), .i (.v (.int .i64 d)), .i (.v (.bool e))], .sl 1 0 (rowsV (o)) false] =
      some (.exit 0, [(3, .ptr 0 0 0 0), (17, .i (.sl 1 (rowsV v) false)), (18, .i (.v (.int .i64 v.length))), (19, .i (.v (.int .i64 (v.length)))), (20, .i (.v (.bool false)))], [.box [.i (.v (.int .i64 a)), .i (.v (.int .i64 b)), .ref 1 0 0 (o ++ (v.drop k).map (fun r => r.map plainG)).length, .i (.v (.int .i64 c)), .i (.v (.int .i64 d)), .i (.v (.bool e))], .sl 1 0 (rowsV (o ++ (v.drop k).map (fun r => r.map plainG))) false]) := by
  intro m
  induction m with
  | zero =>
    intro k o hk ho
    obtain rfl : k = v.length := by omega
    rw [List.drop_length, List.map_nil, List.append_nil]
    rw [rl_step (fn := Tryd.f7) (k := 0) rfl]
    simp (disch := first | omega | (simp only [List.length_append, List.length_map, List.length_set, List.length_cons, List.length_nil, List.length_take, List.length_drop, rowsV_len, rowsG_len]; omega)) only [va0, va1, va2, va3, va4, va5, va6, va7, va8, va9, va10, va11, va12, va13, va14, va15, vb0, vb1, vb2, vb3, w_i8, w_u8, w_i16, w_u16, w_i32, w_u32, w_i64, w_u64, lt_T, lt_F, le_T, le_F, nlt_T, nlt_F, nle_T, nle_F, List.take_of_length_le, gB, gcW, gcR, posIn, renA, renL, Chunk.ren, Chunk.refs, evOpD, touchD, stepC, isFresh, nFresh, freshOf, mkR, hole, evL, evH, opd, get, putD, ofVal, cellOf, loadE, behind, lenE, idxAddrE, idxE, lookE, lookM, addPtr, intE, strE, unE, convE, AV.int, AV.bool, AV.str, ivs, take, frameOf, firstRegion, refsA, refsL, one, cellsA, floatOk, apartT, List.map, if_true, if_false, E_P, E_glob, reduceCtorEq, beq_self_eq_true, decide_true, decide_false, ↓reduceIte, Nat.reduceEqDiff, cond_true, cond_false, or_true, true_or, or_false, false_or, and_true, true_and, and_self, false_and, and_false, not_true, not_false_iff, Nat.reduceAdd, Nat.reduceSub, Nat.reduceMul, Nat.reduceLT, Nat.reduceLeDiff, Int.reduceToNat, Int.reduceLT, Int.reduceLE, Option.getD, Int.reduceMul, Int.reduceAdd, List.drop, List.take, Nat.reduceBEq, List.isEmpty, Int.reduceEq, Int.reduceNe, Int.reduceNeg, Int.reduceGT, Int.reduceGE, beq_true, beq_false, UInt8.reduceToNat, eqE, eq_self, foldE, maxE, minE, eq_T, eq_F, ndec, odec, adec, sdec, fillA, over, chop, List.replicate, leavesOk, leafOk, cellsEq, cellEq, E_byref, en7, bs22, bs27, bs36, bs38, rowsV_len, rowsG_len, show ∀ B fr H, execT E B 7 (Code.loop _) fr H = rlG E B 7 (loopAt Tryd.f7 0) (gcn B (norm [3, 17, 18, 19] fr) H) from fun B fr H => rl_intro rfl mt7_6 mb7_6 zf7_6 hd7_6 fr H]
  | succ m ih =>
    intro k o hk ho
    have hlt : k < v.length := by omega
    have hv1 := hv.1
    have hrow := rowsV_D hlt
    have hl20 := hv2 (atV v k) (by rw [atV_eq hlt]; exact List.getElem_mem hlt)
    rw [drop_V hlt, List.map_cons]
    have e1 := ih (k + 1) (o ++ [(atV v k).map plainG]) (by omega) (by simp; omega)
    rw [List.append_assoc, List.singleton_append] at e1
    refine Eq.trans ?_ e1
    clear e1 ih
    have hsn := rowsV_snoc o ((atV v k).map plainG)
    have htk : List.take o.length (rowsV o) = rowsV o := List.take_of_length_le (by rw [rowsV_len]; exact Nat.le_refl _)
    have h1 := l7_1 v o (atV v k) hl20 a b c d e k (atV v k).length 0 [] (by omega) (by simp; omega)
    rw [List.drop_zero, List.nil_append] at h1
    have hml : ((atV v k).map plainG).length = (atV v k).length := List.length_map ..
    have hH := fun H => ik14 ((atV v k).map plainG) (by rw [hml]; omega) H
    rw [show spansS ((atV v k).map plainG) = [] from spans_no _ _ (plain_no _)] at hH
    generalize (atV v k).map plainG = pl at *
    generalize atV v k = l at *
    have h1' : rl E 0 7 (loopAt Tryd.f7 1) [(3, .ptr 0 0 0 0), (6, .ref 2 0 0 0), (17, .i (.sl 1 (rowsV v) false)), (18, .i (.v (.int .i64 v.length))), (19, .i (.v (.int .i64 k))), (24, .i (.sl 3 (rowsG l) false)), (25, .i (.v (.int .i64 l.length))), (26, .i (.v (.int .i64 0)))] [.box [.i (.v (.int .i64 a)), .i (.v (.int .i64 b)), .ref 1 0 0 (o).length, .i (.v (.int .i64 c)), .i (.v (.int .i64 d)), .i (.v (.bool e))], .sl 1 0 (rowsV (o)) false, .sl 3 0 [] false] = _ := h1
    clear h1
    have htk2 : List.take pl.length (rowsG pl) = rowsG pl := List.take_of_length_le (by rw [rowsG_len]; exact Nat.le_refl _)
    have hP : rowsP [] = [] := rfl
    rw [rl_step (fn := Tryd.f7) (k := 0) rfl]
    simp (disch := first | omega | (simp only [List.length_append, List.length_map, List.length_set, List.length_cons, List.length_nil, List.length_take, List.length_drop, rowsV_len, rowsG_len]; omega)) only [va0, va1, va2, va3, va4, va5, va6, va7, va8, va9, va10, va11, va12, va13, va14, va15, vb0, vb1, vb2, vb3, w_i8, w_u8, w_i16, w_u16, w_i32, w_u32, w_i64, w_u64, lt_T, lt_F, le_T, le_F, nlt_T, nlt_F, nle_T, nle_F, List.take_of_length_le, gB, gcW, gcR, posIn, renA, renL, Chunk.ren, Chunk.refs, evOpD, touchD, stepC, isFresh, nFresh, freshOf, mkR, hole, evL, evH, opd, get, putD, ofVal, cellOf, loadE, behind, lenE, idxAddrE, idxE, lookE, lookM, addPtr, intE, strE, unE, convE, AV.int, AV.bool, AV.str, ivs, take, frameOf, firstRegion, refsA, refsL, one, cellsA, floatOk, apartT, List.map, if_true, if_false, E_P, E_glob, reduceCtorEq, beq_self_eq_true, decide_true, decide_false, ↓reduceIte, Nat.reduceEqDiff, cond_true, cond_false, or_true, true_or, or_false, false_or, and_true, true_and, and_self, false_and, and_false, not_true, not_false_iff, Nat.reduceAdd, Nat.reduceSub, Nat.reduceMul, Nat.reduceLT, Nat.reduceLeDiff, Int.reduceToNat, Int.reduceLT, Int.reduceLE, Option.getD, Int.reduceMul, Int.reduceAdd, List.drop, List.take, Nat.reduceBEq, List.isEmpty, Int.reduceEq, Int.reduceNe, Int.reduceNeg, Int.reduceGT, Int.reduceGE, beq_true, beq_false, UInt8.reduceToNat, eqE, eq_self, foldE, maxE, minE, eq_T, eq_F, ndec, odec, adec, sdec, fillA, over, chop, List.replicate, leavesOk, leafOk, cellsEq, cellEq, E_byref, en7, bs22, bs27, bs36, bs38, hrow, h1', hH, hP, hsn, htk, htk2, hml, List.length_append, List.length_singleton, rowsV_len, rowsG_len, show ∀ B fr H, execT E B 7 (Code.loop _) fr H = rlG E B 7 (loopAt Tryd.f7 0) (gcn B (norm [3, 17, 18, 19] fr) H) from fun B fr H => rl_intro rfl mt7_6 mb7_6 zf7_6 hd7_6 fr H, show ∀ B fr H, execT E B 7 (Code.loop _) fr H = rlM E B 7 (loopAt Tryd.f7 1) [3, 6, 17, 18, 19, 24, 25, 26] [] (matF [(6, 3)] fr H).1 (matB [] (matF [(6, 3)] fr H).1 (matF [(6, 3)] fr H).2) from fun B fr H => rl_introM rfl mt7_10 mb7_10 zf7_10 hd7_10 fr H]
end Go.VI

namespace Go.VI
open Go.Proofs
set_option maxRecDepth 100000
set_option linter.unusedSimpArgs false
set_option linter.unusedVariables false
set_option maxHeartbeats 4000000
theorem law7 (v : List (List Gl)) (hv : smallV v) (a b c d : Int) (e : Bool) : ∃ L, callT E 7 [.agg [.i (.v (.int .i64 a)), .i (.v (.int .i64 b)), .i (.sl 1 (rowsV v) false), .i (.v (.int .i64 c)), .i (.v (.int .i64 d)), .i (.v (.bool e))]] [] = some (.i (.v (.bool true)), L) := by
  have hf := fun H => ik8 v hv a b c d e H
  have hv1 := hv.1
  cases hfi : fineS v with
  | false =>
    rw [hfi] at hf
    rw [callT_eq Tryd.func7 rfl fok7 (by simp [Tryd.ntmps7])]
    simp (disch := first | omega | (simp only [List.length_append, List.length_map, List.length_set, List.length_cons, List.length_nil, List.length_take, List.length_drop, rowsV_len]; omega)) only [va0, va1, va2, va3, va4, va5, va6, va7, va8, va9, va10, va11, va12, va13, va14, va15, vb0, vb1, vb2, vb3, w_i8, w_u8, w_i16, w_u16, w_i32, w_u32, w_i64, w_u64, lt_T, lt_F, le_T, le_F, nlt_T, nlt_F, nle_T, nle_F, List.take_of_length_le, gB, gcW, gcR, posIn, renA, renL, Chunk.ren, Chunk.refs, evOpD, touchD, stepC, isFresh, nFresh, freshOf, mkR, hole, evL, evH, opd, get, putD, ofVal, cellOf, loadE, behind, lenE, idxAddrE, idxE, lookE, lookM, addPtr, intE, strE, unE, convE, AV.int, AV.bool, AV.str, ivs, take, frameOf, firstRegion, refsA, refsL, one, cellsA, floatOk, apartT, List.map, if_true, if_false, E_P, E_glob, reduceCtorEq, beq_self_eq_true, decide_true, decide_false, ↓reduceIte, Nat.reduceEqDiff, cond_true, cond_false, or_true, true_or, or_false, false_or, and_true, true_and, and_self, false_and, and_false, not_true, not_false_iff, Nat.reduceAdd, Nat.reduceSub, Nat.reduceMul, Nat.reduceLT, Nat.reduceLeDiff, Int.reduceToNat, Int.reduceLT, Int.reduceLE, Option.getD, Int.reduceMul, Int.reduceAdd, List.drop, List.take, Nat.reduceBEq, List.isEmpty, Int.reduceEq, Int.reduceNe, Int.reduceNeg, Int.reduceGT, Int.reduceGE, beq_true, beq_false, UInt8.reduceToNat, eqE, eq_self, foldE, maxE, minE, eq_T, eq_F, ndec, odec, adec, sdec, fillA, over, chop, List.replicate, leavesOk, leafOk, cellsEq, cellEq, E_byref, en7, bs22, bs27, bs36, bs38, hf, rowsV_len, ik9]
    exact ⟨_, rfl⟩
  | true =>
    rw [hfi] at hf
    obtain ⟨g1, g2, g3⟩ := fine_ok hv hfi
    have h := l7_0 v g1 (fun r hr => (g3 r hr).1) a b c d e v.length 0 [] (by omega) (by simp; omega)
    rw [List.drop_zero, List.nil_append] at h
    have hw : okV (v.map fun r => r.map plainG) := ⟨by rw [List.length_map]; omega, fun r hr => by
      obtain ⟨x, hx, rfl⟩ := List.mem_map.1 hr
      have := g3 x hx
      rw [List.length_map, plain_text]
      omega⟩
    have hF := fun H => ik10 (v.map fun r => r.map plainG) hw a b c d e H
    rw [find_no _ (fun r hr => by obtain ⟨x, hx, rfl⟩ := List.mem_map.1 hr; exact plain_no x)] at hF
    have hml : (v.map fun r => r.map plainG).length = v.length := List.length_map ..
    generalize (v.map fun r => r.map plainG) = o at *
    have htk : List.take o.length (rowsV o) = rowsV o := List.take_of_length_le (by rw [rowsV_len]; exact Nat.le_refl _)
    have hR : rowsR [] = [] := rfl
    have h' : rl E 0 7 (loopAt Tryd.f7 0) [(3, .ptr 0 0 0 0), (17, .i (.sl 1 (rowsV v) false)), (18, .i (.v (.int .i64 v.length))), (19, .i (.v (.int .i64 0)))] [.box [.i (.v (.int .i64 a)), .i (.v (.int .i64 b)), .ref 1 0 0 0, .i (.v (.int .i64 c)), .i (.v (.int .i64 d)), .i (.v (.bool e))], .sl 1 0 [] false] = _ := h
    clear h
    rw [callT_eq Tryd.func7 rfl fok7 (by simp [Tryd.ntmps7])]
    simp (disch := first | omega | (simp only [List.length_append, List.length_map, List.length_set, List.length_cons, List.length_nil, List.length_take, List.length_drop, rowsV_len, rowsR_len]; omega)) only [va0, va1, va2, va3, va4, va5, va6, va7, va8, va9, va10, va11, va12, va13, va14, va15, vb0, vb1, vb2, vb3, w_i8, w_u8, w_i16, w_u16, w_i32, w_u32, w_i64, w_u64, lt_T, lt_F, le_T, le_F, nlt_T, nlt_F, nle_T, nle_F, List.take_of_length_le, gB, gcW, gcR, posIn, renA, renL, Chunk.ren, Chunk.refs, evOpD, touchD, stepC, isFresh, nFresh, freshOf, mkR, hole, evL, evH, opd, get, putD, ofVal, cellOf, loadE, behind, lenE, idxAddrE, idxE, lookE, lookM, addPtr, intE, strE, unE, convE, AV.int, AV.bool, AV.str, ivs, take, frameOf, firstRegion, refsA, refsL, one, cellsA, floatOk, apartT, List.map, if_true, if_false, E_P, E_glob, reduceCtorEq, beq_self_eq_true, decide_true, decide_false, ↓reduceIte, Nat.reduceEqDiff, cond_true, cond_false, or_true, true_or, or_false, false_or, and_true, true_and, and_self, false_and, and_false, not_true, not_false_iff, Nat.reduceAdd, Nat.reduceSub, Nat.reduceMul, Nat.reduceLT, Nat.reduceLeDiff, Int.reduceToNat, Int.reduceLT, Int.reduceLE, Option.getD, Int.reduceMul, Int.reduceAdd, List.drop, List.take, Nat.reduceBEq, List.isEmpty, Int.reduceEq, Int.reduceNe, Int.reduceNeg, Int.reduceGT, Int.reduceGE, beq_true, beq_false, UInt8.reduceToNat, eqE, eq_self, foldE, maxE, minE, eq_T, eq_F, ndec, odec, adec, sdec, fillA, over, chop, List.replicate, leavesOk, leafOk, cellsEq, cellEq, E_byref, en7, bs22, bs27, bs36, bs38, hf, h', hF, hR, htk, hml, rowsV_len, rowsR_len, ik9, show ∀ B fr H, execT E B 7 (Code.loop _) fr H = rlG E B 7 (loopAt Tryd.f7 0) (gcn B (norm [3, 17, 18, 19] fr) H) from fun B fr H => rl_intro rfl mt7_6 mb7_6 zf7_6 hd7_6 fr H]
    exact ⟨_, rfl⟩
end Go.VI

namespace Go.VI
open Go.WideShapes Go.ChangeShapes Go.RowKit
set_option linter.unusedSimpArgs false
set_option linter.unusedVariables false
mutual
def bI : IV → Nat
  | .str l => l.length
  | .sl _ rows _ => bR rows
  | .v _ => 0
  | .pt _ _ => 0
  | .mp _ => 0
def bL : List IV → Nat
  | [] => 0
  | a :: r => bI a + bL r
def bR : List (List IV) → Nat
  | [] => 0
  | a :: r => bL a + 1 + bR r
end
mutual
def wd {Hh : Type} : DataW Hh → Nat
  | .lit (.string b) => b.length
  | .lit _ => 0
  | .nil => 0
  | .ptr _ => 0
  | .slice e _ => wdA e
  | .agg p => wdA p
  | .iface _ _ => 0
  | .map _ => 0
  | .held _ => 0
def wdA {Hh : Type} : List (DataW Hh) → Nat
  | [] => 0
  | d :: r => wd d + 1 + wdA r
end
theorem bL_app : ∀ (a b : List IV), bL (a ++ b) = bL a + bL b
  | [], b => by simp [bL]
  | x :: a, b => by rw [List.cons_append, bL, bL, bL_app a b]; omega
theorem bR_le {Hh : Type} : ∀ (rows : List (List IV)) (ds : List (DataW Hh)), rows.length = ds.length → (∀ (i : Nat) r d, rows[i]? = some r → ds[i]? = some d → bL r ≤ wd d) → bR rows ≤ wdA ds
  | [], ds, _, _ => by rw [bR]; exact Nat.zero_le _
  | r :: rows, [], h, _ => by simp at h
  | r :: rows, d :: ds, h, hx => by
    rw [bR, wdA]
    have h1 := hx 0 r d rfl rfl
    have h2 := bR_le rows ds (by simpa using h) (fun i r d hr hd => hx (i + 1) r d (by simpa using hr) (by simpa using hd))
    omega
theorem bR_in : ∀ {rows : List (List IV)} {r : List IV}, r ∈ rows → bL r + 1 ≤ bR rows
  | a :: rows, r, h => by
    rw [bR]
    rcases List.mem_cons.1 h with rfl | h
    · omega
    · have := bR_in h; omega
theorem bR_len : ∀ (rows : List (List IV)), rows.length ≤ bR rows
  | [] => Nat.zero_le _
  | a :: rows => by rw [bR, List.length_cons]; have := bR_len rows; omega
section
variable {Hh : Type} {enc : TypeId × Value → Hh} {P : Program} {W : World} {sp : Nat → Bool} {held : Bool}
theorem trod_arrayB {t e : TypeId} {m fuel : Nat} {cs : List Value} {x : DataW Hh × List MemPlace} (ht : P.underlying t = some (.array m e)) (h : DataW.trod enc P W 0 sp held fuel t cs = some x) :
    ∃ n xs, fuel = n + 1 ∧ x.1 = .agg (xs.map (·.1)) ∧ cs.length = P.cellsOf t ∧ List.length (α := DataW Hh × List MemPlace) xs = m ∧ ∀ i, i < m → ∃ y, DataW.trod enc P W 0 sp held n e ((cs.drop (i * P.cellsOf e)).take (P.cellsOf e)) = some y ∧ (xs.map (·.1))[i]? = some y.1 := by
  cases fuel with
  | zero => simp [DataW.trod] at h
  | succ n =>
    unfold DataW.trod at h
    rw [ht] at h
    split at h <;> simp_all
    obtain ⟨hl, xs, hp, hd⟩ := h
    have h2 := mapM_some_length hp
    rw [List.length_range] at h2
    refine ⟨xs, by rw [← hd], h2, fun i hi => ?_⟩
    have h1 := mapM_some_get hp i i (by simp [List.getElem?_range, hi])
    have h3 : i < xs.length := by omega
    rw [h1, List.getElem?_eq_getElem h3]
    exact ⟨xs[i].1, ⟨xs[i].2, rfl⟩, by simp; exact ⟨xs[i].2, rfl⟩⟩

theorem read_fieldsB {n : Nat} (rd : ∀ (d : Nat) (t : TypeId) (cs : List Value) (x : DataW Hh × List MemPlace) (cts : List Cty), t < P.types.size → ctys P d t = some cts → DataW.trod enc P W 0 sp held n t cs = some x → ∃ l, Gd P (imm0 W) cs cts l ∧ bL l ≤ wd x.1) (d : Nat) :
    ∀ (fl : List Field) (cl : List (List Cty)) (cs : List Value) (ds : List (DataW Hh)), ds.length = fl.length → fl.mapM (fun f => ctys P d f.type) = some cl → (∀ f ∈ fl, f.type < P.types.size) → cs.length = (fl.map fun f => P.cellsOf f.type).sum →
      (∀ (j : Nat) f, fl[j]? = some f → ∃ x, DataW.trod enc P W 0 sp held n f.type ((cs.drop ((fl.take j).map fun f => P.cellsOf f.type).sum).take (P.cellsOf f.type)) = some x ∧ ds[j]? = some x.1) →
      ∃ l, Gd P (imm0 W) cs cl.flatten l ∧ bL l ≤ wdA ds := by
  intro fl
  induction fl with
  | nil =>
    intro cl cs ds _ h _ hlen _
    simp at h hlen
    subst h
    obtain rfl : cs = [] := hlen
    exact ⟨[], trivial, Nat.zero_le _⟩
  | cons f fl ih =>
    intro cl cs ds hds h hty hlen hx
    obtain ⟨d0, ds, rfl⟩ : ∃ a b, ds = a :: b := by cases ds with | nil => simp at hds | cons a b => exact ⟨a, b, rfl⟩
    rw [List.mapM_cons] at h
    cases h1 : ctys P d f.type with
    | none => rw [h1] at h; cases h
    | some c1 =>
      cases h2 : fl.mapM (fun f => ctys P d f.type) with
      | none => rw [h1, h2] at h; cases h
      | some c2 =>
        rw [h1, h2] at h
        have h' : some (c1 :: c2) = some cl := h
        cases h'
        obtain ⟨x, hx0, hd0⟩ := hx 0 f rfl
        simp only [List.take_zero, List.map_nil, List.sum_nil, List.drop_zero] at hx0
        simp only [List.getElem?_cons_zero, Option.some.injEq] at hd0
        subst hd0
        obtain ⟨l1, g1, b1⟩ := rd d f.type _ x c1 (hty f (by simp)) h1 hx0
        simp only [List.map_cons, List.sum_cons] at hlen
        obtain ⟨l2, g2, b2⟩ := ih c2 (cs.drop (P.cellsOf f.type)) ds (by simpa using hds) h2 (fun g hg => hty g (by simp [hg])) (by rw [List.length_drop]; omega) (fun j g hg => by
          obtain ⟨y, hy, hd⟩ := hx (j + 1) g (by simpa using hg)
          simp only [List.take_succ_cons, List.map_cons, List.sum_cons] at hy
          exact ⟨y, by rw [List.drop_drop]; exact hy, by simpa using hd⟩)
        refine ⟨l1 ++ l2, ?_, by rw [bL_app, wdA]; omega⟩
        have := g1.append g2
        rw [List.take_append_drop] at this
        simpa using this

theorem read_arrayB {n : Nat} {e : TypeId} {c1 : List Cty} (rd : ∀ (cs : List Value) (x : DataW Hh × List MemPlace), DataW.trod enc P W 0 sp held n e cs = some x → ∃ l, Gd P (imm0 W) cs c1 l ∧ bL l ≤ wd x.1) :
    ∀ (m : Nat) (cs : List Value) (ds : List (DataW Hh)), ds.length = m → cs.length = m * P.cellsOf e → (∀ i, i < m → ∃ y, DataW.trod enc P W 0 sp held n e ((cs.drop (i * P.cellsOf e)).take (P.cellsOf e)) = some y ∧ ds[i]? = some y.1) → ∃ l, Gd P (imm0 W) cs (List.replicate m c1).flatten l ∧ bL l ≤ wdA ds := by
  intro m
  induction m with
  | zero =>
    intro cs ds hds hlen _
    obtain rfl : cs = [] := by simpa using hlen
    exact ⟨[], trivial, Nat.zero_le _⟩
  | succ m ih =>
    intro cs ds hds hlen hx
    obtain ⟨d0, ds, rfl⟩ : ∃ a b, ds = a :: b := by cases ds with | nil => simp at hds | cons a b => exact ⟨a, b, rfl⟩
    obtain ⟨x, hx0, hd0⟩ := hx 0 (by omega)
    simp only [Nat.zero_mul, List.drop_zero] at hx0
    simp only [List.getElem?_cons_zero, Option.some.injEq] at hd0
    subst hd0
    obtain ⟨l1, g1, b1⟩ := rd _ x hx0
    rw [Nat.succ_mul] at hlen
    obtain ⟨l2, g2, b2⟩ := ih (cs.drop (P.cellsOf e)) ds (by simpa using hds) (by rw [List.length_drop]; omega) (fun i hi => by
      obtain ⟨y, hy, hd⟩ := hx (i + 1) (by omega)
      rw [Nat.succ_mul, Nat.add_comm] at hy
      exact ⟨y, by rw [List.drop_drop]; exact hy, by simpa using hd⟩)
    refine ⟨l1 ++ l2, ?_, by rw [bL_app, wdA]; omega⟩
    have := g1.append g2
    rw [List.take_append_drop] at this
    simpa [List.replicate_succ] using this

theorem read_cellsB (hl : laidOutB P = true) : ∀ (n d : Nat) (t : TypeId) (cs : List Value) (x : DataW Hh × List MemPlace) (cts : List Cty), t < P.types.size → ctys P d t = some cts →
    DataW.trod enc P W 0 sp held n t cs = some x → ∃ l, Gd P (imm0 W) cs cts l ∧ bL l ≤ wd x.1 := by
  intro n
  induction n with
  | zero => intro d t cs x cts _ _ h; simp [DataW.trod] at h
  | succ n ih =>
    intro d t cs x cts ht hc h
    cases d with
    | zero => cases hc
    | succ d =>
      rw [ctys] at hc
      split at hc
      · rename_i hu
        cases hc
        obtain ⟨b, rfl, rfl⟩ := DataW.trod_bool hu h
        exact ⟨[.v (.bool b)], ⟨.v _ rfl, .bool b, trivial⟩, by simp [bL, bI]⟩
      · rename_i k hu
        cases hc
        obtain ⟨z, rfl, rfl, hw⟩ := DataW.trod_int hu h
        exact ⟨[.v (.int k z)], ⟨.v _ rfl, .int k z hw, trivial⟩, by simp [bL, bI]⟩
      · rename_i hu
        cases hc
        obtain ⟨s, rfl, rfl, hw⟩ := DataW.trod_string hu h
        exact ⟨[.str s.data.toList], ⟨.str _, .str _ (by simpa using hw), trivial⟩, by simp [bL, bI, wd]⟩
      · rename_i e hu
        split at hc
        · rename_i c0 c1 he
          cases hc
          rcases DataW.trod_slice hu h with ⟨rfl, _⟩ | ⟨a, len, cap, elems, rest, n', hn, rfl, hxe, _, hlc, hm, hel, hat, _, _⟩
          · exact ⟨[.sl (P.cellsOf e) [] false], ⟨.nil _ _ _ _ (fun h => by cases h), .sl e d _ [] he (Nat.zero_le _) (fun i r h => by simp at h) (fun i r k c x h => by simp at h), trivial⟩, by simp [bL, bI, bR]⟩
          · cases hn
            have he' : e < P.types.size := (kid_slice hl ht hu)
            have hex : ∀ i, ∃ l, i < len → (∃ cs', W.cells? 0 (a.add (i * P.cellsOf e)) (P.cellsOf e) = some cs' ∧ Gd P (imm0 W) cs' (c0 :: c1) l) ∧ ∀ y, elems[i]? = some y → bL l ≤ wd y.1 := by
              intro i
              by_cases hi : i < len
              · have h1 := hat i hi
                have h2 : elems[i]? = some elems[i] := List.getElem?_eq_getElem (by omega)
                rw [h2, Option.bind_eq_some_iff] at h1
                obtain ⟨cs', h3, h4⟩ := h1
                obtain ⟨l, hg, hb⟩ := ih d e cs' _ _ he' he h4
                exact ⟨l, fun _ => ⟨⟨cs', h3, hg⟩, fun y hy => by rw [h2] at hy; cases hy; exact hb⟩⟩
              · exact ⟨[], fun h => absurd h hi⟩
            obtain ⟨f, hf⟩ := Classical.skolem.1 hex
            have hrow : ∀ i r, ((List.range len).map f)[i]? = some r → i < len ∧ r = f i := by
              intro i r hr
              simp only [List.getElem?_map, Option.map_eq_some_iff, List.getElem?_range] at hr
              obtain ⟨j, hj, rfl⟩ := hr
              rw [List.getElem?_eq_some_iff] at hj
              obtain ⟨h1, h2⟩ := hj
              simp at h1 h2
              subst h2
              exact ⟨h1, rfl⟩
            have hsh : Sh P (.sl e) (.sl (P.cellsOf e) ((List.range len).map f) false) := by
              refine .sl e d _ _ he (by simp; omega) (fun i r hr => ?_) (fun i r k c y hr hc hy => ?_)
              · obtain ⟨hi, rfl⟩ := hrow i r hr
                obtain ⟨⟨cs', _, hg⟩, _⟩ := hf i hi
                exact hg.len.2.symm
              · obtain ⟨hi, rfl⟩ := hrow i r hr
                obtain ⟨⟨cs', _, hg⟩, _⟩ := hf i hi
                obtain ⟨v, c', _, h2, _, h4⟩ := hg.at k y hy
                rw [hc] at h2; cases h2; exact h4
            have hbd : bL [.sl (P.cellsOf e) ((List.range len).map f) false] ≤ wd x.1 := by
              have hx1 : x.1 = .slice (elems.map (·.1)) (rest.map (·.1)) := by rw [hxe]
              rw [hx1]
              have hrr := bR_le ((List.range len).map f) (elems.map (·.1)) (by simp [hel]) (fun i r y hr hy => by
                obtain ⟨hi, rfl⟩ := hrow i r hr
                simp only [List.getElem?_map, Option.map_eq_some_iff] at hy
                obtain ⟨z, hz, rfl⟩ := hy
                exact (hf i hi).2 z hz)
              simp only [bL, bI, wd, Nat.add_zero]
              exact hrr
            refine ⟨[.sl (P.cellsOf e) ((List.range len).map f) false], ⟨?_, hsh, trivial⟩, hbd⟩
            by_cases h0 : len = 0
            · subst h0
              exact .nil _ _ _ cap (fun h => by cases h)
            · obtain ⟨⟨cs0, hc0, hg0⟩, _⟩ := hf 0 (by omega)
              have hz : 0 < P.cellsOf e := by
                have := (cells_at hc0).1
                have h2 := hg0.len
                simp at h2
                omega
              have hcell := (cells_at hc0).2 0 hz
              have hlen0 := (cells_at hc0).1
              obtain ⟨b, off, spot⟩ := a
              have hne : cs0[0]? = some cs0[0] := List.getElem?_eq_getElem (by omega)
              rw [hne] at hcell
              unfold World.cell? at hcell
              split at hcell
              · rename_i cs el fz hbk
                split at hcell
                · cases hcell
                · rename_i hsp
                  have hspot : spot = none := by cases spot with | none => rfl | some _ => simp [Addr.add] at hsp
                  subst hspot
                  have ha : ∀ o i, Addr.add ⟨b, o, none⟩ i = ⟨b, o + i, none⟩ := by intro o i; unfold Addr.add; split <;> simp_all
                  simp only [ha] at hbk
                  have hcv : ∀ i, i < len → ∀ k, k < P.cellsOf e → ∀ cs', W.cells? 0 (Addr.add ⟨b, off, none⟩ (i * P.cellsOf e)) (P.cellsOf e) = some cs' → cs[off + i * P.cellsOf e + k]? = cs'[k]? := by
                    intro i hi k hk cs' hc'
                    have := (cells_at hc').2 k hk
                    simp only [ha] at this
                    unfold World.cell? at this
                    simp only [hbk] at this
                    simpa using this
                  have key := RelI.sl (I := imm0 W) (P.cellsOf e) ((List.range len).map f) false b off cap cs el fz (fun i k => (cs[off + i * P.cellsOf e + k]?).getD undef) hbk (by simp; omega) (fun h => by cases h)
                    (fun i r hr => by
                      obtain ⟨hi, rfl⟩ := hrow i r hr
                      obtain ⟨⟨cs', h1, hg⟩, _⟩ := hf i hi
                      rw [← hg.len.1]; exact (cells_at h1).1)
                    (fun i r k y hr hy => by
                      obtain ⟨hi, rfl⟩ := hrow i r hr
                      obtain ⟨⟨cs', h1, hg⟩, _⟩ := hf i hi
                      obtain ⟨v, c', h2, _, _, _⟩ := hg.at k y hy
                      have hk : k < P.cellsOf e := by rw [← (cells_at h1).1]; exact (List.getElem?_eq_some_iff.1 h2).1
                      rw [hcv i hi k hk cs' h1, h2]; rfl)
                    (fun i r k y hr hy => by
                      obtain ⟨hi, rfl⟩ := hrow i r hr
                      obtain ⟨⟨cs', h1, hg⟩, _⟩ := hf i hi
                      obtain ⟨v, c', h2, _, h3, _⟩ := hg.at k y hy
                      have hk : k < P.cellsOf e := by rw [← (cells_at h1).1]; exact (List.getElem?_eq_some_iff.1 h2).1
                      rw [hcv i hi k hk cs' h1, h2]; exact h3)
                  have hl' : ((List.range len).map f).length = len := by simp
                  rw [hl'] at key
                  exact key
              · cases hcell
        · cases hc
      · rename_i m e hu
        cases hc1 : ctys P d e with
        | none => rw [hc1] at hc; cases hc
        | some c1 =>
          rw [hc1] at hc
          have hc' : some (List.replicate m c1).flatten = some cts := hc
          cases hc'
          obtain ⟨n', xs, hn, hxe, hlen, hxl, hx⟩ := trod_arrayB hu h
          cases hn
          obtain ⟨k1, k2⟩ := kid_array hl ht hu
          rw [hxe, wd]
          exact read_arrayB (fun cs x hx => ih d e cs x c1 k1 hc1 hx) m cs _ (by simpa using hxl) (by rw [hlen, k2]) hx
      · rename_i fs hu
        cases hc1 : fs.toList.mapM (fun f => ctys P d f.type) with
        | none => rw [hc1] at hc; cases hc
        | some c1 =>
          rw [hc1] at hc
          have hc' : some c1.flatten = some cts := hc
          cases hc'
          obtain ⟨xs, n', hn, hxe, hlen, hxl, hx⟩ := DataW.trod_struct hu h
          cases hn
          obtain ⟨k1, k2, k3⟩ := kid_struct hl ht hu
          rw [show x.1 = .agg (xs.map (·.1)) from by rw [hxe], wd]
          refine read_fieldsB (fun d t cs x cts => ih d t cs x cts) d fs.toList c1 cs (xs.map (·.1)) (by simp; omega) hc1 k1 (by rw [hlen, k2]) (fun j f hf => ?_)
          have h1 := hx j f (by simpa using hf)
          have hj : j < xs.length := by
            have := (List.getElem?_eq_some_iff.1 hf).1
            simp at this; omega
          rw [k3 j f hf, List.getElem?_eq_getElem hj] at h1
          exact ⟨_, h1, by simp [hj]⟩
      · cases hc

variable {r : Reach} {b0 : Nat} {t : TypeId} {v : Value} {d : DataW Hh} {ps : List MemPlace}
theorem read_aggB (hl : laidOutB P = true) {D : Nat} {cs : List Cty} (ht : t < P.types.size) (hu : (P.underlying t).map (fun | .struct _ => true | .array _ _ => true | _ => false) = some true) (hc : ctys P D t = some cs) (hval : Value.okWide P W r b0 t v) (hd : DataW.Trod enc P W 0 sp held t v d ps) :
    ∃ l : List IV, RelA (imm0 W) eta0 [] (.agg (l.map .i)) v ∧ ShL P cs l ∧ bL l ≤ wd d := by
  obtain ⟨n, hn⟩ := hd
  obtain ⟨l, hg, hb⟩ := read_cellsB hl n D t _ _ _ ht hc hn
  have hv : ∃ cs, v = .agg cs := by
    unfold Value.okWide at hval
    split at hval
    · obtain ⟨cs, h, _⟩ := hval; exact ⟨cs, h⟩
    · obtain ⟨cs, h, _⟩ := hval; exact ⟨cs, h⟩
    · rename_i h1 h2
      cases hh : P.underlying t with
      | none => rw [hh] at hu; cases hu
      | some x =>
        rw [hh] at hu
        cases x <;> simp at hu
        · exact absurd hh (h2 _ _)
        · exact absurd hh (h1 _)
  obtain ⟨vs, rfl⟩ := hv
  exact ⟨l, relA_row hg, hg.sh, hb⟩
end
theorem bL_G (g : Gl) : bL [.str g.1, .v (.bool g.2.1), .v (.int .i64 g.2.2)] = g.1.length := by simp [bL, bI]
theorem bR_G : ∀ (l : List Gl), bR (rowsG l) = (textS l).length + l.length
  | [] => rfl
  | g :: r => by
    show bR ([.str g.1, .v (.bool g.2.1), .v (.int .i64 g.2.2)] :: rowsG r) = _
    rw [bR, bL_G, bR_G r, List.length_cons, show textS (g :: r) = g.1 ++ textS r from rfl, List.length_append]; omega
theorem small_of (v : List (List Gl)) (h : bR (rowsV v) ≤ 1048576) : smallV v := by
  refine ⟨by have := bR_len (rowsV v); rw [rowsV_len] at this; omega, fun r hr => ?_⟩
  have h1 : [.sl 3 (rowsG r) false] ∈ rowsV v := List.mem_map_of_mem hr
  have h2 := bR_in h1
  rw [show bL [.sl 3 (rowsG r) false] = bR (rowsG r) from by simp [bL, bI], bR_G] at h2
  omega
theorem c7 (a b : Int) (v : List (List Gl)) (c d : Int) (e : Bool) (hb : bL [.v (.int .i64 a), .v (.int .i64 b), .sl 1 (rowsV v) false, .v (.int .i64 c), .v (.int .i64 d), .v (.bool e)] ≤ 1048576) :
    ∃ L, callT E 7 [.agg [.i (.v (.int .i64 a)), .i (.v (.int .i64 b)), .i (.sl 1 (rowsV v) false), .i (.v (.int .i64 c)), .i (.v (.int .i64 d)), .i (.v (.bool e))]] [] = some (.i (.v (.bool true)), L) :=
  law7 v (small_of v (by simpa [bL, bI] using hb)) a b c d e
end Go.VI

