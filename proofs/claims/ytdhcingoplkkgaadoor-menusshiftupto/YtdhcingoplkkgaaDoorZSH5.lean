import Derived.Test.YtdhcingoplkkgaaDoorZSH4
namespace Go.VI
open Go.Proofs
set_option maxRecDepth 100000
set_option linter.unusedSimpArgs false
set_option linter.unusedVariables false
set_option maxHeartbeats 4000000
def sameL (ls : List Ln) (f t : Nat) : Prop := (atL ls f).em = false ∧ (atL ls t).em = false ∧ (atL ls t).i = (atL ls f).i
instance (ls : List Ln) (f t : Nat) : Decidable (sameL ls f t) := by unfold sameL; infer_instance
def grow (ls : List Ln) (f : Nat) : Nat → Nat → Nat
  | 0, t => t
  | m + 1, t => if sameL ls f t then grow ls f m (t + 1) else t
theorem grow_b (ls : List Ln) (f : Nat) : ∀ m t, t ≤ grow ls f m t ∧ grow ls f m t ≤ t + m
  | 0, t => ⟨Nat.le_refl _, Nat.le_refl _⟩
  | m + 1, t => by
    rw [grow]
    split
    · have := grow_b ls f m (t + 1); omega
    · omega
def nextT (ls : List Ln) (f : Nat) : Nat := grow ls f (ls.length - (f + 1)) (f + 1)
def addR (ls : List Ln) (f : Nat) (out : List Rg) : List Rg := if (atL ls f).em = false ∧ hitR ls f (nextT ls f) then out ++ [regR ls f (nextT ls f)] else out
def rngS (ls : List Ln) : Nat → Nat → List Rg → List Rg
  | 0, _, out => out
  | m + 1, f, out => if f < ls.length then rngS ls m (nextT ls f) (addR ls f out) else out
theorem rl_in0 (ls : List Ln) (hls : ls.length ≤ 100000) (f : Nat) (hf : f < ls.length) : ∀ (m t : Nat), t + m = ls.length →
    rl E 3 18 (loopAt Tryd.f18 1) [(0, .i (.sl 5 (rowsLn ls) false)), (1, .clo (.func 19) [] [.ptr 0 0 0 0, .ptr 2 0 0 0]), (4, .i (.v (.int .i64 (f)))), (5, .i (.v (.int .i64 (t))))] [.box [.ref 1 0 0 ls.length], .fz 5 0 (rowsLn ls) false, .box [.i (.sl 0 [] true)]] = some (.exit 2, [(0, .i (.sl 5 (rowsLn ls) false)), (1, .clo (.func 19) [] [.ptr 0 0 0 0, .ptr 2 0 0 0]), (4, .i (.v (.int .i64 (f)))), (5, .i (.v (.int .i64 ((grow ls f m t : Nat))))), (44, .i (.v (.bool false)))], [.box [.ref 1 0 0 ls.length], .fz 5 0 (rowsLn ls) false, .box [.i (.sl 0 [] true)]]) := by
  intro m
  induction m with
  | zero =>
    intro t ht
    obtain rfl : t = ls.length := by omega
    rw [grow]
    rw [rl_step (fn := Tryd.f18) (k := 1) rfl]
    simp (disch := first | omega | (simp only [List.length_append, List.length_map, List.length_set, List.length_cons, List.length_nil, List.length_take, List.length_drop, rowsLn_len, rowsR_len]; omega)) only [va0, va1, va2, va3, va4, va5, va6, va7, va8, va9, va10, va11, va12, va13, va14, va15, vb0, vb1, vb2, vb3, w_i8, w_u8, w_i16, w_u16, w_i32, w_u32, w_i64, w_u64, lt_T, lt_F, le_T, le_F, nlt_T, nlt_F, nle_T, nle_F, List.take_of_length_le, gB, gcW, gcR, posIn, renA, renL, Chunk.ren, Chunk.refs, evOpD, touchD, stepC, isFresh, nFresh, freshOf, mkR, hole, evL, evH, opd, get, putD, ofVal, cellOf, loadE, behind, lenE, idxAddrE, idxE, lookE, lookM, addPtr, intE, strE, unE, convE, AV.int, AV.bool, AV.str, ivs, take, frameOf, firstRegion, refsA, refsL, one, cellsA, floatOk, apartT, List.map, if_true, if_false, E_P, E_glob, reduceCtorEq, beq_self_eq_true, decide_true, decide_false, ↓reduceIte, Nat.reduceEqDiff, cond_true, cond_false, or_true, true_or, or_false, false_or, and_true, true_and, and_self, false_and, and_false, not_true, not_false_iff, Nat.reduceAdd, Nat.reduceSub, Nat.reduceMul, Nat.reduceLT, Nat.reduceLeDiff, Int.reduceToNat, Int.reduceLT, Int.reduceLE, Option.getD, Int.reduceMul, Int.reduceAdd, List.drop, List.take, Nat.reduceBEq, List.isEmpty, Int.reduceEq, Int.reduceNe, Int.reduceNeg, Int.reduceGT, Int.reduceGE, beq_true, beq_false, UInt8.reduceToNat, eqE, eq_self, foldE, maxE, minE, eq_T, eq_F, ndec, odec, adec, sdec, fillA, over, chop, List.replicate, leavesOk, leafOk, cellsEq, cellEq, E_byref, en18, bs47, rowsLn_len, rowsR_len, show ∀ B fr H, execT E B 18 (Code.loop _) fr H = rlG E B 18 (loopAt Tryd.f18 1) (gcn B (norm [0, 1, 4, 5] fr) H) from fun B fr H => rl_intro rfl mt18_3 mb18_3 zf18_3 hd18_3 fr H]
  | succ m ih =>
    intro t ht
    have hlt : t < ls.length := by omega
    have hrf := rowsLn_D hf
    have hrt := rowsLn_D hlt
    rw [grow]
    have e := ih (t + 1) (by omega)
    by_cases h1 : (atL ls f).em = true
    · rw [if_neg (show ¬ sameL ls f t from fun h => by obtain ⟨g1, g2, g3⟩ := h; rw [h1] at g1; cases g1)]
      rw [h1] at hrf
      clear e ih
      generalize atL ls f = x at *
      rw [rl_step (fn := Tryd.f18) (k := 1) rfl]
      simp (disch := first | omega | (simp only [List.length_append, List.length_map, List.length_set, List.length_cons, List.length_nil, List.length_take, List.length_drop, rowsLn_len, rowsR_len]; omega)) only [va0, va1, va2, va3, va4, va5, va6, va7, va8, va9, va10, va11, va12, va13, va14, va15, vb0, vb1, vb2, vb3, w_i8, w_u8, w_i16, w_u16, w_i32, w_u32, w_i64, w_u64, lt_T, lt_F, le_T, le_F, nlt_T, nlt_F, nle_T, nle_F, List.take_of_length_le, gB, gcW, gcR, posIn, renA, renL, Chunk.ren, Chunk.refs, evOpD, touchD, stepC, isFresh, nFresh, freshOf, mkR, hole, evL, evH, opd, get, putD, ofVal, cellOf, loadE, behind, lenE, idxAddrE, idxE, lookE, lookM, addPtr, intE, strE, unE, convE, AV.int, AV.bool, AV.str, ivs, take, frameOf, firstRegion, refsA, refsL, one, cellsA, floatOk, apartT, List.map, if_true, if_false, E_P, E_glob, reduceCtorEq, beq_self_eq_true, decide_true, decide_false, ↓reduceIte, Nat.reduceEqDiff, cond_true, cond_false, or_true, true_or, or_false, false_or, and_true, true_and, and_self, false_and, and_false, not_true, not_false_iff, Nat.reduceAdd, Nat.reduceSub, Nat.reduceMul, Nat.reduceLT, Nat.reduceLeDiff, Int.reduceToNat, Int.reduceLT, Int.reduceLE, Option.getD, Int.reduceMul, Int.reduceAdd, List.drop, List.take, Nat.reduceBEq, List.isEmpty, Int.reduceEq, Int.reduceNe, Int.reduceNeg, Int.reduceGT, Int.reduceGE, beq_true, beq_false, UInt8.reduceToNat, eqE, eq_self, foldE, maxE, minE, eq_T, eq_F, ndec, odec, adec, sdec, fillA, over, chop, List.replicate, leavesOk, leafOk, cellsEq, cellEq, E_byref, en18, bs47, hrf, hrt, rowsLn_len, rowsR_len, show ∀ B fr H, execT E B 18 (Code.loop _) fr H = rlG E B 18 (loopAt Tryd.f18 1) (gcn B (norm [0, 1, 4, 5] fr) H) from fun B fr H => rl_intro rfl mt18_3 mb18_3 zf18_3 hd18_3 fr H]
    · have h1 : (atL ls f).em = false := by simpa using h1
      by_cases h2 : (atL ls t).em = true
      · rw [if_neg (show ¬ sameL ls f t from fun h => by obtain ⟨g1, g2, g3⟩ := h; rw [h2] at g2; cases g2)]
        rw [h1] at hrf
        rw [h2] at hrt
        clear e ih
        generalize atL ls f = x at *
        generalize atL ls t = y at *
        rw [rl_step (fn := Tryd.f18) (k := 1) rfl]
        simp (disch := first | omega | (simp only [List.length_append, List.length_map, List.length_set, List.length_cons, List.length_nil, List.length_take, List.length_drop, rowsLn_len, rowsR_len]; omega)) only [va0, va1, va2, va3, va4, va5, va6, va7, va8, va9, va10, va11, va12, va13, va14, va15, vb0, vb1, vb2, vb3, w_i8, w_u8, w_i16, w_u16, w_i32, w_u32, w_i64, w_u64, lt_T, lt_F, le_T, le_F, nlt_T, nlt_F, nle_T, nle_F, List.take_of_length_le, gB, gcW, gcR, posIn, renA, renL, Chunk.ren, Chunk.refs, evOpD, touchD, stepC, isFresh, nFresh, freshOf, mkR, hole, evL, evH, opd, get, putD, ofVal, cellOf, loadE, behind, lenE, idxAddrE, idxE, lookE, lookM, addPtr, intE, strE, unE, convE, AV.int, AV.bool, AV.str, ivs, take, frameOf, firstRegion, refsA, refsL, one, cellsA, floatOk, apartT, List.map, if_true, if_false, E_P, E_glob, reduceCtorEq, beq_self_eq_true, decide_true, decide_false, ↓reduceIte, Nat.reduceEqDiff, cond_true, cond_false, or_true, true_or, or_false, false_or, and_true, true_and, and_self, false_and, and_false, not_true, not_false_iff, Nat.reduceAdd, Nat.reduceSub, Nat.reduceMul, Nat.reduceLT, Nat.reduceLeDiff, Int.reduceToNat, Int.reduceLT, Int.reduceLE, Option.getD, Int.reduceMul, Int.reduceAdd, List.drop, List.take, Nat.reduceBEq, List.isEmpty, Int.reduceEq, Int.reduceNe, Int.reduceNeg, Int.reduceGT, Int.reduceGE, beq_true, beq_false, UInt8.reduceToNat, eqE, eq_self, foldE, maxE, minE, eq_T, eq_F, ndec, odec, adec, sdec, fillA, over, chop, List.replicate, leavesOk, leafOk, cellsEq, cellEq, E_byref, en18, bs47, hrf, hrt, rowsLn_len, rowsR_len, show ∀ B fr H, execT E B 18 (Code.loop _) fr H = rlG E B 18 (loopAt Tryd.f18 1) (gcn B (norm [0, 1, 4, 5] fr) H) from fun B fr H => rl_intro rfl mt18_3 mb18_3 zf18_3 hd18_3 fr H]
      · have h2 : (atL ls t).em = false := by simpa using h2
        by_cases h3 : (atL ls t).i = (atL ls f).i
        · rw [if_pos (show sameL ls f t from ⟨h1, h2, h3⟩)]
          refine Eq.trans ?_ e
          rw [h1] at hrf
          rw [h2, h3] at hrt
          clear e ih
          generalize atL ls f = x at *
          generalize atL ls t = y at *
          rw [rl_step (fn := Tryd.f18) (k := 1) rfl]
          simp (disch := first | omega | (simp only [List.length_append, List.length_map, List.length_set, List.length_cons, List.length_nil, List.length_take, List.length_drop, rowsLn_len, rowsR_len]; omega)) only [va0, va1, va2, va3, va4, va5, va6, va7, va8, va9, va10, va11, va12, va13, va14, va15, vb0, vb1, vb2, vb3, w_i8, w_u8, w_i16, w_u16, w_i32, w_u32, w_i64, w_u64, lt_T, lt_F, le_T, le_F, nlt_T, nlt_F, nle_T, nle_F, List.take_of_length_le, gB, gcW, gcR, posIn, renA, renL, Chunk.ren, Chunk.refs, evOpD, touchD, stepC, isFresh, nFresh, freshOf, mkR, hole, evL, evH, opd, get, putD, ofVal, cellOf, loadE, behind, lenE, idxAddrE, idxE, lookE, lookM, addPtr, intE, strE, unE, convE, AV.int, AV.bool, AV.str, ivs, take, frameOf, firstRegion, refsA, refsL, one, cellsA, floatOk, apartT, List.map, if_true, if_false, E_P, E_glob, reduceCtorEq, beq_self_eq_true, decide_true, decide_false, ↓reduceIte, Nat.reduceEqDiff, cond_true, cond_false, or_true, true_or, or_false, false_or, and_true, true_and, and_self, false_and, and_false, not_true, not_false_iff, Nat.reduceAdd, Nat.reduceSub, Nat.reduceMul, Nat.reduceLT, Nat.reduceLeDiff, Int.reduceToNat, Int.reduceLT, Int.reduceLE, Option.getD, Int.reduceMul, Int.reduceAdd, List.drop, List.take, Nat.reduceBEq, List.isEmpty, Int.reduceEq, Int.reduceNe, Int.reduceNeg, Int.reduceGT, Int.reduceGE, beq_true, beq_false, UInt8.reduceToNat, eqE, eq_self, foldE, maxE, minE, eq_T, eq_F, ndec, odec, adec, sdec, fillA, over, chop, List.replicate, leavesOk, leafOk, cellsEq, cellEq, E_byref, en18, bs47, hrf, hrt, rowsLn_len, rowsR_len, show ∀ B fr H, execT E B 18 (Code.loop _) fr H = rlG E B 18 (loopAt Tryd.f18 1) (gcn B (norm [0, 1, 4, 5] fr) H) from fun B fr H => rl_intro rfl mt18_3 mb18_3 zf18_3 hd18_3 fr H]
        · rw [if_neg (show ¬ sameL ls f t from fun h => by obtain ⟨g1, g2, g3⟩ := h; exact h3 g3)]
          rw [h1] at hrf
          rw [h2] at hrt
          have h3' : ¬ (((atL ls t).i : Nat) : Int) = (((atL ls f).i : Nat) : Int) := fun h => h3 (by omega)
          clear e ih h3
          generalize atL ls f = x at *
          generalize atL ls t = y at *
          rw [rl_step (fn := Tryd.f18) (k := 1) rfl]
          simp (disch := first | omega | (simp only [List.length_append, List.length_map, List.length_set, List.length_cons, List.length_nil, List.length_take, List.length_drop, rowsLn_len, rowsR_len]; omega)) only [va0, va1, va2, va3, va4, va5, va6, va7, va8, va9, va10, va11, va12, va13, va14, va15, vb0, vb1, vb2, vb3, w_i8, w_u8, w_i16, w_u16, w_i32, w_u32, w_i64, w_u64, lt_T, lt_F, le_T, le_F, nlt_T, nlt_F, nle_T, nle_F, List.take_of_length_le, gB, gcW, gcR, posIn, renA, renL, Chunk.ren, Chunk.refs, evOpD, touchD, stepC, isFresh, nFresh, freshOf, mkR, hole, evL, evH, opd, get, putD, ofVal, cellOf, loadE, behind, lenE, idxAddrE, idxE, lookE, lookM, addPtr, intE, strE, unE, convE, AV.int, AV.bool, AV.str, ivs, take, frameOf, firstRegion, refsA, refsL, one, cellsA, floatOk, apartT, List.map, if_true, if_false, E_P, E_glob, reduceCtorEq, beq_self_eq_true, decide_true, decide_false, ↓reduceIte, Nat.reduceEqDiff, cond_true, cond_false, or_true, true_or, or_false, false_or, and_true, true_and, and_self, false_and, and_false, not_true, not_false_iff, Nat.reduceAdd, Nat.reduceSub, Nat.reduceMul, Nat.reduceLT, Nat.reduceLeDiff, Int.reduceToNat, Int.reduceLT, Int.reduceLE, Option.getD, Int.reduceMul, Int.reduceAdd, List.drop, List.take, Nat.reduceBEq, List.isEmpty, Int.reduceEq, Int.reduceNe, Int.reduceNeg, Int.reduceGT, Int.reduceGE, beq_true, beq_false, UInt8.reduceToNat, eqE, eq_self, foldE, maxE, minE, eq_T, eq_F, ndec, odec, adec, sdec, fillA, over, chop, List.replicate, leavesOk, leafOk, cellsEq, cellEq, E_byref, en18, bs47, hrf, hrt, h3', rowsLn_len, rowsR_len, show ∀ B fr H, execT E B 18 (Code.loop _) fr H = rlG E B 18 (loopAt Tryd.f18 1) (gcn B (norm [0, 1, 4, 5] fr) H) from fun B fr H => rl_intro rfl mt18_3 mb18_3 zf18_3 hd18_3 fr H]
theorem rl_in1 (ls : List Ln) (hls : ls.length ≤ 100000) (out : List Rg) (ho : out.length ≤ 200000) (f : Nat) (hf : f < ls.length) : ∀ (m t : Nat), t + m = ls.length →
    rl E 3 18 (loopAt Tryd.f18 1) [(0, .i (.sl 5 (rowsLn ls) false)), (1, .clo (.func 19) [] [.ptr 0 0 0 0, .ptr 2 0 0 0]), (4, .i (.v (.int .i64 (f)))), (5, .i (.v (.int .i64 (t))))] [.box [.ref 1 0 0 ls.length], .fz 5 0 (rowsLn ls) false, .box [.ref 3 0 0 out.length], .sl 8 0 (rowsR out) false] = some (.exit 2, [(0, .i (.sl 5 (rowsLn ls) false)), (1, .clo (.func 19) [] [.ptr 0 0 0 0, .ptr 2 0 0 0]), (4, .i (.v (.int .i64 (f)))), (5, .i (.v (.int .i64 ((grow ls f m t : Nat))))), (44, .i (.v (.bool false)))], [.box [.ref 1 0 0 ls.length], .fz 5 0 (rowsLn ls) false, .box [.ref 3 0 0 out.length], .sl 8 0 (rowsR out) false]) := by
  intro m
  induction m with
  | zero =>
    intro t ht
    obtain rfl : t = ls.length := by omega
    rw [grow]
    rw [rl_step (fn := Tryd.f18) (k := 1) rfl]
    simp (disch := first | omega | (simp only [List.length_append, List.length_map, List.length_set, List.length_cons, List.length_nil, List.length_take, List.length_drop, rowsLn_len, rowsR_len]; omega)) only [va0, va1, va2, va3, va4, va5, va6, va7, va8, va9, va10, va11, va12, va13, va14, va15, vb0, vb1, vb2, vb3, w_i8, w_u8, w_i16, w_u16, w_i32, w_u32, w_i64, w_u64, lt_T, lt_F, le_T, le_F, nlt_T, nlt_F, nle_T, nle_F, List.take_of_length_le, gB, gcW, gcR, posIn, renA, renL, Chunk.ren, Chunk.refs, evOpD, touchD, stepC, isFresh, nFresh, freshOf, mkR, hole, evL, evH, opd, get, putD, ofVal, cellOf, loadE, behind, lenE, idxAddrE, idxE, lookE, lookM, addPtr, intE, strE, unE, convE, AV.int, AV.bool, AV.str, ivs, take, frameOf, firstRegion, refsA, refsL, one, cellsA, floatOk, apartT, List.map, if_true, if_false, E_P, E_glob, reduceCtorEq, beq_self_eq_true, decide_true, decide_false, ↓reduceIte, Nat.reduceEqDiff, cond_true, cond_false, or_true, true_or, or_false, false_or, and_true, true_and, and_self, false_and, and_false, not_true, not_false_iff, Nat.reduceAdd, Nat.reduceSub, Nat.reduceMul, Nat.reduceLT, Nat.reduceLeDiff, Int.reduceToNat, Int.reduceLT, Int.reduceLE, Option.getD, Int.reduceMul, Int.reduceAdd, List.drop, List.take, Nat.reduceBEq, List.isEmpty, Int.reduceEq, Int.reduceNe, Int.reduceNeg, Int.reduceGT, Int.reduceGE, beq_true, beq_false, UInt8.reduceToNat, eqE, eq_self, foldE, maxE, minE, eq_T, eq_F, ndec, odec, adec, sdec, fillA, over, chop, List.replicate, leavesOk, leafOk, cellsEq, cellEq, E_byref, en18, bs47, rowsLn_len, rowsR_len, show ∀ B fr H, execT E B 18 (Code.loop _) fr H = rlG E B 18 (loopAt Tryd.f18 1) (gcn B (norm [0, 1, 4, 5] fr) H) from fun B fr H => rl_intro rfl mt18_3 mb18_3 zf18_3 hd18_3 fr H]
  | succ m ih =>
    intro t ht
    have hlt : t < ls.length := by omega
    have hrf := rowsLn_D hf
    have hrt := rowsLn_D hlt
    rw [grow]
    have e := ih (t + 1) (by omega)
    by_cases h1 : (atL ls f).em = true
    · rw [if_neg (show ¬ sameL ls f t from fun h => by obtain ⟨g1, g2, g3⟩ := h; rw [h1] at g1; cases g1)]
      rw [h1] at hrf
      clear e ih
      generalize atL ls f = x at *
      rw [rl_step (fn := Tryd.f18) (k := 1) rfl]
      simp (disch := first | omega | (simp only [List.length_append, List.length_map, List.length_set, List.length_cons, List.length_nil, List.length_take, List.length_drop, rowsLn_len, rowsR_len]; omega)) only [va0, va1, va2, va3, va4, va5, va6, va7, va8, va9, va10, va11, va12, va13, va14, va15, vb0, vb1, vb2, vb3, w_i8, w_u8, w_i16, w_u16, w_i32, w_u32, w_i64, w_u64, lt_T, lt_F, le_T, le_F, nlt_T, nlt_F, nle_T, nle_F, List.take_of_length_le, gB, gcW, gcR, posIn, renA, renL, Chunk.ren, Chunk.refs, evOpD, touchD, stepC, isFresh, nFresh, freshOf, mkR, hole, evL, evH, opd, get, putD, ofVal, cellOf, loadE, behind, lenE, idxAddrE, idxE, lookE, lookM, addPtr, intE, strE, unE, convE, AV.int, AV.bool, AV.str, ivs, take, frameOf, firstRegion, refsA, refsL, one, cellsA, floatOk, apartT, List.map, if_true, if_false, E_P, E_glob, reduceCtorEq, beq_self_eq_true, decide_true, decide_false, ↓reduceIte, Nat.reduceEqDiff, cond_true, cond_false, or_true, true_or, or_false, false_or, and_true, true_and, and_self, false_and, and_false, not_true, not_false_iff, Nat.reduceAdd, Nat.reduceSub, Nat.reduceMul, Nat.reduceLT, Nat.reduceLeDiff, Int.reduceToNat, Int.reduceLT, Int.reduceLE, Option.getD, Int.reduceMul, Int.reduceAdd, List.drop, List.take, Nat.reduceBEq, List.isEmpty, Int.reduceEq, Int.reduceNe, Int.reduceNeg, Int.reduceGT, Int.reduceGE, beq_true, beq_false, UInt8.reduceToNat, eqE, eq_self, foldE, maxE, minE, eq_T, eq_F, ndec, odec, adec, sdec, fillA, over, chop, List.replicate, leavesOk, leafOk, cellsEq, cellEq, E_byref, en18, bs47, hrf, hrt, rowsLn_len, rowsR_len, show ∀ B fr H, execT E B 18 (Code.loop _) fr H = rlG E B 18 (loopAt Tryd.f18 1) (gcn B (norm [0, 1, 4, 5] fr) H) from fun B fr H => rl_intro rfl mt18_3 mb18_3 zf18_3 hd18_3 fr H]
    · have h1 : (atL ls f).em = false := by simpa using h1
      by_cases h2 : (atL ls t).em = true
      · rw [if_neg (show ¬ sameL ls f t from fun h => by obtain ⟨g1, g2, g3⟩ := h; rw [h2] at g2; cases g2)]
        rw [h1] at hrf
        rw [h2] at hrt
        clear e ih
        generalize atL ls f = x at *
        generalize atL ls t = y at *
        rw [rl_step (fn := Tryd.f18) (k := 1) rfl]
        simp (disch := first | omega | (simp only [List.length_append, List.length_map, List.length_set, List.length_cons, List.length_nil, List.length_take, List.length_drop, rowsLn_len, rowsR_len]; omega)) only [va0, va1, va2, va3, va4, va5, va6, va7, va8, va9, va10, va11, va12, va13, va14, va15, vb0, vb1, vb2, vb3, w_i8, w_u8, w_i16, w_u16, w_i32, w_u32, w_i64, w_u64, lt_T, lt_F, le_T, le_F, nlt_T, nlt_F, nle_T, nle_F, List.take_of_length_le, gB, gcW, gcR, posIn, renA, renL, Chunk.ren, Chunk.refs, evOpD, touchD, stepC, isFresh, nFresh, freshOf, mkR, hole, evL, evH, opd, get, putD, ofVal, cellOf, loadE, behind, lenE, idxAddrE, idxE, lookE, lookM, addPtr, intE, strE, unE, convE, AV.int, AV.bool, AV.str, ivs, take, frameOf, firstRegion, refsA, refsL, one, cellsA, floatOk, apartT, List.map, if_true, if_false, E_P, E_glob, reduceCtorEq, beq_self_eq_true, decide_true, decide_false, ↓reduceIte, Nat.reduceEqDiff, cond_true, cond_false, or_true, true_or, or_false, false_or, and_true, true_and, and_self, false_and, and_false, not_true, not_false_iff, Nat.reduceAdd, Nat.reduceSub, Nat.reduceMul, Nat.reduceLT, Nat.reduceLeDiff, Int.reduceToNat, Int.reduceLT, Int.reduceLE, Option.getD, Int.reduceMul, Int.reduceAdd, List.drop, List.take, Nat.reduceBEq, List.isEmpty, Int.reduceEq, Int.reduceNe, Int.reduceNeg, Int.reduceGT, Int.reduceGE, beq_true, beq_false, UInt8.reduceToNat, eqE, eq_self, foldE, maxE, minE, eq_T, eq_F, ndec, odec, adec, sdec, fillA, over, chop, List.replicate, leavesOk, leafOk, cellsEq, cellEq, E_byref, en18, bs47, hrf, hrt, rowsLn_len, rowsR_len, show ∀ B fr H, execT E B 18 (Code.loop _) fr H = rlG E B 18 (loopAt Tryd.f18 1) (gcn B (norm [0, 1, 4, 5] fr) H) from fun B fr H => rl_intro rfl mt18_3 mb18_3 zf18_3 hd18_3 fr H]
      · have h2 : (atL ls t).em = false := by simpa using h2
        by_cases h3 : (atL ls t).i = (atL ls f).i
        · rw [if_pos (show sameL ls f t from ⟨h1, h2, h3⟩)]
          refine Eq.trans ?_ e
          rw [h1] at hrf
          rw [h2, h3] at hrt
          clear e ih
          generalize atL ls f = x at *
          generalize atL ls t = y at *
          rw [rl_step (fn := Tryd.f18) (k := 1) rfl]
          simp (disch := first | omega | (simp only [List.length_append, List.length_map, List.length_set, List.length_cons, List.length_nil, List.length_take, List.length_drop, rowsLn_len, rowsR_len]; omega)) only [va0, va1, va2, va3, va4, va5, va6, va7, va8, va9, va10, va11, va12, va13, va14, va15, vb0, vb1, vb2, vb3, w_i8, w_u8, w_i16, w_u16, w_i32, w_u32, w_i64, w_u64, lt_T, lt_F, le_T, le_F, nlt_T, nlt_F, nle_T, nle_F, List.take_of_length_le, gB, gcW, gcR, posIn, renA, renL, Chunk.ren, Chunk.refs, evOpD, touchD, stepC, isFresh, nFresh, freshOf, mkR, hole, evL, evH, opd, get, putD, ofVal, cellOf, loadE, behind, lenE, idxAddrE, idxE, lookE, lookM, addPtr, intE, strE, unE, convE, AV.int, AV.bool, AV.str, ivs, take, frameOf, firstRegion, refsA, refsL, one, cellsA, floatOk, apartT, List.map, if_true, if_false, E_P, E_glob, reduceCtorEq, beq_self_eq_true, decide_true, decide_false, ↓reduceIte, Nat.reduceEqDiff, cond_true, cond_false, or_true, true_or, or_false, false_or, and_true, true_and, and_self, false_and, and_false, not_true, not_false_iff, Nat.reduceAdd, Nat.reduceSub, Nat.reduceMul, Nat.reduceLT, Nat.reduceLeDiff, Int.reduceToNat, Int.reduceLT, Int.reduceLE, Option.getD, Int.reduceMul, Int.reduceAdd, List.drop, List.take, Nat.reduceBEq, List.isEmpty, Int.reduceEq, Int.reduceNe, Int.reduceNeg, Int.reduceGT, Int.reduceGE, beq_true, beq_false, UInt8.reduceToNat, eqE, eq_self, foldE, maxE, minE, eq_T, eq_F, ndec, odec, adec, sdec, fillA, over, chop, List.replicate, leavesOk, leafOk, cellsEq, cellEq, E_byref, en18, bs47, hrf, hrt, rowsLn_len, rowsR_len, show ∀ B fr H, execT E B 18 (Code.loop _) fr H = rlG E B 18 (loopAt Tryd.f18 1) (gcn B (norm [0, 1, 4, 5] fr) H) from fun B fr H => rl_intro rfl mt18_3 mb18_3 zf18_3 hd18_3 fr H]
        · rw [if_neg (show ¬ sameL ls f t from fun h => by obtain ⟨g1, g2, g3⟩ := h; exact h3 g3)]
          rw [h1] at hrf
          rw [h2] at hrt
          have h3' : ¬ (((atL ls t).i : Nat) : Int) = (((atL ls f).i : Nat) : Int) := fun h => h3 (by omega)
          clear e ih h3
          generalize atL ls f = x at *
          generalize atL ls t = y at *
          rw [rl_step (fn := Tryd.f18) (k := 1) rfl]
          simp (disch := first | omega | (simp only [List.length_append, List.length_map, List.length_set, List.length_cons, List.length_nil, List.length_take, List.length_drop, rowsLn_len, rowsR_len]; omega)) only [va0, va1, va2, va3, va4, va5, va6, va7, va8, va9, va10, va11, va12, va13, va14, va15, vb0, vb1, vb2, vb3, w_i8, w_u8, w_i16, w_u16, w_i32, w_u32, w_i64, w_u64, lt_T, lt_F, le_T, le_F, nlt_T, nlt_F, nle_T, nle_F, List.take_of_length_le, gB, gcW, gcR, posIn, renA, renL, Chunk.ren, Chunk.refs, evOpD, touchD, stepC, isFresh, nFresh, freshOf, mkR, hole, evL, evH, opd, get, putD, ofVal, cellOf, loadE, behind, lenE, idxAddrE, idxE, lookE, lookM, addPtr, intE, strE, unE, convE, AV.int, AV.bool, AV.str, ivs, take, frameOf, firstRegion, refsA, refsL, one, cellsA, floatOk, apartT, List.map, if_true, if_false, E_P, E_glob, reduceCtorEq, beq_self_eq_true, decide_true, decide_false, ↓reduceIte, Nat.reduceEqDiff, cond_true, cond_false, or_true, true_or, or_false, false_or, and_true, true_and, and_self, false_and, and_false, not_true, not_false_iff, Nat.reduceAdd, Nat.reduceSub, Nat.reduceMul, Nat.reduceLT, Nat.reduceLeDiff, Int.reduceToNat, Int.reduceLT, Int.reduceLE, Option.getD, Int.reduceMul, Int.reduceAdd, List.drop, List.take, Nat.reduceBEq, List.isEmpty, Int.reduceEq, Int.reduceNe, Int.reduceNeg, Int.reduceGT, Int.reduceGE, beq_true, beq_false, UInt8.reduceToNat, eqE, eq_self, foldE, maxE, minE, eq_T, eq_F, ndec, odec, adec, sdec, fillA, over, chop, List.replicate, leavesOk, leafOk, cellsEq, cellEq, E_byref, en18, bs47, hrf, hrt, h3', rowsLn_len, rowsR_len, show ∀ B fr H, execT E B 18 (Code.loop _) fr H = rlG E B 18 (loopAt Tryd.f18 1) (gcn B (norm [0, 1, 4, 5] fr) H) from fun B fr H => rl_intro rfl mt18_3 mb18_3 zf18_3 hd18_3 fr H]
def hpO (ls : List Ln) : List Rg → Hp
  | [] => [.box [.ref 1 0 0 ls.length], .fz 5 0 (rowsLn ls) false, .box [.i (.sl 0 [] true)]]
  | r :: o => [.box [.ref 1 0 0 ls.length], .fz 5 0 (rowsLn ls) false, .box [.ref 3 0 0 (r :: o).length], .sl 8 0 (rowsR (r :: o)) false]
theorem addR_len (ls : List Ln) (f : Nat) (out : List Rg) : (addR ls f out).length ≤ out.length + 1 := by
  unfold addR; split
  · simp
  · omega
theorem nextT_b (ls : List Ln) (f : Nat) (hf : f < ls.length) : f < nextT ls f ∧ nextT ls f ≤ ls.length := by
  have := grow_b ls f (ls.length - (f + 1)) (f + 1)
  unfold nextT; omega
theorem rl_rnd (ls : List Ln) (hls : ls.length ≤ 100000) (f : Nat) (hf : f < ls.length) (out : List Rg) (ho : out.length ≤ 200000) :
    rl E 3 18 (loopAt Tryd.f18 0) [(0, .i (.sl 5 (rowsLn ls) false)), (1, .clo (.func 19) [] [.ptr 0 0 0 0, .ptr 2 0 0 0]), (4, .i (.v (.int .i64 (f))))] (hpO ls out) = rl E 3 18 (loopAt Tryd.f18 0) [(0, .i (.sl 5 (rowsLn ls) false)), (1, .clo (.func 19) [] [.ptr 0 0 0 0, .ptr 2 0 0 0]), (4, .i (.v (.int .i64 ((nextT ls f : Nat)))))] (hpO ls (addR ls f out)) := by
  have hrf := rowsLn_D hf
  obtain ⟨t1, t2⟩ := nextT_b ls f hf
  unfold addR
  cases out with
  | nil =>
    have e1 := rl_in0 ls hls f hf (ls.length - (f + 1)) (f + 1) (by omega)
    rw [show grow ls f (ls.length - (f + 1)) (f + 1) = nextT ls f from rfl] at e1
    cases hem : (atL ls f).em with
    | true =>
      rw [if_neg (fun h => by cases h.1)]
      rw [hem] at hrf
      unfold hpO
      generalize nextT ls f = t at *
      generalize atL ls f = x at *
      rw [rl_step (fn := Tryd.f18) (k := 0) rfl]
      simp (disch := first | omega | (simp only [List.length_append, List.length_map, List.length_set, List.length_cons, List.length_nil, List.length_take, List.length_drop, rowsLn_len, rowsR_len]; omega)) only [va0, va1, va2, va3, va4, va5, va6, va7, va8, va9, va10, va11, va12, va13, va14, va15, vb0, vb1, vb2, vb3, w_i8, w_u8, w_i16, w_u16, w_i32, w_u32, w_i64, w_u64, lt_T, lt_F, le_T, le_F, nlt_T, nlt_F, nle_T, nle_F, List.take_of_length_le, gB, gcW, gcR, posIn, renA, renL, Chunk.ren, Chunk.refs, evOpD, touchD, stepC, isFresh, nFresh, freshOf, mkR, hole, evL, evH, opd, get, putD, ofVal, cellOf, loadE, behind, lenE, idxAddrE, idxE, lookE, lookM, addPtr, intE, strE, unE, convE, AV.int, AV.bool, AV.str, ivs, take, frameOf, firstRegion, refsA, refsL, one, cellsA, floatOk, apartT, List.map, if_true, if_false, E_P, E_glob, reduceCtorEq, beq_self_eq_true, decide_true, decide_false, ↓reduceIte, Nat.reduceEqDiff, cond_true, cond_false, or_true, true_or, or_false, false_or, and_true, true_and, and_self, false_and, and_false, not_true, not_false_iff, Nat.reduceAdd, Nat.reduceSub, Nat.reduceMul, Nat.reduceLT, Nat.reduceLeDiff, Int.reduceToNat, Int.reduceLT, Int.reduceLE, Option.getD, Int.reduceMul, Int.reduceAdd, List.drop, List.take, Nat.reduceBEq, List.isEmpty, Int.reduceEq, Int.reduceNe, Int.reduceNeg, Int.reduceGT, Int.reduceGE, beq_true, beq_false, UInt8.reduceToNat, eqE, eq_self, foldE, maxE, minE, eq_T, eq_F, ndec, odec, adec, sdec, fillA, over, chop, List.replicate, leavesOk, leafOk, cellsEq, cellEq, E_byref, en18, bs47, hrf, e1, rowsLn_len, rowsR_len, show ∀ B fr H, execT E B 18 (Code.loop _) fr H = rlG E B 18 (loopAt Tryd.f18 0) (gcn B (norm [0, 1, 4] fr) H) from fun B fr H => rl_intro rfl mt18_1 mb18_1 zf18_1 hd18_1 fr H, show ∀ B fr H, execT E B 18 (Code.loop _) fr H = rlG E B 18 (loopAt Tryd.f18 1) (gcn B (norm [0, 1, 4, 5] fr) H) from fun B fr H => rl_intro rfl mt18_3 mb18_3 zf18_3 hd18_3 fr H]
    | false =>
      by_cases hh : hitR ls f (nextT ls f)
      · rw [if_pos ⟨rfl, hh⟩, List.nil_append]
        rw [hem] at hrf
        have hk := ik0h ls hls f (nextT ls f) t1 t2 hh
        unfold hpO
        simp only
        rw [show [regR ls f (nextT ls f)].length = 1 from rfl]
        generalize regR ls f (nextT ls f) = rr at *
        generalize nextT ls f = t at *
        generalize atL ls f = x at *
        rw [rl_step (fn := Tryd.f18) (k := 0) rfl]
        simp (disch := first | omega | (simp only [List.length_append, List.length_map, List.length_set, List.length_cons, List.length_nil, List.length_take, List.length_drop, rowsLn_len, rowsR_len]; omega)) only [va0, va1, va2, va3, va4, va5, va6, va7, va8, va9, va10, va11, va12, va13, va14, va15, vb0, vb1, vb2, vb3, w_i8, w_u8, w_i16, w_u16, w_i32, w_u32, w_i64, w_u64, lt_T, lt_F, le_T, le_F, nlt_T, nlt_F, nle_T, nle_F, List.take_of_length_le, gB, gcW, gcR, posIn, renA, renL, Chunk.ren, Chunk.refs, evOpD, touchD, stepC, isFresh, nFresh, freshOf, mkR, hole, evL, evH, opd, get, putD, ofVal, cellOf, loadE, behind, lenE, idxAddrE, idxE, lookE, lookM, addPtr, intE, strE, unE, convE, AV.int, AV.bool, AV.str, ivs, take, frameOf, firstRegion, refsA, refsL, one, cellsA, floatOk, apartT, List.map, if_true, if_false, E_P, E_glob, reduceCtorEq, beq_self_eq_true, decide_true, decide_false, ↓reduceIte, Nat.reduceEqDiff, cond_true, cond_false, or_true, true_or, or_false, false_or, and_true, true_and, and_self, false_and, and_false, not_true, not_false_iff, Nat.reduceAdd, Nat.reduceSub, Nat.reduceMul, Nat.reduceLT, Nat.reduceLeDiff, Int.reduceToNat, Int.reduceLT, Int.reduceLE, Option.getD, Int.reduceMul, Int.reduceAdd, List.drop, List.take, Nat.reduceBEq, List.isEmpty, Int.reduceEq, Int.reduceNe, Int.reduceNeg, Int.reduceGT, Int.reduceGE, beq_true, beq_false, UInt8.reduceToNat, eqE, eq_self, foldE, maxE, minE, eq_T, eq_F, ndec, odec, adec, sdec, fillA, over, chop, List.replicate, leavesOk, leafOk, cellsEq, cellEq, E_byref, en18, bs47, hrf, e1, hk, ca19, rowsLn_len, rowsR_len, show ∀ B fr H, execT E B 18 (Code.loop _) fr H = rlG E B 18 (loopAt Tryd.f18 0) (gcn B (norm [0, 1, 4] fr) H) from fun B fr H => rl_intro rfl mt18_1 mb18_1 zf18_1 hd18_1 fr H, show ∀ B fr H, execT E B 18 (Code.loop _) fr H = rlG E B 18 (loopAt Tryd.f18 1) (gcn B (norm [0, 1, 4, 5] fr) H) from fun B fr H => rl_intro rfl mt18_3 mb18_3 zf18_3 hd18_3 fr H]
      · rw [if_neg (fun h => hh h.2)]
        rw [hem] at hrf
        have hk := ik0n ls hls f (nextT ls f) t1 t2 hh
        unfold hpO
        generalize nextT ls f = t at *
        generalize atL ls f = x at *
        rw [rl_step (fn := Tryd.f18) (k := 0) rfl]
        simp (disch := first | omega | (simp only [List.length_append, List.length_map, List.length_set, List.length_cons, List.length_nil, List.length_take, List.length_drop, rowsLn_len, rowsR_len]; omega)) only [va0, va1, va2, va3, va4, va5, va6, va7, va8, va9, va10, va11, va12, va13, va14, va15, vb0, vb1, vb2, vb3, w_i8, w_u8, w_i16, w_u16, w_i32, w_u32, w_i64, w_u64, lt_T, lt_F, le_T, le_F, nlt_T, nlt_F, nle_T, nle_F, List.take_of_length_le, gB, gcW, gcR, posIn, renA, renL, Chunk.ren, Chunk.refs, evOpD, touchD, stepC, isFresh, nFresh, freshOf, mkR, hole, evL, evH, opd, get, putD, ofVal, cellOf, loadE, behind, lenE, idxAddrE, idxE, lookE, lookM, addPtr, intE, strE, unE, convE, AV.int, AV.bool, AV.str, ivs, take, frameOf, firstRegion, refsA, refsL, one, cellsA, floatOk, apartT, List.map, if_true, if_false, E_P, E_glob, reduceCtorEq, beq_self_eq_true, decide_true, decide_false, ↓reduceIte, Nat.reduceEqDiff, cond_true, cond_false, or_true, true_or, or_false, false_or, and_true, true_and, and_self, false_and, and_false, not_true, not_false_iff, Nat.reduceAdd, Nat.reduceSub, Nat.reduceMul, Nat.reduceLT, Nat.reduceLeDiff, Int.reduceToNat, Int.reduceLT, Int.reduceLE, Option.getD, Int.reduceMul, Int.reduceAdd, List.drop, List.take, Nat.reduceBEq, List.isEmpty, Int.reduceEq, Int.reduceNe, Int.reduceNeg, Int.reduceGT, Int.reduceGE, beq_true, beq_false, UInt8.reduceToNat, eqE, eq_self, foldE, maxE, minE, eq_T, eq_F, ndec, odec, adec, sdec, fillA, over, chop, List.replicate, leavesOk, leafOk, cellsEq, cellEq, E_byref, en18, bs47, hrf, e1, hk, ca19, rowsLn_len, rowsR_len, show ∀ B fr H, execT E B 18 (Code.loop _) fr H = rlG E B 18 (loopAt Tryd.f18 0) (gcn B (norm [0, 1, 4] fr) H) from fun B fr H => rl_intro rfl mt18_1 mb18_1 zf18_1 hd18_1 fr H, show ∀ B fr H, execT E B 18 (Code.loop _) fr H = rlG E B 18 (loopAt Tryd.f18 1) (gcn B (norm [0, 1, 4, 5] fr) H) from fun B fr H => rl_intro rfl mt18_3 mb18_3 zf18_3 hd18_3 fr H]
  | cons r o =>
    have e1 := rl_in1 ls hls (r :: o) ho f hf (ls.length - (f + 1)) (f + 1) (by omega)
    rw [show grow ls f (ls.length - (f + 1)) (f + 1) = nextT ls f from rfl] at e1
    cases hem : (atL ls f).em with
    | true =>
      rw [if_neg (fun h => by cases h.1)]
      rw [hem] at hrf
      unfold hpO
      simp only
      generalize r :: o = out at *
      generalize nextT ls f = t at *
      generalize atL ls f = x at *
      rw [rl_step (fn := Tryd.f18) (k := 0) rfl]
      simp (disch := first | omega | (simp only [List.length_append, List.length_map, List.length_set, List.length_cons, List.length_nil, List.length_take, List.length_drop, rowsLn_len, rowsR_len]; omega)) only [va0, va1, va2, va3, va4, va5, va6, va7, va8, va9, va10, va11, va12, va13, va14, va15, vb0, vb1, vb2, vb3, w_i8, w_u8, w_i16, w_u16, w_i32, w_u32, w_i64, w_u64, lt_T, lt_F, le_T, le_F, nlt_T, nlt_F, nle_T, nle_F, List.take_of_length_le, gB, gcW, gcR, posIn, renA, renL, Chunk.ren, Chunk.refs, evOpD, touchD, stepC, isFresh, nFresh, freshOf, mkR, hole, evL, evH, opd, get, putD, ofVal, cellOf, loadE, behind, lenE, idxAddrE, idxE, lookE, lookM, addPtr, intE, strE, unE, convE, AV.int, AV.bool, AV.str, ivs, take, frameOf, firstRegion, refsA, refsL, one, cellsA, floatOk, apartT, List.map, if_true, if_false, E_P, E_glob, reduceCtorEq, beq_self_eq_true, decide_true, decide_false, ↓reduceIte, Nat.reduceEqDiff, cond_true, cond_false, or_true, true_or, or_false, false_or, and_true, true_and, and_self, false_and, and_false, not_true, not_false_iff, Nat.reduceAdd, Nat.reduceSub, Nat.reduceMul, Nat.reduceLT, Nat.reduceLeDiff, Int.reduceToNat, Int.reduceLT, Int.reduceLE, Option.getD, Int.reduceMul, Int.reduceAdd, List.drop, List.take, Nat.reduceBEq, List.isEmpty, Int.reduceEq, Int.reduceNe, Int.reduceNeg, Int.reduceGT, Int.reduceGE, beq_true, beq_false, UInt8.reduceToNat, eqE, eq_self, foldE, maxE, minE, eq_T, eq_F, ndec, odec, adec, sdec, fillA, over, chop, List.replicate, leavesOk, leafOk, cellsEq, cellEq, E_byref, en18, bs47, hrf, e1, rowsLn_len, rowsR_len, show ∀ B fr H, execT E B 18 (Code.loop _) fr H = rlG E B 18 (loopAt Tryd.f18 0) (gcn B (norm [0, 1, 4] fr) H) from fun B fr H => rl_intro rfl mt18_1 mb18_1 zf18_1 hd18_1 fr H, show ∀ B fr H, execT E B 18 (Code.loop _) fr H = rlG E B 18 (loopAt Tryd.f18 1) (gcn B (norm [0, 1, 4, 5] fr) H) from fun B fr H => rl_intro rfl mt18_3 mb18_3 zf18_3 hd18_3 fr H]
    | false =>
      by_cases hh : hitR ls f (nextT ls f)
      · rw [if_pos ⟨rfl, hh⟩]
        rw [hem] at hrf
        have hk := ik1h ls hls (r :: o) ho f (nextT ls f) t1 t2 hh
        rw [show hpO ls (r :: o ++ [regR ls f (nextT ls f)]) = [.box [.ref 1 0 0 ls.length], .fz 5 0 (rowsLn ls) false, .box [.ref 3 0 0 (r :: o ++ [regR ls f (nextT ls f)]).length], .sl 8 0 (rowsR (r :: o ++ [regR ls f (nextT ls f)])) false] from rfl]
        rw [show (r :: o ++ [regR ls f (nextT ls f)]).length = (r :: o).length + 1 from by simp]
        rw [show hpO ls (r :: o) = [.box [.ref 1 0 0 ls.length], .fz 5 0 (rowsLn ls) false, .box [.ref 3 0 0 (r :: o).length], .sl 8 0 (rowsR (r :: o)) false] from rfl]
        generalize rowsR (r :: o ++ [regR ls f (nextT ls f)]) = rr at *
        generalize r :: o = out at *
        generalize nextT ls f = t at *
        generalize atL ls f = x at *
        rw [rl_step (fn := Tryd.f18) (k := 0) rfl]
        simp (disch := first | omega | (simp only [List.length_append, List.length_map, List.length_set, List.length_cons, List.length_nil, List.length_take, List.length_drop, rowsLn_len, rowsR_len]; omega)) only [va0, va1, va2, va3, va4, va5, va6, va7, va8, va9, va10, va11, va12, va13, va14, va15, vb0, vb1, vb2, vb3, w_i8, w_u8, w_i16, w_u16, w_i32, w_u32, w_i64, w_u64, lt_T, lt_F, le_T, le_F, nlt_T, nlt_F, nle_T, nle_F, List.take_of_length_le, gB, gcW, gcR, posIn, renA, renL, Chunk.ren, Chunk.refs, evOpD, touchD, stepC, isFresh, nFresh, freshOf, mkR, hole, evL, evH, opd, get, putD, ofVal, cellOf, loadE, behind, lenE, idxAddrE, idxE, lookE, lookM, addPtr, intE, strE, unE, convE, AV.int, AV.bool, AV.str, ivs, take, frameOf, firstRegion, refsA, refsL, one, cellsA, floatOk, apartT, List.map, if_true, if_false, E_P, E_glob, reduceCtorEq, beq_self_eq_true, decide_true, decide_false, ↓reduceIte, Nat.reduceEqDiff, cond_true, cond_false, or_true, true_or, or_false, false_or, and_true, true_and, and_self, false_and, and_false, not_true, not_false_iff, Nat.reduceAdd, Nat.reduceSub, Nat.reduceMul, Nat.reduceLT, Nat.reduceLeDiff, Int.reduceToNat, Int.reduceLT, Int.reduceLE, Option.getD, Int.reduceMul, Int.reduceAdd, List.drop, List.take, Nat.reduceBEq, List.isEmpty, Int.reduceEq, Int.reduceNe, Int.reduceNeg, Int.reduceGT, Int.reduceGE, beq_true, beq_false, UInt8.reduceToNat, eqE, eq_self, foldE, maxE, minE, eq_T, eq_F, ndec, odec, adec, sdec, fillA, over, chop, List.replicate, leavesOk, leafOk, cellsEq, cellEq, E_byref, en18, bs47, hrf, e1, hk, ca19, rowsLn_len, rowsR_len, show ∀ B fr H, execT E B 18 (Code.loop _) fr H = rlG E B 18 (loopAt Tryd.f18 0) (gcn B (norm [0, 1, 4] fr) H) from fun B fr H => rl_intro rfl mt18_1 mb18_1 zf18_1 hd18_1 fr H, show ∀ B fr H, execT E B 18 (Code.loop _) fr H = rlG E B 18 (loopAt Tryd.f18 1) (gcn B (norm [0, 1, 4, 5] fr) H) from fun B fr H => rl_intro rfl mt18_3 mb18_3 zf18_3 hd18_3 fr H]
      · rw [if_neg (fun h => hh h.2)]
        rw [hem] at hrf
        have hk := ik1n ls hls (r :: o) ho f (nextT ls f) t1 t2 hh
        unfold hpO
        simp only
        generalize r :: o = out at *
        generalize nextT ls f = t at *
        generalize atL ls f = x at *
        rw [rl_step (fn := Tryd.f18) (k := 0) rfl]
        simp (disch := first | omega | (simp only [List.length_append, List.length_map, List.length_set, List.length_cons, List.length_nil, List.length_take, List.length_drop, rowsLn_len, rowsR_len]; omega)) only [va0, va1, va2, va3, va4, va5, va6, va7, va8, va9, va10, va11, va12, va13, va14, va15, vb0, vb1, vb2, vb3, w_i8, w_u8, w_i16, w_u16, w_i32, w_u32, w_i64, w_u64, lt_T, lt_F, le_T, le_F, nlt_T, nlt_F, nle_T, nle_F, List.take_of_length_le, gB, gcW, gcR, posIn, renA, renL, Chunk.ren, Chunk.refs, evOpD, touchD, stepC, isFresh, nFresh, freshOf, mkR, hole, evL, evH, opd, get, putD, ofVal, cellOf, loadE, behind, lenE, idxAddrE, idxE, lookE, lookM, addPtr, intE, strE, unE, convE, AV.int, AV.bool, AV.str, ivs, take, frameOf, firstRegion, refsA, refsL, one, cellsA, floatOk, apartT, List.map, if_true, if_false, E_P, E_glob, reduceCtorEq, beq_self_eq_true, decide_true, decide_false, ↓reduceIte, Nat.reduceEqDiff, cond_true, cond_false, or_true, true_or, or_false, false_or, and_true, true_and, and_self, false_and, and_false, not_true, not_false_iff, Nat.reduceAdd, Nat.reduceSub, Nat.reduceMul, Nat.reduceLT, Nat.reduceLeDiff, Int.reduceToNat, Int.reduceLT, Int.reduceLE, Option.getD, Int.reduceMul, Int.reduceAdd, List.drop, List.take, Nat.reduceBEq, List.isEmpty, Int.reduceEq, Int.reduceNe, Int.reduceNeg, Int.reduceGT, Int.reduceGE, beq_true, beq_false, UInt8.reduceToNat, eqE, eq_self, foldE, maxE, minE, eq_T, eq_F, ndec, odec, adec, sdec, fillA, over, chop, List.replicate, leavesOk, leafOk, cellsEq, cellEq, E_byref, en18, bs47, hrf, e1, hk, ca19, rowsLn_len, rowsR_len, show ∀ B fr H, execT E B 18 (Code.loop _) fr H = rlG E B 18 (loopAt Tryd.f18 0) (gcn B (norm [0, 1, 4] fr) H) from fun B fr H => rl_intro rfl mt18_1 mb18_1 zf18_1 hd18_1 fr H, show ∀ B fr H, execT E B 18 (Code.loop _) fr H = rlG E B 18 (loopAt Tryd.f18 1) (gcn B (norm [0, 1, 4, 5] fr) H) from fun B fr H => rl_intro rfl mt18_3 mb18_3 zf18_3 hd18_3 fr H]
theorem l18 (ls : List Ln) (hls : ls.length ≤ 100000) : ∀ (m f : Nat) (out : List Rg), f ≤ ls.length → ls.length ≤ f + m → out.length + m ≤ 200000 →
    rl E 3 18 (loopAt Tryd.f18 0) [(0, .i (.sl 5 (rowsLn ls) false)), (1, .clo (.func 19) [] [.ptr 0 0 0 0, .ptr 2 0 0 0]), (4, .i (.v (.int .i64 (f))))] (hpO ls out) = some (.exit 0, [(0, .i (.sl 5 (rowsLn ls) false)), (1, .clo (.func 19) [] [.ptr 0 0 0 0, .ptr 2 0 0 0]), (4, .i (.v (.int .i64 (ls.length)))), (9, .i (.v (.bool false)))], hpO ls (rngS ls m f out)) := by
  intro m
  induction m with
  | zero =>
    intro f out hf hm ho
    obtain rfl : f = ls.length := by omega
    rw [rngS]
    cases out with
    | nil =>
      unfold hpO
      rw [rl_step (fn := Tryd.f18) (k := 0) rfl]
      simp (disch := first | omega | (simp only [List.length_append, List.length_map, List.length_set, List.length_cons, List.length_nil, List.length_take, List.length_drop, rowsLn_len, rowsR_len]; omega)) only [va0, va1, va2, va3, va4, va5, va6, va7, va8, va9, va10, va11, va12, va13, va14, va15, vb0, vb1, vb2, vb3, w_i8, w_u8, w_i16, w_u16, w_i32, w_u32, w_i64, w_u64, lt_T, lt_F, le_T, le_F, nlt_T, nlt_F, nle_T, nle_F, List.take_of_length_le, gB, gcW, gcR, posIn, renA, renL, Chunk.ren, Chunk.refs, evOpD, touchD, stepC, isFresh, nFresh, freshOf, mkR, hole, evL, evH, opd, get, putD, ofVal, cellOf, loadE, behind, lenE, idxAddrE, idxE, lookE, lookM, addPtr, intE, strE, unE, convE, AV.int, AV.bool, AV.str, ivs, take, frameOf, firstRegion, refsA, refsL, one, cellsA, floatOk, apartT, List.map, if_true, if_false, E_P, E_glob, reduceCtorEq, beq_self_eq_true, decide_true, decide_false, ↓reduceIte, Nat.reduceEqDiff, cond_true, cond_false, or_true, true_or, or_false, false_or, and_true, true_and, and_self, false_and, and_false, not_true, not_false_iff, Nat.reduceAdd, Nat.reduceSub, Nat.reduceMul, Nat.reduceLT, Nat.reduceLeDiff, Int.reduceToNat, Int.reduceLT, Int.reduceLE, Option.getD, Int.reduceMul, Int.reduceAdd, List.drop, List.take, Nat.reduceBEq, List.isEmpty, Int.reduceEq, Int.reduceNe, Int.reduceNeg, Int.reduceGT, Int.reduceGE, beq_true, beq_false, UInt8.reduceToNat, eqE, eq_self, foldE, maxE, minE, eq_T, eq_F, ndec, odec, adec, sdec, fillA, over, chop, List.replicate, leavesOk, leafOk, cellsEq, cellEq, E_byref, en18, bs47, rowsLn_len, rowsR_len, show ∀ B fr H, execT E B 18 (Code.loop _) fr H = rlG E B 18 (loopAt Tryd.f18 0) (gcn B (norm [0, 1, 4] fr) H) from fun B fr H => rl_intro rfl mt18_1 mb18_1 zf18_1 hd18_1 fr H, show ∀ B fr H, execT E B 18 (Code.loop _) fr H = rlG E B 18 (loopAt Tryd.f18 1) (gcn B (norm [0, 1, 4, 5] fr) H) from fun B fr H => rl_intro rfl mt18_3 mb18_3 zf18_3 hd18_3 fr H]
    | cons r o =>
      unfold hpO
      simp only
      generalize r :: o = out at *
      rw [rl_step (fn := Tryd.f18) (k := 0) rfl]
      simp (disch := first | omega | (simp only [List.length_append, List.length_map, List.length_set, List.length_cons, List.length_nil, List.length_take, List.length_drop, rowsLn_len, rowsR_len]; omega)) only [va0, va1, va2, va3, va4, va5, va6, va7, va8, va9, va10, va11, va12, va13, va14, va15, vb0, vb1, vb2, vb3, w_i8, w_u8, w_i16, w_u16, w_i32, w_u32, w_i64, w_u64, lt_T, lt_F, le_T, le_F, nlt_T, nlt_F, nle_T, nle_F, List.take_of_length_le, gB, gcW, gcR, posIn, renA, renL, Chunk.ren, Chunk.refs, evOpD, touchD, stepC, isFresh, nFresh, freshOf, mkR, hole, evL, evH, opd, get, putD, ofVal, cellOf, loadE, behind, lenE, idxAddrE, idxE, lookE, lookM, addPtr, intE, strE, unE, convE, AV.int, AV.bool, AV.str, ivs, take, frameOf, firstRegion, refsA, refsL, one, cellsA, floatOk, apartT, List.map, if_true, if_false, E_P, E_glob, reduceCtorEq, beq_self_eq_true, decide_true, decide_false, ↓reduceIte, Nat.reduceEqDiff, cond_true, cond_false, or_true, true_or, or_false, false_or, and_true, true_and, and_self, false_and, and_false, not_true, not_false_iff, Nat.reduceAdd, Nat.reduceSub, Nat.reduceMul, Nat.reduceLT, Nat.reduceLeDiff, Int.reduceToNat, Int.reduceLT, Int.reduceLE, Option.getD, Int.reduceMul, Int.reduceAdd, List.drop, List.take, Nat.reduceBEq, List.isEmpty, Int.reduceEq, Int.reduceNe, Int.reduceNeg, Int.reduceGT, Int.reduceGE, beq_true, beq_false, UInt8.reduceToNat, eqE, eq_self, foldE, maxE, minE, eq_T, eq_F, ndec, odec, adec, sdec, fillA, over, chop, List.replicate, leavesOk, leafOk, cellsEq, cellEq, E_byref, en18, bs47, rowsLn_len, rowsR_len, show ∀ B fr H, execT E B 18 (Code.loop _) fr H = rlG E B 18 (loopAt Tryd.f18 0) (gcn B (norm [0, 1, 4] fr) H) from fun B fr H => rl_intro rfl mt18_1 mb18_1 zf18_1 hd18_1 fr H, show ∀ B fr H, execT E B 18 (Code.loop _) fr H = rlG E B 18 (loopAt Tryd.f18 1) (gcn B (norm [0, 1, 4, 5] fr) H) from fun B fr H => rl_intro rfl mt18_3 mb18_3 zf18_3 hd18_3 fr H]
  | succ m ih =>
    intro f out hf hm ho
    rw [rngS]
    by_cases hlt : f < ls.length
    · rw [if_pos hlt, rl_rnd ls hls f hlt out (by omega)]
      obtain ⟨t1, t2⟩ := nextT_b ls f hlt
      have := addR_len ls f out
      exact ih _ _ t2 (by omega) (by omega)
    · rw [if_neg hlt]
      obtain rfl : f = ls.length := by omega
      clear ih
      cases out with
      | nil =>
        unfold hpO
        rw [rl_step (fn := Tryd.f18) (k := 0) rfl]
        simp (disch := first | omega | (simp only [List.length_append, List.length_map, List.length_set, List.length_cons, List.length_nil, List.length_take, List.length_drop, rowsLn_len, rowsR_len]; omega)) only [va0, va1, va2, va3, va4, va5, va6, va7, va8, va9, va10, va11, va12, va13, va14, va15, vb0, vb1, vb2, vb3, w_i8, w_u8, w_i16, w_u16, w_i32, w_u32, w_i64, w_u64, lt_T, lt_F, le_T, le_F, nlt_T, nlt_F, nle_T, nle_F, List.take_of_length_le, gB, gcW, gcR, posIn, renA, renL, Chunk.ren, Chunk.refs, evOpD, touchD, stepC, isFresh, nFresh, freshOf, mkR, hole, evL, evH, opd, get, putD, ofVal, cellOf, loadE, behind, lenE, idxAddrE, idxE, lookE, lookM, addPtr, intE, strE, unE, convE, AV.int, AV.bool, AV.str, ivs, take, frameOf, firstRegion, refsA, refsL, one, cellsA, floatOk, apartT, List.map, if_true, if_false, E_P, E_glob, reduceCtorEq, beq_self_eq_true, decide_true, decide_false, ↓reduceIte, Nat.reduceEqDiff, cond_true, cond_false, or_true, true_or, or_false, false_or, and_true, true_and, and_self, false_and, and_false, not_true, not_false_iff, Nat.reduceAdd, Nat.reduceSub, Nat.reduceMul, Nat.reduceLT, Nat.reduceLeDiff, Int.reduceToNat, Int.reduceLT, Int.reduceLE, Option.getD, Int.reduceMul, Int.reduceAdd, List.drop, List.take, Nat.reduceBEq, List.isEmpty, Int.reduceEq, Int.reduceNe, Int.reduceNeg, Int.reduceGT, Int.reduceGE, beq_true, beq_false, UInt8.reduceToNat, eqE, eq_self, foldE, maxE, minE, eq_T, eq_F, ndec, odec, adec, sdec, fillA, over, chop, List.replicate, leavesOk, leafOk, cellsEq, cellEq, E_byref, en18, bs47, rowsLn_len, rowsR_len, show ∀ B fr H, execT E B 18 (Code.loop _) fr H = rlG E B 18 (loopAt Tryd.f18 0) (gcn B (norm [0, 1, 4] fr) H) from fun B fr H => rl_intro rfl mt18_1 mb18_1 zf18_1 hd18_1 fr H, show ∀ B fr H, execT E B 18 (Code.loop _) fr H = rlG E B 18 (loopAt Tryd.f18 1) (gcn B (norm [0, 1, 4, 5] fr) H) from fun B fr H => rl_intro rfl mt18_3 mb18_3 zf18_3 hd18_3 fr H]
      | cons r o =>
        unfold hpO
        simp only
        generalize r :: o = out at *
        rw [rl_step (fn := Tryd.f18) (k := 0) rfl]
        simp (disch := first | omega | (simp only [List.length_append, List.length_map, List.length_set, List.length_cons, List.length_nil, List.length_take, List.length_drop, rowsLn_len, rowsR_len]; omega)) only [va0, va1, va2, va3, va4, va5, va6, va7, va8, va9, va10, va11, va12, va13, va14, va15, vb0, vb1, vb2, vb3, w_i8, w_u8, w_i16, w_u16, w_i32, w_u32, w_i64, w_u64, lt_T, lt_F, le_T, le_F, nlt_T, nlt_F, nle_T, nle_F, List.take_of_length_le, gB, gcW, gcR, posIn, renA, renL, Chunk.ren, Chunk.refs, evOpD, touchD, stepC, isFresh, nFresh, freshOf, mkR, hole, evL, evH, opd, get, putD, ofVal, cellOf, loadE, behind, lenE, idxAddrE, idxE, lookE, lookM, addPtr, intE, strE, unE, convE, AV.int, AV.bool, AV.str, ivs, take, frameOf, firstRegion, refsA, refsL, one, cellsA, floatOk, apartT, List.map, if_true, if_false, E_P, E_glob, reduceCtorEq, beq_self_eq_true, decide_true, decide_false, ↓reduceIte, Nat.reduceEqDiff, cond_true, cond_false, or_true, true_or, or_false, false_or, and_true, true_and, and_self, false_and, and_false, not_true, not_false_iff, Nat.reduceAdd, Nat.reduceSub, Nat.reduceMul, Nat.reduceLT, Nat.reduceLeDiff, Int.reduceToNat, Int.reduceLT, Int.reduceLE, Option.getD, Int.reduceMul, Int.reduceAdd, List.drop, List.take, Nat.reduceBEq, List.isEmpty, Int.reduceEq, Int.reduceNe, Int.reduceNeg, Int.reduceGT, Int.reduceGE, beq_true, beq_false, UInt8.reduceToNat, eqE, eq_self, foldE, maxE, minE, eq_T, eq_F, ndec, odec, adec, sdec, fillA, over, chop, List.replicate, leavesOk, leafOk, cellsEq, cellEq, E_byref, en18, bs47, rowsLn_len, rowsR_len, show ∀ B fr H, execT E B 18 (Code.loop _) fr H = rlG E B 18 (loopAt Tryd.f18 0) (gcn B (norm [0, 1, 4] fr) H) from fun B fr H => rl_intro rfl mt18_1 mb18_1 zf18_1 hd18_1 fr H, show ∀ B fr H, execT E B 18 (Code.loop _) fr H = rlG E B 18 (loopAt Tryd.f18 1) (gcn B (norm [0, 1, 4, 5] fr) H) from fun B fr H => rl_intro rfl mt18_3 mb18_3 zf18_3 hd18_3 fr H]
end Go.VI

namespace Go.VI
open Go.Proofs
set_option maxRecDepth 100000
set_option linter.unusedSimpArgs false
set_option linter.unusedVariables false
set_option maxHeartbeats 4000000
theorem c18 (ls : List Ln) (hls : ls.length ≤ 100000) : ∃ L, callT E 18 [.i (.sl 5 (rowsLn ls) false), .clo (.func 19) [] [.ptr 0 0 0 0, .ptr 2 0 0 0]] [.box [.ref 1 0 0 ls.length], .fz 5 0 (rowsLn ls) false, .box [.i (.sl 0 [] true)]] = some (.tup [], hpO ls (rngS ls ls.length 0 []) ++ L) := by
  have h := l18 ls hls ls.length 0 [] (Nat.zero_le _) (by omega) (by simp; omega)
  have h' : rl E 3 18 (loopAt Tryd.f18 0) [(0, .i (.sl 5 (rowsLn ls) false)), (1, .clo (.func 19) [] [.ptr 0 0 0 0, .ptr 2 0 0 0]), (4, .i (.v (.int .i64 0)))] [.box [.ref 1 0 0 ls.length], .fz 5 0 (rowsLn ls) false, .box [.i (.sl 0 [] true)]] = _ := h
  clear h
  generalize rngS ls ls.length 0 [] = out at *
  cases out with
  | nil =>
    unfold hpO at h' ⊢
    rw [callT_eq Tryd.func18 rfl fok18 (by simp [Tryd.ntmps18])]
    simp (disch := first | omega | (simp only [List.length_append, List.length_map, List.length_set, List.length_cons, List.length_nil, List.length_take, List.length_drop, rowsLn_len, rowsR_len]; omega)) only [va0, va1, va2, va3, va4, va5, va6, va7, va8, va9, va10, va11, va12, va13, va14, va15, vb0, vb1, vb2, vb3, w_i8, w_u8, w_i16, w_u16, w_i32, w_u32, w_i64, w_u64, lt_T, lt_F, le_T, le_F, nlt_T, nlt_F, nle_T, nle_F, List.take_of_length_le, gB, gcW, gcR, posIn, renA, renL, Chunk.ren, Chunk.refs, evOpD, touchD, stepC, isFresh, nFresh, freshOf, mkR, hole, evL, evH, opd, get, putD, ofVal, cellOf, loadE, behind, lenE, idxAddrE, idxE, lookE, lookM, addPtr, intE, strE, unE, convE, AV.int, AV.bool, AV.str, ivs, take, frameOf, firstRegion, refsA, refsL, one, cellsA, floatOk, apartT, List.map, if_true, if_false, E_P, E_glob, reduceCtorEq, beq_self_eq_true, decide_true, decide_false, ↓reduceIte, Nat.reduceEqDiff, cond_true, cond_false, or_true, true_or, or_false, false_or, and_true, true_and, and_self, false_and, and_false, not_true, not_false_iff, Nat.reduceAdd, Nat.reduceSub, Nat.reduceMul, Nat.reduceLT, Nat.reduceLeDiff, Int.reduceToNat, Int.reduceLT, Int.reduceLE, Option.getD, Int.reduceMul, Int.reduceAdd, List.drop, List.take, Nat.reduceBEq, List.isEmpty, Int.reduceEq, Int.reduceNe, Int.reduceNeg, Int.reduceGT, Int.reduceGE, beq_true, beq_false, UInt8.reduceToNat, eqE, eq_self, foldE, maxE, minE, eq_T, eq_F, ndec, odec, adec, sdec, fillA, over, chop, List.replicate, leavesOk, leafOk, cellsEq, cellEq, E_byref, en18, bs47, h', rowsLn_len, rowsR_len, show ∀ B fr H, execT E B 18 (Code.loop _) fr H = rlG E B 18 (loopAt Tryd.f18 0) (gcn B (norm [0, 1, 4] fr) H) from fun B fr H => rl_intro rfl mt18_1 mb18_1 zf18_1 hd18_1 fr H]
    exact ⟨_, rfl⟩
  | cons r o =>
    unfold hpO at h' ⊢
    simp only at h' ⊢
    generalize r :: o = out at *
    rw [callT_eq Tryd.func18 rfl fok18 (by simp [Tryd.ntmps18])]
    simp (disch := first | omega | (simp only [List.length_append, List.length_map, List.length_set, List.length_cons, List.length_nil, List.length_take, List.length_drop, rowsLn_len, rowsR_len]; omega)) only [va0, va1, va2, va3, va4, va5, va6, va7, va8, va9, va10, va11, va12, va13, va14, va15, vb0, vb1, vb2, vb3, w_i8, w_u8, w_i16, w_u16, w_i32, w_u32, w_i64, w_u64, lt_T, lt_F, le_T, le_F, nlt_T, nlt_F, nle_T, nle_F, List.take_of_length_le, gB, gcW, gcR, posIn, renA, renL, Chunk.ren, Chunk.refs, evOpD, touchD, stepC, isFresh, nFresh, freshOf, mkR, hole, evL, evH, opd, get, putD, ofVal, cellOf, loadE, behind, lenE, idxAddrE, idxE, lookE, lookM, addPtr, intE, strE, unE, convE, AV.int, AV.bool, AV.str, ivs, take, frameOf, firstRegion, refsA, refsL, one, cellsA, floatOk, apartT, List.map, if_true, if_false, E_P, E_glob, reduceCtorEq, beq_self_eq_true, decide_true, decide_false, ↓reduceIte, Nat.reduceEqDiff, cond_true, cond_false, or_true, true_or, or_false, false_or, and_true, true_and, and_self, false_and, and_false, not_true, not_false_iff, Nat.reduceAdd, Nat.reduceSub, Nat.reduceMul, Nat.reduceLT, Nat.reduceLeDiff, Int.reduceToNat, Int.reduceLT, Int.reduceLE, Option.getD, Int.reduceMul, Int.reduceAdd, List.drop, List.take, Nat.reduceBEq, List.isEmpty, Int.reduceEq, Int.reduceNe, Int.reduceNeg, Int.reduceGT, Int.reduceGE, beq_true, beq_false, UInt8.reduceToNat, eqE, eq_self, foldE, maxE, minE, eq_T, eq_F, ndec, odec, adec, sdec, fillA, over, chop, List.replicate, leavesOk, leafOk, cellsEq, cellEq, E_byref, en18, bs47, h', rowsLn_len, rowsR_len, show ∀ B fr H, execT E B 18 (Code.loop _) fr H = rlG E B 18 (loopAt Tryd.f18 0) (gcn B (norm [0, 1, 4] fr) H) from fun B fr H => rl_intro rfl mt18_1 mb18_1 zf18_1 hd18_1 fr H]
    exact ⟨_, rfl⟩
theorem ik18 (ls : List Ln) (hls : ls.length ≤ 100000) : isoK E (callT E) 18 [.i (.sl 5 (rowsLn ls) false), .clo (.func 19) [] [.ptr 0 0 0 0, .ptr 2 0 0 0]] [.box [.ref 1 0 0 ls.length], .fz 5 0 (rowsLn ls) false, .box [.i (.sl 0 [] true)]] = some (.tup [], hpO ls (rngS ls ls.length 0 [])) := by
  obtain ⟨L, h⟩ := c18 ls hls
  have he : E.ext 18 = none := rfl
  generalize rngS ls ls.length 0 [] = out at *
  cases out with
  | nil =>
    unfold hpO at h ⊢
    simp only [List.cons_append, List.nil_append] at h
    unfold isoK
    simp [exCl, he, refsL, refsA, renL, renA, posIn, Chunk.ren, h, Chunk.refs, reach, setAll, backRen]
  | cons r o =>
    unfold hpO at h ⊢
    simp only [List.cons_append, List.nil_append] at h ⊢
    generalize rowsR (r :: o) = rr at *
    generalize (r :: o).length = n at *
    unfold isoK
    simp [exCl, he, refsL, refsA, renL, renA, posIn, Chunk.ren, h, Chunk.refs, reach, setAll, backRen]
def findS (v : List (List Gl)) : List Rg := rngS (v.map readS) v.length 0 []
theorem rngS_len (ls : List Ln) : ∀ (m f : Nat) (out : List Rg), (rngS ls m f out).length ≤ out.length + m
  | 0, f, out => Nat.le_refl _
  | m + 1, f, out => by
    rw [rngS]
    split
    · have := rngS_len ls m (nextT ls f) (addR ls f out)
      have := addR_len ls f out
      omega
    · omega
theorem c10 (v : List (List Gl)) (hv : okV v) (a b c d : Int) (e : Bool) : ∃ L, callT E 10 [.agg [.i (.v (.int .i64 a)), .i (.v (.int .i64 b)), .i (.sl 1 (rowsV v) false), .i (.v (.int .i64 c)), .i (.v (.int .i64 d)), .i (.v (.bool e))]] [] = some (.i (.sl 8 (rowsR (findS v)) false), L) := by
  have h := l10 v hv v.length 0 [] (by omega) (by have := hv.1; simp; omega)
  have hv1 := hv.1
  rw [List.drop_zero, List.nil_append] at h
  have h' : rl E 0 10 (loopAt Tryd.f10 0) [(3, .ptr 0 0 0 0), (8, .i (.sl 1 (rowsV v) false)), (9, .i (.v (.int .i64 v.length))), (10, .i (.v (.int .i64 0)))] [.box [.ref 1 0 0 0], .sl 5 0 [] false] = _ := h
  clear h
  have hk := ik18 (v.map readS) (by rw [List.length_map]; exact hv1)
  have hml : (v.map readS).length = v.length := List.length_map ..
  have hfs : findS v = rngS (v.map readS) (v.map readS).length 0 [] := by rw [hml]; rfl
  rw [hfs]
  have hrl := rngS_len (v.map readS) (v.map readS).length 0 []
  rw [List.length_nil] at hrl
  have htk0 : List.take (v.map readS).length (rowsLn (v.map readS)) = rowsLn (v.map readS) := List.take_of_length_le (by rw [rowsLn_len]; exact Nat.le_refl _)
  generalize v.map readS = ls at *
  generalize rngS ls ls.length 0 [] = out at *
  have htk : List.take out.length (rowsR out) = rowsR out := List.take_of_length_le (by rw [rowsR_len]; exact Nat.le_refl _)
  cases out with
  | nil =>
    unfold hpO at hk
    rw [show rowsR [] = [] from rfl]
    rw [callT_eq Tryd.func10 rfl fok10 (by simp [Tryd.ntmps10])]
    simp (disch := first | omega | (simp only [List.length_append, List.length_map, List.length_set, List.length_cons, List.length_nil, List.length_take, List.length_drop, rowsV_len, rowsLn_len, rowsR_len]; omega)) only [va0, va1, va2, va3, va4, va5, va6, va7, va8, va9, va10, va11, va12, va13, va14, va15, vb0, vb1, vb2, vb3, w_i8, w_u8, w_i16, w_u16, w_i32, w_u32, w_i64, w_u64, lt_T, lt_F, le_T, le_F, nlt_T, nlt_F, nle_T, nle_F, List.take_of_length_le, gB, gcW, gcR, posIn, renA, renL, Chunk.ren, Chunk.refs, evOpD, touchD, stepC, isFresh, nFresh, freshOf, mkR, hole, evL, evH, opd, get, putD, ofVal, cellOf, loadE, behind, lenE, idxAddrE, idxE, lookE, lookM, addPtr, intE, strE, unE, convE, AV.int, AV.bool, AV.str, ivs, take, frameOf, firstRegion, refsA, refsL, one, cellsA, floatOk, apartT, List.map, if_true, if_false, E_P, E_glob, reduceCtorEq, beq_self_eq_true, decide_true, decide_false, ↓reduceIte, Nat.reduceEqDiff, cond_true, cond_false, or_true, true_or, or_false, false_or, and_true, true_and, and_self, false_and, and_false, not_true, not_false_iff, Nat.reduceAdd, Nat.reduceSub, Nat.reduceMul, Nat.reduceLT, Nat.reduceLeDiff, Int.reduceToNat, Int.reduceLT, Int.reduceLE, Option.getD, Int.reduceMul, Int.reduceAdd, List.drop, List.take, Nat.reduceBEq, List.isEmpty, Int.reduceEq, Int.reduceNe, Int.reduceNeg, Int.reduceGT, Int.reduceGE, beq_true, beq_false, UInt8.reduceToNat, eqE, eq_self, foldE, maxE, minE, eq_T, eq_F, ndec, odec, adec, sdec, fillA, over, chop, List.replicate, leavesOk, leafOk, cellsEq, cellEq, E_byref, en10, bs22, bs36, bs47, h', hk, htk0, rowsV_len, rowsLn_len, rowsR_len, show ∀ B fr H, execT E B 10 (Code.loop _) fr H = rlM E B 10 (loopAt Tryd.f10 0) [3, 8, 9, 10] [] (matF [] fr H).1 (matB [(3, 0, 5)] (matF [] fr H).1 (matF [] fr H).2) from fun B fr H => rl_introM rfl mt10_3 mb10_3 zf10_3 hd10_3 fr H]
    exact ⟨_, rfl⟩
  | cons r o =>
    unfold hpO at hk
    simp only at hk
    generalize r :: o = out at *
    rw [callT_eq Tryd.func10 rfl fok10 (by simp [Tryd.ntmps10])]
    simp (disch := first | omega | (simp only [List.length_append, List.length_map, List.length_set, List.length_cons, List.length_nil, List.length_take, List.length_drop, rowsV_len, rowsLn_len, rowsR_len]; omega)) only [va0, va1, va2, va3, va4, va5, va6, va7, va8, va9, va10, va11, va12, va13, va14, va15, vb0, vb1, vb2, vb3, w_i8, w_u8, w_i16, w_u16, w_i32, w_u32, w_i64, w_u64, lt_T, lt_F, le_T, le_F, nlt_T, nlt_F, nle_T, nle_F, List.take_of_length_le, gB, gcW, gcR, posIn, renA, renL, Chunk.ren, Chunk.refs, evOpD, touchD, stepC, isFresh, nFresh, freshOf, mkR, hole, evL, evH, opd, get, putD, ofVal, cellOf, loadE, behind, lenE, idxAddrE, idxE, lookE, lookM, addPtr, intE, strE, unE, convE, AV.int, AV.bool, AV.str, ivs, take, frameOf, firstRegion, refsA, refsL, one, cellsA, floatOk, apartT, List.map, if_true, if_false, E_P, E_glob, reduceCtorEq, beq_self_eq_true, decide_true, decide_false, ↓reduceIte, Nat.reduceEqDiff, cond_true, cond_false, or_true, true_or, or_false, false_or, and_true, true_and, and_self, false_and, and_false, not_true, not_false_iff, Nat.reduceAdd, Nat.reduceSub, Nat.reduceMul, Nat.reduceLT, Nat.reduceLeDiff, Int.reduceToNat, Int.reduceLT, Int.reduceLE, Option.getD, Int.reduceMul, Int.reduceAdd, List.drop, List.take, Nat.reduceBEq, List.isEmpty, Int.reduceEq, Int.reduceNe, Int.reduceNeg, Int.reduceGT, Int.reduceGE, beq_true, beq_false, UInt8.reduceToNat, eqE, eq_self, foldE, maxE, minE, eq_T, eq_F, ndec, odec, adec, sdec, fillA, over, chop, List.replicate, leavesOk, leafOk, cellsEq, cellEq, E_byref, en10, bs22, bs36, bs47, h', hk, htk, htk0, rowsV_len, rowsLn_len, rowsR_len, show ∀ B fr H, execT E B 10 (Code.loop _) fr H = rlM E B 10 (loopAt Tryd.f10 0) [3, 8, 9, 10] [] (matF [] fr H).1 (matB [(3, 0, 5)] (matF [] fr H).1 (matF [] fr H).2) from fun B fr H => rl_introM rfl mt10_3 mb10_3 zf10_3 hd10_3 fr H]
    exact ⟨_, rfl⟩
theorem ik10 (v : List (List Gl)) (hv : okV v) (a b c d : Int) (e : Bool) (H : Hp) : isoK E (callT E) 10 [.agg [.i (.v (.int .i64 a)), .i (.v (.int .i64 b)), .i (.sl 1 (rowsV v) false), .i (.v (.int .i64 c)), .i (.v (.int .i64 d)), .i (.v (.bool e))]] H = some (.i (.sl 8 (rowsR (findS v)) false), H) := isoK_val rfl rfl rfl (c10 v hv a b c d e)
end Go.VI

namespace Go.VI
open Go.Proofs
set_option maxRecDepth 100000
set_option linter.unusedSimpArgs false
set_option linter.unusedVariables false
set_option maxHeartbeats 4000000
def fineR (v : List (List Gl)) : Bool := v.all fun r => decide (r.length ≤ 20)
def fineS (v : List (List Gl)) : Bool := decide (v.length ≤ 8) && fineR v
def smallV (v : List (List Gl)) : Prop := v.length ≤ 1048576 ∧ ∀ r ∈ v, r.length ≤ 1048576 ∧ (textS r).length ≤ 1048576
theorem fine_ok {v : List (List Gl)} (h : smallV v) (hf : fineS v = true) : okV v ∧ v.length ≤ 8 ∧ ∀ r ∈ v, r.length ≤ 20 ∧ (textS r).length ≤ 1048576 := by
  unfold fineS fineR at hf
  rw [Bool.and_eq_true, decide_eq_true_iff, List.all_eq_true] at hf
  obtain ⟨h1, h2⟩ := hf
  have h3 : ∀ r ∈ v, r.length ≤ 20 ∧ (textS r).length ≤ 1048576 := fun r hr => ⟨of_decide_eq_true (h2 r hr), (h.2 r hr).2⟩
  exact ⟨⟨by omega, fun r hr => ⟨by have := (h3 r hr).1; omega, (h3 r hr).2⟩⟩, h1, h3⟩
theorem l8 (v : List (List Gl)) (hv : smallV v) : ∀ (m k : Nat), k + m = v.length →
    rl E 0 8 (loopAt Tryd.f8 0) [(10, .i (.sl 1 (rowsV v) false)), (11, .i (.v (.int .i64 v.length))), (12, .i (.v (.int .i64 k)))] [] =
      if fineR (v.drop k) = true then some (.exit 0, [(10, .i (.sl 1 (rowsV v) false)), (11, .i (.v (.int .i64 v.length))), (12, .i (.v (.int .i64 v.length))), (13, .i (.v (.bool false)))], []) else some (.ret, [(2, .i (.v (.bool false)))], []) := by
  have hv1 := hv.1
  intro m
  induction m with
  | zero =>
    intro k hk
    obtain rfl : k = v.length := by omega
    rw [List.drop_length, if_pos (show fineR [] = true from rfl)]
    rw [rl_step (fn := Tryd.f8) (k := 0) rfl]
    simp (disch := first | omega | (simp only [List.length_append, List.length_map, List.length_set, List.length_cons, List.length_nil, List.length_take, List.length_drop, rowsV_len]; omega)) only [va0, va1, va2, va3, va4, va5, va6, va7, va8, va9, va10, va11, va12, va13, va14, va15, vb0, vb1, vb2, vb3, w_i8, w_u8, w_i16, w_u16, w_i32, w_u32, w_i64, w_u64, lt_T, lt_F, le_T, le_F, nlt_T, nlt_F, nle_T, nle_F, List.take_of_length_le, gB, gcW, gcR, posIn, renA, renL, Chunk.ren, Chunk.refs, evOpD, touchD, stepC, isFresh, nFresh, freshOf, mkR, hole, evL, evH, opd, get, putD, ofVal, cellOf, loadE, behind, lenE, idxAddrE, idxE, lookE, lookM, addPtr, intE, strE, unE, convE, AV.int, AV.bool, AV.str, ivs, take, frameOf, firstRegion, refsA, refsL, one, cellsA, floatOk, apartT, List.map, if_true, if_false, E_P, E_glob, reduceCtorEq, beq_self_eq_true, decide_true, decide_false, ↓reduceIte, Nat.reduceEqDiff, cond_true, cond_false, or_true, true_or, or_false, false_or, and_true, true_and, and_self, false_and, and_false, not_true, not_false_iff, Nat.reduceAdd, Nat.reduceSub, Nat.reduceMul, Nat.reduceLT, Nat.reduceLeDiff, Int.reduceToNat, Int.reduceLT, Int.reduceLE, Option.getD, Int.reduceMul, Int.reduceAdd, List.drop, List.take, Nat.reduceBEq, List.isEmpty, Int.reduceEq, Int.reduceNe, Int.reduceNeg, Int.reduceGT, Int.reduceGE, beq_true, beq_false, UInt8.reduceToNat, eqE, eq_self, foldE, maxE, minE, eq_T, eq_F, ndec, odec, adec, sdec, fillA, over, chop, List.replicate, leavesOk, leafOk, cellsEq, cellEq, E_byref, en8, bs22, bs36, rowsV_len, show ∀ B fr H, execT E B 8 (Code.loop _) fr H = rlG E B 8 (loopAt Tryd.f8 0) (gcn B (norm [10, 11, 12] fr) H) from fun B fr H => rl_intro rfl mt8_4 mb8_4 zf8_4 hd8_4 fr H]
  | succ m ih =>
    intro k hk
    have hlt : k < v.length := by omega
    have hrow := rowsV_D hlt
    have hrl := rowsG_len (atV v k)
    have hb := (hv.2 (atV v k) (by rw [atV_eq hlt]; exact List.getElem_mem hlt)).1
    have hs : fineR (v.drop k) = (decide ((atV v k).length ≤ 20) && fineR (v.drop (k + 1))) := by rw [drop_V hlt]; rfl
    rw [hs]
    have e := ih (k + 1) (by omega)
    generalize rowsG (atV v k) = rr at *
    generalize (atV v k).length = n at *
    by_cases h20 : n ≤ 20
    · rw [decide_eq_true h20, Bool.true_and]
      refine Eq.trans ?_ e
      clear e ih hs
      rw [rl_step (fn := Tryd.f8) (k := 0) rfl]
      simp (disch := first | omega | (simp only [List.length_append, List.length_map, List.length_set, List.length_cons, List.length_nil, List.length_take, List.length_drop, rowsV_len]; omega)) only [va0, va1, va2, va3, va4, va5, va6, va7, va8, va9, va10, va11, va12, va13, va14, va15, vb0, vb1, vb2, vb3, w_i8, w_u8, w_i16, w_u16, w_i32, w_u32, w_i64, w_u64, lt_T, lt_F, le_T, le_F, nlt_T, nlt_F, nle_T, nle_F, List.take_of_length_le, gB, gcW, gcR, posIn, renA, renL, Chunk.ren, Chunk.refs, evOpD, touchD, stepC, isFresh, nFresh, freshOf, mkR, hole, evL, evH, opd, get, putD, ofVal, cellOf, loadE, behind, lenE, idxAddrE, idxE, lookE, lookM, addPtr, intE, strE, unE, convE, AV.int, AV.bool, AV.str, ivs, take, frameOf, firstRegion, refsA, refsL, one, cellsA, floatOk, apartT, List.map, if_true, if_false, E_P, E_glob, reduceCtorEq, beq_self_eq_true, decide_true, decide_false, ↓reduceIte, Nat.reduceEqDiff, cond_true, cond_false, or_true, true_or, or_false, false_or, and_true, true_and, and_self, false_and, and_false, not_true, not_false_iff, Nat.reduceAdd, Nat.reduceSub, Nat.reduceMul, Nat.reduceLT, Nat.reduceLeDiff, Int.reduceToNat, Int.reduceLT, Int.reduceLE, Option.getD, Int.reduceMul, Int.reduceAdd, List.drop, List.take, Nat.reduceBEq, List.isEmpty, Int.reduceEq, Int.reduceNe, Int.reduceNeg, Int.reduceGT, Int.reduceGE, beq_true, beq_false, UInt8.reduceToNat, eqE, eq_self, foldE, maxE, minE, eq_T, eq_F, ndec, odec, adec, sdec, fillA, over, chop, List.replicate, leavesOk, leafOk, cellsEq, cellEq, E_byref, en8, bs22, bs36, hrow, hrl, rowsV_len, show ∀ B fr H, execT E B 8 (Code.loop _) fr H = rlG E B 8 (loopAt Tryd.f8 0) (gcn B (norm [10, 11, 12] fr) H) from fun B fr H => rl_intro rfl mt8_4 mb8_4 zf8_4 hd8_4 fr H]
    · rw [decide_eq_false h20, Bool.false_and, if_neg (by decide)]
      clear e ih hs
      rw [rl_step (fn := Tryd.f8) (k := 0) rfl]
      simp (disch := first | omega | (simp only [List.length_append, List.length_map, List.length_set, List.length_cons, List.length_nil, List.length_take, List.length_drop, rowsV_len]; omega)) only [va0, va1, va2, va3, va4, va5, va6, va7, va8, va9, va10, va11, va12, va13, va14, va15, vb0, vb1, vb2, vb3, w_i8, w_u8, w_i16, w_u16, w_i32, w_u32, w_i64, w_u64, lt_T, lt_F, le_T, le_F, nlt_T, nlt_F, nle_T, nle_F, List.take_of_length_le, gB, gcW, gcR, posIn, renA, renL, Chunk.ren, Chunk.refs, evOpD, touchD, stepC, isFresh, nFresh, freshOf, mkR, hole, evL, evH, opd, get, putD, ofVal, cellOf, loadE, behind, lenE, idxAddrE, idxE, lookE, lookM, addPtr, intE, strE, unE, convE, AV.int, AV.bool, AV.str, ivs, take, frameOf, firstRegion, refsA, refsL, one, cellsA, floatOk, apartT, List.map, if_true, if_false, E_P, E_glob, reduceCtorEq, beq_self_eq_true, decide_true, decide_false, ↓reduceIte, Nat.reduceEqDiff, cond_true, cond_false, or_true, true_or, or_false, false_or, and_true, true_and, and_self, false_and, and_false, not_true, not_false_iff, Nat.reduceAdd, Nat.reduceSub, Nat.reduceMul, Nat.reduceLT, Nat.reduceLeDiff, Int.reduceToNat, Int.reduceLT, Int.reduceLE, Option.getD, Int.reduceMul, Int.reduceAdd, List.drop, List.take, Nat.reduceBEq, List.isEmpty, Int.reduceEq, Int.reduceNe, Int.reduceNeg, Int.reduceGT, Int.reduceGE, beq_true, beq_false, UInt8.reduceToNat, eqE, eq_self, foldE, maxE, minE, eq_T, eq_F, ndec, odec, adec, sdec, fillA, over, chop, List.replicate, leavesOk, leafOk, cellsEq, cellEq, E_byref, en8, bs22, bs36, hrow, hrl, rowsV_len, show ∀ B fr H, execT E B 8 (Code.loop _) fr H = rlG E B 8 (loopAt Tryd.f8 0) (gcn B (norm [10, 11, 12] fr) H) from fun B fr H => rl_intro rfl mt8_4 mb8_4 zf8_4 hd8_4 fr H]
theorem c8 (v : List (List Gl)) (hv : smallV v) (a b c d : Int) (e : Bool) : ∃ L, callT E 8 [.agg [.i (.v (.int .i64 a)), .i (.v (.int .i64 b)), .i (.sl 1 (rowsV v) false), .i (.v (.int .i64 c)), .i (.v (.int .i64 d)), .i (.v (.bool e))]] [] = some (.i (.v (.bool (fineS v))), L) := by
  have h := l8 v hv v.length 0 (by omega)
  have hv1 := hv.1
  rw [List.drop_zero] at h
  have h' : rl E 0 8 (loopAt Tryd.f8 0) [(10, .i (.sl 1 (rowsV v) false)), (11, .i (.v (.int .i64 v.length))), (12, .i (.v (.int .i64 0)))] [] = _ := h
  clear h
  unfold fineS
  by_cases h8 : v.length ≤ 8
  · rw [decide_eq_true h8, Bool.true_and]
    cases hf : fineR v with
    | true =>
      rw [hf, if_pos rfl] at h'
      rw [callT_eq Tryd.func8 rfl fok8 (by simp [Tryd.ntmps8])]
      simp (disch := first | omega | (simp only [List.length_append, List.length_map, List.length_set, List.length_cons, List.length_nil, List.length_take, List.length_drop, rowsV_len]; omega)) only [va0, va1, va2, va3, va4, va5, va6, va7, va8, va9, va10, va11, va12, va13, va14, va15, vb0, vb1, vb2, vb3, w_i8, w_u8, w_i16, w_u16, w_i32, w_u32, w_i64, w_u64, lt_T, lt_F, le_T, le_F, nlt_T, nlt_F, nle_T, nle_F, List.take_of_length_le, gB, gcW, gcR, posIn, renA, renL, Chunk.ren, Chunk.refs, evOpD, touchD, stepC, isFresh, nFresh, freshOf, mkR, hole, evL, evH, opd, get, putD, ofVal, cellOf, loadE, behind, lenE, idxAddrE, idxE, lookE, lookM, addPtr, intE, strE, unE, convE, AV.int, AV.bool, AV.str, ivs, take, frameOf, firstRegion, refsA, refsL, one, cellsA, floatOk, apartT, List.map, if_true, if_false, E_P, E_glob, reduceCtorEq, beq_self_eq_true, decide_true, decide_false, ↓reduceIte, Nat.reduceEqDiff, cond_true, cond_false, or_true, true_or, or_false, false_or, and_true, true_and, and_self, false_and, and_false, not_true, not_false_iff, Nat.reduceAdd, Nat.reduceSub, Nat.reduceMul, Nat.reduceLT, Nat.reduceLeDiff, Int.reduceToNat, Int.reduceLT, Int.reduceLE, Option.getD, Int.reduceMul, Int.reduceAdd, List.drop, List.take, Nat.reduceBEq, List.isEmpty, Int.reduceEq, Int.reduceNe, Int.reduceNeg, Int.reduceGT, Int.reduceGE, beq_true, beq_false, UInt8.reduceToNat, eqE, eq_self, foldE, maxE, minE, eq_T, eq_F, ndec, odec, adec, sdec, fillA, over, chop, List.replicate, leavesOk, leafOk, cellsEq, cellEq, E_byref, en8, bs22, bs36, h', rowsV_len, show ∀ B fr H, execT E B 8 (Code.loop _) fr H = rlG E B 8 (loopAt Tryd.f8 0) (gcn B (norm [10, 11, 12] fr) H) from fun B fr H => rl_intro rfl mt8_4 mb8_4 zf8_4 hd8_4 fr H]
      exact ⟨_, rfl⟩
    | false =>
      rw [hf, if_neg (by decide)] at h'
      rw [callT_eq Tryd.func8 rfl fok8 (by simp [Tryd.ntmps8])]
      simp (disch := first | omega | (simp only [List.length_append, List.length_map, List.length_set, List.length_cons, List.length_nil, List.length_take, List.length_drop, rowsV_len]; omega)) only [va0, va1, va2, va3, va4, va5, va6, va7, va8, va9, va10, va11, va12, va13, va14, va15, vb0, vb1, vb2, vb3, w_i8, w_u8, w_i16, w_u16, w_i32, w_u32, w_i64, w_u64, lt_T, lt_F, le_T, le_F, nlt_T, nlt_F, nle_T, nle_F, List.take_of_length_le, gB, gcW, gcR, posIn, renA, renL, Chunk.ren, Chunk.refs, evOpD, touchD, stepC, isFresh, nFresh, freshOf, mkR, hole, evL, evH, opd, get, putD, ofVal, cellOf, loadE, behind, lenE, idxAddrE, idxE, lookE, lookM, addPtr, intE, strE, unE, convE, AV.int, AV.bool, AV.str, ivs, take, frameOf, firstRegion, refsA, refsL, one, cellsA, floatOk, apartT, List.map, if_true, if_false, E_P, E_glob, reduceCtorEq, beq_self_eq_true, decide_true, decide_false, ↓reduceIte, Nat.reduceEqDiff, cond_true, cond_false, or_true, true_or, or_false, false_or, and_true, true_and, and_self, false_and, and_false, not_true, not_false_iff, Nat.reduceAdd, Nat.reduceSub, Nat.reduceMul, Nat.reduceLT, Nat.reduceLeDiff, Int.reduceToNat, Int.reduceLT, Int.reduceLE, Option.getD, Int.reduceMul, Int.reduceAdd, List.drop, List.take, Nat.reduceBEq, List.isEmpty, Int.reduceEq, Int.reduceNe, Int.reduceNeg, Int.reduceGT, Int.reduceGE, beq_true, beq_false, UInt8.reduceToNat, eqE, eq_self, foldE, maxE, minE, eq_T, eq_F, ndec, odec, adec, sdec, fillA, over, chop, List.replicate, leavesOk, leafOk, cellsEq, cellEq, E_byref, en8, bs22, bs36, h', rowsV_len, show ∀ B fr H, execT E B 8 (Code.loop _) fr H = rlG E B 8 (loopAt Tryd.f8 0) (gcn B (norm [10, 11, 12] fr) H) from fun B fr H => rl_intro rfl mt8_4 mb8_4 zf8_4 hd8_4 fr H]
      exact ⟨_, rfl⟩
  · rw [decide_eq_false h8, Bool.false_and]
    clear h'
    rw [callT_eq Tryd.func8 rfl fok8 (by simp [Tryd.ntmps8])]
    simp (disch := first | omega | (simp only [List.length_append, List.length_map, List.length_set, List.length_cons, List.length_nil, List.length_take, List.length_drop, rowsV_len]; omega)) only [va0, va1, va2, va3, va4, va5, va6, va7, va8, va9, va10, va11, va12, va13, va14, va15, vb0, vb1, vb2, vb3, w_i8, w_u8, w_i16, w_u16, w_i32, w_u32, w_i64, w_u64, lt_T, lt_F, le_T, le_F, nlt_T, nlt_F, nle_T, nle_F, List.take_of_length_le, gB, gcW, gcR, posIn, renA, renL, Chunk.ren, Chunk.refs, evOpD, touchD, stepC, isFresh, nFresh, freshOf, mkR, hole, evL, evH, opd, get, putD, ofVal, cellOf, loadE, behind, lenE, idxAddrE, idxE, lookE, lookM, addPtr, intE, strE, unE, convE, AV.int, AV.bool, AV.str, ivs, take, frameOf, firstRegion, refsA, refsL, one, cellsA, floatOk, apartT, List.map, if_true, if_false, E_P, E_glob, reduceCtorEq, beq_self_eq_true, decide_true, decide_false, ↓reduceIte, Nat.reduceEqDiff, cond_true, cond_false, or_true, true_or, or_false, false_or, and_true, true_and, and_self, false_and, and_false, not_true, not_false_iff, Nat.reduceAdd, Nat.reduceSub, Nat.reduceMul, Nat.reduceLT, Nat.reduceLeDiff, Int.reduceToNat, Int.reduceLT, Int.reduceLE, Option.getD, Int.reduceMul, Int.reduceAdd, List.drop, List.take, Nat.reduceBEq, List.isEmpty, Int.reduceEq, Int.reduceNe, Int.reduceNeg, Int.reduceGT, Int.reduceGE, beq_true, beq_false, UInt8.reduceToNat, eqE, eq_self, foldE, maxE, minE, eq_T, eq_F, ndec, odec, adec, sdec, fillA, over, chop, List.replicate, leavesOk, leafOk, cellsEq, cellEq, E_byref, en8, bs22, bs36, rowsV_len, show ∀ B fr H, execT E B 8 (Code.loop _) fr H = rlG E B 8 (loopAt Tryd.f8 0) (gcn B (norm [10, 11, 12] fr) H) from fun B fr H => rl_intro rfl mt8_4 mb8_4 zf8_4 hd8_4 fr H]
    exact ⟨_, rfl⟩
theorem ik8 (v : List (List Gl)) (hv : smallV v) (a b c d : Int) (e : Bool) (H : Hp) : isoK E (callT E) 8 [.agg [.i (.v (.int .i64 a)), .i (.v (.int .i64 b)), .i (.sl 1 (rowsV v) false), .i (.v (.int .i64 c)), .i (.v (.int .i64 d)), .i (.v (.bool e))]] H = some (.i (.v (.bool (fineS v))), H) := isoK_val rfl rfl rfl (c8 v hv a b c d e)
end Go.VI

namespace Go.VI
open Go.Proofs
set_option maxRecDepth 100000
set_option linter.unusedSimpArgs false
set_option linter.unusedVariables false
set_option maxHeartbeats 4000000
def noLit (ls : List Ln) : Prop := ∀ x ∈ ls, x.lit = false
end Go.VI

namespace Go.VI
open Go.WideShapes Go.ChangeShapes Go.RowKit
set_option linter.unusedSimpArgs false
set_option linter.unusedVariables false
mutual
def bI : IV → Nat
  | .str l => l.length
  | .sl _ rows _ => bR rows
  | .v _ => 0
  | .pt _ _ => 0
  | .mp _ => 0
def bL : List IV → Nat
  | [] => 0
  | a :: r => bI a + bL r
def bR : List (List IV) → Nat
  | [] => 0
  | a :: r => bL a + 1 + bR r
end
mutual
def wd {Hh : Type} : DataW Hh → Nat
  | .lit (.string b) => b.length
  | .lit _ => 0
  | .nil => 0
  | .ptr _ => 0
  | .slice e _ => wdA e
  | .agg p => wdA p
  | .iface _ _ => 0
  | .map _ => 0
  | .held _ => 0
def wdA {Hh : Type} : List (DataW Hh) → Nat
  | [] => 0
  | d :: r => wd d + 1 + wdA r
end
theorem bL_app : ∀ (a b : List IV), bL (a ++ b) = bL a + bL b
  | [], b => by simp [bL]
  | x :: a, b => by rw [List.cons_append, bL, bL, bL_app a b]; omega
theorem bR_le {Hh : Type} : ∀ (rows : List (List IV)) (ds : List (DataW Hh)), rows.length = ds.length → (∀ (i : Nat) r d, rows[i]? = some r → ds[i]? = some d → bL r ≤ wd d) → bR rows ≤ wdA ds
  | [], ds, _, _ => by rw [bR]; exact Nat.zero_le _
  | r :: rows, [], h, _ => by simp at h
  | r :: rows, d :: ds, h, hx => by
    rw [bR, wdA]
    have h1 := hx 0 r d rfl rfl
    have h2 := bR_le rows ds (by simpa using h) (fun i r d hr hd => hx (i + 1) r d (by simpa using hr) (by simpa using hd))
    omega
theorem bR_in : ∀ {rows : List (List IV)} {r : List IV}, r ∈ rows → bL r + 1 ≤ bR rows
  | a :: rows, r, h => by
    rw [bR]
    rcases List.mem_cons.1 h with rfl | h
    · omega
    · have := bR_in h; omega
theorem bR_len : ∀ (rows : List (List IV)), rows.length ≤ bR rows
  | [] => Nat.zero_le _
  | a :: rows => by rw [bR, List.length_cons]; have := bR_len rows; omega
section
variable {Hh : Type} {enc : TypeId × Value → Hh} {P : Program} {W : World} {sp : Nat → Bool} {held : Bool}
theorem trod_arrayB {t e : TypeId} {m fuel : Nat} {cs : List Value} {x : DataW Hh × List MemPlace} (ht : P.underlying t = some (.array m e)) (h : DataW.trod enc P W 0 sp held fuel t cs = some x) :
    ∃ n xs, fuel = n + 1 ∧ x.1 = .agg (xs.map (·.1)) ∧ cs.length = P.cellsOf t ∧ List.length (α := DataW Hh × List MemPlace) xs = m ∧ ∀ i, i < m → ∃ y, DataW.trod enc P W 0 sp held n e ((cs.drop (i * P.cellsOf e)).take (P.cellsOf e)) = some y ∧ (xs.map (·.1))[i]? = some y.1 := by
  cases fuel with
  | zero => simp [DataW.trod] at h
  | succ n =>
    unfold DataW.trod at h
    rw [ht] at h
    split at h <;> simp_all
    obtain ⟨hl, xs, hp, hd⟩ := h
    have h2 := mapM_some_length hp
    rw [List.length_range] at h2
    refine ⟨xs, by rw [← hd], h2, fun i hi => ?_⟩
    have h1 := mapM_some_get hp i i (by simp [List.getElem?_range, hi])
    have h3 : i < xs.length := by omega
    rw [h1, List.getElem?_eq_getElem h3]
    exact ⟨xs[i].1, ⟨xs[i].2, rfl⟩, by simp; exact ⟨xs[i].2, rfl⟩⟩

theorem read_fieldsB {n : Nat} (rd : ∀ (d : Nat) (t : TypeId) (cs : List Value) (x : DataW Hh × List MemPlace) (cts : List Cty), t < P.types.size → ctys P d t = some cts → DataW.trod enc P W 0 sp held n t cs = some x → ∃ l, Gd P (imm0 W) cs cts l ∧ bL l ≤ wd x.1) (d : Nat) :
    ∀ (fl : List Field) (cl : List (List Cty)) (cs : List Value) (ds : List (DataW Hh)), ds.length = fl.length → fl.mapM (fun f => ctys P d f.type) = some cl → (∀ f ∈ fl, f.type < P.types.size) → cs.length = (fl.map fun f => P.cellsOf f.type).sum →
      (∀ (j : Nat) f, fl[j]? = some f → ∃ x, DataW.trod enc P W 0 sp held n f.type ((cs.drop ((fl.take j).map fun f => P.cellsOf f.type).sum).take (P.cellsOf f.type)) = some x ∧ ds[j]? = some x.1) →
      ∃ l, Gd P (imm0 W) cs cl.flatten l ∧ bL l ≤ wdA ds := by
  intro fl
  induction fl with
  | nil =>
    intro cl cs ds _ h _ hlen _
    simp at h hlen
    subst h
    obtain rfl : cs = [] := hlen
    exact ⟨[], trivial, Nat.zero_le _⟩
  | cons f fl ih =>
    intro cl cs ds hds h hty hlen hx
    obtain ⟨d0, ds, rfl⟩ : ∃ a b, ds = a :: b := by cases ds with | nil => simp at hds | cons a b => exact ⟨a, b, rfl⟩
    rw [List.mapM_cons] at h
    cases h1 : ctys P d f.type with
    | none => rw [h1] at h; cases h
    | some c1 =>
      cases h2 : fl.mapM (fun f => ctys P d f.type) with
      | none => rw [h1, h2] at h; cases h
      | some c2 =>
        rw [h1, h2] at h
        have h' : some (c1 :: c2) = some cl := h
        cases h'
        obtain ⟨x, hx0, hd0⟩ := hx 0 f rfl
        simp only [List.take_zero, List.map_nil, List.sum_nil, List.drop_zero] at hx0
        simp only [List.getElem?_cons_zero, Option.some.injEq] at hd0
        subst hd0
        obtain ⟨l1, g1, b1⟩ := rd d f.type _ x c1 (hty f (by simp)) h1 hx0
        simp only [List.map_cons, List.sum_cons] at hlen
        obtain ⟨l2, g2, b2⟩ := ih c2 (cs.drop (P.cellsOf f.type)) ds (by simpa using hds) h2 (fun g hg => hty g (by simp [hg])) (by rw [List.length_drop]; omega) (fun j g hg => by
          obtain ⟨y, hy, hd⟩ := hx (j + 1) g (by simpa using hg)
          simp only [List.take_succ_cons, List.map_cons, List.sum_cons] at hy
          exact ⟨y, by rw [List.drop_drop]; exact hy, by simpa using hd⟩)
        refine ⟨l1 ++ l2, ?_, by rw [bL_app, wdA]; omega⟩
        have := g1.append g2
        rw [List.take_append_drop] at this
        simpa using this

theorem read_arrayB {n : Nat} {e : TypeId} {c1 : List Cty} (rd : ∀ (cs : List Value) (x : DataW Hh × List MemPlace), DataW.trod enc P W 0 sp held n e cs = some x → ∃ l, Gd P (imm0 W) cs c1 l ∧ bL l ≤ wd x.1) :
    ∀ (m : Nat) (cs : List Value) (ds : List (DataW Hh)), ds.length = m → cs.length = m * P.cellsOf e → (∀ i, i < m → ∃ y, DataW.trod enc P W 0 sp held n e ((cs.drop (i * P.cellsOf e)).take (P.cellsOf e)) = some y ∧ ds[i]? = some y.1) → ∃ l, Gd P (imm0 W) cs (List.replicate m c1).flatten l ∧ bL l ≤ wdA ds := by
  intro m
  induction m with
  | zero =>
    intro cs ds hds hlen _
    obtain rfl : cs = [] := by simpa using hlen
    exact ⟨[], trivial, Nat.zero_le _⟩
  | succ m ih =>
    intro cs ds hds hlen hx
    obtain ⟨d0, ds, rfl⟩ : ∃ a b, ds = a :: b := by cases ds with | nil => simp at hds | cons a b => exact ⟨a, b, rfl⟩
    obtain ⟨x, hx0, hd0⟩ := hx 0 (by omega)
    simp only [Nat.zero_mul, List.drop_zero] at hx0
    simp only [List.getElem?_cons_zero, Option.some.injEq] at hd0
    subst hd0
    obtain ⟨l1, g1, b1⟩ := rd _ x hx0
    rw [Nat.succ_mul] at hlen
    obtain ⟨l2, g2, b2⟩ := ih (cs.drop (P.cellsOf e)) ds (by simpa using hds) (by rw [List.length_drop]; omega) (fun i hi => by
      obtain ⟨y, hy, hd⟩ := hx (i + 1) (by omega)
      rw [Nat.succ_mul, Nat.add_comm] at hy
      exact ⟨y, by rw [List.drop_drop]; exact hy, by simpa using hd⟩)
    refine ⟨l1 ++ l2, ?_, by rw [bL_app, wdA]; omega⟩
    have := g1.append g2
    rw [List.take_append_drop] at this
    simpa [List.replicate_succ] using this

theorem read_cellsB (hl : laidOutB P = true) : ∀ (n d : Nat) (t : TypeId) (cs : List Value) (x : DataW Hh × List MemPlace) (cts : List Cty), t < P.types.size → ctys P d t = some cts →
    DataW.trod enc P W 0 sp held n t cs = some x → ∃ l, Gd P (imm0 W) cs cts l ∧ bL l ≤ wd x.1 := by
  intro n
  induction n with
  | zero => intro d t cs x cts _ _ h; simp [DataW.trod] at h
  | succ n ih =>
    intro d t cs x cts ht hc h
    cases d with
    | zero => cases hc
    | succ d =>
      rw [ctys] at hc
      split at hc
      · rename_i hu
        cases hc
        obtain ⟨b, rfl, rfl⟩ := DataW.trod_bool hu h
        exact ⟨[.v (.bool b)], ⟨.v _ rfl, .bool b, trivial⟩, by simp [bL, bI]⟩
      · rename_i k hu
        cases hc
        obtain ⟨z, rfl, rfl, hw⟩ := DataW.trod_int hu h
        exact ⟨[.v (.int k z)], ⟨.v _ rfl, .int k z hw, trivial⟩, by simp [bL, bI]⟩
      · rename_i hu
        cases hc
        obtain ⟨s, rfl, rfl, hw⟩ := DataW.trod_string hu h
        exact ⟨[.str s.data.toList], ⟨.str _, .str _ (by simpa using hw), trivial⟩, by simp [bL, bI, wd]⟩
      · rename_i e hu
        split at hc
        · rename_i c0 c1 he
          cases hc
          rcases DataW.trod_slice hu h with ⟨rfl, _⟩ | ⟨a, len, cap, elems, rest, n', hn, rfl, hxe, _, hlc, hm, hel, hat, _, _⟩
          · exact ⟨[.sl (P.cellsOf e) [] false], ⟨.nil _ _ _ _ (fun h => by cases h), .sl e d _ [] he (Nat.zero_le _) (fun i r h => by simp at h) (fun i r k c x h => by simp at h), trivial⟩, by simp [bL, bI, bR]⟩
          · cases hn
            have he' : e < P.types.size := (kid_slice hl ht hu)
            have hex : ∀ i, ∃ l, i < len → (∃ cs', W.cells? 0 (a.add (i * P.cellsOf e)) (P.cellsOf e) = some cs' ∧ Gd P (imm0 W) cs' (c0 :: c1) l) ∧ ∀ y, elems[i]? = some y → bL l ≤ wd y.1 := by
              intro i
              by_cases hi : i < len
              · have h1 := hat i hi
                have h2 : elems[i]? = some elems[i] := List.getElem?_eq_getElem (by omega)
                rw [h2, Option.bind_eq_some_iff] at h1
                obtain ⟨cs', h3, h4⟩ := h1
                obtain ⟨l, hg, hb⟩ := ih d e cs' _ _ he' he h4
                exact ⟨l, fun _ => ⟨⟨cs', h3, hg⟩, fun y hy => by rw [h2] at hy; cases hy; exact hb⟩⟩
              · exact ⟨[], fun h => absurd h hi⟩
            obtain ⟨f, hf⟩ := Classical.skolem.1 hex
            have hrow : ∀ i r, ((List.range len).map f)[i]? = some r → i < len ∧ r = f i := by
              intro i r hr
              simp only [List.getElem?_map, Option.map_eq_some_iff, List.getElem?_range] at hr
              obtain ⟨j, hj, rfl⟩ := hr
              rw [List.getElem?_eq_some_iff] at hj
              obtain ⟨h1, h2⟩ := hj
              simp at h1 h2
              subst h2
              exact ⟨h1, rfl⟩
            have hsh : Sh P (.sl e) (.sl (P.cellsOf e) ((List.range len).map f) false) := by
              refine .sl e d _ _ he (by simp; omega) (fun i r hr => ?_) (fun i r k c y hr hc hy => ?_)
              · obtain ⟨hi, rfl⟩ := hrow i r hr
                obtain ⟨⟨cs', _, hg⟩, _⟩ := hf i hi
                exact hg.len.2.symm
              · obtain ⟨hi, rfl⟩ := hrow i r hr
                obtain ⟨⟨cs', _, hg⟩, _⟩ := hf i hi
                obtain ⟨v, c', _, h2, _, h4⟩ := hg.at k y hy
                rw [hc] at h2; cases h2; exact h4
            have hbd : bL [.sl (P.cellsOf e) ((List.range len).map f) false] ≤ wd x.1 := by
              have hx1 : x.1 = .slice (elems.map (·.1)) (rest.map (·.1)) := by rw [hxe]
              rw [hx1]
              have hrr := bR_le ((List.range len).map f) (elems.map (·.1)) (by simp [hel]) (fun i r y hr hy => by
                obtain ⟨hi, rfl⟩ := hrow i r hr
                simp only [List.getElem?_map, Option.map_eq_some_iff] at hy
                obtain ⟨z, hz, rfl⟩ := hy
                exact (hf i hi).2 z hz)
              simp only [bL, bI, wd, Nat.add_zero]
              exact hrr
            refine ⟨[.sl (P.cellsOf e) ((List.range len).map f) false], ⟨?_, hsh, trivial⟩, hbd⟩
            by_cases h0 : len = 0
            · subst h0
              exact .nil _ _ _ cap (fun h => by cases h)
            · obtain ⟨⟨cs0, hc0, hg0⟩, _⟩ := hf 0 (by omega)
              have hz : 0 < P.cellsOf e := by
                have := (cells_at hc0).1
                have h2 := hg0.len
                simp at h2
                omega
              have hcell := (cells_at hc0).2 0 hz
              have hlen0 := (cells_at hc0).1
              obtain ⟨b, off, spot⟩ := a
              have hne : cs0[0]? = some cs0[0] := List.getElem?_eq_getElem (by omega)
              rw [hne] at hcell
              unfold World.cell? at hcell
              split at hcell
              · rename_i cs el fz hbk
                split at hcell
                · cases hcell
                · rename_i hsp
                  have hspot : spot = none := by cases spot with | none => rfl | some _ => simp [Addr.add] at hsp
                  subst hspot
                  have ha : ∀ o i, Addr.add ⟨b, o, none⟩ i = ⟨b, o + i, none⟩ := by intro o i; unfold Addr.add; split <;> simp_all
                  simp only [ha] at hbk
                  have hcv : ∀ i, i < len → ∀ k, k < P.cellsOf e → ∀ cs', W.cells? 0 (Addr.add ⟨b, off, none⟩ (i * P.cellsOf e)) (P.cellsOf e) = some cs' → cs[off + i * P.cellsOf e + k]? = cs'[k]? := by
                    intro i hi k hk cs' hc'
                    have := (cells_at hc').2 k hk
                    simp only [ha] at this
                    unfold World.cell? at this
                    simp only [hbk] at this
                    simpa using this
                  have key := RelI.sl (I := imm0 W) (P.cellsOf e) ((List.range len).map f) false b off cap cs el fz (fun i k => (cs[off + i * P.cellsOf e + k]?).getD undef) hbk (by simp; omega) (fun h => by cases h)
                    (fun i r hr => by
                      obtain ⟨hi, rfl⟩ := hrow i r hr
                      obtain ⟨⟨cs', h1, hg⟩, _⟩ := hf i hi
                      rw [← hg.len.1]; exact (cells_at h1).1)
                    (fun i r k y hr hy => by
                      obtain ⟨hi, rfl⟩ := hrow i r hr
                      obtain ⟨⟨cs', h1, hg⟩, _⟩ := hf i hi
                      obtain ⟨v, c', h2, _, _, _⟩ := hg.at k y hy
                      have hk : k < P.cellsOf e := by rw [← (cells_at h1).1]; exact (List.getElem?_eq_some_iff.1 h2).1
                      rw [hcv i hi k hk cs' h1, h2]; rfl)
                    (fun i r k y hr hy => by
                      obtain ⟨hi, rfl⟩ := hrow i r hr
                      obtain ⟨⟨cs', h1, hg⟩, _⟩ := hf i hi
                      obtain ⟨v, c', h2, _, h3, _⟩ := hg.at k y hy
                      have hk : k < P.cellsOf e := by rw [← (cells_at h1).1]; exact (List.getElem?_eq_some_iff.1 h2).1
                      rw [hcv i hi k hk cs' h1, h2]; exact h3)
                  have hl' : ((List.range len).map f).length = len := by simp
                  rw [hl'] at key
                  exact key
              · cases hcell
        · cases hc
      · rename_i m e hu
        cases hc1 : ctys P d e with
        | none => rw [hc1] at hc; cases hc
        | some c1 =>
          rw [hc1] at hc
          have hc' : some (List.replicate m c1).flatten = some cts := hc
          cases hc'
          obtain ⟨n', xs, hn, hxe, hlen, hxl, hx⟩ := trod_arrayB hu h
          cases hn
          obtain ⟨k1, k2⟩ := kid_array hl ht hu
          rw [hxe, wd]
          exact read_arrayB (fun cs x hx => ih d e cs x c1 k1 hc1 hx) m cs _ (by simpa using hxl) (by rw [hlen, k2]) hx
      · rename_i fs hu
        cases hc1 : fs.toList.mapM (fun f => ctys P d f.type) with
        | none => rw [hc1] at hc; cases hc
        | some c1 =>
          rw [hc1] at hc
          have hc' : some c1.flatten = some cts := hc
          cases hc'
          obtain ⟨xs, n', hn, hxe, hlen, hxl, hx⟩ := DataW.trod_struct hu h
          cases hn
          obtain ⟨k1, k2, k3⟩ := kid_struct hl ht hu
          rw [show x.1 = .agg (xs.map (·.1)) from by rw [hxe], wd]
          refine read_fieldsB (fun d t cs x cts => ih d t cs x cts) d fs.toList c1 cs (xs.map (·.1)) (by simp; omega) hc1 k1 (by rw [hlen, k2]) (fun j f hf => ?_)
          have h1 := hx j f (by simpa using hf)
          have hj : j < xs.length := by
            have := (List.getElem?_eq_some_iff.1 hf).1
            simp at this; omega
          rw [k3 j f hf, List.getElem?_eq_getElem hj] at h1
          exact ⟨_, h1, by simp [hj]⟩
      · cases hc

variable {r : Reach} {b0 : Nat} {t : TypeId} {v : Value} {d : DataW Hh} {ps : List MemPlace}
theorem read_aggB (hl : laidOutB P = true) {D : Nat} {cs : List Cty} (ht : t < P.types.size) (hu : (P.underlying t).map (fun | .struct _ => true | .array _ _ => true | _ => false) = some true) (hc : ctys P D t = some cs) (hval : Value.okWide P W r b0 t v) (hd : DataW.Trod enc P W 0 sp held t v d ps) :
    ∃ l : List IV, RelA (imm0 W) eta0 [] (.agg (l.map .i)) v ∧ ShL P cs l ∧ bL l ≤ wd d := by
  obtain ⟨n, hn⟩ := hd
  obtain ⟨l, hg, hb⟩ := read_cellsB hl n D t _ _ _ ht hc hn
  have hv : ∃ cs, v = .agg cs := by
    unfold Value.okWide at hval
    split at hval
    · obtain ⟨cs, h, _⟩ := hval; exact ⟨cs, h⟩
    · obtain ⟨cs, h, _⟩ := hval; exact ⟨cs, h⟩
    · rename_i h1 h2
      cases hh : P.underlying t with
      | none => rw [hh] at hu; cases hu
      | some x =>
        rw [hh] at hu
        cases x <;> simp at hu
        · exact absurd hh (h2 _ _)
        · exact absurd hh (h1 _)
  obtain ⟨vs, rfl⟩ := hv
  exact ⟨l, relA_row hg, hg.sh, hb⟩
end
theorem bL_G (g : Gl) : bL [.str g.1, .v (.bool g.2.1), .v (.int .i64 g.2.2)] = g.1.length := by simp [bL, bI]
theorem bR_G : ∀ (l : List Gl), bR (rowsG l) = (textS l).length + l.length
  | [] => rfl
  | g :: r => by
    show bR ([.str g.1, .v (.bool g.2.1), .v (.int .i64 g.2.2)] :: rowsG r) = _
    rw [bR, bL_G, bR_G r, List.length_cons, show textS (g :: r) = g.1 ++ textS r from rfl, List.length_append]; omega
theorem small_of (v : List (List Gl)) (h : bR (rowsV v) ≤ 1048576) : smallV v := by
  refine ⟨by have := bR_len (rowsV v); rw [rowsV_len] at this; omega, fun r hr => ?_⟩
  have h1 : [.sl 3 (rowsG r) false] ∈ rowsV v := List.mem_map_of_mem hr
  have h2 := bR_in h1
  rw [show bL [.sl 3 (rowsG r) false] = bR (rowsG r) from by simp [bL, bI], bR_G] at h2
  omega
end Go.VI

namespace Go.VI
open Go.Proofs
set_option maxRecDepth 100000
set_option linter.unusedSimpArgs false
set_option linter.unusedVariables false
set_option maxHeartbeats 4000000
def atS : List Ln → Nat → Int → Int
  | [], _, a => a
  | x :: r, k, a => atS r (k + 1) (if x.lit = true ∧ a < 0 then (k : Int) else a)
theorem atS_ge : ∀ (l : List Ln) (k : Nat) (a : Int), 0 ≤ a → atS l k a = a
  | [], k, a, _ => rfl
  | x :: r, k, a, h => by rw [atS, if_neg (fun hh => by omega)]; exact atS_ge r (k + 1) a h
theorem atS_no : ∀ (a r : List Ln) (k : Nat) (c : Int), noLit a → atS (a ++ r) k c = atS r (k + a.length) c
  | [], r, k, c, _ => rfl
  | x :: a, r, k, c, h => by
    have h1 := h x (List.mem_cons_self ..)
    rw [List.cons_append, atS, if_neg (fun hh => by rw [h1] at hh; cases hh.1), atS_no a r (k + 1) c (fun y hy => h y (List.mem_cons_of_mem _ hy)), List.length_cons]
    congr 1; omega
theorem fold_lab : ∀ (l : List Ln) (q : Nat × List UInt8 × Nat), noLit l → (l.foldl stpL q).2.1 = q.2.1
  | [], q, _ => rfl
  | x :: r, q, h => by
    rw [List.foldl_cons, fold_lab r _ (fun y hy => h y (List.mem_cons_of_mem _ hy))]
    have := h x (List.mem_cons_self ..)
    unfold stpL
    simp only
    rw [this, if_neg (by decide)]
theorem fold_ge : ∀ (l : List Ln) (q : Nat × List UInt8 × Nat), q.2.2 ≤ (l.foldl stpL q).2.2
  | [], q => Nat.le_refl _
  | x :: r, q => by
    rw [List.foldl_cons]
    have h1 := fold_ge r (stpL q x)
    have h2 : q.2.2 ≤ (stpL q x).2.2 := by unfold stpL; simp only; split <;> omega
    omega
theorem fold_zero : ∀ (l : List Ln) (q : Nat × List UInt8 × Nat), (l.foldl stpL q).2.2 = q.2.2 → noLit l
  | [], q, _ => fun x hx => by cases hx
  | y :: r, q, h => by
    rw [List.foldl_cons] at h
    have h1 := fold_ge r (stpL q y)
    have hy : y.lit = false := by
      cases hl : y.lit with
      | false => rfl
      | true =>
        have : (stpL q y).2.2 = q.2.2 + 1 := by unfold stpL; simp only; rw [hl, if_pos rfl]
        omega
    have h2 : (stpL q y).2.2 = q.2.2 := by unfold stpL; simp only; rw [hy, if_neg (by decide)]
    have h3 := fold_zero r (stpL q y) (by omega)
    intro x hx
    rcases List.mem_cons.1 hx with rfl | hx
    · exact hy
    · exact h3 x hx
theorem fold_one : ∀ (l : List Ln) (q : Nat × List UInt8 × Nat), (l.foldl stpL q).2.2 = q.2.2 + 1 → ∃ a x b, l = a ++ x :: b ∧ noLit a ∧ x.lit = true ∧ noLit b ∧ (l.foldl stpL q).2.1 = x.item
  | [], q, h => by simp at h
  | y :: r, q, h => by
    rw [List.foldl_cons] at h ⊢
    cases hl : y.lit with
    | true =>
      have h1 : (stpL q y).2.2 = q.2.2 + 1 := by unfold stpL; simp only; rw [hl, if_pos rfl]
      have h2 := fold_zero r (stpL q y) (by omega)
      refine ⟨[], y, r, rfl, fun x hx => (by cases hx), hl, h2, ?_⟩
      rw [fold_lab r _ h2]
      unfold stpL; simp only; rw [hl, if_pos rfl]
    | false =>
      have h1 : (stpL q y).2.2 = q.2.2 := by unfold stpL; simp only; rw [hl, if_neg (by decide)]
      obtain ⟨a, x, b, rfl, ha, hx, hb, hi⟩ := fold_one r (stpL q y) (by omega)
      refine ⟨y :: a, x, b, rfl, fun z hz => ?_, hx, hb, hi⟩
      rcases List.mem_cons.1 hz with rfl | hz
      · exact hl
      · exact ha z hz
def selOK (ls : List Ln) (r : Rg) : Prop := ∃ k : Nat, atS (cutL ls r.top r.bottom) 0 (-1) = (k : Int) ∧ k < r.bottom - r.top ∧ (atL (cutL ls r.top r.bottom) k).item = r.label
theorem sel_ok (ls : List Ln) (f t : Nat) (ht : t ≤ ls.length) (h : hitR ls f t) : selOK ls (regR ls f t) := by
  obtain ⟨h1, h2⟩ := h
  unfold selOK regR
  simp only
  have hl := cutL_len (f := f) ht
  unfold foldQ at h2 ⊢
  obtain ⟨a, x, b, he, ha, hx, hb, hi⟩ := fold_one (cutL ls f t) (0, [], 0) h2
  rw [hi]
  rw [he] at hl ⊢
  refine ⟨a.length, ?_, ?_, ?_⟩
  · rw [atS_no a _ 0 _ ha, atS, if_pos ⟨hx, by decide⟩, atS_ge _ _ _ (by omega)]; omega
  · rw [List.length_append, List.length_cons] at hl; omega
  · rw [atL_eq (by rw [List.length_append, List.length_cons]; omega)]; simp
def goodR (ls : List Ln) : Nat → List Rg → Prop
  | _, [] => True
  | last, r :: o => last ≤ r.top ∧ r.top + 2 ≤ r.bottom ∧ r.bottom ≤ ls.length ∧ selOK ls r ∧ goodR ls r.bottom o
theorem addR_app (ls : List Ln) (f : Nat) (out : List Rg) : addR ls f out = out ++ addR ls f [] := by
  unfold addR; split <;> simp
theorem rngS_app (ls : List Ln) : ∀ (m f : Nat) (out : List Rg), rngS ls m f out = out ++ rngS ls m f []
  | 0, f, out => by rw [rngS, rngS, List.append_nil]
  | m + 1, f, out => by
    rw [rngS, rngS]
    split
    · rw [rngS_app ls m (nextT ls f) (addR ls f out), rngS_app ls m (nextT ls f) (addR ls f []), addR_app ls f out, List.append_assoc]
    · rw [List.append_nil]
theorem goodR_le (ls : List Ln) {a b : Nat} (h : a ≤ b) : ∀ {o : List Rg}, goodR ls b o → goodR ls a o
  | [], _ => trivial
  | r :: o, g => ⟨by have := g.1; omega, g.2⟩
theorem rng_good (ls : List Ln) : ∀ (m f : Nat), goodR ls f (rngS ls m f [])
  | 0, f => by rw [rngS]; exact trivial
  | m + 1, f => by
    rw [rngS]
    split
    · rename_i hf
      obtain ⟨t1, t2⟩ := nextT_b ls f hf
      have ih := rng_good ls m (nextT ls f)
      rw [rngS_app]
      unfold addR
      split
      · rename_i hh
        exact ⟨Nat.le_refl _, by have := hh.2.1; show f + 2 ≤ nextT ls f; omega, t2, sel_ok ls f _ t2 hh.2, ih⟩
      · exact goodR_le ls (by omega) ih
    · exact trivial
theorem find_good (v : List (List Gl)) : goodR (v.map readS) 0 (findS v) := rng_good _ _ _
end Go.VI

namespace Go.VI
open Go.Proofs
set_option maxRecDepth 100000
set_option linter.unusedSimpArgs false
set_option linter.unusedVariables false
set_option maxHeartbeats 4000000
def atR (l : List Rg) (k : Nat) : Rg := l.getD k ⟨0, 0, 0, 0, []⟩
theorem atR_eq {l : List Rg} {k : Nat} (h : k < l.length) : atR l k = l[k] := by rw [atR, List.getD_eq_getElem?_getD, List.getElem?_eq_getElem h]; rfl
theorem rowsR_D {l : List Rg} {k : Nat} (h : k < l.length) : (rowsR l)[k]? = some [.v (.int .i64 5), .v (.int .i64 0), .v (.int .i64 (-1)), .v (.int .i64 (atR l k).top), .v (.int .i64 (atR l k).left), .v (.int .i64 (atR l k).bottom), .v (.int .i64 (atR l k).right), .str (atR l k).label] := by rw [atR_eq h]; simp [rowsR, rgI, h]
theorem drop_R {l : List Rg} {k : Nat} (h : k < l.length) : l.drop k = atR l k :: l.drop (k + 1) := by rw [atR_eq h]; exact List.drop_eq_getElem_cons h
end Go.VI

namespace Go.VI
open Go.Proofs
set_option maxRecDepth 100000
set_option linter.unusedSimpArgs false
set_option linter.unusedVariables false
set_option maxHeartbeats 4000000
def shR (k : Nat) (r : Rg) : Rg := ⟨r.top + k, r.left, r.bottom + k, r.right, r.label⟩
theorem atL_sh (p ls : List Ln) (f : Nat) : atL (p ++ ls) (f + p.length) = atL ls f := by
  unfold atL
  rw [List.getD_eq_getElem?_getD, List.getD_eq_getElem?_getD, List.getElem?_append_right (by omega), Nat.add_sub_cancel]
theorem grow_sh (p ls : List Ln) (f : Nat) : ∀ m t, grow (p ++ ls) (f + p.length) m (t + p.length) = grow ls f m t + p.length
  | 0, t => rfl
  | m + 1, t => by
    have hs : sameL (p ++ ls) (f + p.length) (t + p.length) ↔ sameL ls f t := by unfold sameL; rw [atL_sh, atL_sh]
    rw [grow, grow]
    by_cases h : sameL ls f t
    · rw [if_pos h, if_pos (hs.2 h), show t + p.length + 1 = (t + 1) + p.length from by omega]; exact grow_sh p ls f m (t + 1)
    · rw [if_neg h, if_neg (fun hh => h (hs.1 hh))]
theorem next_sh (p ls : List Ln) (f : Nat) : nextT (p ++ ls) (f + p.length) = nextT ls f + p.length := by
  unfold nextT
  rw [List.length_append, show f + p.length + 1 = (f + 1) + p.length from by omega, show p.length + ls.length - (f + 1 + p.length) = ls.length - (f + 1) from by omega]
  exact grow_sh p ls f _ _
theorem cut_sh (p ls : List Ln) (f t : Nat) : cutL (p ++ ls) (f + p.length) (t + p.length) = cutL ls f t := by
  unfold cutL
  rw [show t + p.length - (f + p.length) = t - f from by omega, List.drop_append, List.drop_eq_nil_of_le (by omega), List.nil_append, Nat.add_sub_cancel]
theorem hit_sh (p ls : List Ln) (f t : Nat) : hitR (p ++ ls) (f + p.length) (t + p.length) ↔ hitR ls f t := by
  unfold hitR foldQ
  rw [cut_sh, show t + p.length - (f + p.length) = t - f from by omega]
theorem reg_sh (p ls : List Ln) (f t : Nat) : regR (p ++ ls) (f + p.length) (t + p.length) = shR p.length (regR ls f t) := by
  unfold regR shR foldQ
  rw [cut_sh, atL_sh]
theorem add_sh (p ls : List Ln) (f : Nat) : addR (p ++ ls) (f + p.length) [] = (addR ls f []).map (shR p.length) := by
  unfold addR
  rw [atL_sh, next_sh, reg_sh]
  by_cases h : (atL ls f).em = false ∧ hitR ls f (nextT ls f)
  · rw [if_pos h, if_pos ⟨h.1, (hit_sh ..).2 h.2⟩]; rfl
  · rw [if_neg h, if_neg (fun hh => h ⟨hh.1, (hit_sh ..).1 hh.2⟩)]; rfl
theorem rng_sh (p ls : List Ln) : ∀ m f, rngS (p ++ ls) m (f + p.length) [] = (rngS ls m f []).map (shR p.length)
  | 0, f => rfl
  | m + 1, f => by
    rw [rngS, rngS, List.length_append]
    by_cases h : f < ls.length
    · rw [if_pos h, if_pos (by omega), rngS_app, next_sh, rng_sh p ls m, add_sh, ← List.map_append, ← rngS_app]
    · rw [if_neg h, if_neg (by omega)]; rfl
theorem next_em (ls : List Ln) (f : Nat) (h : (atL ls f).em = true) : nextT ls f = f + 1 := by
  unfold nextT
  cases ls.length - (f + 1) with
  | zero => rfl
  | succ m => rw [grow, if_neg (fun hh => by obtain ⟨h1, _⟩ := hh; rw [h] at h1; cases h1)]
theorem rng_em (k : Nat) (ls : List Ln) (x : Ln) (hx : x.em = true) : ∀ (n f m : Nat), f + n = k → rngS (List.replicate k x ++ ls) (n + m) f [] = rngS (List.replicate k x ++ ls) m k []
  | 0, f, m, h => by rw [Nat.zero_add, show f = k from by omega]
  | n + 1, f, m, h => by
    have he : (atL (List.replicate k x ++ ls) f).em = true := by
      have : atL (List.replicate k x ++ ls) f = x := by
        unfold atL
        rw [List.getD_eq_getElem?_getD, List.getElem?_append_left (by simp; omega), List.getElem?_replicate, if_pos (by omega)]
        rfl
      rw [this]; exact hx
    rw [show n + 1 + m = (n + m) + 1 from by omega, rngS, if_pos (by simp; omega), next_em _ _ he, show addR (List.replicate k x ++ ls) f [] = [] from if_neg (fun hh => by rw [he] at hh; cases hh.1)]
    exact rng_em k ls x hx n (f + 1) m (by omega)
theorem find_sh (k : Nat) (v : List (List Gl)) : findS (List.replicate k [] ++ v) = (findS v).map (shR k) := by
  unfold findS
  rw [List.map_append, List.map_replicate, List.length_append, List.length_replicate, rng_em k (v.map readS) (readS []) rfl k 0 v.length (by omega)]
  have := rng_sh (List.replicate k (readS [])) (v.map readS) v.length 0
  rw [List.length_replicate, Nat.zero_add] at this
  exact this
end Go.VI

namespace Go.VI
open Go.Proofs
set_option maxRecDepth 100000
set_option linter.unusedSimpArgs false
set_option linter.unusedVariables false
set_option maxHeartbeats 4000000
theorem eq_rg (a1 a2 a3 a4 a5 a6 a7 b1 b2 b3 b4 b5 b6 b7 : Int) (a8 b8 : List UInt8) : binE Tryd.prog .neq 30 (.agg [.i (.v (.int .i64 a1)), .i (.v (.int .i64 a2)), .i (.v (.int .i64 a3)), .i (.v (.int .i64 a4)), .i (.v (.int .i64 a5)), .i (.v (.int .i64 a6)), .i (.v (.int .i64 a7)), .i (.str a8)]) (.agg [.i (.v (.int .i64 b1)), .i (.v (.int .i64 b2)), .i (.v (.int .i64 b3)), .i (.v (.int .i64 b4)), .i (.v (.int .i64 b5)), .i (.v (.int .i64 b6)), .i (.v (.int .i64 b7)), .i (.str b8)]) = some (.i (.v (.bool (!(decide (a1 = b1) && (decide (a2 = b2) && (decide (a3 = b3) && (decide (a4 = b4) && (decide (a5 = b5) && (decide (a6 = b6) && (decide (a7 = b7) && ((a8 == b8) && true))))))))))))  := by
  rw [be_aan]
  unfold eqE
  simp only
  rw [if_neg (by rw [eqg30]; decide), agg30, lv30]
  rfl
theorem l12 (s : List Rg) (hl : s.length ≤ 1000001) : ∀ (n k : Nat), k + n = s.length →
    ∃ fr, rl E 0 12 (loopAt Tryd.f12 0) [(0, .i (.sl 8 (rowsR s) false)), (1, .i (.sl 8 (rowsR s) false)), (5, .i (.v (.int .i64 k)))] [] = some (.exit 0, fr, []) := by
  intro n
  induction n with
  | zero =>
    intro k hk
    obtain rfl : k = s.length := by omega
    rw [rl_step (fn := Tryd.f12) (k := 0) rfl]
    simp (disch := first | omega | (simp only [List.length_append, List.length_map, List.length_set, List.length_cons, List.length_nil, List.length_take, List.length_drop, rowsR_len]; omega)) only [va0, va1, va2, va3, va4, va5, va6, va7, va8, va9, va10, va11, va12, va13, va14, va15, vb0, vb1, vb2, vb3, w_i8, w_u8, w_i16, w_u16, w_i32, w_u32, w_i64, w_u64, lt_T, lt_F, le_T, le_F, nlt_T, nlt_F, nle_T, nle_F, List.take_of_length_le, gB, gcW, gcR, posIn, renA, renL, Chunk.ren, Chunk.refs, evOpD, touchD, stepC, isFresh, nFresh, freshOf, mkR, hole, evL, evH, opd, get, putD, ofVal, cellOf, loadE, behind, lenE, idxAddrE, idxE, lookE, lookM, addPtr, intE, strE, unE, convE, AV.int, AV.bool, AV.str, ivs, take, frameOf, firstRegion, refsA, refsL, one, cellsA, floatOk, apartT, List.map, if_true, if_false, E_P, E_glob, reduceCtorEq, beq_self_eq_true, decide_true, decide_false, ↓reduceIte, Nat.reduceEqDiff, cond_true, cond_false, or_true, true_or, or_false, false_or, and_true, true_and, and_self, false_and, and_false, not_true, not_false_iff, Nat.reduceAdd, Nat.reduceSub, Nat.reduceMul, Nat.reduceLT, Nat.reduceLeDiff, Int.reduceToNat, Int.reduceLT, Int.reduceLE, Option.getD, Int.reduceMul, Int.reduceAdd, List.drop, List.take, Nat.reduceBEq, List.isEmpty, Int.reduceEq, Int.reduceNe, Int.reduceNeg, Int.reduceGT, Int.reduceGE, beq_true, beq_false, UInt8.reduceToNat, eqE, eq_self, foldE, maxE, minE, eq_T, eq_F, ndec, odec, adec, sdec, fillA, over, chop, List.replicate, leavesOk, leafOk, cellsEq, cellEq, E_byref, en12, bs27, rowsR_len, show ∀ B fr H, execT E B 12 (Code.loop _) fr H = rlG E B 12 (loopAt Tryd.f12 0) (gcn B (norm [0, 1, 5] fr) H) from fun B fr H => rl_intro rfl mt12_4 mb12_4 zf12_4 hd12_4 fr H]
    exact ⟨_, rfl⟩
  | succ n ih =>
    intro k hk
    have hlt : k < s.length := by omega
    have hrow := rowsR_D hlt
    obtain ⟨fr, e⟩ := ih (k + 1) (by omega)
    refine ⟨fr, Eq.trans ?_ e⟩
    clear e ih
    generalize atR s k = p at *
    rw [rl_step (fn := Tryd.f12) (k := 0) rfl]
    simp (disch := first | omega | (simp only [List.length_append, List.length_map, List.length_set, List.length_cons, List.length_nil, List.length_take, List.length_drop, rowsR_len]; omega)) only [va0, va1, va2, va3, va4, va5, va6, va7, va8, va9, va10, va11, va12, va13, va14, va15, vb0, vb1, vb2, vb3, w_i8, w_u8, w_i16, w_u16, w_i32, w_u32, w_i64, w_u64, lt_T, lt_F, le_T, le_F, nlt_T, nlt_F, nle_T, nle_F, List.take_of_length_le, gB, gcW, gcR, posIn, renA, renL, Chunk.ren, Chunk.refs, evOpD, touchD, stepC, isFresh, nFresh, freshOf, mkR, hole, evL, evH, opd, get, putD, ofVal, cellOf, loadE, behind, lenE, idxAddrE, idxE, lookE, lookM, addPtr, intE, strE, unE, convE, AV.int, AV.bool, AV.str, ivs, take, frameOf, firstRegion, refsA, refsL, one, cellsA, floatOk, apartT, List.map, if_true, if_false, E_P, E_glob, reduceCtorEq, beq_self_eq_true, decide_true, decide_false, ↓reduceIte, Nat.reduceEqDiff, cond_true, cond_false, or_true, true_or, or_false, false_or, and_true, true_and, and_self, false_and, and_false, not_true, not_false_iff, Nat.reduceAdd, Nat.reduceSub, Nat.reduceMul, Nat.reduceLT, Nat.reduceLeDiff, Int.reduceToNat, Int.reduceLT, Int.reduceLE, Option.getD, Int.reduceMul, Int.reduceAdd, List.drop, List.take, Nat.reduceBEq, List.isEmpty, Int.reduceEq, Int.reduceNe, Int.reduceNeg, Int.reduceGT, Int.reduceGE, beq_true, beq_false, UInt8.reduceToNat, eqE, eq_self, foldE, maxE, minE, eq_T, eq_F, ndec, odec, adec, sdec, fillA, over, chop, List.replicate, leavesOk, leafOk, cellsEq, cellEq, E_byref, en12, bs27, hrow, eq_rg, decide_true, Bool.and_true, beq_self_eq_true, Bool.not_true, rowsR_len, show ∀ B fr H, execT E B 12 (Code.loop _) fr H = rlG E B 12 (loopAt Tryd.f12 0) (gcn B (norm [0, 1, 5] fr) H) from fun B fr H => rl_intro rfl mt12_4 mb12_4 zf12_4 hd12_4 fr H]
theorem c12 (s : List Rg) (hl : s.length ≤ 1000001) : ∃ L, callT E 12 [.i (.sl 8 (rowsR s) false), .i (.sl 8 (rowsR s) false)] [] = some (.i (.v (.bool true)), L) := by
  obtain ⟨fr, e⟩ := l12 s hl s.length 0 (by omega)
  have e' : rl E 0 12 (loopAt Tryd.f12 0) [(0, .i (.sl 8 (rowsR s) false)), (1, .i (.sl 8 (rowsR s) false)), (5, .i (.v (.int .i64 0)))] [] = _ := e
  rw [callT_eq Tryd.func12 rfl fok12 (by simp [Tryd.ntmps12])]
  simp (disch := first | omega | (simp only [List.length_append, List.length_map, List.length_set, List.length_cons, List.length_nil, List.length_take, List.length_drop, rowsR_len]; omega)) only [va0, va1, va2, va3, va4, va5, va6, va7, va8, va9, va10, va11, va12, va13, va14, va15, vb0, vb1, vb2, vb3, w_i8, w_u8, w_i16, w_u16, w_i32, w_u32, w_i64, w_u64, lt_T, lt_F, le_T, le_F, nlt_T, nlt_F, nle_T, nle_F, List.take_of_length_le, gB, gcW, gcR, posIn, renA, renL, Chunk.ren, Chunk.refs, evOpD, touchD, stepC, isFresh, nFresh, freshOf, mkR, hole, evL, evH, opd, get, putD, ofVal, cellOf, loadE, behind, lenE, idxAddrE, idxE, lookE, lookM, addPtr, intE, strE, unE, convE, AV.int, AV.bool, AV.str, ivs, take, frameOf, firstRegion, refsA, refsL, one, cellsA, floatOk, apartT, List.map, if_true, if_false, E_P, E_glob, reduceCtorEq, beq_self_eq_true, decide_true, decide_false, ↓reduceIte, Nat.reduceEqDiff, cond_true, cond_false, or_true, true_or, or_false, false_or, and_true, true_and, and_self, false_and, and_false, not_true, not_false_iff, Nat.reduceAdd, Nat.reduceSub, Nat.reduceMul, Nat.reduceLT, Nat.reduceLeDiff, Int.reduceToNat, Int.reduceLT, Int.reduceLE, Option.getD, Int.reduceMul, Int.reduceAdd, List.drop, List.take, Nat.reduceBEq, List.isEmpty, Int.reduceEq, Int.reduceNe, Int.reduceNeg, Int.reduceGT, Int.reduceGE, beq_true, beq_false, UInt8.reduceToNat, eqE, eq_self, foldE, maxE, minE, eq_T, eq_F, ndec, odec, adec, sdec, fillA, over, chop, List.replicate, leavesOk, leafOk, cellsEq, cellEq, E_byref, en12, bs27, e', rowsR_len, show ∀ B fr H, execT E B 12 (Code.loop _) fr H = rlG E B 12 (loopAt Tryd.f12 0) (gcn B (norm [0, 1, 5] fr) H) from fun B fr H => rl_intro rfl mt12_4 mb12_4 zf12_4 hd12_4 fr H]
  exact ⟨_, rfl⟩
theorem ik12 (s : List Rg) (hl : s.length ≤ 1000001) (H : Hp) : isoK E (callT E) 12 [.i (.sl 8 (rowsR s) false), .i (.sl 8 (rowsR s) false)] H = some (.i (.v (.bool true)), H) := isoK_val rfl rfl rfl (c12 s hl)
theorem goodR_mem (ls : List Ln) : ∀ (o : List Rg) (l : Nat), goodR ls l o → ∀ r ∈ o, r.top ≤ ls.length ∧ r.bottom ≤ ls.length
  | [], _, _, r, hr => by cases hr
  | x :: o, l, g, r, hr => by
    obtain ⟨g1, g2, g3, _, g5⟩ := g
    rcases List.mem_cons.1 hr with rfl | hr
    · omega
    · exact goodR_mem ls o _ g5 r hr
theorem l4 (s nw : Nat) (rw_ : List (List IV)) (a b c d : Int) (e : Bool) (o : List Rg) (hs : s ≤ 4) (ho : o.length ≤ 100000) (hm : ∀ r ∈ o, r.top ≤ 8 ∧ r.bottom ≤ 8) : ∀ (m q : Nat) (dn : List Rg), q + m = o.length → dn.length + m ≤ 300000 →
    rl E 0 4 (loopAt Tryd.f4 0) ([(5, .i (.v (.int .i64 (s : Nat)))), (6, .ptr 0 0 0 0), (7, .ref 2 0 0 (dn).length), (26, .i (.sl 8 (rowsR o) false)), (27, .i (.v (.int .i64 o.length))), (28, .i (.v (.int .i64 (q))))]) [.box [.i (.v (.int .i64 a)), .i (.v (.int .i64 b)), .ref 1 0 0 nw, .i (.v (.int .i64 c)), .i (.v (.int .i64 d)), .i (.v (.bool e))], .sl 1 0 rw_ false, .sl 8 0 (rowsR (dn)) false] = some (.exit 0, [(5, .i (.v (.int .i64 (s : Nat)))), (6, .ptr 0 0 0 0), (7, .ref 2 0 0 (dn ++ (o.drop q).map (shR s)).length), (26, .i (.sl 8 (rowsR o) false)), (27, .i (.v (.int .i64 o.length))), (28, .i (.v (.int .i64 (o.length)))), (29, .i (.v (.bool false)))], [.box [.i (.v (.int .i64 a)), .i (.v (.int .i64 b)), .ref 1 0 0 nw, .i (.v (.int .i64 c)), .i (.v (.int .i64 d)), .i (.v (.bool e))], .sl 1 0 rw_ false, .sl 8 0 (rowsR (dn ++ (o.drop q).map (shR s))) false]) := by
  intro m
  induction m with
  | zero =>
    intro q dn hq hd
    obtain rfl : q = o.length := by omega
    rw [List.drop_length, List.map_nil, List.append_nil]
    rw [rl_step (fn := Tryd.f4) (k := 0) rfl]
    simp (disch := first | omega | (simp only [List.length_append, List.length_map, List.length_set, List.length_cons, List.length_nil, List.length_take, List.length_drop, rowsR_len]; omega)) only [va0, va1, va2, va3, va4, va5, va6, va7, va8, va9, va10, va11, va12, va13, va14, va15, vb0, vb1, vb2, vb3, w_i8, w_u8, w_i16, w_u16, w_i32, w_u32, w_i64, w_u64, lt_T, lt_F, le_T, le_F, nlt_T, nlt_F, nle_T, nle_F, List.take_of_length_le, gB, gcW, gcR, posIn, renA, renL, Chunk.ren, Chunk.refs, evOpD, touchD, stepC, isFresh, nFresh, freshOf, mkR, hole, evL, evH, opd, get, putD, ofVal, cellOf, loadE, behind, lenE, idxAddrE, idxE, lookE, lookM, addPtr, intE, strE, unE, convE, AV.int, AV.bool, AV.str, ivs, take, frameOf, firstRegion, refsA, refsL, one, cellsA, floatOk, apartT, List.map, if_true, if_false, E_P, E_glob, reduceCtorEq, beq_self_eq_true, decide_true, decide_false, ↓reduceIte, Nat.reduceEqDiff, cond_true, cond_false, or_true, true_or, or_false, false_or, and_true, true_and, and_self, false_and, and_false, not_true, not_false_iff, Nat.reduceAdd, Nat.reduceSub, Nat.reduceMul, Nat.reduceLT, Nat.reduceLeDiff, Int.reduceToNat, Int.reduceLT, Int.reduceLE, Option.getD, Int.reduceMul, Int.reduceAdd, List.drop, List.take, Nat.reduceBEq, List.isEmpty, Int.reduceEq, Int.reduceNe, Int.reduceNeg, Int.reduceGT, Int.reduceGE, beq_true, beq_false, UInt8.reduceToNat, eqE, eq_self, foldE, maxE, minE, eq_T, eq_F, ndec, odec, adec, sdec, fillA, over, chop, List.replicate, leavesOk, leafOk, cellsEq, cellEq, E_byref, en4, bs22, bs27, rowsR_len, show ∀ B fr H, execT E B 4 (Code.loop _) fr H = rlM E B 4 (loopAt Tryd.f4 0) [5, 6, 7, 26, 27, 28] [] (matF [(7, 8)] fr H).1 (matB [] (matF [(7, 8)] fr H).1 (matF [(7, 8)] fr H).2) from fun B fr H => rl_introM rfl mt4_8 mb4_8 zf4_8 hd4_8 fr H]
  | succ m ih =>
    intro q dn hq hd
    have hlt : q < o.length := by omega
    have hrow := rowsR_D hlt
    obtain ⟨b1, b2⟩ := hm (atR o q) (by rw [atR_eq hlt]; exact List.getElem_mem hlt)
    rw [drop_R hlt, List.map_cons]
    have e1 := ih (q + 1) (dn ++ [shR s (atR o q)]) (by omega) (by simp; omega)
    rw [List.append_assoc, List.singleton_append] at e1
    refine Eq.trans ?_ e1
    clear e1 ih hm
    have hsn := rowsR_snoc dn (shR s (atR o q))
    unfold shR at hsn ⊢
    have htk : List.take dn.length (rowsR dn) = rowsR dn := List.take_of_length_le (by rw [rowsR_len]; exact Nat.le_refl _)
    generalize atR o q = r at *
    obtain ⟨r1, r2, r3, r4, r5⟩ := r
    simp only at hrow hsn b1 b2 ⊢
    have n1 : (r1 : Int) + (s : Int) = ((r1 + s : Nat) : Int) := by omega
    have n2 : (r3 : Int) + (s : Int) = ((r3 + s : Nat) : Int) := by omega
    rw [rl_step (fn := Tryd.f4) (k := 0) rfl]
    simp (disch := first | omega | (simp only [List.length_append, List.length_map, List.length_set, List.length_cons, List.length_nil, List.length_take, List.length_drop, rowsR_len]; omega)) only [va0, va1, va2, va3, va4, va5, va6, va7, va8, va9, va10, va11, va12, va13, va14, va15, vb0, vb1, vb2, vb3, w_i8, w_u8, w_i16, w_u16, w_i32, w_u32, w_i64, w_u64, lt_T, lt_F, le_T, le_F, nlt_T, nlt_F, nle_T, nle_F, List.take_of_length_le, gB, gcW, gcR, posIn, renA, renL, Chunk.ren, Chunk.refs, evOpD, touchD, stepC, isFresh, nFresh, freshOf, mkR, hole, evL, evH, opd, get, putD, ofVal, cellOf, loadE, behind, lenE, idxAddrE, idxE, lookE, lookM, addPtr, intE, strE, unE, convE, AV.int, AV.bool, AV.str, ivs, take, frameOf, firstRegion, refsA, refsL, one, cellsA, floatOk, apartT, List.map, if_true, if_false, E_P, E_glob, reduceCtorEq, beq_self_eq_true, decide_true, decide_false, ↓reduceIte, Nat.reduceEqDiff, cond_true, cond_false, or_true, true_or, or_false, false_or, and_true, true_and, and_self, false_and, and_false, not_true, not_false_iff, Nat.reduceAdd, Nat.reduceSub, Nat.reduceMul, Nat.reduceLT, Nat.reduceLeDiff, Int.reduceToNat, Int.reduceLT, Int.reduceLE, Option.getD, Int.reduceMul, Int.reduceAdd, List.drop, List.take, Nat.reduceBEq, List.isEmpty, Int.reduceEq, Int.reduceNe, Int.reduceNeg, Int.reduceGT, Int.reduceGE, beq_true, beq_false, UInt8.reduceToNat, eqE, eq_self, foldE, maxE, minE, eq_T, eq_F, ndec, odec, adec, sdec, fillA, over, chop, List.replicate, leavesOk, leafOk, cellsEq, cellEq, E_byref, en4, bs22, bs27, hrow, n1, n2, hsn, htk, List.length_append, List.length_singleton, rowsR_len, show ∀ B fr H, execT E B 4 (Code.loop _) fr H = rlM E B 4 (loopAt Tryd.f4 0) [5, 6, 7, 26, 27, 28] [] (matF [(7, 8)] fr H).1 (matB [] (matF [(7, 8)] fr H).1 (matF [(7, 8)] fr H).2) from fun B fr H => rl_introM rfl mt4_8 mb4_8 zf4_8 hd4_8 fr H]
end Go.VI

namespace Go.VI
open Go.Proofs
set_option maxRecDepth 100000
set_option linter.unusedSimpArgs false
set_option linter.unusedVariables false
set_option maxHeartbeats 4000000
theorem rowsV_rep (s : Nat) (v : List (List Gl)) : List.replicate s [IV.sl 3 [] false] ++ rowsV v = rowsV (List.replicate s [] ++ v) := by
  simp [rowsV, rowsG]
theorem law4 (v : List (List Gl)) (hv : smallV v) (a b c d : Int) (e : Bool) (n : Nat) (hn : n ≤ 255) : ∃ L, callT E 4 [.agg [.i (.v (.int .i64 a)), .i (.v (.int .i64 b)), .i (.sl 1 (rowsV v) false), .i (.v (.int .i64 c)), .i (.v (.int .i64 d)), .i (.v (.bool e))], .i (.v (.int .u8 n))] [] = some (.i (.v (.bool true)), L) := by
  have hf := fun H => ik8 v hv a b c d e H
  have hv1 := hv.1
  cases hfi : fineS v with
  | false =>
    rw [hfi] at hf
    rw [callT_eq Tryd.func4 rfl fok4 (by simp [Tryd.ntmps4])]
    simp (disch := first | omega | (simp only [List.length_append, List.length_map, List.length_set, List.length_cons, List.length_nil, List.length_take, List.length_drop, rowsV_len]; omega)) only [va0, va1, va2, va3, va4, va5, va6, va7, va8, va9, va10, va11, va12, va13, va14, va15, vb0, vb1, vb2, vb3, w_i8, w_u8, w_i16, w_u16, w_i32, w_u32, w_i64, w_u64, lt_T, lt_F, le_T, le_F, nlt_T, nlt_F, nle_T, nle_F, List.take_of_length_le, gB, gcW, gcR, posIn, renA, renL, Chunk.ren, Chunk.refs, evOpD, touchD, stepC, isFresh, nFresh, freshOf, mkR, hole, evL, evH, opd, get, putD, ofVal, cellOf, loadE, behind, lenE, idxAddrE, idxE, lookE, lookM, addPtr, intE, strE, unE, convE, AV.int, AV.bool, AV.str, ivs, take, frameOf, firstRegion, refsA, refsL, one, cellsA, floatOk, apartT, List.map, if_true, if_false, E_P, E_glob, reduceCtorEq, beq_self_eq_true, decide_true, decide_false, ↓reduceIte, Nat.reduceEqDiff, cond_true, cond_false, or_true, true_or, or_false, false_or, and_true, true_and, and_self, false_and, and_false, not_true, not_false_iff, Nat.reduceAdd, Nat.reduceSub, Nat.reduceMul, Nat.reduceLT, Nat.reduceLeDiff, Int.reduceToNat, Int.reduceLT, Int.reduceLE, Option.getD, Int.reduceMul, Int.reduceAdd, List.drop, List.take, Nat.reduceBEq, List.isEmpty, Int.reduceEq, Int.reduceNe, Int.reduceNeg, Int.reduceGT, Int.reduceGE, beq_true, beq_false, UInt8.reduceToNat, eqE, eq_self, foldE, maxE, minE, eq_T, eq_F, ndec, odec, adec, sdec, fillA, over, chop, List.replicate, leavesOk, leafOk, cellsEq, cellEq, E_byref, en4, bs22, bs27, hf, rowsV_len, ik9]
    exact ⟨_, rfl⟩
  | true =>
    rw [hfi] at hf
    obtain ⟨g1, g2, g3⟩ := fine_ok hv hfi
    have hs : n % 5 ≤ 4 := by omega
    have hmod : Int.tmod (n : Int) 5 = ((n % 5 : Nat) : Int) := by rw [Int.tmod_eq_emod_of_nonneg (by omega)]; omega
    have hemod : (n : Int) % 5 = ((n % 5 : Nat) : Int) := by omega
    have hfl := rngS_len (v.map readS) v.length 0 []
    rw [List.length_nil, show rngS (v.map readS) v.length 0 [] = findS v from rfl] at hfl
    have hgm : ∀ r ∈ findS v, r.top ≤ 8 ∧ r.bottom ≤ 8 := fun r hr => by
      have := goodR_mem _ _ _ (find_good v) r hr
      rw [List.length_map] at this; omega
    have hw : okV (List.replicate (n % 5) [] ++ v) := by
      refine ⟨by rw [List.length_append, List.length_replicate]; omega, fun r hr => ?_⟩
      rcases List.mem_append.1 hr with hr | hr
      · rw [(List.mem_replicate.1 hr).2]; exact ⟨Nat.zero_le _, Nat.zero_le _⟩
      · exact g1.2 r hr
    have hF := fun H => ik10 v g1 a b c d e H
    have hF2 := fun H => ik10 (List.replicate (n % 5) [] ++ v) hw a b c d e H
    rw [find_sh] at hF2
    have hml : ((findS v).map (shR (n % 5))).length = (findS v).length := List.length_map ..
    have hSa := fun H => ik12 ((findS v).map (shR (n % 5))) (by omega) H
    have h := fun nw rw_ => l4 (n % 5) nw rw_ a b c d e (findS v) hs (by omega) hgm (findS v).length 0 [] (by omega) (by simp; omega)
    have hrep := rowsV_rep (n % 5) v
    have hrl : (rowsV (List.replicate (n % 5) [] ++ v)).length = n % 5 + v.length := by rw [rowsV_len, List.length_append, List.length_replicate]
    generalize rowsV (List.replicate (n % 5) [] ++ v) = rw2 at *
    simp only [List.drop_zero, List.nil_append] at h
    generalize (findS v).map (shR (n % 5)) = o2 at *
    generalize findS v = o at *
    generalize n % 5 = s at *
    have htk : List.take o2.length (rowsR o2) = rowsR o2 := List.take_of_length_le (by rw [rowsR_len]; exact Nat.le_refl _)
    have htk2 : List.take (s + v.length) rw2 = rw2 := List.take_of_length_le (by omega)
    have htk3 : List.take s (List.replicate s [IV.sl 3 [] false]) = List.replicate s [IV.sl 3 [] false] := List.take_of_length_le (by simp)
    have h' : rl E 0 4 (loopAt Tryd.f4 0) [(5, .i (.v (.int .i64 (s : Nat)))), (6, .ptr 0 0 0 0), (7, .ref 2 0 0 0), (26, .i (.sl 8 (rowsR o) false)), (27, .i (.v (.int .i64 o.length))), (28, .i (.v (.int .i64 0)))] [.box [.i (.v (.int .i64 a)), .i (.v (.int .i64 b)), .ref 1 0 0 (s + v.length), .i (.v (.int .i64 c)), .i (.v (.int .i64 d)), .i (.v (.bool e))], .sl 1 0 rw2 false, .sl 8 0 [] false] = _ := h (s + v.length) rw2
    clear h
    rw [callT_eq Tryd.func4 rfl fok4 (by simp [Tryd.ntmps4])]
    simp (disch := first | omega | (simp only [List.length_append, List.length_map, List.length_set, List.length_cons, List.length_nil, List.length_take, List.length_drop, rowsV_len, rowsR_len]; omega)) only [va0, va1, va2, va3, va4, va5, va6, va7, va8, va9, va10, va11, va12, va13, va14, va15, vb0, vb1, vb2, vb3, w_i8, w_u8, w_i16, w_u16, w_i32, w_u32, w_i64, w_u64, lt_T, lt_F, le_T, le_F, nlt_T, nlt_F, nle_T, nle_F, List.take_of_length_le, gB, gcW, gcR, posIn, renA, renL, Chunk.ren, Chunk.refs, evOpD, touchD, stepC, isFresh, nFresh, freshOf, mkR, hole, evL, evH, opd, get, putD, ofVal, cellOf, loadE, behind, lenE, idxAddrE, idxE, lookE, lookM, addPtr, intE, strE, unE, convE, AV.int, AV.bool, AV.str, ivs, take, frameOf, firstRegion, refsA, refsL, one, cellsA, floatOk, apartT, List.map, if_true, if_false, E_P, E_glob, reduceCtorEq, beq_self_eq_true, decide_true, decide_false, ↓reduceIte, Nat.reduceEqDiff, cond_true, cond_false, or_true, true_or, or_false, false_or, and_true, true_and, and_self, false_and, and_false, not_true, not_false_iff, Nat.reduceAdd, Nat.reduceSub, Nat.reduceMul, Nat.reduceLT, Nat.reduceLeDiff, Int.reduceToNat, Int.reduceLT, Int.reduceLE, Option.getD, Int.reduceMul, Int.reduceAdd, List.drop, List.take, Nat.reduceBEq, List.isEmpty, Int.reduceEq, Int.reduceNe, Int.reduceNeg, Int.reduceGT, Int.reduceGE, beq_true, beq_false, UInt8.reduceToNat, eqE, eq_self, foldE, maxE, minE, eq_T, eq_F, ndec, odec, adec, sdec, fillA, over, chop, List.replicate, leavesOk, leafOk, cellsEq, cellEq, E_byref, en4, bs22, bs27, hf, hmod, hemod, h', hF, hF2, hSa, hrep, htk, htk2, htk3, hml, hrl, List.length_replicate, Int.toNat_natCast, rowsV_len, rowsR_len, ik9, show ∀ B fr H, execT E B 4 (Code.loop _) fr H = rlM E B 4 (loopAt Tryd.f4 0) [5, 6, 7, 26, 27, 28] [] (matF [(7, 8)] fr H).1 (matB [] (matF [(7, 8)] fr H).1 (matF [(7, 8)] fr H).2) from fun B fr H => rl_introM rfl mt4_8 mb4_8 zf4_8 hd4_8 fr H]
    exact ⟨_, rfl⟩
theorem c4 (a b : Int) (v : List (List Gl)) (c d : Int) (e : Bool) (hb : bL [.v (.int .i64 a), .v (.int .i64 b), .sl 1 (rowsV v) false, .v (.int .i64 c), .v (.int .i64 d), .v (.bool e)] ≤ 1048576) (n : Int) (hn : 0 ≤ n ∧ n ≤ 255) :
    ∃ L, callT E 4 [.agg [.i (.v (.int .i64 a)), .i (.v (.int .i64 b)), .i (.sl 1 (rowsV v) false), .i (.v (.int .i64 c)), .i (.v (.int .i64 d)), .i (.v (.bool e))], .i (.v (.int .u8 n))] [] = some (.i (.v (.bool true)), L) := by
  obtain ⟨m, rfl⟩ : ∃ m : Nat, n = m := ⟨n.toNat, by omega⟩
  exact law4 v (small_of v (by simpa [bL, bI] using hb)) a b c d e m (by omega)
end Go.VI

