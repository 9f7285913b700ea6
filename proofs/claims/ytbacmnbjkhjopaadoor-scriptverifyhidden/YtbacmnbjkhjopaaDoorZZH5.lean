import Derived.Test.YtbacmnbjkhjopaaDoorZZH4
namespace Go.VI
open Go.Proofs
set_option maxRecDepth 100000
set_option linter.unusedSimpArgs false
set_option linter.unusedVariables false
set_option maxHeartbeats 4000000
theorem sucL_len (op arg i : Int) : (sucL op arg i).length ≤ 2 := by
  unfold sucL; rw [List.length_append]; repeat' split
  all_goals simp
theorem l13_1 (l : List Ins) (hl : l.length ≤ 500) (n : Nat) (hn : n = l.length + 1) (hok : ∀ (j : Nat) (h : j < l.length), chk1 l.length j l[j] = 0) (k : Nat) (hk : k ≤ l.length) (out : List Int) (ho : out.length = n) (hr : ∀ x ∈ out, -1 ≤ x ∧ x ≤ 16) :
    ∃ fr ex H', rl E 0 13 (loopAt Tryd.f13 1) [(0, .i (.sl 2 (rowsI l) false)), (5, .ref 0 0 0 n), (7, .i (.v (.int .i64 k)))] [.sl 1 0 (rows64 out) false] = some (ex, fr, H') ∧ rP l n 2 fr ex H' (dRun l.length k (l.drop k) out) := by
  rw [rl_step (fn := Tryd.f13) (k := 1) rfl]
  by_cases hlt : k < l.length
  · have hrow := rowsI_at hlt
    have hck := hok k hlt
    have hnx := fun H => ik26 l k hlt (by omega) H
    rw [List.drop_eq_getElem_cons hlt, dRun, dStep]
    have ih := fun out ho hr => l13_1 l hl n hn hok (k + 1) hlt out ho hr
    obtain ⟨op, arg, hp⟩ : ∃ op arg, l[k] = (op, arg) := ⟨_, _, rfl⟩
    rw [hp] at hrow hck hnx ⊢
    simp only at hrow hnx ⊢
    obtain ⟨⟨o1, o2⟩, hsuc⟩ := sucL_in hlt hck
    have hd := rows64_get (l := out) (k := k) (by omega)
    have hdr := hr (out.getD k 0) (by rw [List.getD_eq_getElem?_getD, List.getElem?_eq_getElem (by omega)]; exact List.getElem_mem _)
    have hpo := fun H => ik21 op o1 o2 H
    have hpu := fun H => ik22 op o1 o2 H
    have hp1 := popS_r op
    have hp2 := pushS_r op
    have hin := fun af => l13_2 l hl n hn k af (sucL op arg k) (sucL_len _ _ _) (fun x hx => by have := hsuc x hx; omega) 0 (Nat.zero_le _) out ho
    have hxl := sucL_len op arg k
    generalize out.getD k 0 = d at *
    generalize popS op = po at *
    generalize pushS op = pu at *
    generalize sucL op arg k = xs at *
    by_cases h1 : d < 0
    · rw [if_pos h1]
      simp only
      obtain ⟨fr, ex, H', e, hh⟩ := ih out ho hr
      refine ⟨fr, ex, H', Eq.trans ?_ e, hh⟩
      clear e hh ih hin
      simp (disch := first | omega | (simp only [List.length_append, List.length_map, List.length_set, List.length_cons, List.length_nil, List.length_take, List.length_drop, rowsI_len, rows64_len]; omega)) only [va0, va1, va2, va3, va4, va5, va6, va7, va8, va9, va10, va11, va12, va13, va14, va15, vb0, vb1, vb2, vb3, w_i8, w_u8, w_i16, w_u16, w_i32, w_u32, w_i64, w_u64, lt_T, lt_F, le_T, le_F, nlt_T, nlt_F, nle_T, nle_F, List.take_of_length_le, gB, gcW, gcR, posIn, renA, renL, Chunk.ren, Chunk.refs, evOpD, touchD, stepC, isFresh, nFresh, freshOf, mkR, hole, evL, evH, opd, get, putD, ofVal, cellOf, loadE, behind, lenE, idxAddrE, idxE, addPtr, intE, strE, unE, convE, AV.int, AV.bool, AV.str, ivs, take, frameOf, firstRegion, refsA, refsL, one, cellsA, floatOk, apartT, List.map, if_true, if_false, E_P, E_glob0, E_glob1, reduceCtorEq, beq_self_eq_true, decide_true, decide_false, ↓reduceIte, Nat.reduceEqDiff, cond_true, cond_false, or_true, true_or, or_false, false_or, and_true, true_and, and_self, false_and, and_false, not_true, not_false_iff, Nat.reduceAdd, Nat.reduceSub, Nat.reduceMul, Nat.reduceLT, Nat.reduceLeDiff, Int.reduceToNat, Int.reduceLT, Int.reduceLE, Option.getD, Int.reduceMul, Int.reduceAdd, List.drop, List.take, Nat.reduceBEq, List.isEmpty, Int.reduceEq, Int.reduceNe, Int.reduceNeg, Int.reduceGT, Int.reduceGE, beq_true, beq_false, UInt8.reduceToNat, eqE, eq_self, foldE, maxE, minE, eq_T, eq_F, ndec, odec, adec, sdec, fillA, over, chop, List.replicate, leavesOk, leafOk, cellsEq, cellEq, E_ext, E_byref, en13, bs22, bs24, hrow, rowsI_len, rows64_len, hd, h1, show ∀ B fr H, execT E B 13 (Code.loop _) fr H = rlM E B 13 (loopAt Tryd.f13 1) [0, 5, 7] [] (matF [(5, 1)] fr H).1 (matB [] (matF [(5, 1)] fr H).1 (matF [(5, 1)] fr H).2) from fun B fr H => rl_introM rfl mt13_11 mb13_11 zf13_11 hd13_11 fr H]
    · rw [if_neg h1]
      by_cases h2 : d < po
      · rw [if_pos (.inl h2)]
        clear ih hin
        simp (disch := first | omega | (simp only [List.length_append, List.length_map, List.length_set, List.length_cons, List.length_nil, List.length_take, List.length_drop, rowsI_len, rows64_len]; omega)) only [va0, va1, va2, va3, va4, va5, va6, va7, va8, va9, va10, va11, va12, va13, va14, va15, vb0, vb1, vb2, vb3, w_i8, w_u8, w_i16, w_u16, w_i32, w_u32, w_i64, w_u64, lt_T, lt_F, le_T, le_F, nlt_T, nlt_F, nle_T, nle_F, List.take_of_length_le, gB, gcW, gcR, posIn, renA, renL, Chunk.ren, Chunk.refs, evOpD, touchD, stepC, isFresh, nFresh, freshOf, mkR, hole, evL, evH, opd, get, putD, ofVal, cellOf, loadE, behind, lenE, idxAddrE, idxE, addPtr, intE, strE, unE, convE, AV.int, AV.bool, AV.str, ivs, take, frameOf, firstRegion, refsA, refsL, one, cellsA, floatOk, apartT, List.map, if_true, if_false, E_P, E_glob0, E_glob1, reduceCtorEq, beq_self_eq_true, decide_true, decide_false, ↓reduceIte, Nat.reduceEqDiff, cond_true, cond_false, or_true, true_or, or_false, false_or, and_true, true_and, and_self, false_and, and_false, not_true, not_false_iff, Nat.reduceAdd, Nat.reduceSub, Nat.reduceMul, Nat.reduceLT, Nat.reduceLeDiff, Int.reduceToNat, Int.reduceLT, Int.reduceLE, Option.getD, Int.reduceMul, Int.reduceAdd, List.drop, List.take, Nat.reduceBEq, List.isEmpty, Int.reduceEq, Int.reduceNe, Int.reduceNeg, Int.reduceGT, Int.reduceGE, beq_true, beq_false, UInt8.reduceToNat, eqE, eq_self, foldE, maxE, minE, eq_T, eq_F, ndec, odec, adec, sdec, fillA, over, chop, List.replicate, leavesOk, leafOk, cellsEq, cellEq, E_ext, E_byref, en13, bs22, bs24, hrow, rowsI_len, rows64_len, hd, hpo, hpu, h1, h2, show ∀ B fr H, execT E B 13 (Code.loop _) fr H = rlM E B 13 (loopAt Tryd.f13 1) [0, 5, 7] [] (matF [(5, 1)] fr H).1 (matB [] (matF [(5, 1)] fr H).1 (matF [(5, 1)] fr H).2) from fun B fr H => rl_introM rfl mt13_11 mb13_11 zf13_11 hd13_11 fr H]
        refine ⟨_, _, _, rfl, ?_⟩
        exact ⟨rfl, rfl, rfl⟩
      · by_cases h3 : 16 < d - po + pu
        · rw [if_pos (.inr h3)]
          clear ih hin
          simp (disch := first | omega | (simp only [List.length_append, List.length_map, List.length_set, List.length_cons, List.length_nil, List.length_take, List.length_drop, rowsI_len, rows64_len]; omega)) only [va0, va1, va2, va3, va4, va5, va6, va7, va8, va9, va10, va11, va12, va13, va14, va15, vb0, vb1, vb2, vb3, w_i8, w_u8, w_i16, w_u16, w_i32, w_u32, w_i64, w_u64, lt_T, lt_F, le_T, le_F, nlt_T, nlt_F, nle_T, nle_F, List.take_of_length_le, gB, gcW, gcR, posIn, renA, renL, Chunk.ren, Chunk.refs, evOpD, touchD, stepC, isFresh, nFresh, freshOf, mkR, hole, evL, evH, opd, get, putD, ofVal, cellOf, loadE, behind, lenE, idxAddrE, idxE, addPtr, intE, strE, unE, convE, AV.int, AV.bool, AV.str, ivs, take, frameOf, firstRegion, refsA, refsL, one, cellsA, floatOk, apartT, List.map, if_true, if_false, E_P, E_glob0, E_glob1, reduceCtorEq, beq_self_eq_true, decide_true, decide_false, ↓reduceIte, Nat.reduceEqDiff, cond_true, cond_false, or_true, true_or, or_false, false_or, and_true, true_and, and_self, false_and, and_false, not_true, not_false_iff, Nat.reduceAdd, Nat.reduceSub, Nat.reduceMul, Nat.reduceLT, Nat.reduceLeDiff, Int.reduceToNat, Int.reduceLT, Int.reduceLE, Option.getD, Int.reduceMul, Int.reduceAdd, List.drop, List.take, Nat.reduceBEq, List.isEmpty, Int.reduceEq, Int.reduceNe, Int.reduceNeg, Int.reduceGT, Int.reduceGE, beq_true, beq_false, UInt8.reduceToNat, eqE, eq_self, foldE, maxE, minE, eq_T, eq_F, ndec, odec, adec, sdec, fillA, over, chop, List.replicate, leavesOk, leafOk, cellsEq, cellEq, E_ext, E_byref, en13, bs22, bs24, hrow, rowsI_len, rows64_len, hd, hpo, hpu, h1, h2, h3, show ∀ B fr H, execT E B 13 (Code.loop _) fr H = rlM E B 13 (loopAt Tryd.f13 1) [0, 5, 7] [] (matF [(5, 1)] fr H).1 (matB [] (matF [(5, 1)] fr H).1 (matF [(5, 1)] fr H).2) from fun B fr H => rl_introM rfl mt13_11 mb13_11 zf13_11 hd13_11 fr H]
          refine ⟨_, _, _, rfl, ?_⟩
          exact ⟨rfl, rfl, rfl⟩
        · rw [if_neg (by omega)]
          obtain ⟨fr2, ex2, H2, e2, hh2, h7⟩ := hin (d - po + pu)
          rw [List.drop_zero] at hh2
          have e2' : rl E 0 13 (loopAt Tryd.f13 2) [(0, .i (.sl 2 (rowsI l) false)), (5, .ref 0 0 0 n), (7, .i (.v (.int .i64 k))), (8, .i (.v (.int .i64 (d - po + pu)))), (9, .i (.sl 1 (rows64 xs) false)), (10, .i (.v (.int .i64 0)))] [.sl 1 0 (rows64 out) false] = _ := e2
          cases hds : dSet l.length (d - po + pu) xs out with
          | some out' =>
            rw [hds] at hh2
            obtain ⟨rfl, g2, rfl, f0, f5⟩ := hh2
            have f7 := h7 rfl
            simp only
            obtain ⟨fr, ex, H', e, hh⟩ := ih out' g2 (dSet_r (by omega) xs out out' hds hr)
            refine ⟨fr, ex, H', Eq.trans ?_ e, hh⟩
            clear e hh ih hin
            simp (disch := first | omega | (simp only [List.length_append, List.length_map, List.length_set, List.length_cons, List.length_nil, List.length_take, List.length_drop, rowsI_len, rows64_len]; omega)) only [va0, va1, va2, va3, va4, va5, va6, va7, va8, va9, va10, va11, va12, va13, va14, va15, vb0, vb1, vb2, vb3, w_i8, w_u8, w_i16, w_u16, w_i32, w_u32, w_i64, w_u64, lt_T, lt_F, le_T, le_F, nlt_T, nlt_F, nle_T, nle_F, List.take_of_length_le, gB, gcW, gcR, posIn, renA, renL, Chunk.ren, Chunk.refs, evOpD, touchD, stepC, isFresh, nFresh, freshOf, mkR, hole, evL, evH, opd, get, putD, ofVal, cellOf, loadE, behind, lenE, idxAddrE, idxE, addPtr, intE, strE, unE, convE, AV.int, AV.bool, AV.str, ivs, take, frameOf, firstRegion, refsA, refsL, one, cellsA, floatOk, apartT, List.map, if_true, if_false, E_P, E_glob0, E_glob1, reduceCtorEq, beq_self_eq_true, decide_true, decide_false, ↓reduceIte, Nat.reduceEqDiff, cond_true, cond_false, or_true, true_or, or_false, false_or, and_true, true_and, and_self, false_and, and_false, not_true, not_false_iff, Nat.reduceAdd, Nat.reduceSub, Nat.reduceMul, Nat.reduceLT, Nat.reduceLeDiff, Int.reduceToNat, Int.reduceLT, Int.reduceLE, Option.getD, Int.reduceMul, Int.reduceAdd, List.drop, List.take, Nat.reduceBEq, List.isEmpty, Int.reduceEq, Int.reduceNe, Int.reduceNeg, Int.reduceGT, Int.reduceGE, beq_true, beq_false, UInt8.reduceToNat, eqE, eq_self, foldE, maxE, minE, eq_T, eq_F, ndec, odec, adec, sdec, fillA, over, chop, List.replicate, leavesOk, leafOk, cellsEq, cellEq, E_ext, E_byref, en13, bs22, bs24, hrow, rowsI_len, rows64_len, hd, hpo, hpu, h1, h2, h3, hnx, e2', f0, f5, f7, show ∀ B fr H, execT E B 13 (Code.loop _) fr H = rlM E B 13 (loopAt Tryd.f13 1) [0, 5, 7] [] (matF [(5, 1)] fr H).1 (matB [] (matF [(5, 1)] fr H).1 (matF [(5, 1)] fr H).2) from fun B fr H => rl_introM rfl mt13_11 mb13_11 zf13_11 hd13_11 fr H, show ∀ B fr H, execT E B 13 (Code.loop _) fr H = rlM E B 13 (loopAt Tryd.f13 2) [0, 5, 7, 8, 9, 10] [] (matF [(5, 1)] fr H).1 (matB [] (matF [(5, 1)] fr H).1 (matF [(5, 1)] fr H).2) from fun B fr H => rl_introM rfl mt13_19 mb13_19 zf13_19 hd13_19 fr H]
          | none =>
            rw [hds] at hh2
            obtain ⟨rfl, f2, f3⟩ := hh2
            simp only
            clear ih hin
            simp (disch := first | omega | (simp only [List.length_append, List.length_map, List.length_set, List.length_cons, List.length_nil, List.length_take, List.length_drop, rowsI_len, rows64_len]; omega)) only [va0, va1, va2, va3, va4, va5, va6, va7, va8, va9, va10, va11, va12, va13, va14, va15, vb0, vb1, vb2, vb3, w_i8, w_u8, w_i16, w_u16, w_i32, w_u32, w_i64, w_u64, lt_T, lt_F, le_T, le_F, nlt_T, nlt_F, nle_T, nle_F, List.take_of_length_le, gB, gcW, gcR, posIn, renA, renL, Chunk.ren, Chunk.refs, evOpD, touchD, stepC, isFresh, nFresh, freshOf, mkR, hole, evL, evH, opd, get, putD, ofVal, cellOf, loadE, behind, lenE, idxAddrE, idxE, addPtr, intE, strE, unE, convE, AV.int, AV.bool, AV.str, ivs, take, frameOf, firstRegion, refsA, refsL, one, cellsA, floatOk, apartT, List.map, if_true, if_false, E_P, E_glob0, E_glob1, reduceCtorEq, beq_self_eq_true, decide_true, decide_false, ↓reduceIte, Nat.reduceEqDiff, cond_true, cond_false, or_true, true_or, or_false, false_or, and_true, true_and, and_self, false_and, and_false, not_true, not_false_iff, Nat.reduceAdd, Nat.reduceSub, Nat.reduceMul, Nat.reduceLT, Nat.reduceLeDiff, Int.reduceToNat, Int.reduceLT, Int.reduceLE, Option.getD, Int.reduceMul, Int.reduceAdd, List.drop, List.take, Nat.reduceBEq, List.isEmpty, Int.reduceEq, Int.reduceNe, Int.reduceNeg, Int.reduceGT, Int.reduceGE, beq_true, beq_false, UInt8.reduceToNat, eqE, eq_self, foldE, maxE, minE, eq_T, eq_F, ndec, odec, adec, sdec, fillA, over, chop, List.replicate, leavesOk, leafOk, cellsEq, cellEq, E_ext, E_byref, en13, bs22, bs24, hrow, rowsI_len, rows64_len, hd, hpo, hpu, h1, h2, h3, hnx, e2', f2, f3, show ∀ B fr H, execT E B 13 (Code.loop _) fr H = rlM E B 13 (loopAt Tryd.f13 1) [0, 5, 7] [] (matF [(5, 1)] fr H).1 (matB [] (matF [(5, 1)] fr H).1 (matF [(5, 1)] fr H).2) from fun B fr H => rl_introM rfl mt13_11 mb13_11 zf13_11 hd13_11 fr H, show ∀ B fr H, execT E B 13 (Code.loop _) fr H = rlM E B 13 (loopAt Tryd.f13 2) [0, 5, 7, 8, 9, 10] [] (matF [(5, 1)] fr H).1 (matB [] (matF [(5, 1)] fr H).1 (matF [(5, 1)] fr H).2) from fun B fr H => rl_introM rfl mt13_19 mb13_19 zf13_19 hd13_19 fr H]
            refine ⟨_, _, _, rfl, ?_⟩
            exact ⟨rfl, f2, f3⟩
  · obtain rfl : k = l.length := by omega
    rw [List.drop_length, dRun]
    simp (disch := first | omega | (simp only [List.length_append, List.length_map, List.length_set, List.length_cons, List.length_nil, List.length_take, List.length_drop, rows64_len, rowsI_len]; omega)) only [va0, va1, va2, va3, va4, va5, va6, va7, va8, va9, va10, va11, va12, va13, va14, va15, vb0, vb1, vb2, vb3, w_i8, w_u8, w_i16, w_u16, w_i32, w_u32, w_i64, w_u64, lt_T, lt_F, le_T, le_F, nlt_T, nlt_F, nle_T, nle_F, List.take_of_length_le, gB, gcW, gcR, posIn, renA, renL, Chunk.ren, Chunk.refs, evOpD, touchD, stepC, isFresh, nFresh, freshOf, mkR, hole, evL, evH, opd, get, putD, ofVal, cellOf, loadE, behind, lenE, idxAddrE, idxE, addPtr, intE, strE, unE, convE, AV.int, AV.bool, AV.str, ivs, take, frameOf, firstRegion, refsA, refsL, one, cellsA, floatOk, apartT, List.map, if_true, if_false, E_P, E_glob0, E_glob1, reduceCtorEq, beq_self_eq_true, decide_true, decide_false, ↓reduceIte, Nat.reduceEqDiff, cond_true, cond_false, or_true, true_or, or_false, false_or, and_true, true_and, and_self, false_and, and_false, not_true, not_false_iff, Nat.reduceAdd, Nat.reduceSub, Nat.reduceMul, Nat.reduceLT, Nat.reduceLeDiff, Int.reduceToNat, Int.reduceLT, Int.reduceLE, Option.getD, Int.reduceMul, Int.reduceAdd, List.drop, List.take, Nat.reduceBEq, List.isEmpty, Int.reduceEq, Int.reduceNe, Int.reduceNeg, Int.reduceGT, Int.reduceGE, beq_true, beq_false, UInt8.reduceToNat, eqE, eq_self, foldE, maxE, minE, eq_T, eq_F, ndec, odec, adec, sdec, fillA, over, chop, List.replicate, leavesOk, leafOk, cellsEq, cellEq, E_ext, E_byref, en13, bs22, bs24, rows64_len, rowsI_len, show ∀ B fr H, execT E B 13 (Code.loop _) fr H = rlM E B 13 (loopAt Tryd.f13 1) [0, 5, 7] [] (matF [(5, 1)] fr H).1 (matB [] (matF [(5, 1)] fr H).1 (matF [(5, 1)] fr H).2) from fun B fr H => rl_introM rfl mt13_11 mb13_11 zf13_11 hd13_11 fr H]
    refine ⟨_, _, _, rfl, ?_⟩
    exact ⟨rfl, ho, rfl, rfl, rfl⟩
termination_by l.length - k
theorem c13 (l : List Ins) (hl : (l.length : Int) < 9223372036854775808) : ∃ L, callT E 13 [.i (.sl 2 (rowsI l) false)] [] = some (.tup [.i (.sl 1 (rows64 (depthsS l).1) false), .i (.v (.int .i64 (depthsS l).2))], L) := by
  have hC := fun H => ik25 l hl H
  unfold depthsS
  by_cases h0 : checkI l = 0
  rotate_left
  · rw [if_neg h0]
    generalize checkI l = q at *
    simp only
    have hz : rows64 [] = [] := rfl
    rw [hz]
    rw [callT_eq Tryd.func13 rfl fok13 (by simp [Tryd.ntmps13])]
    simp (disch := first | omega | (simp only [List.length_append, List.length_map, List.length_set, List.length_cons, List.length_nil, List.length_take, List.length_drop]; omega)) only [va0, va1, va2, va3, va4, va5, va6, va7, va8, va9, va10, va11, va12, va13, va14, va15, vb0, vb1, vb2, vb3, w_i8, w_u8, w_i16, w_u16, w_i32, w_u32, w_i64, w_u64, lt_T, lt_F, le_T, le_F, nlt_T, nlt_F, nle_T, nle_F, List.take_of_length_le, gB, gcW, gcR, posIn, renA, renL, Chunk.ren, Chunk.refs, evOpD, touchD, stepC, isFresh, nFresh, freshOf, mkR, hole, evL, evH, opd, get, putD, ofVal, cellOf, loadE, behind, lenE, idxAddrE, idxE, addPtr, intE, strE, unE, convE, AV.int, AV.bool, AV.str, ivs, take, frameOf, firstRegion, refsA, refsL, one, cellsA, floatOk, apartT, List.map, if_true, if_false, E_P, E_glob0, E_glob1, reduceCtorEq, beq_self_eq_true, decide_true, decide_false, ↓reduceIte, Nat.reduceEqDiff, cond_true, cond_false, or_true, true_or, or_false, false_or, and_true, true_and, and_self, false_and, and_false, not_true, not_false_iff, Nat.reduceAdd, Nat.reduceSub, Nat.reduceMul, Nat.reduceLT, Nat.reduceLeDiff, Int.reduceToNat, Int.reduceLT, Int.reduceLE, Option.getD, Int.reduceMul, Int.reduceAdd, List.drop, List.take, Nat.reduceBEq, List.isEmpty, Int.reduceEq, Int.reduceNe, Int.reduceNeg, Int.reduceGT, Int.reduceGE, beq_true, beq_false, UInt8.reduceToNat, eqE, eq_self, foldE, maxE, minE, eq_T, eq_F, ndec, odec, adec, sdec, fillA, over, chop, List.replicate, leavesOk, leafOk, cellsEq, cellEq, E_ext, E_byref, en13, bs22, bs24, hC, h0]
    exact ⟨_, rfl⟩
  · rw [if_pos h0]
    rw [h0] at hC
    have h5 := check_len h0
    obtain ⟨fr0, e0, f0, f5⟩ := l13_0 l h5 0 (Nat.zero_le _)
    have e0' : rl E 0 13 (loopAt Tryd.f13 0) [(0, .i (.sl 2 (rowsI l) false)), (5, .ref 0 0 0 0), (6, .i (.v (.int .i64 0)))] [.sl 1 0 [] false] = _ := e0
    have hs : (List.replicate (l.length + 1) (-1 : Int)).set 0 0 = 0 :: List.replicate l.length (-1) := by rw [List.replicate_succ]; rfl
    have hrow : (rows64 (List.replicate (l.length + 1) (-1)))[0]? = some [.v (.int .i64 (-1))] := by rw [List.replicate_succ]; rfl
    obtain ⟨fr1, ex1, H1, e1, hh⟩ := l13_1 l h5 (l.length + 1) rfl (check_ok h0) 0 (Nat.zero_le _) (0 :: List.replicate l.length (-1)) (by simp) (fun x hx => by
      rcases List.mem_cons.1 hx with rfl | hx
      · omega
      · have := List.eq_of_mem_replicate hx; omega)
    rw [List.drop_zero] at hh
    have e1' : rl E 0 13 (loopAt Tryd.f13 1) [(0, .i (.sl 2 (rowsI l) false)), (5, .ref 0 0 0 (l.length + 1)), (7, .i (.v (.int .i64 0)))] [.sl 1 0 (rows64 (0 :: List.replicate l.length (-1))) false] = _ := e1
    rw [← hs] at e1'
    have hol : (List.replicate (l.length + 1) (-1 : Int)).length = l.length + 1 := List.length_replicate
    clear e0 e1
    generalize List.replicate (l.length + 1) (-1 : Int) = o1 at *
    cases hd : dRun l.length 0 l (0 :: List.replicate l.length (-1)) with
    | none =>
      rw [hd] at hh
      obtain ⟨rfl, g2, g3⟩ := hh
      simp only
      have hz : rows64 [] = [] := rfl
      rw [hz]
      clear hs
      rw [callT_eq Tryd.func13 rfl fok13 (by simp [Tryd.ntmps13])]
      simp (disch := first | omega | (simp only [List.length_append, List.length_map, List.length_set, List.length_cons, List.length_nil, List.length_take, List.length_drop, rowsI_len, rows64_len]; omega)) only [va0, va1, va2, va3, va4, va5, va6, va7, va8, va9, va10, va11, va12, va13, va14, va15, vb0, vb1, vb2, vb3, w_i8, w_u8, w_i16, w_u16, w_i32, w_u32, w_i64, w_u64, lt_T, lt_F, le_T, le_F, nlt_T, nlt_F, nle_T, nle_F, List.take_of_length_le, gB, gcW, gcR, posIn, renA, renL, Chunk.ren, Chunk.refs, evOpD, touchD, stepC, isFresh, nFresh, freshOf, mkR, hole, evL, evH, opd, get, putD, ofVal, cellOf, loadE, behind, lenE, idxAddrE, idxE, addPtr, intE, strE, unE, convE, AV.int, AV.bool, AV.str, ivs, take, frameOf, firstRegion, refsA, refsL, one, cellsA, floatOk, apartT, List.map, if_true, if_false, E_P, E_glob0, E_glob1, reduceCtorEq, beq_self_eq_true, decide_true, decide_false, ↓reduceIte, Nat.reduceEqDiff, cond_true, cond_false, or_true, true_or, or_false, false_or, and_true, true_and, and_self, false_and, and_false, not_true, not_false_iff, Nat.reduceAdd, Nat.reduceSub, Nat.reduceMul, Nat.reduceLT, Nat.reduceLeDiff, Int.reduceToNat, Int.reduceLT, Int.reduceLE, Option.getD, Int.reduceMul, Int.reduceAdd, List.drop, List.take, Nat.reduceBEq, List.isEmpty, Int.reduceEq, Int.reduceNe, Int.reduceNeg, Int.reduceGT, Int.reduceGE, beq_true, beq_false, UInt8.reduceToNat, eqE, eq_self, foldE, maxE, minE, eq_T, eq_F, ndec, odec, adec, sdec, fillA, over, chop, List.replicate, leavesOk, leafOk, cellsEq, cellEq, E_ext, E_byref, en13, bs22, bs24, hC, rowsI_len, rows64_len, rows64_set, hrow, e0', f0, f5, e1', g2, g3, show ∀ B fr H, execT E B 13 (Code.loop _) fr H = rlM E B 13 (loopAt Tryd.f13 0) [0, 5, 6] [] (matF [(5, 1)] fr H).1 (matB [] (matF [(5, 1)] fr H).1 (matF [(5, 1)] fr H).2) from fun B fr H => rl_introM rfl mt13_6 mb13_6 zf13_6 hd13_6 fr H, show ∀ B fr H, execT E B 13 (Code.loop _) fr H = rlM E B 13 (loopAt Tryd.f13 1) [0, 5, 7] [] (matF [(5, 1)] fr H).1 (matB [] (matF [(5, 1)] fr H).1 (matF [(5, 1)] fr H).2) from fun B fr H => rl_introM rfl mt13_11 mb13_11 zf13_11 hd13_11 fr H]
      exact ⟨_, rfl⟩
    | some out =>
      rw [hd] at hh
      obtain ⟨rfl, ho, rfl, g0, g5⟩ := hh
      simp only
      clear hs
      rw [callT_eq Tryd.func13 rfl fok13 (by simp [Tryd.ntmps13])]
      simp (disch := first | omega | (simp only [List.length_append, List.length_map, List.length_set, List.length_cons, List.length_nil, List.length_take, List.length_drop, rowsI_len, rows64_len]; omega)) only [va0, va1, va2, va3, va4, va5, va6, va7, va8, va9, va10, va11, va12, va13, va14, va15, vb0, vb1, vb2, vb3, w_i8, w_u8, w_i16, w_u16, w_i32, w_u32, w_i64, w_u64, lt_T, lt_F, le_T, le_F, nlt_T, nlt_F, nle_T, nle_F, List.take_of_length_le, gB, gcW, gcR, posIn, renA, renL, Chunk.ren, Chunk.refs, evOpD, touchD, stepC, isFresh, nFresh, freshOf, mkR, hole, evL, evH, opd, get, putD, ofVal, cellOf, loadE, behind, lenE, idxAddrE, idxE, addPtr, intE, strE, unE, convE, AV.int, AV.bool, AV.str, ivs, take, frameOf, firstRegion, refsA, refsL, one, cellsA, floatOk, apartT, List.map, if_true, if_false, E_P, E_glob0, E_glob1, reduceCtorEq, beq_self_eq_true, decide_true, decide_false, ↓reduceIte, Nat.reduceEqDiff, cond_true, cond_false, or_true, true_or, or_false, false_or, and_true, true_and, and_self, false_and, and_false, not_true, not_false_iff, Nat.reduceAdd, Nat.reduceSub, Nat.reduceMul, Nat.reduceLT, Nat.reduceLeDiff, Int.reduceToNat, Int.reduceLT, Int.reduceLE, Option.getD, Int.reduceMul, Int.reduceAdd, List.drop, List.take, Nat.reduceBEq, List.isEmpty, Int.reduceEq, Int.reduceNe, Int.reduceNeg, Int.reduceGT, Int.reduceGE, beq_true, beq_false, UInt8.reduceToNat, eqE, eq_self, foldE, maxE, minE, eq_T, eq_F, ndec, odec, adec, sdec, fillA, over, chop, List.replicate, leavesOk, leafOk, cellsEq, cellEq, E_ext, E_byref, en13, bs22, bs24, hC, rowsI_len, rows64_len, rows64_set, rows64_take, List.take_take, hrow, e0', f0, f5, e1', g0, g5, show ∀ B fr H, execT E B 13 (Code.loop _) fr H = rlM E B 13 (loopAt Tryd.f13 0) [0, 5, 6] [] (matF [(5, 1)] fr H).1 (matB [] (matF [(5, 1)] fr H).1 (matF [(5, 1)] fr H).2) from fun B fr H => rl_introM rfl mt13_6 mb13_6 zf13_6 hd13_6 fr H, show ∀ B fr H, execT E B 13 (Code.loop _) fr H = rlM E B 13 (loopAt Tryd.f13 1) [0, 5, 7] [] (matF [(5, 1)] fr H).1 (matB [] (matF [(5, 1)] fr H).1 (matF [(5, 1)] fr H).2) from fun B fr H => rl_introM rfl mt13_11 mb13_11 zf13_11 hd13_11 fr H]
      exact ⟨_, rfl⟩
theorem ik13 (l : List Ins) (hl : (l.length : Int) < 9223372036854775808) (H : Hp) : isoK E (callT E) 13 [.i (.sl 2 (rowsI l) false)] H = some (.tup [.i (.sl 1 (rows64 (depthsS l).1) false), .i (.v (.int .i64 (depthsS l).2))], H) := isoK_val rfl rfl rfl (c13 l hl)
end Go.VI

namespace Go.VI
open Go.Proofs
set_option maxRecDepth 100000
set_option linter.unusedSimpArgs false
set_option linter.unusedVariables false
set_option maxHeartbeats 4000000
theorem l14 (l : List Int) (hl : l.length < 100000) (k : Nat) (hk : k ≤ l.length) :
    ∃ fr, rl E 0 14 (loopAt Tryd.f14 0) [(0, .i (.sl 1 (rows64 l) false)), (1, .i (.sl 1 (rows64 l) false)), (5, .i (.v (.int .i64 k)))] [] = some (.exit 0, fr, []) := by
  rw [rl_step (fn := Tryd.f14) (k := 0) rfl]
  by_cases hlt : k < l.length
  · have hrow := rows64_at hlt
    obtain ⟨fr, e⟩ := l14 l hl (k + 1) hlt
    refine ⟨fr, Eq.trans ?_ e⟩
    clear e
    generalize l[k] = x at *
    simp (disch := first | omega | (simp only [List.length_append, List.length_map, List.length_set, List.length_cons, List.length_nil, List.length_take, List.length_drop, rows64_len]; omega)) only [va0, va1, va2, va3, va4, va5, va6, va7, va8, va9, va10, va11, va12, va13, va14, va15, vb0, vb1, vb2, vb3, w_i8, w_u8, w_i16, w_u16, w_i32, w_u32, w_i64, w_u64, lt_T, lt_F, le_T, le_F, nlt_T, nlt_F, nle_T, nle_F, List.take_of_length_le, gB, gcW, gcR, posIn, renA, renL, Chunk.ren, Chunk.refs, evOpD, touchD, stepC, isFresh, nFresh, freshOf, mkR, hole, evL, evH, opd, get, putD, ofVal, cellOf, loadE, behind, lenE, idxAddrE, idxE, addPtr, intE, strE, unE, convE, AV.int, AV.bool, AV.str, ivs, take, frameOf, firstRegion, refsA, refsL, one, cellsA, floatOk, apartT, List.map, if_true, if_false, E_P, E_glob0, E_glob1, reduceCtorEq, beq_self_eq_true, decide_true, decide_false, ↓reduceIte, Nat.reduceEqDiff, cond_true, cond_false, or_true, true_or, or_false, false_or, and_true, true_and, and_self, false_and, and_false, not_true, not_false_iff, Nat.reduceAdd, Nat.reduceSub, Nat.reduceMul, Nat.reduceLT, Nat.reduceLeDiff, Int.reduceToNat, Int.reduceLT, Int.reduceLE, Option.getD, Int.reduceMul, Int.reduceAdd, List.drop, List.take, Nat.reduceBEq, List.isEmpty, Int.reduceEq, Int.reduceNe, Int.reduceNeg, Int.reduceGT, Int.reduceGE, beq_true, beq_false, UInt8.reduceToNat, eqE, eq_self, foldE, maxE, minE, eq_T, eq_F, ndec, odec, adec, sdec, fillA, over, chop, List.replicate, leavesOk, leafOk, cellsEq, cellEq, E_ext, E_byref, en14, bs24, hrow, rows64_len, show ∀ B fr H, execT E B 14 (Code.loop _) fr H = rlG E B 14 (loopAt Tryd.f14 0) (gcn B (norm [0, 1, 5] fr) H) from fun B fr H => rl_intro rfl mt14_4 mb14_4 zf14_4 hd14_4 fr H]
  · obtain rfl : k = l.length := by omega
    simp (disch := first | omega | (simp only [List.length_append, List.length_map, List.length_set, List.length_cons, List.length_nil, List.length_take, List.length_drop, rows64_len]; omega)) only [va0, va1, va2, va3, va4, va5, va6, va7, va8, va9, va10, va11, va12, va13, va14, va15, vb0, vb1, vb2, vb3, w_i8, w_u8, w_i16, w_u16, w_i32, w_u32, w_i64, w_u64, lt_T, lt_F, le_T, le_F, nlt_T, nlt_F, nle_T, nle_F, List.take_of_length_le, gB, gcW, gcR, posIn, renA, renL, Chunk.ren, Chunk.refs, evOpD, touchD, stepC, isFresh, nFresh, freshOf, mkR, hole, evL, evH, opd, get, putD, ofVal, cellOf, loadE, behind, lenE, idxAddrE, idxE, addPtr, intE, strE, unE, convE, AV.int, AV.bool, AV.str, ivs, take, frameOf, firstRegion, refsA, refsL, one, cellsA, floatOk, apartT, List.map, if_true, if_false, E_P, E_glob0, E_glob1, reduceCtorEq, beq_self_eq_true, decide_true, decide_false, ↓reduceIte, Nat.reduceEqDiff, cond_true, cond_false, or_true, true_or, or_false, false_or, and_true, true_and, and_self, false_and, and_false, not_true, not_false_iff, Nat.reduceAdd, Nat.reduceSub, Nat.reduceMul, Nat.reduceLT, Nat.reduceLeDiff, Int.reduceToNat, Int.reduceLT, Int.reduceLE, Option.getD, Int.reduceMul, Int.reduceAdd, List.drop, List.take, Nat.reduceBEq, List.isEmpty, Int.reduceEq, Int.reduceNe, Int.reduceNeg, Int.reduceGT, Int.reduceGE, beq_true, beq_false, UInt8.reduceToNat, eqE, eq_self, foldE, maxE, minE, eq_T, eq_F, ndec, odec, adec, sdec, fillA, over, chop, List.replicate, leavesOk, leafOk, cellsEq, cellEq, E_ext, E_byref, en14, bs24, rows64_len, show ∀ B fr H, execT E B 14 (Code.loop _) fr H = rlG E B 14 (loopAt Tryd.f14 0) (gcn B (norm [0, 1, 5] fr) H) from fun B fr H => rl_intro rfl mt14_4 mb14_4 zf14_4 hd14_4 fr H]
    exact ⟨_, rfl⟩
termination_by l.length - k
theorem c14 (l : List Int) (hl : (l.length : Int) < 100000) : ∃ L, callT E 14 [.i (.sl 1 (rows64 l) false), .i (.sl 1 (rows64 l) false)] [] = some (.i (.v (.bool true)), L) := by
  obtain ⟨fr, e⟩ := l14 l (by omega) 0 (Nat.zero_le _)
  have e' : rl E 0 14 (loopAt Tryd.f14 0) [(0, .i (.sl 1 (rows64 l) false)), (1, .i (.sl 1 (rows64 l) false)), (5, .i (.v (.int .i64 0)))] [] = _ := e
  rw [callT_eq Tryd.func14 rfl fok14 (by simp [Tryd.ntmps14])]
  simp (disch := first | omega | (simp only [List.length_append, List.length_map, List.length_set, List.length_cons, List.length_nil, List.length_take, List.length_drop, rows64_len]; omega)) only [va0, va1, va2, va3, va4, va5, va6, va7, va8, va9, va10, va11, va12, va13, va14, va15, vb0, vb1, vb2, vb3, w_i8, w_u8, w_i16, w_u16, w_i32, w_u32, w_i64, w_u64, lt_T, lt_F, le_T, le_F, nlt_T, nlt_F, nle_T, nle_F, List.take_of_length_le, gB, gcW, gcR, posIn, renA, renL, Chunk.ren, Chunk.refs, evOpD, touchD, stepC, isFresh, nFresh, freshOf, mkR, hole, evL, evH, opd, get, putD, ofVal, cellOf, loadE, behind, lenE, idxAddrE, idxE, addPtr, intE, strE, unE, convE, AV.int, AV.bool, AV.str, ivs, take, frameOf, firstRegion, refsA, refsL, one, cellsA, floatOk, apartT, List.map, if_true, if_false, E_P, E_glob0, E_glob1, reduceCtorEq, beq_self_eq_true, decide_true, decide_false, ↓reduceIte, Nat.reduceEqDiff, cond_true, cond_false, or_true, true_or, or_false, false_or, and_true, true_and, and_self, false_and, and_false, not_true, not_false_iff, Nat.reduceAdd, Nat.reduceSub, Nat.reduceMul, Nat.reduceLT, Nat.reduceLeDiff, Int.reduceToNat, Int.reduceLT, Int.reduceLE, Option.getD, Int.reduceMul, Int.reduceAdd, List.drop, List.take, Nat.reduceBEq, List.isEmpty, Int.reduceEq, Int.reduceNe, Int.reduceNeg, Int.reduceGT, Int.reduceGE, beq_true, beq_false, UInt8.reduceToNat, eqE, eq_self, foldE, maxE, minE, eq_T, eq_F, ndec, odec, adec, sdec, fillA, over, chop, List.replicate, leavesOk, leafOk, cellsEq, cellEq, E_ext, E_byref, en14, bs24, e', rows64_len, show ∀ B fr H, execT E B 14 (Code.loop _) fr H = rlG E B 14 (loopAt Tryd.f14 0) (gcn B (norm [0, 1, 5] fr) H) from fun B fr H => rl_intro rfl mt14_4 mb14_4 zf14_4 hd14_4 fr H]
  exact ⟨_, rfl⟩
theorem ik14 (l : List Int) (hl : (l.length : Int) < 100000) (H : Hp) : isoK E (callT E) 14 [.i (.sl 1 (rows64 l) false), .i (.sl 1 (rows64 l) false)] H = some (.i (.v (.bool true)), H) := isoK_val rfl rfl rfl (c14 l hl)
theorem ran_true {f n : Nat} (h : (match call E n f [] [] with | some (.i (.v (.bool true)), _) => true | _ => false) = true) : ∃ L, callT E f [] [] = some (.i (.v (.bool true)), L) := by
  split at h
  · rename_i L hL; exact ⟨L, callT_of hL⟩
  · cases h
theorem ik11 (H : Hp) : isoK E (callT E) 11 [] H = some (.i (.v (.bool true)), H) := isoK_val rfl rfl rfl (ran_true (n := 200) (by kernel_rfl))
theorem depths_len (l : List Ins) : (depthsS l).1.length ≤ 500 := by
  unfold depthsS
  split
  · rename_i h
    have := check_len h
    split
    · simp only [List.length_take]; omega
    · simp
  · simp
theorem law3 (l : List Ins) (hl : l.length ≤ 9223372036854775807) : ∃ L, callT E 3 [.i (.sl 2 (rowsI l) false)] [] = some (.i (.v (.bool true)), L) := by
  by_cases h6 : 600 < (l.length : Int)
  · rw [callT_eq Tryd.func3 rfl fok3 (by simp [Tryd.ntmps3])]
    simp (disch := first | omega | (simp only [List.length_append, List.length_map, List.length_set, List.length_cons, List.length_nil, List.length_take, List.length_drop, rowsI_len]; omega)) only [va0, va1, va2, va3, va4, va5, va6, va7, va8, va9, va10, va11, va12, va13, va14, va15, vb0, vb1, vb2, vb3, w_i8, w_u8, w_i16, w_u16, w_i32, w_u32, w_i64, w_u64, lt_T, lt_F, le_T, le_F, nlt_T, nlt_F, nle_T, nle_F, List.take_of_length_le, gB, gcW, gcR, posIn, renA, renL, Chunk.ren, Chunk.refs, evOpD, touchD, stepC, isFresh, nFresh, freshOf, mkR, hole, evL, evH, opd, get, putD, ofVal, cellOf, loadE, behind, lenE, idxAddrE, idxE, addPtr, intE, strE, unE, convE, AV.int, AV.bool, AV.str, ivs, take, frameOf, firstRegion, refsA, refsL, one, cellsA, floatOk, apartT, List.map, if_true, if_false, E_P, E_glob0, E_glob1, reduceCtorEq, beq_self_eq_true, decide_true, decide_false, ↓reduceIte, Nat.reduceEqDiff, cond_true, cond_false, or_true, true_or, or_false, false_or, and_true, true_and, and_self, false_and, and_false, not_true, not_false_iff, Nat.reduceAdd, Nat.reduceSub, Nat.reduceMul, Nat.reduceLT, Nat.reduceLeDiff, Int.reduceToNat, Int.reduceLT, Int.reduceLE, Option.getD, Int.reduceMul, Int.reduceAdd, List.drop, List.take, Nat.reduceBEq, List.isEmpty, Int.reduceEq, Int.reduceNe, Int.reduceNeg, Int.reduceGT, Int.reduceGE, beq_true, beq_false, UInt8.reduceToNat, eqE, eq_self, foldE, maxE, minE, eq_T, eq_F, ndec, odec, adec, sdec, fillA, over, chop, List.replicate, leavesOk, leafOk, cellsEq, cellEq, E_ext, E_byref, en3, bs22, bs24, rowsI_len, h6, ik11]
    exact ⟨_, rfl⟩
  · have h1 := fun H => ik12 l (by omega) H
    have h2 := fun H => ik13 l (by omega) H
    have h3 := fun H => ik15 l (by omega) H
    have hdl := depths_len l
    generalize depthsS l = q at *
    obtain ⟨ds, e⟩ := q
    simp only at h1 h2 h3 hdl
    have h4 := fun H => ik14 ds (by omega) H
    rw [callT_eq Tryd.func3 rfl fok3 (by simp [Tryd.ntmps3])]
    simp (disch := first | omega | (simp only [List.length_append, List.length_map, List.length_set, List.length_cons, List.length_nil, List.length_take, List.length_drop, rowsI_len]; omega)) only [va0, va1, va2, va3, va4, va5, va6, va7, va8, va9, va10, va11, va12, va13, va14, va15, vb0, vb1, vb2, vb3, w_i8, w_u8, w_i16, w_u16, w_i32, w_u32, w_i64, w_u64, lt_T, lt_F, le_T, le_F, nlt_T, nlt_F, nle_T, nle_F, List.take_of_length_le, gB, gcW, gcR, posIn, renA, renL, Chunk.ren, Chunk.refs, evOpD, touchD, stepC, isFresh, nFresh, freshOf, mkR, hole, evL, evH, opd, get, putD, ofVal, cellOf, loadE, behind, lenE, idxAddrE, idxE, addPtr, intE, strE, unE, convE, AV.int, AV.bool, AV.str, ivs, take, frameOf, firstRegion, refsA, refsL, one, cellsA, floatOk, apartT, List.map, if_true, if_false, E_P, E_glob0, E_glob1, reduceCtorEq, beq_self_eq_true, decide_true, decide_false, ↓reduceIte, Nat.reduceEqDiff, cond_true, cond_false, or_true, true_or, or_false, false_or, and_true, true_and, and_self, false_and, and_false, not_true, not_false_iff, Nat.reduceAdd, Nat.reduceSub, Nat.reduceMul, Nat.reduceLT, Nat.reduceLeDiff, Int.reduceToNat, Int.reduceLT, Int.reduceLE, Option.getD, Int.reduceMul, Int.reduceAdd, List.drop, List.take, Nat.reduceBEq, List.isEmpty, Int.reduceEq, Int.reduceNe, Int.reduceNeg, Int.reduceGT, Int.reduceGE, beq_true, beq_false, UInt8.reduceToNat, eqE, eq_self, foldE, maxE, minE, eq_T, eq_F, ndec, odec, adec, sdec, fillA, over, chop, List.replicate, leavesOk, leafOk, cellsEq, cellEq, E_ext, E_byref, en3, bs22, bs24, rowsI_len, h6, h1, h2, h3, h4, ik11]
    exact ⟨_, rfl⟩
theorem c3 (l : List Ins) (hl : l.length ≤ 9223372036854775807) : ∃ L, callT E 3 [.i (.sl 2 (l.map fun a => insC a) false)] [] = some (.i (.v (.bool true)), L) := law3 l hl
end Go.VI

namespace Go.VI
open Go.Proofs
set_option maxRecDepth 100000
set_option linter.unusedSimpArgs false
set_option linter.unusedVariables false
set_option maxHeartbeats 4000000
theorem getD_set_int (l : List Int) (i j : Nat) (x : Int) : (l.set i x).getD j 0 = if i = j ∧ i < l.length then x else l.getD j 0 := by
  simp only [List.getD_eq_getElem?_getD, List.getElem?_set]
  by_cases h : i = j
  · subst h
    by_cases hl : i < l.length
    · simp [hl]
    · simp [hl]
  · simp [h]
theorem getD_mem_b {l : List Int} {P : Int → Prop} (h0 : P 0) (h : ∀ x ∈ l, P x) (j : Nat) : P (l.getD j 0) := by
  rw [List.getD_eq_getElem?_getD]
  cases hh : l[j]? with
  | none => exact h0
  | some x => exact h x (List.mem_of_getElem? hh)
end Go.VI

namespace Go.VI
open Go.Proofs
set_option maxRecDepth 100000
set_option linter.unusedSimpArgs false
set_option linter.unusedVariables false
set_option maxHeartbeats 4000000
def walkF (l : List Ins) : Nat → Nat → Int → List Int
  | 0, _, _ => []
  | f + 1, i, q => if i < l.length then (i : Int) :: (if (l.getD i (0, 0)).1 = 0 then [] else if (l.getD i (0, 0)).1 = 17 then walkF l f (l.getD i (0, 0)).2.toNat q else if (l.getD i (0, 0)).1 = 18 then walkF l f (if q % 2 = 1 then (l.getD i (0, 0)).2.toNat else i + 1) (q / 2) else walkF l f (i + 1) q) else []
end Go.VI

namespace Go.VI
open Go.Proofs
set_option maxRecDepth 100000
set_option linter.unusedSimpArgs false
set_option linter.unusedVariables false
set_option maxHeartbeats 4000000
theorem dSet_keep {n after : Int} : ∀ (ks out out' : List Int), dSet n after ks out = some out' → (∀ x ∈ ks, 0 ≤ x) → ∀ j : Nat, (j : Int) < n → 0 ≤ out.getD j 0 → j < out.length → out'.getD j 0 = out.getD j 0
  | [], out, out', h, hk, j, hj, h0, hl => by simp only [dSet, Option.some.injEq] at h; rw [h]
  | k :: ks, out, out', h, hk, j, hj, h0, hl => by
    simp only [dSet] at h
    split at h
    · cases h
    · rename_i hc
      have hk0 := hk k (.head _)
      have hs : (out.set k.toNat after).getD j 0 = out.getD j 0 := by
        rw [getD_set_int]
        split
        · rename_i he
          obtain ⟨rfl, _⟩ := he
          by_cases hx : out.getD k.toNat 0 = after
          · exact hx.symm
          · exact absurd ⟨by omega, h0, hx⟩ hc
        · rfl
      rw [dSet_keep ks _ out' h (fun x hx => hk x (.tail _ hx)) j hj (by rw [hs]; exact h0) (by rw [List.length_set]; exact hl), hs]
theorem dSet_new {n after : Int} : ∀ (ks out out' : List Int), dSet n after ks out = some out' → (∀ x ∈ ks, 0 ≤ x) → ∀ j : Nat, (j : Int) ∉ ks → out'.getD j 0 = out.getD j 0
  | [], out, out', h, hk, j, hm => by simp only [dSet, Option.some.injEq] at h; rw [h]
  | k :: ks, out, out', h, hk, j, hm => by
    simp only [dSet] at h
    split at h
    · cases h
    · rename_i hc
      have hk0 := hk k (.head _)
      rw [dSet_new ks _ out' h (fun x hx => hk x (.tail _ hx)) j (fun hx => hm (.tail _ hx)), getD_set_int, if_neg]
      intro he
      exact hm (by rw [← he.1]; have : ((k.toNat : Nat) : Int) = k := by omega
                   rw [this]; exact .head _)
structure Good (l : List Ins) : Prop where
  ok : ∀ (j : Nat) (h : j < l.length), chk1 l.length j l[j] = 0
theorem good_of {l : List Ins} (h : checkI l = 0) : Good l := ⟨check_ok h⟩
theorem good_getD {l : List Ins} {j : Nat} (h : j < l.length) : l.getD j (0, 0) = l[j] := by rw [List.getD_eq_getElem?_getD, List.getElem?_eq_getElem h]; rfl
theorem good_suc {l : List Ins} (g : Good l) {j : Nat} (h : j < l.length) : (0 ≤ (l.getD j (0, 0)).1 ∧ (l.getD j (0, 0)).1 ≤ 20) ∧ ∀ x ∈ sucL (l.getD j (0, 0)).1 (l.getD j (0, 0)).2 j, (j : Int) < x ∧ x ≤ l.length := by
  rw [good_getD h]; exact sucL_in h (g.ok j h)
theorem dStep_keep {l : List Ins} (g : Good l) {k : Nat} (hk : k < l.length) {out out' : List Int} (h : dStep l.length k (l.getD k (0, 0)) out = some out') : ∀ j : Nat, j < l.length → 0 ≤ out.getD j 0 → j < out.length → out'.getD j 0 = out.getD j 0 := fun j hj h0 hl => by
  unfold dStep at h
  split at h
  · injection h with h; rw [h]
  split at h
  · cases h
  · exact dSet_keep _ _ _ h (fun x hx => by have := (good_suc g hk).2 x hx; omega) j (by omega) h0 hl
theorem dStep_len {n i : Nat} {p : Ins} {out out' : List Int} (h : dStep n i p out = some out') : out'.length = out.length := by
  unfold dStep at h
  split at h
  · injection h with h; rw [h]
  split at h
  · cases h
  · exact dSet_len _ _ _ h
theorem dRun_next {l : List Ins} {k : Nat} (hk : k < l.length) {out fin : List Int} (h : dRun l.length k (l.drop k) out = some fin) : ∃ out', dStep l.length k (l.getD k (0, 0)) out = some out' ∧ dRun l.length (k + 1) (l.drop (k + 1)) out' = some fin := by
  rw [List.drop_eq_getElem_cons hk, dRun, ← good_getD hk] at h
  cases hd : dStep l.length k (l.getD k (0, 0)) out with
  | none => rw [hd] at h; cases h
  | some out' => rw [hd] at h; exact ⟨out', rfl, h⟩
theorem dRun_to {l : List Ins} (g : Good l) {fin : List Int} (b : Nat) (hb : b ≤ l.length) (a : Nat) (ha : a ≤ b) (out : List Int) (hl : out.length = l.length + 1) (h : dRun l.length a (l.drop a) out = some fin) :
    ∃ out', dRun l.length b (l.drop b) out' = some fin ∧ out'.length = l.length + 1 ∧ ∀ j : Nat, j < l.length → 0 ≤ out.getD j 0 → out'.getD j 0 = out.getD j 0 := by
  by_cases hlt : a < b
  · obtain ⟨o1, h1, h2⟩ := dRun_next (by omega) h
    obtain ⟨o2, g1, g2, g3⟩ := dRun_to g b hb (a + 1) hlt o1 (by rw [dStep_len h1]; exact hl) h2
    refine ⟨o2, g1, g2, fun j hj h0 => ?_⟩
    have h3 := dStep_keep g (by omega) h1 j hj h0 (by omega)
    rw [g3 j hj (by rw [h3]; exact h0), h3]
  · obtain rfl : a = b := by omega
    exact ⟨out, h, hl, fun _ _ _ => rfl⟩
termination_by b - a
theorem dRun_fin {l : List Ins} (g : Good l) {fin : List Int} (a : Nat) (ha : a ≤ l.length) (out : List Int) (hl : out.length = l.length + 1) (h : dRun l.length a (l.drop a) out = some fin) : fin.length = l.length + 1 ∧ ∀ j : Nat, j < l.length → 0 ≤ out.getD j 0 → fin.getD j 0 = out.getD j 0 := by
  obtain ⟨o, g1, g2, g3⟩ := dRun_to g l.length (Nat.le_refl _) a ha out hl h
  rw [List.drop_length, dRun, Option.some.injEq] at g1
  subst g1
  exact ⟨g2, g3⟩
end Go.VI

namespace Go.VI
open Go.Proofs
set_option maxRecDepth 100000
set_option linter.unusedSimpArgs false
set_option linter.unusedVariables false
set_option maxHeartbeats 4000000
theorem getD_take (l : List Int) (n j : Nat) (h : j < n) : (l.take n).getD j 0 = l.getD j 0 := by
  rw [List.getD_eq_getElem?_getD, List.getD_eq_getElem?_getD, List.getElem?_take, if_pos h]
theorem depths_ok {l : List Ins} (h : (depthsS l).2 = 0) : ∃ fin, checkI l = 0 ∧ dRun l.length 0 l (0 :: List.replicate l.length (-1)) = some fin ∧ (depthsS l).1 = fin.take l.length ∧ fin.length = l.length + 1 := by
  unfold depthsS at h ⊢
  by_cases h0 : checkI l = 0
  · rw [if_pos h0] at h ⊢
    cases hd : dRun l.length 0 l (0 :: List.replicate l.length (-1)) with
    | none => rw [hd] at h; cases h
    | some fin =>
      refine ⟨fin, h0, rfl, rfl, ?_⟩
      exact (dRun_fin (good_of h0) 0 (Nat.zero_le _) (0 :: List.replicate l.length (-1)) (by simp) (by rw [List.drop_zero]; exact hd)).1
  · rw [if_neg h0] at h
    exact absurd h h0
structure Most (l : List Ins) (k : Nat) (out : List Int) : Prop where
  len : out.length = l.length + 1
  low : ∀ j : Nat, j < k → out.getD j 0 = 0
  end_ : 0 ≤ out.getD l.length 0
  ge : ∀ j : Nat, k ≤ j → j ≤ l.length → ∀ f q, ((walkF l f j q).length : Int) ≤ out.getD j 0
end Go.VI

namespace Go.VI
open Go.Proofs
set_option maxRecDepth 100000
set_option linter.unusedSimpArgs false
set_option linter.unusedVariables false
set_option maxHeartbeats 4000000
def jz : List Ins → Nat
  | [] => 0
  | p :: r => (if p.1 = 18 then 1 else 0) + jz r
def two (n : Nat) : Int := ((2 ^ n : Nat) : Int)
structure Hit (l : List Ins) (k : Nat) (out : List Int) : Prop where
  len : out.length = l.length + 1
  low : ∀ j : Nat, j < k → out.getD j 0 = 0
  at_ : ∀ j : Nat, k ≤ j → j ≤ l.length → ∃ q, 0 ≤ q ∧ q < two (jz (l.drop j)) ∧ ∀ f, l.length + 1 ≤ j + f → ((walkF l f j q).length : Int) = out.getD j 0
end Go.VI

namespace Go.VI
open Go.Proofs
set_option maxRecDepth 100000
set_option linter.unusedSimpArgs false
set_option linter.unusedVariables false
set_option maxHeartbeats 4000000
theorem getD_set_bool (l : List Bool) (i j : Nat) (x : Bool) : (l.set i x).getD j false = if i = j ∧ i < l.length then x else l.getD j false := by
  simp only [List.getD_eq_getElem?_getD, List.getElem?_set]
  by_cases h : i = j
  · subst h
    by_cases hl : i < l.length
    · simp [hl]
    · simp [hl]
  · simp [h]
end Go.VI

namespace Go.VI
open Go.Proofs
set_option maxRecDepth 100000
set_option linter.unusedSimpArgs false
set_option linter.unusedVariables false
set_option maxHeartbeats 4000000
def rowsT (l : List Bool) : List (List IV) := l.map fun b => [.v (.bool b)]
theorem rowsT_len (l : List Bool) : (rowsT l).length = l.length := by simp [rowsT]
theorem rowsT_get {l : List Bool} {k : Nat} (h : k < l.length) : (rowsT l)[k]? = some [.v (.bool (l.getD k false))] := by
  rw [List.getD_eq_getElem?_getD, List.getElem?_eq_getElem h]; simp [rowsT, h]
end Go.VI

namespace Go.VI
open Go.Proofs
set_option maxRecDepth 100000
set_option linter.unusedSimpArgs false
set_option linter.unusedVariables false
set_option maxHeartbeats 4000000
def mA (c : Bool) (s : List Bool) : List AV := .i (.v (.bool c)) :: s.map fun b => .i (.v (.bool b))
theorem mA_len (c : Bool) (s : List Bool) : (mA c s).length = s.length + 1 := by simp [mA]
theorem mA_get {c : Bool} {s : List Bool} {k : Nat} (h : k < s.length) : (mA c s)[k + 1]? = some (.i (.v (.bool (s.getD k false)))) := by
  rw [List.getD_eq_getElem?_getD, List.getElem?_eq_getElem h]; simp [mA, h]
theorem mA_set (c : Bool) (s : List Bool) (k : Nat) (x : Bool) : (mA c s).set (k + 1) (.i (.v (.bool x))) = mA c (s.set k x) := by simp [mA, List.map_set]
theorem mA_put {c : Bool} {s : List Bool} {k : Nat} (h : k < s.length) (x : Bool) : List.take (1 + k) (mA c s) ++ [.i (.v (.bool x))] ++ List.drop (1 + k + 1) (mA c s) = mA c (s.set k x) := by
  rw [← mA_set, List.set_eq_take_append_cons_drop, if_pos (by rw [mA_len]; omega), Nat.add_comm 1 k]
  simp
theorem mA_cn (B : Nat) (H : Hp) (c : Bool) (s : List Bool) : cnL B H (mA c s) = mA c s := by
  have : ∀ s : List Bool, cnL B H (s.map fun b => .i (.v (.bool b))) = s.map fun b => .i (.v (.bool b)) := fun s => by
    induction s with
    | nil => rfl
    | cons b s ih => rw [List.map_cons, cnL, ih]; rfl
  rw [mA, cnL, this]; rfl
theorem mA_refs (c : Bool) (s : List Bool) : refsL (mA c s) = [] := by
  have : ∀ s : List Bool, refsL (s.map fun b => .i (.v (.bool b))) = [] := fun s => by
    induction s with
    | nil => rfl
    | cons b s ih => rw [List.map_cons, refsL, ih]; rfl
  rw [mA, refsL, this]; rfl
theorem mA_ren (ρ : Nat → Option Nat) (c : Bool) (s : List Bool) : renL ρ (mA c s) = mA c s := by
  have : ∀ s : List Bool, renL ρ (s.map fun b => .i (.v (.bool b))) = s.map fun b => .i (.v (.bool b)) := fun s => by
    induction s with
    | nil => rfl
    | cons b s ih => rw [List.map_cons, renL, ih]; rfl
  rw [mA, renL, this]; rfl
theorem mA_take {c : Bool} {s : List Bool} {n : Nat} (h : s.length + 1 ≤ n) : (mA c s).take n = mA c s := List.take_of_length_le (by rw [mA_len]; exact h)
def mI (c : Bool) (s : List Bool) : List IV := .v (.bool c) :: s.map fun b => .v (.bool b)
theorem mI_len (c : Bool) (s : List Bool) : (mI c s).length = s.length + 1 := by simp [mI]
theorem mI_ivs (c : Bool) (s : List Bool) : ivs (mI c s) = mA c s := by simp [mI, mA, ivs]
theorem mI_map (c : Bool) (s : List Bool) : List.map AV.i (mI c s) = mA c s := mI_ivs c s
theorem mA_frz (H : Hp) (c : Bool) (s : List Bool) : freezeAll H (mA c s) = some (mI c s, H) := by
  have : ∀ s : List Bool, freezeAll H (s.map fun b => .i (.v (.bool b))) = some (s.map fun b => .v (.bool b), H) := fun s => by
    induction s with
    | nil => rfl
    | cons b s ih => rw [List.map_cons, freezeAll, freeze]; simp only; rw [ih]; rfl
  rw [mA, freezeAll, freeze]; simp only; rw [this]; rfl
def clr : Nat → Nat → List Bool → List Bool
  | 0, _, s => s
  | r + 1, k, s => clr r (k + 1) (s.set k false)
theorem l27 (c : Bool) (z : List Bool) : ∀ (r k : Nat) (hk : k + r = 16) (s : List Bool) (hs : s.length = 16),
    ∃ fr, rl E 0 27 (loopAt Tryd.f27 0) [(3, .ptr 0 0 0 0), (6, .ptr 1 0 0 0), (8, .i (.v (.int .i64 k)))] [.box (mA c s), .box (mA false (z))] = some (.exit 1, fr, [.box (mA c (clr r k s)), .box (mA false (z))]) ∧ get 3 fr = .ptr 0 0 0 0 ∧ get 6 fr = .ptr 1 0 0 0
  | 0, k, hk, s, hs => by
    rw [rl_step (fn := Tryd.f27) (k := 0) rfl]
    obtain rfl : k = 16 := by omega
    rw [clr]
    simp (disch := first | omega | (simp only [List.length_append, List.length_map, List.length_set, List.length_cons, List.length_nil, List.length_take, List.length_drop]; omega)) only [va0, va1, va2, va3, va4, va5, va6, va7, va8, va9, va10, va11, va12, va13, va14, va15, vb0, vb1, vb2, vb3, w_i8, w_u8, w_i16, w_u16, w_i32, w_u32, w_i64, w_u64, lt_T, lt_F, le_T, le_F, nlt_T, nlt_F, nle_T, nle_F, List.take_of_length_le, gB, gcW, gcR, posIn, renA, renL, Chunk.ren, Chunk.refs, evOpD, touchD, stepC, isFresh, nFresh, freshOf, mkR, hole, evL, evH, opd, get, putD, ofVal, cellOf, loadE, behind, lenE, idxAddrE, idxE, addPtr, intE, strE, unE, convE, AV.int, AV.bool, AV.str, ivs, take, frameOf, firstRegion, refsA, refsL, one, cellsA, floatOk, apartT, List.map, if_true, if_false, E_P, E_glob0, E_glob1, reduceCtorEq, beq_self_eq_true, decide_true, decide_false, ↓reduceIte, Nat.reduceEqDiff, cond_true, cond_false, or_true, true_or, or_false, false_or, and_true, true_and, and_self, false_and, and_false, not_true, not_false_iff, Nat.reduceAdd, Nat.reduceSub, Nat.reduceMul, Nat.reduceLT, Nat.reduceLeDiff, Int.reduceToNat, Int.reduceLT, Int.reduceLE, Option.getD, Int.reduceMul, Int.reduceAdd, List.drop, List.take, Nat.reduceBEq, List.isEmpty, Int.reduceEq, Int.reduceNe, Int.reduceNeg, Int.reduceGT, Int.reduceGE, beq_true, beq_false, UInt8.reduceToNat, eqE, eq_self, foldE, maxE, minE, eq_T, eq_F, ndec, odec, adec, sdec, fillA, over, chop, List.replicate, leavesOk, leafOk, cellsEq, cellEq, E_ext, E_byref, en27, mA_len, mA_cn, mA_refs, mA_ren, show ∀ B fr H, execT E B 27 (Code.loop _) fr H = rlG E B 27 (loopAt Tryd.f27 0) (gcn B (norm [3, 6, 8] fr) H) from fun B fr H => rl_intro rfl mt27_15 mb27_15 zf27_15 hd27_15 fr H]
    exact ⟨_, rfl, rfl, rfl⟩
  | r + 1, k, hk, s, hs => by
    rw [rl_step (fn := Tryd.f27) (k := 0) rfl]
    rw [clr]
    obtain ⟨fr, e, hh⟩ := l27 c z r (k + 1) (by omega) (s.set k false) (by simpa using hs)
    refine ⟨fr, Eq.trans ?_ e, hh⟩
    clear e hh
    have hg := mA_get (c := c) (s := s) (k := k) (by omega)
    have hp := mA_put (c := c) (s := s) (k := k) (by omega) false
    simp (disch := first | omega | (simp only [List.length_append, List.length_map, List.length_set, List.length_cons, List.length_nil, List.length_take, List.length_drop, mA_len]; omega)) only [va0, va1, va2, va3, va4, va5, va6, va7, va8, va9, va10, va11, va12, va13, va14, va15, vb0, vb1, vb2, vb3, w_i8, w_u8, w_i16, w_u16, w_i32, w_u32, w_i64, w_u64, lt_T, lt_F, le_T, le_F, nlt_T, nlt_F, nle_T, nle_F, List.take_of_length_le, gB, gcW, gcR, posIn, renA, renL, Chunk.ren, Chunk.refs, evOpD, touchD, stepC, isFresh, nFresh, freshOf, mkR, hole, evL, evH, opd, get, putD, ofVal, cellOf, loadE, behind, lenE, idxAddrE, idxE, addPtr, intE, strE, unE, convE, AV.int, AV.bool, AV.str, ivs, take, frameOf, firstRegion, refsA, refsL, one, cellsA, floatOk, apartT, List.map, if_true, if_false, E_P, E_glob0, E_glob1, reduceCtorEq, beq_self_eq_true, decide_true, decide_false, ↓reduceIte, Nat.reduceEqDiff, cond_true, cond_false, or_true, true_or, or_false, false_or, and_true, true_and, and_self, false_and, and_false, not_true, not_false_iff, Nat.reduceAdd, Nat.reduceSub, Nat.reduceMul, Nat.reduceLT, Nat.reduceLeDiff, Int.reduceToNat, Int.reduceLT, Int.reduceLE, Option.getD, Int.reduceMul, Int.reduceAdd, List.drop, List.take, Nat.reduceBEq, List.isEmpty, Int.reduceEq, Int.reduceNe, Int.reduceNeg, Int.reduceGT, Int.reduceGE, beq_true, beq_false, UInt8.reduceToNat, eqE, eq_self, foldE, maxE, minE, eq_T, eq_F, ndec, odec, adec, sdec, fillA, over, chop, List.replicate, leavesOk, leafOk, cellsEq, cellEq, E_ext, E_byref, en27, hg, hp, mA_len, mA_cn, mA_refs, mA_ren, Nat.mul_one, show ∀ B fr H, execT E B 27 (Code.loop _) fr H = rlG E B 27 (loopAt Tryd.f27 0) (gcn B (norm [3, 6, 8] fr) H) from fun B fr H => rl_intro rfl mt27_15 mb27_15 zf27_15 hd27_15 fr H]
end Go.VI

namespace Go.VI
open Go.Proofs
set_option maxRecDepth 100000
set_option linter.unusedSimpArgs false
set_option linter.unusedVariables false
set_option maxHeartbeats 4000000
def aft1 (op d : Int) (c : Bool) (s : List Bool) : Bool × List Bool :=
  if 3 ≤ op ∧ op ≤ 5 then (c, s.set (d - popS op).toNat true)
  else if 8 ≤ op ∧ op ≤ 12 then (c, s.set (d - 1 - 1).toNat (s.getD (d - 1 - 1).toNat false || s.getD (d - 1).toNat false))
  else if op = 14 then (c, s.set d.toNat (s.getD (d - 1).toNat false))
  else if op = 16 then (c, (s.set (d - 1 - 1).toNat (s.getD (d - 1).toNat false)).set (d - 1).toNat (s.getD (d - 1 - 1).toNat false))
  else if op = 18 then (c || s.getD (d - 1).toNat false, s)
  else if op ≠ 13 ∧ pushS op = 1 then (c, s.set d.toNat false) else (c, s)
def aft (op d : Int) (c : Bool) (s : List Bool) : Bool × List Bool := ((aft1 op d c s).1, clr (16 - (d - popS op + pushS op).toNat) (d - popS op + pushS op).toNat (aft1 op d c s).2)
theorem aft1_len (op d : Int) (c : Bool) (s : List Bool) : (aft1 op d c s).2.length = s.length := by
  unfold aft1
  repeat' split
  all_goals simp
theorem clr_len : ∀ (r k : Nat) (s : List Bool), (clr r k s).length = s.length
  | 0, k, s => rfl
  | r + 1, k, s => by rw [clr, clr_len r, List.length_set]
theorem aft_len (op d : Int) (c : Bool) (s : List Bool) : (aft op d c s).2.length = s.length := by rw [aft, clr_len, aft1_len]
theorem pop_push (op : Int) (h0 : 0 ≤ op) (h1 : op ≤ 20) : (3 ≤ op ∧ op ≤ 5 → popS op ≤ 1 ∧ pushS op = 1) ∧ (8 ≤ op ∧ op ≤ 12 → popS op = 2) ∧ (op = 14 → popS op = 1 ∧ pushS op = 2) ∧ (op = 16 → popS op = 2) ∧ (op = 18 → popS op = 1) ∧ (op = 19 ∨ op = 20 → popS op = 1) ∧ (pushS op = 1 ∧ ¬ (3 ≤ op ∧ op ≤ 5) ∧ ¬ (8 ≤ op ∧ op ≤ 12) ∧ op ≠ 13 → popS op = 0) := by
  have h : op = 0 ∨ op = 1 ∨ op = 2 ∨ op = 3 ∨ op = 4 ∨ op = 5 ∨ op = 6 ∨ op = 7 ∨ op = 8 ∨ op = 9 ∨ op = 10 ∨ op = 11 ∨ op = 12 ∨ op = 13 ∨ op = 14 ∨ op = 15 ∨ op = 16 ∨ op = 17 ∨ op = 18 ∨ op = 19 ∨ op = 20 := by omega
  rcases h with h | h | h | h | h | h | h | h | h | h | h | h | h | h | h | h | h | h | h | h | h <;> subst h <;> decide
theorem mA_all (c : Bool) (s : List Bool) : (mA c s).all one = true := by simp [mA, one]
theorem mA_put0 (c x : Bool) (s : List Bool) : (AV.i (.v (.bool x))) :: List.drop 1 (mA c s) = mA x s := rfl
theorem mA_get0 (c : Bool) (s : List Bool) : (mA c s)[0]? = some (.i (.v (.bool c))) := rfl
theorem mA_get' {c : Bool} {s : List Bool} {k : Nat} (h : k < s.length) : (mA c s)[1 + k]? = some (.i (.v (.bool (s.getD k false)))) := by rw [Nat.add_comm]; exact mA_get h
theorem c27_1 (op d : Int) (h0 : 0 ≤ op) (h1 : op ≤ 20) (hp : popS op ≤ d) (hq : d - popS op + pushS op ≤ 16) (hd : d ≤ 16) (c : Bool) (s : List Bool) (hs : s.length = 16) (h3 : 3 ≤ op ∧ op ≤ 5) :
    ∃ L, callT E 27 [.agg (mA c s), .i (.v (.int .i64 op)), .i (.v (.int .i64 d))] [] = some (.agg (mA (aft op d c s).1 (aft op d c s).2), L) := by
  obtain ⟨b1, b2⟩ := (pop_push op h0 h1).1 h3
  have p1 := popS_r op
  have p2 := pushS_r op
  have hpo := pops_at h0 h1
  have hpu := pushes_at h0 h1
  have hal := aft_len op d c s
  have hal1 := aft1_len op d c s
  unfold aft at hal ⊢
  have ha : aft1 op d c s = (c, s.set (d - popS op).toNat true) := by unfold aft1; rw [if_pos h3]
  rw [ha] at hal1 hal ⊢
  simp only at hal1 hal ⊢
  clear ha
  generalize popS op = po at *
  generalize pushS op = pu at *
  obtain ⟨fr, e, f3, f6⟩ := l27 c (List.replicate 16 false) (16 - (d - po + pu).toNat) (d - po + pu).toNat (by omega) (s.set (d - po).toNat true) (by omega)
  have hc : (((d - po + pu).toNat : Nat) : Int) = d - po + pu := by omega
  rw [hc] at e
  have hput0 := mA_put (c := c) (s := s) (k := (d - po).toNat) (by first | omega | (simp only [List.length_set]; omega)) true
  generalize clr (16 - (d - po + pu).toNat) (d - po + pu).toNat (s.set (d - po).toNat true) = s3 at *
  generalize s.set (d - po).toNat true = s2 at *
  have e' : rl E 0 27 (loopAt Tryd.f27 0) [(3, .ptr 0 0 0 0), (6, .ptr 1 0 0 0), (8, .i (.v (.int .i64 (d - po + pu))))] [.box (mA c s2), .box [.i (.v (.bool false)), .i (.v (.bool false)), .i (.v (.bool false)), .i (.v (.bool false)), .i (.v (.bool false)), .i (.v (.bool false)), .i (.v (.bool false)), .i (.v (.bool false)), .i (.v (.bool false)), .i (.v (.bool false)), .i (.v (.bool false)), .i (.v (.bool false)), .i (.v (.bool false)), .i (.v (.bool false)), .i (.v (.bool false)), .i (.v (.bool false)), .i (.v (.bool false))]] = some (.exit 1, fr, [.box (mA c s3), .box [.i (.v (.bool false)), .i (.v (.bool false)), .i (.v (.bool false)), .i (.v (.bool false)), .i (.v (.bool false)), .i (.v (.bool false)), .i (.v (.bool false)), .i (.v (.bool false)), .i (.v (.bool false)), .i (.v (.bool false)), .i (.v (.bool false)), .i (.v (.bool false)), .i (.v (.bool false)), .i (.v (.bool false)), .i (.v (.bool false)), .i (.v (.bool false)), .i (.v (.bool false))]]) := e
  clear e
  have hs3 : s3.length = 16 := by omega
  have ht := mA_take (c := c) (s := s3) (n := 17) (by omega)
  rw [callT_eq Tryd.func27 rfl fok27 (by simp [Tryd.ntmps27])]
  simp (disch := first | omega | (simp only [List.length_append, List.length_map, List.length_set, List.length_cons, List.length_nil, List.length_take, List.length_drop, mA_len]; omega)) only [va0, va1, va2, va3, va4, va5, va6, va7, va8, va9, va10, va11, va12, va13, va14, va15, vb0, vb1, vb2, vb3, w_i8, w_u8, w_i16, w_u16, w_i32, w_u32, w_i64, w_u64, lt_T, lt_F, le_T, le_F, nlt_T, nlt_F, nle_T, nle_F, List.take_of_length_le, gB, gcW, gcR, posIn, renA, renL, Chunk.ren, Chunk.refs, evOpD, touchD, stepC, isFresh, nFresh, freshOf, mkR, hole, evL, evH, opd, get, putD, ofVal, cellOf, loadE, behind, lenE, idxAddrE, idxE, addPtr, intE, strE, unE, convE, AV.int, AV.bool, AV.str, ivs, take, frameOf, firstRegion, refsA, refsL, one, cellsA, floatOk, apartT, List.map, if_true, if_false, E_P, E_glob0, E_glob1, reduceCtorEq, beq_self_eq_true, decide_true, decide_false, ↓reduceIte, Nat.reduceEqDiff, cond_true, cond_false, or_true, true_or, or_false, false_or, and_true, true_and, and_self, false_and, and_false, not_true, not_false_iff, Nat.reduceAdd, Nat.reduceSub, Nat.reduceMul, Nat.reduceLT, Nat.reduceLeDiff, Int.reduceToNat, Int.reduceLT, Int.reduceLE, Option.getD, Int.reduceMul, Int.reduceAdd, List.drop, List.take, Nat.reduceBEq, List.isEmpty, Int.reduceEq, Int.reduceNe, Int.reduceNeg, Int.reduceGT, Int.reduceGE, beq_true, beq_false, UInt8.reduceToNat, eqE, eq_self, foldE, maxE, minE, eq_T, eq_F, ndec, odec, adec, sdec, fillA, over, chop, List.replicate, leavesOk, leafOk, cellsEq, cellEq, E_ext, E_byref, en27, h3.1, h3.2, hpo, hpu, hput0, e', f3, f6, ht, hs3, mA_len, mA_get0, mA_put0, mA_cn, mA_refs, mA_ren, mA_all, mA_frz, mI_ivs, mI_map, Nat.mul_one, Bool.true_or, Bool.false_or, show ∀ B fr H, execT E B 27 (Code.loop _) fr H = rlG E B 27 (loopAt Tryd.f27 0) (gcn B (norm [3, 6, 8] fr) H) from fun B fr H => rl_intro rfl mt27_15 mb27_15 zf27_15 hd27_15 fr H]
  exact ⟨_, rfl⟩
theorem c27_2 (op d : Int) (h0 : 0 ≤ op) (h1 : op ≤ 20) (hp : popS op ≤ d) (hq : d - popS op + pushS op ≤ 16) (hd : d ≤ 16) (c : Bool) (s : List Bool) (hs : s.length = 16) (h3 : 8 ≤ op ∧ op ≤ 12) :
    ∃ L, callT E 27 [.agg (mA c s), .i (.v (.int .i64 op)), .i (.v (.int .i64 d))] [] = some (.agg (mA (aft op d c s).1 (aft op d c s).2), L) := by
  have b1 := (pop_push op h0 h1).2.1 h3
  have p1 := popS_r op
  have p2 := pushS_r op
  have hpo := pops_at h0 h1
  have hpu := pushes_at h0 h1
  have hal := aft_len op d c s
  have hal1 := aft1_len op d c s
  unfold aft at hal ⊢
  have ha : aft1 op d c s = (c, s.set (d - 1 - 1).toNat (s.getD (d - 1 - 1).toNat false || s.getD (d - 1).toNat false)) := by unfold aft1; rw [if_neg (by omega), if_pos h3]
  rw [ha] at hal1 hal ⊢
  simp only at hal1 hal ⊢
  have hgx := mA_get' (c := c) (s := s) (k := (d - 1 - 1).toNat) (by omega)
  generalize s.getD (d - 1 - 1).toNat false = x at *
  have hgy := mA_get' (c := c) (s := s) (k := (d - 1).toNat) (by omega)
  generalize s.getD (d - 1).toNat false = y at *
  clear ha
  generalize popS op = po at *
  generalize pushS op = pu at *
  obtain ⟨fr, e, f3, f6⟩ := l27 c (List.replicate 16 false) (16 - (d - po + pu).toNat) (d - po + pu).toNat (by omega) (s.set (d - 1 - 1).toNat (x || y)) (by omega)
  have hc : (((d - po + pu).toNat : Nat) : Int) = d - po + pu := by omega
  rw [hc] at e
  have hput0 := mA_put (c := c) (s := s) (k := (d - 1 - 1).toNat) (by first | omega | (simp only [List.length_set]; omega)) (x || y)
  generalize clr (16 - (d - po + pu).toNat) (d - po + pu).toNat (s.set (d - 1 - 1).toNat (x || y)) = s3 at *
  generalize s.set (d - 1 - 1).toNat (x || y) = s2 at *
  have e' : rl E 0 27 (loopAt Tryd.f27 0) [(3, .ptr 0 0 0 0), (6, .ptr 1 0 0 0), (8, .i (.v (.int .i64 (d - po + pu))))] [.box (mA c s2), .box [.i (.v (.bool false)), .i (.v (.bool false)), .i (.v (.bool false)), .i (.v (.bool false)), .i (.v (.bool false)), .i (.v (.bool false)), .i (.v (.bool false)), .i (.v (.bool false)), .i (.v (.bool false)), .i (.v (.bool false)), .i (.v (.bool false)), .i (.v (.bool false)), .i (.v (.bool false)), .i (.v (.bool false)), .i (.v (.bool false)), .i (.v (.bool false)), .i (.v (.bool false))]] = some (.exit 1, fr, [.box (mA c s3), .box [.i (.v (.bool false)), .i (.v (.bool false)), .i (.v (.bool false)), .i (.v (.bool false)), .i (.v (.bool false)), .i (.v (.bool false)), .i (.v (.bool false)), .i (.v (.bool false)), .i (.v (.bool false)), .i (.v (.bool false)), .i (.v (.bool false)), .i (.v (.bool false)), .i (.v (.bool false)), .i (.v (.bool false)), .i (.v (.bool false)), .i (.v (.bool false)), .i (.v (.bool false))]]) := e
  clear e
  have hs3 : s3.length = 16 := by omega
  have ht := mA_take (c := c) (s := s3) (n := 17) (by omega)
  cases x
  · simp only [Bool.true_or, Bool.false_or] at hput0
    rw [callT_eq Tryd.func27 rfl fok27 (by simp [Tryd.ntmps27])]
    simp (disch := first | omega | (simp only [List.length_append, List.length_map, List.length_set, List.length_cons, List.length_nil, List.length_take, List.length_drop, mA_len]; omega)) only [va0, va1, va2, va3, va4, va5, va6, va7, va8, va9, va10, va11, va12, va13, va14, va15, vb0, vb1, vb2, vb3, w_i8, w_u8, w_i16, w_u16, w_i32, w_u32, w_i64, w_u64, lt_T, lt_F, le_T, le_F, nlt_T, nlt_F, nle_T, nle_F, List.take_of_length_le, gB, gcW, gcR, posIn, renA, renL, Chunk.ren, Chunk.refs, evOpD, touchD, stepC, isFresh, nFresh, freshOf, mkR, hole, evL, evH, opd, get, putD, ofVal, cellOf, loadE, behind, lenE, idxAddrE, idxE, addPtr, intE, strE, unE, convE, AV.int, AV.bool, AV.str, ivs, take, frameOf, firstRegion, refsA, refsL, one, cellsA, floatOk, apartT, List.map, if_true, if_false, E_P, E_glob0, E_glob1, reduceCtorEq, beq_self_eq_true, decide_true, decide_false, ↓reduceIte, Nat.reduceEqDiff, cond_true, cond_false, or_true, true_or, or_false, false_or, and_true, true_and, and_self, false_and, and_false, not_true, not_false_iff, Nat.reduceAdd, Nat.reduceSub, Nat.reduceMul, Nat.reduceLT, Nat.reduceLeDiff, Int.reduceToNat, Int.reduceLT, Int.reduceLE, Option.getD, Int.reduceMul, Int.reduceAdd, List.drop, List.take, Nat.reduceBEq, List.isEmpty, Int.reduceEq, Int.reduceNe, Int.reduceNeg, Int.reduceGT, Int.reduceGE, beq_true, beq_false, UInt8.reduceToNat, eqE, eq_self, foldE, maxE, minE, eq_T, eq_F, ndec, odec, adec, sdec, fillA, over, chop, List.replicate, leavesOk, leafOk, cellsEq, cellEq, E_ext, E_byref, en27, h3.1, h3.2, hpo, hpu, hput0, hgx, hgy, e', f3, f6, ht, hs3, mA_len, mA_get0, mA_put0, mA_cn, mA_refs, mA_ren, mA_all, mA_frz, mI_ivs, mI_map, Nat.mul_one, Bool.true_or, Bool.false_or, show ∀ B fr H, execT E B 27 (Code.loop _) fr H = rlG E B 27 (loopAt Tryd.f27 0) (gcn B (norm [3, 6, 8] fr) H) from fun B fr H => rl_intro rfl mt27_15 mb27_15 zf27_15 hd27_15 fr H]
    exact ⟨_, rfl⟩
  · simp only [Bool.true_or, Bool.false_or] at hput0
    rw [callT_eq Tryd.func27 rfl fok27 (by simp [Tryd.ntmps27])]
    simp (disch := first | omega | (simp only [List.length_append, List.length_map, List.length_set, List.length_cons, List.length_nil, List.length_take, List.length_drop, mA_len]; omega)) only [va0, va1, va2, va3, va4, va5, va6, va7, va8, va9, va10, va11, va12, va13, va14, va15, vb0, vb1, vb2, vb3, w_i8, w_u8, w_i16, w_u16, w_i32, w_u32, w_i64, w_u64, lt_T, lt_F, le_T, le_F, nlt_T, nlt_F, nle_T, nle_F, List.take_of_length_le, gB, gcW, gcR, posIn, renA, renL, Chunk.ren, Chunk.refs, evOpD, touchD, stepC, isFresh, nFresh, freshOf, mkR, hole, evL, evH, opd, get, putD, ofVal, cellOf, loadE, behind, lenE, idxAddrE, idxE, addPtr, intE, strE, unE, convE, AV.int, AV.bool, AV.str, ivs, take, frameOf, firstRegion, refsA, refsL, one, cellsA, floatOk, apartT, List.map, if_true, if_false, E_P, E_glob0, E_glob1, reduceCtorEq, beq_self_eq_true, decide_true, decide_false, ↓reduceIte, Nat.reduceEqDiff, cond_true, cond_false, or_true, true_or, or_false, false_or, and_true, true_and, and_self, false_and, and_false, not_true, not_false_iff, Nat.reduceAdd, Nat.reduceSub, Nat.reduceMul, Nat.reduceLT, Nat.reduceLeDiff, Int.reduceToNat, Int.reduceLT, Int.reduceLE, Option.getD, Int.reduceMul, Int.reduceAdd, List.drop, List.take, Nat.reduceBEq, List.isEmpty, Int.reduceEq, Int.reduceNe, Int.reduceNeg, Int.reduceGT, Int.reduceGE, beq_true, beq_false, UInt8.reduceToNat, eqE, eq_self, foldE, maxE, minE, eq_T, eq_F, ndec, odec, adec, sdec, fillA, over, chop, List.replicate, leavesOk, leafOk, cellsEq, cellEq, E_ext, E_byref, en27, h3.1, h3.2, hpo, hpu, hput0, hgx, hgy, e', f3, f6, ht, hs3, mA_len, mA_get0, mA_put0, mA_cn, mA_refs, mA_ren, mA_all, mA_frz, mI_ivs, mI_map, Nat.mul_one, Bool.true_or, Bool.false_or, show ∀ B fr H, execT E B 27 (Code.loop _) fr H = rlG E B 27 (loopAt Tryd.f27 0) (gcn B (norm [3, 6, 8] fr) H) from fun B fr H => rl_intro rfl mt27_15 mb27_15 zf27_15 hd27_15 fr H]
    exact ⟨_, rfl⟩
theorem c27_3 (op d : Int) (h0 : 0 ≤ op) (h1 : op ≤ 20) (hp : popS op ≤ d) (hq : d - popS op + pushS op ≤ 16) (hd : d ≤ 16) (c : Bool) (s : List Bool) (hs : s.length = 16) (h3 : op = 14) :
    ∃ L, callT E 27 [.agg (mA c s), .i (.v (.int .i64 op)), .i (.v (.int .i64 d))] [] = some (.agg (mA (aft op d c s).1 (aft op d c s).2), L) := by
  obtain ⟨b1, b2⟩ := (pop_push op h0 h1).2.2.1 h3
  have p1 := popS_r op
  have p2 := pushS_r op
  have hpo := pops_at h0 h1
  have hpu := pushes_at h0 h1
  have hal := aft_len op d c s
  have hal1 := aft1_len op d c s
  unfold aft at hal ⊢
  have ha : aft1 op d c s = (c, s.set d.toNat (s.getD (d - 1).toNat false)) := by unfold aft1; rw [if_neg (by omega), if_neg (by omega), if_pos h3]
  rw [ha] at hal1 hal ⊢
  simp only at hal1 hal ⊢
  have hgy := mA_get' (c := c) (s := s) (k := (d - 1).toNat) (by omega)
  generalize s.getD (d - 1).toNat false = y at *
  clear ha
  generalize popS op = po at *
  generalize pushS op = pu at *
  obtain ⟨fr, e, f3, f6⟩ := l27 c (List.replicate 16 false) (16 - (d - po + pu).toNat) (d - po + pu).toNat (by omega) (s.set d.toNat y) (by omega)
  have hc : (((d - po + pu).toNat : Nat) : Int) = d - po + pu := by omega
  rw [hc] at e
  have hput0 := mA_put (c := c) (s := s) (k := d.toNat) (by first | omega | (simp only [List.length_set]; omega)) y
  generalize clr (16 - (d - po + pu).toNat) (d - po + pu).toNat (s.set d.toNat y) = s3 at *
  generalize s.set d.toNat y = s2 at *
  have e' : rl E 0 27 (loopAt Tryd.f27 0) [(3, .ptr 0 0 0 0), (6, .ptr 1 0 0 0), (8, .i (.v (.int .i64 (d - po + pu))))] [.box (mA c s2), .box [.i (.v (.bool false)), .i (.v (.bool false)), .i (.v (.bool false)), .i (.v (.bool false)), .i (.v (.bool false)), .i (.v (.bool false)), .i (.v (.bool false)), .i (.v (.bool false)), .i (.v (.bool false)), .i (.v (.bool false)), .i (.v (.bool false)), .i (.v (.bool false)), .i (.v (.bool false)), .i (.v (.bool false)), .i (.v (.bool false)), .i (.v (.bool false)), .i (.v (.bool false))]] = some (.exit 1, fr, [.box (mA c s3), .box [.i (.v (.bool false)), .i (.v (.bool false)), .i (.v (.bool false)), .i (.v (.bool false)), .i (.v (.bool false)), .i (.v (.bool false)), .i (.v (.bool false)), .i (.v (.bool false)), .i (.v (.bool false)), .i (.v (.bool false)), .i (.v (.bool false)), .i (.v (.bool false)), .i (.v (.bool false)), .i (.v (.bool false)), .i (.v (.bool false)), .i (.v (.bool false)), .i (.v (.bool false))]]) := e
  clear e
  have hs3 : s3.length = 16 := by omega
  have ht := mA_take (c := c) (s := s3) (n := 17) (by omega)
  rw [callT_eq Tryd.func27 rfl fok27 (by simp [Tryd.ntmps27])]
  simp (disch := first | omega | (simp only [List.length_append, List.length_map, List.length_set, List.length_cons, List.length_nil, List.length_take, List.length_drop, mA_len]; omega)) only [va0, va1, va2, va3, va4, va5, va6, va7, va8, va9, va10, va11, va12, va13, va14, va15, vb0, vb1, vb2, vb3, w_i8, w_u8, w_i16, w_u16, w_i32, w_u32, w_i64, w_u64, lt_T, lt_F, le_T, le_F, nlt_T, nlt_F, nle_T, nle_F, List.take_of_length_le, gB, gcW, gcR, posIn, renA, renL, Chunk.ren, Chunk.refs, evOpD, touchD, stepC, isFresh, nFresh, freshOf, mkR, hole, evL, evH, opd, get, putD, ofVal, cellOf, loadE, behind, lenE, idxAddrE, idxE, addPtr, intE, strE, unE, convE, AV.int, AV.bool, AV.str, ivs, take, frameOf, firstRegion, refsA, refsL, one, cellsA, floatOk, apartT, List.map, if_true, if_false, E_P, E_glob0, E_glob1, reduceCtorEq, beq_self_eq_true, decide_true, decide_false, ↓reduceIte, Nat.reduceEqDiff, cond_true, cond_false, or_true, true_or, or_false, false_or, and_true, true_and, and_self, false_and, and_false, not_true, not_false_iff, Nat.reduceAdd, Nat.reduceSub, Nat.reduceMul, Nat.reduceLT, Nat.reduceLeDiff, Int.reduceToNat, Int.reduceLT, Int.reduceLE, Option.getD, Int.reduceMul, Int.reduceAdd, List.drop, List.take, Nat.reduceBEq, List.isEmpty, Int.reduceEq, Int.reduceNe, Int.reduceNeg, Int.reduceGT, Int.reduceGE, beq_true, beq_false, UInt8.reduceToNat, eqE, eq_self, foldE, maxE, minE, eq_T, eq_F, ndec, odec, adec, sdec, fillA, over, chop, List.replicate, leavesOk, leafOk, cellsEq, cellEq, E_ext, E_byref, en27, hd, hpo, hpu, hput0, hgy, e', f3, f6, ht, hs3, mA_len, mA_get0, mA_put0, mA_cn, mA_refs, mA_ren, mA_all, mA_frz, mI_ivs, mI_map, Nat.mul_one, Bool.true_or, Bool.false_or, show ∀ B fr H, execT E B 27 (Code.loop _) fr H = rlG E B 27 (loopAt Tryd.f27 0) (gcn B (norm [3, 6, 8] fr) H) from fun B fr H => rl_intro rfl mt27_15 mb27_15 zf27_15 hd27_15 fr H]
  exact ⟨_, rfl⟩
theorem c27_4 (op d : Int) (h0 : 0 ≤ op) (h1 : op ≤ 20) (hp : popS op ≤ d) (hq : d - popS op + pushS op ≤ 16) (hd : d ≤ 16) (c : Bool) (s : List Bool) (hs : s.length = 16) (h3 : op = 16) :
    ∃ L, callT E 27 [.agg (mA c s), .i (.v (.int .i64 op)), .i (.v (.int .i64 d))] [] = some (.agg (mA (aft op d c s).1 (aft op d c s).2), L) := by
  have b1 := (pop_push op h0 h1).2.2.2.1 h3
  have p1 := popS_r op
  have p2 := pushS_r op
  have hpo := pops_at h0 h1
  have hpu := pushes_at h0 h1
  have hal := aft_len op d c s
  have hal1 := aft1_len op d c s
  unfold aft at hal ⊢
  have ha : aft1 op d c s = (c, (s.set (d - 1 - 1).toNat (s.getD (d - 1).toNat false)).set (d - 1).toNat (s.getD (d - 1 - 1).toNat false)) := by unfold aft1; rw [if_neg (by omega), if_neg (by omega), if_neg (by omega), if_pos h3]
  rw [ha] at hal1 hal ⊢
  simp only at hal1 hal ⊢
  have hgx := mA_get' (c := c) (s := s) (k := (d - 1 - 1).toNat) (by omega)
  generalize s.getD (d - 1 - 1).toNat false = x at *
  have hgy := mA_get' (c := c) (s := s) (k := (d - 1).toNat) (by omega)
  generalize s.getD (d - 1).toNat false = y at *
  clear ha
  generalize popS op = po at *
  generalize pushS op = pu at *
  obtain ⟨fr, e, f3, f6⟩ := l27 c (List.replicate 16 false) (16 - (d - po + pu).toNat) (d - po + pu).toNat (by omega) ((s.set (d - 1 - 1).toNat y).set (d - 1).toNat x) (by omega)
  have hc : (((d - po + pu).toNat : Nat) : Int) = d - po + pu := by omega
  rw [hc] at e
  have hput0 := mA_put (c := c) (s := s) (k := (d - 1 - 1).toNat) (by first | omega | (simp only [List.length_set]; omega)) y
  have hput1 := mA_put (c := c) (s := (s.set (d - 1 - 1).toNat y)) (k := (d - 1).toNat) (by first | omega | (simp only [List.length_set]; omega)) x
  generalize clr (16 - (d - po + pu).toNat) (d - po + pu).toNat ((s.set (d - 1 - 1).toNat y).set (d - 1).toNat x) = s3 at *
  have e' : rl E 0 27 (loopAt Tryd.f27 0) [(3, .ptr 0 0 0 0), (6, .ptr 1 0 0 0), (8, .i (.v (.int .i64 (d - po + pu))))] [.box (mA c ((s.set (d - 1 - 1).toNat y).set (d - 1).toNat x)), .box [.i (.v (.bool false)), .i (.v (.bool false)), .i (.v (.bool false)), .i (.v (.bool false)), .i (.v (.bool false)), .i (.v (.bool false)), .i (.v (.bool false)), .i (.v (.bool false)), .i (.v (.bool false)), .i (.v (.bool false)), .i (.v (.bool false)), .i (.v (.bool false)), .i (.v (.bool false)), .i (.v (.bool false)), .i (.v (.bool false)), .i (.v (.bool false)), .i (.v (.bool false))]] = some (.exit 1, fr, [.box (mA c s3), .box [.i (.v (.bool false)), .i (.v (.bool false)), .i (.v (.bool false)), .i (.v (.bool false)), .i (.v (.bool false)), .i (.v (.bool false)), .i (.v (.bool false)), .i (.v (.bool false)), .i (.v (.bool false)), .i (.v (.bool false)), .i (.v (.bool false)), .i (.v (.bool false)), .i (.v (.bool false)), .i (.v (.bool false)), .i (.v (.bool false)), .i (.v (.bool false)), .i (.v (.bool false))]]) := e
  clear e
  have hs3 : s3.length = 16 := by omega
  have ht := mA_take (c := c) (s := s3) (n := 17) (by omega)
  rw [callT_eq Tryd.func27 rfl fok27 (by simp [Tryd.ntmps27])]
  simp (disch := first | omega | (simp only [List.length_append, List.length_map, List.length_set, List.length_cons, List.length_nil, List.length_take, List.length_drop, mA_len]; omega)) only [va0, va1, va2, va3, va4, va5, va6, va7, va8, va9, va10, va11, va12, va13, va14, va15, vb0, vb1, vb2, vb3, w_i8, w_u8, w_i16, w_u16, w_i32, w_u32, w_i64, w_u64, lt_T, lt_F, le_T, le_F, nlt_T, nlt_F, nle_T, nle_F, List.take_of_length_le, gB, gcW, gcR, posIn, renA, renL, Chunk.ren, Chunk.refs, evOpD, touchD, stepC, isFresh, nFresh, freshOf, mkR, hole, evL, evH, opd, get, putD, ofVal, cellOf, loadE, behind, lenE, idxAddrE, idxE, addPtr, intE, strE, unE, convE, AV.int, AV.bool, AV.str, ivs, take, frameOf, firstRegion, refsA, refsL, one, cellsA, floatOk, apartT, List.map, if_true, if_false, E_P, E_glob0, E_glob1, reduceCtorEq, beq_self_eq_true, decide_true, decide_false, ↓reduceIte, Nat.reduceEqDiff, cond_true, cond_false, or_true, true_or, or_false, false_or, and_true, true_and, and_self, false_and, and_false, not_true, not_false_iff, Nat.reduceAdd, Nat.reduceSub, Nat.reduceMul, Nat.reduceLT, Nat.reduceLeDiff, Int.reduceToNat, Int.reduceLT, Int.reduceLE, Option.getD, Int.reduceMul, Int.reduceAdd, List.drop, List.take, Nat.reduceBEq, List.isEmpty, Int.reduceEq, Int.reduceNe, Int.reduceNeg, Int.reduceGT, Int.reduceGE, beq_true, beq_false, UInt8.reduceToNat, eqE, eq_self, foldE, maxE, minE, eq_T, eq_F, ndec, odec, adec, sdec, fillA, over, chop, List.replicate, leavesOk, leafOk, cellsEq, cellEq, E_ext, E_byref, en27, hd, hpo, hpu, hput0, hput1, hgx, hgy, e', f3, f6, ht, hs3, mA_len, mA_get0, mA_put0, mA_cn, mA_refs, mA_ren, mA_all, mA_frz, mI_ivs, mI_map, Nat.mul_one, Bool.true_or, Bool.false_or, show ∀ B fr H, execT E B 27 (Code.loop _) fr H = rlG E B 27 (loopAt Tryd.f27 0) (gcn B (norm [3, 6, 8] fr) H) from fun B fr H => rl_intro rfl mt27_15 mb27_15 zf27_15 hd27_15 fr H]
  exact ⟨_, rfl⟩
theorem c27_5 (op d : Int) (h0 : 0 ≤ op) (h1 : op ≤ 20) (hp : popS op ≤ d) (hq : d - popS op + pushS op ≤ 16) (hd : d ≤ 16) (c : Bool) (s : List Bool) (hs : s.length = 16) (h3 : op = 18) :
    ∃ L, callT E 27 [.agg (mA c s), .i (.v (.int .i64 op)), .i (.v (.int .i64 d))] [] = some (.agg (mA (aft op d c s).1 (aft op d c s).2), L) := by
  have b1 := (pop_push op h0 h1).2.2.2.2.1 h3
  have p1 := popS_r op
  have p2 := pushS_r op
  have hpo := pops_at h0 h1
  have hpu := pushes_at h0 h1
  have hal := aft_len op d c s
  have hal1 := aft1_len op d c s
  unfold aft at hal ⊢
  have ha : aft1 op d c s = ((c || s.getD (d - 1).toNat false), s) := by unfold aft1; rw [if_neg (by omega), if_neg (by omega), if_neg (by omega), if_neg (by omega), if_pos h3]
  rw [ha] at hal1 hal ⊢
  simp only at hal1 hal ⊢
  have hgy := mA_get' (c := c) (s := s) (k := (d - 1).toNat) (by omega)
  generalize s.getD (d - 1).toNat false = y at *
  clear ha
  generalize popS op = po at *
  generalize pushS op = pu at *
  obtain ⟨fr, e, f3, f6⟩ := l27 (c || y) (List.replicate 16 false) (16 - (d - po + pu).toNat) (d - po + pu).toNat (by omega) (s) (by omega)
  have hc : (((d - po + pu).toNat : Nat) : Int) = d - po + pu := by omega
  rw [hc] at e
  generalize clr (16 - (d - po + pu).toNat) (d - po + pu).toNat s = s3 at *
  have e' : rl E 0 27 (loopAt Tryd.f27 0) [(3, .ptr 0 0 0 0), (6, .ptr 1 0 0 0), (8, .i (.v (.int .i64 (d - po + pu))))] [.box (mA (c || y) s), .box [.i (.v (.bool false)), .i (.v (.bool false)), .i (.v (.bool false)), .i (.v (.bool false)), .i (.v (.bool false)), .i (.v (.bool false)), .i (.v (.bool false)), .i (.v (.bool false)), .i (.v (.bool false)), .i (.v (.bool false)), .i (.v (.bool false)), .i (.v (.bool false)), .i (.v (.bool false)), .i (.v (.bool false)), .i (.v (.bool false)), .i (.v (.bool false)), .i (.v (.bool false))]] = some (.exit 1, fr, [.box (mA (c || y) s3), .box [.i (.v (.bool false)), .i (.v (.bool false)), .i (.v (.bool false)), .i (.v (.bool false)), .i (.v (.bool false)), .i (.v (.bool false)), .i (.v (.bool false)), .i (.v (.bool false)), .i (.v (.bool false)), .i (.v (.bool false)), .i (.v (.bool false)), .i (.v (.bool false)), .i (.v (.bool false)), .i (.v (.bool false)), .i (.v (.bool false)), .i (.v (.bool false)), .i (.v (.bool false))]]) := e
  clear e
  have hs3 : s3.length = 16 := by omega
  have ht := mA_take (c := (c || y)) (s := s3) (n := 17) (by omega)
  cases c
  · simp only [Bool.true_or, Bool.false_or] at e' ht ⊢
    rw [callT_eq Tryd.func27 rfl fok27 (by simp [Tryd.ntmps27])]
    simp (disch := first | omega | (simp only [List.length_append, List.length_map, List.length_set, List.length_cons, List.length_nil, List.length_take, List.length_drop, mA_len]; omega)) only [va0, va1, va2, va3, va4, va5, va6, va7, va8, va9, va10, va11, va12, va13, va14, va15, vb0, vb1, vb2, vb3, w_i8, w_u8, w_i16, w_u16, w_i32, w_u32, w_i64, w_u64, lt_T, lt_F, le_T, le_F, nlt_T, nlt_F, nle_T, nle_F, List.take_of_length_le, gB, gcW, gcR, posIn, renA, renL, Chunk.ren, Chunk.refs, evOpD, touchD, stepC, isFresh, nFresh, freshOf, mkR, hole, evL, evH, opd, get, putD, ofVal, cellOf, loadE, behind, lenE, idxAddrE, idxE, addPtr, intE, strE, unE, convE, AV.int, AV.bool, AV.str, ivs, take, frameOf, firstRegion, refsA, refsL, one, cellsA, floatOk, apartT, List.map, if_true, if_false, E_P, E_glob0, E_glob1, reduceCtorEq, beq_self_eq_true, decide_true, decide_false, ↓reduceIte, Nat.reduceEqDiff, cond_true, cond_false, or_true, true_or, or_false, false_or, and_true, true_and, and_self, false_and, and_false, not_true, not_false_iff, Nat.reduceAdd, Nat.reduceSub, Nat.reduceMul, Nat.reduceLT, Nat.reduceLeDiff, Int.reduceToNat, Int.reduceLT, Int.reduceLE, Option.getD, Int.reduceMul, Int.reduceAdd, List.drop, List.take, Nat.reduceBEq, List.isEmpty, Int.reduceEq, Int.reduceNe, Int.reduceNeg, Int.reduceGT, Int.reduceGE, beq_true, beq_false, UInt8.reduceToNat, eqE, eq_self, foldE, maxE, minE, eq_T, eq_F, ndec, odec, adec, sdec, fillA, over, chop, List.replicate, leavesOk, leafOk, cellsEq, cellEq, E_ext, E_byref, en27, hd, hpo, hpu, hgy, e', f3, f6, ht, hs3, mA_len, mA_get0, mA_put0, mA_cn, mA_refs, mA_ren, mA_all, mA_frz, mI_ivs, mI_map, Nat.mul_one, Bool.true_or, Bool.false_or, show ∀ B fr H, execT E B 27 (Code.loop _) fr H = rlG E B 27 (loopAt Tryd.f27 0) (gcn B (norm [3, 6, 8] fr) H) from fun B fr H => rl_intro rfl mt27_15 mb27_15 zf27_15 hd27_15 fr H]
    exact ⟨_, rfl⟩
  · simp only [Bool.true_or, Bool.false_or] at e' ht ⊢
    rw [callT_eq Tryd.func27 rfl fok27 (by simp [Tryd.ntmps27])]
    simp (disch := first | omega | (simp only [List.length_append, List.length_map, List.length_set, List.length_cons, List.length_nil, List.length_take, List.length_drop, mA_len]; omega)) only [va0, va1, va2, va3, va4, va5, va6, va7, va8, va9, va10, va11, va12, va13, va14, va15, vb0, vb1, vb2, vb3, w_i8, w_u8, w_i16, w_u16, w_i32, w_u32, w_i64, w_u64, lt_T, lt_F, le_T, le_F, nlt_T, nlt_F, nle_T, nle_F, List.take_of_length_le, gB, gcW, gcR, posIn, renA, renL, Chunk.ren, Chunk.refs, evOpD, touchD, stepC, isFresh, nFresh, freshOf, mkR, hole, evL, evH, opd, get, putD, ofVal, cellOf, loadE, behind, lenE, idxAddrE, idxE, addPtr, intE, strE, unE, convE, AV.int, AV.bool, AV.str, ivs, take, frameOf, firstRegion, refsA, refsL, one, cellsA, floatOk, apartT, List.map, if_true, if_false, E_P, E_glob0, E_glob1, reduceCtorEq, beq_self_eq_true, decide_true, decide_false, ↓reduceIte, Nat.reduceEqDiff, cond_true, cond_false, or_true, true_or, or_false, false_or, and_true, true_and, and_self, false_and, and_false, not_true, not_false_iff, Nat.reduceAdd, Nat.reduceSub, Nat.reduceMul, Nat.reduceLT, Nat.reduceLeDiff, Int.reduceToNat, Int.reduceLT, Int.reduceLE, Option.getD, Int.reduceMul, Int.reduceAdd, List.drop, List.take, Nat.reduceBEq, List.isEmpty, Int.reduceEq, Int.reduceNe, Int.reduceNeg, Int.reduceGT, Int.reduceGE, beq_true, beq_false, UInt8.reduceToNat, eqE, eq_self, foldE, maxE, minE, eq_T, eq_F, ndec, odec, adec, sdec, fillA, over, chop, List.replicate, leavesOk, leafOk, cellsEq, cellEq, E_ext, E_byref, en27, hd, hpo, hpu, hgy, e', f3, f6, ht, hs3, mA_len, mA_get0, mA_put0, mA_cn, mA_refs, mA_ren, mA_all, mA_frz, mI_ivs, mI_map, Nat.mul_one, Bool.true_or, Bool.false_or, show ∀ B fr H, execT E B 27 (Code.loop _) fr H = rlG E B 27 (loopAt Tryd.f27 0) (gcn B (norm [3, 6, 8] fr) H) from fun B fr H => rl_intro rfl mt27_15 mb27_15 zf27_15 hd27_15 fr H]
    exact ⟨_, rfl⟩
theorem c27_6 (op d : Int) (h0 : 0 ≤ op) (h1 : op ≤ 20) (hp : popS op ≤ d) (hq : d - popS op + pushS op ≤ 16) (hd : d ≤ 16) (c : Bool) (s : List Bool) (hs : s.length = 16) (h3 : op < 3 ∨ 5 < op ∧ op < 8) (h4 : pushS op = 1) :
    ∃ L, callT E 27 [.agg (mA c s), .i (.v (.int .i64 op)), .i (.v (.int .i64 d))] [] = some (.agg (mA (aft op d c s).1 (aft op d c s).2), L) := by
  have b1 := (pop_push op h0 h1).2.2.2.2.2.2 ⟨h4, by omega, by omega, by omega⟩
  have p1 := popS_r op
  have p2 := pushS_r op
  have hpo := pops_at h0 h1
  have hpu := pushes_at h0 h1
  have hal := aft_len op d c s
  have hal1 := aft1_len op d c s
  unfold aft at hal ⊢
  have ha : aft1 op d c s = (c, s.set d.toNat false) := by unfold aft1; rw [if_neg (by omega), if_neg (by omega), if_neg (by omega), if_neg (by omega), if_neg (by omega), if_pos ⟨by omega, h4⟩]
  rw [ha] at hal1 hal ⊢
  simp only at hal1 hal ⊢
  clear ha
  generalize popS op = po at *
  generalize pushS op = pu at *
  obtain ⟨fr, e, f3, f6⟩ := l27 c (List.replicate 16 false) (16 - (d - po + pu).toNat) (d - po + pu).toNat (by omega) (s.set d.toNat false) (by omega)
  have hc : (((d - po + pu).toNat : Nat) : Int) = d - po + pu := by omega
  rw [hc] at e
  have hput0 := mA_put (c := c) (s := s) (k := d.toNat) (by first | omega | (simp only [List.length_set]; omega)) false
  generalize clr (16 - (d - po + pu).toNat) (d - po + pu).toNat (s.set d.toNat false) = s3 at *
  generalize s.set d.toNat false = s2 at *
  have e' : rl E 0 27 (loopAt Tryd.f27 0) [(3, .ptr 0 0 0 0), (6, .ptr 1 0 0 0), (8, .i (.v (.int .i64 (d - po + pu))))] [.box (mA c s2), .box [.i (.v (.bool false)), .i (.v (.bool false)), .i (.v (.bool false)), .i (.v (.bool false)), .i (.v (.bool false)), .i (.v (.bool false)), .i (.v (.bool false)), .i (.v (.bool false)), .i (.v (.bool false)), .i (.v (.bool false)), .i (.v (.bool false)), .i (.v (.bool false)), .i (.v (.bool false)), .i (.v (.bool false)), .i (.v (.bool false)), .i (.v (.bool false)), .i (.v (.bool false))]] = some (.exit 1, fr, [.box (mA c s3), .box [.i (.v (.bool false)), .i (.v (.bool false)), .i (.v (.bool false)), .i (.v (.bool false)), .i (.v (.bool false)), .i (.v (.bool false)), .i (.v (.bool false)), .i (.v (.bool false)), .i (.v (.bool false)), .i (.v (.bool false)), .i (.v (.bool false)), .i (.v (.bool false)), .i (.v (.bool false)), .i (.v (.bool false)), .i (.v (.bool false)), .i (.v (.bool false)), .i (.v (.bool false))]]) := e
  clear e
  have hs3 : s3.length = 16 := by omega
  have ht := mA_take (c := c) (s := s3) (n := 17) (by omega)
  rcases h3 with h3 | h3
  · have h5 : ¬ 3 ≤ op := by omega
    rw [callT_eq Tryd.func27 rfl fok27 (by simp [Tryd.ntmps27])]
    simp (disch := first | omega | (simp only [List.length_append, List.length_map, List.length_set, List.length_cons, List.length_nil, List.length_take, List.length_drop, mA_len]; omega)) only [va0, va1, va2, va3, va4, va5, va6, va7, va8, va9, va10, va11, va12, va13, va14, va15, vb0, vb1, vb2, vb3, w_i8, w_u8, w_i16, w_u16, w_i32, w_u32, w_i64, w_u64, lt_T, lt_F, le_T, le_F, nlt_T, nlt_F, nle_T, nle_F, List.take_of_length_le, gB, gcW, gcR, posIn, renA, renL, Chunk.ren, Chunk.refs, evOpD, touchD, stepC, isFresh, nFresh, freshOf, mkR, hole, evL, evH, opd, get, putD, ofVal, cellOf, loadE, behind, lenE, idxAddrE, idxE, addPtr, intE, strE, unE, convE, AV.int, AV.bool, AV.str, ivs, take, frameOf, firstRegion, refsA, refsL, one, cellsA, floatOk, apartT, List.map, if_true, if_false, E_P, E_glob0, E_glob1, reduceCtorEq, beq_self_eq_true, decide_true, decide_false, ↓reduceIte, Nat.reduceEqDiff, cond_true, cond_false, or_true, true_or, or_false, false_or, and_true, true_and, and_self, false_and, and_false, not_true, not_false_iff, Nat.reduceAdd, Nat.reduceSub, Nat.reduceMul, Nat.reduceLT, Nat.reduceLeDiff, Int.reduceToNat, Int.reduceLT, Int.reduceLE, Option.getD, Int.reduceMul, Int.reduceAdd, List.drop, List.take, Nat.reduceBEq, List.isEmpty, Int.reduceEq, Int.reduceNe, Int.reduceNeg, Int.reduceGT, Int.reduceGE, beq_true, beq_false, UInt8.reduceToNat, eqE, eq_self, foldE, maxE, minE, eq_T, eq_F, ndec, odec, adec, sdec, fillA, over, chop, List.replicate, leavesOk, leafOk, cellsEq, cellEq, E_ext, E_byref, en27, h5, hpo, hpu, hput0, e', f3, f6, ht, hs3, mA_len, mA_get0, mA_put0, mA_cn, mA_refs, mA_ren, mA_all, mA_frz, mI_ivs, mI_map, Nat.mul_one, Bool.true_or, Bool.false_or, show ∀ B fr H, execT E B 27 (Code.loop _) fr H = rlG E B 27 (loopAt Tryd.f27 0) (gcn B (norm [3, 6, 8] fr) H) from fun B fr H => rl_intro rfl mt27_15 mb27_15 zf27_15 hd27_15 fr H]
    exact ⟨_, rfl⟩
  · have h5 : 3 ≤ op := by omega
    rw [callT_eq Tryd.func27 rfl fok27 (by simp [Tryd.ntmps27])]
    simp (disch := first | omega | (simp only [List.length_append, List.length_map, List.length_set, List.length_cons, List.length_nil, List.length_take, List.length_drop, mA_len]; omega)) only [va0, va1, va2, va3, va4, va5, va6, va7, va8, va9, va10, va11, va12, va13, va14, va15, vb0, vb1, vb2, vb3, w_i8, w_u8, w_i16, w_u16, w_i32, w_u32, w_i64, w_u64, lt_T, lt_F, le_T, le_F, nlt_T, nlt_F, nle_T, nle_F, List.take_of_length_le, gB, gcW, gcR, posIn, renA, renL, Chunk.ren, Chunk.refs, evOpD, touchD, stepC, isFresh, nFresh, freshOf, mkR, hole, evL, evH, opd, get, putD, ofVal, cellOf, loadE, behind, lenE, idxAddrE, idxE, addPtr, intE, strE, unE, convE, AV.int, AV.bool, AV.str, ivs, take, frameOf, firstRegion, refsA, refsL, one, cellsA, floatOk, apartT, List.map, if_true, if_false, E_P, E_glob0, E_glob1, reduceCtorEq, beq_self_eq_true, decide_true, decide_false, ↓reduceIte, Nat.reduceEqDiff, cond_true, cond_false, or_true, true_or, or_false, false_or, and_true, true_and, and_self, false_and, and_false, not_true, not_false_iff, Nat.reduceAdd, Nat.reduceSub, Nat.reduceMul, Nat.reduceLT, Nat.reduceLeDiff, Int.reduceToNat, Int.reduceLT, Int.reduceLE, Option.getD, Int.reduceMul, Int.reduceAdd, List.drop, List.take, Nat.reduceBEq, List.isEmpty, Int.reduceEq, Int.reduceNe, Int.reduceNeg, Int.reduceGT, Int.reduceGE, beq_true, beq_false, UInt8.reduceToNat, eqE, eq_self, foldE, maxE, minE, eq_T, eq_F, ndec, odec, adec, sdec, fillA, over, chop, List.replicate, leavesOk, leafOk, cellsEq, cellEq, E_ext, E_byref, en27, h5, h3.1, h3.2, hpo, hpu, hput0, e', f3, f6, ht, hs3, mA_len, mA_get0, mA_put0, mA_cn, mA_refs, mA_ren, mA_all, mA_frz, mI_ivs, mI_map, Nat.mul_one, Bool.true_or, Bool.false_or, show ∀ B fr H, execT E B 27 (Code.loop _) fr H = rlG E B 27 (loopAt Tryd.f27 0) (gcn B (norm [3, 6, 8] fr) H) from fun B fr H => rl_intro rfl mt27_15 mb27_15 zf27_15 hd27_15 fr H]
    exact ⟨_, rfl⟩
theorem c27_7 (op d : Int) (h0 : 0 ≤ op) (h1 : op ≤ 20) (hp : popS op ≤ d) (hq : d - popS op + pushS op ≤ 16) (hd : d ≤ 16) (c : Bool) (s : List Bool) (hs : s.length = 16) (h3 : op < 3 ∨ 12 < op ∧ op ≠ 14 ∧ op ≠ 16 ∧ op ≠ 18) (h4 : op = 13 ∨ pushS op ≠ 1) :
    ∃ L, callT E 27 [.agg (mA c s), .i (.v (.int .i64 op)), .i (.v (.int .i64 d))] [] = some (.agg (mA (aft op d c s).1 (aft op d c s).2), L) := by
  have p1 := popS_r op
  have p2 := pushS_r op
  have hpo := pops_at h0 h1
  have hpu := pushes_at h0 h1
  have hal := aft_len op d c s
  have hal1 := aft1_len op d c s
  unfold aft at hal ⊢
  have ha : aft1 op d c s = (c, s) := by unfold aft1; rw [if_neg (by omega), if_neg (by omega), if_neg (by omega), if_neg (by omega), if_neg (by omega), if_neg (by omega)]
  rw [ha] at hal1 hal ⊢
  simp only at hal1 hal ⊢
  clear ha
  generalize popS op = po at *
  generalize pushS op = pu at *
  obtain ⟨fr, e, f3, f6⟩ := l27 c (List.replicate 16 false) (16 - (d - po + pu).toNat) (d - po + pu).toNat (by omega) (s) (by omega)
  have hc : (((d - po + pu).toNat : Nat) : Int) = d - po + pu := by omega
  rw [hc] at e
  generalize clr (16 - (d - po + pu).toNat) (d - po + pu).toNat s = s3 at *
  have e' : rl E 0 27 (loopAt Tryd.f27 0) [(3, .ptr 0 0 0 0), (6, .ptr 1 0 0 0), (8, .i (.v (.int .i64 (d - po + pu))))] [.box (mA c s), .box [.i (.v (.bool false)), .i (.v (.bool false)), .i (.v (.bool false)), .i (.v (.bool false)), .i (.v (.bool false)), .i (.v (.bool false)), .i (.v (.bool false)), .i (.v (.bool false)), .i (.v (.bool false)), .i (.v (.bool false)), .i (.v (.bool false)), .i (.v (.bool false)), .i (.v (.bool false)), .i (.v (.bool false)), .i (.v (.bool false)), .i (.v (.bool false)), .i (.v (.bool false))]] = some (.exit 1, fr, [.box (mA c s3), .box [.i (.v (.bool false)), .i (.v (.bool false)), .i (.v (.bool false)), .i (.v (.bool false)), .i (.v (.bool false)), .i (.v (.bool false)), .i (.v (.bool false)), .i (.v (.bool false)), .i (.v (.bool false)), .i (.v (.bool false)), .i (.v (.bool false)), .i (.v (.bool false)), .i (.v (.bool false)), .i (.v (.bool false)), .i (.v (.bool false)), .i (.v (.bool false)), .i (.v (.bool false))]]) := e
  clear e
  have hs3 : s3.length = 16 := by omega
  have ht := mA_take (c := c) (s := s3) (n := 17) (by omega)
  rcases h3 with h3 | h3
  · have h5 : ¬ 3 ≤ op := by omega
    have h6 := h4.resolve_left (by omega)
    rw [callT_eq Tryd.func27 rfl fok27 (by simp [Tryd.ntmps27])]
    simp (disch := first | omega | (simp only [List.length_append, List.length_map, List.length_set, List.length_cons, List.length_nil, List.length_take, List.length_drop, mA_len]; omega)) only [va0, va1, va2, va3, va4, va5, va6, va7, va8, va9, va10, va11, va12, va13, va14, va15, vb0, vb1, vb2, vb3, w_i8, w_u8, w_i16, w_u16, w_i32, w_u32, w_i64, w_u64, lt_T, lt_F, le_T, le_F, nlt_T, nlt_F, nle_T, nle_F, List.take_of_length_le, gB, gcW, gcR, posIn, renA, renL, Chunk.ren, Chunk.refs, evOpD, touchD, stepC, isFresh, nFresh, freshOf, mkR, hole, evL, evH, opd, get, putD, ofVal, cellOf, loadE, behind, lenE, idxAddrE, idxE, addPtr, intE, strE, unE, convE, AV.int, AV.bool, AV.str, ivs, take, frameOf, firstRegion, refsA, refsL, one, cellsA, floatOk, apartT, List.map, if_true, if_false, E_P, E_glob0, E_glob1, reduceCtorEq, beq_self_eq_true, decide_true, decide_false, ↓reduceIte, Nat.reduceEqDiff, cond_true, cond_false, or_true, true_or, or_false, false_or, and_true, true_and, and_self, false_and, and_false, not_true, not_false_iff, Nat.reduceAdd, Nat.reduceSub, Nat.reduceMul, Nat.reduceLT, Nat.reduceLeDiff, Int.reduceToNat, Int.reduceLT, Int.reduceLE, Option.getD, Int.reduceMul, Int.reduceAdd, List.drop, List.take, Nat.reduceBEq, List.isEmpty, Int.reduceEq, Int.reduceNe, Int.reduceNeg, Int.reduceGT, Int.reduceGE, beq_true, beq_false, UInt8.reduceToNat, eqE, eq_self, foldE, maxE, minE, eq_T, eq_F, ndec, odec, adec, sdec, fillA, over, chop, List.replicate, leavesOk, leafOk, cellsEq, cellEq, E_ext, E_byref, en27, h6, h5, hpo, hpu, e', f3, f6, ht, hs3, mA_len, mA_get0, mA_put0, mA_cn, mA_refs, mA_ren, mA_all, mA_frz, mI_ivs, mI_map, Nat.mul_one, Bool.true_or, Bool.false_or, show ∀ B fr H, execT E B 27 (Code.loop _) fr H = rlG E B 27 (loopAt Tryd.f27 0) (gcn B (norm [3, 6, 8] fr) H) from fun B fr H => rl_intro rfl mt27_15 mb27_15 zf27_15 hd27_15 fr H]
    exact ⟨_, rfl⟩
  · obtain ⟨h5, h6, h7, h8⟩ := h3
    by_cases h9 : op = 13
    · have h10 : 3 ≤ op := by omega
      rw [callT_eq Tryd.func27 rfl fok27 (by simp [Tryd.ntmps27])]
      simp (disch := first | omega | (simp only [List.length_append, List.length_map, List.length_set, List.length_cons, List.length_nil, List.length_take, List.length_drop, mA_len]; omega)) only [va0, va1, va2, va3, va4, va5, va6, va7, va8, va9, va10, va11, va12, va13, va14, va15, vb0, vb1, vb2, vb3, w_i8, w_u8, w_i16, w_u16, w_i32, w_u32, w_i64, w_u64, lt_T, lt_F, le_T, le_F, nlt_T, nlt_F, nle_T, nle_F, List.take_of_length_le, gB, gcW, gcR, posIn, renA, renL, Chunk.ren, Chunk.refs, evOpD, touchD, stepC, isFresh, nFresh, freshOf, mkR, hole, evL, evH, opd, get, putD, ofVal, cellOf, loadE, behind, lenE, idxAddrE, idxE, addPtr, intE, strE, unE, convE, AV.int, AV.bool, AV.str, ivs, take, frameOf, firstRegion, refsA, refsL, one, cellsA, floatOk, apartT, List.map, if_true, if_false, E_P, E_glob0, E_glob1, reduceCtorEq, beq_self_eq_true, decide_true, decide_false, ↓reduceIte, Nat.reduceEqDiff, cond_true, cond_false, or_true, true_or, or_false, false_or, and_true, true_and, and_self, false_and, and_false, not_true, not_false_iff, Nat.reduceAdd, Nat.reduceSub, Nat.reduceMul, Nat.reduceLT, Nat.reduceLeDiff, Int.reduceToNat, Int.reduceLT, Int.reduceLE, Option.getD, Int.reduceMul, Int.reduceAdd, List.drop, List.take, Nat.reduceBEq, List.isEmpty, Int.reduceEq, Int.reduceNe, Int.reduceNeg, Int.reduceGT, Int.reduceGE, beq_true, beq_false, UInt8.reduceToNat, eqE, eq_self, foldE, maxE, minE, eq_T, eq_F, ndec, odec, adec, sdec, fillA, over, chop, List.replicate, leavesOk, leafOk, cellsEq, cellEq, E_ext, E_byref, en27, h10, h5, h6, h7, h8, hpo, hpu, e', f3, f6, ht, hs3, mA_len, mA_get0, mA_put0, mA_cn, mA_refs, mA_ren, mA_all, mA_frz, mI_ivs, mI_map, Nat.mul_one, Bool.true_or, Bool.false_or, show ∀ B fr H, execT E B 27 (Code.loop _) fr H = rlG E B 27 (loopAt Tryd.f27 0) (gcn B (norm [3, 6, 8] fr) H) from fun B fr H => rl_intro rfl mt27_15 mb27_15 zf27_15 hd27_15 fr H]
      exact ⟨_, rfl⟩
    · have h10 := h4.resolve_left h9
      rw [callT_eq Tryd.func27 rfl fok27 (by simp [Tryd.ntmps27])]
      simp (disch := first | omega | (simp only [List.length_append, List.length_map, List.length_set, List.length_cons, List.length_nil, List.length_take, List.length_drop, mA_len]; omega)) only [va0, va1, va2, va3, va4, va5, va6, va7, va8, va9, va10, va11, va12, va13, va14, va15, vb0, vb1, vb2, vb3, w_i8, w_u8, w_i16, w_u16, w_i32, w_u32, w_i64, w_u64, lt_T, lt_F, le_T, le_F, nlt_T, nlt_F, nle_T, nle_F, List.take_of_length_le, gB, gcW, gcR, posIn, renA, renL, Chunk.ren, Chunk.refs, evOpD, touchD, stepC, isFresh, nFresh, freshOf, mkR, hole, evL, evH, opd, get, putD, ofVal, cellOf, loadE, behind, lenE, idxAddrE, idxE, addPtr, intE, strE, unE, convE, AV.int, AV.bool, AV.str, ivs, take, frameOf, firstRegion, refsA, refsL, one, cellsA, floatOk, apartT, List.map, if_true, if_false, E_P, E_glob0, E_glob1, reduceCtorEq, beq_self_eq_true, decide_true, decide_false, ↓reduceIte, Nat.reduceEqDiff, cond_true, cond_false, or_true, true_or, or_false, false_or, and_true, true_and, and_self, false_and, and_false, not_true, not_false_iff, Nat.reduceAdd, Nat.reduceSub, Nat.reduceMul, Nat.reduceLT, Nat.reduceLeDiff, Int.reduceToNat, Int.reduceLT, Int.reduceLE, Option.getD, Int.reduceMul, Int.reduceAdd, List.drop, List.take, Nat.reduceBEq, List.isEmpty, Int.reduceEq, Int.reduceNe, Int.reduceNeg, Int.reduceGT, Int.reduceGE, beq_true, beq_false, UInt8.reduceToNat, eqE, eq_self, foldE, maxE, minE, eq_T, eq_F, ndec, odec, adec, sdec, fillA, over, chop, List.replicate, leavesOk, leafOk, cellsEq, cellEq, E_ext, E_byref, en27, h9, h10, h5, h6, h7, h8, hpo, hpu, e', f3, f6, ht, hs3, mA_len, mA_get0, mA_put0, mA_cn, mA_refs, mA_ren, mA_all, mA_frz, mI_ivs, mI_map, Nat.mul_one, Bool.true_or, Bool.false_or, show ∀ B fr H, execT E B 27 (Code.loop _) fr H = rlG E B 27 (loopAt Tryd.f27 0) (gcn B (norm [3, 6, 8] fr) H) from fun B fr H => rl_intro rfl mt27_15 mb27_15 zf27_15 hd27_15 fr H]
      exact ⟨_, rfl⟩
theorem c27 (op d : Int) (h0 : 0 ≤ op) (h1 : op ≤ 20) (hp : popS op ≤ d) (hq : d - popS op + pushS op ≤ 16) (hd : d ≤ 16) (c : Bool) (s : List Bool) (hs : s.length = 16) :
    ∃ L, callT E 27 [.agg (mA c s), .i (.v (.int .i64 op)), .i (.v (.int .i64 d))] [] = some (.agg (mA (aft op d c s).1 (aft op d c s).2), L) := by
  by_cases a1 : 3 ≤ op ∧ op ≤ 5
  · exact c27_1 op d h0 h1 hp hq hd c s hs a1
  by_cases a2 : 8 ≤ op ∧ op ≤ 12
  · exact c27_2 op d h0 h1 hp hq hd c s hs a2
  by_cases a3 : op = 14
  · exact c27_3 op d h0 h1 hp hq hd c s hs a3
  by_cases a4 : op = 16
  · exact c27_4 op d h0 h1 hp hq hd c s hs a4
  by_cases a5 : op = 18
  · exact c27_5 op d h0 h1 hp hq hd c s hs a5
  by_cases a6 : op < 3 ∨ 5 < op ∧ op < 8
  · by_cases a7 : pushS op = 1
    · exact c27_6 op d h0 h1 hp hq hd c s hs a6 a7
    · by_cases a8 : op < 3
      · exact c27_7 op d h0 h1 hp hq hd c s hs (.inl a8) (.inr a7)
      · exfalso
        have : op = 6 ∨ op = 7 := by omega
        rcases this with h | h <;> subst h <;> exact a7 (by decide)
  · refine c27_7 op d h0 h1 hp hq hd c s hs (.inr ⟨by omega, a3, a4, a5⟩) ?_
    have : op = 13 ∨ op = 15 ∨ op = 17 ∨ op = 19 ∨ op = 20 := by omega
    rcases this with h | h | h | h | h <;> subst h <;> decide
end Go.VI

namespace Go.VI
open Go.Proofs
set_option maxRecDepth 100000
set_option linter.unusedSimpArgs false
set_option linter.unusedVariables false
set_option maxHeartbeats 4000000
section
variable {E : Env} {B : Nat} {f : FuncId} {fn : Func} {k j : Nat} {c : Code} {hd : List Nat}
def loopIn (fn : Func) (k j : Nat) : Code := (loops (rfAt fn k).2).getD j .skip
theorem rl_introI (hc : loopIn fn k j = .loop c) (hm : E.mat f ((firstRegion c).getD 0) = []) (hb : E.matb f ((firstRegion c).getD 0) = []) (hz : E.frz f ((firstRegion c).getD 0) = []) (hh : E.head f ((firstRegion c).getD 0) = hd) (fr : Fr) (H : Hp) : execT E B f (.loop c) fr H = rlG E B f (loopIn fn k j) (gcn B (norm hd fr) H) := by
  unfold rlG rl
  rw [hc, execT_loop]
  simp only [hdE, hm, hb, hz, hh, matF_nil, matB_nil, frzF_nil]
theorem rl_stepI (hc : loopIn fn k j = .loop c) (fr : Fr) (H : Hp) : rl E B f (loopIn fn k j) fr H = seqK (execT E B f (.loop c)) (execT E B f c fr H) := by
  unfold rl
  rw [hc]
end
abbrev Mk := Bool × List Bool
def rowsM (ms : List Mk) : List (List IV) := ms.map fun m => mI m.1 m.2
def getM (ms : List Mk) (k : Nat) : Mk := ms.getD k (false, [])
theorem rowsM_len (ms : List Mk) : (rowsM ms).length = ms.length := by simp [rowsM]
theorem rowsM_get {ms : List Mk} {k : Nat} (h : k < ms.length) : (rowsM ms)[k]? = some (mI (getM ms k).1 (getM ms k).2) := by
  rw [getM, List.getD_eq_getElem?_getD, List.getElem?_eq_getElem h]; simp [rowsM, h]
theorem rowsM_set (ms : List Mk) (k : Nat) (c : Bool) (s : List Bool) : (rowsM ms).set k (mI c s) = rowsM (ms.set k (c, s)) := by simp [rowsM, List.map_set]
theorem mI_get {c : Bool} {s : List Bool} {k : Nat} (h : k < s.length) : (mI c s)[1 + k]? = some (.v (.bool (s.getD k false))) := by
  rw [Nat.add_comm, List.getD_eq_getElem?_getD, List.getElem?_eq_getElem h]; simp [mI, h]
theorem mI_get0 (c : Bool) (s : List Bool) : (mI c s)[0]? = some (.v (.bool c)) := rfl
theorem mI_put {c : Bool} {s : List Bool} {k : Nat} (h : k < s.length) (x : Bool) : List.take (1 + k) (mI c s) ++ [.v (.bool x)] ++ List.drop (1 + k + 1) (mI c s) = mI c (s.set k x) := by
  have h1 : (mI c s).set (k + 1) (.v (.bool x)) = mI c (s.set k x) := by simp [mI, List.map_set]
  rw [← h1, List.set_eq_take_append_cons_drop, if_pos (by rw [mI_len]; omega), Nat.add_comm 1 k]
  simp
theorem mI_tail (c x : Bool) (s : List Bool) : IV.v (.bool x) :: List.drop 1 (mI c s) = mI x s := rfl
def orR : Nat → Nat → List Bool → List Bool → List Bool
  | 0, _, _, t => t
  | r + 1, j, s, t => orR r (j + 1) s (t.set j (t.getD j false || s.getD j false))
theorem orR_len : ∀ (r j : Nat) (s t : List Bool), (orR r j s t).length = t.length
  | 0, j, s, t => rfl
  | r + 1, j, s, t => by rw [orR, orR_len r, List.length_set]
theorem getM_set {ms : List Mk} {k : Nat} (h : k < ms.length) (m : Mk) : getM (ms.set k m) k = m := by
  rw [getM, List.getD_eq_getElem?_getD, List.getElem?_set_self (by simpa using h)]; rfl
def arr (s : List Bool) : List AV := s.map fun b => .i (.v (.bool b))
theorem arr_get {s : List Bool} {k : Nat} (h : k < s.length) : (arr s)[k]? = some (.i (.v (.bool (s.getD k false)))) := by
  rw [List.getD_eq_getElem?_getD, List.getElem?_eq_getElem h]; simp [arr, h]
theorem arr_len (s : List Bool) : (arr s).length = s.length := by simp [arr]
theorem arr_cn (B : Nat) (H : Hp) : ∀ s : List Bool, cnL B H (arr s) = arr s
  | [] => rfl
  | b :: s => by
    have ih := arr_cn B H s
    unfold arr at ih ⊢
    rw [List.map_cons, cnL, ih]; rfl
theorem arr_refs : ∀ s : List Bool, refsL (arr s) = []
  | [] => rfl
  | b :: s => by
    have ih := arr_refs s
    unfold arr at ih ⊢
    rw [List.map_cons, refsL, ih]; rfl
theorem arr_ren (ρ : Nat → Option Nat) : ∀ s : List Bool, renL ρ (arr s) = arr s
  | [] => rfl
  | b :: s => by
    have ih := arr_ren ρ s
    unfold arr at ih ⊢
    rw [List.map_cons, renL, ih]; rfl
theorem l18_1 (n : Nat) (hn : n < 10000) (op arg i : Int) (c : Bool) (s : List Bool) (hs : s.length = 16) (x : Nat) (hx : x < n) : ∀ (r j : Nat) (hj : j + r = 16) (ms : List Mk) (hm : ms.length = n) (t : Mk) (ht : getM ms x = t) (htl : t.2.length = 16),
    ∃ fr, rl E 6 18 (loopIn Tryd.f18 0 0) [(6, .ptr 0 0 0 0), (10, .i (.v (.int .i64 x))), (89, .agg (arr s)), (90, .i (.v (.int .i64 j)))] [.box [.ref 1 0 0 (n)], .sl 17 0 (rowsM (ms)) false, .box [.i (.v (.int .i64 (op))), .i (.v (.int .i64 (arg)))], .box (mA (c) (s)), .box [.i (.v (.int .i64 (op))), .i (.v (.int .i64 (arg)))], .box [.i (.v (.int .i64 (i)))]] = some (.exit 4, fr, [.box [.ref 1 0 0 (n)], .sl 17 0 (rowsM (ms.set x (t.1, orR r j s t.2))) false, .box [.i (.v (.int .i64 (op))), .i (.v (.int .i64 (arg)))], .box (mA (c) (s)), .box [.i (.v (.int .i64 (op))), .i (.v (.int .i64 (arg)))], .box [.i (.v (.int .i64 (i)))]])
  | 0, j, hj, ms, hm, t, ht, htl => by
    rw [rl_stepI (fn := Tryd.f18) (k := 0) (j := 0) rfl]
    obtain rfl : j = 16 := by omega
    have hset : ms.set x (t.1, t.2) = ms := by
      rw [← ht, getM, List.getD_eq_getElem?_getD, List.getElem?_eq_getElem (by omega)]
      exact List.set_getElem_self (by omega)
    rw [orR, hset]
    simp (disch := first | omega | (simp only [List.length_append, List.length_map, List.length_set, List.length_cons, List.length_nil, List.length_take, List.length_drop]; omega)) only [va0, va1, va2, va3, va4, va5, va6, va7, va8, va9, va10, va11, va12, va13, va14, va15, vb0, vb1, vb2, vb3, w_i8, w_u8, w_i16, w_u16, w_i32, w_u32, w_i64, w_u64, lt_T, lt_F, le_T, le_F, nlt_T, nlt_F, nle_T, nle_F, List.take_of_length_le, gB, gcW, gcR, posIn, renA, renL, Chunk.ren, Chunk.refs, evOpD, touchD, stepC, isFresh, nFresh, freshOf, mkR, hole, evL, evH, opd, get, putD, ofVal, cellOf, loadE, behind, lenE, idxAddrE, idxE, addPtr, intE, strE, unE, convE, AV.int, AV.bool, AV.str, ivs, take, frameOf, firstRegion, refsA, refsL, one, cellsA, floatOk, apartT, List.map, if_true, if_false, E_P, E_glob0, E_glob1, reduceCtorEq, beq_self_eq_true, decide_true, decide_false, ↓reduceIte, Nat.reduceEqDiff, cond_true, cond_false, or_true, true_or, or_false, false_or, and_true, true_and, and_self, false_and, and_false, not_true, not_false_iff, Nat.reduceAdd, Nat.reduceSub, Nat.reduceMul, Nat.reduceLT, Nat.reduceLeDiff, Int.reduceToNat, Int.reduceLT, Int.reduceLE, Option.getD, Int.reduceMul, Int.reduceAdd, List.drop, List.take, Nat.reduceBEq, List.isEmpty, Int.reduceEq, Int.reduceNe, Int.reduceNeg, Int.reduceGT, Int.reduceGE, beq_true, beq_false, UInt8.reduceToNat, eqE, eq_self, foldE, maxE, minE, eq_T, eq_F, ndec, odec, adec, sdec, fillA, over, chop, List.replicate, leavesOk, leafOk, cellsEq, cellEq, E_ext, E_byref, en18, bs22, bs24, bs55, show List.range 6 = [0, 1, 2, 3, 4, 5] from rfl, arr_cn, arr_refs, arr_ren, mA_cn, mA_refs, mA_ren, show ∀ B fr H, execT E B 18 (Code.loop _) fr H = rlG E B 18 (loopIn Tryd.f18 0 0) (gcn B (norm [6, 10, 89, 90] fr) H) from fun B fr H => rl_introI rfl mt18_17 mb18_17 zf18_17 hd18_17 fr H]
    exact ⟨_, rfl⟩
  | r + 1, j, hj, ms, hm, t, ht, htl => by
    rw [rl_stepI (fn := Tryd.f18) (k := 0) (j := 0) rfl]
    rw [orR]
    have hrow := rowsM_get (ms := ms) (k := x) (by omega)
    rw [ht] at hrow
    obtain ⟨tc, ts⟩ := t
    simp only at hrow htl ⊢
    obtain ⟨fr, e⟩ := l18_1 n hn op arg i c s hs x hx r (j + 1) (by omega) (ms.set x (tc, ts.set j (ts.getD j false || s.getD j false))) (by rw [List.length_set]; exact hm) (tc, ts.set j (ts.getD j false || s.getD j false)) (getM_set (by omega) _) (by rw [List.length_set]; exact htl)
    rw [List.set_set] at e
    refine ⟨fr, Eq.trans ?_ e⟩
    clear e ht
    have hg := mI_get (c := tc) (s := ts) (k := j) (by omega)
    have ha := arr_get (s := s) (k := j) (by omega)
    have hput := mI_put (c := tc) (s := ts) (k := j) (by omega) (ts.getD j false || s.getD j false)
    have hst := rowsM_set ms x tc (ts.set j (ts.getD j false || s.getD j false))
    generalize ts.getD j false = tb at *
    generalize s.getD j false = sb at *
    have hal := arr_len s
    cases tb
    · simp only [Bool.false_or] at hput hst ⊢
      simp (disch := first | omega | (simp only [List.length_append, List.length_map, List.length_set, List.length_cons, List.length_nil, List.length_take, List.length_drop, rowsM_len, mI_len]; omega)) only [va0, va1, va2, va3, va4, va5, va6, va7, va8, va9, va10, va11, va12, va13, va14, va15, vb0, vb1, vb2, vb3, w_i8, w_u8, w_i16, w_u16, w_i32, w_u32, w_i64, w_u64, lt_T, lt_F, le_T, le_F, nlt_T, nlt_F, nle_T, nle_F, List.take_of_length_le, gB, gcW, gcR, posIn, renA, renL, Chunk.ren, Chunk.refs, evOpD, touchD, stepC, isFresh, nFresh, freshOf, mkR, hole, evL, evH, opd, get, putD, ofVal, cellOf, loadE, behind, lenE, idxAddrE, idxE, addPtr, intE, strE, unE, convE, AV.int, AV.bool, AV.str, ivs, take, frameOf, firstRegion, refsA, refsL, one, cellsA, floatOk, apartT, List.map, if_true, if_false, E_P, E_glob0, E_glob1, reduceCtorEq, beq_self_eq_true, decide_true, decide_false, ↓reduceIte, Nat.reduceEqDiff, cond_true, cond_false, or_true, true_or, or_false, false_or, and_true, true_and, and_self, false_and, and_false, not_true, not_false_iff, Nat.reduceAdd, Nat.reduceSub, Nat.reduceMul, Nat.reduceLT, Nat.reduceLeDiff, Int.reduceToNat, Int.reduceLT, Int.reduceLE, Option.getD, Int.reduceMul, Int.reduceAdd, List.drop, List.take, Nat.reduceBEq, List.isEmpty, Int.reduceEq, Int.reduceNe, Int.reduceNeg, Int.reduceGT, Int.reduceGE, beq_true, beq_false, UInt8.reduceToNat, eqE, eq_self, foldE, maxE, minE, eq_T, eq_F, ndec, odec, adec, sdec, fillA, over, chop, List.replicate, leavesOk, leafOk, cellsEq, cellEq, E_ext, E_byref, en18, bs22, bs24, bs55, hrow, hg, ha, hput, hst, hal, hs, rowsM_len, mI_len, Nat.mul_one, show List.range 6 = [0, 1, 2, 3, 4, 5] from rfl, arr_cn, arr_refs, arr_ren, mA_cn, mA_refs, mA_ren, show ∀ B fr H, execT E B 18 (Code.loop _) fr H = rlG E B 18 (loopIn Tryd.f18 0 0) (gcn B (norm [6, 10, 89, 90] fr) H) from fun B fr H => rl_introI rfl mt18_17 mb18_17 zf18_17 hd18_17 fr H]
    · simp only [Bool.true_or] at hput hst ⊢
      simp (disch := first | omega | (simp only [List.length_append, List.length_map, List.length_set, List.length_cons, List.length_nil, List.length_take, List.length_drop, rowsM_len, mI_len]; omega)) only [va0, va1, va2, va3, va4, va5, va6, va7, va8, va9, va10, va11, va12, va13, va14, va15, vb0, vb1, vb2, vb3, w_i8, w_u8, w_i16, w_u16, w_i32, w_u32, w_i64, w_u64, lt_T, lt_F, le_T, le_F, nlt_T, nlt_F, nle_T, nle_F, List.take_of_length_le, gB, gcW, gcR, posIn, renA, renL, Chunk.ren, Chunk.refs, evOpD, touchD, stepC, isFresh, nFresh, freshOf, mkR, hole, evL, evH, opd, get, putD, ofVal, cellOf, loadE, behind, lenE, idxAddrE, idxE, addPtr, intE, strE, unE, convE, AV.int, AV.bool, AV.str, ivs, take, frameOf, firstRegion, refsA, refsL, one, cellsA, floatOk, apartT, List.map, if_true, if_false, E_P, E_glob0, E_glob1, reduceCtorEq, beq_self_eq_true, decide_true, decide_false, ↓reduceIte, Nat.reduceEqDiff, cond_true, cond_false, or_true, true_or, or_false, false_or, and_true, true_and, and_self, false_and, and_false, not_true, not_false_iff, Nat.reduceAdd, Nat.reduceSub, Nat.reduceMul, Nat.reduceLT, Nat.reduceLeDiff, Int.reduceToNat, Int.reduceLT, Int.reduceLE, Option.getD, Int.reduceMul, Int.reduceAdd, List.drop, List.take, Nat.reduceBEq, List.isEmpty, Int.reduceEq, Int.reduceNe, Int.reduceNeg, Int.reduceGT, Int.reduceGE, beq_true, beq_false, UInt8.reduceToNat, eqE, eq_self, foldE, maxE, minE, eq_T, eq_F, ndec, odec, adec, sdec, fillA, over, chop, List.replicate, leavesOk, leafOk, cellsEq, cellEq, E_ext, E_byref, en18, bs22, bs24, bs55, hrow, hg, ha, hput, hst, hal, hs, rowsM_len, mI_len, Nat.mul_one, show List.range 6 = [0, 1, 2, 3, 4, 5] from rfl, arr_cn, arr_refs, arr_ren, mA_cn, mA_refs, mA_ren, show ∀ B fr H, execT E B 18 (Code.loop _) fr H = rlG E B 18 (loopIn Tryd.f18 0 0) (gcn B (norm [6, 10, 89, 90] fr) H) from fun B fr H => rl_introI rfl mt18_17 mb18_17 zf18_17 hd18_17 fr H]
end Go.VI

namespace Go.VI
open Go.Proofs
set_option maxRecDepth 100000
set_option linter.unusedSimpArgs false
set_option linter.unusedVariables false
set_option maxHeartbeats 4000000
def joinM (m t : Mk) : Mk := (t.1 || m.1, orR 16 0 m.2 t.2)
def hSet (m : Mk) : List Int → List Mk → List Mk
  | [], ms => ms
  | x :: xs, ms => hSet m xs (ms.set x.toNat (joinM m (getM ms x.toNat)))
theorem hSet_len (m : Mk) : ∀ (xs : List Int) (ms : List Mk), (hSet m xs ms).length = ms.length
  | [], ms => rfl
  | x :: xs, ms => by rw [hSet, hSet_len m xs, List.length_set]
def Wf (ms : List Mk) : Prop := ∀ m ∈ ms, m.2.length = 16
theorem Wf.get {ms : List Mk} (h : Wf ms) {k : Nat} (hk : k < ms.length) : (getM ms k).2.length = 16 := by
  rw [getM, List.getD_eq_getElem?_getD, List.getElem?_eq_getElem hk]; exact h _ (List.getElem_mem _)
theorem Wf.set {ms : List Mk} (h : Wf ms) (k : Nat) {m : Mk} (hm : m.2.length = 16) : Wf (ms.set k m) := fun x hx => by
  rcases List.mem_or_eq_of_mem_set hx with h1 | h1
  · exact h x h1
  · rw [h1]; exact hm
theorem Wf.hSet {m : Mk} : ∀ (xs : List Int) {ms : List Mk}, Wf ms → (∀ x ∈ xs, 0 ≤ x ∧ x < ms.length) → Wf (hSet m xs ms)
  | [], ms, h, hx => h
  | x :: xs, ms, h, hx => by
    rw [VI.hSet]
    have := hx x (.head _)
    exact Wf.hSet xs (h.set _ (by rw [joinM, orR_len]; exact h.get (by omega))) (fun y hy => by rw [List.length_set]; exact hx y (.tail _ hy))
theorem rd18 (l : List Ins) (ds : List Int) (n : Nat) (hn : n < 10000) (op arg i k : Int) (c : Bool) (s : List Bool) (hs : s.length = 16) (x : Int) (hx : 0 ≤ x ∧ x < n) (ms : List Mk) (hm : ms.length = n) (hw : Wf ms) :
    rdF E 18 (rfAt Tryd.f18 0) ((74, .i (.v (.int .i64 x))) :: [(2, .i (.v (.bool false))), (3, .i (.v (.int .i64 0))), (4, .i (.sl 1 (rows64 ds) false)), (6, .ptr 0 0 0 0), (9, .ptr 3 0 0 0), (25, .i (.sl 2 (rowsI l) false)), (26, .i (.v (.int .i64 l.length))), (27, .i (.v (.int .i64 (k)))), (73, .clo (.func 32) [] [.ptr 4 0 0 0, .ptr 5 0 0 0])]) [.box [.ref 1 0 0 (n)], .sl 17 0 (rowsM (ms)) false, .box [.i (.v (.int .i64 (op))), .i (.v (.int .i64 (arg)))], .box (mA (c) (s)), .box [.i (.v (.int .i64 (op))), .i (.v (.int .i64 (arg)))], .box [.i (.v (.int .i64 (i)))]] = some (.normal, [.box [.ref 1 0 0 (n)], .sl 17 0 (rowsM (ms.set x.toNat (joinM (c, s) (getM ms x.toNat)))) false, .box [.i (.v (.int .i64 (op))), .i (.v (.int .i64 (arg)))], .box (mA (c) (s)), .box [.i (.v (.int .i64 (op))), .i (.v (.int .i64 (arg)))], .box [.i (.v (.int .i64 (i)))]]) := by
  have hxn : x.toNat < ms.length := by omega
  have hrow := rowsM_get hxn
  have htl := hw.get hxn
  generalize ht : getM ms x.toNat = t at *
  obtain ⟨tc, ts⟩ := t
  simp only [joinM] at hrow htl ⊢
  obtain ⟨fr, e⟩ := l18_1 n hn op arg i c s hs x.toNat (by omega) 16 0 rfl (ms.set x.toNat (tc || c, ts)) (by rw [List.length_set]; exact hm) (tc || c, ts) (getM_set hxn _) htl
  rw [List.set_set] at e
  have hc : ((x.toNat : Nat) : Int) = x := by omega
  rw [hc] at e
  have e' : rl E 6 18 (loopIn Tryd.f18 0 0) [(6, .ptr 0 0 0 0), (10, .i (.v (.int .i64 x))), (89, .agg (arr s)), (90, .i (.v (.int .i64 0)))] [.box [.ref 1 0 0 (n)], .sl 17 0 (rowsM (ms.set x.toNat (tc || c, ts))) false, .box [.i (.v (.int .i64 (op))), .i (.v (.int .i64 (arg)))], .box (mA (c) (s)), .box [.i (.v (.int .i64 (op))), .i (.v (.int .i64 (arg)))], .box [.i (.v (.int .i64 (i)))]] = _ := e
  clear e
  have hst := rowsM_set ms x.toNat (tc || c) ts
  have harr : List.drop 1 (mA c s) = arr s := rfl
  have hart : List.take 16 (arr s) = arr s := List.take_of_length_le (by rw [arr_len, hs]; exact Nat.le_refl _)
  generalize orR 16 0 s ts = ts2 at *
  cases tc
  · simp only [Bool.false_or] at hst e' ⊢
    rw [rd_step (fn := Tryd.f18) (k := 0) rfl]
    simp (disch := first | omega | (simp only [List.length_append, List.length_map, List.length_set, List.length_cons, List.length_nil, List.length_take, List.length_drop, rowsM_len, mI_len, mA_len]; omega)) only [va0, va1, va2, va3, va4, va5, va6, va7, va8, va9, va10, va11, va12, va13, va14, va15, vb0, vb1, vb2, vb3, w_i8, w_u8, w_i16, w_u16, w_i32, w_u32, w_i64, w_u64, lt_T, lt_F, le_T, le_F, nlt_T, nlt_F, nle_T, nle_F, List.take_of_length_le, gB, gcW, gcR, posIn, renA, renL, Chunk.ren, Chunk.refs, evOpD, touchD, stepC, isFresh, nFresh, freshOf, mkR, hole, evL, evH, opd, get, putD, ofVal, cellOf, loadE, behind, lenE, idxAddrE, idxE, addPtr, intE, strE, unE, convE, AV.int, AV.bool, AV.str, ivs, take, frameOf, firstRegion, refsA, refsL, one, cellsA, floatOk, apartT, List.map, if_true, if_false, E_P, E_glob0, E_glob1, reduceCtorEq, beq_self_eq_true, decide_true, decide_false, ↓reduceIte, Nat.reduceEqDiff, cond_true, cond_false, or_true, true_or, or_false, false_or, and_true, true_and, and_self, false_and, and_false, not_true, not_false_iff, Nat.reduceAdd, Nat.reduceSub, Nat.reduceMul, Nat.reduceLT, Nat.reduceLeDiff, Int.reduceToNat, Int.reduceLT, Int.reduceLE, Option.getD, Int.reduceMul, Int.reduceAdd, List.drop, List.take, Nat.reduceBEq, List.isEmpty, Int.reduceEq, Int.reduceNe, Int.reduceNeg, Int.reduceGT, Int.reduceGE, beq_true, beq_false, UInt8.reduceToNat, eqE, eq_self, foldE, maxE, minE, eq_T, eq_F, ndec, odec, adec, sdec, fillA, over, chop, List.replicate, leavesOk, leafOk, cellsEq, cellEq, E_ext, E_byref, en18, bs22, bs24, bs55, hrow, hst, hs, harr, hart, e', rowsM_len, mI_len, mA_len, mI_get0, mA_get0, mI_tail, Nat.mul_one, show List.range 6 = [0, 1, 2, 3, 4, 5] from rfl, arr_cn, arr_refs, arr_ren, mA_cn, mA_refs, mA_ren, show ∀ B fr H, execT E B 18 (Code.loop _) fr H = rlG E B 18 (loopIn Tryd.f18 0 0) (gcn B (norm [6, 10, 89, 90] fr) H) from fun B fr H => rl_introI rfl mt18_17 mb18_17 zf18_17 hd18_17 fr H]
  · simp only [Bool.true_or] at hst e' ⊢
    rw [rd_step (fn := Tryd.f18) (k := 0) rfl]
    simp (disch := first | omega | (simp only [List.length_append, List.length_map, List.length_set, List.length_cons, List.length_nil, List.length_take, List.length_drop, rowsM_len, mI_len, mA_len]; omega)) only [va0, va1, va2, va3, va4, va5, va6, va7, va8, va9, va10, va11, va12, va13, va14, va15, vb0, vb1, vb2, vb3, w_i8, w_u8, w_i16, w_u16, w_i32, w_u32, w_i64, w_u64, lt_T, lt_F, le_T, le_F, nlt_T, nlt_F, nle_T, nle_F, List.take_of_length_le, gB, gcW, gcR, posIn, renA, renL, Chunk.ren, Chunk.refs, evOpD, touchD, stepC, isFresh, nFresh, freshOf, mkR, hole, evL, evH, opd, get, putD, ofVal, cellOf, loadE, behind, lenE, idxAddrE, idxE, addPtr, intE, strE, unE, convE, AV.int, AV.bool, AV.str, ivs, take, frameOf, firstRegion, refsA, refsL, one, cellsA, floatOk, apartT, List.map, if_true, if_false, E_P, E_glob0, E_glob1, reduceCtorEq, beq_self_eq_true, decide_true, decide_false, ↓reduceIte, Nat.reduceEqDiff, cond_true, cond_false, or_true, true_or, or_false, false_or, and_true, true_and, and_self, false_and, and_false, not_true, not_false_iff, Nat.reduceAdd, Nat.reduceSub, Nat.reduceMul, Nat.reduceLT, Nat.reduceLeDiff, Int.reduceToNat, Int.reduceLT, Int.reduceLE, Option.getD, Int.reduceMul, Int.reduceAdd, List.drop, List.take, Nat.reduceBEq, List.isEmpty, Int.reduceEq, Int.reduceNe, Int.reduceNeg, Int.reduceGT, Int.reduceGE, beq_true, beq_false, UInt8.reduceToNat, eqE, eq_self, foldE, maxE, minE, eq_T, eq_F, ndec, odec, adec, sdec, fillA, over, chop, List.replicate, leavesOk, leafOk, cellsEq, cellEq, E_ext, E_byref, en18, bs22, bs24, bs55, hrow, hst, hs, harr, hart, e', rowsM_len, mI_len, mA_len, mI_get0, mA_get0, mI_tail, Nat.mul_one, show List.range 6 = [0, 1, 2, 3, 4, 5] from rfl, arr_cn, arr_refs, arr_ren, mA_cn, mA_refs, mA_ren, show ∀ B fr H, execT E B 18 (Code.loop _) fr H = rlG E B 18 (loopIn Tryd.f18 0 0) (gcn B (norm [6, 10, 89, 90] fr) H) from fun B fr H => rl_introI rfl mt18_17 mb18_17 zf18_17 hd18_17 fr H]
theorem rg18 (l : List Ins) (ds : List Int) (n : Nat) (hn : n < 10000) (op arg k : Int) (i : Int) (c : Bool) (s : List Bool) (hs : s.length = 16) : ∀ (xs : List Int), (∀ x ∈ xs, 0 ≤ x ∧ x < n) → ∀ ms : List Mk, ms.length = n → Wf ms →
    rgE (rdF E 18 (rfAt Tryd.f18 0)) 74 [(2, .i (.v (.bool false))), (3, .i (.v (.int .i64 0))), (4, .i (.sl 1 (rows64 ds) false)), (6, .ptr 0 0 0 0), (9, .ptr 3 0 0 0), (25, .i (.sl 2 (rowsI l) false)), (26, .i (.v (.int .i64 l.length))), (27, .i (.v (.int .i64 (k)))), (73, .clo (.func 32) [] [.ptr 4 0 0 0, .ptr 5 0 0 0])] [.ptr 4 0 0 0, .ptr 5 0 0 0] [[op, arg], [i]] xs [.box [.ref 1 0 0 (n)], .sl 17 0 (rowsM (ms)) false, .box [.i (.v (.int .i64 (op))), .i (.v (.int .i64 (arg)))], .box (mA (c) (s)), .box [.i (.v (.int .i64 (op))), .i (.v (.int .i64 (arg)))], .box [.i (.v (.int .i64 (i)))]] = some (.normal, [(2, .i (.v (.bool false))), (3, .i (.v (.int .i64 0))), (4, .i (.sl 1 (rows64 ds) false)), (6, .ptr 0 0 0 0), (9, .ptr 3 0 0 0), (25, .i (.sl 2 (rowsI l) false)), (26, .i (.v (.int .i64 l.length))), (27, .i (.v (.int .i64 (k)))), (73, .clo (.func 32) [] [.ptr 4 0 0 0, .ptr 5 0 0 0])], [.box [.ref 1 0 0 (n)], .sl 17 0 (rowsM (hSet (c, s) xs ms)) false, .box [.i (.v (.int .i64 (op))), .i (.v (.int .i64 (arg)))], .box (mA (c) (s)), .box [.i (.v (.int .i64 (op))), .i (.v (.int .i64 (arg)))], .box [.i (.v (.int .i64 (i)))]])
  | [], _, ms, hm, hw => rfl
  | x :: xs, hx, ms, hm, hw => by
    have hx0 := hx x (.head _)
    have h1 := rd18 l ds n hn op arg i k c s hs x hx0 ms hm hw
    rw [rgE_cons, h1, rgN_n, if_pos (show capsI _ [.ptr 4 0 0 0, .ptr 5 0 0 0] = some [[op, arg], [i]] from rfl), hSet]
    exact rg18 l ds n hn op arg k i c s hs xs (fun y hy => hx y (.tail _ hy)) _ (by simpa using hm) (hw.set _ (by rw [joinM, orR_len]; exact hw.get (by omega)))
end Go.VI

namespace Go.VI
open Go.Proofs
set_option maxRecDepth 100000
set_option linter.unusedSimpArgs false
set_option linter.unusedVariables false
set_option maxHeartbeats 4000000
theorem ik27 (op d : Int) (h0 : 0 ≤ op) (h1 : op ≤ 20) (hp : popS op ≤ d) (hq : d - popS op + pushS op ≤ 16) (hd : d ≤ 16) (c : Bool) (s : List Bool) (hs : s.length = 16) (H : Hp) :
    isoK E (callT E) 27 [.agg (mA c s), .i (.v (.int .i64 op)), .i (.v (.int .i64 d))] H = some (.agg (mA (aft op d c s).1 (aft op d c s).2), H) :=
  isoK_val rfl (by simp [refsL, refsA, mA_refs]) (by simp [refsA, mA_refs]) (c27 op d h0 h1 hp hq hd c s hs)
structure DOK (l : List Ins) (ds : List Int) : Prop where
  len : ds.length = l.length
  ok : ∀ k, k < l.length → 0 ≤ ds.getD k 0 → popS (l.getD k (0, 0)).1 ≤ ds.getD k 0 ∧ ds.getD k 0 - popS (l.getD k (0, 0)).1 + pushS (l.getD k (0, 0)).1 ≤ 16 ∧ ds.getD k 0 ≤ 16
theorem dStep_r {n i : Nat} {p : Ins} {out out' : List Int} (h : dStep n i p out = some out') (hr : ∀ x ∈ out, -1 ≤ x ∧ x ≤ 16) : ∀ x ∈ out', -1 ≤ x ∧ x ≤ 16 := by
  have p1 := popS_r p.1
  have p2 := pushS_r p.1
  unfold dStep at h
  split at h
  · injection h with h; rw [← h]; exact hr
  split at h
  · cases h
  · exact dSet_r (by omega) _ _ _ h hr
theorem dRun_r {n : Nat} : ∀ (l : List Ins) (k : Nat) (out fin : List Int), dRun n k l out = some fin → (∀ x ∈ out, -1 ≤ x ∧ x ≤ 16) → ∀ x ∈ fin, -1 ≤ x ∧ x ≤ 16
  | [], k, out, fin, h, hr => by rw [dRun, Option.some.injEq] at h; rw [← h]; exact hr
  | p :: r, k, out, fin, h, hr => by
    rw [dRun] at h
    cases hd : dStep n k p out with
    | none => rw [hd] at h; cases h
    | some o => rw [hd] at h; exact dRun_r r (k + 1) o fin h (dStep_r hd hr)
theorem dRun_low {l : List Ins} (g : Good l) {fin : List Int} (a : Nat) (ha : a ≤ l.length) (out : List Int) (h : dRun l.length a (l.drop a) out = some fin) (j : Nat) (hj : j < a) : fin.getD j 0 = out.getD j 0 := by
  by_cases hlt : a < l.length
  · obtain ⟨o1, g1, g2⟩ := dRun_next hlt h
    rw [dRun_low g (a + 1) hlt o1 g2 j (by omega)]
    unfold dStep at g1
    split at g1
    · injection g1 with g1; rw [g1]
    split at g1
    · cases g1
    · have hs := (good_suc g hlt).2
      exact dSet_new _ _ _ g1 (fun x hx => by have := hs x hx; omega) j (fun hx => by have := hs _ hx; omega)
  · obtain rfl : a = l.length := by omega
    rw [List.drop_length, dRun, Option.some.injEq] at h
    rw [h]
termination_by l.length - a
theorem depths_dok {l : List Ins} (h : (depthsS l).2 = 0) : DOK l (depthsS l).1 := by
  obtain ⟨fin, h0, hd, hf1, hf2⟩ := depths_ok h
  have g := good_of h0
  rw [hf1]
  refine ⟨by rw [List.length_take, hf2]; omega, fun k hk hx => ?_⟩
  rw [getD_take _ _ _ hk] at hx ⊢
  obtain ⟨o, g1, g2, g3⟩ := dRun_to g k (by omega) 0 (Nat.zero_le _) (0 :: List.replicate l.length (-1)) (by simp) (by rw [List.drop_zero]; exact hd)
  obtain ⟨o1, s1, s2⟩ := dRun_next hk g1
  have hlow := dRun_low g (k + 1) hk o1 s2 k (by omega)
  have hr := dRun_r _ _ _ _ hd (fun x hx => by
    rcases List.mem_cons.1 hx with rfl | hx
    · omega
    · have := List.eq_of_mem_replicate hx; omega)
  have hb := getD_mem_b (P := fun x => -1 ≤ x ∧ x ≤ 16) ⟨by omega, by omega⟩ hr k
  unfold dStep at s1
  split at s1
  · rename_i hneg
    injection s1 with s1
    rw [← s1] at hlow
    omega
  rename_i hnn
  split at s1
  · cases s1
  rename_i hc
  have hs := (good_suc g hk).2
  have hnew := dSet_new _ _ _ s1 (fun x hx => by have := hs x hx; omega) k (fun hx => by have := hs _ hx; omega)
  rw [hlow, hnew] at hx hb ⊢
  exact ⟨by omega, by omega, hb.2⟩
def hRun (ds : List Int) : Nat → List Ins → List Mk → Bool
  | _, [], _ => false
  | k, p :: r, ms => if ds.getD k 0 < 0 then hRun ds (k + 1) r ms
    else if (p.1 = 19 ∨ p.1 = 20) ∧ ((getM ms k).1 = true ∨ (getM ms k).2.getD (ds.getD k 0 - 1).toNat false = true) then true
    else hRun ds (k + 1) r (hSet (aft p.1 (ds.getD k 0) (getM ms k).1 (getM ms k).2) (sucL p.1 p.2 k) ms)
def hP (fr : Fr) (ex : Ex) : Bool → Prop
  | true => ex = .ret ∧ get 2 fr = .i (.v (.bool true)) ∧ get 3 fr = .i (.v (.int .i64 0))
  | false => ex = .exit 0
theorem mI_take {c : Bool} {s : List Bool} {n : Nat} (h : s.length + 1 ≤ n) : (mI c s).take n = mI c s := List.take_of_length_le (by rw [mI_len]; exact h)
theorem l18_0 (l : List Ins) (hl : l.length ≤ 500) (g : Good l) (ds : List Int) (hd : DOK l ds) (n : Nat) (hn : n = l.length + 1) (k : Nat) (hk : k ≤ l.length) (ms : List Mk) (hm : ms.length = n) (hw : Wf ms) :
    ∃ fr ex H', rl E 0 18 (loopAt Tryd.f18 0) [(2, .i (.v (.bool false))), (3, .i (.v (.int .i64 0))), (4, .i (.sl 1 (rows64 ds) false)), (6, .ptr 0 0 0 0), (25, .i (.sl 2 (rowsI l) false)), (26, .i (.v (.int .i64 l.length))), (27, .i (.v (.int .i64 (k))))] [.box [.ref 1 0 0 (n)], .sl 17 0 (rowsM (ms)) false] = some (ex, fr, H') ∧ hP fr ex (hRun ds k (l.drop k) ms) := by
  rw [rl_step (fn := Tryd.f18) (k := 0) rfl]
  by_cases hlt : k < l.length
  · have hrow := rowsI_at hlt
    obtain ⟨⟨o1, o2⟩, hsuc⟩ := good_suc g hlt
    have hdk := hd.ok k hlt
    have hdl := hd.len
    have hrd := rows64_get (l := ds) (k := k) (by omega)
    rw [List.drop_eq_getElem_cons hlt, hRun]
    rw [good_getD hlt] at o1 o2 hsuc hdk
    have ih := fun ms hm hw => l18_0 l hl g ds hd n hn (k + 1) hlt ms hm hw
    obtain ⟨op, arg, hp⟩ : ∃ op arg, l[k] = (op, arg) := ⟨_, _, rfl⟩
    rw [hp] at hrow hdk o1 o2 hsuc ⊢
    simp only at hrow hdk o1 o2 hsuc ⊢
    have hxn : k < ms.length := by omega
    have hrm := rowsM_get hxn
    have htl := hw.get hxn
    generalize ds.getD k 0 = d at *
    generalize ht : getM ms k = t at *
    obtain ⟨c, s⟩ := t
    simp only at hrm htl ⊢
    by_cases h1 : d < 0
    · rw [if_pos h1]
      obtain ⟨fr, ex, H', e, hh⟩ := ih ms hm hw
      refine ⟨fr, ex, H', Eq.trans ?_ e, hh⟩
      clear e hh ih
      simp (disch := first | omega | (simp only [List.length_append, List.length_map, List.length_set, List.length_cons, List.length_nil, List.length_take, List.length_drop, rowsI_len, rows64_len, rowsM_len]; omega)) only [va0, va1, va2, va3, va4, va5, va6, va7, va8, va9, va10, va11, va12, va13, va14, va15, vb0, vb1, vb2, vb3, w_i8, w_u8, w_i16, w_u16, w_i32, w_u32, w_i64, w_u64, lt_T, lt_F, le_T, le_F, nlt_T, nlt_F, nle_T, nle_F, List.take_of_length_le, gB, gcW, gcR, posIn, renA, renL, Chunk.ren, Chunk.refs, evOpD, touchD, stepC, isFresh, nFresh, freshOf, mkR, hole, evL, evH, opd, get, putD, ofVal, cellOf, loadE, behind, lenE, idxAddrE, idxE, addPtr, intE, strE, unE, convE, AV.int, AV.bool, AV.str, ivs, take, frameOf, firstRegion, refsA, refsL, one, cellsA, floatOk, apartT, List.map, if_true, if_false, E_P, E_glob0, E_glob1, reduceCtorEq, beq_self_eq_true, decide_true, decide_false, ↓reduceIte, Nat.reduceEqDiff, cond_true, cond_false, or_true, true_or, or_false, false_or, and_true, true_and, and_self, false_and, and_false, not_true, not_false_iff, Nat.reduceAdd, Nat.reduceSub, Nat.reduceMul, Nat.reduceLT, Nat.reduceLeDiff, Int.reduceToNat, Int.reduceLT, Int.reduceLE, Option.getD, Int.reduceMul, Int.reduceAdd, List.drop, List.take, Nat.reduceBEq, List.isEmpty, Int.reduceEq, Int.reduceNe, Int.reduceNeg, Int.reduceGT, Int.reduceGE, beq_true, beq_false, UInt8.reduceToNat, eqE, eq_self, foldE, maxE, minE, eq_T, eq_F, ndec, odec, adec, sdec, fillA, over, chop, List.replicate, leavesOk, leafOk, cellsEq, cellEq, E_ext, E_byref, en18, bs22, bs24, bs55, hrow, hrd, rowsI_len, rows64_len, rowsM_len, h1, show ∀ B fr H, execT E B 18 (Code.loop _) fr H = rlG E B 18 (loopAt Tryd.f18 0) (gcn B (norm [2, 3, 4, 6, 25, 26, 27] fr) H) from fun B fr H => rl_intro rfl mt18_6 mb18_6 zf18_6 hd18_6 fr H]
    · rw [if_neg h1]
      obtain ⟨d1, d2, d3⟩ := hdk (by omega)
      have hmt := mI_take (c := c) (s := s) (n := 17) (by omega)
      have pp := pop_push op o1 o2
      have ha := fun H => ik27 op d o1 o2 d1 d2 d3 c s htl H
      have hal := aft_len op d c s
      have hsq := seqSucc_eq op arg k (by omega) (by omega)
      have hrg := rg18 l ds n (by omega) op arg k k (aft op d c s).1 (aft op d c s).2 (by omega) (sucL op arg k) (fun x hx => by have := hsuc x hx; omega) ms hm hw
      have ih := ih (hSet (aft op d c s) (sucL op arg k) ms) (by rw [hSet_len]; exact hm) (hw.hSet _ (fun x hx => by have := hsuc x hx; omega))
      rw [show ((aft op d c s).1, (aft op d c s).2) = aft op d c s from rfl] at hrg
      generalize hSet (aft op d c s) (sucL op arg k) ms = ms2 at *
      generalize (aft op d c s).1 = c2 at *
      generalize (aft op d c s).2 = s2 at *
      generalize sucL op arg k = xs at *
      have hdr : mA c2 s2 ++ List.drop 17 (mA c s) = mA c2 s2 := by rw [List.drop_eq_nil_of_le (by rw [mA_len, htl]; exact Nat.le_refl _), List.append_nil]
      have hmt2 := mA_take (c := c2) (s := s2) (n := 17) (by omega)
      by_cases h2 : op = 19 ∨ op = 20
      · have hpop : popS op = 1 := pp.2.2.2.2.2.1 h2
        have hgs := mA_get' (c := c) (s := s) (k := (d - 1).toNat) (by omega)
        generalize s.getD (d - 1).toNat false = sb at *
        by_cases h3 : c = true ∨ sb = true
        · rw [if_pos ⟨h2, h3⟩]
          clear ih hrg
          rcases h2 with h2 | h2
          · cases c
            · have h3 := h3.resolve_left (by decide)
              subst h3
              simp (disch := first | omega | (simp only [List.length_append, List.length_map, List.length_set, List.length_cons, List.length_nil, List.length_take, List.length_drop, rowsI_len, rows64_len, rowsM_len, mI_len, mA_len]; omega)) only [va0, va1, va2, va3, va4, va5, va6, va7, va8, va9, va10, va11, va12, va13, va14, va15, vb0, vb1, vb2, vb3, w_i8, w_u8, w_i16, w_u16, w_i32, w_u32, w_i64, w_u64, lt_T, lt_F, le_T, le_F, nlt_T, nlt_F, nle_T, nle_F, List.take_of_length_le, gB, gcW, gcR, posIn, renA, renL, Chunk.ren, Chunk.refs, evOpD, touchD, stepC, isFresh, nFresh, freshOf, mkR, hole, evL, evH, opd, get, putD, ofVal, cellOf, loadE, behind, lenE, idxAddrE, idxE, addPtr, intE, strE, unE, convE, AV.int, AV.bool, AV.str, ivs, take, frameOf, firstRegion, refsA, refsL, one, cellsA, floatOk, apartT, List.map, if_true, if_false, E_P, E_glob0, E_glob1, reduceCtorEq, beq_self_eq_true, decide_true, decide_false, ↓reduceIte, Nat.reduceEqDiff, cond_true, cond_false, or_true, true_or, or_false, false_or, and_true, true_and, and_self, false_and, and_false, not_true, not_false_iff, Nat.reduceAdd, Nat.reduceSub, Nat.reduceMul, Nat.reduceLT, Nat.reduceLeDiff, Int.reduceToNat, Int.reduceLT, Int.reduceLE, Option.getD, Int.reduceMul, Int.reduceAdd, List.drop, List.take, Nat.reduceBEq, List.isEmpty, Int.reduceEq, Int.reduceNe, Int.reduceNeg, Int.reduceGT, Int.reduceGE, beq_true, beq_false, UInt8.reduceToNat, eqE, eq_self, foldE, maxE, minE, eq_T, eq_F, ndec, odec, adec, sdec, fillA, over, chop, List.replicate, leavesOk, leafOk, cellsEq, cellEq, E_ext, E_byref, en18, bs22, bs24, bs55, hrow, hrd, hrm, hmt, htl, hgs, rowsI_len, rows64_len, rowsM_len, mI_len, mA_len, mI_map, mA_get0, mA_all, Nat.mul_one, show ∀ B fr H, execT E B 18 (Code.loop _) fr H = rlG E B 18 (loopAt Tryd.f18 0) (gcn B (norm [2, 3, 4, 6, 25, 26, 27] fr) H) from fun B fr H => rl_intro rfl mt18_6 mb18_6 zf18_6 hd18_6 fr H]
              refine ⟨_, _, _, rfl, ?_⟩
              exact ⟨rfl, rfl, rfl⟩
            · simp (disch := first | omega | (simp only [List.length_append, List.length_map, List.length_set, List.length_cons, List.length_nil, List.length_take, List.length_drop, rowsI_len, rows64_len, rowsM_len, mI_len, mA_len]; omega)) only [va0, va1, va2, va3, va4, va5, va6, va7, va8, va9, va10, va11, va12, va13, va14, va15, vb0, vb1, vb2, vb3, w_i8, w_u8, w_i16, w_u16, w_i32, w_u32, w_i64, w_u64, lt_T, lt_F, le_T, le_F, nlt_T, nlt_F, nle_T, nle_F, List.take_of_length_le, gB, gcW, gcR, posIn, renA, renL, Chunk.ren, Chunk.refs, evOpD, touchD, stepC, isFresh, nFresh, freshOf, mkR, hole, evL, evH, opd, get, putD, ofVal, cellOf, loadE, behind, lenE, idxAddrE, idxE, addPtr, intE, strE, unE, convE, AV.int, AV.bool, AV.str, ivs, take, frameOf, firstRegion, refsA, refsL, one, cellsA, floatOk, apartT, List.map, if_true, if_false, E_P, E_glob0, E_glob1, reduceCtorEq, beq_self_eq_true, decide_true, decide_false, ↓reduceIte, Nat.reduceEqDiff, cond_true, cond_false, or_true, true_or, or_false, false_or, and_true, true_and, and_self, false_and, and_false, not_true, not_false_iff, Nat.reduceAdd, Nat.reduceSub, Nat.reduceMul, Nat.reduceLT, Nat.reduceLeDiff, Int.reduceToNat, Int.reduceLT, Int.reduceLE, Option.getD, Int.reduceMul, Int.reduceAdd, List.drop, List.take, Nat.reduceBEq, List.isEmpty, Int.reduceEq, Int.reduceNe, Int.reduceNeg, Int.reduceGT, Int.reduceGE, beq_true, beq_false, UInt8.reduceToNat, eqE, eq_self, foldE, maxE, minE, eq_T, eq_F, ndec, odec, adec, sdec, fillA, over, chop, List.replicate, leavesOk, leafOk, cellsEq, cellEq, E_ext, E_byref, en18, bs22, bs24, bs55, hrow, hrd, hrm, hmt, htl, hgs, rowsI_len, rows64_len, rowsM_len, mI_len, mA_len, mI_map, mA_get0, mA_all, Nat.mul_one, show ∀ B fr H, execT E B 18 (Code.loop _) fr H = rlG E B 18 (loopAt Tryd.f18 0) (gcn B (norm [2, 3, 4, 6, 25, 26, 27] fr) H) from fun B fr H => rl_intro rfl mt18_6 mb18_6 zf18_6 hd18_6 fr H]
              refine ⟨_, _, _, rfl, ?_⟩
              exact ⟨rfl, rfl, rfl⟩
          · cases c
            · have h3 := h3.resolve_left (by decide)
              subst h3
              simp (disch := first | omega | (simp only [List.length_append, List.length_map, List.length_set, List.length_cons, List.length_nil, List.length_take, List.length_drop, rowsI_len, rows64_len, rowsM_len, mI_len, mA_len]; omega)) only [va0, va1, va2, va3, va4, va5, va6, va7, va8, va9, va10, va11, va12, va13, va14, va15, vb0, vb1, vb2, vb3, w_i8, w_u8, w_i16, w_u16, w_i32, w_u32, w_i64, w_u64, lt_T, lt_F, le_T, le_F, nlt_T, nlt_F, nle_T, nle_F, List.take_of_length_le, gB, gcW, gcR, posIn, renA, renL, Chunk.ren, Chunk.refs, evOpD, touchD, stepC, isFresh, nFresh, freshOf, mkR, hole, evL, evH, opd, get, putD, ofVal, cellOf, loadE, behind, lenE, idxAddrE, idxE, addPtr, intE, strE, unE, convE, AV.int, AV.bool, AV.str, ivs, take, frameOf, firstRegion, refsA, refsL, one, cellsA, floatOk, apartT, List.map, if_true, if_false, E_P, E_glob0, E_glob1, reduceCtorEq, beq_self_eq_true, decide_true, decide_false, ↓reduceIte, Nat.reduceEqDiff, cond_true, cond_false, or_true, true_or, or_false, false_or, and_true, true_and, and_self, false_and, and_false, not_true, not_false_iff, Nat.reduceAdd, Nat.reduceSub, Nat.reduceMul, Nat.reduceLT, Nat.reduceLeDiff, Int.reduceToNat, Int.reduceLT, Int.reduceLE, Option.getD, Int.reduceMul, Int.reduceAdd, List.drop, List.take, Nat.reduceBEq, List.isEmpty, Int.reduceEq, Int.reduceNe, Int.reduceNeg, Int.reduceGT, Int.reduceGE, beq_true, beq_false, UInt8.reduceToNat, eqE, eq_self, foldE, maxE, minE, eq_T, eq_F, ndec, odec, adec, sdec, fillA, over, chop, List.replicate, leavesOk, leafOk, cellsEq, cellEq, E_ext, E_byref, en18, bs22, bs24, bs55, hrow, hrd, hrm, hmt, htl, hgs, rowsI_len, rows64_len, rowsM_len, mI_len, mA_len, mI_map, mA_get0, mA_all, Nat.mul_one, show ∀ B fr H, execT E B 18 (Code.loop _) fr H = rlG E B 18 (loopAt Tryd.f18 0) (gcn B (norm [2, 3, 4, 6, 25, 26, 27] fr) H) from fun B fr H => rl_intro rfl mt18_6 mb18_6 zf18_6 hd18_6 fr H]
              refine ⟨_, _, _, rfl, ?_⟩
              exact ⟨rfl, rfl, rfl⟩
            · simp (disch := first | omega | (simp only [List.length_append, List.length_map, List.length_set, List.length_cons, List.length_nil, List.length_take, List.length_drop, rowsI_len, rows64_len, rowsM_len, mI_len, mA_len]; omega)) only [va0, va1, va2, va3, va4, va5, va6, va7, va8, va9, va10, va11, va12, va13, va14, va15, vb0, vb1, vb2, vb3, w_i8, w_u8, w_i16, w_u16, w_i32, w_u32, w_i64, w_u64, lt_T, lt_F, le_T, le_F, nlt_T, nlt_F, nle_T, nle_F, List.take_of_length_le, gB, gcW, gcR, posIn, renA, renL, Chunk.ren, Chunk.refs, evOpD, touchD, stepC, isFresh, nFresh, freshOf, mkR, hole, evL, evH, opd, get, putD, ofVal, cellOf, loadE, behind, lenE, idxAddrE, idxE, addPtr, intE, strE, unE, convE, AV.int, AV.bool, AV.str, ivs, take, frameOf, firstRegion, refsA, refsL, one, cellsA, floatOk, apartT, List.map, if_true, if_false, E_P, E_glob0, E_glob1, reduceCtorEq, beq_self_eq_true, decide_true, decide_false, ↓reduceIte, Nat.reduceEqDiff, cond_true, cond_false, or_true, true_or, or_false, false_or, and_true, true_and, and_self, false_and, and_false, not_true, not_false_iff, Nat.reduceAdd, Nat.reduceSub, Nat.reduceMul, Nat.reduceLT, Nat.reduceLeDiff, Int.reduceToNat, Int.reduceLT, Int.reduceLE, Option.getD, Int.reduceMul, Int.reduceAdd, List.drop, List.take, Nat.reduceBEq, List.isEmpty, Int.reduceEq, Int.reduceNe, Int.reduceNeg, Int.reduceGT, Int.reduceGE, beq_true, beq_false, UInt8.reduceToNat, eqE, eq_self, foldE, maxE, minE, eq_T, eq_F, ndec, odec, adec, sdec, fillA, over, chop, List.replicate, leavesOk, leafOk, cellsEq, cellEq, E_ext, E_byref, en18, bs22, bs24, bs55, hrow, hrd, hrm, hmt, htl, hgs, rowsI_len, rows64_len, rowsM_len, mI_len, mA_len, mI_map, mA_get0, mA_all, Nat.mul_one, show ∀ B fr H, execT E B 18 (Code.loop _) fr H = rlG E B 18 (loopAt Tryd.f18 0) (gcn B (norm [2, 3, 4, 6, 25, 26, 27] fr) H) from fun B fr H => rl_intro rfl mt18_6 mb18_6 zf18_6 hd18_6 fr H]
              refine ⟨_, _, _, rfl, ?_⟩
              exact ⟨rfl, rfl, rfl⟩
        · rw [if_neg (fun h => h3 h.2)]
          obtain ⟨fr, ex, H', e, hh⟩ := ih
          refine ⟨fr, ex, H', Eq.trans ?_ e, hh⟩
          clear e hh
          cases c
          rotate_left
          · exact absurd (.inl rfl) h3
          cases sb
          rotate_left
          · exact absurd (.inr rfl) h3
          rcases h2 with h2 | h2
          · simp (disch := first | omega | (simp only [List.length_append, List.length_map, List.length_set, List.length_cons, List.length_nil, List.length_take, List.length_drop, rowsI_len, rows64_len, rowsM_len, mI_len, mA_len]; omega)) only [va0, va1, va2, va3, va4, va5, va6, va7, va8, va9, va10, va11, va12, va13, va14, va15, vb0, vb1, vb2, vb3, w_i8, w_u8, w_i16, w_u16, w_i32, w_u32, w_i64, w_u64, lt_T, lt_F, le_T, le_F, nlt_T, nlt_F, nle_T, nle_F, List.take_of_length_le, gB, gcW, gcR, posIn, renA, renL, Chunk.ren, Chunk.refs, evOpD, touchD, stepC, isFresh, nFresh, freshOf, mkR, hole, evL, evH, opd, get, putD, ofVal, cellOf, loadE, behind, lenE, idxAddrE, idxE, addPtr, intE, strE, unE, convE, AV.int, AV.bool, AV.str, ivs, take, frameOf, firstRegion, refsA, refsL, one, cellsA, floatOk, apartT, List.map, if_true, if_false, E_P, E_glob0, E_glob1, reduceCtorEq, beq_self_eq_true, decide_true, decide_false, ↓reduceIte, Nat.reduceEqDiff, cond_true, cond_false, or_true, true_or, or_false, false_or, and_true, true_and, and_self, false_and, and_false, not_true, not_false_iff, Nat.reduceAdd, Nat.reduceSub, Nat.reduceMul, Nat.reduceLT, Nat.reduceLeDiff, Int.reduceToNat, Int.reduceLT, Int.reduceLE, Option.getD, Int.reduceMul, Int.reduceAdd, List.drop, List.take, Nat.reduceBEq, List.isEmpty, Int.reduceEq, Int.reduceNe, Int.reduceNeg, Int.reduceGT, Int.reduceGE, beq_true, beq_false, UInt8.reduceToNat, eqE, eq_self, foldE, maxE, minE, eq_T, eq_F, ndec, odec, adec, sdec, fillA, over, chop, List.replicate, leavesOk, leafOk, cellsEq, cellEq, E_ext, E_byref, en18, bs22, bs24, bs55, hrow, hrd, hrm, hmt, hmt2, hdr, htl, hal, hgs, ha, hsq, hrg, ik24, rowsI_len, rows64_len, rowsM_len, mI_len, mA_len, mI_map, mA_get0, mA_all, mA_frz, mA_cn, mA_refs, mA_ren, mI_ivs, Nat.mul_one, show ∀ B fr H, execT E B 18 (Code.rangeFunc _ _ _ _) fr H = rgO (rdF E 18 (rfAt Tryd.f18 0)) 74 fr H (seqE E H (opd E fr _)) from fun B fr H => rf_intro rfl rfl fr H, show ∀ B fr H, execT E B 18 (Code.loop _) fr H = rlG E B 18 (loopAt Tryd.f18 0) (gcn B (norm [2, 3, 4, 6, 25, 26, 27] fr) H) from fun B fr H => rl_intro rfl mt18_6 mb18_6 zf18_6 hd18_6 fr H]
          · simp (disch := first | omega | (simp only [List.length_append, List.length_map, List.length_set, List.length_cons, List.length_nil, List.length_take, List.length_drop, rowsI_len, rows64_len, rowsM_len, mI_len, mA_len]; omega)) only [va0, va1, va2, va3, va4, va5, va6, va7, va8, va9, va10, va11, va12, va13, va14, va15, vb0, vb1, vb2, vb3, w_i8, w_u8, w_i16, w_u16, w_i32, w_u32, w_i64, w_u64, lt_T, lt_F, le_T, le_F, nlt_T, nlt_F, nle_T, nle_F, List.take_of_length_le, gB, gcW, gcR, posIn, renA, renL, Chunk.ren, Chunk.refs, evOpD, touchD, stepC, isFresh, nFresh, freshOf, mkR, hole, evL, evH, opd, get, putD, ofVal, cellOf, loadE, behind, lenE, idxAddrE, idxE, addPtr, intE, strE, unE, convE, AV.int, AV.bool, AV.str, ivs, take, frameOf, firstRegion, refsA, refsL, one, cellsA, floatOk, apartT, List.map, if_true, if_false, E_P, E_glob0, E_glob1, reduceCtorEq, beq_self_eq_true, decide_true, decide_false, ↓reduceIte, Nat.reduceEqDiff, cond_true, cond_false, or_true, true_or, or_false, false_or, and_true, true_and, and_self, false_and, and_false, not_true, not_false_iff, Nat.reduceAdd, Nat.reduceSub, Nat.reduceMul, Nat.reduceLT, Nat.reduceLeDiff, Int.reduceToNat, Int.reduceLT, Int.reduceLE, Option.getD, Int.reduceMul, Int.reduceAdd, List.drop, List.take, Nat.reduceBEq, List.isEmpty, Int.reduceEq, Int.reduceNe, Int.reduceNeg, Int.reduceGT, Int.reduceGE, beq_true, beq_false, UInt8.reduceToNat, eqE, eq_self, foldE, maxE, minE, eq_T, eq_F, ndec, odec, adec, sdec, fillA, over, chop, List.replicate, leavesOk, leafOk, cellsEq, cellEq, E_ext, E_byref, en18, bs22, bs24, bs55, hrow, hrd, hrm, hmt, hmt2, hdr, htl, hal, hgs, ha, hsq, hrg, ik24, rowsI_len, rows64_len, rowsM_len, mI_len, mA_len, mI_map, mA_get0, mA_all, mA_frz, mA_cn, mA_refs, mA_ren, mI_ivs, Nat.mul_one, show ∀ B fr H, execT E B 18 (Code.rangeFunc _ _ _ _) fr H = rgO (rdF E 18 (rfAt Tryd.f18 0)) 74 fr H (seqE E H (opd E fr _)) from fun B fr H => rf_intro rfl rfl fr H, show ∀ B fr H, execT E B 18 (Code.loop _) fr H = rlG E B 18 (loopAt Tryd.f18 0) (gcn B (norm [2, 3, 4, 6, 25, 26, 27] fr) H) from fun B fr H => rl_intro rfl mt18_6 mb18_6 zf18_6 hd18_6 fr H]
      · rw [if_neg (fun h => h2 h.1)]
        obtain ⟨fr, ex, H', e, hh⟩ := ih
        refine ⟨fr, ex, H', Eq.trans ?_ e, hh⟩
        clear e hh
        simp (disch := first | omega | (simp only [List.length_append, List.length_map, List.length_set, List.length_cons, List.length_nil, List.length_take, List.length_drop, rowsI_len, rows64_len, rowsM_len, mI_len, mA_len]; omega)) only [va0, va1, va2, va3, va4, va5, va6, va7, va8, va9, va10, va11, va12, va13, va14, va15, vb0, vb1, vb2, vb3, w_i8, w_u8, w_i16, w_u16, w_i32, w_u32, w_i64, w_u64, lt_T, lt_F, le_T, le_F, nlt_T, nlt_F, nle_T, nle_F, List.take_of_length_le, gB, gcW, gcR, posIn, renA, renL, Chunk.ren, Chunk.refs, evOpD, touchD, stepC, isFresh, nFresh, freshOf, mkR, hole, evL, evH, opd, get, putD, ofVal, cellOf, loadE, behind, lenE, idxAddrE, idxE, addPtr, intE, strE, unE, convE, AV.int, AV.bool, AV.str, ivs, take, frameOf, firstRegion, refsA, refsL, one, cellsA, floatOk, apartT, List.map, if_true, if_false, E_P, E_glob0, E_glob1, reduceCtorEq, beq_self_eq_true, decide_true, decide_false, ↓reduceIte, Nat.reduceEqDiff, cond_true, cond_false, or_true, true_or, or_false, false_or, and_true, true_and, and_self, false_and, and_false, not_true, not_false_iff, Nat.reduceAdd, Nat.reduceSub, Nat.reduceMul, Nat.reduceLT, Nat.reduceLeDiff, Int.reduceToNat, Int.reduceLT, Int.reduceLE, Option.getD, Int.reduceMul, Int.reduceAdd, List.drop, List.take, Nat.reduceBEq, List.isEmpty, Int.reduceEq, Int.reduceNe, Int.reduceNeg, Int.reduceGT, Int.reduceGE, beq_true, beq_false, UInt8.reduceToNat, eqE, eq_self, foldE, maxE, minE, eq_T, eq_F, ndec, odec, adec, sdec, fillA, over, chop, List.replicate, leavesOk, leafOk, cellsEq, cellEq, E_ext, E_byref, en18, bs22, bs24, bs55, hrow, hrd, hrm, hmt, hmt2, hdr, htl, hal, ha, hsq, hrg, ik24, rowsI_len, rows64_len, rowsM_len, mI_len, mA_len, mI_map, mA_get0, mA_all, mA_frz, mA_cn, mA_refs, mA_ren, mI_ivs, Nat.mul_one, show ∀ B fr H, execT E B 18 (Code.rangeFunc _ _ _ _) fr H = rgO (rdF E 18 (rfAt Tryd.f18 0)) 74 fr H (seqE E H (opd E fr _)) from fun B fr H => rf_intro rfl rfl fr H, show ∀ B fr H, execT E B 18 (Code.loop _) fr H = rlG E B 18 (loopAt Tryd.f18 0) (gcn B (norm [2, 3, 4, 6, 25, 26, 27] fr) H) from fun B fr H => rl_intro rfl mt18_6 mb18_6 zf18_6 hd18_6 fr H]
  · obtain rfl : k = l.length := by omega
    rw [List.drop_length, hRun]
    simp (disch := first | omega | (simp only [List.length_append, List.length_map, List.length_set, List.length_cons, List.length_nil, List.length_take, List.length_drop, rows64_len, rowsI_len, rowsM_len]; omega)) only [va0, va1, va2, va3, va4, va5, va6, va7, va8, va9, va10, va11, va12, va13, va14, va15, vb0, vb1, vb2, vb3, w_i8, w_u8, w_i16, w_u16, w_i32, w_u32, w_i64, w_u64, lt_T, lt_F, le_T, le_F, nlt_T, nlt_F, nle_T, nle_F, List.take_of_length_le, gB, gcW, gcR, posIn, renA, renL, Chunk.ren, Chunk.refs, evOpD, touchD, stepC, isFresh, nFresh, freshOf, mkR, hole, evL, evH, opd, get, putD, ofVal, cellOf, loadE, behind, lenE, idxAddrE, idxE, addPtr, intE, strE, unE, convE, AV.int, AV.bool, AV.str, ivs, take, frameOf, firstRegion, refsA, refsL, one, cellsA, floatOk, apartT, List.map, if_true, if_false, E_P, E_glob0, E_glob1, reduceCtorEq, beq_self_eq_true, decide_true, decide_false, ↓reduceIte, Nat.reduceEqDiff, cond_true, cond_false, or_true, true_or, or_false, false_or, and_true, true_and, and_self, false_and, and_false, not_true, not_false_iff, Nat.reduceAdd, Nat.reduceSub, Nat.reduceMul, Nat.reduceLT, Nat.reduceLeDiff, Int.reduceToNat, Int.reduceLT, Int.reduceLE, Option.getD, Int.reduceMul, Int.reduceAdd, List.drop, List.take, Nat.reduceBEq, List.isEmpty, Int.reduceEq, Int.reduceNe, Int.reduceNeg, Int.reduceGT, Int.reduceGE, beq_true, beq_false, UInt8.reduceToNat, eqE, eq_self, foldE, maxE, minE, eq_T, eq_F, ndec, odec, adec, sdec, fillA, over, chop, List.replicate, leavesOk, leafOk, cellsEq, cellEq, E_ext, E_byref, en18, bs22, bs24, bs55, rows64_len, rowsI_len, rowsM_len, show ∀ B fr H, execT E B 18 (Code.loop _) fr H = rlG E B 18 (loopAt Tryd.f18 0) (gcn B (norm [2, 3, 4, 6, 25, 26, 27] fr) H) from fun B fr H => rl_intro rfl mt18_6 mb18_6 zf18_6 hd18_6 fr H]
    refine ⟨_, _, _, rfl, ?_⟩
    rfl
termination_by l.length - k
end Go.VI

namespace Go.VI
open Go.Proofs
set_option maxRecDepth 100000
set_option linter.unusedSimpArgs false
set_option linter.unusedVariables false
set_option maxHeartbeats 4000000
def z0 : Mk := (false, List.replicate 16 false)
def hiddenS (l : List Ins) : Bool × Int := if (depthsS l).2 = 0 then (hRun (depthsS l).1 0 l (List.replicate (l.length + 1) z0), 0) else (false, (depthsS l).2)
theorem rowsM_rep (n : Nat) : List.replicate n [IV.v (.bool false), .v (.bool false), .v (.bool false), .v (.bool false), .v (.bool false), .v (.bool false), .v (.bool false), .v (.bool false), .v (.bool false), .v (.bool false), .v (.bool false), .v (.bool false), .v (.bool false), .v (.bool false), .v (.bool false), .v (.bool false), .v (.bool false)] = rowsM (List.replicate n z0) := by simp [rowsM, mI, z0, List.replicate]
theorem wf_rep (n : Nat) : Wf (List.replicate n z0) := fun m hm => by rw [List.eq_of_mem_replicate hm]; rfl
theorem c18 (l : List Ins) (hl : (l.length : Int) < 9223372036854775808) : ∃ L, callT E 18 [.i (.sl 2 (rowsI l) false)] [] = some (.tup [.i (.v (.bool (hiddenS l).1)), .i (.v (.int .i64 (hiddenS l).2))], L) := by
  have hD := fun H => ik12 l hl H
  unfold hiddenS
  by_cases h0 : (depthsS l).2 = 0
  rotate_left
  · rw [if_neg h0]
    generalize depthsS l = q at *
    rw [callT_eq Tryd.func18 rfl fok18 (by simp [Tryd.ntmps18])]
    simp (disch := first | omega | (simp only [List.length_append, List.length_map, List.length_set, List.length_cons, List.length_nil, List.length_take, List.length_drop]; omega)) only [va0, va1, va2, va3, va4, va5, va6, va7, va8, va9, va10, va11, va12, va13, va14, va15, vb0, vb1, vb2, vb3, w_i8, w_u8, w_i16, w_u16, w_i32, w_u32, w_i64, w_u64, lt_T, lt_F, le_T, le_F, nlt_T, nlt_F, nle_T, nle_F, List.take_of_length_le, gB, gcW, gcR, posIn, renA, renL, Chunk.ren, Chunk.refs, evOpD, touchD, stepC, isFresh, nFresh, freshOf, mkR, hole, evL, evH, opd, get, putD, ofVal, cellOf, loadE, behind, lenE, idxAddrE, idxE, addPtr, intE, strE, unE, convE, AV.int, AV.bool, AV.str, ivs, take, frameOf, firstRegion, refsA, refsL, one, cellsA, floatOk, apartT, List.map, if_true, if_false, E_P, E_glob0, E_glob1, reduceCtorEq, beq_self_eq_true, decide_true, decide_false, ↓reduceIte, Nat.reduceEqDiff, cond_true, cond_false, or_true, true_or, or_false, false_or, and_true, true_and, and_self, false_and, and_false, not_true, not_false_iff, Nat.reduceAdd, Nat.reduceSub, Nat.reduceMul, Nat.reduceLT, Nat.reduceLeDiff, Int.reduceToNat, Int.reduceLT, Int.reduceLE, Option.getD, Int.reduceMul, Int.reduceAdd, List.drop, List.take, Nat.reduceBEq, List.isEmpty, Int.reduceEq, Int.reduceNe, Int.reduceNeg, Int.reduceGT, Int.reduceGE, beq_true, beq_false, UInt8.reduceToNat, eqE, eq_self, foldE, maxE, minE, eq_T, eq_F, ndec, odec, adec, sdec, fillA, over, chop, List.replicate, leavesOk, leafOk, cellsEq, cellEq, E_ext, E_byref, en18, bs22, bs24, bs55, hD, h0]
    exact ⟨_, rfl⟩
  · rw [if_pos h0]
    obtain ⟨fin, hc0, hdr, hf1, hf2⟩ := depths_ok h0
    have h5 := check_len hc0
    have hdok := depths_dok h0
    rw [h0] at hD
    generalize (depthsS l).1 = ds at *
    have hnn : ((l.length : Int) + 1).toNat = l.length + 1 := by omega
    obtain ⟨fr, ex, H', e, hh⟩ := l18_0 l h5 (good_of hc0) ds hdok (l.length + 1) rfl 0 (Nat.zero_le _) (List.replicate (l.length + 1) z0) (by simp) (wf_rep _)
    rw [List.drop_zero] at hh
    generalize hRun ds 0 l (List.replicate (l.length + 1) z0) = b at *
    have e' : rl E 0 18 (loopAt Tryd.f18 0) [(2, .i (.v (.bool false))), (3, .i (.v (.int .i64 0))), (4, .i (.sl 1 (rows64 ds) false)), (6, .ptr 0 0 0 0), (25, .i (.sl 2 (rowsI l) false)), (26, .i (.v (.int .i64 l.length))), (27, .i (.v (.int .i64 (0))))] [.box [.ref 1 0 0 (l.length + 1)], .sl 17 0 ([IV.v (.bool false), .v (.bool false), .v (.bool false), .v (.bool false), .v (.bool false), .v (.bool false), .v (.bool false), .v (.bool false), .v (.bool false), .v (.bool false), .v (.bool false), .v (.bool false), .v (.bool false), .v (.bool false), .v (.bool false), .v (.bool false), .v (.bool false)] :: rowsM (List.replicate l.length z0)) false] = _ := e
    clear e
    cases b
    · obtain rfl : ex = .exit 0 := hh
      rw [callT_eq Tryd.func18 rfl fok18 (by simp [Tryd.ntmps18])]
      simp (disch := first | omega | (simp only [List.length_append, List.length_map, List.length_set, List.length_cons, List.length_nil, List.length_take, List.length_drop, rowsI_len, rowsM_len]; omega)) only [va0, va1, va2, va3, va4, va5, va6, va7, va8, va9, va10, va11, va12, va13, va14, va15, vb0, vb1, vb2, vb3, w_i8, w_u8, w_i16, w_u16, w_i32, w_u32, w_i64, w_u64, lt_T, lt_F, le_T, le_F, nlt_T, nlt_F, nle_T, nle_F, List.take_of_length_le, gB, gcW, gcR, posIn, renA, renL, Chunk.ren, Chunk.refs, evOpD, touchD, stepC, isFresh, nFresh, freshOf, mkR, hole, evL, evH, opd, get, putD, ofVal, cellOf, loadE, behind, lenE, idxAddrE, idxE, addPtr, intE, strE, unE, convE, AV.int, AV.bool, AV.str, ivs, take, frameOf, firstRegion, refsA, refsL, one, cellsA, floatOk, apartT, List.map, if_true, if_false, E_P, E_glob0, E_glob1, reduceCtorEq, beq_self_eq_true, decide_true, decide_false, ↓reduceIte, Nat.reduceEqDiff, cond_true, cond_false, or_true, true_or, or_false, false_or, and_true, true_and, and_self, false_and, and_false, not_true, not_false_iff, Nat.reduceAdd, Nat.reduceSub, Nat.reduceMul, Nat.reduceLT, Nat.reduceLeDiff, Int.reduceToNat, Int.reduceLT, Int.reduceLE, Option.getD, Int.reduceMul, Int.reduceAdd, List.drop, List.take, Nat.reduceBEq, List.isEmpty, Int.reduceEq, Int.reduceNe, Int.reduceNeg, Int.reduceGT, Int.reduceGE, beq_true, beq_false, UInt8.reduceToNat, eqE, eq_self, foldE, maxE, minE, eq_T, eq_F, ndec, odec, adec, sdec, fillA, over, chop, List.replicate, leavesOk, leafOk, cellsEq, cellEq, E_ext, E_byref, en18, bs22, bs24, bs55, hD, hnn, rowsI_len, rowsM_len, rowsM_rep, e', show ∀ B fr H, execT E B 18 (Code.loop _) fr H = rlG E B 18 (loopAt Tryd.f18 0) (gcn B (norm [2, 3, 4, 6, 25, 26, 27] fr) H) from fun B fr H => rl_intro rfl mt18_6 mb18_6 zf18_6 hd18_6 fr H]
      exact ⟨_, rfl⟩
    · obtain ⟨rfl, g2, g3⟩ := hh
      rw [callT_eq Tryd.func18 rfl fok18 (by simp [Tryd.ntmps18])]
      simp (disch := first | omega | (simp only [List.length_append, List.length_map, List.length_set, List.length_cons, List.length_nil, List.length_take, List.length_drop, rowsI_len, rowsM_len]; omega)) only [va0, va1, va2, va3, va4, va5, va6, va7, va8, va9, va10, va11, va12, va13, va14, va15, vb0, vb1, vb2, vb3, w_i8, w_u8, w_i16, w_u16, w_i32, w_u32, w_i64, w_u64, lt_T, lt_F, le_T, le_F, nlt_T, nlt_F, nle_T, nle_F, List.take_of_length_le, gB, gcW, gcR, posIn, renA, renL, Chunk.ren, Chunk.refs, evOpD, touchD, stepC, isFresh, nFresh, freshOf, mkR, hole, evL, evH, opd, get, putD, ofVal, cellOf, loadE, behind, lenE, idxAddrE, idxE, addPtr, intE, strE, unE, convE, AV.int, AV.bool, AV.str, ivs, take, frameOf, firstRegion, refsA, refsL, one, cellsA, floatOk, apartT, List.map, if_true, if_false, E_P, E_glob0, E_glob1, reduceCtorEq, beq_self_eq_true, decide_true, decide_false, ↓reduceIte, Nat.reduceEqDiff, cond_true, cond_false, or_true, true_or, or_false, false_or, and_true, true_and, and_self, false_and, and_false, not_true, not_false_iff, Nat.reduceAdd, Nat.reduceSub, Nat.reduceMul, Nat.reduceLT, Nat.reduceLeDiff, Int.reduceToNat, Int.reduceLT, Int.reduceLE, Option.getD, Int.reduceMul, Int.reduceAdd, List.drop, List.take, Nat.reduceBEq, List.isEmpty, Int.reduceEq, Int.reduceNe, Int.reduceNeg, Int.reduceGT, Int.reduceGE, beq_true, beq_false, UInt8.reduceToNat, eqE, eq_self, foldE, maxE, minE, eq_T, eq_F, ndec, odec, adec, sdec, fillA, over, chop, List.replicate, leavesOk, leafOk, cellsEq, cellEq, E_ext, E_byref, en18, bs22, bs24, bs55, hD, hnn, rowsI_len, rowsM_len, rowsM_rep, e', g2, g3, show ∀ B fr H, execT E B 18 (Code.loop _) fr H = rlG E B 18 (loopAt Tryd.f18 0) (gcn B (norm [2, 3, 4, 6, 25, 26, 27] fr) H) from fun B fr H => rl_intro rfl mt18_6 mb18_6 zf18_6 hd18_6 fr H]
      exact ⟨_, rfl⟩
theorem ik18 (l : List Ins) (hl : (l.length : Int) < 9223372036854775808) (H : Hp) : isoK E (callT E) 18 [.i (.sl 2 (rowsI l) false)] H = some (.tup [.i (.v (.bool (hiddenS l).1)), .i (.v (.int .i64 (hiddenS l).2))], H) := isoK_val rfl rfl rfl (c18 l hl)
end Go.VI

namespace Go.VI
open Go.Proofs
set_option maxRecDepth 100000
set_option linter.unusedSimpArgs false
set_option linter.unusedVariables false
set_option maxHeartbeats 4000000
def FB (s : List Bool) : Prop := ∀ j, s.getD j false = false
theorem FB.set {s : List Bool} (h : FB s) (i : Nat) {a : Bool} (ha : a = false) : FB (s.set i a) := fun j => by
  rw [getD_set_bool]; split
  · exact ha
  · exact h j
theorem FB.clr : ∀ (r k : Nat) {s : List Bool}, FB s → FB (clr r k s)
  | 0, k, s, h => h
  | r + 1, k, s, h => by rw [VI.clr]; exact FB.clr r (k + 1) (h.set k rfl)
theorem FB.orR : ∀ (r j : Nat) {s t : List Bool}, FB s → FB t → FB (orR r j s t)
  | 0, j, s, t, hs, ht => ht
  | r + 1, j, s, t, hs, ht => by rw [VI.orR]; exact FB.orR r (j + 1) hs (ht.set j (by rw [ht j, hs j]; rfl))
def FM (m : Mk) : Prop := m.1 = false ∧ FB m.2
theorem FM.aft {m : Mk} (h : FM m) {op d : Int} (ho : ¬ (3 ≤ op ∧ op ≤ 5)) : FM (aft op d m.1 m.2) := by
  have h1 : FM (aft1 op d m.1 m.2) := by
    obtain ⟨h1, h2⟩ := h
    unfold aft1
    rw [if_neg ho]
    repeat' split
    · exact ⟨h1, h2.set _ (by rw [h2, h2]; rfl)⟩
    · exact ⟨h1, h2.set _ (h2 _)⟩
    · exact ⟨h1, (h2.set _ (h2 _)).set _ (h2 _)⟩
    · exact ⟨by rw [h1, h2]; rfl, h2⟩
    · exact ⟨h1, h2.set _ rfl⟩
    · exact ⟨h1, h2⟩
  exact ⟨h1.1, FB.clr _ _ h1.2⟩
theorem FM.join {m t : Mk} (h : FM m) (ht : FM t) : FM (joinM m t) := ⟨by rw [joinM, h.1, ht.1]; rfl, FB.orR _ _ h.2 ht.2⟩
def FL (ms : List Mk) : Prop := ∀ k, FM (getM ms k)
theorem getM_set_ne {ms : List Mk} {k j : Nat} (h : k ≠ j) (m : Mk) : getM (ms.set k m) j = getM ms j := by
  rw [getM, getM, List.getD_eq_getElem?_getD, List.getD_eq_getElem?_getD, List.getElem?_set_ne h]
theorem FL.set {ms : List Mk} (h : FL ms) (k : Nat) {m : Mk} (hm : FM m) : FL (ms.set k m) := fun j => by
  by_cases hk : k = j
  · subst hk
    by_cases hl : k < ms.length
    · rw [getM_set hl]; exact hm
    · rw [List.set_eq_of_length_le (by omega)]; exact h k
  · rw [getM_set_ne hk]; exact h j
theorem FL.hSet {m : Mk} (hm : FM m) : ∀ (xs : List Int) {ms : List Mk}, FL ms → FL (hSet m xs ms)
  | [], ms, h => h
  | x :: xs, ms, h => by rw [VI.hSet]; exact FL.hSet hm xs (h.set _ (hm.join (h _)))
theorem FL_rep (n : Nat) : FL (List.replicate n z0) := fun k => by
  have hz : FM z0 := ⟨rfl, fun j => by rw [z0, List.getD_eq_getElem?_getD, List.getElem?_replicate]; split <;> rfl⟩
  rw [getM, List.getD_eq_getElem?_getD, List.getElem?_replicate]
  split
  · exact hz
  · exact ⟨rfl, fun j => by simp⟩
def LB (s t : List Bool) : Prop := s.length = t.length ∧ ∀ j, s.getD j false = true → t.getD j false = true
theorem LB.set {s t : List Bool} (h : LB s t) (i : Nat) {a b : Bool} (hab : a = true → b = true) : LB (s.set i a) (t.set i b) := ⟨by simp [h.1], fun j => by
  rw [getD_set_bool, getD_set_bool, h.1]
  split
  · exact hab
  · exact h.2 j⟩
theorem LB.clr : ∀ (r k : Nat) {s t : List Bool}, LB s t → LB (clr r k s) (clr r k t)
  | 0, k, s, t, h => h
  | r + 1, k, s, t, h => by rw [VI.clr, VI.clr]; exact LB.clr r (k + 1) (h.set k id)
theorem LB.orR : ∀ (r j : Nat) {s s' t t' : List Bool}, LB s s' → LB t t' → LB (orR r j s t) (orR r j s' t')
  | 0, j, s, s', t, t', hs, ht => ht
  | r + 1, j, s, s', t, t', hs, ht => by
    rw [VI.orR, VI.orR]
    refine LB.orR r (j + 1) hs (ht.set j fun h => ?_)
    rw [Bool.or_eq_true] at h ⊢
    exact h.imp (ht.2 j) (hs.2 j)
def LM (m t : Mk) : Prop := (m.1 = true → t.1 = true) ∧ LB m.2 t.2
theorem LM.aft {m t : Mk} (h : LM m t) (op d : Int) : LM (aft op d m.1 m.2) (aft op d t.1 t.2) := by
  have h1 : LM (aft1 op d m.1 m.2) (aft1 op d t.1 t.2) := by
    obtain ⟨h1, h2⟩ := h
    unfold aft1
    repeat' split
    · exact ⟨h1, h2.set _ id⟩
    · exact ⟨h1, h2.set _ fun h => by rw [Bool.or_eq_true] at h ⊢; exact h.imp (h2.2 _) (h2.2 _)⟩
    · exact ⟨h1, h2.set _ (h2.2 _)⟩
    · exact ⟨h1, (h2.set _ (h2.2 _)).set _ (h2.2 _)⟩
    · exact ⟨fun h => by rw [Bool.or_eq_true] at h ⊢; exact h.imp h1 (h2.2 _), h2⟩
    · exact ⟨h1, h2.set _ id⟩
    · exact ⟨h1, h2⟩
  exact ⟨h1.1, LB.clr _ _ h1.2⟩
theorem LM.join {m m' t t' : Mk} (h : LM m m') (ht : LM t t') : LM (joinM m t) (joinM m' t') := ⟨fun h1 => by
  simp only [joinM, Bool.or_eq_true] at h1 ⊢
  exact h1.imp ht.1 h.1, LB.orR _ _ h.2 ht.2⟩
def LL (ms ns : List Mk) : Prop := ms.length = ns.length ∧ ∀ k, LM (getM ms k) (getM ns k)
theorem LL.set {ms ns : List Mk} (h : LL ms ns) (k : Nat) {m t : Mk} (hm : LM m t) : LL (ms.set k m) (ns.set k t) := ⟨by simp [h.1], fun j => by
  by_cases hk : k = j
  · subst hk
    by_cases hl : k < ms.length
    · rw [getM_set hl, getM_set (by rw [← h.1]; exact hl)]; exact hm
    · rw [List.set_eq_of_length_le (by omega), List.set_eq_of_length_le (by rw [← h.1]; omega)]; exact h.2 k
  · rw [getM_set_ne hk, getM_set_ne hk]; exact h.2 j⟩
theorem LL.hSet {m t : Mk} (hm : LM m t) : ∀ (xs : List Int) {ms ns : List Mk}, LL ms ns → LL (hSet m xs ms) (hSet t xs ns)
  | [], ms, ns, h => h
  | x :: xs, ms, ns, h => by rw [VI.hSet, VI.hSet]; exact LL.hSet hm xs (h.set _ (hm.join (h.2 _)))
theorem LL.refl (ms : List Mk) : LL ms ms := ⟨rfl, fun k => ⟨id, rfl, fun j => id⟩⟩
def moreI (p q : Ins) : Prop := q = p ∨ p.1 = 1 ∧ q = (3, 0)
inductive F2 : List Ins → List Ins → Prop
  | nil : F2 [] []
  | cons {p q : Ins} {l m : List Ins} : moreI p q → F2 l m → F2 (p :: l) (q :: m)
theorem F2.refl : ∀ l : List Ins, F2 l l
  | [] => .nil
  | p :: r => .cons (.inl rfl) (F2.refl r)
theorem F2.set : ∀ (l : List Ins) (k : Nat), (l.getD k (0, 0)).1 = 1 → F2 l (l.set k (3, 0))
  | [], k, h => by rw [List.getD_nil] at h; cases h
  | p :: r, 0, h => .cons (.inr ⟨h, rfl⟩) (F2.refl r)
  | p :: r, k + 1, h => .cons (.inl rfl) (F2.set r k h)
end Go.VI

namespace Go.VI
open Go.Proofs
set_option maxRecDepth 100000
set_option linter.unusedSimpArgs false
set_option linter.unusedVariables false
set_option maxHeartbeats 4000000
def rsA (t c : Bool) (st : List Bool) : List AV := [.i (.v (.bool t)), .i (.v (.bool c)), .i (.sl 1 (rowsT st) false)]
def stepS (op : Int) (c : Bool) (st : List Bool) : Bool × List Bool :=
  if 3 ≤ op ∧ op ≤ 5 then (c, st.take ((st.length : Int) - popS op).toNat ++ [true])
  else if 8 ≤ op ∧ op ≤ 12 then (c, st.take ((st.length : Int) - popS op).toNat ++ [st.getD ((st.length : Int) - 1).toNat false || st.getD ((st.length : Int) - 2).toNat false])
  else if op = 13 then (c, st.take ((st.length : Int) - popS op).toNat ++ [st.getD ((st.length : Int) - 1).toNat false])
  else if op = 14 then (c, st.take ((st.length : Int) - popS op).toNat ++ [st.getD ((st.length : Int) - 1).toNat false, st.getD ((st.length : Int) - 1).toNat false])
  else if op = 16 then (c, st.take ((st.length : Int) - popS op).toNat ++ [st.getD ((st.length : Int) - 1).toNat false, st.getD ((st.length : Int) - 2).toNat false])
  else if op = 18 then (c || st.getD ((st.length : Int) - 1).toNat false, st.take ((st.length : Int) - popS op).toNat)
  else if op = 1 ∨ op = 2 ∨ op = 6 ∨ op = 7 then (c, st.take ((st.length : Int) - popS op).toNat ++ [false])
  else (c, st.take ((st.length : Int) - popS op).toNat)
theorem rowsT_take (st : List Bool) (k : Nat) : List.take k (rowsT st) = rowsT (st.take k) := by simp [rowsT, List.map_take]
theorem rowsT_1 (a : List Bool) (x : Bool) : rowsT a ++ [[.v (.bool x)]] = rowsT (a ++ [x]) := by simp [rowsT]
theorem rowsT_2 (a : List Bool) (x y : Bool) : rowsT a ++ [[.v (.bool x)], [.v (.bool y)]] = rowsT (a ++ [x, y]) := by simp [rowsT]
theorem c28_1 (op : Int) (h0 : 0 ≤ op) (h1 : op ≤ 20) (t c : Bool) (st : List Bool) (hp : popS op ≤ st.length) (hd : st.length ≤ 16) (h3 : op = 3 ∨ op = 4 ∨ op = 5) :
    ∃ L, callT E 28 [.agg (rsA t c st), .i (.v (.int .i64 op))] [] = some (.agg (rsA true (stepS op c st).1 (stepS op c st).2), L) := by
  have p1 := popS_r op
  have hpo := fun H => ik21 op h0 h1 H
  have ha : stepS op c st = (c, st.take ((st.length : Int) - popS op).toNat ++ [true]) := by unfold stepS; rw [if_pos (by omega)]
  rw [ha]
  simp only
  clear ha
  generalize popS op = po at *
  have hkl : (st.take ((st.length : Int) - po).toNat).length = ((st.length : Int) - po).toNat := by rw [List.length_take]; omega
  have htk := rowsT_take st ((st.length : Int) - po).toNat
  generalize st.take ((st.length : Int) - po).toNat = b at *
  have htb : List.take b.length (rowsT b) = rowsT b := List.take_of_length_le (by rw [rowsT_len]; exact Nat.le_refl _)
  unfold rsA
  rcases h3 with h3 | h3 | h3
  · rw [callT_eq Tryd.func28 rfl fok28 (by simp [Tryd.ntmps28])]
    simp (disch := first | omega | (simp only [List.length_append, List.length_map, List.length_set, List.length_cons, List.length_nil, List.length_take, List.length_drop, rowsT_len]; omega)) only [va0, va1, va2, va3, va4, va5, va6, va7, va8, va9, va10, va11, va12, va13, va14, va15, vb0, vb1, vb2, vb3, w_i8, w_u8, w_i16, w_u16, w_i32, w_u32, w_i64, w_u64, lt_T, lt_F, le_T, le_F, nlt_T, nlt_F, nle_T, nle_F, List.take_of_length_le, gB, gcW, gcR, posIn, renA, renL, Chunk.ren, Chunk.refs, evOpD, touchD, stepC, isFresh, nFresh, freshOf, mkR, hole, evL, evH, opd, get, putD, ofVal, cellOf, loadE, behind, lenE, idxAddrE, idxE, addPtr, intE, strE, unE, convE, AV.int, AV.bool, AV.str, ivs, take, frameOf, firstRegion, refsA, refsL, one, cellsA, floatOk, apartT, List.map, if_true, if_false, E_P, E_glob0, E_glob1, reduceCtorEq, beq_self_eq_true, decide_true, decide_false, ↓reduceIte, Nat.reduceEqDiff, cond_true, cond_false, or_true, true_or, or_false, false_or, and_true, true_and, and_self, false_and, and_false, not_true, not_false_iff, Nat.reduceAdd, Nat.reduceSub, Nat.reduceMul, Nat.reduceLT, Nat.reduceLeDiff, Int.reduceToNat, Int.reduceLT, Int.reduceLE, Option.getD, Int.reduceMul, Int.reduceAdd, List.drop, List.take, Nat.reduceBEq, List.isEmpty, Int.reduceEq, Int.reduceNe, Int.reduceNeg, Int.reduceGT, Int.reduceGE, beq_true, beq_false, UInt8.reduceToNat, eqE, eq_self, foldE, maxE, minE, eq_T, eq_F, ndec, odec, adec, sdec, fillA, over, chop, List.replicate, leavesOk, leafOk, cellsEq, cellEq, E_ext, E_byref, en28, bs47, hpo, htk, hkl, htb, rowsT_len, rowsT_1, rowsT_2, Nat.sub_zero, List.nil_append, Bool.true_or, Bool.false_or]
    exact ⟨_, rfl⟩
  · rw [callT_eq Tryd.func28 rfl fok28 (by simp [Tryd.ntmps28])]
    simp (disch := first | omega | (simp only [List.length_append, List.length_map, List.length_set, List.length_cons, List.length_nil, List.length_take, List.length_drop, rowsT_len]; omega)) only [va0, va1, va2, va3, va4, va5, va6, va7, va8, va9, va10, va11, va12, va13, va14, va15, vb0, vb1, vb2, vb3, w_i8, w_u8, w_i16, w_u16, w_i32, w_u32, w_i64, w_u64, lt_T, lt_F, le_T, le_F, nlt_T, nlt_F, nle_T, nle_F, List.take_of_length_le, gB, gcW, gcR, posIn, renA, renL, Chunk.ren, Chunk.refs, evOpD, touchD, stepC, isFresh, nFresh, freshOf, mkR, hole, evL, evH, opd, get, putD, ofVal, cellOf, loadE, behind, lenE, idxAddrE, idxE, addPtr, intE, strE, unE, convE, AV.int, AV.bool, AV.str, ivs, take, frameOf, firstRegion, refsA, refsL, one, cellsA, floatOk, apartT, List.map, if_true, if_false, E_P, E_glob0, E_glob1, reduceCtorEq, beq_self_eq_true, decide_true, decide_false, ↓reduceIte, Nat.reduceEqDiff, cond_true, cond_false, or_true, true_or, or_false, false_or, and_true, true_and, and_self, false_and, and_false, not_true, not_false_iff, Nat.reduceAdd, Nat.reduceSub, Nat.reduceMul, Nat.reduceLT, Nat.reduceLeDiff, Int.reduceToNat, Int.reduceLT, Int.reduceLE, Option.getD, Int.reduceMul, Int.reduceAdd, List.drop, List.take, Nat.reduceBEq, List.isEmpty, Int.reduceEq, Int.reduceNe, Int.reduceNeg, Int.reduceGT, Int.reduceGE, beq_true, beq_false, UInt8.reduceToNat, eqE, eq_self, foldE, maxE, minE, eq_T, eq_F, ndec, odec, adec, sdec, fillA, over, chop, List.replicate, leavesOk, leafOk, cellsEq, cellEq, E_ext, E_byref, en28, bs47, hpo, htk, hkl, htb, rowsT_len, rowsT_1, rowsT_2, Nat.sub_zero, List.nil_append, Bool.true_or, Bool.false_or]
    exact ⟨_, rfl⟩
  · rw [callT_eq Tryd.func28 rfl fok28 (by simp [Tryd.ntmps28])]
    simp (disch := first | omega | (simp only [List.length_append, List.length_map, List.length_set, List.length_cons, List.length_nil, List.length_take, List.length_drop, rowsT_len]; omega)) only [va0, va1, va2, va3, va4, va5, va6, va7, va8, va9, va10, va11, va12, va13, va14, va15, vb0, vb1, vb2, vb3, w_i8, w_u8, w_i16, w_u16, w_i32, w_u32, w_i64, w_u64, lt_T, lt_F, le_T, le_F, nlt_T, nlt_F, nle_T, nle_F, List.take_of_length_le, gB, gcW, gcR, posIn, renA, renL, Chunk.ren, Chunk.refs, evOpD, touchD, stepC, isFresh, nFresh, freshOf, mkR, hole, evL, evH, opd, get, putD, ofVal, cellOf, loadE, behind, lenE, idxAddrE, idxE, addPtr, intE, strE, unE, convE, AV.int, AV.bool, AV.str, ivs, take, frameOf, firstRegion, refsA, refsL, one, cellsA, floatOk, apartT, List.map, if_true, if_false, E_P, E_glob0, E_glob1, reduceCtorEq, beq_self_eq_true, decide_true, decide_false, ↓reduceIte, Nat.reduceEqDiff, cond_true, cond_false, or_true, true_or, or_false, false_or, and_true, true_and, and_self, false_and, and_false, not_true, not_false_iff, Nat.reduceAdd, Nat.reduceSub, Nat.reduceMul, Nat.reduceLT, Nat.reduceLeDiff, Int.reduceToNat, Int.reduceLT, Int.reduceLE, Option.getD, Int.reduceMul, Int.reduceAdd, List.drop, List.take, Nat.reduceBEq, List.isEmpty, Int.reduceEq, Int.reduceNe, Int.reduceNeg, Int.reduceGT, Int.reduceGE, beq_true, beq_false, UInt8.reduceToNat, eqE, eq_self, foldE, maxE, minE, eq_T, eq_F, ndec, odec, adec, sdec, fillA, over, chop, List.replicate, leavesOk, leafOk, cellsEq, cellEq, E_ext, E_byref, en28, bs47, hpo, htk, hkl, htb, rowsT_len, rowsT_1, rowsT_2, Nat.sub_zero, List.nil_append, Bool.true_or, Bool.false_or]
    exact ⟨_, rfl⟩
theorem c28_2 (op : Int) (h0 : 0 ≤ op) (h1 : op ≤ 20) (t c : Bool) (st : List Bool) (hp : popS op ≤ st.length) (hd : st.length ≤ 16) (h3 : op = 8 ∨ op = 9 ∨ op = 10 ∨ op = 11 ∨ op = 12) :
    ∃ L, callT E 28 [.agg (rsA t c st), .i (.v (.int .i64 op))] [] = some (.agg (rsA true (stepS op c st).1 (stepS op c st).2), L) := by
  have b1 := (pop_push op h0 h1).2.1 (by omega)
  have p1 := popS_r op
  have hpo := fun H => ik21 op h0 h1 H
  have ha : stepS op c st = (c, st.take ((st.length : Int) - popS op).toNat ++ [st.getD ((st.length : Int) - 1).toNat false || st.getD ((st.length : Int) - 2).toNat false]) := by unfold stepS; rw [if_neg (by omega), if_pos (by omega)]
  rw [ha]
  simp only
  clear ha
  have hgx := rowsT_get (l := st) (k := ((st.length : Int) - 1).toNat) (by omega)
  generalize st.getD ((st.length : Int) - 1).toNat false = x at *
  have hgy := rowsT_get (l := st) (k := ((st.length : Int) - 2).toNat) (by omega)
  generalize st.getD ((st.length : Int) - 2).toNat false = y at *
  generalize popS op = po at *
  have hkl : (st.take ((st.length : Int) - po).toNat).length = ((st.length : Int) - po).toNat := by rw [List.length_take]; omega
  have htk := rowsT_take st ((st.length : Int) - po).toNat
  generalize st.take ((st.length : Int) - po).toNat = b at *
  have htb : List.take b.length (rowsT b) = rowsT b := List.take_of_length_le (by rw [rowsT_len]; exact Nat.le_refl _)
  unfold rsA
  cases x
  · simp only [Bool.false_or]
    rcases h3 with h3 | h3 | h3 | h3 | h3
    · rw [callT_eq Tryd.func28 rfl fok28 (by simp [Tryd.ntmps28])]
      simp (disch := first | omega | (simp only [List.length_append, List.length_map, List.length_set, List.length_cons, List.length_nil, List.length_take, List.length_drop, rowsT_len]; omega)) only [va0, va1, va2, va3, va4, va5, va6, va7, va8, va9, va10, va11, va12, va13, va14, va15, vb0, vb1, vb2, vb3, w_i8, w_u8, w_i16, w_u16, w_i32, w_u32, w_i64, w_u64, lt_T, lt_F, le_T, le_F, nlt_T, nlt_F, nle_T, nle_F, List.take_of_length_le, gB, gcW, gcR, posIn, renA, renL, Chunk.ren, Chunk.refs, evOpD, touchD, stepC, isFresh, nFresh, freshOf, mkR, hole, evL, evH, opd, get, putD, ofVal, cellOf, loadE, behind, lenE, idxAddrE, idxE, addPtr, intE, strE, unE, convE, AV.int, AV.bool, AV.str, ivs, take, frameOf, firstRegion, refsA, refsL, one, cellsA, floatOk, apartT, List.map, if_true, if_false, E_P, E_glob0, E_glob1, reduceCtorEq, beq_self_eq_true, decide_true, decide_false, ↓reduceIte, Nat.reduceEqDiff, cond_true, cond_false, or_true, true_or, or_false, false_or, and_true, true_and, and_self, false_and, and_false, not_true, not_false_iff, Nat.reduceAdd, Nat.reduceSub, Nat.reduceMul, Nat.reduceLT, Nat.reduceLeDiff, Int.reduceToNat, Int.reduceLT, Int.reduceLE, Option.getD, Int.reduceMul, Int.reduceAdd, List.drop, List.take, Nat.reduceBEq, List.isEmpty, Int.reduceEq, Int.reduceNe, Int.reduceNeg, Int.reduceGT, Int.reduceGE, beq_true, beq_false, UInt8.reduceToNat, eqE, eq_self, foldE, maxE, minE, eq_T, eq_F, ndec, odec, adec, sdec, fillA, over, chop, List.replicate, leavesOk, leafOk, cellsEq, cellEq, E_ext, E_byref, en28, bs47, hpo, htk, hkl, htb, hgx, hgy, rowsT_len, rowsT_1, rowsT_2, Nat.sub_zero, List.nil_append, Bool.true_or, Bool.false_or]
      exact ⟨_, rfl⟩
    · rw [callT_eq Tryd.func28 rfl fok28 (by simp [Tryd.ntmps28])]
      simp (disch := first | omega | (simp only [List.length_append, List.length_map, List.length_set, List.length_cons, List.length_nil, List.length_take, List.length_drop, rowsT_len]; omega)) only [va0, va1, va2, va3, va4, va5, va6, va7, va8, va9, va10, va11, va12, va13, va14, va15, vb0, vb1, vb2, vb3, w_i8, w_u8, w_i16, w_u16, w_i32, w_u32, w_i64, w_u64, lt_T, lt_F, le_T, le_F, nlt_T, nlt_F, nle_T, nle_F, List.take_of_length_le, gB, gcW, gcR, posIn, renA, renL, Chunk.ren, Chunk.refs, evOpD, touchD, stepC, isFresh, nFresh, freshOf, mkR, hole, evL, evH, opd, get, putD, ofVal, cellOf, loadE, behind, lenE, idxAddrE, idxE, addPtr, intE, strE, unE, convE, AV.int, AV.bool, AV.str, ivs, take, frameOf, firstRegion, refsA, refsL, one, cellsA, floatOk, apartT, List.map, if_true, if_false, E_P, E_glob0, E_glob1, reduceCtorEq, beq_self_eq_true, decide_true, decide_false, ↓reduceIte, Nat.reduceEqDiff, cond_true, cond_false, or_true, true_or, or_false, false_or, and_true, true_and, and_self, false_and, and_false, not_true, not_false_iff, Nat.reduceAdd, Nat.reduceSub, Nat.reduceMul, Nat.reduceLT, Nat.reduceLeDiff, Int.reduceToNat, Int.reduceLT, Int.reduceLE, Option.getD, Int.reduceMul, Int.reduceAdd, List.drop, List.take, Nat.reduceBEq, List.isEmpty, Int.reduceEq, Int.reduceNe, Int.reduceNeg, Int.reduceGT, Int.reduceGE, beq_true, beq_false, UInt8.reduceToNat, eqE, eq_self, foldE, maxE, minE, eq_T, eq_F, ndec, odec, adec, sdec, fillA, over, chop, List.replicate, leavesOk, leafOk, cellsEq, cellEq, E_ext, E_byref, en28, bs47, hpo, htk, hkl, htb, hgx, hgy, rowsT_len, rowsT_1, rowsT_2, Nat.sub_zero, List.nil_append, Bool.true_or, Bool.false_or]
      exact ⟨_, rfl⟩
    · rw [callT_eq Tryd.func28 rfl fok28 (by simp [Tryd.ntmps28])]
      simp (disch := first | omega | (simp only [List.length_append, List.length_map, List.length_set, List.length_cons, List.length_nil, List.length_take, List.length_drop, rowsT_len]; omega)) only [va0, va1, va2, va3, va4, va5, va6, va7, va8, va9, va10, va11, va12, va13, va14, va15, vb0, vb1, vb2, vb3, w_i8, w_u8, w_i16, w_u16, w_i32, w_u32, w_i64, w_u64, lt_T, lt_F, le_T, le_F, nlt_T, nlt_F, nle_T, nle_F, List.take_of_length_le, gB, gcW, gcR, posIn, renA, renL, Chunk.ren, Chunk.refs, evOpD, touchD, stepC, isFresh, nFresh, freshOf, mkR, hole, evL, evH, opd, get, putD, ofVal, cellOf, loadE, behind, lenE, idxAddrE, idxE, addPtr, intE, strE, unE, convE, AV.int, AV.bool, AV.str, ivs, take, frameOf, firstRegion, refsA, refsL, one, cellsA, floatOk, apartT, List.map, if_true, if_false, E_P, E_glob0, E_glob1, reduceCtorEq, beq_self_eq_true, decide_true, decide_false, ↓reduceIte, Nat.reduceEqDiff, cond_true, cond_false, or_true, true_or, or_false, false_or, and_true, true_and, and_self, false_and, and_false, not_true, not_false_iff, Nat.reduceAdd, Nat.reduceSub, Nat.reduceMul, Nat.reduceLT, Nat.reduceLeDiff, Int.reduceToNat, Int.reduceLT, Int.reduceLE, Option.getD, Int.reduceMul, Int.reduceAdd, List.drop, List.take, Nat.reduceBEq, List.isEmpty, Int.reduceEq, Int.reduceNe, Int.reduceNeg, Int.reduceGT, Int.reduceGE, beq_true, beq_false, UInt8.reduceToNat, eqE, eq_self, foldE, maxE, minE, eq_T, eq_F, ndec, odec, adec, sdec, fillA, over, chop, List.replicate, leavesOk, leafOk, cellsEq, cellEq, E_ext, E_byref, en28, bs47, hpo, htk, hkl, htb, hgx, hgy, rowsT_len, rowsT_1, rowsT_2, Nat.sub_zero, List.nil_append, Bool.true_or, Bool.false_or]
      exact ⟨_, rfl⟩
    · rw [callT_eq Tryd.func28 rfl fok28 (by simp [Tryd.ntmps28])]
      simp (disch := first | omega | (simp only [List.length_append, List.length_map, List.length_set, List.length_cons, List.length_nil, List.length_take, List.length_drop, rowsT_len]; omega)) only [va0, va1, va2, va3, va4, va5, va6, va7, va8, va9, va10, va11, va12, va13, va14, va15, vb0, vb1, vb2, vb3, w_i8, w_u8, w_i16, w_u16, w_i32, w_u32, w_i64, w_u64, lt_T, lt_F, le_T, le_F, nlt_T, nlt_F, nle_T, nle_F, List.take_of_length_le, gB, gcW, gcR, posIn, renA, renL, Chunk.ren, Chunk.refs, evOpD, touchD, stepC, isFresh, nFresh, freshOf, mkR, hole, evL, evH, opd, get, putD, ofVal, cellOf, loadE, behind, lenE, idxAddrE, idxE, addPtr, intE, strE, unE, convE, AV.int, AV.bool, AV.str, ivs, take, frameOf, firstRegion, refsA, refsL, one, cellsA, floatOk, apartT, List.map, if_true, if_false, E_P, E_glob0, E_glob1, reduceCtorEq, beq_self_eq_true, decide_true, decide_false, ↓reduceIte, Nat.reduceEqDiff, cond_true, cond_false, or_true, true_or, or_false, false_or, and_true, true_and, and_self, false_and, and_false, not_true, not_false_iff, Nat.reduceAdd, Nat.reduceSub, Nat.reduceMul, Nat.reduceLT, Nat.reduceLeDiff, Int.reduceToNat, Int.reduceLT, Int.reduceLE, Option.getD, Int.reduceMul, Int.reduceAdd, List.drop, List.take, Nat.reduceBEq, List.isEmpty, Int.reduceEq, Int.reduceNe, Int.reduceNeg, Int.reduceGT, Int.reduceGE, beq_true, beq_false, UInt8.reduceToNat, eqE, eq_self, foldE, maxE, minE, eq_T, eq_F, ndec, odec, adec, sdec, fillA, over, chop, List.replicate, leavesOk, leafOk, cellsEq, cellEq, E_ext, E_byref, en28, bs47, hpo, htk, hkl, htb, hgx, hgy, rowsT_len, rowsT_1, rowsT_2, Nat.sub_zero, List.nil_append, Bool.true_or, Bool.false_or]
      exact ⟨_, rfl⟩
    · rw [callT_eq Tryd.func28 rfl fok28 (by simp [Tryd.ntmps28])]
      simp (disch := first | omega | (simp only [List.length_append, List.length_map, List.length_set, List.length_cons, List.length_nil, List.length_take, List.length_drop, rowsT_len]; omega)) only [va0, va1, va2, va3, va4, va5, va6, va7, va8, va9, va10, va11, va12, va13, va14, va15, vb0, vb1, vb2, vb3, w_i8, w_u8, w_i16, w_u16, w_i32, w_u32, w_i64, w_u64, lt_T, lt_F, le_T, le_F, nlt_T, nlt_F, nle_T, nle_F, List.take_of_length_le, gB, gcW, gcR, posIn, renA, renL, Chunk.ren, Chunk.refs, evOpD, touchD, stepC, isFresh, nFresh, freshOf, mkR, hole, evL, evH, opd, get, putD, ofVal, cellOf, loadE, behind, lenE, idxAddrE, idxE, addPtr, intE, strE, unE, convE, AV.int, AV.bool, AV.str, ivs, take, frameOf, firstRegion, refsA, refsL, one, cellsA, floatOk, apartT, List.map, if_true, if_false, E_P, E_glob0, E_glob1, reduceCtorEq, beq_self_eq_true, decide_true, decide_false, ↓reduceIte, Nat.reduceEqDiff, cond_true, cond_false, or_true, true_or, or_false, false_or, and_true, true_and, and_self, false_and, and_false, not_true, not_false_iff, Nat.reduceAdd, Nat.reduceSub, Nat.reduceMul, Nat.reduceLT, Nat.reduceLeDiff, Int.reduceToNat, Int.reduceLT, Int.reduceLE, Option.getD, Int.reduceMul, Int.reduceAdd, List.drop, List.take, Nat.reduceBEq, List.isEmpty, Int.reduceEq, Int.reduceNe, Int.reduceNeg, Int.reduceGT, Int.reduceGE, beq_true, beq_false, UInt8.reduceToNat, eqE, eq_self, foldE, maxE, minE, eq_T, eq_F, ndec, odec, adec, sdec, fillA, over, chop, List.replicate, leavesOk, leafOk, cellsEq, cellEq, E_ext, E_byref, en28, bs47, hpo, htk, hkl, htb, hgx, hgy, rowsT_len, rowsT_1, rowsT_2, Nat.sub_zero, List.nil_append, Bool.true_or, Bool.false_or]
      exact ⟨_, rfl⟩
  · simp only [Bool.true_or]
    rcases h3 with h3 | h3 | h3 | h3 | h3
    · rw [callT_eq Tryd.func28 rfl fok28 (by simp [Tryd.ntmps28])]
      simp (disch := first | omega | (simp only [List.length_append, List.length_map, List.length_set, List.length_cons, List.length_nil, List.length_take, List.length_drop, rowsT_len]; omega)) only [va0, va1, va2, va3, va4, va5, va6, va7, va8, va9, va10, va11, va12, va13, va14, va15, vb0, vb1, vb2, vb3, w_i8, w_u8, w_i16, w_u16, w_i32, w_u32, w_i64, w_u64, lt_T, lt_F, le_T, le_F, nlt_T, nlt_F, nle_T, nle_F, List.take_of_length_le, gB, gcW, gcR, posIn, renA, renL, Chunk.ren, Chunk.refs, evOpD, touchD, stepC, isFresh, nFresh, freshOf, mkR, hole, evL, evH, opd, get, putD, ofVal, cellOf, loadE, behind, lenE, idxAddrE, idxE, addPtr, intE, strE, unE, convE, AV.int, AV.bool, AV.str, ivs, take, frameOf, firstRegion, refsA, refsL, one, cellsA, floatOk, apartT, List.map, if_true, if_false, E_P, E_glob0, E_glob1, reduceCtorEq, beq_self_eq_true, decide_true, decide_false, ↓reduceIte, Nat.reduceEqDiff, cond_true, cond_false, or_true, true_or, or_false, false_or, and_true, true_and, and_self, false_and, and_false, not_true, not_false_iff, Nat.reduceAdd, Nat.reduceSub, Nat.reduceMul, Nat.reduceLT, Nat.reduceLeDiff, Int.reduceToNat, Int.reduceLT, Int.reduceLE, Option.getD, Int.reduceMul, Int.reduceAdd, List.drop, List.take, Nat.reduceBEq, List.isEmpty, Int.reduceEq, Int.reduceNe, Int.reduceNeg, Int.reduceGT, Int.reduceGE, beq_true, beq_false, UInt8.reduceToNat, eqE, eq_self, foldE, maxE, minE, eq_T, eq_F, ndec, odec, adec, sdec, fillA, over, chop, List.replicate, leavesOk, leafOk, cellsEq, cellEq, E_ext, E_byref, en28, bs47, hpo, htk, hkl, htb, hgx, hgy, rowsT_len, rowsT_1, rowsT_2, Nat.sub_zero, List.nil_append, Bool.true_or, Bool.false_or]
      exact ⟨_, rfl⟩
    · rw [callT_eq Tryd.func28 rfl fok28 (by simp [Tryd.ntmps28])]
      simp (disch := first | omega | (simp only [List.length_append, List.length_map, List.length_set, List.length_cons, List.length_nil, List.length_take, List.length_drop, rowsT_len]; omega)) only [va0, va1, va2, va3, va4, va5, va6, va7, va8, va9, va10, va11, va12, va13, va14, va15, vb0, vb1, vb2, vb3, w_i8, w_u8, w_i16, w_u16, w_i32, w_u32, w_i64, w_u64, lt_T, lt_F, le_T, le_F, nlt_T, nlt_F, nle_T, nle_F, List.take_of_length_le, gB, gcW, gcR, posIn, renA, renL, Chunk.ren, Chunk.refs, evOpD, touchD, stepC, isFresh, nFresh, freshOf, mkR, hole, evL, evH, opd, get, putD, ofVal, cellOf, loadE, behind, lenE, idxAddrE, idxE, addPtr, intE, strE, unE, convE, AV.int, AV.bool, AV.str, ivs, take, frameOf, firstRegion, refsA, refsL, one, cellsA, floatOk, apartT, List.map, if_true, if_false, E_P, E_glob0, E_glob1, reduceCtorEq, beq_self_eq_true, decide_true, decide_false, ↓reduceIte, Nat.reduceEqDiff, cond_true, cond_false, or_true, true_or, or_false, false_or, and_true, true_and, and_self, false_and, and_false, not_true, not_false_iff, Nat.reduceAdd, Nat.reduceSub, Nat.reduceMul, Nat.reduceLT, Nat.reduceLeDiff, Int.reduceToNat, Int.reduceLT, Int.reduceLE, Option.getD, Int.reduceMul, Int.reduceAdd, List.drop, List.take, Nat.reduceBEq, List.isEmpty, Int.reduceEq, Int.reduceNe, Int.reduceNeg, Int.reduceGT, Int.reduceGE, beq_true, beq_false, UInt8.reduceToNat, eqE, eq_self, foldE, maxE, minE, eq_T, eq_F, ndec, odec, adec, sdec, fillA, over, chop, List.replicate, leavesOk, leafOk, cellsEq, cellEq, E_ext, E_byref, en28, bs47, hpo, htk, hkl, htb, hgx, hgy, rowsT_len, rowsT_1, rowsT_2, Nat.sub_zero, List.nil_append, Bool.true_or, Bool.false_or]
      exact ⟨_, rfl⟩
    · rw [callT_eq Tryd.func28 rfl fok28 (by simp [Tryd.ntmps28])]
      simp (disch := first | omega | (simp only [List.length_append, List.length_map, List.length_set, List.length_cons, List.length_nil, List.length_take, List.length_drop, rowsT_len]; omega)) only [va0, va1, va2, va3, va4, va5, va6, va7, va8, va9, va10, va11, va12, va13, va14, va15, vb0, vb1, vb2, vb3, w_i8, w_u8, w_i16, w_u16, w_i32, w_u32, w_i64, w_u64, lt_T, lt_F, le_T, le_F, nlt_T, nlt_F, nle_T, nle_F, List.take_of_length_le, gB, gcW, gcR, posIn, renA, renL, Chunk.ren, Chunk.refs, evOpD, touchD, stepC, isFresh, nFresh, freshOf, mkR, hole, evL, evH, opd, get, putD, ofVal, cellOf, loadE, behind, lenE, idxAddrE, idxE, addPtr, intE, strE, unE, convE, AV.int, AV.bool, AV.str, ivs, take, frameOf, firstRegion, refsA, refsL, one, cellsA, floatOk, apartT, List.map, if_true, if_false, E_P, E_glob0, E_glob1, reduceCtorEq, beq_self_eq_true, decide_true, decide_false, ↓reduceIte, Nat.reduceEqDiff, cond_true, cond_false, or_true, true_or, or_false, false_or, and_true, true_and, and_self, false_and, and_false, not_true, not_false_iff, Nat.reduceAdd, Nat.reduceSub, Nat.reduceMul, Nat.reduceLT, Nat.reduceLeDiff, Int.reduceToNat, Int.reduceLT, Int.reduceLE, Option.getD, Int.reduceMul, Int.reduceAdd, List.drop, List.take, Nat.reduceBEq, List.isEmpty, Int.reduceEq, Int.reduceNe, Int.reduceNeg, Int.reduceGT, Int.reduceGE, beq_true, beq_false, UInt8.reduceToNat, eqE, eq_self, foldE, maxE, minE, eq_T, eq_F, ndec, odec, adec, sdec, fillA, over, chop, List.replicate, leavesOk, leafOk, cellsEq, cellEq, E_ext, E_byref, en28, bs47, hpo, htk, hkl, htb, hgx, hgy, rowsT_len, rowsT_1, rowsT_2, Nat.sub_zero, List.nil_append, Bool.true_or, Bool.false_or]
      exact ⟨_, rfl⟩
    · rw [callT_eq Tryd.func28 rfl fok28 (by simp [Tryd.ntmps28])]
      simp (disch := first | omega | (simp only [List.length_append, List.length_map, List.length_set, List.length_cons, List.length_nil, List.length_take, List.length_drop, rowsT_len]; omega)) only [va0, va1, va2, va3, va4, va5, va6, va7, va8, va9, va10, va11, va12, va13, va14, va15, vb0, vb1, vb2, vb3, w_i8, w_u8, w_i16, w_u16, w_i32, w_u32, w_i64, w_u64, lt_T, lt_F, le_T, le_F, nlt_T, nlt_F, nle_T, nle_F, List.take_of_length_le, gB, gcW, gcR, posIn, renA, renL, Chunk.ren, Chunk.refs, evOpD, touchD, stepC, isFresh, nFresh, freshOf, mkR, hole, evL, evH, opd, get, putD, ofVal, cellOf, loadE, behind, lenE, idxAddrE, idxE, addPtr, intE, strE, unE, convE, AV.int, AV.bool, AV.str, ivs, take, frameOf, firstRegion, refsA, refsL, one, cellsA, floatOk, apartT, List.map, if_true, if_false, E_P, E_glob0, E_glob1, reduceCtorEq, beq_self_eq_true, decide_true, decide_false, ↓reduceIte, Nat.reduceEqDiff, cond_true, cond_false, or_true, true_or, or_false, false_or, and_true, true_and, and_self, false_and, and_false, not_true, not_false_iff, Nat.reduceAdd, Nat.reduceSub, Nat.reduceMul, Nat.reduceLT, Nat.reduceLeDiff, Int.reduceToNat, Int.reduceLT, Int.reduceLE, Option.getD, Int.reduceMul, Int.reduceAdd, List.drop, List.take, Nat.reduceBEq, List.isEmpty, Int.reduceEq, Int.reduceNe, Int.reduceNeg, Int.reduceGT, Int.reduceGE, beq_true, beq_false, UInt8.reduceToNat, eqE, eq_self, foldE, maxE, minE, eq_T, eq_F, ndec, odec, adec, sdec, fillA, over, chop, List.replicate, leavesOk, leafOk, cellsEq, cellEq, E_ext, E_byref, en28, bs47, hpo, htk, hkl, htb, hgx, hgy, rowsT_len, rowsT_1, rowsT_2, Nat.sub_zero, List.nil_append, Bool.true_or, Bool.false_or]
      exact ⟨_, rfl⟩
    · rw [callT_eq Tryd.func28 rfl fok28 (by simp [Tryd.ntmps28])]
      simp (disch := first | omega | (simp only [List.length_append, List.length_map, List.length_set, List.length_cons, List.length_nil, List.length_take, List.length_drop, rowsT_len]; omega)) only [va0, va1, va2, va3, va4, va5, va6, va7, va8, va9, va10, va11, va12, va13, va14, va15, vb0, vb1, vb2, vb3, w_i8, w_u8, w_i16, w_u16, w_i32, w_u32, w_i64, w_u64, lt_T, lt_F, le_T, le_F, nlt_T, nlt_F, nle_T, nle_F, List.take_of_length_le, gB, gcW, gcR, posIn, renA, renL, Chunk.ren, Chunk.refs, evOpD, touchD, stepC, isFresh, nFresh, freshOf, mkR, hole, evL, evH, opd, get, putD, ofVal, cellOf, loadE, behind, lenE, idxAddrE, idxE, addPtr, intE, strE, unE, convE, AV.int, AV.bool, AV.str, ivs, take, frameOf, firstRegion, refsA, refsL, one, cellsA, floatOk, apartT, List.map, if_true, if_false, E_P, E_glob0, E_glob1, reduceCtorEq, beq_self_eq_true, decide_true, decide_false, ↓reduceIte, Nat.reduceEqDiff, cond_true, cond_false, or_true, true_or, or_false, false_or, and_true, true_and, and_self, false_and, and_false, not_true, not_false_iff, Nat.reduceAdd, Nat.reduceSub, Nat.reduceMul, Nat.reduceLT, Nat.reduceLeDiff, Int.reduceToNat, Int.reduceLT, Int.reduceLE, Option.getD, Int.reduceMul, Int.reduceAdd, List.drop, List.take, Nat.reduceBEq, List.isEmpty, Int.reduceEq, Int.reduceNe, Int.reduceNeg, Int.reduceGT, Int.reduceGE, beq_true, beq_false, UInt8.reduceToNat, eqE, eq_self, foldE, maxE, minE, eq_T, eq_F, ndec, odec, adec, sdec, fillA, over, chop, List.replicate, leavesOk, leafOk, cellsEq, cellEq, E_ext, E_byref, en28, bs47, hpo, htk, hkl, htb, hgx, hgy, rowsT_len, rowsT_1, rowsT_2, Nat.sub_zero, List.nil_append, Bool.true_or, Bool.false_or]
      exact ⟨_, rfl⟩
theorem c28_3 (op : Int) (h0 : 0 ≤ op) (h1 : op ≤ 20) (t c : Bool) (st : List Bool) (hp : popS op ≤ st.length) (hd : st.length ≤ 16) (h3 : op = 13) :
    ∃ L, callT E 28 [.agg (rsA t c st), .i (.v (.int .i64 op))] [] = some (.agg (rsA true (stepS op c st).1 (stepS op c st).2), L) := by
  have b1 : popS op = 1 := by rw [h3]; decide
  have p1 := popS_r op
  have hpo := fun H => ik21 op h0 h1 H
  have ha : stepS op c st = (c, st.take ((st.length : Int) - popS op).toNat ++ [st.getD ((st.length : Int) - 1).toNat false]) := by unfold stepS; rw [if_neg (by omega), if_neg (by omega), if_pos h3]
  rw [ha]
  simp only
  clear ha
  have hgx := rowsT_get (l := st) (k := ((st.length : Int) - 1).toNat) (by omega)
  generalize st.getD ((st.length : Int) - 1).toNat false = x at *
  generalize popS op = po at *
  have hkl : (st.take ((st.length : Int) - po).toNat).length = ((st.length : Int) - po).toNat := by rw [List.length_take]; omega
  have htk := rowsT_take st ((st.length : Int) - po).toNat
  generalize st.take ((st.length : Int) - po).toNat = b at *
  have htb : List.take b.length (rowsT b) = rowsT b := List.take_of_length_le (by rw [rowsT_len]; exact Nat.le_refl _)
  unfold rsA
  rw [callT_eq Tryd.func28 rfl fok28 (by simp [Tryd.ntmps28])]
  simp (disch := first | omega | (simp only [List.length_append, List.length_map, List.length_set, List.length_cons, List.length_nil, List.length_take, List.length_drop, rowsT_len]; omega)) only [va0, va1, va2, va3, va4, va5, va6, va7, va8, va9, va10, va11, va12, va13, va14, va15, vb0, vb1, vb2, vb3, w_i8, w_u8, w_i16, w_u16, w_i32, w_u32, w_i64, w_u64, lt_T, lt_F, le_T, le_F, nlt_T, nlt_F, nle_T, nle_F, List.take_of_length_le, gB, gcW, gcR, posIn, renA, renL, Chunk.ren, Chunk.refs, evOpD, touchD, stepC, isFresh, nFresh, freshOf, mkR, hole, evL, evH, opd, get, putD, ofVal, cellOf, loadE, behind, lenE, idxAddrE, idxE, addPtr, intE, strE, unE, convE, AV.int, AV.bool, AV.str, ivs, take, frameOf, firstRegion, refsA, refsL, one, cellsA, floatOk, apartT, List.map, if_true, if_false, E_P, E_glob0, E_glob1, reduceCtorEq, beq_self_eq_true, decide_true, decide_false, ↓reduceIte, Nat.reduceEqDiff, cond_true, cond_false, or_true, true_or, or_false, false_or, and_true, true_and, and_self, false_and, and_false, not_true, not_false_iff, Nat.reduceAdd, Nat.reduceSub, Nat.reduceMul, Nat.reduceLT, Nat.reduceLeDiff, Int.reduceToNat, Int.reduceLT, Int.reduceLE, Option.getD, Int.reduceMul, Int.reduceAdd, List.drop, List.take, Nat.reduceBEq, List.isEmpty, Int.reduceEq, Int.reduceNe, Int.reduceNeg, Int.reduceGT, Int.reduceGE, beq_true, beq_false, UInt8.reduceToNat, eqE, eq_self, foldE, maxE, minE, eq_T, eq_F, ndec, odec, adec, sdec, fillA, over, chop, List.replicate, leavesOk, leafOk, cellsEq, cellEq, E_ext, E_byref, en28, bs47, hpo, htk, hkl, htb, hgx, rowsT_len, rowsT_1, rowsT_2, Nat.sub_zero, List.nil_append, Bool.true_or, Bool.false_or]
  exact ⟨_, rfl⟩
theorem c28_4 (op : Int) (h0 : 0 ≤ op) (h1 : op ≤ 20) (t c : Bool) (st : List Bool) (hp : popS op ≤ st.length) (hd : st.length ≤ 16) (h3 : op = 14) :
    ∃ L, callT E 28 [.agg (rsA t c st), .i (.v (.int .i64 op))] [] = some (.agg (rsA true (stepS op c st).1 (stepS op c st).2), L) := by
  have b1 : popS op = 1 := by rw [h3]; decide
  have p1 := popS_r op
  have hpo := fun H => ik21 op h0 h1 H
  have ha : stepS op c st = (c, st.take ((st.length : Int) - popS op).toNat ++ [st.getD ((st.length : Int) - 1).toNat false, st.getD ((st.length : Int) - 1).toNat false]) := by unfold stepS; rw [if_neg (by omega), if_neg (by omega), if_neg (by omega), if_pos h3]
  rw [ha]
  simp only
  clear ha
  have hgx := rowsT_get (l := st) (k := ((st.length : Int) - 1).toNat) (by omega)
  generalize st.getD ((st.length : Int) - 1).toNat false = x at *
  generalize popS op = po at *
  have hkl : (st.take ((st.length : Int) - po).toNat).length = ((st.length : Int) - po).toNat := by rw [List.length_take]; omega
  have htk := rowsT_take st ((st.length : Int) - po).toNat
  generalize st.take ((st.length : Int) - po).toNat = b at *
  have htb : List.take b.length (rowsT b) = rowsT b := List.take_of_length_le (by rw [rowsT_len]; exact Nat.le_refl _)
  unfold rsA
  rw [callT_eq Tryd.func28 rfl fok28 (by simp [Tryd.ntmps28])]
  simp (disch := first | omega | (simp only [List.length_append, List.length_map, List.length_set, List.length_cons, List.length_nil, List.length_take, List.length_drop, rowsT_len]; omega)) only [va0, va1, va2, va3, va4, va5, va6, va7, va8, va9, va10, va11, va12, va13, va14, va15, vb0, vb1, vb2, vb3, w_i8, w_u8, w_i16, w_u16, w_i32, w_u32, w_i64, w_u64, lt_T, lt_F, le_T, le_F, nlt_T, nlt_F, nle_T, nle_F, List.take_of_length_le, gB, gcW, gcR, posIn, renA, renL, Chunk.ren, Chunk.refs, evOpD, touchD, stepC, isFresh, nFresh, freshOf, mkR, hole, evL, evH, opd, get, putD, ofVal, cellOf, loadE, behind, lenE, idxAddrE, idxE, addPtr, intE, strE, unE, convE, AV.int, AV.bool, AV.str, ivs, take, frameOf, firstRegion, refsA, refsL, one, cellsA, floatOk, apartT, List.map, if_true, if_false, E_P, E_glob0, E_glob1, reduceCtorEq, beq_self_eq_true, decide_true, decide_false, ↓reduceIte, Nat.reduceEqDiff, cond_true, cond_false, or_true, true_or, or_false, false_or, and_true, true_and, and_self, false_and, and_false, not_true, not_false_iff, Nat.reduceAdd, Nat.reduceSub, Nat.reduceMul, Nat.reduceLT, Nat.reduceLeDiff, Int.reduceToNat, Int.reduceLT, Int.reduceLE, Option.getD, Int.reduceMul, Int.reduceAdd, List.drop, List.take, Nat.reduceBEq, List.isEmpty, Int.reduceEq, Int.reduceNe, Int.reduceNeg, Int.reduceGT, Int.reduceGE, beq_true, beq_false, UInt8.reduceToNat, eqE, eq_self, foldE, maxE, minE, eq_T, eq_F, ndec, odec, adec, sdec, fillA, over, chop, List.replicate, leavesOk, leafOk, cellsEq, cellEq, E_ext, E_byref, en28, bs47, hpo, htk, hkl, htb, hgx, rowsT_len, rowsT_1, rowsT_2, Nat.sub_zero, List.nil_append, Bool.true_or, Bool.false_or]
  exact ⟨_, rfl⟩
theorem c28_5 (op : Int) (h0 : 0 ≤ op) (h1 : op ≤ 20) (t c : Bool) (st : List Bool) (hp : popS op ≤ st.length) (hd : st.length ≤ 16) (h3 : op = 16) :
    ∃ L, callT E 28 [.agg (rsA t c st), .i (.v (.int .i64 op))] [] = some (.agg (rsA true (stepS op c st).1 (stepS op c st).2), L) := by
  have b1 : popS op = 2 := by rw [h3]; decide
  have p1 := popS_r op
  have hpo := fun H => ik21 op h0 h1 H
  have ha : stepS op c st = (c, st.take ((st.length : Int) - popS op).toNat ++ [st.getD ((st.length : Int) - 1).toNat false, st.getD ((st.length : Int) - 2).toNat false]) := by unfold stepS; rw [if_neg (by omega), if_neg (by omega), if_neg (by omega), if_neg (by omega), if_pos h3]
  rw [ha]
  simp only
  clear ha
  have hgx := rowsT_get (l := st) (k := ((st.length : Int) - 1).toNat) (by omega)
  generalize st.getD ((st.length : Int) - 1).toNat false = x at *
  have hgy := rowsT_get (l := st) (k := ((st.length : Int) - 2).toNat) (by omega)
  generalize st.getD ((st.length : Int) - 2).toNat false = y at *
  generalize popS op = po at *
  have hkl : (st.take ((st.length : Int) - po).toNat).length = ((st.length : Int) - po).toNat := by rw [List.length_take]; omega
  have htk := rowsT_take st ((st.length : Int) - po).toNat
  generalize st.take ((st.length : Int) - po).toNat = b at *
  have htb : List.take b.length (rowsT b) = rowsT b := List.take_of_length_le (by rw [rowsT_len]; exact Nat.le_refl _)
  unfold rsA
  rw [callT_eq Tryd.func28 rfl fok28 (by simp [Tryd.ntmps28])]
  simp (disch := first | omega | (simp only [List.length_append, List.length_map, List.length_set, List.length_cons, List.length_nil, List.length_take, List.length_drop, rowsT_len]; omega)) only [va0, va1, va2, va3, va4, va5, va6, va7, va8, va9, va10, va11, va12, va13, va14, va15, vb0, vb1, vb2, vb3, w_i8, w_u8, w_i16, w_u16, w_i32, w_u32, w_i64, w_u64, lt_T, lt_F, le_T, le_F, nlt_T, nlt_F, nle_T, nle_F, List.take_of_length_le, gB, gcW, gcR, posIn, renA, renL, Chunk.ren, Chunk.refs, evOpD, touchD, stepC, isFresh, nFresh, freshOf, mkR, hole, evL, evH, opd, get, putD, ofVal, cellOf, loadE, behind, lenE, idxAddrE, idxE, addPtr, intE, strE, unE, convE, AV.int, AV.bool, AV.str, ivs, take, frameOf, firstRegion, refsA, refsL, one, cellsA, floatOk, apartT, List.map, if_true, if_false, E_P, E_glob0, E_glob1, reduceCtorEq, beq_self_eq_true, decide_true, decide_false, ↓reduceIte, Nat.reduceEqDiff, cond_true, cond_false, or_true, true_or, or_false, false_or, and_true, true_and, and_self, false_and, and_false, not_true, not_false_iff, Nat.reduceAdd, Nat.reduceSub, Nat.reduceMul, Nat.reduceLT, Nat.reduceLeDiff, Int.reduceToNat, Int.reduceLT, Int.reduceLE, Option.getD, Int.reduceMul, Int.reduceAdd, List.drop, List.take, Nat.reduceBEq, List.isEmpty, Int.reduceEq, Int.reduceNe, Int.reduceNeg, Int.reduceGT, Int.reduceGE, beq_true, beq_false, UInt8.reduceToNat, eqE, eq_self, foldE, maxE, minE, eq_T, eq_F, ndec, odec, adec, sdec, fillA, over, chop, List.replicate, leavesOk, leafOk, cellsEq, cellEq, E_ext, E_byref, en28, bs47, hpo, htk, hkl, htb, hgx, hgy, rowsT_len, rowsT_1, rowsT_2, Nat.sub_zero, List.nil_append, Bool.true_or, Bool.false_or]
  exact ⟨_, rfl⟩
theorem c28_6 (op : Int) (h0 : 0 ≤ op) (h1 : op ≤ 20) (t c : Bool) (st : List Bool) (hp : popS op ≤ st.length) (hd : st.length ≤ 16) (h3 : op = 18) :
    ∃ L, callT E 28 [.agg (rsA t c st), .i (.v (.int .i64 op))] [] = some (.agg (rsA true (stepS op c st).1 (stepS op c st).2), L) := by
  have b1 : popS op = 1 := by rw [h3]; decide
  have p1 := popS_r op
  have hpo := fun H => ik21 op h0 h1 H
  have ha : stepS op c st = ((c || st.getD ((st.length : Int) - 1).toNat false), st.take ((st.length : Int) - popS op).toNat) := by unfold stepS; rw [if_neg (by omega), if_neg (by omega), if_neg (by omega), if_neg (by omega), if_neg (by omega), if_pos h3]
  rw [ha]
  simp only
  clear ha
  have hgx := rowsT_get (l := st) (k := ((st.length : Int) - 1).toNat) (by omega)
  generalize st.getD ((st.length : Int) - 1).toNat false = x at *
  generalize popS op = po at *
  have hkl : (st.take ((st.length : Int) - po).toNat).length = ((st.length : Int) - po).toNat := by rw [List.length_take]; omega
  have htk := rowsT_take st ((st.length : Int) - po).toNat
  generalize st.take ((st.length : Int) - po).toNat = b at *
  have htb : List.take b.length (rowsT b) = rowsT b := List.take_of_length_le (by rw [rowsT_len]; exact Nat.le_refl _)
  unfold rsA
  cases c
  · simp only [Bool.false_or]
    rw [callT_eq Tryd.func28 rfl fok28 (by simp [Tryd.ntmps28])]
    simp (disch := first | omega | (simp only [List.length_append, List.length_map, List.length_set, List.length_cons, List.length_nil, List.length_take, List.length_drop, rowsT_len]; omega)) only [va0, va1, va2, va3, va4, va5, va6, va7, va8, va9, va10, va11, va12, va13, va14, va15, vb0, vb1, vb2, vb3, w_i8, w_u8, w_i16, w_u16, w_i32, w_u32, w_i64, w_u64, lt_T, lt_F, le_T, le_F, nlt_T, nlt_F, nle_T, nle_F, List.take_of_length_le, gB, gcW, gcR, posIn, renA, renL, Chunk.ren, Chunk.refs, evOpD, touchD, stepC, isFresh, nFresh, freshOf, mkR, hole, evL, evH, opd, get, putD, ofVal, cellOf, loadE, behind, lenE, idxAddrE, idxE, addPtr, intE, strE, unE, convE, AV.int, AV.bool, AV.str, ivs, take, frameOf, firstRegion, refsA, refsL, one, cellsA, floatOk, apartT, List.map, if_true, if_false, E_P, E_glob0, E_glob1, reduceCtorEq, beq_self_eq_true, decide_true, decide_false, ↓reduceIte, Nat.reduceEqDiff, cond_true, cond_false, or_true, true_or, or_false, false_or, and_true, true_and, and_self, false_and, and_false, not_true, not_false_iff, Nat.reduceAdd, Nat.reduceSub, Nat.reduceMul, Nat.reduceLT, Nat.reduceLeDiff, Int.reduceToNat, Int.reduceLT, Int.reduceLE, Option.getD, Int.reduceMul, Int.reduceAdd, List.drop, List.take, Nat.reduceBEq, List.isEmpty, Int.reduceEq, Int.reduceNe, Int.reduceNeg, Int.reduceGT, Int.reduceGE, beq_true, beq_false, UInt8.reduceToNat, eqE, eq_self, foldE, maxE, minE, eq_T, eq_F, ndec, odec, adec, sdec, fillA, over, chop, List.replicate, leavesOk, leafOk, cellsEq, cellEq, E_ext, E_byref, en28, bs47, hpo, htk, hkl, htb, hgx, rowsT_len, rowsT_1, rowsT_2, Nat.sub_zero, List.nil_append, Bool.true_or, Bool.false_or]
    exact ⟨_, rfl⟩
  · simp only [Bool.true_or]
    rw [callT_eq Tryd.func28 rfl fok28 (by simp [Tryd.ntmps28])]
    simp (disch := first | omega | (simp only [List.length_append, List.length_map, List.length_set, List.length_cons, List.length_nil, List.length_take, List.length_drop, rowsT_len]; omega)) only [va0, va1, va2, va3, va4, va5, va6, va7, va8, va9, va10, va11, va12, va13, va14, va15, vb0, vb1, vb2, vb3, w_i8, w_u8, w_i16, w_u16, w_i32, w_u32, w_i64, w_u64, lt_T, lt_F, le_T, le_F, nlt_T, nlt_F, nle_T, nle_F, List.take_of_length_le, gB, gcW, gcR, posIn, renA, renL, Chunk.ren, Chunk.refs, evOpD, touchD, stepC, isFresh, nFresh, freshOf, mkR, hole, evL, evH, opd, get, putD, ofVal, cellOf, loadE, behind, lenE, idxAddrE, idxE, addPtr, intE, strE, unE, convE, AV.int, AV.bool, AV.str, ivs, take, frameOf, firstRegion, refsA, refsL, one, cellsA, floatOk, apartT, List.map, if_true, if_false, E_P, E_glob0, E_glob1, reduceCtorEq, beq_self_eq_true, decide_true, decide_false, ↓reduceIte, Nat.reduceEqDiff, cond_true, cond_false, or_true, true_or, or_false, false_or, and_true, true_and, and_self, false_and, and_false, not_true, not_false_iff, Nat.reduceAdd, Nat.reduceSub, Nat.reduceMul, Nat.reduceLT, Nat.reduceLeDiff, Int.reduceToNat, Int.reduceLT, Int.reduceLE, Option.getD, Int.reduceMul, Int.reduceAdd, List.drop, List.take, Nat.reduceBEq, List.isEmpty, Int.reduceEq, Int.reduceNe, Int.reduceNeg, Int.reduceGT, Int.reduceGE, beq_true, beq_false, UInt8.reduceToNat, eqE, eq_self, foldE, maxE, minE, eq_T, eq_F, ndec, odec, adec, sdec, fillA, over, chop, List.replicate, leavesOk, leafOk, cellsEq, cellEq, E_ext, E_byref, en28, bs47, hpo, htk, hkl, htb, hgx, rowsT_len, rowsT_1, rowsT_2, Nat.sub_zero, List.nil_append, Bool.true_or, Bool.false_or]
    exact ⟨_, rfl⟩
theorem c28_7 (op : Int) (h0 : 0 ≤ op) (h1 : op ≤ 20) (t c : Bool) (st : List Bool) (hp : popS op ≤ st.length) (hd : st.length ≤ 16) (h3 : op = 1 ∨ op = 2 ∨ op = 6 ∨ op = 7) :
    ∃ L, callT E 28 [.agg (rsA t c st), .i (.v (.int .i64 op))] [] = some (.agg (rsA true (stepS op c st).1 (stepS op c st).2), L) := by
  have p1 := popS_r op
  have hpo := fun H => ik21 op h0 h1 H
  have ha : stepS op c st = (c, st.take ((st.length : Int) - popS op).toNat ++ [false]) := by unfold stepS; rw [if_neg (by omega), if_neg (by omega), if_neg (by omega), if_neg (by omega), if_neg (by omega), if_neg (by omega), if_pos h3]
  rw [ha]
  simp only
  clear ha
  generalize popS op = po at *
  have hkl : (st.take ((st.length : Int) - po).toNat).length = ((st.length : Int) - po).toNat := by rw [List.length_take]; omega
  have htk := rowsT_take st ((st.length : Int) - po).toNat
  generalize st.take ((st.length : Int) - po).toNat = b at *
  have htb : List.take b.length (rowsT b) = rowsT b := List.take_of_length_le (by rw [rowsT_len]; exact Nat.le_refl _)
  unfold rsA
  rcases h3 with h3 | h3 | h3 | h3
  · rw [callT_eq Tryd.func28 rfl fok28 (by simp [Tryd.ntmps28])]
    simp (disch := first | omega | (simp only [List.length_append, List.length_map, List.length_set, List.length_cons, List.length_nil, List.length_take, List.length_drop, rowsT_len]; omega)) only [va0, va1, va2, va3, va4, va5, va6, va7, va8, va9, va10, va11, va12, va13, va14, va15, vb0, vb1, vb2, vb3, w_i8, w_u8, w_i16, w_u16, w_i32, w_u32, w_i64, w_u64, lt_T, lt_F, le_T, le_F, nlt_T, nlt_F, nle_T, nle_F, List.take_of_length_le, gB, gcW, gcR, posIn, renA, renL, Chunk.ren, Chunk.refs, evOpD, touchD, stepC, isFresh, nFresh, freshOf, mkR, hole, evL, evH, opd, get, putD, ofVal, cellOf, loadE, behind, lenE, idxAddrE, idxE, addPtr, intE, strE, unE, convE, AV.int, AV.bool, AV.str, ivs, take, frameOf, firstRegion, refsA, refsL, one, cellsA, floatOk, apartT, List.map, if_true, if_false, E_P, E_glob0, E_glob1, reduceCtorEq, beq_self_eq_true, decide_true, decide_false, ↓reduceIte, Nat.reduceEqDiff, cond_true, cond_false, or_true, true_or, or_false, false_or, and_true, true_and, and_self, false_and, and_false, not_true, not_false_iff, Nat.reduceAdd, Nat.reduceSub, Nat.reduceMul, Nat.reduceLT, Nat.reduceLeDiff, Int.reduceToNat, Int.reduceLT, Int.reduceLE, Option.getD, Int.reduceMul, Int.reduceAdd, List.drop, List.take, Nat.reduceBEq, List.isEmpty, Int.reduceEq, Int.reduceNe, Int.reduceNeg, Int.reduceGT, Int.reduceGE, beq_true, beq_false, UInt8.reduceToNat, eqE, eq_self, foldE, maxE, minE, eq_T, eq_F, ndec, odec, adec, sdec, fillA, over, chop, List.replicate, leavesOk, leafOk, cellsEq, cellEq, E_ext, E_byref, en28, bs47, hpo, htk, hkl, htb, rowsT_len, rowsT_1, rowsT_2, Nat.sub_zero, List.nil_append, Bool.true_or, Bool.false_or]
    exact ⟨_, rfl⟩
  · rw [callT_eq Tryd.func28 rfl fok28 (by simp [Tryd.ntmps28])]
    simp (disch := first | omega | (simp only [List.length_append, List.length_map, List.length_set, List.length_cons, List.length_nil, List.length_take, List.length_drop, rowsT_len]; omega)) only [va0, va1, va2, va3, va4, va5, va6, va7, va8, va9, va10, va11, va12, va13, va14, va15, vb0, vb1, vb2, vb3, w_i8, w_u8, w_i16, w_u16, w_i32, w_u32, w_i64, w_u64, lt_T, lt_F, le_T, le_F, nlt_T, nlt_F, nle_T, nle_F, List.take_of_length_le, gB, gcW, gcR, posIn, renA, renL, Chunk.ren, Chunk.refs, evOpD, touchD, stepC, isFresh, nFresh, freshOf, mkR, hole, evL, evH, opd, get, putD, ofVal, cellOf, loadE, behind, lenE, idxAddrE, idxE, addPtr, intE, strE, unE, convE, AV.int, AV.bool, AV.str, ivs, take, frameOf, firstRegion, refsA, refsL, one, cellsA, floatOk, apartT, List.map, if_true, if_false, E_P, E_glob0, E_glob1, reduceCtorEq, beq_self_eq_true, decide_true, decide_false, ↓reduceIte, Nat.reduceEqDiff, cond_true, cond_false, or_true, true_or, or_false, false_or, and_true, true_and, and_self, false_and, and_false, not_true, not_false_iff, Nat.reduceAdd, Nat.reduceSub, Nat.reduceMul, Nat.reduceLT, Nat.reduceLeDiff, Int.reduceToNat, Int.reduceLT, Int.reduceLE, Option.getD, Int.reduceMul, Int.reduceAdd, List.drop, List.take, Nat.reduceBEq, List.isEmpty, Int.reduceEq, Int.reduceNe, Int.reduceNeg, Int.reduceGT, Int.reduceGE, beq_true, beq_false, UInt8.reduceToNat, eqE, eq_self, foldE, maxE, minE, eq_T, eq_F, ndec, odec, adec, sdec, fillA, over, chop, List.replicate, leavesOk, leafOk, cellsEq, cellEq, E_ext, E_byref, en28, bs47, hpo, htk, hkl, htb, rowsT_len, rowsT_1, rowsT_2, Nat.sub_zero, List.nil_append, Bool.true_or, Bool.false_or]
    exact ⟨_, rfl⟩
  · rw [callT_eq Tryd.func28 rfl fok28 (by simp [Tryd.ntmps28])]
    simp (disch := first | omega | (simp only [List.length_append, List.length_map, List.length_set, List.length_cons, List.length_nil, List.length_take, List.length_drop, rowsT_len]; omega)) only [va0, va1, va2, va3, va4, va5, va6, va7, va8, va9, va10, va11, va12, va13, va14, va15, vb0, vb1, vb2, vb3, w_i8, w_u8, w_i16, w_u16, w_i32, w_u32, w_i64, w_u64, lt_T, lt_F, le_T, le_F, nlt_T, nlt_F, nle_T, nle_F, List.take_of_length_le, gB, gcW, gcR, posIn, renA, renL, Chunk.ren, Chunk.refs, evOpD, touchD, stepC, isFresh, nFresh, freshOf, mkR, hole, evL, evH, opd, get, putD, ofVal, cellOf, loadE, behind, lenE, idxAddrE, idxE, addPtr, intE, strE, unE, convE, AV.int, AV.bool, AV.str, ivs, take, frameOf, firstRegion, refsA, refsL, one, cellsA, floatOk, apartT, List.map, if_true, if_false, E_P, E_glob0, E_glob1, reduceCtorEq, beq_self_eq_true, decide_true, decide_false, ↓reduceIte, Nat.reduceEqDiff, cond_true, cond_false, or_true, true_or, or_false, false_or, and_true, true_and, and_self, false_and, and_false, not_true, not_false_iff, Nat.reduceAdd, Nat.reduceSub, Nat.reduceMul, Nat.reduceLT, Nat.reduceLeDiff, Int.reduceToNat, Int.reduceLT, Int.reduceLE, Option.getD, Int.reduceMul, Int.reduceAdd, List.drop, List.take, Nat.reduceBEq, List.isEmpty, Int.reduceEq, Int.reduceNe, Int.reduceNeg, Int.reduceGT, Int.reduceGE, beq_true, beq_false, UInt8.reduceToNat, eqE, eq_self, foldE, maxE, minE, eq_T, eq_F, ndec, odec, adec, sdec, fillA, over, chop, List.replicate, leavesOk, leafOk, cellsEq, cellEq, E_ext, E_byref, en28, bs47, hpo, htk, hkl, htb, rowsT_len, rowsT_1, rowsT_2, Nat.sub_zero, List.nil_append, Bool.true_or, Bool.false_or]
    exact ⟨_, rfl⟩
  · rw [callT_eq Tryd.func28 rfl fok28 (by simp [Tryd.ntmps28])]
    simp (disch := first | omega | (simp only [List.length_append, List.length_map, List.length_set, List.length_cons, List.length_nil, List.length_take, List.length_drop, rowsT_len]; omega)) only [va0, va1, va2, va3, va4, va5, va6, va7, va8, va9, va10, va11, va12, va13, va14, va15, vb0, vb1, vb2, vb3, w_i8, w_u8, w_i16, w_u16, w_i32, w_u32, w_i64, w_u64, lt_T, lt_F, le_T, le_F, nlt_T, nlt_F, nle_T, nle_F, List.take_of_length_le, gB, gcW, gcR, posIn, renA, renL, Chunk.ren, Chunk.refs, evOpD, touchD, stepC, isFresh, nFresh, freshOf, mkR, hole, evL, evH, opd, get, putD, ofVal, cellOf, loadE, behind, lenE, idxAddrE, idxE, addPtr, intE, strE, unE, convE, AV.int, AV.bool, AV.str, ivs, take, frameOf, firstRegion, refsA, refsL, one, cellsA, floatOk, apartT, List.map, if_true, if_false, E_P, E_glob0, E_glob1, reduceCtorEq, beq_self_eq_true, decide_true, decide_false, ↓reduceIte, Nat.reduceEqDiff, cond_true, cond_false, or_true, true_or, or_false, false_or, and_true, true_and, and_self, false_and, and_false, not_true, not_false_iff, Nat.reduceAdd, Nat.reduceSub, Nat.reduceMul, Nat.reduceLT, Nat.reduceLeDiff, Int.reduceToNat, Int.reduceLT, Int.reduceLE, Option.getD, Int.reduceMul, Int.reduceAdd, List.drop, List.take, Nat.reduceBEq, List.isEmpty, Int.reduceEq, Int.reduceNe, Int.reduceNeg, Int.reduceGT, Int.reduceGE, beq_true, beq_false, UInt8.reduceToNat, eqE, eq_self, foldE, maxE, minE, eq_T, eq_F, ndec, odec, adec, sdec, fillA, over, chop, List.replicate, leavesOk, leafOk, cellsEq, cellEq, E_ext, E_byref, en28, bs47, hpo, htk, hkl, htb, rowsT_len, rowsT_1, rowsT_2, Nat.sub_zero, List.nil_append, Bool.true_or, Bool.false_or]
    exact ⟨_, rfl⟩
theorem c28_8 (op : Int) (h0 : 0 ≤ op) (h1 : op ≤ 20) (t c : Bool) (st : List Bool) (hp : popS op ≤ st.length) (hd : st.length ≤ 16) (h3 : op = 0 ∨ op = 15 ∨ op = 17 ∨ op = 19 ∨ op = 20) :
    ∃ L, callT E 28 [.agg (rsA t c st), .i (.v (.int .i64 op))] [] = some (.agg (rsA true (stepS op c st).1 (stepS op c st).2), L) := by
  have p1 := popS_r op
  have hpo := fun H => ik21 op h0 h1 H
  have ha : stepS op c st = (c, st.take ((st.length : Int) - popS op).toNat) := by unfold stepS; rw [if_neg (by omega), if_neg (by omega), if_neg (by omega), if_neg (by omega), if_neg (by omega), if_neg (by omega), if_neg (by omega)]
  rw [ha]
  simp only
  clear ha
  generalize popS op = po at *
  have hkl : (st.take ((st.length : Int) - po).toNat).length = ((st.length : Int) - po).toNat := by rw [List.length_take]; omega
  have htk := rowsT_take st ((st.length : Int) - po).toNat
  generalize st.take ((st.length : Int) - po).toNat = b at *
  have htb : List.take b.length (rowsT b) = rowsT b := List.take_of_length_le (by rw [rowsT_len]; exact Nat.le_refl _)
  unfold rsA
  by_cases h4 : op = 0
  · rw [callT_eq Tryd.func28 rfl fok28 (by simp [Tryd.ntmps28])]
    simp (disch := first | omega | (simp only [List.length_append, List.length_map, List.length_set, List.length_cons, List.length_nil, List.length_take, List.length_drop, rowsT_len]; omega)) only [va0, va1, va2, va3, va4, va5, va6, va7, va8, va9, va10, va11, va12, va13, va14, va15, vb0, vb1, vb2, vb3, w_i8, w_u8, w_i16, w_u16, w_i32, w_u32, w_i64, w_u64, lt_T, lt_F, le_T, le_F, nlt_T, nlt_F, nle_T, nle_F, List.take_of_length_le, gB, gcW, gcR, posIn, renA, renL, Chunk.ren, Chunk.refs, evOpD, touchD, stepC, isFresh, nFresh, freshOf, mkR, hole, evL, evH, opd, get, putD, ofVal, cellOf, loadE, behind, lenE, idxAddrE, idxE, addPtr, intE, strE, unE, convE, AV.int, AV.bool, AV.str, ivs, take, frameOf, firstRegion, refsA, refsL, one, cellsA, floatOk, apartT, List.map, if_true, if_false, E_P, E_glob0, E_glob1, reduceCtorEq, beq_self_eq_true, decide_true, decide_false, ↓reduceIte, Nat.reduceEqDiff, cond_true, cond_false, or_true, true_or, or_false, false_or, and_true, true_and, and_self, false_and, and_false, not_true, not_false_iff, Nat.reduceAdd, Nat.reduceSub, Nat.reduceMul, Nat.reduceLT, Nat.reduceLeDiff, Int.reduceToNat, Int.reduceLT, Int.reduceLE, Option.getD, Int.reduceMul, Int.reduceAdd, List.drop, List.take, Nat.reduceBEq, List.isEmpty, Int.reduceEq, Int.reduceNe, Int.reduceNeg, Int.reduceGT, Int.reduceGE, beq_true, beq_false, UInt8.reduceToNat, eqE, eq_self, foldE, maxE, minE, eq_T, eq_F, ndec, odec, adec, sdec, fillA, over, chop, List.replicate, leavesOk, leafOk, cellsEq, cellEq, E_ext, E_byref, en28, bs47, hpo, htk, hkl, htb, rowsT_len, rowsT_1, rowsT_2, Nat.sub_zero, List.nil_append, Bool.true_or, Bool.false_or]
    exact ⟨_, rfl⟩
  · rw [callT_eq Tryd.func28 rfl fok28 (by simp [Tryd.ntmps28])]
    simp (disch := first | omega | (simp only [List.length_append, List.length_map, List.length_set, List.length_cons, List.length_nil, List.length_take, List.length_drop, rowsT_len]; omega)) only [va0, va1, va2, va3, va4, va5, va6, va7, va8, va9, va10, va11, va12, va13, va14, va15, vb0, vb1, vb2, vb3, w_i8, w_u8, w_i16, w_u16, w_i32, w_u32, w_i64, w_u64, lt_T, lt_F, le_T, le_F, nlt_T, nlt_F, nle_T, nle_F, List.take_of_length_le, gB, gcW, gcR, posIn, renA, renL, Chunk.ren, Chunk.refs, evOpD, touchD, stepC, isFresh, nFresh, freshOf, mkR, hole, evL, evH, opd, get, putD, ofVal, cellOf, loadE, behind, lenE, idxAddrE, idxE, addPtr, intE, strE, unE, convE, AV.int, AV.bool, AV.str, ivs, take, frameOf, firstRegion, refsA, refsL, one, cellsA, floatOk, apartT, List.map, if_true, if_false, E_P, E_glob0, E_glob1, reduceCtorEq, beq_self_eq_true, decide_true, decide_false, ↓reduceIte, Nat.reduceEqDiff, cond_true, cond_false, or_true, true_or, or_false, false_or, and_true, true_and, and_self, false_and, and_false, not_true, not_false_iff, Nat.reduceAdd, Nat.reduceSub, Nat.reduceMul, Nat.reduceLT, Nat.reduceLeDiff, Int.reduceToNat, Int.reduceLT, Int.reduceLE, Option.getD, Int.reduceMul, Int.reduceAdd, List.drop, List.take, Nat.reduceBEq, List.isEmpty, Int.reduceEq, Int.reduceNe, Int.reduceNeg, Int.reduceGT, Int.reduceGE, beq_true, beq_false, UInt8.reduceToNat, eqE, eq_self, foldE, maxE, minE, eq_T, eq_F, ndec, odec, adec, sdec, fillA, over, chop, List.replicate, leavesOk, leafOk, cellsEq, cellEq, E_ext, E_byref, en28, bs47, hpo, htk, hkl, htb, rowsT_len, rowsT_1, rowsT_2, Nat.sub_zero, List.nil_append, Bool.true_or, Bool.false_or]
    exact ⟨_, rfl⟩
end Go.VI

namespace Go.VI
open Go.Proofs
set_option maxRecDepth 100000
set_option linter.unusedSimpArgs false
set_option linter.unusedVariables false
set_option maxHeartbeats 4000000
def zo (a b : List Bool) : List Bool := List.zipWith (fun x y => x || y) a b
theorem l29 (ca tb cb c : Bool) (sa sb : List Bool) (ha : sa.length ≤ 1000) (hb : sb.length ≤ 1000) (j : Nat) (hj : j ≤ sa.length ∧ j ≤ sb.length) (acc : List Bool) (hacc : acc.length = j) :
    ∃ fr, rl E 0 29 (loopAt Tryd.f29 0) [(2, .ptr 0 0 0 0), (3, .ptr 1 0 0 0), (4, .ptr 2 0 0 0), (5, .ptr 3 0 0 0), (6, .i (.v (.int .i64 (j))))] [.box [.i (.v (.bool true)), .i (.v (.bool ca)), .i (.sl 1 (rowsT sa) false)], .box [.i (.v (.bool tb)), .i (.v (.bool cb)), .i (.sl 1 (rowsT sb) false)], .box [.i (.v (.bool false)), .i (.v (.bool false)), .i (.sl 0 [] true)], .box [.i (.v (.bool true)), .i (.v (.bool c)), .ref 4 0 0 (List.length (acc))], .sl 1 0 (rowsT (acc)) false] = some (.exit 0, fr, [.box [.i (.v (.bool true)), .i (.v (.bool ca)), .i (.sl 1 (rowsT sa) false)], .box [.i (.v (.bool tb)), .i (.v (.bool cb)), .i (.sl 1 (rowsT sb) false)], .box [.i (.v (.bool false)), .i (.v (.bool false)), .i (.sl 0 [] true)], .box [.i (.v (.bool true)), .i (.v (.bool c)), .ref 4 0 0 (List.length (acc ++ zo (sa.drop j) (sb.drop j)))], .sl 1 0 (rowsT (acc ++ zo (sa.drop j) (sb.drop j))) false]) ∧ get 4 fr = .ptr 2 0 0 0 ∧ get 5 fr = .ptr 3 0 0 0 := by
  rw [rl_step (fn := Tryd.f29) (k := 0) rfl]
  have hta : List.take acc.length (rowsT acc) = rowsT acc := List.take_of_length_le (by rw [rowsT_len]; exact Nat.le_refl _)
  by_cases h1 : j < sa.length
  · by_cases h2 : j < sb.length
    · have hga := rowsT_get h1
      have hgb := rowsT_get h2
      rw [List.drop_eq_getElem_cons h1, List.drop_eq_getElem_cons h2]
      have e1 : sa.getD j false = sa[j] := by rw [List.getD_eq_getElem?_getD, List.getElem?_eq_getElem h1]; rfl
      have e2 : sb.getD j false = sb[j] := by rw [List.getD_eq_getElem?_getD, List.getElem?_eq_getElem h2]; rfl
      rw [e1] at hga
      rw [e2] at hgb
      obtain ⟨fr, e, hh⟩ := l29 ca tb cb c sa sb ha hb (j + 1) ⟨h1, h2⟩ (acc ++ [sa[j] || sb[j]]) (by rw [List.length_append, hacc]; rfl)
      rw [List.append_assoc] at e
      rw [show zo (sa[j] :: sa.drop (j + 1)) (sb[j] :: sb.drop (j + 1)) = (sa[j] || sb[j]) :: zo (sa.drop (j + 1)) (sb.drop (j + 1)) from rfl]
      refine ⟨fr, Eq.trans ?_ e, hh⟩
      clear e hh e1 e2
      generalize sa[j] = x at *
      generalize sb[j] = y at *
      cases x
      · simp only [Bool.false_or]
        simp (disch := first | omega | (simp only [List.length_append, List.length_map, List.length_set, List.length_cons, List.length_nil, List.length_take, List.length_drop, rowsT_len]; omega)) only [va0, va1, va2, va3, va4, va5, va6, va7, va8, va9, va10, va11, va12, va13, va14, va15, vb0, vb1, vb2, vb3, w_i8, w_u8, w_i16, w_u16, w_i32, w_u32, w_i64, w_u64, lt_T, lt_F, le_T, le_F, nlt_T, nlt_F, nle_T, nle_F, List.take_of_length_le, gB, gcW, gcR, posIn, renA, renL, Chunk.ren, Chunk.refs, evOpD, touchD, stepC, isFresh, nFresh, freshOf, mkR, hole, evL, evH, opd, get, putD, ofVal, cellOf, loadE, behind, lenE, idxAddrE, idxE, addPtr, intE, strE, unE, convE, AV.int, AV.bool, AV.str, ivs, take, frameOf, firstRegion, refsA, refsL, one, cellsA, floatOk, apartT, List.map, if_true, if_false, E_P, E_glob0, E_glob1, reduceCtorEq, beq_self_eq_true, decide_true, decide_false, ↓reduceIte, Nat.reduceEqDiff, cond_true, cond_false, or_true, true_or, or_false, false_or, and_true, true_and, and_self, false_and, and_false, not_true, not_false_iff, Nat.reduceAdd, Nat.reduceSub, Nat.reduceMul, Nat.reduceLT, Nat.reduceLeDiff, Int.reduceToNat, Int.reduceLT, Int.reduceLE, Option.getD, Int.reduceMul, Int.reduceAdd, List.drop, List.take, Nat.reduceBEq, List.isEmpty, Int.reduceEq, Int.reduceNe, Int.reduceNeg, Int.reduceGT, Int.reduceGE, beq_true, beq_false, UInt8.reduceToNat, eqE, eq_self, foldE, maxE, minE, eq_T, eq_F, ndec, odec, adec, sdec, fillA, over, chop, List.replicate, leavesOk, leafOk, cellsEq, cellEq, E_ext, E_byref, en29, bs47, hga, hgb, hta, hacc, rowsT_len, rowsT_1, show ∀ B fr H, execT E B 29 (Code.loop _) fr H = rlG E B 29 (loopAt Tryd.f29 0) (gcn B (norm [2, 3, 4, 5, 6] fr) H) from fun B fr H => rl_intro rfl mt29_5 mb29_5 zf29_5 hd29_5 fr H]
      · simp only [Bool.true_or]
        simp (disch := first | omega | (simp only [List.length_append, List.length_map, List.length_set, List.length_cons, List.length_nil, List.length_take, List.length_drop, rowsT_len]; omega)) only [va0, va1, va2, va3, va4, va5, va6, va7, va8, va9, va10, va11, va12, va13, va14, va15, vb0, vb1, vb2, vb3, w_i8, w_u8, w_i16, w_u16, w_i32, w_u32, w_i64, w_u64, lt_T, lt_F, le_T, le_F, nlt_T, nlt_F, nle_T, nle_F, List.take_of_length_le, gB, gcW, gcR, posIn, renA, renL, Chunk.ren, Chunk.refs, evOpD, touchD, stepC, isFresh, nFresh, freshOf, mkR, hole, evL, evH, opd, get, putD, ofVal, cellOf, loadE, behind, lenE, idxAddrE, idxE, addPtr, intE, strE, unE, convE, AV.int, AV.bool, AV.str, ivs, take, frameOf, firstRegion, refsA, refsL, one, cellsA, floatOk, apartT, List.map, if_true, if_false, E_P, E_glob0, E_glob1, reduceCtorEq, beq_self_eq_true, decide_true, decide_false, ↓reduceIte, Nat.reduceEqDiff, cond_true, cond_false, or_true, true_or, or_false, false_or, and_true, true_and, and_self, false_and, and_false, not_true, not_false_iff, Nat.reduceAdd, Nat.reduceSub, Nat.reduceMul, Nat.reduceLT, Nat.reduceLeDiff, Int.reduceToNat, Int.reduceLT, Int.reduceLE, Option.getD, Int.reduceMul, Int.reduceAdd, List.drop, List.take, Nat.reduceBEq, List.isEmpty, Int.reduceEq, Int.reduceNe, Int.reduceNeg, Int.reduceGT, Int.reduceGE, beq_true, beq_false, UInt8.reduceToNat, eqE, eq_self, foldE, maxE, minE, eq_T, eq_F, ndec, odec, adec, sdec, fillA, over, chop, List.replicate, leavesOk, leafOk, cellsEq, cellEq, E_ext, E_byref, en29, bs47, hga, hgb, hta, hacc, rowsT_len, rowsT_1, show ∀ B fr H, execT E B 29 (Code.loop _) fr H = rlG E B 29 (loopAt Tryd.f29 0) (gcn B (norm [2, 3, 4, 5, 6] fr) H) from fun B fr H => rl_intro rfl mt29_5 mb29_5 zf29_5 hd29_5 fr H]
    · obtain rfl : j = sb.length := by omega
      rw [List.drop_length, show zo (sa.drop sb.length) [] = [] from by simp [zo], List.append_nil]
      simp (disch := first | omega | (simp only [List.length_append, List.length_map, List.length_set, List.length_cons, List.length_nil, List.length_take, List.length_drop, rowsT_len]; omega)) only [va0, va1, va2, va3, va4, va5, va6, va7, va8, va9, va10, va11, va12, va13, va14, va15, vb0, vb1, vb2, vb3, w_i8, w_u8, w_i16, w_u16, w_i32, w_u32, w_i64, w_u64, lt_T, lt_F, le_T, le_F, nlt_T, nlt_F, nle_T, nle_F, List.take_of_length_le, gB, gcW, gcR, posIn, renA, renL, Chunk.ren, Chunk.refs, evOpD, touchD, stepC, isFresh, nFresh, freshOf, mkR, hole, evL, evH, opd, get, putD, ofVal, cellOf, loadE, behind, lenE, idxAddrE, idxE, addPtr, intE, strE, unE, convE, AV.int, AV.bool, AV.str, ivs, take, frameOf, firstRegion, refsA, refsL, one, cellsA, floatOk, apartT, List.map, if_true, if_false, E_P, E_glob0, E_glob1, reduceCtorEq, beq_self_eq_true, decide_true, decide_false, ↓reduceIte, Nat.reduceEqDiff, cond_true, cond_false, or_true, true_or, or_false, false_or, and_true, true_and, and_self, false_and, and_false, not_true, not_false_iff, Nat.reduceAdd, Nat.reduceSub, Nat.reduceMul, Nat.reduceLT, Nat.reduceLeDiff, Int.reduceToNat, Int.reduceLT, Int.reduceLE, Option.getD, Int.reduceMul, Int.reduceAdd, List.drop, List.take, Nat.reduceBEq, List.isEmpty, Int.reduceEq, Int.reduceNe, Int.reduceNeg, Int.reduceGT, Int.reduceGE, beq_true, beq_false, UInt8.reduceToNat, eqE, eq_self, foldE, maxE, minE, eq_T, eq_F, ndec, odec, adec, sdec, fillA, over, chop, List.replicate, leavesOk, leafOk, cellsEq, cellEq, E_ext, E_byref, en29, bs47, hta, hacc, rowsT_len, show ∀ B fr H, execT E B 29 (Code.loop _) fr H = rlG E B 29 (loopAt Tryd.f29 0) (gcn B (norm [2, 3, 4, 5, 6] fr) H) from fun B fr H => rl_intro rfl mt29_5 mb29_5 zf29_5 hd29_5 fr H]
      exact ⟨_, rfl, rfl, rfl⟩
  · obtain rfl : j = sa.length := by omega
    rw [List.drop_length, show zo [] (sb.drop sa.length) = [] from rfl, List.append_nil]
    simp (disch := first | omega | (simp only [List.length_append, List.length_map, List.length_set, List.length_cons, List.length_nil, List.length_take, List.length_drop, rowsT_len]; omega)) only [va0, va1, va2, va3, va4, va5, va6, va7, va8, va9, va10, va11, va12, va13, va14, va15, vb0, vb1, vb2, vb3, w_i8, w_u8, w_i16, w_u16, w_i32, w_u32, w_i64, w_u64, lt_T, lt_F, le_T, le_F, nlt_T, nlt_F, nle_T, nle_F, List.take_of_length_le, gB, gcW, gcR, posIn, renA, renL, Chunk.ren, Chunk.refs, evOpD, touchD, stepC, isFresh, nFresh, freshOf, mkR, hole, evL, evH, opd, get, putD, ofVal, cellOf, loadE, behind, lenE, idxAddrE, idxE, addPtr, intE, strE, unE, convE, AV.int, AV.bool, AV.str, ivs, take, frameOf, firstRegion, refsA, refsL, one, cellsA, floatOk, apartT, List.map, if_true, if_false, E_P, E_glob0, E_glob1, reduceCtorEq, beq_self_eq_true, decide_true, decide_false, ↓reduceIte, Nat.reduceEqDiff, cond_true, cond_false, or_true, true_or, or_false, false_or, and_true, true_and, and_self, false_and, and_false, not_true, not_false_iff, Nat.reduceAdd, Nat.reduceSub, Nat.reduceMul, Nat.reduceLT, Nat.reduceLeDiff, Int.reduceToNat, Int.reduceLT, Int.reduceLE, Option.getD, Int.reduceMul, Int.reduceAdd, List.drop, List.take, Nat.reduceBEq, List.isEmpty, Int.reduceEq, Int.reduceNe, Int.reduceNeg, Int.reduceGT, Int.reduceGE, beq_true, beq_false, UInt8.reduceToNat, eqE, eq_self, foldE, maxE, minE, eq_T, eq_F, ndec, odec, adec, sdec, fillA, over, chop, List.replicate, leavesOk, leafOk, cellsEq, cellEq, E_ext, E_byref, en29, bs47, hta, hacc, rowsT_len, show ∀ B fr H, execT E B 29 (Code.loop _) fr H = rlG E B 29 (loopAt Tryd.f29 0) (gcn B (norm [2, 3, 4, 5, 6] fr) H) from fun B fr H => rl_intro rfl mt29_5 mb29_5 zf29_5 hd29_5 fr H]
    exact ⟨_, rfl, rfl, rfl⟩
termination_by sa.length - j
theorem l290 (ca tb cb c : Bool) (sa sb : List Bool) (ha : sa.length ≤ 1000) (hb : sb.length ≤ 1000) :
    ∃ fr H', rl E 0 29 (loopAt Tryd.f29 0) [(2, .ptr 0 0 0 0), (3, .ptr 1 0 0 0), (4, .ptr 2 0 0 0), (5, .ptr 3 0 0 0), (6, .i (.v (.int .i64 (0))))] [.box [.i (.v (.bool true)), .i (.v (.bool ca)), .i (.sl 1 (rowsT sa) false)], .box [.i (.v (.bool tb)), .i (.v (.bool cb)), .i (.sl 1 (rowsT sb) false)], .box [.i (.v (.bool false)), .i (.v (.bool false)), .i (.sl 0 [] true)], .box [.i (.v (.bool true)), .i (.v (.bool c)), .i (.sl 0 [] true)]] = some (.exit 0, fr, H') ∧ get 4 fr = .ptr 2 0 0 0 ∧ get 5 fr = .ptr 3 0 0 0 ∧
      ((zo sa sb = [] ∧ H' = [.box [.i (.v (.bool true)), .i (.v (.bool ca)), .i (.sl 1 (rowsT sa) false)], .box [.i (.v (.bool tb)), .i (.v (.bool cb)), .i (.sl 1 (rowsT sb) false)], .box [.i (.v (.bool false)), .i (.v (.bool false)), .i (.sl 0 [] true)], .box [.i (.v (.bool true)), .i (.v (.bool c)), .i (.sl 0 [] true)]]) ∨ H' = [.box [.i (.v (.bool true)), .i (.v (.bool ca)), .i (.sl 1 (rowsT sa) false)], .box [.i (.v (.bool tb)), .i (.v (.bool cb)), .i (.sl 1 (rowsT sb) false)], .box [.i (.v (.bool false)), .i (.v (.bool false)), .i (.sl 0 [] true)], .box [.i (.v (.bool true)), .i (.v (.bool c)), .ref 4 0 0 (List.length (zo sa sb))], .sl 1 0 (rowsT (zo sa sb)) false]) := by
  rw [rl_step (fn := Tryd.f29) (k := 0) rfl]
  cases sa with
  | nil =>
    simp (disch := first | omega | (simp only [List.length_append, List.length_map, List.length_set, List.length_cons, List.length_nil, List.length_take, List.length_drop, rowsT_len]; omega)) only [va0, va1, va2, va3, va4, va5, va6, va7, va8, va9, va10, va11, va12, va13, va14, va15, vb0, vb1, vb2, vb3, w_i8, w_u8, w_i16, w_u16, w_i32, w_u32, w_i64, w_u64, lt_T, lt_F, le_T, le_F, nlt_T, nlt_F, nle_T, nle_F, List.take_of_length_le, gB, gcW, gcR, posIn, renA, renL, Chunk.ren, Chunk.refs, evOpD, touchD, stepC, isFresh, nFresh, freshOf, mkR, hole, evL, evH, opd, get, putD, ofVal, cellOf, loadE, behind, lenE, idxAddrE, idxE, addPtr, intE, strE, unE, convE, AV.int, AV.bool, AV.str, ivs, take, frameOf, firstRegion, refsA, refsL, one, cellsA, floatOk, apartT, List.map, if_true, if_false, E_P, E_glob0, E_glob1, reduceCtorEq, beq_self_eq_true, decide_true, decide_false, ↓reduceIte, Nat.reduceEqDiff, cond_true, cond_false, or_true, true_or, or_false, false_or, and_true, true_and, and_self, false_and, and_false, not_true, not_false_iff, Nat.reduceAdd, Nat.reduceSub, Nat.reduceMul, Nat.reduceLT, Nat.reduceLeDiff, Int.reduceToNat, Int.reduceLT, Int.reduceLE, Option.getD, Int.reduceMul, Int.reduceAdd, List.drop, List.take, Nat.reduceBEq, List.isEmpty, Int.reduceEq, Int.reduceNe, Int.reduceNeg, Int.reduceGT, Int.reduceGE, beq_true, beq_false, UInt8.reduceToNat, eqE, eq_self, foldE, maxE, minE, eq_T, eq_F, ndec, odec, adec, sdec, fillA, over, chop, List.replicate, leavesOk, leafOk, cellsEq, cellEq, E_ext, E_byref, en29, bs47, rowsT_len, show ∀ B fr H, execT E B 29 (Code.loop _) fr H = rlG E B 29 (loopAt Tryd.f29 0) (gcn B (norm [2, 3, 4, 5, 6] fr) H) from fun B fr H => rl_intro rfl mt29_5 mb29_5 zf29_5 hd29_5 fr H]
    exact ⟨_, _, rfl, rfl, rfl, .inl ⟨rfl, rfl⟩⟩
  | cons x sa =>
    cases sb with
    | nil =>
      have hl : (rowsT (x :: sa)).length = sa.length + 1 := by simp [rowsT]
      have hl2 : (rowsT []).length = 0 := rfl
      generalize rowsT (x :: sa) = ra at *
      generalize rowsT [] = rb at *
      simp (disch := first | omega | (simp only [List.length_append, List.length_map, List.length_set, List.length_cons, List.length_nil, List.length_take, List.length_drop]; omega)) only [va0, va1, va2, va3, va4, va5, va6, va7, va8, va9, va10, va11, va12, va13, va14, va15, vb0, vb1, vb2, vb3, w_i8, w_u8, w_i16, w_u16, w_i32, w_u32, w_i64, w_u64, lt_T, lt_F, le_T, le_F, nlt_T, nlt_F, nle_T, nle_F, List.take_of_length_le, gB, gcW, gcR, posIn, renA, renL, Chunk.ren, Chunk.refs, evOpD, touchD, stepC, isFresh, nFresh, freshOf, mkR, hole, evL, evH, opd, get, putD, ofVal, cellOf, loadE, behind, lenE, idxAddrE, idxE, addPtr, intE, strE, unE, convE, AV.int, AV.bool, AV.str, ivs, take, frameOf, firstRegion, refsA, refsL, one, cellsA, floatOk, apartT, List.map, if_true, if_false, E_P, E_glob0, E_glob1, reduceCtorEq, beq_self_eq_true, decide_true, decide_false, ↓reduceIte, Nat.reduceEqDiff, cond_true, cond_false, or_true, true_or, or_false, false_or, and_true, true_and, and_self, false_and, and_false, not_true, not_false_iff, Nat.reduceAdd, Nat.reduceSub, Nat.reduceMul, Nat.reduceLT, Nat.reduceLeDiff, Int.reduceToNat, Int.reduceLT, Int.reduceLE, Option.getD, Int.reduceMul, Int.reduceAdd, List.drop, List.take, Nat.reduceBEq, List.isEmpty, Int.reduceEq, Int.reduceNe, Int.reduceNeg, Int.reduceGT, Int.reduceGE, beq_true, beq_false, UInt8.reduceToNat, eqE, eq_self, foldE, maxE, minE, eq_T, eq_F, ndec, odec, adec, sdec, fillA, over, chop, List.replicate, leavesOk, leafOk, cellsEq, cellEq, E_ext, E_byref, en29, bs47, hl, hl2, show ∀ B fr H, execT E B 29 (Code.loop _) fr H = rlG E B 29 (loopAt Tryd.f29 0) (gcn B (norm [2, 3, 4, 5, 6] fr) H) from fun B fr H => rl_intro rfl mt29_5 mb29_5 zf29_5 hd29_5 fr H]
      exact ⟨_, _, rfl, rfl, rfl, .inl ⟨rfl, rfl⟩⟩
    | cons y sb =>
      obtain ⟨fr, e, h4, h5⟩ := l29 ca tb cb c (x :: sa) (y :: sb) ha hb 1 ⟨by simp, by simp⟩ [x || y] rfl
      refine ⟨fr, _, Eq.trans ?_ e, h4, h5, .inr rfl⟩
      have hga : (rowsT (x :: sa))[0]? = some [.v (.bool x)] := rfl
      have hgb : (rowsT (y :: sb))[0]? = some [.v (.bool y)] := rfl
      have hla : (rowsT (x :: sa)).length = sa.length + 1 := by simp [rowsT]
      have hlb : (rowsT (y :: sb)).length = sb.length + 1 := by simp [rowsT]
      have hr1 : rowsT [x || y] = [[.v (.bool (x || y))]] := rfl
      have hl1 : [x || y].length = 1 := rfl
      rw [hr1, hl1]
      clear e h4 h5 hr1 hl1
      generalize rowsT (x :: sa) = ra at *
      generalize rowsT (y :: sb) = rb at *
      cases x
      · simp only [Bool.false_or]
        simp (disch := first | omega | (simp only [List.length_append, List.length_map, List.length_set, List.length_cons, List.length_nil, List.length_take, List.length_drop, hla, hlb]; omega)) only [va0, va1, va2, va3, va4, va5, va6, va7, va8, va9, va10, va11, va12, va13, va14, va15, vb0, vb1, vb2, vb3, w_i8, w_u8, w_i16, w_u16, w_i32, w_u32, w_i64, w_u64, lt_T, lt_F, le_T, le_F, nlt_T, nlt_F, nle_T, nle_F, List.take_of_length_le, gB, gcW, gcR, posIn, renA, renL, Chunk.ren, Chunk.refs, evOpD, touchD, stepC, isFresh, nFresh, freshOf, mkR, hole, evL, evH, opd, get, putD, ofVal, cellOf, loadE, behind, lenE, idxAddrE, idxE, addPtr, intE, strE, unE, convE, AV.int, AV.bool, AV.str, ivs, take, frameOf, firstRegion, refsA, refsL, one, cellsA, floatOk, apartT, List.map, if_true, if_false, E_P, E_glob0, E_glob1, reduceCtorEq, beq_self_eq_true, decide_true, decide_false, ↓reduceIte, Nat.reduceEqDiff, cond_true, cond_false, or_true, true_or, or_false, false_or, and_true, true_and, and_self, false_and, and_false, not_true, not_false_iff, Nat.reduceAdd, Nat.reduceSub, Nat.reduceMul, Nat.reduceLT, Nat.reduceLeDiff, Int.reduceToNat, Int.reduceLT, Int.reduceLE, Option.getD, Int.reduceMul, Int.reduceAdd, List.drop, List.take, Nat.reduceBEq, List.isEmpty, Int.reduceEq, Int.reduceNe, Int.reduceNeg, Int.reduceGT, Int.reduceGE, beq_true, beq_false, UInt8.reduceToNat, eqE, eq_self, foldE, maxE, minE, eq_T, eq_F, ndec, odec, adec, sdec, fillA, over, chop, List.replicate, leavesOk, leafOk, cellsEq, cellEq, E_ext, E_byref, en29, bs47, hga, hgb, hla, hlb, show ∀ B fr H, execT E B 29 (Code.loop _) fr H = rlG E B 29 (loopAt Tryd.f29 0) (gcn B (norm [2, 3, 4, 5, 6] fr) H) from fun B fr H => rl_intro rfl mt29_5 mb29_5 zf29_5 hd29_5 fr H]
      · simp only [Bool.true_or]
        simp (disch := first | omega | (simp only [List.length_append, List.length_map, List.length_set, List.length_cons, List.length_nil, List.length_take, List.length_drop, hla, hlb]; omega)) only [va0, va1, va2, va3, va4, va5, va6, va7, va8, va9, va10, va11, va12, va13, va14, va15, vb0, vb1, vb2, vb3, w_i8, w_u8, w_i16, w_u16, w_i32, w_u32, w_i64, w_u64, lt_T, lt_F, le_T, le_F, nlt_T, nlt_F, nle_T, nle_F, List.take_of_length_le, gB, gcW, gcR, posIn, renA, renL, Chunk.ren, Chunk.refs, evOpD, touchD, stepC, isFresh, nFresh, freshOf, mkR, hole, evL, evH, opd, get, putD, ofVal, cellOf, loadE, behind, lenE, idxAddrE, idxE, addPtr, intE, strE, unE, convE, AV.int, AV.bool, AV.str, ivs, take, frameOf, firstRegion, refsA, refsL, one, cellsA, floatOk, apartT, List.map, if_true, if_false, E_P, E_glob0, E_glob1, reduceCtorEq, beq_self_eq_true, decide_true, decide_false, ↓reduceIte, Nat.reduceEqDiff, cond_true, cond_false, or_true, true_or, or_false, false_or, and_true, true_and, and_self, false_and, and_false, not_true, not_false_iff, Nat.reduceAdd, Nat.reduceSub, Nat.reduceMul, Nat.reduceLT, Nat.reduceLeDiff, Int.reduceToNat, Int.reduceLT, Int.reduceLE, Option.getD, Int.reduceMul, Int.reduceAdd, List.drop, List.take, Nat.reduceBEq, List.isEmpty, Int.reduceEq, Int.reduceNe, Int.reduceNeg, Int.reduceGT, Int.reduceGE, beq_true, beq_false, UInt8.reduceToNat, eqE, eq_self, foldE, maxE, minE, eq_T, eq_F, ndec, odec, adec, sdec, fillA, over, chop, List.replicate, leavesOk, leafOk, cellsEq, cellEq, E_ext, E_byref, en29, bs47, hga, hgb, hla, hlb, show ∀ B fr H, execT E B 29 (Code.loop _) fr H = rlG E B 29 (loopAt Tryd.f29 0) (gcn B (norm [2, 3, 4, 5, 6] fr) H) from fun B fr H => rl_intro rfl mt29_5 mb29_5 zf29_5 hd29_5 fr H]
def joinS (ta ca : Bool) (sa : List Bool) (cb : Bool) (sb : List Bool) : Bool × List Bool := if ta = true then (ca || cb, zo sa sb) else (cb, sb)
theorem c29 (ta ca tb cb : Bool) (sa sb : List Bool) (ha : sa.length ≤ 1000) (hb : sb.length ≤ 1000) :
    ∃ L, callT E 29 [.agg (rsA ta ca sa), .agg (rsA tb cb sb)] [] = some (.agg (rsA true (joinS ta ca sa cb sb).1 (joinS ta ca sa cb sb).2), L) := by
  unfold joinS rsA
  cases ta
  · rw [if_neg (by decide)]
    simp only
    rw [callT_eq Tryd.func29 rfl fok29 (by simp [Tryd.ntmps29])]
    simp (disch := first | omega | (simp only [List.length_append, List.length_map, List.length_set, List.length_cons, List.length_nil, List.length_take, List.length_drop, rowsT_len]; omega)) only [va0, va1, va2, va3, va4, va5, va6, va7, va8, va9, va10, va11, va12, va13, va14, va15, vb0, vb1, vb2, vb3, w_i8, w_u8, w_i16, w_u16, w_i32, w_u32, w_i64, w_u64, lt_T, lt_F, le_T, le_F, nlt_T, nlt_F, nle_T, nle_F, List.take_of_length_le, gB, gcW, gcR, posIn, renA, renL, Chunk.ren, Chunk.refs, evOpD, touchD, stepC, isFresh, nFresh, freshOf, mkR, hole, evL, evH, opd, get, putD, ofVal, cellOf, loadE, behind, lenE, idxAddrE, idxE, addPtr, intE, strE, unE, convE, AV.int, AV.bool, AV.str, ivs, take, frameOf, firstRegion, refsA, refsL, one, cellsA, floatOk, apartT, List.map, if_true, if_false, E_P, E_glob0, E_glob1, reduceCtorEq, beq_self_eq_true, decide_true, decide_false, ↓reduceIte, Nat.reduceEqDiff, cond_true, cond_false, or_true, true_or, or_false, false_or, and_true, true_and, and_self, false_and, and_false, not_true, not_false_iff, Nat.reduceAdd, Nat.reduceSub, Nat.reduceMul, Nat.reduceLT, Nat.reduceLeDiff, Int.reduceToNat, Int.reduceLT, Int.reduceLE, Option.getD, Int.reduceMul, Int.reduceAdd, List.drop, List.take, Nat.reduceBEq, List.isEmpty, Int.reduceEq, Int.reduceNe, Int.reduceNeg, Int.reduceGT, Int.reduceGE, beq_true, beq_false, UInt8.reduceToNat, eqE, eq_self, foldE, maxE, minE, eq_T, eq_F, ndec, odec, adec, sdec, fillA, over, chop, List.replicate, leavesOk, leafOk, cellsEq, cellEq, E_ext, E_byref, en29, bs47, rowsT_len, List.nil_append]
    exact ⟨_, rfl⟩
  · rw [if_pos rfl]
    simp only
    obtain ⟨fr, H', e, g4, g5, hh⟩ := l290 ca tb cb (ca || cb) sa sb ha hb
    have hz : (zo sa sb).length ≤ 1000 := by simp [zo]; omega
    have hrn : rowsT ([] : List Bool) = [] := rfl
    generalize hzz : zo sa sb = z at *
    have ht : List.take z.length (rowsT z) = rowsT z := List.take_of_length_le (by rw [rowsT_len]; exact Nat.le_refl _)
    rcases hh with ⟨h1, rfl⟩ | rfl
    · subst h1
      cases ca
      · simp only [Bool.false_or] at e ⊢
        rw [callT_eq Tryd.func29 rfl fok29 (by simp [Tryd.ntmps29])]
        simp (disch := first | omega | (simp only [List.length_append, List.length_map, List.length_set, List.length_cons, List.length_nil, List.length_take, List.length_drop, rowsT_len]; omega)) only [va0, va1, va2, va3, va4, va5, va6, va7, va8, va9, va10, va11, va12, va13, va14, va15, vb0, vb1, vb2, vb3, w_i8, w_u8, w_i16, w_u16, w_i32, w_u32, w_i64, w_u64, lt_T, lt_F, le_T, le_F, nlt_T, nlt_F, nle_T, nle_F, List.take_of_length_le, gB, gcW, gcR, posIn, renA, renL, Chunk.ren, Chunk.refs, evOpD, touchD, stepC, isFresh, nFresh, freshOf, mkR, hole, evL, evH, opd, get, putD, ofVal, cellOf, loadE, behind, lenE, idxAddrE, idxE, addPtr, intE, strE, unE, convE, AV.int, AV.bool, AV.str, ivs, take, frameOf, firstRegion, refsA, refsL, one, cellsA, floatOk, apartT, List.map, if_true, if_false, E_P, E_glob0, E_glob1, reduceCtorEq, beq_self_eq_true, decide_true, decide_false, ↓reduceIte, Nat.reduceEqDiff, cond_true, cond_false, or_true, true_or, or_false, false_or, and_true, true_and, and_self, false_and, and_false, not_true, not_false_iff, Nat.reduceAdd, Nat.reduceSub, Nat.reduceMul, Nat.reduceLT, Nat.reduceLeDiff, Int.reduceToNat, Int.reduceLT, Int.reduceLE, Option.getD, Int.reduceMul, Int.reduceAdd, List.drop, List.take, Nat.reduceBEq, List.isEmpty, Int.reduceEq, Int.reduceNe, Int.reduceNeg, Int.reduceGT, Int.reduceGE, beq_true, beq_false, UInt8.reduceToNat, eqE, eq_self, foldE, maxE, minE, eq_T, eq_F, ndec, odec, adec, sdec, fillA, over, chop, List.replicate, leavesOk, leafOk, cellsEq, cellEq, E_ext, E_byref, en29, bs47, e, g4, g5, rowsT_len, hrn, show ∀ B fr H, execT E B 29 (Code.loop _) fr H = rlG E B 29 (loopAt Tryd.f29 0) (gcn B (norm [2, 3, 4, 5, 6] fr) H) from fun B fr H => rl_intro rfl mt29_5 mb29_5 zf29_5 hd29_5 fr H]
        exact ⟨_, rfl⟩
      · simp only [Bool.true_or] at e ⊢
        rw [callT_eq Tryd.func29 rfl fok29 (by simp [Tryd.ntmps29])]
        simp (disch := first | omega | (simp only [List.length_append, List.length_map, List.length_set, List.length_cons, List.length_nil, List.length_take, List.length_drop, rowsT_len]; omega)) only [va0, va1, va2, va3, va4, va5, va6, va7, va8, va9, va10, va11, va12, va13, va14, va15, vb0, vb1, vb2, vb3, w_i8, w_u8, w_i16, w_u16, w_i32, w_u32, w_i64, w_u64, lt_T, lt_F, le_T, le_F, nlt_T, nlt_F, nle_T, nle_F, List.take_of_length_le, gB, gcW, gcR, posIn, renA, renL, Chunk.ren, Chunk.refs, evOpD, touchD, stepC, isFresh, nFresh, freshOf, mkR, hole, evL, evH, opd, get, putD, ofVal, cellOf, loadE, behind, lenE, idxAddrE, idxE, addPtr, intE, strE, unE, convE, AV.int, AV.bool, AV.str, ivs, take, frameOf, firstRegion, refsA, refsL, one, cellsA, floatOk, apartT, List.map, if_true, if_false, E_P, E_glob0, E_glob1, reduceCtorEq, beq_self_eq_true, decide_true, decide_false, ↓reduceIte, Nat.reduceEqDiff, cond_true, cond_false, or_true, true_or, or_false, false_or, and_true, true_and, and_self, false_and, and_false, not_true, not_false_iff, Nat.reduceAdd, Nat.reduceSub, Nat.reduceMul, Nat.reduceLT, Nat.reduceLeDiff, Int.reduceToNat, Int.reduceLT, Int.reduceLE, Option.getD, Int.reduceMul, Int.reduceAdd, List.drop, List.take, Nat.reduceBEq, List.isEmpty, Int.reduceEq, Int.reduceNe, Int.reduceNeg, Int.reduceGT, Int.reduceGE, beq_true, beq_false, UInt8.reduceToNat, eqE, eq_self, foldE, maxE, minE, eq_T, eq_F, ndec, odec, adec, sdec, fillA, over, chop, List.replicate, leavesOk, leafOk, cellsEq, cellEq, E_ext, E_byref, en29, bs47, e, g4, g5, rowsT_len, hrn, show ∀ B fr H, execT E B 29 (Code.loop _) fr H = rlG E B 29 (loopAt Tryd.f29 0) (gcn B (norm [2, 3, 4, 5, 6] fr) H) from fun B fr H => rl_intro rfl mt29_5 mb29_5 zf29_5 hd29_5 fr H]
        exact ⟨_, rfl⟩
    · cases ca
      · simp only [Bool.false_or] at e ⊢
        rw [callT_eq Tryd.func29 rfl fok29 (by simp [Tryd.ntmps29])]
        simp (disch := first | omega | (simp only [List.length_append, List.length_map, List.length_set, List.length_cons, List.length_nil, List.length_take, List.length_drop, rowsT_len]; omega)) only [va0, va1, va2, va3, va4, va5, va6, va7, va8, va9, va10, va11, va12, va13, va14, va15, vb0, vb1, vb2, vb3, w_i8, w_u8, w_i16, w_u16, w_i32, w_u32, w_i64, w_u64, lt_T, lt_F, le_T, le_F, nlt_T, nlt_F, nle_T, nle_F, List.take_of_length_le, gB, gcW, gcR, posIn, renA, renL, Chunk.ren, Chunk.refs, evOpD, touchD, stepC, isFresh, nFresh, freshOf, mkR, hole, evL, evH, opd, get, putD, ofVal, cellOf, loadE, behind, lenE, idxAddrE, idxE, addPtr, intE, strE, unE, convE, AV.int, AV.bool, AV.str, ivs, take, frameOf, firstRegion, refsA, refsL, one, cellsA, floatOk, apartT, List.map, if_true, if_false, E_P, E_glob0, E_glob1, reduceCtorEq, beq_self_eq_true, decide_true, decide_false, ↓reduceIte, Nat.reduceEqDiff, cond_true, cond_false, or_true, true_or, or_false, false_or, and_true, true_and, and_self, false_and, and_false, not_true, not_false_iff, Nat.reduceAdd, Nat.reduceSub, Nat.reduceMul, Nat.reduceLT, Nat.reduceLeDiff, Int.reduceToNat, Int.reduceLT, Int.reduceLE, Option.getD, Int.reduceMul, Int.reduceAdd, List.drop, List.take, Nat.reduceBEq, List.isEmpty, Int.reduceEq, Int.reduceNe, Int.reduceNeg, Int.reduceGT, Int.reduceGE, beq_true, beq_false, UInt8.reduceToNat, eqE, eq_self, foldE, maxE, minE, eq_T, eq_F, ndec, odec, adec, sdec, fillA, over, chop, List.replicate, leavesOk, leafOk, cellsEq, cellEq, E_ext, E_byref, en29, bs47, e, g4, g5, ht, rowsT_len, show ∀ B fr H, execT E B 29 (Code.loop _) fr H = rlG E B 29 (loopAt Tryd.f29 0) (gcn B (norm [2, 3, 4, 5, 6] fr) H) from fun B fr H => rl_intro rfl mt29_5 mb29_5 zf29_5 hd29_5 fr H]
        exact ⟨_, rfl⟩
      · simp only [Bool.true_or] at e ⊢
        rw [callT_eq Tryd.func29 rfl fok29 (by simp [Tryd.ntmps29])]
        simp (disch := first | omega | (simp only [List.length_append, List.length_map, List.length_set, List.length_cons, List.length_nil, List.length_take, List.length_drop, rowsT_len]; omega)) only [va0, va1, va2, va3, va4, va5, va6, va7, va8, va9, va10, va11, va12, va13, va14, va15, vb0, vb1, vb2, vb3, w_i8, w_u8, w_i16, w_u16, w_i32, w_u32, w_i64, w_u64, lt_T, lt_F, le_T, le_F, nlt_T, nlt_F, nle_T, nle_F, List.take_of_length_le, gB, gcW, gcR, posIn, renA, renL, Chunk.ren, Chunk.refs, evOpD, touchD, stepC, isFresh, nFresh, freshOf, mkR, hole, evL, evH, opd, get, putD, ofVal, cellOf, loadE, behind, lenE, idxAddrE, idxE, addPtr, intE, strE, unE, convE, AV.int, AV.bool, AV.str, ivs, take, frameOf, firstRegion, refsA, refsL, one, cellsA, floatOk, apartT, List.map, if_true, if_false, E_P, E_glob0, E_glob1, reduceCtorEq, beq_self_eq_true, decide_true, decide_false, ↓reduceIte, Nat.reduceEqDiff, cond_true, cond_false, or_true, true_or, or_false, false_or, and_true, true_and, and_self, false_and, and_false, not_true, not_false_iff, Nat.reduceAdd, Nat.reduceSub, Nat.reduceMul, Nat.reduceLT, Nat.reduceLeDiff, Int.reduceToNat, Int.reduceLT, Int.reduceLE, Option.getD, Int.reduceMul, Int.reduceAdd, List.drop, List.take, Nat.reduceBEq, List.isEmpty, Int.reduceEq, Int.reduceNe, Int.reduceNeg, Int.reduceGT, Int.reduceGE, beq_true, beq_false, UInt8.reduceToNat, eqE, eq_self, foldE, maxE, minE, eq_T, eq_F, ndec, odec, adec, sdec, fillA, over, chop, List.replicate, leavesOk, leafOk, cellsEq, cellEq, E_ext, E_byref, en29, bs47, e, g4, g5, ht, rowsT_len, show ∀ B fr H, execT E B 29 (Code.loop _) fr H = rlG E B 29 (loopAt Tryd.f29 0) (gcn B (norm [2, 3, 4, 5, 6] fr) H) from fun B fr H => rl_intro rfl mt29_5 mb29_5 zf29_5 hd29_5 fr H]
        exact ⟨_, rfl⟩
theorem ik29 (ta ca tb cb : Bool) (sa sb : List Bool) (ha : sa.length ≤ 1000) (hb : sb.length ≤ 1000) (H : Hp) :
    isoK E (callT E) 29 [.agg (rsA ta ca sa), .agg (rsA tb cb sb)] H = some (.agg (rsA true (joinS ta ca sa cb sb).1 (joinS ta ca sa cb sb).2), H) := isoK_val rfl rfl rfl (c29 ta ca tb cb sa sb ha hb)
theorem c28 (op : Int) (h0 : 0 ≤ op) (h1 : op ≤ 20) (t c : Bool) (st : List Bool) (hp : popS op ≤ st.length) (hd : st.length ≤ 16) :
    ∃ L, callT E 28 [.agg (rsA t c st), .i (.v (.int .i64 op))] [] = some (.agg (rsA true (stepS op c st).1 (stepS op c st).2), L) := by
  have h : (op = 3 ∨ op = 4 ∨ op = 5) ∨ (op = 8 ∨ op = 9 ∨ op = 10 ∨ op = 11 ∨ op = 12) ∨ op = 13 ∨ op = 14 ∨ op = 16 ∨ op = 18 ∨ (op = 1 ∨ op = 2 ∨ op = 6 ∨ op = 7) ∨ (op = 0 ∨ op = 15 ∨ op = 17 ∨ op = 19 ∨ op = 20) := by omega
  rcases h with h | h | h | h | h | h | h | h
  · exact c28_1 op h0 h1 t c st hp hd h
  · exact c28_2 op h0 h1 t c st hp hd h
  · exact c28_3 op h0 h1 t c st hp hd h
  · exact c28_4 op h0 h1 t c st hp hd h
  · exact c28_5 op h0 h1 t c st hp hd h
  · exact c28_6 op h0 h1 t c st hp hd h
  · exact c28_7 op h0 h1 t c st hp hd h
  · exact c28_8 op h0 h1 t c st hp hd h
theorem ik28 (op : Int) (h0 : 0 ≤ op) (h1 : op ≤ 20) (t c : Bool) (st : List Bool) (hp : popS op ≤ st.length) (hd : st.length ≤ 16) (H : Hp) :
    isoK E (callT E) 28 [.agg (rsA t c st), .i (.v (.int .i64 op))] H = some (.agg (rsA true (stepS op c st).1 (stepS op c st).2), H) := isoK_val rfl rfl rfl (c28 op h0 h1 t c st hp hd)
end Go.VI

