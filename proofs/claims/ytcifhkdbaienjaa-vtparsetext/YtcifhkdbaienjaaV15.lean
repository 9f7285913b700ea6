import Derived.Test.YtcifhkdbaienjaaV14
namespace Go.VI
open Go.Proofs
set_option maxRecDepth 100000
set_option linter.unusedSimpArgs false
set_option linter.unusedVariables false
set_option maxHeartbeats 4000000
theorem feed_len (p : Ps) (s : List UInt8) : PsOK (feedS p s).1 ∧ (feedS p s).2.length ≤ 8 * s.length := runF_len s (start_ok p)
theorem feed_few (p : Ps) (s : List UInt8) : evS (feedS p s).2 := evS_run s _
/-- Feed's answer, its cells spelt out -/
theorem ik9_c (a : Int) (b c s : List UInt8) (hb : b.length < 40000) (hc : c.length < 100000) (hs : (s.length : Int) < 5000) (H : Hp) : isoK E (callT E) 9 [.agg [.i (.v (.int .i64 a)), .i (.str b), .i (.str c)], .i (.str s)] H =
    some (.tup [.agg [.i (.v (.int .i64 (feedS ⟨a, b, c⟩ s).1.st)), .i (.str (feedS ⟨a, b, c⟩ s).1.pe), .i (.str (feedS ⟨a, b, c⟩ s).1.bu)], .i (.sl 7 (rowsEv (feedS ⟨a, b, c⟩ s).2) false)], H) := ik9 ⟨a, b, c⟩ hb hc s hs H
theorem law3 (a : Int) (b c s : List UInt8) (k : Int) (hk : 0 ≤ k ∧ k ≤ 65535) : ∃ L, callT E 3 [.agg (psC ⟨a, b, c⟩), .i (.str s), .i (.v (.int .u16 k))] [] = some (.i (.v (.bool true)), L) := by
  have hlg := fun H => ik7 ⟨a, b, c⟩ s H 
  cases hl : largeB ⟨a, b, c⟩ s with 
  | true => 
    rw [hl] at hlg 
    unfold psC at * 
    rw [callT_eq Try.func3 rfl fok3 (by simp [Try.ntmps3])] 
    simp (disch := first | omega | (simp only [List.length_append, List.length_map, List.length_set, List.length_cons, List.length_nil, List.length_take, List.length_drop]; omega)) only [va0, va1, va2, va3, va4, va5, va6, va7, va8, va9, va10, va11, va12, va13, va14, vb0, vb1, vb2, vb3, w_i8, w_u8, w_i16, w_u16, w_i32, w_u32, w_i64, w_u64, lt_T, lt_F, le_T, le_F, nlt_T, nlt_F, nle_T, nle_F, List.take_of_length_le, gB, gcW, gcR, posIn, renA, renL, Chunk.ren, Chunk.refs, evOpD, touchD, stepC, isFresh, nFresh, freshOf, mkR, hole, evL, evH, opd, get, putD, ofVal, cellOf, loadE, behind, lenE, idxAddrE, idxE, addPtr, intE, strE, unE, convE, AV.int, AV.bool, AV.str, ivs, take, frameOf, firstRegion, refsA, refsL, one, cellsA, floatOk, apartT, List.map, if_true, if_false, E_P, E_glob, reduceCtorEq, beq_self_eq_true, decide_true, decide_false, ↓reduceIte, Nat.reduceEqDiff, cond_true, cond_false, or_true, true_or, or_false, false_or, and_true, true_and, and_self, false_and, and_false, not_true, not_false_iff, Nat.reduceAdd, Nat.reduceSub, Nat.reduceMul, Nat.reduceLT, Nat.reduceLeDiff, Int.reduceToNat, Int.reduceLT, Int.reduceLE, Option.getD, Int.reduceMul, Int.reduceAdd, List.drop, List.take, Nat.reduceBEq, List.isEmpty, Int.reduceEq, Int.reduceNe, Int.reduceNeg, Int.reduceGT, Int.reduceGE, beq_true, beq_false, UInt8.reduceToNat, eqE, eq_self, foldE, maxE, minE, eq_T, eq_F, ndec, odec, adec, sdec, fillA, over, chop, List.replicate, leavesOk, leafOk, cellsEq, cellEq, E_ext, E_byref, en3, bs27, hlg, ik8] 
    exact ⟨_, rfl⟩ 
  | false => 
    rw [hl] at hlg 
    obtain ⟨h1, h2, h3⟩ := small_of hl 
    dsimp only at h1 h2 
    unfold psC at *
    obtain ⟨j, hj, hjs⟩ : ∃ j : Nat, Int.tmod k ((s.length : Int) + 1) = j ∧ j ≤ s.length := by
      have h := Int.tmod_nonneg ((s.length : Int) + 1) hk.1
      have h' := Int.tmod_lt_of_pos k (show (0 : Int) < (s.length : Int) + 1 by omega)
      exact ⟨(Int.tmod k ((s.length : Int) + 1)).toNat, by omega, by omega⟩
    by_cases hs0 : s = []
    · subst hs0
      obtain rfl : j = 0 := by simpa using hjs
      simp only [List.length_nil, Int.natCast_zero, Int.zero_add] at hj
      have hf : feedS ⟨a, b, c⟩ [] = (startS ⟨a, b, c⟩, []) := rfl
      have hf2 : feedS (startS ⟨a, b, c⟩) [] = (startS ⟨a, b, c⟩, []) := by unfold feedS; rw [start_of (proper_start _)]; rfl
      have l1 := start_ok ⟨a, b, c⟩
      have k1 := fun H => ik9_c a b c [] (by omega) (by omega) (by simp) H
      rw [hf] at k1
      generalize startS ⟨a, b, c⟩ = q at *
      obtain ⟨q1, q2, q3⟩ := q
      obtain ⟨l2, l3⟩ := l1
      dsimp only at *
      have k2 := fun H => ik9_c q1 q2 q3 [] (by omega) (by omega) (by simp) H
      rw [hf2] at k2
      dsimp only at *
      have hz : rowsEv [] = [] := rfl
      simp only [hz] at k1 k2
      rw [callT_eq Try.func3 rfl fok3 (by simp [Try.ntmps3])]
      simp (disch := first | omega | (simp only [List.length_append, List.length_map, List.length_set, List.length_cons, List.length_nil, List.length_take, List.length_drop]; omega)) only [va0, va1, va2, va3, va4, va5, va6, va7, va8, va9, va10, va11, va12, va13, va14, vb0, vb1, vb2, vb3, w_i8, w_u8, w_i16, w_u16, w_i32, w_u32, w_i64, w_u64, lt_T, lt_F, le_T, le_F, nlt_T, nlt_F, nle_T, nle_F, List.take_of_length_le, gB, gcW, gcR, posIn, renA, renL, Chunk.ren, Chunk.refs, evOpD, touchD, stepC, isFresh, nFresh, freshOf, mkR, hole, evL, evH, opd, get, putD, ofVal, cellOf, loadE, behind, lenE, idxAddrE, idxE, addPtr, intE, strE, unE, convE, AV.int, AV.bool, AV.str, ivs, take, frameOf, firstRegion, refsA, refsL, one, cellsA, floatOk, apartT, List.map, if_true, if_false, E_P, E_glob, reduceCtorEq, beq_self_eq_true, decide_true, decide_false, ↓reduceIte, Nat.reduceEqDiff, cond_true, cond_false, or_true, true_or, or_false, false_or, and_true, true_and, and_self, false_and, and_false, not_true, not_false_iff, Nat.reduceAdd, Nat.reduceSub, Nat.reduceMul, Nat.reduceLT, Nat.reduceLeDiff, Int.reduceToNat, Int.reduceLT, Int.reduceLE, Option.getD, Int.reduceMul, Int.reduceAdd, List.drop, List.take, Nat.reduceBEq, List.isEmpty, Int.reduceEq, Int.reduceNe, Int.reduceNeg, Int.reduceGT, Int.reduceGE, beq_true, beq_false, UInt8.reduceToNat, eqE, eq_self, foldE, maxE, minE, eq_T, eq_F, ndec, odec, adec, sdec, fillA, over, chop, List.replicate, leavesOk, leafOk, cellsEq, cellEq, E_ext, E_byref, en3, bs27, hlg, hj, k1, k2, ik8, List.take_nil, List.drop_nil, List.length_nil, Int.natCast_zero, Int.zero_add]
      exact ⟨_, rfl⟩
    · have hlen : ¬ (s.length : Int) = 0 := fun h => hs0 (List.length_eq_zero_iff.1 (by omega))
      have hj' : Int.tmod k ((s.length + 1 : Nat) : Int) = j := hj
      have happ := feed_app ⟨a, b, c⟩ (s.take j) (s.drop j)
      rw [List.take_append_drop] at happ
      have l1 := feed_len ⟨a, b, c⟩ (s.take j)
      have k1 := fun H => ik9_c a b c (s.take j) (by omega) (by omega) (by simp; omega) H
      have f1 := feed_few ⟨a, b, c⟩ (s.take j)
      generalize feedS ⟨a, b, c⟩ (s.take j) = q at *
      obtain ⟨⟨q1, q2, q3⟩, ev1⟩ := q
      dsimp only at *
      obtain ⟨⟨l2, l3⟩, l4⟩ := l1
      dsimp only at l2 l3
      have k2 := fun H => ik9_c q1 q2 q3 (s.drop j) (by omega) (by omega) (by simp; omega) H
      have k3 := fun H => ik9_c a b c s (by omega) (by omega) (by omega) H
      have l5 := (feed_len ⟨q1, q2, q3⟩ (s.drop j)).2
      have f2 := feed_few ⟨q1, q2, q3⟩ (s.drop j)
      rw [happ] at k3
      generalize feedS ⟨q1, q2, q3⟩ (s.drop j) = r at *
      obtain ⟨⟨r1, r2, r3⟩, ev2⟩ := r
      dsimp only at *
      simp only [List.length_take, List.length_drop] at l4 l5
      have hsame := fun H => ik10 (ev1 ++ ev2) (by simp; omega) (few_of (evS_app f1 f2)) H
      have he := eqP r1 r1 r2 r2 r3 r3
      simp only [decide_true, beq_self_eq_true, Bool.and_self] at he
      have hr1 := rowsEv_len ev1
      have hr2 := rowsEv_len ev2
      have hr3 := rowsEv_len (ev1 ++ ev2)
      rw [List.length_append] at hr3
      rw [callT_eq Try.func3 rfl fok3 (by simp [Try.ntmps3])]
      simp (disch := first | omega | (simp only [List.length_append, List.length_map, List.length_set, List.length_cons, List.length_nil, List.length_take, List.length_drop, hr1, hr2, hr3]; omega)) only [va0, va1, va2, va3, va4, va5, va6, va7, va8, va9, va10, va11, va12, va13, va14, vb0, vb1, vb2, vb3, w_i8, w_u8, w_i16, w_u16, w_i32, w_u32, w_i64, w_u64, lt_T, lt_F, le_T, le_F, nlt_T, nlt_F, nle_T, nle_F, List.take_of_length_le, gB, gcW, gcR, posIn, renA, renL, Chunk.ren, Chunk.refs, evOpD, touchD, stepC, isFresh, nFresh, freshOf, mkR, hole, evL, evH, opd, get, putD, ofVal, cellOf, loadE, behind, lenE, idxAddrE, idxE, addPtr, intE, strE, unE, convE, AV.int, AV.bool, AV.str, ivs, take, frameOf, firstRegion, refsA, refsL, one, cellsA, floatOk, apartT, List.map, if_true, if_false, E_P, E_glob, reduceCtorEq, beq_self_eq_true, decide_true, decide_false, ↓reduceIte, Nat.reduceEqDiff, cond_true, cond_false, or_true, true_or, or_false, false_or, and_true, true_and, and_self, false_and, and_false, not_true, not_false_iff, Nat.reduceAdd, Nat.reduceSub, Nat.reduceMul, Nat.reduceLT, Nat.reduceLeDiff, Int.reduceToNat, Int.reduceLT, Int.reduceLE, Option.getD, Int.reduceMul, Int.reduceAdd, List.drop, List.take, Nat.reduceBEq, List.isEmpty, Int.reduceEq, Int.reduceNe, Int.reduceNeg, Int.reduceGT, Int.reduceGE, beq_true, beq_false, UInt8.reduceToNat, eqE, eq_self, foldE, maxE, minE, eq_T, eq_F, ndec, odec, adec, sdec, fillA, over, chop, List.replicate, leavesOk, leafOk, cellsEq, cellEq, E_ext, E_byref, en3, bs27, hlg, hj', k1, k2, k3, hsame, he, hr1, hr2, hr3, hlen, rowsEv_app, Nat.sub_zero, ik8, List.take_of_length_le]
      exact ⟨_, rfl⟩
theorem law4 (a : Int) (b c s : List UInt8) : ∃ L, callT E 4 [.agg (psC ⟨a, b, c⟩), .i (.str s)] [] = some (.i (.v (.bool true)), L) := by
  have hlg := fun H => ik7 ⟨a, b, c⟩ s H 
  cases hl : largeB ⟨a, b, c⟩ s with 
  | true => 
    rw [hl] at hlg 
    unfold psC at * 
    rw [callT_eq Try.func4 rfl fok4 (by simp [Try.ntmps4])] 
    simp (disch := first | omega | (simp only [List.length_append, List.length_map, List.length_set, List.length_cons, List.length_nil, List.length_take, List.length_drop]; omega)) only [va0, va1, va2, va3, va4, va5, va6, va7, va8, va9, va10, va11, va12, va13, va14, vb0, vb1, vb2, vb3, w_i8, w_u8, w_i16, w_u16, w_i32, w_u32, w_i64, w_u64, lt_T, lt_F, le_T, le_F, nlt_T, nlt_F, nle_T, nle_F, List.take_of_length_le, gB, gcW, gcR, posIn, renA, renL, Chunk.ren, Chunk.refs, evOpD, touchD, stepC, isFresh, nFresh, freshOf, mkR, hole, evL, evH, opd, get, putD, ofVal, cellOf, loadE, behind, lenE, idxAddrE, idxE, addPtr, intE, strE, unE, convE, AV.int, AV.bool, AV.str, ivs, take, frameOf, firstRegion, refsA, refsL, one, cellsA, floatOk, apartT, List.map, if_true, if_false, E_P, E_glob, reduceCtorEq, beq_self_eq_true, decide_true, decide_false, ↓reduceIte, Nat.reduceEqDiff, cond_true, cond_false, or_true, true_or, or_false, false_or, and_true, true_and, and_self, false_and, and_false, not_true, not_false_iff, Nat.reduceAdd, Nat.reduceSub, Nat.reduceMul, Nat.reduceLT, Nat.reduceLeDiff, Int.reduceToNat, Int.reduceLT, Int.reduceLE, Option.getD, Int.reduceMul, Int.reduceAdd, List.drop, List.take, Nat.reduceBEq, List.isEmpty, Int.reduceEq, Int.reduceNe, Int.reduceNeg, Int.reduceGT, Int.reduceGE, beq_true, beq_false, UInt8.reduceToNat, eqE, eq_self, foldE, maxE, minE, eq_T, eq_F, ndec, odec, adec, sdec, fillA, over, chop, List.replicate, leavesOk, leafOk, cellsEq, cellEq, E_ext, E_byref, en4, bs27, hlg, ik8] 
    exact ⟨_, rfl⟩ 
  | false => 
    rw [hl] at hlg 
    obtain ⟨h1, h2, h3⟩ := small_of hl 
    dsimp only at h1 h2 
    unfold psC at *
    have happ := feed_app ⟨a, b, c⟩ s [24]
    have l1 := feed_len ⟨a, b, c⟩ s
    have k1 := fun H => ik9_c a b c s (by omega) (by omega) (by omega) H
    have k3 := fun H => ik9_c a b c (s ++ [24]) (by omega) (by omega) (by simp; omega) H
    have hpr : properS (feedS ⟨a, b, c⟩ s).1 = true := proper_run s (proper_start _)
    have hcan := cancel_feed hpr
    rw [happ, hcan] at k3
    have hlost : (if (feedS ⟨a, b, c⟩ s).1.st = 0 then lostS (feedS ⟨a, b, c⟩ s).1.pe else []) = [] ∨ (if (feedS ⟨a, b, c⟩ s).1.st = 0 then lostS (feedS ⟨a, b, c⟩ s).1.pe else []) = [prEv 65533] := by
      split
      · unfold lostS; split
        · exact .inl rfl
        · exact .inr rfl
      · exact .inl rfl
    generalize hlo : (if (feedS ⟨a, b, c⟩ s).1.st = 0 then lostS (feedS ⟨a, b, c⟩ s).1.pe else []) = lo at *
    clear hlo happ hpr
    generalize feedS ⟨a, b, c⟩ s = q at *
    obtain ⟨⟨q1, q2, q3⟩, ev1⟩ := q
    dsimp only [p0] at *
    obtain ⟨⟨l2, l3⟩, l4⟩ := l1
    dsimp only at l2 l3
    have k2 := fun H => ik9_c q1 q2 q3 [24] (by omega) (by omega) (by simp) H
    rw [hcan] at k2
    dsimp only at *
    have he := eqP 0 0 [] [] [] []
    simp only [decide_true, beq_self_eq_true, Bool.and_self] at he
    have hr1 := rowsEv_len ev1
    have hr2 := rowsEv_len (ev1 ++ lo)
    rw [List.length_append] at hr2
    have hz : rowsEv [] = [] := rfl
    have hz1 : rowsEv [prEv 65533] = [[.v (.int .i64 1), .v (.int .i32 65533), .v (.int .u8 0), .v (.int .u8 0), .str [], .sl 1 [] false, .str []]] := rfl
    rw [callT_eq Try.func4 rfl fok4 (by simp [Try.ntmps4])]
    rcases hlost with rfl | rfl
    · simp only [hz, List.append_nil, List.length_nil, Nat.add_zero] at k1 k2 k3 hr2
      simp (disch := first | omega | (simp only [List.length_append, List.length_map, List.length_set, List.length_cons, List.length_nil, List.length_take, List.length_drop]; omega)) only [va0, va1, va2, va3, va4, va5, va6, va7, va8, va9, va10, va11, va12, va13, va14, vb0, vb1, vb2, vb3, w_i8, w_u8, w_i16, w_u16, w_i32, w_u32, w_i64, w_u64, lt_T, lt_F, le_T, le_F, nlt_T, nlt_F, nle_T, nle_F, List.take_of_length_le, gB, gcW, gcR, posIn, renA, renL, Chunk.ren, Chunk.refs, evOpD, touchD, stepC, isFresh, nFresh, freshOf, mkR, hole, evL, evH, opd, get, putD, ofVal, cellOf, loadE, behind, lenE, idxAddrE, idxE, addPtr, intE, strE, unE, convE, AV.int, AV.bool, AV.str, ivs, take, frameOf, firstRegion, refsA, refsL, one, cellsA, floatOk, apartT, List.map, if_true, if_false, E_P, E_glob, reduceCtorEq, beq_self_eq_true, decide_true, decide_false, ↓reduceIte, Nat.reduceEqDiff, cond_true, cond_false, or_true, true_or, or_false, false_or, and_true, true_and, and_self, false_and, and_false, not_true, not_false_iff, Nat.reduceAdd, Nat.reduceSub, Nat.reduceMul, Nat.reduceLT, Nat.reduceLeDiff, Int.reduceToNat, Int.reduceLT, Int.reduceLE, Option.getD, Int.reduceMul, Int.reduceAdd, List.drop, List.take, Nat.reduceBEq, List.isEmpty, Int.reduceEq, Int.reduceNe, Int.reduceNeg, Int.reduceGT, Int.reduceGE, beq_true, beq_false, UInt8.reduceToNat, eqE, eq_self, foldE, maxE, minE, eq_T, eq_F, ndec, odec, adec, sdec, fillA, over, chop, List.replicate, leavesOk, leafOk, cellsEq, cellEq, E_ext, E_byref, en4, bs27, hlg, k1, k2, k3, he, hr1, hr2, ik8, Int.add_zero, Int.natCast_zero]
      exact ⟨_, rfl⟩
    · simp only [hz1, List.length_cons, List.length_nil] at k2 hr2
      simp (disch := first | omega | (simp only [List.length_append, List.length_map, List.length_set, List.length_cons, List.length_nil, List.length_take, List.length_drop]; omega)) only [va0, va1, va2, va3, va4, va5, va6, va7, va8, va9, va10, va11, va12, va13, va14, vb0, vb1, vb2, vb3, w_i8, w_u8, w_i16, w_u16, w_i32, w_u32, w_i64, w_u64, lt_T, lt_F, le_T, le_F, nlt_T, nlt_F, nle_T, nle_F, List.take_of_length_le, gB, gcW, gcR, posIn, renA, renL, Chunk.ren, Chunk.refs, evOpD, touchD, stepC, isFresh, nFresh, freshOf, mkR, hole, evL, evH, opd, get, putD, ofVal, cellOf, loadE, behind, lenE, idxAddrE, idxE, addPtr, intE, strE, unE, convE, AV.int, AV.bool, AV.str, ivs, take, frameOf, firstRegion, refsA, refsL, one, cellsA, floatOk, apartT, List.map, if_true, if_false, E_P, E_glob, reduceCtorEq, beq_self_eq_true, decide_true, decide_false, ↓reduceIte, Nat.reduceEqDiff, cond_true, cond_false, or_true, true_or, or_false, false_or, and_true, true_and, and_self, false_and, and_false, not_true, not_false_iff, Nat.reduceAdd, Nat.reduceSub, Nat.reduceMul, Nat.reduceLT, Nat.reduceLeDiff, Int.reduceToNat, Int.reduceLT, Int.reduceLE, Option.getD, Int.reduceMul, Int.reduceAdd, List.drop, List.take, Nat.reduceBEq, List.isEmpty, Int.reduceEq, Int.reduceNe, Int.reduceNeg, Int.reduceGT, Int.reduceGE, beq_true, beq_false, UInt8.reduceToNat, eqE, eq_self, foldE, maxE, minE, eq_T, eq_F, ndec, odec, adec, sdec, fillA, over, chop, List.replicate, leavesOk, leafOk, cellsEq, cellEq, E_ext, E_byref, en4, bs27, hlg, k1, k2, k3, he, hr1, hr2, ik11_e, ik8]
      exact ⟨_, rfl⟩
end Go.VI
