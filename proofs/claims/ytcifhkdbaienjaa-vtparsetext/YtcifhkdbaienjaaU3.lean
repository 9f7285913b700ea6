import Derived.Test.YtcifhkdbaienjaaU2
namespace Go.VI
open Go.Proofs
set_option maxRecDepth 100000
set_option linter.unusedSimpArgs false
set_option linter.unusedVariables false
set_option maxHeartbeats 4000000
theorem stepD_st {d : Dec} {i b : Int} : (stepD d i b).st = d.st ∨ (stepD d i b).st = i := by
  unfold stepD; simp only; split
  · exact .inl rfl
  · exact .inr rfl
theorem runD_st : ∀ (l : List UInt8) (i : Nat) (d : Dec), 0 ≤ d.st → d.st ≤ i → 0 ≤ (runD l i d).st ∧ (runD l i d).st ≤ i + l.length
  | [], i, d, h0, h1 => by simp only [runD, List.length_nil]; omega
  | b :: l, i, d, h0, h1 => by
    have hs := stepD_st (d := d) (i := i) (b := b.toNat)
    have ih := runD_st l (i + 1) (stepD d i b.toNat) (by omega) (by omega)
    simp only [runD, List.length_cons]
    omega
def sq0 : Sq := ⟨0, 0, 0, 0⟩
def decD (t : List UInt8) : Dec := runD t 0 ⟨sq0, [], 0⟩
def decOut (t : List UInt8) : List Int := (decD t).out
def decRest (t : List UInt8) : List UInt8 := if (decD t).s.mi = 0 then [] else t.drop (decD t).st.toNat
theorem l23_0 (t : List UInt8) (ht : (t.length : Int) < 100000) :
    rl E 0 23 (loopAt Try.f23 0) [(6, .i (.str t)), (7, .ref 0 0 0 0), (8, .ptr 1 0 0 0), (9, .i (.v (.int .i64 0))), (16, .i (.v (.int .i64 t.length))), (17, .i (.v (.int .i64 0)))] [.sl 1 0 [] false, .box [.i (.v (.int .i32 0)), .i (.v (.int .i64 0)), .i (.v (.int .u8 0)), .i (.v (.int .u8 0))]] =
      some (.exit 0, [(6, .i (.str t)), (7, .ref 0 0 0 (decD t).out.length), (8, .ptr 1 0 0 0), (9, .i (.v (.int .i64 (decD t).st))), (16, .i (.v (.int .i64 t.length))), (17, .i (.v (.int .i64 t.length))), (18, .i (.v (.bool false)))], [.sl 1 0 (rows32 (decD t).out) false, .box (sqC (decD t).s)]) :=
  l23 t (by omega) 0 (by omega) ⟨sq0, [], 0⟩ (.inl rfl) (Nat.zero_le _)
theorem c23 (p c : List UInt8) (ht : (p.length : Int) + c.length < 100000) : ∃ L, callT E 23 [.i (.str p), .i (.str c)] [] = some (.tup [.i (.sl 1 (rows32 (decOut (p ++ c))) false), .i (.str (decRest (p ++ c)))], L) := by
  have hlen : ((p ++ c).length : Int) < 100000 := by simp; omega
  have h := l23_0 (p ++ c) hlen
  obtain ⟨b1, b2⟩ := runD_st (p ++ c) 0 ⟨sq0, [], 0⟩ (Int.le_refl _) (Int.le_refl _)
  rw [show runD (p ++ c) 0 ⟨sq0, [], 0⟩ = decD (p ++ c) from rfl] at b1 b2
  unfold decOut decRest
  rw [callT_eq Try.func23 rfl fok23 (by simp [Try.ntmps23])]
  generalize hX : decD (p ++ c) = X at *
  simp only [List.length_append] at h b2 ⊢
  have hr := rows32_len X.out
  (try simp (disch := first | omega | (simp only [List.length_append, List.length_map, List.length_set, List.length_cons, List.length_nil, List.length_take, List.length_drop, rows32_len]; omega)) only [va0, va1, va2, va3, va4, va5, va6, va7, va8, va9, va10, va11, va12, va13, va14, vb0, vb1, vb2, vb3, w_i8, w_u8, w_i16, w_u16, w_i32, w_u32, w_i64, w_u64, lt_T, lt_F, le_T, le_F, nlt_T, nlt_F, nle_T, nle_F, List.take_of_length_le, gB, gcW, gcR, posIn, renA, renL, Chunk.ren, Chunk.refs, evOpD, touchD, stepC, isFresh, nFresh, freshOf, mkR, hole, evL, evH, opd, get, putD, ofVal, cellOf, loadE, behind, lenE, idxAddrE, idxE, addPtr, intE, strE, unE, convE, AV.int, AV.bool, AV.str, ivs, take, frameOf, firstRegion, refsA, refsL, one, cellsA, floatOk, apartT, List.map, if_true, if_false, E_P, E_glob, reduceCtorEq, beq_self_eq_true, decide_true, decide_false, ↓reduceIte, Nat.reduceEqDiff, cond_true, cond_false, or_true, true_or, or_false, false_or, and_true, true_and, and_self, false_and, and_false, not_true, not_false_iff, Nat.reduceAdd, Nat.reduceSub, Nat.reduceMul, Nat.reduceLT, Nat.reduceLeDiff, Int.reduceToNat, Int.reduceLT, Int.reduceLE, Option.getD, Int.reduceMul, Int.reduceAdd, List.drop, List.take, Nat.reduceBEq, List.isEmpty, Int.reduceEq, Int.reduceNe, Int.reduceNeg, Int.reduceGT, Int.reduceGE, beq_true, beq_false, UInt8.reduceToNat, eqE, eq_self, foldE, maxE, minE, eq_T, eq_F, ndec, odec, adec, sdec, fillA, over, chop, List.replicate, leavesOk, leafOk, cellsEq, cellEq, E_ext, E_byref, en23, bs45, h, sqC_drop, sqC_take, sqC_0, sqC_1, sqC_2, sqC_3, sqC_one, sqC_len, sqC_refs, sqC_ren, sqC_cn, show ∀ B fr H, execT E B 23 (Code.loop _) fr H = rlM E B 23 (loopAt Try.f23 0) [6, 7, 8, 9, 16, 17] [] (matF [(7, 1)] fr H).1 (matB [] (matF [(7, 1)] fr H).1 (matF [(7, 1)] fr H).2) from fun B fr H => rl_introM rfl mt23_6 mb23_6 zf23_6 hd23_6 fr H, List.take_of_length_le]) <;> repeat' ((first | rw [condK_ndec] | rw [condK_dec] | rw [condK_b] | rw [guK_ndec] | rw [guK_dec] | rw [guK_b] | rw [guT_ndec] | rw [guT_dec] | rw [guT_b] | rw [guD_dec] | rw [guD_b]) <;> split <;> (try subst_vars) <;> (try simp (disch := first | omega | (simp only [List.length_append, List.length_map, List.length_set, List.length_cons, List.length_nil, List.length_take, List.length_drop, rows32_len]; omega)) only [va0, va1, va2, va3, va4, va5, va6, va7, va8, va9, va10, va11, va12, va13, va14, vb0, vb1, vb2, vb3, w_i8, w_u8, w_i16, w_u16, w_i32, w_u32, w_i64, w_u64, lt_T, lt_F, le_T, le_F, nlt_T, nlt_F, nle_T, nle_F, List.take_of_length_le, gB, gcW, gcR, posIn, renA, renL, Chunk.ren, Chunk.refs, evOpD, touchD, stepC, isFresh, nFresh, freshOf, mkR, hole, evL, evH, opd, get, putD, ofVal, cellOf, loadE, behind, lenE, idxAddrE, idxE, addPtr, intE, strE, unE, convE, AV.int, AV.bool, AV.str, ivs, take, frameOf, firstRegion, refsA, refsL, one, cellsA, floatOk, apartT, List.map, if_true, if_false, E_P, E_glob, reduceCtorEq, beq_self_eq_true, decide_true, decide_false, ↓reduceIte, Nat.reduceEqDiff, cond_true, cond_false, or_true, true_or, or_false, false_or, and_true, true_and, and_self, false_and, and_false, not_true, not_false_iff, Nat.reduceAdd, Nat.reduceSub, Nat.reduceMul, Nat.reduceLT, Nat.reduceLeDiff, Int.reduceToNat, Int.reduceLT, Int.reduceLE, Option.getD, Int.reduceMul, Int.reduceAdd, List.drop, List.take, Nat.reduceBEq, List.isEmpty, Int.reduceEq, Int.reduceNe, Int.reduceNeg, Int.reduceGT, Int.reduceGE, beq_true, beq_false, UInt8.reduceToNat, eqE, eq_self, foldE, maxE, minE, eq_T, eq_F, ndec, odec, adec, sdec, fillA, over, chop, List.replicate, leavesOk, leafOk, cellsEq, cellEq, E_ext, E_byref, en23, bs45, h, sqC_drop, sqC_take, sqC_0, sqC_1, sqC_2, sqC_3, sqC_one, sqC_len, sqC_refs, sqC_ren, sqC_cn, show ∀ B fr H, execT E B 23 (Code.loop _) fr H = rlM E B 23 (loopAt Try.f23 0) [6, 7, 8, 9, 16, 17] [] (matF [(7, 1)] fr H).1 (matB [] (matF [(7, 1)] fr H).1 (matF [(7, 1)] fr H).2) from fun B fr H => rl_introM rfl mt23_6 mb23_6 zf23_6 hd23_6 fr H, List.take_of_length_le]))
  all_goals exact ⟨_, rfl⟩
theorem ik23 (p c : List UInt8) (ht : (p.length : Int) + c.length < 100000) (H : Hp) : isoK E (callT E) 23 [.i (.str p), .i (.str c)] H = some (.tup [.i (.sl 1 (rows32 (decOut (p ++ c))) false), .i (.str (decRest (p ++ c)))], H) := isoK_val rfl rfl rfl (c23 p c ht)
end Go.VI
