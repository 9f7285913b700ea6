import Derived.Test.YtcifhkdbaienjaaU6
namespace Go.VI
open Go.Proofs
set_option maxRecDepth 100000
set_option linter.unusedSimpArgs false
set_option linter.unusedVariables false
set_option maxHeartbeats 4000000
def KB (t : List UInt8) (K : List Int) (st : Int) (i : Nat) : Prop := K ≠ [] → st + K.length = i ∧ 0 ≤ st ∧ K = ((t.take i).drop st.toNat).map fun b => (b.toNat : Int)
theorem ik41_1 (a : Int) (g : Nat) (ex : Bool) (x y : Chunk) (R : Hp) : isoK E (callT E) 41 [.ref 2 g 0 1] (x :: y :: .sl 1 g [[.v (.int .u8 a)]] ex :: R) = some (.tup [.i (.v (.int .u8 (lowB a 1))), .i (.v (.int .u8 (highB a 1))), .i (.v (.int .i64 (sizeB a)))], x :: y :: .sl 1 g [[.v (.int .u8 a)]] ex :: R) := ik41 a [] (by simp) 2 g ex _ rfl
theorem ik41_2 (a : Int) (l : List Int) (hl : l.length < 100) (g : Nat) (ex : Bool) (x : Chunk) (R : Hp) : isoK E (callT E) 41 [.ref 1 g 0 (l.length + 1)] (x :: .sl 1 g (rows8 (a :: l)) ex :: R) = some (.tup [.i (.v (.int .u8 (lowB a (l.length + 1)))), .i (.v (.int .u8 (highB a (l.length + 1)))), .i (.v (.int .i64 (sizeB a)))], x :: .sl 1 g (rows8 (a :: l)) ex :: R) := ik41 a l hl 1 g ex _ rfl
theorem l31 (t : List UInt8) (ht : t.length < 100000) (k : Nat) (hk : k ≤ t.length) (K : List Int) (d : Dec) (hK : RelK K d.s) (hl : d.out.length ≤ 2 * k + (if K = [] then 1 else 0)) (hB : KB t K d.st k) :
    ∃ K', rl E 0 31 (loopAt Try.f31 0) [(6, .i (.str t)), (7, .ref 0 0 0 d.out.length), (8, .ref 1 0 0 K.length), (9, .i (.v (.int .i64 k)))] [.sl 1 0 (rows32 d.out) false, .sl 1 0 (rows8 K) false] = some (.exit 0, [(6, .i (.str t)), (7, .ref 0 0 0 (runD (t.drop k) k d).out.length), (8, .ref 1 0 0 K'.length), (9, .i (.v (.int .i64 t.length))), (25, .i (.v (.bool false)))], [.sl 1 0 (rows32 (runD (t.drop k) k d).out) false, .sl 1 0 (rows8 K') false]) ∧
      RelK K' (runD (t.drop k) k d).s ∧ KB t K' (runD (t.drop k) k d).st t.length := by
  rw [rl_step (fn := Try.f31) (k := 0) rfl]
  by_cases hlt : k < t.length
  · have hb := byte_at hlt
    have b1 := t[k].toNat_lt
    have hr := begin_at (b := t[k].toNat) ⟨by omega, by omega⟩
    rw [List.drop_eq_getElem_cons hlt, runD]
    cases hK with
    | none s h =>
      simp only [if_true] at hl
      by_cases hA : (t[k].toNat : Int) < 128
      · have hst : stepD d k t[k].toNat = ⟨beginS t[k].toNat, d.out ++ [(t[k].toNat : Int)], k⟩ := by
          simp only [stepD, h, Int.lt_irrefl, false_and, if_false, hA, if_true]
        have hm0 : (beginS t[k].toNat).mi = 0 := by
          have := hr.2
          split at this
          · omega
          · exact this
        rw [hst]
        obtain ⟨K', i1, i2, i3⟩ := l31 t ht (k + 1) hlt [] ⟨beginS t[k].toNat, d.out ++ [(t[k].toNat : Int)], k⟩ (.none _ hm0) (by simp; omega) (fun h => absurd rfl h)
        refine ⟨K', Eq.trans ?_ i1, i2, i3⟩
        generalize t[k] = b at *
        simp (disch := first | omega | (simp only [List.length_append, List.length_map, List.length_set, List.length_cons, List.length_nil, List.length_take, List.length_drop, rows8_len, rows32_len]; omega)) only [va0, va1, va2, va3, va4, va5, va6, va7, va8, va9, va10, va11, va12, va13, va14, vb0, vb1, vb2, vb3, w_i8, w_u8, w_i16, w_u16, w_i32, w_u32, w_i64, w_u64, lt_T, lt_F, le_T, le_F, nlt_T, nlt_F, nle_T, nle_F, List.take_of_length_le, gB, gcW, gcR, posIn, renA, renL, Chunk.ren, Chunk.refs, evOpD, touchD, stepC, isFresh, nFresh, freshOf, mkR, hole, evL, evH, opd, get, putD, ofVal, cellOf, loadE, behind, lenE, idxAddrE, idxE, addPtr, intE, strE, unE, convE, AV.int, AV.bool, AV.str, ivs, take, frameOf, firstRegion, refsA, refsL, one, cellsA, floatOk, apartT, List.map, if_true, if_false, E_P, E_glob, reduceCtorEq, beq_self_eq_true, decide_true, decide_false, ↓reduceIte, Nat.reduceEqDiff, cond_true, cond_false, or_true, true_or, or_false, false_or, and_true, true_and, and_self, false_and, and_false, not_true, not_false_iff, Nat.reduceAdd, Nat.reduceSub, Nat.reduceMul, Nat.reduceLT, Nat.reduceLeDiff, Int.reduceToNat, Int.reduceLT, Int.reduceLE, Option.getD, Int.reduceMul, Int.reduceAdd, List.drop, List.take, Nat.reduceBEq, List.isEmpty, Int.reduceEq, Int.reduceNe, Int.reduceNeg, Int.reduceGT, Int.reduceGE, beq_true, beq_false, UInt8.reduceToNat, eqE, eq_self, foldE, maxE, minE, eq_T, eq_F, ndec, odec, adec, sdec, fillA, over, chop, List.replicate, leavesOk, leafOk, cellsEq, cellEq, E_ext, E_byref, en31, bs36, bs45, hb, ik41_1, rows8_len, rows8_snoc, rows32_len, rows32_snoc, show ∀ B fr H, execT E B 31 (Code.loop _) fr H = rlM E B 31 (loopAt Try.f31 0) [6, 7, 8, 9] [] (matF [(7, 1), (8, 1)] fr H).1 (matB [] (matF [(7, 1), (8, 1)] fr H).1 (matF [(7, 1), (8, 1)] fr H).2) from fun B fr H => rl_introM rfl mt31_5 mb31_5 zf31_5 hd31_5 fr H]
      · by_cases hz : 0 < sizeB t[k].toNat
        · rw [if_pos hz] at hr
          have hst : stepD d k t[k].toNat = ⟨beginS t[k].toNat, d.out, k⟩ := by
            simp only [stepD, h, Int.lt_irrefl, false_and, if_false, hA]
            rw [if_neg (by omega)]
          have hrel := begin_rel (b := t[k].toNat) ⟨by omega, by omega⟩ hz
          rw [hst]
          have hkb : KB t [(t[k].toNat : Int)] (k : Int) (k + 1) := fun _ => ⟨by simp, by omega, by
            rw [List.take_succ_eq_append_getElem hlt, Int.toNat_natCast, List.drop_append_of_le_length (by simp; omega)]
            simp⟩
          obtain ⟨K', i1, i2, i3⟩ := l31 t ht (k + 1) hlt [(t[k].toNat : Int)] ⟨beginS t[k].toNat, d.out, k⟩ hrel (by simp; omega) hkb
          refine ⟨K', Eq.trans ?_ i1, i2, i3⟩
          generalize t[k] = b at *
          simp (disch := first | omega | (simp only [List.length_append, List.length_map, List.length_set, List.length_cons, List.length_nil, List.length_take, List.length_drop, rows8_len, rows32_len]; omega)) only [va0, va1, va2, va3, va4, va5, va6, va7, va8, va9, va10, va11, va12, va13, va14, vb0, vb1, vb2, vb3, w_i8, w_u8, w_i16, w_u16, w_i32, w_u32, w_i64, w_u64, lt_T, lt_F, le_T, le_F, nlt_T, nlt_F, nle_T, nle_F, List.take_of_length_le, gB, gcW, gcR, posIn, renA, renL, Chunk.ren, Chunk.refs, evOpD, touchD, stepC, isFresh, nFresh, freshOf, mkR, hole, evL, evH, opd, get, putD, ofVal, cellOf, loadE, behind, lenE, idxAddrE, idxE, addPtr, intE, strE, unE, convE, AV.int, AV.bool, AV.str, ivs, take, frameOf, firstRegion, refsA, refsL, one, cellsA, floatOk, apartT, List.map, if_true, if_false, E_P, E_glob, reduceCtorEq, beq_self_eq_true, decide_true, decide_false, ↓reduceIte, Nat.reduceEqDiff, cond_true, cond_false, or_true, true_or, or_false, false_or, and_true, true_and, and_self, false_and, and_false, not_true, not_false_iff, Nat.reduceAdd, Nat.reduceSub, Nat.reduceMul, Nat.reduceLT, Nat.reduceLeDiff, Int.reduceToNat, Int.reduceLT, Int.reduceLE, Option.getD, Int.reduceMul, Int.reduceAdd, List.drop, List.take, Nat.reduceBEq, List.isEmpty, Int.reduceEq, Int.reduceNe, Int.reduceNeg, Int.reduceGT, Int.reduceGE, beq_true, beq_false, UInt8.reduceToNat, eqE, eq_self, foldE, maxE, minE, eq_T, eq_F, ndec, odec, adec, sdec, fillA, over, chop, List.replicate, leavesOk, leafOk, cellsEq, cellEq, E_ext, E_byref, en31, bs36, bs45, hb, ik41_1, rows8_len, rows8_snoc, rows32_len, rows32_snoc, show ∀ B fr H, execT E B 31 (Code.loop _) fr H = rlM E B 31 (loopAt Try.f31 0) [6, 7, 8, 9] [] (matF [(7, 1), (8, 1)] fr H).1 (matB [] (matF [(7, 1), (8, 1)] fr H).1 (matF [(7, 1), (8, 1)] fr H).2) from fun B fr H => rl_introM rfl mt31_5 mb31_5 zf31_5 hd31_5 fr H]
          all_goals try exact rfl
        · rw [if_neg hz] at hr
          have hst : stepD d k t[k].toNat = ⟨beginS t[k].toNat, d.out ++ [65533], k⟩ := by
            simp only [stepD, h, Int.lt_irrefl, false_and, if_false, hA, hr.2, if_true]
          rw [hst]
          obtain ⟨K', i1, i2, i3⟩ := l31 t ht (k + 1) hlt [] ⟨beginS t[k].toNat, d.out ++ [65533], k⟩ (.none _ hr.2) (by simp; omega) (fun h => absurd rfl h)
          refine ⟨K', Eq.trans ?_ i1, i2, i3⟩
          generalize t[k] = b at *
          simp (disch := first | omega | (simp only [List.length_append, List.length_map, List.length_set, List.length_cons, List.length_nil, List.length_take, List.length_drop, rows8_len, rows32_len]; omega)) only [va0, va1, va2, va3, va4, va5, va6, va7, va8, va9, va10, va11, va12, va13, va14, vb0, vb1, vb2, vb3, w_i8, w_u8, w_i16, w_u16, w_i32, w_u32, w_i64, w_u64, lt_T, lt_F, le_T, le_F, nlt_T, nlt_F, nle_T, nle_F, List.take_of_length_le, gB, gcW, gcR, posIn, renA, renL, Chunk.ren, Chunk.refs, evOpD, touchD, stepC, isFresh, nFresh, freshOf, mkR, hole, evL, evH, opd, get, putD, ofVal, cellOf, loadE, behind, lenE, idxAddrE, idxE, addPtr, intE, strE, unE, convE, AV.int, AV.bool, AV.str, ivs, take, frameOf, firstRegion, refsA, refsL, one, cellsA, floatOk, apartT, List.map, if_true, if_false, E_P, E_glob, reduceCtorEq, beq_self_eq_true, decide_true, decide_false, ↓reduceIte, Nat.reduceEqDiff, cond_true, cond_false, or_true, true_or, or_false, false_or, and_true, true_and, and_self, false_and, and_false, not_true, not_false_iff, Nat.reduceAdd, Nat.reduceSub, Nat.reduceMul, Nat.reduceLT, Nat.reduceLeDiff, Int.reduceToNat, Int.reduceLT, Int.reduceLE, Option.getD, Int.reduceMul, Int.reduceAdd, List.drop, List.take, Nat.reduceBEq, List.isEmpty, Int.reduceEq, Int.reduceNe, Int.reduceNeg, Int.reduceGT, Int.reduceGE, beq_true, beq_false, UInt8.reduceToNat, eqE, eq_self, foldE, maxE, minE, eq_T, eq_F, ndec, odec, adec, sdec, fillA, over, chop, List.replicate, leavesOk, leafOk, cellsEq, cellEq, E_ext, E_byref, en31, bs36, bs45, hb, ik41_1, rows8_len, rows8_snoc, rows32_len, rows32_snoc, show ∀ B fr H, execT E B 31 (Code.loop _) fr H = rlM E B 31 (loopAt Try.f31 0) [6, 7, 8, 9] [] (matF [(7, 1), (8, 1)] fr H).1 (matB [] (matF [(7, 1), (8, 1)] fr H).1 (matF [(7, 1), (8, 1)] fr H).2) from fun B fr H => rl_introM rfl mt31_5 mb31_5 zf31_5 hd31_5 fr H]
    | some a l s h1 h2 h3 hm hv hlo hhi =>
      rw [if_neg (by simp)] at hl
      obtain ⟨q1, q2⟩ := begin_at h1
      rw [if_pos (by omega)] at q2
      obtain ⟨q3, q4, q5, q6, q7, q8, q9, q10⟩ := q2
      obtain ⟨lh1, lh2⟩ := lowhigh a (l.length + 1)
      obtain ⟨kb1, kb2, kb3⟩ := hB (by simp)
      have hik := ik41_2 a l (by omega)
      have hmi : 0 < d.s.mi := by omega
      by_cases hin : lowB a (l.length + 1) ≤ t[k].toNat ∧ (t[k].toNat : Int) ≤ highB a (l.length + 1)
      · have h64 : (t[k].toNat : Int) % 64 = t[k].toNat - 128 := by omega
        have hvv : d.s.v * 64 + (t[k].toNat : Int) % 64 = valV (l ++ [(t[k].toNat : Int)]) (headV a (sizeB a).toNat) := by
          rw [h64, hv]; simp only [valV, List.foldl_append, List.foldl_cons, List.foldl_nil]; omega
        have h3' : ∀ b ∈ l ++ [(t[k].toNat : Int)], 128 ≤ b ∧ b ≤ 191 := by
          intro b hb; rcases List.mem_append.1 hb with hb | hb
          · exact h3 b hb
          · rw [List.mem_singleton.1 hb]; omega
        by_cases hfull : (l.length : Int) + 2 = sizeB a
        · have hst : stepD d k t[k].toNat = ⟨⟨valV (l ++ [(t[k].toNat : Int)]) (headV a (l.length + 1 + 1)), 0, 128, 191⟩, d.out ++ [valV (l ++ [(t[k].toNat : Int)]) (headV a (l.length + 1 + 1))], d.st⟩ := by
            unfold stepD
            rw [if_pos ⟨hmi, by omega, by omega⟩, hvv, if_pos (by omega), show (sizeB a).toNat = l.length + 1 + 1 by omega, show d.s.mi - 1 = 0 by omega]
          rw [hst]
          rw [show (sizeB a).toNat = l.length + 1 + 1 by omega] at q9 q10
          have hik2 := fun (g : Nat) (ex : Bool) (x : Chunk) (R : Hp) => ik42 a (l ++ [(t[k].toNat : Int)]) h1 h3' (by simp; omega) (by simpa using q9) (by simpa using q10) (by simp) 1 g ex (x :: .sl 1 g (rows8 (a :: (l ++ [(t[k].toNat : Int)]))) ex :: R) rfl
          simp only [List.length_append, List.length_cons, List.length_nil, Nat.zero_add] at hik2
          obtain ⟨K', i1, i2, i3⟩ := l31 t ht (k + 1) hlt [] ⟨⟨valV (l ++ [(t[k].toNat : Int)]) (headV a (l.length + 1 + 1)), 0, 128, 191⟩, d.out ++ [valV (l ++ [(t[k].toNat : Int)]) (headV a (l.length + 1 + 1))], d.st⟩ (.none _ rfl) (by simp; omega) (fun h => absurd rfl h)
          refine ⟨K', Eq.trans ?_ i1, i2, i3⟩
          generalize t[k] = b at *
          simp (disch := first | omega | (simp only [List.length_append, List.length_map, List.length_set, List.length_cons, List.length_nil, List.length_take, List.length_drop, rows8_len, rows32_len]; omega)) only [va0, va1, va2, va3, va4, va5, va6, va7, va8, va9, va10, va11, va12, va13, va14, vb0, vb1, vb2, vb3, w_i8, w_u8, w_i16, w_u16, w_i32, w_u32, w_i64, w_u64, lt_T, lt_F, le_T, le_F, nlt_T, nlt_F, nle_T, nle_F, List.take_of_length_le, gB, gcW, gcR, posIn, renA, renL, Chunk.ren, Chunk.refs, evOpD, touchD, stepC, isFresh, nFresh, freshOf, mkR, hole, evL, evH, opd, get, putD, ofVal, cellOf, loadE, behind, lenE, idxAddrE, idxE, addPtr, intE, strE, unE, convE, AV.int, AV.bool, AV.str, ivs, take, frameOf, firstRegion, refsA, refsL, one, cellsA, floatOk, apartT, List.map, if_true, if_false, E_P, E_glob, reduceCtorEq, beq_self_eq_true, decide_true, decide_false, ↓reduceIte, Nat.reduceEqDiff, cond_true, cond_false, or_true, true_or, or_false, false_or, and_true, true_and, and_self, false_and, and_false, not_true, not_false_iff, Nat.reduceAdd, Nat.reduceSub, Nat.reduceMul, Nat.reduceLT, Nat.reduceLeDiff, Int.reduceToNat, Int.reduceLT, Int.reduceLE, Option.getD, Int.reduceMul, Int.reduceAdd, List.drop, List.take, Nat.reduceBEq, List.isEmpty, Int.reduceEq, Int.reduceNe, Int.reduceNeg, Int.reduceGT, Int.reduceGE, beq_true, beq_false, UInt8.reduceToNat, eqE, eq_self, foldE, maxE, minE, eq_T, eq_F, ndec, odec, adec, sdec, fillA, over, chop, List.replicate, leavesOk, leafOk, cellsEq, cellEq, E_ext, E_byref, en31, bs36, bs45, hb, hik, hik2, List.cons_append, List.length_append, List.length_cons, rows8_len, rows8_snoc, rows32_len, rows32_snoc, show ∀ B fr H, execT E B 31 (Code.loop _) fr H = rlM E B 31 (loopAt Try.f31 0) [6, 7, 8, 9] [] (matF [(7, 1), (8, 1)] fr H).1 (matB [] (matF [(7, 1), (8, 1)] fr H).1 (matF [(7, 1), (8, 1)] fr H).2) from fun B fr H => rl_introM rfl mt31_5 mb31_5 zf31_5 hd31_5 fr H]
          all_goals try exact rfl
        · have hst : stepD d k t[k].toNat = ⟨⟨valV (l ++ [(t[k].toNat : Int)]) (headV a (sizeB a).toNat), d.s.mi - 1, 128, 191⟩, d.out, d.st⟩ := by
            unfold stepD
            rw [if_pos ⟨hmi, by omega, by omega⟩, hvv, if_neg (by omega)]
          rw [hst]
          have hkb : KB t (a :: (l ++ [(t[k].toNat : Int)])) d.st (k + 1) := fun _ => ⟨by simp at kb1 ⊢; omega, kb2, by
            simp at kb1
            rw [List.take_succ_eq_append_getElem hlt, List.drop_append_of_le_length (by simp; omega), List.map_append, ← kb3]
            simp⟩
          obtain ⟨K', i1, i2, i3⟩ := l31 t ht (k + 1) hlt (a :: (l ++ [(t[k].toNat : Int)])) ⟨⟨valV (l ++ [(t[k].toNat : Int)]) (headV a (sizeB a).toNat), d.s.mi - 1, 128, 191⟩, d.out, d.st⟩
            (.some a _ _ h1 (by simp; omega) h3' (by simp; omega) rfl (by simp [lowB]) (by simp [highB])) (by simp; omega) hkb
          refine ⟨K', Eq.trans ?_ i1, i2, i3⟩
          generalize t[k] = b at *
          simp (disch := first | omega | (simp only [List.length_append, List.length_map, List.length_set, List.length_cons, List.length_nil, List.length_take, List.length_drop, rows8_len, rows32_len]; omega)) only [va0, va1, va2, va3, va4, va5, va6, va7, va8, va9, va10, va11, va12, va13, va14, vb0, vb1, vb2, vb3, w_i8, w_u8, w_i16, w_u16, w_i32, w_u32, w_i64, w_u64, lt_T, lt_F, le_T, le_F, nlt_T, nlt_F, nle_T, nle_F, List.take_of_length_le, gB, gcW, gcR, posIn, renA, renL, Chunk.ren, Chunk.refs, evOpD, touchD, stepC, isFresh, nFresh, freshOf, mkR, hole, evL, evH, opd, get, putD, ofVal, cellOf, loadE, behind, lenE, idxAddrE, idxE, addPtr, intE, strE, unE, convE, AV.int, AV.bool, AV.str, ivs, take, frameOf, firstRegion, refsA, refsL, one, cellsA, floatOk, apartT, List.map, if_true, if_false, E_P, E_glob, reduceCtorEq, beq_self_eq_true, decide_true, decide_false, ↓reduceIte, Nat.reduceEqDiff, cond_true, cond_false, or_true, true_or, or_false, false_or, and_true, true_and, and_self, false_and, and_false, not_true, not_false_iff, Nat.reduceAdd, Nat.reduceSub, Nat.reduceMul, Nat.reduceLT, Nat.reduceLeDiff, Int.reduceToNat, Int.reduceLT, Int.reduceLE, Option.getD, Int.reduceMul, Int.reduceAdd, List.drop, List.take, Nat.reduceBEq, List.isEmpty, Int.reduceEq, Int.reduceNe, Int.reduceNeg, Int.reduceGT, Int.reduceGE, beq_true, beq_false, UInt8.reduceToNat, eqE, eq_self, foldE, maxE, minE, eq_T, eq_F, ndec, odec, adec, sdec, fillA, over, chop, List.replicate, leavesOk, leafOk, cellsEq, cellEq, E_ext, E_byref, en31, bs36, bs45, hb, hik, List.cons_append, List.length_append, List.length_cons, rows8_len, rows8_snoc, rows32_len, rows32_snoc, show ∀ B fr H, execT E B 31 (Code.loop _) fr H = rlM E B 31 (loopAt Try.f31 0) [6, 7, 8, 9] [] (matF [(7, 1), (8, 1)] fr H).1 (matB [] (matF [(7, 1), (8, 1)] fr H).1 (matF [(7, 1), (8, 1)] fr H).2) from fun B fr H => rl_introM rfl mt31_5 mb31_5 zf31_5 hd31_5 fr H]
      · have hst : stepD d k t[k].toNat = stepD ⟨⟨0, 0, 0, 0⟩, d.out ++ [65533], d.st⟩ k t[k].toNat := by
          have hA : ¬ (0 < d.s.mi ∧ d.s.lo ≤ t[k].toNat ∧ (t[k].toNat : Int) ≤ d.s.hi) := by rw [hlo, hhi]; exact fun h => hin h.2
          rw [stepD, if_neg hA]
          simp only [stepD, hmi, if_true, Int.lt_irrefl, false_and, if_false]
        rw [hst]
        obtain ⟨K', i1, i2, i3⟩ := l31 t ht k hk [] ⟨⟨0, 0, 0, 0⟩, d.out ++ [65533], d.st⟩ (.none _ rfl) (by simp; omega) (fun h => absurd rfl h)
        rw [List.drop_eq_getElem_cons hlt, runD] at i1 i2 i3
        refine ⟨K', Eq.trans ?_ i1, i2, i3⟩
        generalize t[k] = b at *
        (try simp (disch := first | omega | (simp only [List.length_append, List.length_map, List.length_set, List.length_cons, List.length_nil, List.length_take, List.length_drop, rows8_len, rows32_len]; omega)) only [va0, va1, va2, va3, va4, va5, va6, va7, va8, va9, va10, va11, va12, va13, va14, vb0, vb1, vb2, vb3, w_i8, w_u8, w_i16, w_u16, w_i32, w_u32, w_i64, w_u64, lt_T, lt_F, le_T, le_F, nlt_T, nlt_F, nle_T, nle_F, List.take_of_length_le, gB, gcW, gcR, posIn, renA, renL, Chunk.ren, Chunk.refs, evOpD, touchD, stepC, isFresh, nFresh, freshOf, mkR, hole, evL, evH, opd, get, putD, ofVal, cellOf, loadE, behind, lenE, idxAddrE, idxE, addPtr, intE, strE, unE, convE, AV.int, AV.bool, AV.str, ivs, take, frameOf, firstRegion, refsA, refsL, one, cellsA, floatOk, apartT, List.map, if_true, if_false, E_P, E_glob, reduceCtorEq, beq_self_eq_true, decide_true, decide_false, ↓reduceIte, Nat.reduceEqDiff, cond_true, cond_false, or_true, true_or, or_false, false_or, and_true, true_and, and_self, false_and, and_false, not_true, not_false_iff, Nat.reduceAdd, Nat.reduceSub, Nat.reduceMul, Nat.reduceLT, Nat.reduceLeDiff, Int.reduceToNat, Int.reduceLT, Int.reduceLE, Option.getD, Int.reduceMul, Int.reduceAdd, List.drop, List.take, Nat.reduceBEq, List.isEmpty, Int.reduceEq, Int.reduceNe, Int.reduceNeg, Int.reduceGT, Int.reduceGE, beq_true, beq_false, UInt8.reduceToNat, eqE, eq_self, foldE, maxE, minE, eq_T, eq_F, ndec, odec, adec, sdec, fillA, over, chop, List.replicate, leavesOk, leafOk, cellsEq, cellEq, E_ext, E_byref, en31, bs36, bs45, hb, hik, List.length_cons, rows8_len, rows8_snoc, rows32_len, rows32_snoc, show ∀ B fr H, execT E B 31 (Code.loop _) fr H = rlM E B 31 (loopAt Try.f31 0) [6, 7, 8, 9] [] (matF [(7, 1), (8, 1)] fr H).1 (matB [] (matF [(7, 1), (8, 1)] fr H).1 (matF [(7, 1), (8, 1)] fr H).2) from fun B fr H => rl_introM rfl mt31_5 mb31_5 zf31_5 hd31_5 fr H]) <;> repeat' ((first | rw [condK_ndec] | rw [condK_dec] | rw [condK_b] | rw [guK_ndec] | rw [guK_dec] | rw [guK_b] | rw [guT_ndec] | rw [guT_dec] | rw [guT_b] | rw [guD_dec] | rw [guD_b]) <;> split <;> (try subst_vars) <;> (try simp (disch := first | omega | (simp only [List.length_append, List.length_map, List.length_set, List.length_cons, List.length_nil, List.length_take, List.length_drop, rows8_len, rows32_len]; omega)) only [va0, va1, va2, va3, va4, va5, va6, va7, va8, va9, va10, va11, va12, va13, va14, vb0, vb1, vb2, vb3, w_i8, w_u8, w_i16, w_u16, w_i32, w_u32, w_i64, w_u64, lt_T, lt_F, le_T, le_F, nlt_T, nlt_F, nle_T, nle_F, List.take_of_length_le, gB, gcW, gcR, posIn, renA, renL, Chunk.ren, Chunk.refs, evOpD, touchD, stepC, isFresh, nFresh, freshOf, mkR, hole, evL, evH, opd, get, putD, ofVal, cellOf, loadE, behind, lenE, idxAddrE, idxE, addPtr, intE, strE, unE, convE, AV.int, AV.bool, AV.str, ivs, take, frameOf, firstRegion, refsA, refsL, one, cellsA, floatOk, apartT, List.map, if_true, if_false, E_P, E_glob, reduceCtorEq, beq_self_eq_true, decide_true, decide_false, ↓reduceIte, Nat.reduceEqDiff, cond_true, cond_false, or_true, true_or, or_false, false_or, and_true, true_and, and_self, false_and, and_false, not_true, not_false_iff, Nat.reduceAdd, Nat.reduceSub, Nat.reduceMul, Nat.reduceLT, Nat.reduceLeDiff, Int.reduceToNat, Int.reduceLT, Int.reduceLE, Option.getD, Int.reduceMul, Int.reduceAdd, List.drop, List.take, Nat.reduceBEq, List.isEmpty, Int.reduceEq, Int.reduceNe, Int.reduceNeg, Int.reduceGT, Int.reduceGE, beq_true, beq_false, UInt8.reduceToNat, eqE, eq_self, foldE, maxE, minE, eq_T, eq_F, ndec, odec, adec, sdec, fillA, over, chop, List.replicate, leavesOk, leafOk, cellsEq, cellEq, E_ext, E_byref, en31, bs36, bs45, hb, hik, List.length_cons, rows8_len, rows8_snoc, rows32_len, rows32_snoc, show ∀ B fr H, execT E B 31 (Code.loop _) fr H = rlM E B 31 (loopAt Try.f31 0) [6, 7, 8, 9] [] (matF [(7, 1), (8, 1)] fr H).1 (matB [] (matF [(7, 1), (8, 1)] fr H).1 (matF [(7, 1), (8, 1)] fr H).2) from fun B fr H => rl_introM rfl mt31_5 mb31_5 zf31_5 hd31_5 fr H]))
        all_goals exact rfl
  · obtain rfl : k = t.length := by omega
    rw [List.drop_length, runD]
    refine ⟨K, ?_, hK, hB⟩
    simp (disch := first | omega | (simp only [List.length_append, List.length_map, List.length_set, List.length_cons, List.length_nil, List.length_take, List.length_drop]; omega)) only [va0, va1, va2, va3, va4, va5, va6, va7, va8, va9, va10, va11, va12, va13, va14, vb0, vb1, vb2, vb3, w_i8, w_u8, w_i16, w_u16, w_i32, w_u32, w_i64, w_u64, lt_T, lt_F, le_T, le_F, nlt_T, nlt_F, nle_T, nle_F, List.take_of_length_le, gB, gcW, gcR, posIn, renA, renL, Chunk.ren, Chunk.refs, evOpD, touchD, stepC, isFresh, nFresh, freshOf, mkR, hole, evL, evH, opd, get, putD, ofVal, cellOf, loadE, behind, lenE, idxAddrE, idxE, addPtr, intE, strE, unE, convE, AV.int, AV.bool, AV.str, ivs, take, frameOf, firstRegion, refsA, refsL, one, cellsA, floatOk, apartT, List.map, if_true, if_false, E_P, E_glob, reduceCtorEq, beq_self_eq_true, decide_true, decide_false, ↓reduceIte, Nat.reduceEqDiff, cond_true, cond_false, or_true, true_or, or_false, false_or, and_true, true_and, and_self, false_and, and_false, not_true, not_false_iff, Nat.reduceAdd, Nat.reduceSub, Nat.reduceMul, Nat.reduceLT, Nat.reduceLeDiff, Int.reduceToNat, Int.reduceLT, Int.reduceLE, Option.getD, Int.reduceMul, Int.reduceAdd, List.drop, List.take, Nat.reduceBEq, List.isEmpty, Int.reduceEq, Int.reduceNe, Int.reduceNeg, Int.reduceGT, Int.reduceGE, beq_true, beq_false, UInt8.reduceToNat, eqE, eq_self, foldE, maxE, minE, eq_T, eq_F, ndec, odec, adec, sdec, fillA, over, chop, List.replicate, leavesOk, leafOk, cellsEq, cellEq, E_ext, E_byref, en31, bs36, bs45]
termination_by 2 * (t.length - k) + (if K = [] then 0 else 1)
end Go.VI
