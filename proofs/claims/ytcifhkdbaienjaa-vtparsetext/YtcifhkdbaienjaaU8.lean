import Derived.Test.YtcifhkdbaienjaaU7
namespace Go.VI
open Go.Proofs
set_option maxRecDepth 100000
set_option linter.unusedSimpArgs false
set_option linter.unusedVariables false
set_option maxHeartbeats 4000000
theorem numsOf_rows8 : ∀ K : List Int, numsOf (rows8 K) = some K
  | [] => rfl
  | a :: l => by
    have ih := numsOf_rows8 l
    simp only [rows8, List.map_cons] at ih ⊢
    simp [numsOf, ih]
theorem rest_rel {t : List UInt8} {K : List Int} {s : Sq} {st : Int} (hK : RelK K s) (hB : KB t K st t.length) : K.map (fun n => UInt8.ofNat n.toNat) = if s.mi = 0 then [] else t.drop st.toNat := by
  cases hK with
  | none s h => rw [if_pos h]; rfl
  | some a l s h1 h2 h3 hm hv hlo hhi =>
    rw [if_neg (by omega)]
    obtain ⟨_, _, h⟩ := hB (by simp)
    rw [h, List.take_length, List.map_map]
    conv => rhs; rw [← List.map_id (t.drop st.toNat)]
    apply List.map_congr_left
    intro b _
    simp
theorem l31_0 (t : List UInt8) (ht : (t.length : Int) < 100000) :
    ∃ K', rl E 0 31 (loopAt Try.f31 0) [(6, .i (.str t)), (7, .ref 0 0 0 0), (8, .ref 1 0 0 0), (9, .i (.v (.int .i64 0)))] [.sl 1 0 [] false, .sl 1 0 [] false] =
      some (.exit 0, [(6, .i (.str t)), (7, .ref 0 0 0 (decOut t).length), (8, .ref 1 0 0 K'.length), (9, .i (.v (.int .i64 t.length))), (25, .i (.v (.bool false)))], [.sl 1 0 (rows32 (decOut t)) false, .sl 1 0 (rows8 K') false]) ∧
      K'.map (fun n => UInt8.ofNat n.toNat) = decRest t := by
  obtain ⟨K', h1, h2, h3⟩ := l31 t (by omega) 0 (by omega) [] ⟨sq0, [], 0⟩ (.none _ rfl) (by simp) (fun h => absurd rfl h)
  exact ⟨K', h1, rest_rel h2 h3⟩
theorem c31 (p c : List UInt8) (ht : (p.length : Int) + c.length < 100000) : ∃ L, callT E 31 [.i (.str p), .i (.str c)] [] = some (.tup [.i (.sl 1 (rows32 (decOut (p ++ c))) false), .i (.str (decRest (p ++ c)))], L) := by
  have hlen : ((p ++ c).length : Int) < 100000 := by simp; omega
  obtain ⟨K', h, hr⟩ := l31_0 (p ++ c) hlen
  rw [← hr]
  have hnum := numsOf_rows8 K'
  have hl8 := rows8_len K'
  have hl32 := rows32_len (decOut (p ++ c))
  rw [callT_eq Try.func31 rfl fok31 (by simp [Try.ntmps31])]
  simp only [List.length_append] at h
  (try simp (disch := first | omega | (simp only [List.length_append, List.length_map, List.length_set, List.length_cons, List.length_nil, List.length_take, List.length_drop, rows8_len, rows32_len]; omega)) only [va0, va1, va2, va3, va4, va5, va6, va7, va8, va9, va10, va11, va12, va13, va14, vb0, vb1, vb2, vb3, w_i8, w_u8, w_i16, w_u16, w_i32, w_u32, w_i64, w_u64, lt_T, lt_F, le_T, le_F, nlt_T, nlt_F, nle_T, nle_F, List.take_of_length_le, gB, gcW, gcR, posIn, renA, renL, Chunk.ren, Chunk.refs, evOpD, touchD, stepC, isFresh, nFresh, freshOf, mkR, hole, evL, evH, opd, get, putD, ofVal, cellOf, loadE, behind, lenE, idxAddrE, idxE, addPtr, intE, strE, unE, convE, AV.int, AV.bool, AV.str, ivs, take, frameOf, firstRegion, refsA, refsL, one, cellsA, floatOk, apartT, List.map, if_true, if_false, E_P, E_glob, reduceCtorEq, beq_self_eq_true, decide_true, decide_false, ↓reduceIte, Nat.reduceEqDiff, cond_true, cond_false, or_true, true_or, or_false, false_or, and_true, true_and, and_self, false_and, and_false, not_true, not_false_iff, Nat.reduceAdd, Nat.reduceSub, Nat.reduceMul, Nat.reduceLT, Nat.reduceLeDiff, Int.reduceToNat, Int.reduceLT, Int.reduceLE, Option.getD, Int.reduceMul, Int.reduceAdd, List.drop, List.take, Nat.reduceBEq, List.isEmpty, Int.reduceEq, Int.reduceNe, Int.reduceNeg, Int.reduceGT, Int.reduceGE, beq_true, beq_false, UInt8.reduceToNat, eqE, eq_self, foldE, maxE, minE, eq_T, eq_F, ndec, odec, adec, sdec, fillA, over, chop, List.replicate, leavesOk, leafOk, cellsEq, cellEq, E_ext, E_byref, en31, bs36, bs45, h, hnum, hl8, Option.map_some, List.take_of_length_le, show ∀ B fr H, execT E B 31 (Code.loop _) fr H = rlM E B 31 (loopAt Try.f31 0) [6, 7, 8, 9] [] (matF [(7, 1), (8, 1)] fr H).1 (matB [] (matF [(7, 1), (8, 1)] fr H).1 (matF [(7, 1), (8, 1)] fr H).2) from fun B fr H => rl_introM rfl mt31_5 mb31_5 zf31_5 hd31_5 fr H]) <;> repeat' ((first | rw [condK_ndec] | rw [condK_dec] | rw [condK_b] | rw [guK_ndec] | rw [guK_dec] | rw [guK_b] | rw [guT_ndec] | rw [guT_dec] | rw [guT_b] | rw [guD_dec] | rw [guD_b]) <;> split <;> (try subst_vars) <;> (try simp (disch := first | omega | (simp only [List.length_append, List.length_map, List.length_set, List.length_cons, List.length_nil, List.length_take, List.length_drop, rows8_len, rows32_len]; omega)) only [va0, va1, va2, va3, va4, va5, va6, va7, va8, va9, va10, va11, va12, va13, va14, vb0, vb1, vb2, vb3, w_i8, w_u8, w_i16, w_u16, w_i32, w_u32, w_i64, w_u64, lt_T, lt_F, le_T, le_F, nlt_T, nlt_F, nle_T, nle_F, List.take_of_length_le, gB, gcW, gcR, posIn, renA, renL, Chunk.ren, Chunk.refs, evOpD, touchD, stepC, isFresh, nFresh, freshOf, mkR, hole, evL, evH, opd, get, putD, ofVal, cellOf, loadE, behind, lenE, idxAddrE, idxE, addPtr, intE, strE, unE, convE, AV.int, AV.bool, AV.str, ivs, take, frameOf, firstRegion, refsA, refsL, one, cellsA, floatOk, apartT, List.map, if_true, if_false, E_P, E_glob, reduceCtorEq, beq_self_eq_true, decide_true, decide_false, ↓reduceIte, Nat.reduceEqDiff, cond_true, cond_false, or_true, true_or, or_false, false_or, and_true, true_and, and_self, false_and, and_false, not_true, not_false_iff, Nat.reduceAdd, Nat.reduceSub, Nat.reduceMul, Nat.reduceLT, Nat.reduceLeDiff, Int.reduceToNat, Int.reduceLT, Int.reduceLE, Option.getD, Int.reduceMul, Int.reduceAdd, List.drop, List.take, Nat.reduceBEq, List.isEmpty, Int.reduceEq, Int.reduceNe, Int.reduceNeg, Int.reduceGT, Int.reduceGE, beq_true, beq_false, UInt8.reduceToNat, eqE, eq_self, foldE, maxE, minE, eq_T, eq_F, ndec, odec, adec, sdec, fillA, over, chop, List.replicate, leavesOk, leafOk, cellsEq, cellEq, E_ext, E_byref, en31, bs36, bs45, h, hnum, hl8, Option.map_some, List.take_of_length_le, show ∀ B fr H, execT E B 31 (Code.loop _) fr H = rlM E B 31 (loopAt Try.f31 0) [6, 7, 8, 9] [] (matF [(7, 1), (8, 1)] fr H).1 (matB [] (matF [(7, 1), (8, 1)] fr H).1 (matF [(7, 1), (8, 1)] fr H).2) from fun B fr H => rl_introM rfl mt31_5 mb31_5 zf31_5 hd31_5 fr H]))
  all_goals exact ⟨_, rfl⟩
theorem ik31 (p c : List UInt8) (ht : (p.length : Int) + c.length < 100000) (H : Hp) : isoK E (callT E) 31 [.i (.str p), .i (.str c)] H = some (.tup [.i (.sl 1 (rows32 (decOut (p ++ c))) false), .i (.str (decRest (p ++ c)))], H) := isoK_val rfl rfl rfl (c31 p c ht)
end Go.VI
