import Derived.Test.YtijkhfgkcndnpaaDoorP2
import Derived.Test.YtijkhfgkcndnpaaDoorN3
import Derived.Test.YtijkhfgkcndnpaaDoorB1
namespace Go.VI
open Go.Proofs
set_option maxRecDepth 100000
set_option linter.unusedSimpArgs false
set_option linter.unusedVariables false
set_option maxHeartbeats 4000000
/-! narratorref05.decimal -/
theorem numB_len0 (u : Nat) (h : u ≤ 9999) : (Lib.decDigits u).length ≤ 20 := by
  rw [Lib.decDigits_length]
  by_cases h0 : u = 0
  · rw [h0, Lib.nDigits_small (by decide)]; decide
  · have := Lib.numDigits_eq u (by omega) (by omega)
    split at this <;> omega
theorem l29 (n : Nat) (hn : n ≤ 9999) (acc : List UInt8) (ha : acc.length + n ≤ 1000000) : ∃ (m : Nat) (acc' : List UInt8), m < 10 ∧ UInt8.ofNat (48 + m) :: acc' = Lib.decDigits n ++ acc ∧
    rl E 0 29 (loopAt Tryd.f29 0) [(0, .i (.v (.int .i64 n))), (3, .i (.str acc))] [] = some (.exit 0, [(0, .i (.v (.int .i64 m))), (3, .i (.str acc')), (5, .i (.v (.bool false)))], []) := by
  rw [rl_step (fn := Tryd.f29) (k := 0) rfl]
  by_cases h : n < 10
  · refine ⟨n, acc, h, ?_, ?_⟩
    · rw [Lib.decDigits, dif_pos h]; rfl
    · simp (disch := first | omega | (simp only [List.length_append, List.length_map, List.length_set, List.length_cons, List.length_nil, List.length_take, List.length_drop]; omega)) only [va0, va1, va2, va3, va4, va5, va6, va7, va8, va9, va10, va11, va12, va13, va14, vb0, vb1, vb2, vb3, w_i8, w_u8, w_i16, w_u16, w_i32, w_u32, w_i64, w_u64, lt_T, lt_F, le_T, le_F, nlt_T, nlt_F, nle_T, nle_F, List.take_of_length_le, gB, gcW, gcR, posIn, renA, renL, Chunk.ren, Chunk.refs, evOpD, touchD, stepC, isFresh, nFresh, freshOf, mkR, hole, evL, evH, opd, get, putD, ofVal, cellOf, loadE, behind, lenE, idxAddrE, idxE, addPtr, intE, strE, unE, convE, AV.int, AV.bool, AV.str, ivs, take, frameOf, firstRegion, refsA, refsL, one, cellsA, floatOk, apartT, List.map, if_true, if_false, E_P, E_glob0, reduceCtorEq, beq_self_eq_true, decide_true, decide_false, ↓reduceIte, Nat.reduceEqDiff, cond_true, cond_false, or_true, true_or, or_false, false_or, and_true, true_and, and_self, false_and, and_false, not_true, not_false_iff, Nat.reduceAdd, Nat.reduceSub, Nat.reduceMul, Nat.reduceLT, Nat.reduceLeDiff, Int.reduceToNat, Int.reduceLT, Int.reduceLE, Option.getD, Int.reduceMul, Int.reduceAdd, List.drop, List.take, Nat.reduceBEq, List.isEmpty, Int.reduceEq, Int.reduceNe, Int.reduceNeg, Int.reduceGT, Int.reduceGE, beq_true, beq_false, UInt8.reduceToNat, eqE, eq_self, foldE, maxE, minE, eq_T, eq_F, ndec, odec, adec, sdec, fillA, over, chop, List.replicate, leavesOk, leafOk, cellsEq, cellEq, E_byref, en29, bs32, show ∀ B fr H, execT E B 29 (Code.loop _) fr H = rlG E B 29 (loopAt Tryd.f29 0) (gcn B (norm [0, 3] fr) H) from fun B fr H => rl_intro rfl mt29_2 mb29_2 zf29_2 hd29_2 fr H]
  · obtain ⟨m, acc', h1, h2, h3⟩ := l29 (n / 10) (by omega) (UInt8.ofNat (48 + n % 10) :: acc) (by simp only [List.length_cons]; omega)
    refine ⟨m, acc', h1, ?_, ?_⟩
    · rw [h2, Lib.decDigits.eq_def n, dif_neg h]; simp
    · rw [← h3]
      clear h3 h2 h1
      have hq : IntKind.i64.wrap ((n : Int).tdiv 10) = ((n / 10 : Nat) : Int) := by rw [Int.tdiv_eq_ediv_of_nonneg (by omega), IntKind.wrap_i64]; omega
      have hr : (IntKind.u8.wrap (IntKind.i64.wrap (48 + (n : Int).tmod 10))).toNat = 48 + n % 10 := by rw [Int.tmod_eq_emod_of_nonneg (by omega), IntKind.wrap_i64, IntKind.wrap_u8']; omega
      simp (disch := first | omega | (simp only [List.length_append, List.length_map, List.length_set, List.length_cons, List.length_nil, List.length_take, List.length_drop]; omega)) only [va0, va1, va2, va3, va4, va5, va6, va7, va8, va9, va10, va11, va12, va13, va14, vb0, vb1, vb2, vb3, w_i8, w_u8, w_i16, w_u16, w_i32, w_u32, w_i64, w_u64, lt_T, lt_F, le_T, le_F, nlt_T, nlt_F, nle_T, nle_F, List.take_of_length_le, gB, gcW, gcR, posIn, renA, renL, Chunk.ren, Chunk.refs, evOpD, touchD, stepC, isFresh, nFresh, freshOf, mkR, hole, evL, evH, opd, get, putD, ofVal, cellOf, loadE, behind, lenE, idxAddrE, idxE, addPtr, intE, strE, unE, convE, AV.int, AV.bool, AV.str, ivs, take, frameOf, firstRegion, refsA, refsL, one, cellsA, floatOk, apartT, List.map, if_true, if_false, E_P, E_glob0, reduceCtorEq, beq_self_eq_true, decide_true, decide_false, ↓reduceIte, Nat.reduceEqDiff, cond_true, cond_false, or_true, true_or, or_false, false_or, and_true, true_and, and_self, false_and, and_false, not_true, not_false_iff, Nat.reduceAdd, Nat.reduceSub, Nat.reduceMul, Nat.reduceLT, Nat.reduceLeDiff, Int.reduceToNat, Int.reduceLT, Int.reduceLE, Option.getD, Int.reduceMul, Int.reduceAdd, List.drop, List.take, Nat.reduceBEq, List.isEmpty, Int.reduceEq, Int.reduceNe, Int.reduceNeg, Int.reduceGT, Int.reduceGE, beq_true, beq_false, UInt8.reduceToNat, eqE, eq_self, foldE, maxE, minE, eq_T, eq_F, ndec, odec, adec, sdec, fillA, over, chop, List.replicate, leavesOk, leafOk, cellsEq, cellEq, E_byref, en29, bs32, show ∀ B fr H, execT E B 29 (Code.loop _) fr H = rlG E B 29 (loopAt Tryd.f29 0) (gcn B (norm [0, 3] fr) H) from fun B fr H => rl_intro rfl mt29_2 mb29_2 zf29_2 hd29_2 fr H]
      rw [hq, hr]
termination_by n
theorem c29 (n : Int) (h0 : 0 ≤ n) (h9 : n ≤ 9999) : ∃ L, callT E 29 [.i (.v (.int .i64 n))] [] = some (.i (.str (Lib.decDigits n.toNat)), L) := by
  obtain ⟨k, rfl⟩ : ∃ k : Nat, n = k := ⟨n.toNat, by omega⟩
  obtain ⟨m, acc', h1, h2, h3⟩ := l29 k (by omega) [] (by simp; omega)
  rw [List.append_nil] at h2
  rw [show (k : Int).toNat = k by omega, ← h2]
  have hr : (IntKind.u8.wrap (IntKind.i64.wrap (48 + (m : Int)))).toNat = 48 + m := by rw [IntKind.wrap_i64, IntKind.wrap_u8']; omega
  have ha : acc'.length ≤ 100 := by
    have h20 := numB_len0 k (by omega)
    have := congrArg List.length h2
    simp only [List.length_cons] at this
    omega
  clear h2
  rw [callT_eq Tryd.func29 rfl fok29 (by simp [Tryd.ntmps29])]
  simp (disch := first | omega | (simp only [List.length_append, List.length_map, List.length_set, List.length_cons, List.length_nil, List.length_take, List.length_drop]; omega)) only [va0, va1, va2, va3, va4, va5, va6, va7, va8, va9, va10, va11, va12, va13, va14, vb0, vb1, vb2, vb3, w_i8, w_u8, w_i16, w_u16, w_i32, w_u32, w_i64, w_u64, lt_T, lt_F, le_T, le_F, nlt_T, nlt_F, nle_T, nle_F, List.take_of_length_le, gB, gcW, gcR, posIn, renA, renL, Chunk.ren, Chunk.refs, evOpD, touchD, stepC, isFresh, nFresh, freshOf, mkR, hole, evL, evH, opd, get, putD, ofVal, cellOf, loadE, behind, lenE, idxAddrE, idxE, addPtr, intE, strE, unE, convE, AV.int, AV.bool, AV.str, ivs, take, frameOf, firstRegion, refsA, refsL, one, cellsA, floatOk, apartT, List.map, if_true, if_false, E_P, E_glob0, reduceCtorEq, beq_self_eq_true, decide_true, decide_false, ↓reduceIte, Nat.reduceEqDiff, cond_true, cond_false, or_true, true_or, or_false, false_or, and_true, true_and, and_self, false_and, and_false, not_true, not_false_iff, Nat.reduceAdd, Nat.reduceSub, Nat.reduceMul, Nat.reduceLT, Nat.reduceLeDiff, Int.reduceToNat, Int.reduceLT, Int.reduceLE, Option.getD, Int.reduceMul, Int.reduceAdd, List.drop, List.take, Nat.reduceBEq, List.isEmpty, Int.reduceEq, Int.reduceNe, Int.reduceNeg, Int.reduceGT, Int.reduceGE, beq_true, beq_false, UInt8.reduceToNat, eqE, eq_self, foldE, maxE, minE, eq_T, eq_F, ndec, odec, adec, sdec, fillA, over, chop, List.replicate, leavesOk, leafOk, cellsEq, cellEq, E_byref, en29, bs32, h3, show ∀ B fr H, execT E B 29 (Code.loop _) fr H = rlG E B 29 (loopAt Tryd.f29 0) (gcn B (norm [0, 3] fr) H) from fun B fr H => rl_intro rfl mt29_2 mb29_2 zf29_2 hd29_2 fr H]
  exact ⟨_, rfl⟩
theorem ik29 (n : Int) (h0 : 0 ≤ n) (h9 : n ≤ 9999) (H : Hp) : isoK E (callT E) 29 [.i (.v (.int .i64 n))] H = some (.i (.str (Lib.decDigits n.toNat)), H) := isoK_val rfl rfl rfl (c29 n h0 h9)
end Go.VI
