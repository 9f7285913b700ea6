import Derived.Test.YtcifhkdbaienjaaU4
namespace Go.VI
open Go.Proofs
set_option maxRecDepth 100000
set_option linter.unusedSimpArgs false
set_option linter.unusedVariables false
set_option maxHeartbeats 4000000
theorem l42 (a : Int) (l : List Int) (hb : ∀ b ∈ l, 128 ≤ b ∧ b ≤ 191) (hl : l.length ≤ 3) (v : Int) (h0 : 0 ≤ v) (h1 : v ≤ 31) (g : Nat) (ex : Bool) (k : Nat) (hk : k ≤ l.length) :
    ∃ fr, rl E 1 42 (loopAt Try.f42 0) [(0, .ref 0 g 0 (l.length + 1)), (3, .i (.v (.int .i32 (valV (l.take k) v)))), (4, .i (.v (.int .i64 ((k + 1 : Nat)))))] [.sl 1 g (rows8 (a :: l)) ex] =
      some (.exit 1, fr, [.sl 1 g (rows8 (a :: l)) ex]) ∧ get 3 fr = .i (.v (.int .i32 (valV l v))) := by
  obtain ⟨b1, b2⟩ := valV_le hb h0 h1 hl k hk
  have b3 : (64 : Int) ^ k ≤ 262144 := by
    have : k = 0 ∨ k = 1 ∨ k = 2 ∨ k = 3 := by omega
    rcases this with rfl | rfl | rfl | rfl <;> decide
  rw [rl_step (fn := Try.f42) (k := 0) rfl]
  by_cases hlt : k < l.length
  · have hrow : (rows8 (a :: l))[k + 1]? = some [.v (.int .u8 l[k])] := rows8_at (l := a :: l) (k := k + 1) (by simpa using hlt)
    have hbk := hb l[k] (List.getElem_mem _)
    have hv : valV (l.take (k + 1)) v = valV (l.take k) v * 64 + l[k] - 128 := by
      rw [List.take_succ_eq_append_getElem hlt]; simp only [valV, List.foldl_append, List.foldl_cons, List.foldl_nil]
    obtain ⟨fr, e1, e2⟩ := l42 a l hb hl v h0 h1 g ex (k + 1) hlt
    rw [hv] at e1
    refine ⟨fr, Eq.trans ?_ e1, e2⟩
    generalize (64 : Int) ^ k = m at *
    simp (disch := first | omega | (simp only [List.length_append, List.length_map, List.length_set, List.length_cons, List.length_nil, List.length_take, List.length_drop, rows8_len]; omega)) only [va0, va1, va2, va3, va4, va5, va6, va7, va8, va9, va10, va11, va12, va13, va14, vb0, vb1, vb2, vb3, w_i8, w_u8, w_i16, w_u16, w_i32, w_u32, w_i64, w_u64, lt_T, lt_F, le_T, le_F, nlt_T, nlt_F, nle_T, nle_F, List.take_of_length_le, gB, gcW, gcR, posIn, renA, renL, Chunk.ren, Chunk.refs, evOpD, touchD, stepC, isFresh, nFresh, freshOf, mkR, hole, evL, evH, opd, get, putD, ofVal, cellOf, loadE, behind, lenE, idxAddrE, idxE, addPtr, intE, strE, unE, convE, AV.int, AV.bool, AV.str, ivs, take, frameOf, firstRegion, refsA, refsL, one, cellsA, floatOk, apartT, List.map, if_true, if_false, E_P, E_glob, reduceCtorEq, beq_self_eq_true, decide_true, decide_false, ↓reduceIte, Nat.reduceEqDiff, cond_true, cond_false, or_true, true_or, or_false, false_or, and_true, true_and, and_self, false_and, and_false, not_true, not_false_iff, Nat.reduceAdd, Nat.reduceSub, Nat.reduceMul, Nat.reduceLT, Nat.reduceLeDiff, Int.reduceToNat, Int.reduceLT, Int.reduceLE, Option.getD, Int.reduceMul, Int.reduceAdd, List.drop, List.take, Nat.reduceBEq, List.isEmpty, Int.reduceEq, Int.reduceNe, Int.reduceNeg, Int.reduceGT, Int.reduceGE, beq_true, beq_false, UInt8.reduceToNat, eqE, eq_self, foldE, maxE, minE, eq_T, eq_F, ndec, odec, adec, sdec, fillA, over, chop, List.replicate, leavesOk, leafOk, cellsEq, cellEq, E_ext, E_byref, en42, bs36, rows8_len, List.length_cons, show ∀ B fr H, execT E B 42 (Code.loop _) fr H = rlG E B 42 (loopAt Try.f42 0) (gcn B (norm [0, 3, 4] fr) H) from fun B fr H => rl_intro rfl mt42_10 mb42_10 zf42_10 hd42_10 fr H, hrow]
  · obtain rfl : k = l.length := by omega
    rw [List.take_length]
    simp (disch := first | omega | (simp only [List.length_append, List.length_map, List.length_set, List.length_cons, List.length_nil, List.length_take, List.length_drop, rows8_len]; omega)) only [va0, va1, va2, va3, va4, va5, va6, va7, va8, va9, va10, va11, va12, va13, va14, vb0, vb1, vb2, vb3, w_i8, w_u8, w_i16, w_u16, w_i32, w_u32, w_i64, w_u64, lt_T, lt_F, le_T, le_F, nlt_T, nlt_F, nle_T, nle_F, List.take_of_length_le, gB, gcW, gcR, posIn, renA, renL, Chunk.ren, Chunk.refs, evOpD, touchD, stepC, isFresh, nFresh, freshOf, mkR, hole, evL, evH, opd, get, putD, ofVal, cellOf, loadE, behind, lenE, idxAddrE, idxE, addPtr, intE, strE, unE, convE, AV.int, AV.bool, AV.str, ivs, take, frameOf, firstRegion, refsA, refsL, one, cellsA, floatOk, apartT, List.map, if_true, if_false, E_P, E_glob, reduceCtorEq, beq_self_eq_true, decide_true, decide_false, ↓reduceIte, Nat.reduceEqDiff, cond_true, cond_false, or_true, true_or, or_false, false_or, and_true, true_and, and_self, false_and, and_false, not_true, not_false_iff, Nat.reduceAdd, Nat.reduceSub, Nat.reduceMul, Nat.reduceLT, Nat.reduceLeDiff, Int.reduceToNat, Int.reduceLT, Int.reduceLE, Option.getD, Int.reduceMul, Int.reduceAdd, List.drop, List.take, Nat.reduceBEq, List.isEmpty, Int.reduceEq, Int.reduceNe, Int.reduceNeg, Int.reduceGT, Int.reduceGE, beq_true, beq_false, UInt8.reduceToNat, eqE, eq_self, foldE, maxE, minE, eq_T, eq_F, ndec, odec, adec, sdec, fillA, over, chop, List.replicate, leavesOk, leafOk, cellsEq, cellEq, E_ext, E_byref, en42, bs36, rows8_len, List.length_cons]
    exact ⟨_, rfl, rfl⟩
termination_by l.length - k
theorem headV_ok {a : Int} (h : 2 ≤ sizeB a) : 0 ≤ headV a (sizeB a).toNat ∧ headV a (sizeB a).toNat ≤ 31 := by
  unfold sizeB at *
  unfold headV
  repeat' split at h
  all_goals first | omega | skip
  all_goals (repeat' split)
  all_goals first | omega | simp_all | skip
  all_goals omega
theorem c42 (a : Int) (l : List Int) (ha : 0 ≤ a ∧ a ≤ 255) (hb : ∀ b ∈ l, 128 ≤ b ∧ b ≤ 191) (hl : l.length ≤ 3) (h0 : 0 ≤ headV a (l.length + 1)) (h1 : headV a (l.length + 1) ≤ 31) (h2 : 1 ≤ l.length) (g : Nat) (ex : Bool) :
    ∃ L, callT E 42 [.ref 0 g 0 (l.length + 1)] [.sl 1 g (rows8 (a :: l)) ex] = some (.i (.v (.int .i32 (valV l (headV a (l.length + 1))))), .sl 1 g (rows8 (a :: l)) ex :: L) := by
  obtain ⟨fr, e1, e2⟩ := l42 a l hb hl _ h0 h1 g ex 0 (by omega)
  simp only [List.take_zero, show valV [] (headV a (l.length + 1)) = headV a (l.length + 1) from rfl, show (((0 : Nat) + 1 : Nat) : Int) = 1 from rfl] at e1
  have : l.length = 1 ∨ l.length = 2 ∨ l.length = 3 := by omega
  have hv : headV a (l.length + 1) = if l.length = 1 then a - 192 else if l.length = 2 then a - 224 else a - 240 := by
    unfold headV; rcases this with h | h | h <;> simp [h]
  rw [callT_eq Try.func42 rfl fok42 (by simp [Try.ntmps42])]
  rcases this with h | h | h
  all_goals simp only [h, Nat.reduceEqDiff, if_true, if_false, Nat.reduceAdd] at hv
  all_goals rw [h] at e1 e2 h0 h1
  all_goals rw [hv] at e1 e2 h0 h1
  all_goals simp (disch := first | omega | (simp only [List.length_append, List.length_map, List.length_set, List.length_cons, List.length_nil, List.length_take, List.length_drop, rows8_len]; omega)) only [va0, va1, va2, va3, va4, va5, va6, va7, va8, va9, va10, va11, va12, va13, va14, vb0, vb1, vb2, vb3, w_i8, w_u8, w_i16, w_u16, w_i32, w_u32, w_i64, w_u64, lt_T, lt_F, le_T, le_F, nlt_T, nlt_F, nle_T, nle_F, List.take_of_length_le, gB, gcW, gcR, posIn, renA, renL, Chunk.ren, Chunk.refs, evOpD, touchD, stepC, isFresh, nFresh, freshOf, mkR, hole, evL, evH, opd, get, putD, ofVal, cellOf, loadE, behind, lenE, idxAddrE, idxE, addPtr, intE, strE, unE, convE, AV.int, AV.bool, AV.str, ivs, take, frameOf, firstRegion, refsA, refsL, one, cellsA, floatOk, apartT, List.map, if_true, if_false, E_P, E_glob, reduceCtorEq, beq_self_eq_true, decide_true, decide_false, ↓reduceIte, Nat.reduceEqDiff, cond_true, cond_false, or_true, true_or, or_false, false_or, and_true, true_and, and_self, false_and, and_false, not_true, not_false_iff, Nat.reduceAdd, Nat.reduceSub, Nat.reduceMul, Nat.reduceLT, Nat.reduceLeDiff, Int.reduceToNat, Int.reduceLT, Int.reduceLE, Option.getD, Int.reduceMul, Int.reduceAdd, List.drop, List.take, Nat.reduceBEq, List.isEmpty, Int.reduceEq, Int.reduceNe, Int.reduceNeg, Int.reduceGT, Int.reduceGE, beq_true, beq_false, UInt8.reduceToNat, eqE, eq_self, foldE, maxE, minE, eq_T, eq_F, ndec, odec, adec, sdec, fillA, over, chop, List.replicate, leavesOk, leafOk, cellsEq, cellEq, E_ext, E_byref, en42, bs36, rows8_len, rows8_0, List.length_cons, h, show ∀ B fr H, execT E B 42 (Code.loop _) fr H = rlG E B 42 (loopAt Try.f42 0) (gcn B (norm [0, 3, 4] fr) H) from fun B fr H => rl_intro rfl mt42_10 mb42_10 zf42_10 hd42_10 fr H, hv, e1, e2]
  all_goals exact ⟨_, rfl⟩
theorem ik42 (a : Int) (l : List Int) (ha : 0 ≤ a ∧ a ≤ 255) (hb : ∀ b ∈ l, 128 ≤ b ∧ b ≤ 191) (hl : l.length ≤ 3) (h0 : 0 ≤ headV a (l.length + 1)) (h1 : headV a (l.length + 1) ≤ 31) (h2 : 1 ≤ l.length) (c g : Nat) (ex : Bool) (H : Hp) (hH : H[c]? = some (.sl 1 g (rows8 (a :: l)) ex)) :
    isoK E (callT E) 42 [.ref c g 0 (l.length + 1)] H = some (.i (.v (.int .i32 (valV l (headV a (l.length + 1))))), H) := isoK_ref rfl hH rfl rfl (c42 a l ha hb hl h0 h1 h2 g ex)
end Go.VI
