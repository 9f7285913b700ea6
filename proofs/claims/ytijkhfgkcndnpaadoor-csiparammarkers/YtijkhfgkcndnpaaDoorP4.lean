import Derived.Test.YtijkhfgkcndnpaaDoorP3
namespace Go.VI
open Go.Proofs
set_option maxRecDepth 100000
set_option linter.unusedSimpArgs false
set_option linter.unusedVariables false
set_option maxHeartbeats 4000000
/-! narratorref05.Parse -/
theorem c24 (b : Int) : ∃ L, callT E 24 [.i (.v (.int .u8 b))] [] = some (.i (.v (.bool (privB b))), L) := by
  unfold privB
  rw [callT_eq Tryd.func24 rfl fok24 (by simp [Tryd.ntmps24])]
  by_cases h1 : 60 ≤ b <;> by_cases h2 : b ≤ 63 <;> simp only [h1, h2, decide_true, decide_false, Bool.true_and, Bool.false_and, Bool.and_false] <;> simp (disch := first | omega | (simp only [List.length_append, List.length_map, List.length_set, List.length_cons, List.length_nil, List.length_take, List.length_drop]; omega)) only [va0, va1, va2, va3, va4, va5, va6, va7, va8, va9, va10, va11, va12, va13, va14, vb0, vb1, vb2, vb3, w_i8, w_u8, w_i16, w_u16, w_i32, w_u32, w_i64, w_u64, lt_T, lt_F, le_T, le_F, nlt_T, nlt_F, nle_T, nle_F, List.take_of_length_le, gB, gcW, gcR, posIn, renA, renL, Chunk.ren, Chunk.refs, evOpD, touchD, stepC, isFresh, nFresh, freshOf, mkR, hole, evL, evH, opd, get, putD, ofVal, cellOf, loadE, behind, lenE, idxAddrE, idxE, addPtr, intE, strE, unE, convE, AV.int, AV.bool, AV.str, ivs, take, frameOf, firstRegion, refsA, refsL, one, cellsA, floatOk, apartT, List.map, if_true, if_false, E_P, E_glob0, reduceCtorEq, beq_self_eq_true, decide_true, decide_false, ↓reduceIte, Nat.reduceEqDiff, cond_true, cond_false, or_true, true_or, or_false, false_or, and_true, true_and, and_self, false_and, and_false, not_true, not_false_iff, Nat.reduceAdd, Nat.reduceSub, Nat.reduceMul, Nat.reduceLT, Nat.reduceLeDiff, Int.reduceToNat, Int.reduceLT, Int.reduceLE, Option.getD, Int.reduceMul, Int.reduceAdd, List.drop, List.take, Nat.reduceBEq, List.isEmpty, Int.reduceEq, Int.reduceNe, Int.reduceNeg, Int.reduceGT, Int.reduceGE, beq_true, beq_false, UInt8.reduceToNat, eqE, eq_self, foldE, maxE, minE, eq_T, eq_F, ndec, odec, adec, sdec, fillA, over, chop, List.replicate, leavesOk, leafOk, cellsEq, cellEq, E_byref, en24, h1, h2] <;> exact ⟨_, rfl⟩
theorem ik24 (b : Int) (H : Hp) : isoK E (callT E) 24 [.i (.v (.int .u8 b))] H = some (.i (.v (.bool (privB b))), H) := isoK_val rfl rfl rfl (c24 b)
def midB (b : Int) : Bool := decide (32 ≤ b) && decide (b ≤ 47)
theorem c25 (b : Int) : ∃ L, callT E 25 [.i (.v (.int .u8 b))] [] = some (.i (.v (.bool (midB b))), L) := by
  unfold midB
  rw [callT_eq Tryd.func25 rfl fok25 (by simp [Tryd.ntmps25])]
  by_cases h1 : 32 ≤ b <;> by_cases h2 : b ≤ 47 <;> simp only [h1, h2, decide_true, decide_false, Bool.true_and, Bool.false_and, Bool.and_false] <;> simp (disch := first | omega | (simp only [List.length_append, List.length_map, List.length_set, List.length_cons, List.length_nil, List.length_take, List.length_drop]; omega)) only [va0, va1, va2, va3, va4, va5, va6, va7, va8, va9, va10, va11, va12, va13, va14, vb0, vb1, vb2, vb3, w_i8, w_u8, w_i16, w_u16, w_i32, w_u32, w_i64, w_u64, lt_T, lt_F, le_T, le_F, nlt_T, nlt_F, nle_T, nle_F, List.take_of_length_le, gB, gcW, gcR, posIn, renA, renL, Chunk.ren, Chunk.refs, evOpD, touchD, stepC, isFresh, nFresh, freshOf, mkR, hole, evL, evH, opd, get, putD, ofVal, cellOf, loadE, behind, lenE, idxAddrE, idxE, addPtr, intE, strE, unE, convE, AV.int, AV.bool, AV.str, ivs, take, frameOf, firstRegion, refsA, refsL, one, cellsA, floatOk, apartT, List.map, if_true, if_false, E_P, E_glob0, reduceCtorEq, beq_self_eq_true, decide_true, decide_false, ↓reduceIte, Nat.reduceEqDiff, cond_true, cond_false, or_true, true_or, or_false, false_or, and_true, true_and, and_self, false_and, and_false, not_true, not_false_iff, Nat.reduceAdd, Nat.reduceSub, Nat.reduceMul, Nat.reduceLT, Nat.reduceLeDiff, Int.reduceToNat, Int.reduceLT, Int.reduceLE, Option.getD, Int.reduceMul, Int.reduceAdd, List.drop, List.take, Nat.reduceBEq, List.isEmpty, Int.reduceEq, Int.reduceNe, Int.reduceNeg, Int.reduceGT, Int.reduceGE, beq_true, beq_false, UInt8.reduceToNat, eqE, eq_self, foldE, maxE, minE, eq_T, eq_F, ndec, odec, adec, sdec, fillA, over, chop, List.replicate, leavesOk, leafOk, cellsEq, cellEq, E_byref, en25, h1, h2] <;> exact ⟨_, rfl⟩
theorem ik25 (b : Int) (H : Hp) : isoK E (callT E) 25 [.i (.v (.int .u8 b))] H = some (.i (.v (.bool (midB b))), H) := isoK_val rfl rfl rfl (c25 b)
theorem mid_bad (b : UInt8) : midB b.toNat = !badB b := by
  have : ∀ n : Nat, n < 256 → midB n = !(decide (n < 32) || decide (47 < n)) := by decide +kernel
  exact this b.toNat b.toNat_lt
def pB (b : UInt8) : Bool := decide (48 ≤ b.toNat) && decide (b.toNat ≤ 57) || b.toNat == 59
theorem pB_step (l : List Int) (n : Int) (b : UInt8) : pB b = (stepP l n b.toNat).isSome := by
  have h := b.toNat_lt
  unfold stepP pB
  by_cases h1 : b.toNat = 59
  · simp [h1]
  · rw [if_neg (by omega)]
    by_cases h2 : b.toNat < 48
    · rw [if_pos (by omega)]; simp [h1]; omega
    · rw [if_neg (by omega)]
      by_cases h3 : 57 < b.toNat
      · rw [if_pos (by omega)]; simp [h1]; omega
      · rw [if_neg (by omega)]; simp; omega
theorem runP_split : ∀ (t : List UInt8) (l : List Int) (n : Int), runP t l n = ((runP (t.takeWhile pB) l n).1, (runP (t.takeWhile pB) l n).2.1, t.dropWhile pB) ∧ (runP (t.takeWhile pB) l n).2.2 = []
  | [], l, n => by simp [runP]
  | b :: r, l, n => by
    have hp := pB_step l n b
    cases h : stepP l n b.toNat with
    | none =>
      rw [h] at hp
      simp only [Option.isSome_none] at hp
      simp [runP, h, hp]
    | some p =>
      rw [h] at hp
      simp only [Option.isSome_some] at hp
      have ih := runP_split r p.1 p.2
      simp only [runP, h, hp, List.takeWhile_cons_of_pos, List.dropWhile_cons_of_pos]
      exact ih
theorem l13_0 (s : List UInt8) (hs : s.length < 50000) (m : Int) (f : Int) (k : Nat) (hk : k ≤ s.length) :
    ∃ fr, rl E 0 13 (loopAt Tryd.f13 0) [(0, .i (.str s)), (6, .i (.v (.int .u8 m))), (7, .i (.v (.int .i64 k))), (8, .i (.v (.int .i64 f)))] [] =
      some (.exit 0, fr, []) ∧ get 0 fr = .i (.str s) ∧ get 6 fr = .i (.v (.int .u8 m)) ∧ get 7 fr = .i (.v (.int .i64 ((k + ((s.drop k).takeWhile pB).length : Nat)))) ∧ get 8 fr = .i (.v (.int .i64 f)) := by
  rw [rl_step (fn := Tryd.f13) (k := 0) rfl]
  by_cases hlt : k < s.length
  · have hb := byte_at hlt
    have b1 := s[k].toNat_lt
    rw [List.drop_eq_getElem_cons hlt]
    have hp : pB s[k] = (decide (48 ≤ s[k].toNat) && decide (s[k].toNat ≤ 57) || s[k].toNat == 59) := rfl
    obtain ⟨fr, e, f0, f6, f7, f8⟩ := l13_0 s hs m f (k + 1) hlt
    by_cases hpb : pB s[k] = true
    · rw [List.takeWhile_cons_of_pos hpb, List.length_cons]
      refine ⟨fr, Eq.trans ?_ e, f0, f6, by rw [f7, show k + 1 + ((s.drop (k + 1)).takeWhile pB).length = k + (((s.drop (k + 1)).takeWhile pB).length + 1) by omega], f8⟩
      clear e f0 f6 f7 f8
      rw [hpb] at hp
      generalize s[k] = b at *
      by_cases h1 : 48 ≤ (b.toNat : Int)
      · by_cases h2 : (b.toNat : Int) ≤ 57
        · simp (disch := first | omega | (simp only [List.length_append, List.length_map, List.length_set, List.length_cons, List.length_nil, List.length_take, List.length_drop]; omega)) only [va0, va1, va2, va3, va4, va5, va6, va7, va8, va9, va10, va11, va12, va13, va14, vb0, vb1, vb2, vb3, w_i8, w_u8, w_i16, w_u16, w_i32, w_u32, w_i64, w_u64, lt_T, lt_F, le_T, le_F, nlt_T, nlt_F, nle_T, nle_F, List.take_of_length_le, gB, gcW, gcR, posIn, renA, renL, Chunk.ren, Chunk.refs, evOpD, touchD, stepC, isFresh, nFresh, freshOf, mkR, hole, evL, evH, opd, get, putD, ofVal, cellOf, loadE, behind, lenE, idxAddrE, idxE, addPtr, intE, strE, unE, convE, AV.int, AV.bool, AV.str, ivs, take, frameOf, firstRegion, refsA, refsL, one, cellsA, floatOk, apartT, List.map, if_true, if_false, E_P, E_glob0, reduceCtorEq, beq_self_eq_true, decide_true, decide_false, ↓reduceIte, Nat.reduceEqDiff, cond_true, cond_false, or_true, true_or, or_false, false_or, and_true, true_and, and_self, false_and, and_false, not_true, not_false_iff, Nat.reduceAdd, Nat.reduceSub, Nat.reduceMul, Nat.reduceLT, Nat.reduceLeDiff, Int.reduceToNat, Int.reduceLT, Int.reduceLE, Option.getD, Int.reduceMul, Int.reduceAdd, List.drop, List.take, Nat.reduceBEq, List.isEmpty, Int.reduceEq, Int.reduceNe, Int.reduceNeg, Int.reduceGT, Int.reduceGE, beq_true, beq_false, UInt8.reduceToNat, eqE, eq_self, foldE, maxE, minE, eq_T, eq_F, ndec, odec, adec, sdec, fillA, over, chop, List.replicate, leavesOk, leafOk, cellsEq, cellEq, E_byref, en13, bs23, hb, h1, h2, show ∀ B fr H, execT E B 13 (Code.loop _) fr H = rlG E B 13 (loopAt Tryd.f13 0) (gcn B (norm [0, 6, 7, 8] fr) H) from fun B fr H => rl_intro rfl mt13_7 mb13_7 zf13_7 hd13_7 fr H]
        · have h3 : (b.toNat : Int) = 59 := by
            have : ¬ b.toNat ≤ 57 := by omega
            simp [this] at hp; omega
          simp (disch := first | omega | (simp only [List.length_append, List.length_map, List.length_set, List.length_cons, List.length_nil, List.length_take, List.length_drop]; omega)) only [va0, va1, va2, va3, va4, va5, va6, va7, va8, va9, va10, va11, va12, va13, va14, vb0, vb1, vb2, vb3, w_i8, w_u8, w_i16, w_u16, w_i32, w_u32, w_i64, w_u64, lt_T, lt_F, le_T, le_F, nlt_T, nlt_F, nle_T, nle_F, List.take_of_length_le, gB, gcW, gcR, posIn, renA, renL, Chunk.ren, Chunk.refs, evOpD, touchD, stepC, isFresh, nFresh, freshOf, mkR, hole, evL, evH, opd, get, putD, ofVal, cellOf, loadE, behind, lenE, idxAddrE, idxE, addPtr, intE, strE, unE, convE, AV.int, AV.bool, AV.str, ivs, take, frameOf, firstRegion, refsA, refsL, one, cellsA, floatOk, apartT, List.map, if_true, if_false, E_P, E_glob0, reduceCtorEq, beq_self_eq_true, decide_true, decide_false, ↓reduceIte, Nat.reduceEqDiff, cond_true, cond_false, or_true, true_or, or_false, false_or, and_true, true_and, and_self, false_and, and_false, not_true, not_false_iff, Nat.reduceAdd, Nat.reduceSub, Nat.reduceMul, Nat.reduceLT, Nat.reduceLeDiff, Int.reduceToNat, Int.reduceLT, Int.reduceLE, Option.getD, Int.reduceMul, Int.reduceAdd, List.drop, List.take, Nat.reduceBEq, List.isEmpty, Int.reduceEq, Int.reduceNe, Int.reduceNeg, Int.reduceGT, Int.reduceGE, beq_true, beq_false, UInt8.reduceToNat, eqE, eq_self, foldE, maxE, minE, eq_T, eq_F, ndec, odec, adec, sdec, fillA, over, chop, List.replicate, leavesOk, leafOk, cellsEq, cellEq, E_byref, en13, bs23, hb, h1, h2, h3, show ∀ B fr H, execT E B 13 (Code.loop _) fr H = rlG E B 13 (loopAt Tryd.f13 0) (gcn B (norm [0, 6, 7, 8] fr) H) from fun B fr H => rl_intro rfl mt13_7 mb13_7 zf13_7 hd13_7 fr H]
      · have : ¬ 48 ≤ b.toNat := by omega
        simp [this] at hp; omega
    · rw [List.takeWhile_cons_of_neg hpb]
      rw [Bool.not_eq_true] at hpb
      rw [hpb] at hp
      simp only [List.length_nil, Nat.add_zero]
      clear e f0 f6 f7 f8
      generalize s[k] = b at *
      have h3 : ¬ (b.toNat : Int) = 59 := fun h => by
        have : b.toNat = 59 := by omega
        simp [this] at hp
      by_cases h1 : 48 ≤ (b.toNat : Int)
      · have h2 : ¬ (b.toNat : Int) ≤ 57 := fun h => by
          have e1 : 48 ≤ b.toNat := by omega
          have e2 : b.toNat ≤ 57 := by omega
          simp [e1, e2] at hp
        simp (disch := first | omega | (simp only [List.length_append, List.length_map, List.length_set, List.length_cons, List.length_nil, List.length_take, List.length_drop]; omega)) only [va0, va1, va2, va3, va4, va5, va6, va7, va8, va9, va10, va11, va12, va13, va14, vb0, vb1, vb2, vb3, w_i8, w_u8, w_i16, w_u16, w_i32, w_u32, w_i64, w_u64, lt_T, lt_F, le_T, le_F, nlt_T, nlt_F, nle_T, nle_F, List.take_of_length_le, gB, gcW, gcR, posIn, renA, renL, Chunk.ren, Chunk.refs, evOpD, touchD, stepC, isFresh, nFresh, freshOf, mkR, hole, evL, evH, opd, get, putD, ofVal, cellOf, loadE, behind, lenE, idxAddrE, idxE, addPtr, intE, strE, unE, convE, AV.int, AV.bool, AV.str, ivs, take, frameOf, firstRegion, refsA, refsL, one, cellsA, floatOk, apartT, List.map, if_true, if_false, E_P, E_glob0, reduceCtorEq, beq_self_eq_true, decide_true, decide_false, ↓reduceIte, Nat.reduceEqDiff, cond_true, cond_false, or_true, true_or, or_false, false_or, and_true, true_and, and_self, false_and, and_false, not_true, not_false_iff, Nat.reduceAdd, Nat.reduceSub, Nat.reduceMul, Nat.reduceLT, Nat.reduceLeDiff, Int.reduceToNat, Int.reduceLT, Int.reduceLE, Option.getD, Int.reduceMul, Int.reduceAdd, List.drop, List.take, Nat.reduceBEq, List.isEmpty, Int.reduceEq, Int.reduceNe, Int.reduceNeg, Int.reduceGT, Int.reduceGE, beq_true, beq_false, UInt8.reduceToNat, eqE, eq_self, foldE, maxE, minE, eq_T, eq_F, ndec, odec, adec, sdec, fillA, over, chop, List.replicate, leavesOk, leafOk, cellsEq, cellEq, E_byref, en13, bs23, hb, h1, h2, h3, show ∀ B fr H, execT E B 13 (Code.loop _) fr H = rlG E B 13 (loopAt Tryd.f13 0) (gcn B (norm [0, 6, 7, 8] fr) H) from fun B fr H => rl_intro rfl mt13_7 mb13_7 zf13_7 hd13_7 fr H]
        exact ⟨_, rfl, rfl, rfl, rfl, rfl⟩
      · simp (disch := first | omega | (simp only [List.length_append, List.length_map, List.length_set, List.length_cons, List.length_nil, List.length_take, List.length_drop]; omega)) only [va0, va1, va2, va3, va4, va5, va6, va7, va8, va9, va10, va11, va12, va13, va14, vb0, vb1, vb2, vb3, w_i8, w_u8, w_i16, w_u16, w_i32, w_u32, w_i64, w_u64, lt_T, lt_F, le_T, le_F, nlt_T, nlt_F, nle_T, nle_F, List.take_of_length_le, gB, gcW, gcR, posIn, renA, renL, Chunk.ren, Chunk.refs, evOpD, touchD, stepC, isFresh, nFresh, freshOf, mkR, hole, evL, evH, opd, get, putD, ofVal, cellOf, loadE, behind, lenE, idxAddrE, idxE, addPtr, intE, strE, unE, convE, AV.int, AV.bool, AV.str, ivs, take, frameOf, firstRegion, refsA, refsL, one, cellsA, floatOk, apartT, List.map, if_true, if_false, E_P, E_glob0, reduceCtorEq, beq_self_eq_true, decide_true, decide_false, ↓reduceIte, Nat.reduceEqDiff, cond_true, cond_false, or_true, true_or, or_false, false_or, and_true, true_and, and_self, false_and, and_false, not_true, not_false_iff, Nat.reduceAdd, Nat.reduceSub, Nat.reduceMul, Nat.reduceLT, Nat.reduceLeDiff, Int.reduceToNat, Int.reduceLT, Int.reduceLE, Option.getD, Int.reduceMul, Int.reduceAdd, List.drop, List.take, Nat.reduceBEq, List.isEmpty, Int.reduceEq, Int.reduceNe, Int.reduceNeg, Int.reduceGT, Int.reduceGE, beq_true, beq_false, UInt8.reduceToNat, eqE, eq_self, foldE, maxE, minE, eq_T, eq_F, ndec, odec, adec, sdec, fillA, over, chop, List.replicate, leavesOk, leafOk, cellsEq, cellEq, E_byref, en13, bs23, hb, h1, h3, show ∀ B fr H, execT E B 13 (Code.loop _) fr H = rlG E B 13 (loopAt Tryd.f13 0) (gcn B (norm [0, 6, 7, 8] fr) H) from fun B fr H => rl_intro rfl mt13_7 mb13_7 zf13_7 hd13_7 fr H]
        exact ⟨_, rfl, rfl, rfl, rfl, rfl⟩
  · obtain rfl : k = s.length := by omega
    rw [List.drop_length, List.takeWhile_nil, List.length_nil, Nat.add_zero]
    simp (disch := first | omega | (simp only [List.length_append, List.length_map, List.length_set, List.length_cons, List.length_nil, List.length_take, List.length_drop]; omega)) only [va0, va1, va2, va3, va4, va5, va6, va7, va8, va9, va10, va11, va12, va13, va14, vb0, vb1, vb2, vb3, w_i8, w_u8, w_i16, w_u16, w_i32, w_u32, w_i64, w_u64, lt_T, lt_F, le_T, le_F, nlt_T, nlt_F, nle_T, nle_F, List.take_of_length_le, gB, gcW, gcR, posIn, renA, renL, Chunk.ren, Chunk.refs, evOpD, touchD, stepC, isFresh, nFresh, freshOf, mkR, hole, evL, evH, opd, get, putD, ofVal, cellOf, loadE, behind, lenE, idxAddrE, idxE, addPtr, intE, strE, unE, convE, AV.int, AV.bool, AV.str, ivs, take, frameOf, firstRegion, refsA, refsL, one, cellsA, floatOk, apartT, List.map, if_true, if_false, E_P, E_glob0, reduceCtorEq, beq_self_eq_true, decide_true, decide_false, ↓reduceIte, Nat.reduceEqDiff, cond_true, cond_false, or_true, true_or, or_false, false_or, and_true, true_and, and_self, false_and, and_false, not_true, not_false_iff, Nat.reduceAdd, Nat.reduceSub, Nat.reduceMul, Nat.reduceLT, Nat.reduceLeDiff, Int.reduceToNat, Int.reduceLT, Int.reduceLE, Option.getD, Int.reduceMul, Int.reduceAdd, List.drop, List.take, Nat.reduceBEq, List.isEmpty, Int.reduceEq, Int.reduceNe, Int.reduceNeg, Int.reduceGT, Int.reduceGE, beq_true, beq_false, UInt8.reduceToNat, eqE, eq_self, foldE, maxE, minE, eq_T, eq_F, ndec, odec, adec, sdec, fillA, over, chop, List.replicate, leavesOk, leafOk, cellsEq, cellEq, E_byref, en13, bs23, show ∀ B fr H, execT E B 13 (Code.loop _) fr H = rlG E B 13 (loopAt Tryd.f13 0) (gcn B (norm [0, 6, 7, 8] fr) H) from fun B fr H => rl_intro rfl mt13_7 mb13_7 zf13_7 hd13_7 fr H]
    exact ⟨_, rfl, rfl, rfl, rfl, rfl⟩
termination_by s.length - k
theorem l13_1 (p q : List UInt8) (hs : q.length < 50000) (m : Int) (k : Nat) (hk : k ≤ q.length) :
    ∃ fr ex H, rl E 0 13 (loopAt Tryd.f13 1) [(6, .i (.v (.int .u8 m))), (9, .i (.str p)), (10, .i (.str q)), (11, .i (.v (.int .i64 k)))] [] =
      some (ex, fr, H) ∧ (((q.drop k).any badB = true ∧ ex = .ret ∧ H = [.sl 1 0 [] true] ∧ get 2 fr = .i (.v (.int .u8 0)) ∧ get 3 fr = .ref 0 0 0 0 ∧ get 4 fr = .i (.str []) ∧ get 5 fr = .i (.v (.int .i64 3))) ∨
        ((q.drop k).any badB = false ∧ ex = .exit 2 ∧ H = [] ∧ get 6 fr = .i (.v (.int .u8 m)) ∧ get 9 fr = .i (.str p) ∧ get 10 fr = .i (.str q))) := by
  rw [rl_step (fn := Tryd.f13) (k := 1) rfl]
  by_cases hlt : k < q.length
  · have hb := byte_at hlt
    have b1 := q[k].toNat_lt
    rw [List.drop_eq_getElem_cons hlt, List.any_cons]
    have hm := mid_bad q[k]
    obtain ⟨fr, ex, H, e, hh⟩ := l13_1 p q hs m (k + 1) hlt
    by_cases hbad : badB q[k] = true
    · clear e hh
      rw [hbad] at hm ⊢
      simp only [Bool.not_true] at hm
      generalize q[k] = b at *
      simp (disch := first | omega | (simp only [List.length_append, List.length_map, List.length_set, List.length_cons, List.length_nil, List.length_take, List.length_drop]; omega)) only [va0, va1, va2, va3, va4, va5, va6, va7, va8, va9, va10, va11, va12, va13, va14, vb0, vb1, vb2, vb3, w_i8, w_u8, w_i16, w_u16, w_i32, w_u32, w_i64, w_u64, lt_T, lt_F, le_T, le_F, nlt_T, nlt_F, nle_T, nle_F, List.take_of_length_le, gB, gcW, gcR, posIn, renA, renL, Chunk.ren, Chunk.refs, evOpD, touchD, stepC, isFresh, nFresh, freshOf, mkR, hole, evL, evH, opd, get, putD, ofVal, cellOf, loadE, behind, lenE, idxAddrE, idxE, addPtr, intE, strE, unE, convE, AV.int, AV.bool, AV.str, ivs, take, frameOf, firstRegion, refsA, refsL, one, cellsA, floatOk, apartT, List.map, if_true, if_false, E_P, E_glob0, reduceCtorEq, beq_self_eq_true, decide_true, decide_false, ↓reduceIte, Nat.reduceEqDiff, cond_true, cond_false, or_true, true_or, or_false, false_or, and_true, true_and, and_self, false_and, and_false, not_true, not_false_iff, Nat.reduceAdd, Nat.reduceSub, Nat.reduceMul, Nat.reduceLT, Nat.reduceLeDiff, Int.reduceToNat, Int.reduceLT, Int.reduceLE, Option.getD, Int.reduceMul, Int.reduceAdd, List.drop, List.take, Nat.reduceBEq, List.isEmpty, Int.reduceEq, Int.reduceNe, Int.reduceNeg, Int.reduceGT, Int.reduceGE, beq_true, beq_false, UInt8.reduceToNat, eqE, eq_self, foldE, maxE, minE, eq_T, eq_F, ndec, odec, adec, sdec, fillA, over, chop, List.replicate, leavesOk, leafOk, cellsEq, cellEq, E_byref, en13, bs23, hb, hm, ik25, show ∀ B fr H, execT E B 13 (Code.loop _) fr H = rlG E B 13 (loopAt Tryd.f13 1) (gcn B (norm [6, 9, 10, 11] fr) H) from fun B fr H => rl_intro rfl mt13_11 mb13_11 zf13_11 hd13_11 fr H]
      exact ⟨_, _, _, rfl, rfl, rfl, rfl, rfl, rfl, rfl⟩
    · rw [Bool.not_eq_true] at hbad
      rw [hbad] at hm ⊢
      simp only [Bool.not_false, Bool.false_or] at hm ⊢
      refine ⟨fr, ex, H, Eq.trans ?_ e, hh⟩
      clear e hh
      generalize q[k] = b at *
      simp (disch := first | omega | (simp only [List.length_append, List.length_map, List.length_set, List.length_cons, List.length_nil, List.length_take, List.length_drop]; omega)) only [va0, va1, va2, va3, va4, va5, va6, va7, va8, va9, va10, va11, va12, va13, va14, vb0, vb1, vb2, vb3, w_i8, w_u8, w_i16, w_u16, w_i32, w_u32, w_i64, w_u64, lt_T, lt_F, le_T, le_F, nlt_T, nlt_F, nle_T, nle_F, List.take_of_length_le, gB, gcW, gcR, posIn, renA, renL, Chunk.ren, Chunk.refs, evOpD, touchD, stepC, isFresh, nFresh, freshOf, mkR, hole, evL, evH, opd, get, putD, ofVal, cellOf, loadE, behind, lenE, idxAddrE, idxE, addPtr, intE, strE, unE, convE, AV.int, AV.bool, AV.str, ivs, take, frameOf, firstRegion, refsA, refsL, one, cellsA, floatOk, apartT, List.map, if_true, if_false, E_P, E_glob0, reduceCtorEq, beq_self_eq_true, decide_true, decide_false, ↓reduceIte, Nat.reduceEqDiff, cond_true, cond_false, or_true, true_or, or_false, false_or, and_true, true_and, and_self, false_and, and_false, not_true, not_false_iff, Nat.reduceAdd, Nat.reduceSub, Nat.reduceMul, Nat.reduceLT, Nat.reduceLeDiff, Int.reduceToNat, Int.reduceLT, Int.reduceLE, Option.getD, Int.reduceMul, Int.reduceAdd, List.drop, List.take, Nat.reduceBEq, List.isEmpty, Int.reduceEq, Int.reduceNe, Int.reduceNeg, Int.reduceGT, Int.reduceGE, beq_true, beq_false, UInt8.reduceToNat, eqE, eq_self, foldE, maxE, minE, eq_T, eq_F, ndec, odec, adec, sdec, fillA, over, chop, List.replicate, leavesOk, leafOk, cellsEq, cellEq, E_byref, en13, bs23, hb, hm, ik25, show ∀ B fr H, execT E B 13 (Code.loop _) fr H = rlG E B 13 (loopAt Tryd.f13 1) (gcn B (norm [6, 9, 10, 11] fr) H) from fun B fr H => rl_intro rfl mt13_11 mb13_11 zf13_11 hd13_11 fr H]
  · obtain rfl : k = q.length := by omega
    rw [List.drop_length, List.any_nil]
    simp (disch := first | omega | (simp only [List.length_append, List.length_map, List.length_set, List.length_cons, List.length_nil, List.length_take, List.length_drop]; omega)) only [va0, va1, va2, va3, va4, va5, va6, va7, va8, va9, va10, va11, va12, va13, va14, vb0, vb1, vb2, vb3, w_i8, w_u8, w_i16, w_u16, w_i32, w_u32, w_i64, w_u64, lt_T, lt_F, le_T, le_F, nlt_T, nlt_F, nle_T, nle_F, List.take_of_length_le, gB, gcW, gcR, posIn, renA, renL, Chunk.ren, Chunk.refs, evOpD, touchD, stepC, isFresh, nFresh, freshOf, mkR, hole, evL, evH, opd, get, putD, ofVal, cellOf, loadE, behind, lenE, idxAddrE, idxE, addPtr, intE, strE, unE, convE, AV.int, AV.bool, AV.str, ivs, take, frameOf, firstRegion, refsA, refsL, one, cellsA, floatOk, apartT, List.map, if_true, if_false, E_P, E_glob0, reduceCtorEq, beq_self_eq_true, decide_true, decide_false, ↓reduceIte, Nat.reduceEqDiff, cond_true, cond_false, or_true, true_or, or_false, false_or, and_true, true_and, and_self, false_and, and_false, not_true, not_false_iff, Nat.reduceAdd, Nat.reduceSub, Nat.reduceMul, Nat.reduceLT, Nat.reduceLeDiff, Int.reduceToNat, Int.reduceLT, Int.reduceLE, Option.getD, Int.reduceMul, Int.reduceAdd, List.drop, List.take, Nat.reduceBEq, List.isEmpty, Int.reduceEq, Int.reduceNe, Int.reduceNeg, Int.reduceGT, Int.reduceGE, beq_true, beq_false, UInt8.reduceToNat, eqE, eq_self, foldE, maxE, minE, eq_T, eq_F, ndec, odec, adec, sdec, fillA, over, chop, List.replicate, leavesOk, leafOk, cellsEq, cellEq, E_byref, en13, bs23, show ∀ B fr H, execT E B 13 (Code.loop _) fr H = rlG E B 13 (loopAt Tryd.f13 1) (gcn B (norm [6, 9, 10, 11] fr) H) from fun B fr H => rl_intro rfl mt13_11 mb13_11 zf13_11 hd13_11 fr H]
    exact ⟨_, _, _, rfl, rfl, rfl, rfl, rfl, rfl⟩
termination_by q.length - k
/-! its numbers, told by those of the other -/
def mn (n : Int) : Int := min n 9999
theorem rows64_last (A : List Int) (m : Int) : (rows64 (A ++ [m]))[A.length]? = some [.v (.int .i64 m)] := by simp [rows64]
theorem rows64_put (A : List Int) (m x : Int) : (rows64 (A ++ [m])).set A.length [.v (.int .i64 x)] = rows64 (A ++ [x]) := by simp [rows64]
def anyO (l : List Int) (n : Int) : Bool := (l ++ [n]).any over9999
theorem anyO_snoc (l : List Int) (n : Int) : anyO (l ++ [n]) (-1) = anyO l n := by simp [anyO, over9999]
theorem anyO_eq (l : List Int) (n : Int) : anyO l n = (l.any over9999 || decide (9999 < n)) := by simp [anyO, over9999]
theorem runP_cons {b : UInt8} {r : List UInt8} {l : List Int} {n : Int} {l' : List Int} {n' : Int} (h : stepP l n b.toNat = some (l', n')) : runP (b :: r) l n = runP r l' n' := by simp [runP, h]
theorem l13_2 (p q : List UInt8) (hp : p.length < 50000) (m : Int) (k : Nat) (hk : k ≤ p.length) (ha : (p.drop k).all pB = true) (l : List Int) (n : Int) (hl : l.length ≤ k) (hn : -1 ≤ n ∧ n ≤ 10000) :
    ∃ fr l' n', runP (p.drop k) l n = (l', n', []) ∧ rl E 0 13 (loopAt Tryd.f13 2) [(6, .i (.v (.int .u8 m))), (9, .i (.str p)), (10, .i (.str q)), (12, .ref 0 0 0 (l.length + 1)), (13, .i (.v (.bool (anyO l n)))), (14, .i (.v (.int .i64 (k))))] [.sl 1 0 (rows64 (l.map mn ++ [mn n])) false] = some (.exit 4, fr, [.sl 1 0 (rows64 (l'.map mn ++ [mn n'])) false]) ∧
      get 6 fr = .i (.v (.int .u8 m)) ∧ get 10 fr = .i (.str q) ∧ get 12 fr = .ref 0 0 0 (l'.length + 1) ∧ get 13 fr = .i (.v (.bool (anyO l' n'))) ∧ l'.length ≤ p.length := by
  rw [rl_step (fn := Tryd.f13) (k := 2) rfl]
  by_cases hlt : k < p.length
  · have hb := byte_at hlt
    have b1 := p[k].toNat_lt
    rw [List.drop_eq_getElem_cons hlt] at ha ⊢
    simp only [List.all_cons, Bool.and_eq_true] at ha
    obtain ⟨ha1, ha2⟩ := ha
    have h0 := rows64_last (l.map mn) (mn n)
    have h1 := rows64_put (l.map mn) (mn n)
    rw [List.length_map] at h0 h1
    have hidx : (((l.length + 1 : Nat) : Int) - 1).toNat = l.length := by omega
    by_cases hs : (p[k].toNat : Int) = 59
    · have hst : stepP l n p[k].toNat = some (l ++ [n], -1) := by rw [stepP, if_pos hs]
      rw [runP_cons hst]
      obtain ⟨fr, l', n', e0, e, f⟩ := l13_2 p q hp m (k + 1) hlt ha2 (l ++ [n]) (-1) (by simp; omega) (by omega)
      refine ⟨fr, l', n', e0, Eq.trans ?_ e, f⟩
      clear e f e0
      rw [anyO_snoc, List.map_append, List.length_append]
      have hm1 : mn (-1) = -1 := rfl
      generalize p[k] = b at *
      simp (disch := first | omega | (simp only [List.length_append, List.length_map, List.length_set, List.length_cons, List.length_nil, List.length_take, List.length_drop, rows64_len]; omega)) only [va0, va1, va2, va3, va4, va5, va6, va7, va8, va9, va10, va11, va12, va13, va14, vb0, vb1, vb2, vb3, w_i8, w_u8, w_i16, w_u16, w_i32, w_u32, w_i64, w_u64, lt_T, lt_F, le_T, le_F, nlt_T, nlt_F, nle_T, nle_F, List.take_of_length_le, gB, gcW, gcR, posIn, renA, renL, Chunk.ren, Chunk.refs, evOpD, touchD, stepC, isFresh, nFresh, freshOf, mkR, hole, evL, evH, opd, get, putD, ofVal, cellOf, loadE, behind, lenE, idxAddrE, idxE, addPtr, intE, strE, unE, convE, AV.int, AV.bool, AV.str, ivs, take, frameOf, firstRegion, refsA, refsL, one, cellsA, floatOk, apartT, List.map, if_true, if_false, E_P, E_glob0, reduceCtorEq, beq_self_eq_true, decide_true, decide_false, ↓reduceIte, Nat.reduceEqDiff, cond_true, cond_false, or_true, true_or, or_false, false_or, and_true, true_and, and_self, false_and, and_false, not_true, not_false_iff, Nat.reduceAdd, Nat.reduceSub, Nat.reduceMul, Nat.reduceLT, Nat.reduceLeDiff, Int.reduceToNat, Int.reduceLT, Int.reduceLE, Option.getD, Int.reduceMul, Int.reduceAdd, List.drop, List.take, Nat.reduceBEq, List.isEmpty, Int.reduceEq, Int.reduceNe, Int.reduceNeg, Int.reduceGT, Int.reduceGE, beq_true, beq_false, UInt8.reduceToNat, eqE, eq_self, foldE, maxE, minE, eq_T, eq_F, ndec, odec, adec, sdec, fillA, over, chop, List.replicate, leavesOk, leafOk, cellsEq, cellEq, E_byref, en13, bs23, hb, hs, h0, h1, hm1, rows64_len, rows64_snoc, List.length_append, List.map_cons, List.map_nil, show ∀ B fr H, execT E B 13 (Code.loop _) fr H = rlM E B 13 (loopAt Tryd.f13 2) [6, 9, 10, 12, 13, 14] [] (matF [(12, 1)] fr H).1 (matB [] (matF [(12, 1)] fr H).1 (matF [(12, 1)] fr H).2) from fun B fr H => rl_introM rfl mt13_20 mb13_20 zf13_20 hd13_20 fr H]
    · have hr : 48 ≤ (p[k].toNat : Int) ∧ (p[k].toNat : Int) ≤ 57 := by
        simp only [pB, Bool.or_eq_true, Bool.and_eq_true, decide_eq_true_eq, beq_iff_eq] at ha1
        omega
      have hst : stepP l n p[k].toNat = some (l, min (10 * max n 0 + (p[k].toNat - 48)) 10000) := by rw [stepP, if_neg hs, if_neg (by omega), if_neg (by omega)]
      rw [runP_cons hst]
      obtain ⟨fr, l', n', e0, e, f⟩ := l13_2 p q hp m (k + 1) hlt ha2 l _ (by omega) (show -1 ≤ min (10 * max n 0 + ((p[k].toNat : Int) - 48)) 10000 ∧ min (10 * max n 0 + ((p[k].toNat : Int) - 48)) 10000 ≤ 10000 by omega)
      refine ⟨fr, l', n', e0, Eq.trans ?_ e, f⟩
      clear e f e0 hst
      rw [anyO_eq, anyO_eq]
      generalize hbg : l.any over9999 = bg
      generalize p[k] = b at *
      generalize hD : (b.toNat : Int) - 48 = D
      have hD2 : 0 ≤ D ∧ D ≤ 9 := by omega
      by_cases c1 : mn n < 0
      · have e1 : mn (min (10 * max n 0 + D) 10000) = D := by unfold mn at *; omega
        have e2 : decide (9999 < min (10 * max n 0 + D) 10000) = false := decide_eq_false (by unfold mn at *; omega)
        have e3 : decide (9999 < n) = false := decide_eq_false (by unfold mn at *; omega)
        rw [e1, e2, e3]
        clear e1 e2 e3
        generalize mn n = x at *
        subst hD
        simp (disch := first | omega | (simp only [List.length_append, List.length_map, List.length_set, List.length_cons, List.length_nil, List.length_take, List.length_drop, rows64_len]; omega)) only [va0, va1, va2, va3, va4, va5, va6, va7, va8, va9, va10, va11, va12, va13, va14, vb0, vb1, vb2, vb3, w_i8, w_u8, w_i16, w_u16, w_i32, w_u32, w_i64, w_u64, lt_T, lt_F, le_T, le_F, nlt_T, nlt_F, nle_T, nle_F, List.take_of_length_le, gB, gcW, gcR, posIn, renA, renL, Chunk.ren, Chunk.refs, evOpD, touchD, stepC, isFresh, nFresh, freshOf, mkR, hole, evL, evH, opd, get, putD, ofVal, cellOf, loadE, behind, lenE, idxAddrE, idxE, addPtr, intE, strE, unE, convE, AV.int, AV.bool, AV.str, ivs, take, frameOf, firstRegion, refsA, refsL, one, cellsA, floatOk, apartT, List.map, if_true, if_false, E_P, E_glob0, reduceCtorEq, beq_self_eq_true, decide_true, decide_false, ↓reduceIte, Nat.reduceEqDiff, cond_true, cond_false, or_true, true_or, or_false, false_or, and_true, true_and, and_self, false_and, and_false, not_true, not_false_iff, Nat.reduceAdd, Nat.reduceSub, Nat.reduceMul, Nat.reduceLT, Nat.reduceLeDiff, Int.reduceToNat, Int.reduceLT, Int.reduceLE, Option.getD, Int.reduceMul, Int.reduceAdd, List.drop, List.take, Nat.reduceBEq, List.isEmpty, Int.reduceEq, Int.reduceNe, Int.reduceNeg, Int.reduceGT, Int.reduceGE, beq_true, beq_false, UInt8.reduceToNat, eqE, eq_self, foldE, maxE, minE, eq_T, eq_F, ndec, odec, adec, sdec, fillA, over, chop, List.replicate, leavesOk, leafOk, cellsEq, cellEq, E_byref, en13, bs23, hb, hs, h0, h1, hidx, Int.zero_add, Bool.or_false, c1, rows64_len, show ∀ B fr H, execT E B 13 (Code.loop _) fr H = rlM E B 13 (loopAt Tryd.f13 2) [6, 9, 10, 12, 13, 14] [] (matF [(12, 1)] fr H).1 (matB [] (matF [(12, 1)] fr H).1 (matF [(12, 1)] fr H).2) from fun B fr H => rl_introM rfl mt13_20 mb13_20 zf13_20 hd13_20 fr H]
      · by_cases c2 : 9999 < 10 * mn n + D
        · have e1 : mn (min (10 * max n 0 + D) 10000) = 9999 := by unfold mn at *; omega
          have e2 : decide (9999 < min (10 * max n 0 + D) 10000) = true := decide_eq_true (by unfold mn at *; omega)
          rw [e1, e2, Bool.or_true]
          clear e1 e2
          have hx : mn n ≤ 9999 := by unfold mn; omega
          generalize mn n = x at *
          subst hD
          simp (disch := first | omega | (simp only [List.length_append, List.length_map, List.length_set, List.length_cons, List.length_nil, List.length_take, List.length_drop, rows64_len]; omega)) only [va0, va1, va2, va3, va4, va5, va6, va7, va8, va9, va10, va11, va12, va13, va14, vb0, vb1, vb2, vb3, w_i8, w_u8, w_i16, w_u16, w_i32, w_u32, w_i64, w_u64, lt_T, lt_F, le_T, le_F, nlt_T, nlt_F, nle_T, nle_F, List.take_of_length_le, gB, gcW, gcR, posIn, renA, renL, Chunk.ren, Chunk.refs, evOpD, touchD, stepC, isFresh, nFresh, freshOf, mkR, hole, evL, evH, opd, get, putD, ofVal, cellOf, loadE, behind, lenE, idxAddrE, idxE, addPtr, intE, strE, unE, convE, AV.int, AV.bool, AV.str, ivs, take, frameOf, firstRegion, refsA, refsL, one, cellsA, floatOk, apartT, List.map, if_true, if_false, E_P, E_glob0, reduceCtorEq, beq_self_eq_true, decide_true, decide_false, ↓reduceIte, Nat.reduceEqDiff, cond_true, cond_false, or_true, true_or, or_false, false_or, and_true, true_and, and_self, false_and, and_false, not_true, not_false_iff, Nat.reduceAdd, Nat.reduceSub, Nat.reduceMul, Nat.reduceLT, Nat.reduceLeDiff, Int.reduceToNat, Int.reduceLT, Int.reduceLE, Option.getD, Int.reduceMul, Int.reduceAdd, List.drop, List.take, Nat.reduceBEq, List.isEmpty, Int.reduceEq, Int.reduceNe, Int.reduceNeg, Int.reduceGT, Int.reduceGE, beq_true, beq_false, UInt8.reduceToNat, eqE, eq_self, foldE, maxE, minE, eq_T, eq_F, ndec, odec, adec, sdec, fillA, over, chop, List.replicate, leavesOk, leafOk, cellsEq, cellEq, E_byref, en13, bs23, hb, hs, h0, h1, hidx, Int.zero_add, Bool.or_false, c1, c2, rows64_len, show ∀ B fr H, execT E B 13 (Code.loop _) fr H = rlM E B 13 (loopAt Tryd.f13 2) [6, 9, 10, 12, 13, 14] [] (matF [(12, 1)] fr H).1 (matB [] (matF [(12, 1)] fr H).1 (matF [(12, 1)] fr H).2) from fun B fr H => rl_introM rfl mt13_20 mb13_20 zf13_20 hd13_20 fr H]
        · have e1 : mn (min (10 * max n 0 + D) 10000) = 10 * mn n + D := by unfold mn at *; omega
          have e2 : decide (9999 < min (10 * max n 0 + D) 10000) = false := decide_eq_false (by unfold mn at *; omega)
          have e3 : decide (9999 < n) = false := decide_eq_false (by unfold mn at *; omega)
          rw [e1, e2, e3]
          clear e1 e2 e3
          have hx : mn n ≤ 9999 := by unfold mn; omega
          generalize mn n = x at *
          subst hD
          simp (disch := first | omega | (simp only [List.length_append, List.length_map, List.length_set, List.length_cons, List.length_nil, List.length_take, List.length_drop, rows64_len]; omega)) only [va0, va1, va2, va3, va4, va5, va6, va7, va8, va9, va10, va11, va12, va13, va14, vb0, vb1, vb2, vb3, w_i8, w_u8, w_i16, w_u16, w_i32, w_u32, w_i64, w_u64, lt_T, lt_F, le_T, le_F, nlt_T, nlt_F, nle_T, nle_F, List.take_of_length_le, gB, gcW, gcR, posIn, renA, renL, Chunk.ren, Chunk.refs, evOpD, touchD, stepC, isFresh, nFresh, freshOf, mkR, hole, evL, evH, opd, get, putD, ofVal, cellOf, loadE, behind, lenE, idxAddrE, idxE, addPtr, intE, strE, unE, convE, AV.int, AV.bool, AV.str, ivs, take, frameOf, firstRegion, refsA, refsL, one, cellsA, floatOk, apartT, List.map, if_true, if_false, E_P, E_glob0, reduceCtorEq, beq_self_eq_true, decide_true, decide_false, ↓reduceIte, Nat.reduceEqDiff, cond_true, cond_false, or_true, true_or, or_false, false_or, and_true, true_and, and_self, false_and, and_false, not_true, not_false_iff, Nat.reduceAdd, Nat.reduceSub, Nat.reduceMul, Nat.reduceLT, Nat.reduceLeDiff, Int.reduceToNat, Int.reduceLT, Int.reduceLE, Option.getD, Int.reduceMul, Int.reduceAdd, List.drop, List.take, Nat.reduceBEq, List.isEmpty, Int.reduceEq, Int.reduceNe, Int.reduceNeg, Int.reduceGT, Int.reduceGE, beq_true, beq_false, UInt8.reduceToNat, eqE, eq_self, foldE, maxE, minE, eq_T, eq_F, ndec, odec, adec, sdec, fillA, over, chop, List.replicate, leavesOk, leafOk, cellsEq, cellEq, E_byref, en13, bs23, hb, hs, h0, h1, hidx, Int.zero_add, Bool.or_false, c1, c2, rows64_len, show ∀ B fr H, execT E B 13 (Code.loop _) fr H = rlM E B 13 (loopAt Tryd.f13 2) [6, 9, 10, 12, 13, 14] [] (matF [(12, 1)] fr H).1 (matB [] (matF [(12, 1)] fr H).1 (matF [(12, 1)] fr H).2) from fun B fr H => rl_introM rfl mt13_20 mb13_20 zf13_20 hd13_20 fr H]
  · obtain rfl : k = p.length := by omega
    rw [List.drop_length, runP]
    have hlm : (l.map mn).length = l.length := List.length_map ..
    simp (disch := first | omega | (simp only [List.length_append, List.length_map, List.length_set, List.length_cons, List.length_nil, List.length_take, List.length_drop, rows64_len]; omega)) only [va0, va1, va2, va3, va4, va5, va6, va7, va8, va9, va10, va11, va12, va13, va14, vb0, vb1, vb2, vb3, w_i8, w_u8, w_i16, w_u16, w_i32, w_u32, w_i64, w_u64, lt_T, lt_F, le_T, le_F, nlt_T, nlt_F, nle_T, nle_F, List.take_of_length_le, gB, gcW, gcR, posIn, renA, renL, Chunk.ren, Chunk.refs, evOpD, touchD, stepC, isFresh, nFresh, freshOf, mkR, hole, evL, evH, opd, get, putD, ofVal, cellOf, loadE, behind, lenE, idxAddrE, idxE, addPtr, intE, strE, unE, convE, AV.int, AV.bool, AV.str, ivs, take, frameOf, firstRegion, refsA, refsL, one, cellsA, floatOk, apartT, List.map, if_true, if_false, E_P, E_glob0, reduceCtorEq, beq_self_eq_true, decide_true, decide_false, ↓reduceIte, Nat.reduceEqDiff, cond_true, cond_false, or_true, true_or, or_false, false_or, and_true, true_and, and_self, false_and, and_false, not_true, not_false_iff, Nat.reduceAdd, Nat.reduceSub, Nat.reduceMul, Nat.reduceLT, Nat.reduceLeDiff, Int.reduceToNat, Int.reduceLT, Int.reduceLE, Option.getD, Int.reduceMul, Int.reduceAdd, List.drop, List.take, Nat.reduceBEq, List.isEmpty, Int.reduceEq, Int.reduceNe, Int.reduceNeg, Int.reduceGT, Int.reduceGE, beq_true, beq_false, UInt8.reduceToNat, eqE, eq_self, foldE, maxE, minE, eq_T, eq_F, ndec, odec, adec, sdec, fillA, over, chop, List.replicate, leavesOk, leafOk, cellsEq, cellEq, E_byref, en13, bs23, rows64_len, show ∀ B fr H, execT E B 13 (Code.loop _) fr H = rlM E B 13 (loopAt Tryd.f13 2) [6, 9, 10, 12, 13, 14] [] (matF [(12, 1)] fr H).1 (matB [] (matF [(12, 1)] fr H).1 (matF [(12, 1)] fr H).2) from fun B fr H => rl_introM rfl mt13_20 mb13_20 zf13_20 hd13_20 fr H]
    exact ⟨_, l, n, rfl, rfl, rfl, rfl, rfl, rfl, hl⟩
termination_by p.length - k
end Go.VI
