import Derived.Test.YtcifhkdbaienjaaV15
namespace Go.VI
open Go.Proofs
set_option maxRecDepth 100000
set_option linter.unusedSimpArgs false
set_option linter.unusedVariables false
set_option maxHeartbeats 4000000
/-! printable text between deletes -/
def txN (b : UInt8) : Nat := 32 + b.toNat % 95
def txB (b : UInt8) : UInt8 := UInt8.ofNat (txN b)
def txT : List UInt8 → List UInt8
  | [] => []
  | b :: r => txB b :: 127 :: txT r
def txE (s : List UInt8) : List Ev := s.map fun b => prEv (txN b)
theorem txN_lt (b : UInt8) : 32 ≤ txN b ∧ txN b < 127 := by unfold txN; omega
theorem txB_nat (b : UInt8) : (txB b).toNat = txN b := by
  have := txN_lt b
  unfold txB
  rw [UInt8.toNat_ofNat']
  exact Nat.mod_eq_of_lt (by omega)
theorem txT_len : ∀ s : List UInt8, (txT s).length = 2 * s.length
  | [] => rfl
  | b :: r => by have := txT_len r; simp only [txT, List.length_cons]; omega
theorem text_run : ∀ s : List UInt8, runF (txT s) p0 = (p0, txE s)
  | [] => rfl
  | b :: r => by
    have hb := txN_lt b
    have h1 : readS p0 (txB b) = (p0, [prEv (txN b)]) := by
      have := ascii_read [] (txB b) (by rw [txB_nat]; omega) (by rw [txB_nat]; omega)
      rw [txB_nat] at this
      exact this
    have h2 : readS p0 127 = (p0, []) := rfl
    have ih := text_run r
    simp only [txT, runF, h1, h2, ih]
    rfl
theorem text_feed (p : Ps) (s : List UInt8) : ∃ lo, feedS p (24 :: txT s) = (p0, lo ++ txE s) ∧ (lo = [] ∨ lo = [prEv 65533]) := by
  refine ⟨if (startS p).st = 0 then lostS (startS p).pe else [], ?_, ?_⟩
  · unfold feedS
    simp only [runF, cancel_read (proper_start p), text_run]
  · split
    · unfold lostS; split
      · exact .inl rfl
      · exact .inr rfl
    · exact .inl rfl
theorem l5 (a : Int) (b c s : List UInt8) (hs : s.length ≤ 400) (k : Nat) (hk : k ≤ s.length) (t : List UInt8) (ht : t.length = 1 + 2 * k) (w : List Ev) (n : Nat) (hn : n = w.length) (hnk : n = k) :
    ∃ fr, rl E 0 5 (loopAt Try.f5 0) [(1, .i (.str s)), (2, .ptr 0 0 0 0), (5, .i (.str (t))), (6, .ref 1 0 0 (n)), (17, .i (.v (.int .i64 s.length))), (18, .i (.v (.int .i64 (k))))] [.box [.i (.v (.int .i64 a)), .i (.str b), .i (.str c)], .sl 7 0 (rowsEv (w)) false] = some (.exit 0, fr, [.box [.i (.v (.int .i64 a)), .i (.str b), .i (.str c)], .sl 7 0 (rowsEv (w ++ txE (s.drop k))) false]) ∧
      get 1 fr = .i (.str s) ∧ get 2 fr = .ptr 0 0 0 0 ∧ get 5 fr = .i (.str (t ++ txT (s.drop k))) ∧ get 6 fr = .ref 1 0 0 (n + (s.length - k)) := by
  rw [rl_step (fn := Try.f5) (k := 0) rfl]
  by_cases hlt : k < s.length
  · have hb := byte_at hlt
    rw [List.drop_eq_getElem_cons hlt, txT]
    have htx : txE (s[k] :: s.drop (k + 1)) = prEv (txN s[k]) :: txE (s.drop (k + 1)) := rfl
    rw [htx]
    obtain ⟨fr, e, f1, f2, f5, f6⟩ := l5 a b c s hs (k + 1) hlt (t ++ [txB s[k], 127]) (by simp; omega) (w ++ [prEv (txN s[k])]) (n + 1) (by simp; omega) (by omega)
    rw [List.append_assoc] at e f5
    refine ⟨fr, Eq.trans ?_ e, f1, f2, f5, by rw [f6, show n + 1 + (s.length - (k + 1)) = n + (s.length - k) by omega]⟩
    clear e f1 f2 f5 f6 htx
    have hx : Int.tmod (s[k].toNat : Int) 95 = ((s[k].toNat % 95 : Nat) : Int) := rfl
    have hy : 32 + Int.tmod (s[k].toNat : Int) 95 = (txN s[k] : Int) := by rw [hx]; unfold txN; omega
    have hy2 := txN_lt s[k]
    have hrx := hx
    unfold txB
    generalize txN s[k] = y at *
    generalize s[k] = x at *
    simp (disch := first | omega | (simp only [List.length_append, List.length_map, List.length_set, List.length_cons, List.length_nil, List.length_take, List.length_drop, rowsEv_len]; omega)) only [va0, va1, va2, va3, va4, va5, va6, va7, va8, va9, va10, va11, va12, va13, va14, vb0, vb1, vb2, vb3, w_i8, w_u8, w_i16, w_u16, w_i32, w_u32, w_i64, w_u64, lt_T, lt_F, le_T, le_F, nlt_T, nlt_F, nle_T, nle_F, List.take_of_length_le, gB, gcW, gcR, posIn, renA, renL, Chunk.ren, Chunk.refs, evOpD, touchD, stepC, isFresh, nFresh, freshOf, mkR, hole, evL, evH, opd, get, putD, ofVal, cellOf, loadE, behind, lenE, idxAddrE, idxE, addPtr, intE, strE, unE, convE, AV.int, AV.bool, AV.str, ivs, take, frameOf, firstRegion, refsA, refsL, one, cellsA, floatOk, apartT, List.map, if_true, if_false, E_P, E_glob, reduceCtorEq, beq_self_eq_true, decide_true, decide_false, ↓reduceIte, Nat.reduceEqDiff, cond_true, cond_false, or_true, true_or, or_false, false_or, and_true, true_and, and_self, false_and, and_false, not_true, not_false_iff, Nat.reduceAdd, Nat.reduceSub, Nat.reduceMul, Nat.reduceLT, Nat.reduceLeDiff, Int.reduceToNat, Int.reduceLT, Int.reduceLE, Option.getD, Int.reduceMul, Int.reduceAdd, List.drop, List.take, Nat.reduceBEq, List.isEmpty, Int.reduceEq, Int.reduceNe, Int.reduceNeg, Int.reduceGT, Int.reduceGE, beq_true, beq_false, UInt8.reduceToNat, eqE, eq_self, foldE, maxE, minE, eq_T, eq_F, ndec, odec, adec, sdec, fillA, over, chop, List.replicate, leavesOk, leafOk, cellsEq, cellEq, E_ext, E_byref, en5, bs27, bs36, hb, hy, rowsEv_len, rowsEv_snoc_e, show ∀ B fr H, execT E B 5 (Code.loop _) fr H = rlM E B 5 (loopAt Try.f5 0) [1, 2, 5, 6, 17, 18] [] (matF [(6, 7)] fr H).1 (matB [] (matF [(6, 7)] fr H).1 (matF [(6, 7)] fr H).2) from fun B fr H => rl_introM rfl mt5_5 mb5_5 zf5_5 hd5_5 fr H]
    all_goals rfl
  · obtain rfl : k = s.length := by omega
    rw [List.drop_length, txT]
    have htx : txE [] = [] := rfl
    rw [htx, List.append_nil, List.append_nil, Nat.sub_self, Nat.add_zero]
    simp (disch := first | omega | (simp only [List.length_append, List.length_map, List.length_set, List.length_cons, List.length_nil, List.length_take, List.length_drop, rowsEv_len]; omega)) only [va0, va1, va2, va3, va4, va5, va6, va7, va8, va9, va10, va11, va12, va13, va14, vb0, vb1, vb2, vb3, w_i8, w_u8, w_i16, w_u16, w_i32, w_u32, w_i64, w_u64, lt_T, lt_F, le_T, le_F, nlt_T, nlt_F, nle_T, nle_F, List.take_of_length_le, gB, gcW, gcR, posIn, renA, renL, Chunk.ren, Chunk.refs, evOpD, touchD, stepC, isFresh, nFresh, freshOf, mkR, hole, evL, evH, opd, get, putD, ofVal, cellOf, loadE, behind, lenE, idxAddrE, idxE, addPtr, intE, strE, unE, convE, AV.int, AV.bool, AV.str, ivs, take, frameOf, firstRegion, refsA, refsL, one, cellsA, floatOk, apartT, List.map, if_true, if_false, E_P, E_glob, reduceCtorEq, beq_self_eq_true, decide_true, decide_false, ↓reduceIte, Nat.reduceEqDiff, cond_true, cond_false, or_true, true_or, or_false, false_or, and_true, true_and, and_self, false_and, and_false, not_true, not_false_iff, Nat.reduceAdd, Nat.reduceSub, Nat.reduceMul, Nat.reduceLT, Nat.reduceLeDiff, Int.reduceToNat, Int.reduceLT, Int.reduceLE, Option.getD, Int.reduceMul, Int.reduceAdd, List.drop, List.take, Nat.reduceBEq, List.isEmpty, Int.reduceEq, Int.reduceNe, Int.reduceNeg, Int.reduceGT, Int.reduceGE, beq_true, beq_false, UInt8.reduceToNat, eqE, eq_self, foldE, maxE, minE, eq_T, eq_F, ndec, odec, adec, sdec, fillA, over, chop, List.replicate, leavesOk, leafOk, cellsEq, cellEq, E_ext, E_byref, en5, bs27, bs36, rowsEv_len, show ∀ B fr H, execT E B 5 (Code.loop _) fr H = rlM E B 5 (loopAt Try.f5 0) [1, 2, 5, 6, 17, 18] [] (matF [(6, 7)] fr H).1 (matB [] (matF [(6, 7)] fr H).1 (matF [(6, 7)] fr H).2) from fun B fr H => rl_introM rfl mt5_5 mb5_5 zf5_5 hd5_5 fr H]
    exact ⟨_, rfl, rfl, rfl, rfl, rfl⟩
termination_by s.length - k
theorem evS_tx (s : List UInt8) : evS (txE s) := fun e he => by
  unfold txE at he
  obtain ⟨x, _, rfl⟩ := List.mem_map.1 he
  simp [prEv]
theorem law5 (a : Int) (b c s : List UInt8) : ∃ L, callT E 5 [.agg (psC ⟨a, b, c⟩), .i (.str s)] [] = some (.i (.v (.bool true)), L) := by
  have hlg := fun H => ik7 ⟨a, b, c⟩ s H 
  cases hl : largeB ⟨a, b, c⟩ s with 
  | true => 
    rw [hl] at hlg 
    unfold psC at * 
    rw [callT_eq Try.func5 rfl fok5 (by simp [Try.ntmps5])] 
    simp (disch := first | omega | (simp only [List.length_append, List.length_map, List.length_set, List.length_cons, List.length_nil, List.length_take, List.length_drop]; omega)) only [va0, va1, va2, va3, va4, va5, va6, va7, va8, va9, va10, va11, va12, va13, va14, vb0, vb1, vb2, vb3, w_i8, w_u8, w_i16, w_u16, w_i32, w_u32, w_i64, w_u64, lt_T, lt_F, le_T, le_F, nlt_T, nlt_F, nle_T, nle_F, List.take_of_length_le, gB, gcW, gcR, posIn, renA, renL, Chunk.ren, Chunk.refs, evOpD, touchD, stepC, isFresh, nFresh, freshOf, mkR, hole, evL, evH, opd, get, putD, ofVal, cellOf, loadE, behind, lenE, idxAddrE, idxE, addPtr, intE, strE, unE, convE, AV.int, AV.bool, AV.str, ivs, take, frameOf, firstRegion, refsA, refsL, one, cellsA, floatOk, apartT, List.map, if_true, if_false, E_P, E_glob, reduceCtorEq, beq_self_eq_true, decide_true, decide_false, ↓reduceIte, Nat.reduceEqDiff, cond_true, cond_false, or_true, true_or, or_false, false_or, and_true, true_and, and_self, false_and, and_false, not_true, not_false_iff, Nat.reduceAdd, Nat.reduceSub, Nat.reduceMul, Nat.reduceLT, Nat.reduceLeDiff, Int.reduceToNat, Int.reduceLT, Int.reduceLE, Option.getD, Int.reduceMul, Int.reduceAdd, List.drop, List.take, Nat.reduceBEq, List.isEmpty, Int.reduceEq, Int.reduceNe, Int.reduceNeg, Int.reduceGT, Int.reduceGE, beq_true, beq_false, UInt8.reduceToNat, eqE, eq_self, foldE, maxE, minE, eq_T, eq_F, ndec, odec, adec, sdec, fillA, over, chop, List.replicate, leavesOk, leafOk, cellsEq, cellEq, E_ext, E_byref, en5, bs27, bs36, hlg, ik8] 
    exact ⟨_, rfl⟩ 
  | false => 
    rw [hl] at hlg 
    obtain ⟨h1, h2, h3⟩ := small_of hl 
    dsimp only at h1 h2 
    unfold psC at *
    obtain ⟨fr, e, f1, f2, f5, f6⟩ := l5 a b c s h3 0 (Nat.zero_le _) [24] rfl [] 0 rfl rfl
    rw [List.drop_zero] at e f5
    rw [List.nil_append] at e
    rw [List.cons_append, List.nil_append] at f5
    rw [Nat.sub_zero, Nat.zero_add] at f6
    obtain ⟨lo, hf, hlo⟩ := text_feed ⟨a, b, c⟩ s
    have htl := txT_len s
    have k1 := fun H => ik9_c a b c (24 :: txT s) (by omega) (by omega) (by simp; omega) H
    rw [hf] at k1
    dsimp only [p0] at k1
    have hwl : (txE s).length = s.length := List.length_map ..
    have hsame := fun H => ik10 (txE s) (by omega) (few_of (evS_tx s)) H
    have he := eqP 0 0 [] [] [] []
    simp only [decide_true, beq_self_eq_true, Bool.and_self] at he
    have hr1 := rowsEv_len (txE s)
    rw [hwl] at hr1
    have hz : rowsEv [] = [] := rfl
    rw [hz] at e
    have e' : rl E 0 5 (loopAt Try.f5 0) [(1, .i (.str s)), (2, .ptr 0 0 0 0), (5, .i (.str ([24]))), (6, .ref 1 0 0 (0)), (17, .i (.v (.int .i64 s.length))), (18, .i (.v (.int .i64 (0))))] [.box [.i (.v (.int .i64 a)), .i (.str b), .i (.str c)], .sl 7 0 [] false] = _ := e
    rcases hlo with rfl | rfl
    · rw [List.nil_append] at k1
      cases s with
      | nil =>
        have hz2 : txE [] = [] := rfl
        simp only [hz2, hz, List.length_nil, Int.natCast_zero, txT] at k1 e' hsame hr1 f5 f6
        rw [callT_eq Try.func5 rfl fok5 (by simp [Try.ntmps5])]
        simp (disch := first | omega | (simp only [List.length_append, List.length_map, List.length_set, List.length_cons, List.length_nil, List.length_take, List.length_drop]; omega)) only [va0, va1, va2, va3, va4, va5, va6, va7, va8, va9, va10, va11, va12, va13, va14, vb0, vb1, vb2, vb3, w_i8, w_u8, w_i16, w_u16, w_i32, w_u32, w_i64, w_u64, lt_T, lt_F, le_T, le_F, nlt_T, nlt_F, nle_T, nle_F, List.take_of_length_le, gB, gcW, gcR, posIn, renA, renL, Chunk.ren, Chunk.refs, evOpD, touchD, stepC, isFresh, nFresh, freshOf, mkR, hole, evL, evH, opd, get, putD, ofVal, cellOf, loadE, behind, lenE, idxAddrE, idxE, addPtr, intE, strE, unE, convE, AV.int, AV.bool, AV.str, ivs, take, frameOf, firstRegion, refsA, refsL, one, cellsA, floatOk, apartT, List.map, if_true, if_false, E_P, E_glob, reduceCtorEq, beq_self_eq_true, decide_true, decide_false, ↓reduceIte, Nat.reduceEqDiff, cond_true, cond_false, or_true, true_or, or_false, false_or, and_true, true_and, and_self, false_and, and_false, not_true, not_false_iff, Nat.reduceAdd, Nat.reduceSub, Nat.reduceMul, Nat.reduceLT, Nat.reduceLeDiff, Int.reduceToNat, Int.reduceLT, Int.reduceLE, Option.getD, Int.reduceMul, Int.reduceAdd, List.drop, List.take, Nat.reduceBEq, List.isEmpty, Int.reduceEq, Int.reduceNe, Int.reduceNeg, Int.reduceGT, Int.reduceGE, beq_true, beq_false, UInt8.reduceToNat, eqE, eq_self, foldE, maxE, minE, eq_T, eq_F, ndec, odec, adec, sdec, fillA, over, chop, List.replicate, leavesOk, leafOk, cellsEq, cellEq, E_ext, E_byref, en5, bs27, bs36, hlg, e', f1, f2, f5, f6, k1, he, hsame, ik8, List.length_nil, Int.natCast_zero, show ∀ B fr H, execT E B 5 (Code.loop _) fr H = rlM E B 5 (loopAt Try.f5 0) [1, 2, 5, 6, 17, 18] [] (matF [(6, 7)] fr H).1 (matB [] (matF [(6, 7)] fr H).1 (matF [(6, 7)] fr H).2) from fun B fr H => rl_introM rfl mt5_5 mb5_5 zf5_5 hd5_5 fr H]
        exact ⟨_, rfl⟩
      | cons x r =>
        have hc0 : (rowsEv (txE (x :: r)))[0]? = some (evC (prEv (txN x))) := rfl
        have hne : ¬ (txN x : Int) = 65533 := by have := txN_lt x; omega
        simp only [evC, prEv] at hc0
        generalize txN x = y at *
        generalize hE : txE (x :: r) = ev at *
        simp only [List.length_cons] at e' f6 hr1
        rw [callT_eq Try.func5 rfl fok5 (by simp [Try.ntmps5])]
        simp (disch := first | omega | (simp only [List.length_append, List.length_map, List.length_set, List.length_cons, List.length_nil, List.length_take, List.length_drop, hr1]; omega)) only [va0, va1, va2, va3, va4, va5, va6, va7, va8, va9, va10, va11, va12, va13, va14, vb0, vb1, vb2, vb3, w_i8, w_u8, w_i16, w_u16, w_i32, w_u32, w_i64, w_u64, lt_T, lt_F, le_T, le_F, nlt_T, nlt_F, nle_T, nle_F, List.take_of_length_le, gB, gcW, gcR, posIn, renA, renL, Chunk.ren, Chunk.refs, evOpD, touchD, stepC, isFresh, nFresh, freshOf, mkR, hole, evL, evH, opd, get, putD, ofVal, cellOf, loadE, behind, lenE, idxAddrE, idxE, addPtr, intE, strE, unE, convE, AV.int, AV.bool, AV.str, ivs, take, frameOf, firstRegion, refsA, refsL, one, cellsA, floatOk, apartT, List.map, if_true, if_false, E_P, E_glob, reduceCtorEq, beq_self_eq_true, decide_true, decide_false, ↓reduceIte, Nat.reduceEqDiff, cond_true, cond_false, or_true, true_or, or_false, false_or, and_true, true_and, and_self, false_and, and_false, not_true, not_false_iff, Nat.reduceAdd, Nat.reduceSub, Nat.reduceMul, Nat.reduceLT, Nat.reduceLeDiff, Int.reduceToNat, Int.reduceLT, Int.reduceLE, Option.getD, Int.reduceMul, Int.reduceAdd, List.drop, List.take, Nat.reduceBEq, List.isEmpty, Int.reduceEq, Int.reduceNe, Int.reduceNeg, Int.reduceGT, Int.reduceGE, beq_true, beq_false, UInt8.reduceToNat, eqE, eq_self, foldE, maxE, minE, eq_T, eq_F, ndec, odec, adec, sdec, fillA, over, chop, List.replicate, leavesOk, leafOk, cellsEq, cellEq, E_ext, E_byref, en5, bs27, bs36, hlg, e', f1, f2, f5, f6, k1, he, hsame, hr1, hc0, hne, ik8, List.take_of_length_le, List.length_cons, show ∀ B fr H, execT E B 5 (Code.loop _) fr H = rlM E B 5 (loopAt Try.f5 0) [1, 2, 5, 6, 17, 18] [] (matF [(6, 7)] fr H).1 (matB [] (matF [(6, 7)] fr H).1 (matF [(6, 7)] fr H).2) from fun B fr H => rl_introM rfl mt5_5 mb5_5 zf5_5 hd5_5 fr H]
        exact ⟨_, rfl⟩
    · have hc0 : rowsEv ([prEv 65533] ++ txE s) = [.v (.int .i64 1), .v (.int .i32 65533), .v (.int .u8 0), .v (.int .u8 0), .str [], .sl 1 [] false, .str []] :: rowsEv (txE s) := rfl
      rw [hc0] at k1
      rw [callT_eq Try.func5 rfl fok5 (by simp [Try.ntmps5])]
      simp (disch := first | omega | (simp only [List.length_append, List.length_map, List.length_set, List.length_cons, List.length_nil, List.length_take, List.length_drop, hr1]; omega)) only [va0, va1, va2, va3, va4, va5, va6, va7, va8, va9, va10, va11, va12, va13, va14, vb0, vb1, vb2, vb3, w_i8, w_u8, w_i16, w_u16, w_i32, w_u32, w_i64, w_u64, lt_T, lt_F, le_T, le_F, nlt_T, nlt_F, nle_T, nle_F, List.take_of_length_le, gB, gcW, gcR, posIn, renA, renL, Chunk.ren, Chunk.refs, evOpD, touchD, stepC, isFresh, nFresh, freshOf, mkR, hole, evL, evH, opd, get, putD, ofVal, cellOf, loadE, behind, lenE, idxAddrE, idxE, addPtr, intE, strE, unE, convE, AV.int, AV.bool, AV.str, ivs, take, frameOf, firstRegion, refsA, refsL, one, cellsA, floatOk, apartT, List.map, if_true, if_false, E_P, E_glob, reduceCtorEq, beq_self_eq_true, decide_true, decide_false, ↓reduceIte, Nat.reduceEqDiff, cond_true, cond_false, or_true, true_or, or_false, false_or, and_true, true_and, and_self, false_and, and_false, not_true, not_false_iff, Nat.reduceAdd, Nat.reduceSub, Nat.reduceMul, Nat.reduceLT, Nat.reduceLeDiff, Int.reduceToNat, Int.reduceLT, Int.reduceLE, Option.getD, Int.reduceMul, Int.reduceAdd, List.drop, List.take, Nat.reduceBEq, List.isEmpty, Int.reduceEq, Int.reduceNe, Int.reduceNeg, Int.reduceGT, Int.reduceGE, beq_true, beq_false, UInt8.reduceToNat, eqE, eq_self, foldE, maxE, minE, eq_T, eq_F, ndec, odec, adec, sdec, fillA, over, chop, List.replicate, leavesOk, leafOk, cellsEq, cellEq, E_ext, E_byref, en5, bs27, bs36, hlg, e', f1, f2, f5, f6, k1, he, hsame, hr1, ik8, List.take_of_length_le, List.length_cons, show ∀ B fr H, execT E B 5 (Code.loop _) fr H = rlM E B 5 (loopAt Try.f5 0) [1, 2, 5, 6, 17, 18] [] (matF [(6, 7)] fr H).1 (matB [] (matF [(6, 7)] fr H).1 (matF [(6, 7)] fr H).2) from fun B fr H => rl_introM rfl mt5_5 mb5_5 zf5_5 hd5_5 fr H]
      exact ⟨_, rfl⟩
end Go.VI
