import Derived.Test.YtijkhfgkcndnpaaDoorP2
import Derived.Test.YtijkhfgkcndnpaaDoorU3
namespace Go.VI
open Go.Proofs
set_option maxRecDepth 100000
set_option linter.unusedSimpArgs false
set_option linter.unusedVariables false
set_option maxHeartbeats 4000000
/-! csiparam.Parse -/
theorem c21 (l : List Int) (n : Int) (hl : (l.length : Int) < 100000) : ∃ L, callT E 21 [.ptr 0 0 0 0, .ptr 2 0 0 0] [.box [.ref 1 0 0 l.length], .sl 1 0 (rows64 l) false, .box [.i (.v (.int .i64 n))]] =
    some (.tup [], .box [.ref 1 1 0 (l.length + 1)] :: .sl 1 1 (rows64 (l ++ [n])) false :: .box [.i (.v (.int .i64 (-1)))] :: L) := by
  have hr := rows64_len l
  rw [callT_eq Tryd.func21 rfl fok21 (by simp [Tryd.ntmps21])]
  simp (disch := first | omega | (simp only [List.length_append, List.length_map, List.length_set, List.length_cons, List.length_nil, List.length_take, List.length_drop, rows64_len]; omega)) only [va0, va1, va2, va3, va4, va5, va6, va7, va8, va9, va10, va11, va12, va13, va14, vb0, vb1, vb2, vb3, w_i8, w_u8, w_i16, w_u16, w_i32, w_u32, w_i64, w_u64, lt_T, lt_F, le_T, le_F, nlt_T, nlt_F, nle_T, nle_F, List.take_of_length_le, gB, gcW, gcR, posIn, renA, renL, Chunk.ren, Chunk.refs, evOpD, touchD, stepC, isFresh, nFresh, freshOf, mkR, hole, evL, evH, opd, get, putD, ofVal, cellOf, loadE, behind, lenE, idxAddrE, idxE, addPtr, intE, strE, unE, convE, AV.int, AV.bool, AV.str, ivs, take, frameOf, firstRegion, refsA, refsL, one, cellsA, floatOk, apartT, List.map, if_true, if_false, E_P, E_glob0, reduceCtorEq, beq_self_eq_true, decide_true, decide_false, ↓reduceIte, Nat.reduceEqDiff, cond_true, cond_false, or_true, true_or, or_false, false_or, and_true, true_and, and_self, false_and, and_false, not_true, not_false_iff, Nat.reduceAdd, Nat.reduceSub, Nat.reduceMul, Nat.reduceLT, Nat.reduceLeDiff, Int.reduceToNat, Int.reduceLT, Int.reduceLE, Option.getD, Int.reduceMul, Int.reduceAdd, List.drop, List.take, Nat.reduceBEq, List.isEmpty, Int.reduceEq, Int.reduceNe, Int.reduceNeg, Int.reduceGT, Int.reduceGE, beq_true, beq_false, UInt8.reduceToNat, eqE, eq_self, foldE, maxE, minE, eq_T, eq_F, ndec, odec, adec, sdec, fillA, over, chop, List.replicate, leavesOk, leafOk, cellsEq, cellEq, E_byref, en21, bs23, rows64_len, rows64_snoc]
  exact ⟨_, rfl⟩
theorem ik21 (l : List Int) (n : Int) (hl : (l.length : Int) < 100000) : isoK E (callT E) 21 [.ptr 0 0 0 0, .ptr 2 0 0 0] [.box [.ref 1 0 0 l.length], .sl 1 0 (rows64 l) false, .box [.i (.v (.int .i64 n))]] =
    some (.tup [], [.box [.ref 1 1 0 (l.length + 1)], .sl 1 1 (rows64 (l ++ [n])) false, .box [.i (.v (.int .i64 (-1)))]]) := by
  obtain ⟨L, h⟩ := c21 l n hl
  rw [isoK_R rfl]
  simp (disch := first | omega | (simp only [List.length_append, List.length_map, List.length_set, List.length_cons, List.length_nil, List.length_take, List.length_drop]; omega)) only [va0, va1, va2, va3, va4, va5, va6, va7, va8, va9, va10, va11, va12, va13, va14, vb0, vb1, vb2, vb3, w_i8, w_u8, w_i16, w_u16, w_i32, w_u32, w_i64, w_u64, lt_T, lt_F, le_T, le_F, nlt_T, nlt_F, nle_T, nle_F, List.take_of_length_le, gB, gcW, gcR, posIn, renA, renL, Chunk.ren, Chunk.refs, evOpD, touchD, stepC, isFresh, nFresh, freshOf, mkR, hole, evL, evH, opd, get, putD, ofVal, cellOf, loadE, behind, lenE, idxAddrE, idxE, addPtr, intE, strE, unE, convE, AV.int, AV.bool, AV.str, ivs, take, frameOf, firstRegion, refsA, refsL, one, cellsA, floatOk, apartT, List.map, if_true, if_false, E_P, E_glob0, reduceCtorEq, beq_self_eq_true, decide_true, decide_false, ↓reduceIte, Nat.reduceEqDiff, cond_true, cond_false, or_true, true_or, or_false, false_or, and_true, true_and, and_self, false_and, and_false, not_true, not_false_iff, Nat.reduceAdd, Nat.reduceSub, Nat.reduceMul, Nat.reduceLT, Nat.reduceLeDiff, Int.reduceToNat, Int.reduceLT, Int.reduceLE, Option.getD, Int.reduceMul, Int.reduceAdd, List.drop, List.take, Nat.reduceBEq, List.isEmpty, Int.reduceEq, Int.reduceNe, Int.reduceNeg, Int.reduceGT, Int.reduceGE, beq_true, beq_false, UInt8.reduceToNat, eqE, eq_self, foldE, maxE, minE, eq_T, eq_F, ndec, odec, adec, sdec, fillA, over, chop, List.replicate, leavesOk, leafOk, cellsEq, cellEq, E_byref, tyaa, tyab, tyac, tyad, tyae, tyaf, tyag, tyah, tyai, tyaj, tyak, bs23, bs32, isoL, h, isoB_some, isoF, backRen, setAll, List.take_succ_cons, List.take_zero]
def stepP (l : List Int) (n c : Int) : Option (List Int × Int) := if c = 59 then some (l ++ [n], -1) else if c < 48 then none else if 57 < c then none else some (l, min (10 * max n 0 + (c - 48)) 10000)
def runP : List UInt8 → List Int → Int → List Int × Int × List UInt8
  | [], l, n => (l, n, [])
  | b :: r, l, n => match stepP l n b.toNat with
    | none => (l, n, b :: r)
    | some (l', n') => runP r l' n'
def prT : AV := .ptr 0 0 0 0
theorem runP_len : ∀ (t : List UInt8) (l : List Int) (n : Int), (runP t l n).1.length ≤ l.length + t.length ∧ (runP t l n).2.2.length ≤ t.length
  | [], l, n => by simp [runP]
  | b :: r, l, n => by
    simp only [runP]
    cases h : stepP l n b.toNat with
    | none => simp only [List.length_cons]; omega
    | some p =>
      obtain ⟨l', n'⟩ := p
      have ih := runP_len r l' n'
      have : l'.length ≤ l.length + 1 := by
        unfold stepP at h
        split at h
        · cases h; simp
        · split at h
          · cases h
          · split at h
            · cases h
            · cases h; omega
      simp only [List.length_cons] at ih ⊢
      omega
theorem l12 (s : List UInt8) (hs : s.length < 50000) (m : AV) (hm : ∃ x, m = .i (.v (.int .u8 x))) (k : Nat) (hk : k ≤ s.length) (l : List Int) (n : Int) (hl : l.length ≤ k) (hn : -1 ≤ n ∧ n ≤ 10000) :
    ∃ fr, rl E 0 12 (loopAt Tryd.f12 0) [(0, .i (.str s)), (6, m), (7, .ptr 0 0 0 0), (8, .ptr 2 0 0 0), (9, .i (.v (.int .i64 k))), (10, .clo (.func 21) [] [.ptr 0 0 0 0, .ptr 2 0 0 0])]
      [.box [.ref 1 0 0 l.length], .sl 1 0 (rows64 l) false, .box [.i (.v (.int .i64 n))]] =
      some (.exit 0, fr, [.box [.ref 1 0 0 (runP (s.drop k) l n).1.length], .sl 1 0 (rows64 (runP (s.drop k) l n).1) false, .box [.i (.v (.int .i64 (runP (s.drop k) l n).2.1))]]) ∧
      get 0 fr = .i (.str s) ∧ get 6 fr = m ∧ get 7 fr = .ptr 0 0 0 0 ∧ get 8 fr = .ptr 2 0 0 0 ∧ get 9 fr = .i (.v (.int .i64 (s.length - (runP (s.drop k) l n).2.2.length))) ∧ get 10 fr = .clo (.func 21) [] [.ptr 0 0 0 0, .ptr 2 0 0 0] := by
  obtain ⟨mx, rfl⟩ := hm
  rw [rl_step (fn := Tryd.f12) (k := 0) rfl]
  by_cases hlt : k < s.length
  · have hb := byte_at hlt
    have b1 := s[k].toNat_lt
    rw [List.drop_eq_getElem_cons hlt, runP]
    have hlen : (s.drop (k + 1)).length = s.length - (k + 1) := List.length_drop
    by_cases h1 : (s[k].toNat : Int) = 59
    · have hst : stepP l n s[k].toNat = some (l ++ [n], -1) := by rw [stepP, if_pos h1]
      obtain ⟨fr, e, f⟩ := l12 s hs _ ⟨mx, rfl⟩ (k + 1) hlt (l ++ [n]) (-1) (by simp; omega) (by omega)
      simp only [hst]
      refine ⟨fr, Eq.trans ?_ e, f⟩
      clear e f hst hlen
      have hik := ik21 l n (by omega)
      generalize s[k] = b at *
      simp (disch := first | omega | (simp only [List.length_append, List.length_map, List.length_set, List.length_cons, List.length_nil, List.length_take, List.length_drop, rows64_len]; omega)) only [va0, va1, va2, va3, va4, va5, va6, va7, va8, va9, va10, va11, va12, va13, va14, vb0, vb1, vb2, vb3, w_i8, w_u8, w_i16, w_u16, w_i32, w_u32, w_i64, w_u64, lt_T, lt_F, le_T, le_F, nlt_T, nlt_F, nle_T, nle_F, List.take_of_length_le, gB, gcW, gcR, posIn, renA, renL, Chunk.ren, Chunk.refs, evOpD, touchD, stepC, isFresh, nFresh, freshOf, mkR, hole, evL, evH, opd, get, putD, ofVal, cellOf, loadE, behind, lenE, idxAddrE, idxE, addPtr, intE, strE, unE, convE, AV.int, AV.bool, AV.str, ivs, take, frameOf, firstRegion, refsA, refsL, one, cellsA, floatOk, apartT, List.map, if_true, if_false, E_P, E_glob0, reduceCtorEq, beq_self_eq_true, decide_true, decide_false, ↓reduceIte, Nat.reduceEqDiff, cond_true, cond_false, or_true, true_or, or_false, false_or, and_true, true_and, and_self, false_and, and_false, not_true, not_false_iff, Nat.reduceAdd, Nat.reduceSub, Nat.reduceMul, Nat.reduceLT, Nat.reduceLeDiff, Int.reduceToNat, Int.reduceLT, Int.reduceLE, Option.getD, Int.reduceMul, Int.reduceAdd, List.drop, List.take, Nat.reduceBEq, List.isEmpty, Int.reduceEq, Int.reduceNe, Int.reduceNeg, Int.reduceGT, Int.reduceGE, beq_true, beq_false, UInt8.reduceToNat, eqE, eq_self, foldE, maxE, minE, eq_T, eq_F, ndec, odec, adec, sdec, fillA, over, chop, List.replicate, leavesOk, leafOk, cellsEq, cellEq, E_byref, en12, bs23, hb, h1, hik, rows64_len, List.length_append, show ∀ B fr H, execT E B 12 (Code.loop _) fr H = rlM E B 12 (loopAt Tryd.f12 0) [0, 6, 7, 8, 9, 10] [] (matF [] fr H).1 (matB [(7, 0, 1)] (matF [] fr H).1 (matF [] fr H).2) from fun B fr H => rl_introM rfl mt12_7 mb12_7 zf12_7 hd12_7 fr H]
    · by_cases h2 : (s[k].toNat : Int) < 48 ∨ 57 < (s[k].toNat : Int)
      · have hst : stepP l n s[k].toNat = none := by
          rw [stepP, if_neg h1]
          split
          · rfl
          · rw [if_pos (by omega)]
        simp only [hst]
        clear hst
        have hle : (s[k] :: s.drop (k + 1)).length = s.length - k := by simp only [List.length_cons, List.length_drop]; omega
        rw [hle]
        have hcast : ((s.length : Int) - ((s.length - k : Nat) : Int)) = k := by omega
        rw [hcast]
        generalize s[k] = b at *
        by_cases h3 : (b.toNat : Int) < 48
        · simp (disch := first | omega | (simp only [List.length_append, List.length_map, List.length_set, List.length_cons, List.length_nil, List.length_take, List.length_drop, rows64_len]; omega)) only [va0, va1, va2, va3, va4, va5, va6, va7, va8, va9, va10, va11, va12, va13, va14, vb0, vb1, vb2, vb3, w_i8, w_u8, w_i16, w_u16, w_i32, w_u32, w_i64, w_u64, lt_T, lt_F, le_T, le_F, nlt_T, nlt_F, nle_T, nle_F, List.take_of_length_le, gB, gcW, gcR, posIn, renA, renL, Chunk.ren, Chunk.refs, evOpD, touchD, stepC, isFresh, nFresh, freshOf, mkR, hole, evL, evH, opd, get, putD, ofVal, cellOf, loadE, behind, lenE, idxAddrE, idxE, addPtr, intE, strE, unE, convE, AV.int, AV.bool, AV.str, ivs, take, frameOf, firstRegion, refsA, refsL, one, cellsA, floatOk, apartT, List.map, if_true, if_false, E_P, E_glob0, reduceCtorEq, beq_self_eq_true, decide_true, decide_false, ↓reduceIte, Nat.reduceEqDiff, cond_true, cond_false, or_true, true_or, or_false, false_or, and_true, true_and, and_self, false_and, and_false, not_true, not_false_iff, Nat.reduceAdd, Nat.reduceSub, Nat.reduceMul, Nat.reduceLT, Nat.reduceLeDiff, Int.reduceToNat, Int.reduceLT, Int.reduceLE, Option.getD, Int.reduceMul, Int.reduceAdd, List.drop, List.take, Nat.reduceBEq, List.isEmpty, Int.reduceEq, Int.reduceNe, Int.reduceNeg, Int.reduceGT, Int.reduceGE, beq_true, beq_false, UInt8.reduceToNat, eqE, eq_self, foldE, maxE, minE, eq_T, eq_F, ndec, odec, adec, sdec, fillA, over, chop, List.replicate, leavesOk, leafOk, cellsEq, cellEq, E_byref, en12, bs23, hb, h1, h3, rows64_len, show ∀ B fr H, execT E B 12 (Code.loop _) fr H = rlM E B 12 (loopAt Tryd.f12 0) [0, 6, 7, 8, 9, 10] [] (matF [] fr H).1 (matB [(7, 0, 1)] (matF [] fr H).1 (matF [] fr H).2) from fun B fr H => rl_introM rfl mt12_7 mb12_7 zf12_7 hd12_7 fr H]
          exact ⟨_, rfl, rfl, rfl, rfl, rfl, rfl, rfl⟩
        · have h4 : 57 < (b.toNat : Int) := by omega
          simp (disch := first | omega | (simp only [List.length_append, List.length_map, List.length_set, List.length_cons, List.length_nil, List.length_take, List.length_drop, rows64_len]; omega)) only [va0, va1, va2, va3, va4, va5, va6, va7, va8, va9, va10, va11, va12, va13, va14, vb0, vb1, vb2, vb3, w_i8, w_u8, w_i16, w_u16, w_i32, w_u32, w_i64, w_u64, lt_T, lt_F, le_T, le_F, nlt_T, nlt_F, nle_T, nle_F, List.take_of_length_le, gB, gcW, gcR, posIn, renA, renL, Chunk.ren, Chunk.refs, evOpD, touchD, stepC, isFresh, nFresh, freshOf, mkR, hole, evL, evH, opd, get, putD, ofVal, cellOf, loadE, behind, lenE, idxAddrE, idxE, addPtr, intE, strE, unE, convE, AV.int, AV.bool, AV.str, ivs, take, frameOf, firstRegion, refsA, refsL, one, cellsA, floatOk, apartT, List.map, if_true, if_false, E_P, E_glob0, reduceCtorEq, beq_self_eq_true, decide_true, decide_false, ↓reduceIte, Nat.reduceEqDiff, cond_true, cond_false, or_true, true_or, or_false, false_or, and_true, true_and, and_self, false_and, and_false, not_true, not_false_iff, Nat.reduceAdd, Nat.reduceSub, Nat.reduceMul, Nat.reduceLT, Nat.reduceLeDiff, Int.reduceToNat, Int.reduceLT, Int.reduceLE, Option.getD, Int.reduceMul, Int.reduceAdd, List.drop, List.take, Nat.reduceBEq, List.isEmpty, Int.reduceEq, Int.reduceNe, Int.reduceNeg, Int.reduceGT, Int.reduceGE, beq_true, beq_false, UInt8.reduceToNat, eqE, eq_self, foldE, maxE, minE, eq_T, eq_F, ndec, odec, adec, sdec, fillA, over, chop, List.replicate, leavesOk, leafOk, cellsEq, cellEq, E_byref, en12, bs23, hb, h1, h3, h4, rows64_len, show ∀ B fr H, execT E B 12 (Code.loop _) fr H = rlM E B 12 (loopAt Tryd.f12 0) [0, 6, 7, 8, 9, 10] [] (matF [] fr H).1 (matB [(7, 0, 1)] (matF [] fr H).1 (matF [] fr H).2) from fun B fr H => rl_introM rfl mt12_7 mb12_7 zf12_7 hd12_7 fr H]
          exact ⟨_, rfl, rfl, rfl, rfl, rfl, rfl, rfl⟩
      · have hst : stepP l n s[k].toNat = some (l, min (10 * max n 0 + (s[k].toNat - 48)) 10000) := by
          rw [stepP, if_neg h1, if_neg (by omega), if_neg (by omega)]
        obtain ⟨fr, e, f⟩ := l12 s hs _ ⟨mx, rfl⟩ (k + 1) hlt l (min (10 * max n 0 + (s[k].toNat - 48)) 10000) (by omega) (by omega)
        simp only [hst]
        refine ⟨fr, Eq.trans ?_ e, f⟩
        clear e f hst hlen
        generalize s[k] = b at *
        simp (disch := first | omega | (simp only [List.length_append, List.length_map, List.length_set, List.length_cons, List.length_nil, List.length_take, List.length_drop, rows64_len]; omega)) only [va0, va1, va2, va3, va4, va5, va6, va7, va8, va9, va10, va11, va12, va13, va14, vb0, vb1, vb2, vb3, w_i8, w_u8, w_i16, w_u16, w_i32, w_u32, w_i64, w_u64, lt_T, lt_F, le_T, le_F, nlt_T, nlt_F, nle_T, nle_F, List.take_of_length_le, gB, gcW, gcR, posIn, renA, renL, Chunk.ren, Chunk.refs, evOpD, touchD, stepC, isFresh, nFresh, freshOf, mkR, hole, evL, evH, opd, get, putD, ofVal, cellOf, loadE, behind, lenE, idxAddrE, idxE, addPtr, intE, strE, unE, convE, AV.int, AV.bool, AV.str, ivs, take, frameOf, firstRegion, refsA, refsL, one, cellsA, floatOk, apartT, List.map, if_true, if_false, E_P, E_glob0, reduceCtorEq, beq_self_eq_true, decide_true, decide_false, ↓reduceIte, Nat.reduceEqDiff, cond_true, cond_false, or_true, true_or, or_false, false_or, and_true, true_and, and_self, false_and, and_false, not_true, not_false_iff, Nat.reduceAdd, Nat.reduceSub, Nat.reduceMul, Nat.reduceLT, Nat.reduceLeDiff, Int.reduceToNat, Int.reduceLT, Int.reduceLE, Option.getD, Int.reduceMul, Int.reduceAdd, List.drop, List.take, Nat.reduceBEq, List.isEmpty, Int.reduceEq, Int.reduceNe, Int.reduceNeg, Int.reduceGT, Int.reduceGE, beq_true, beq_false, UInt8.reduceToNat, eqE, eq_self, foldE, maxE, minE, eq_T, eq_F, ndec, odec, adec, sdec, fillA, over, chop, List.replicate, leavesOk, leafOk, cellsEq, cellEq, E_byref, en12, bs23, hb, h1, rows64_len, show ∀ B fr H, execT E B 12 (Code.loop _) fr H = rlM E B 12 (loopAt Tryd.f12 0) [0, 6, 7, 8, 9, 10] [] (matF [] fr H).1 (matB [(7, 0, 1)] (matF [] fr H).1 (matF [] fr H).2) from fun B fr H => rl_introM rfl mt12_7 mb12_7 zf12_7 hd12_7 fr H]
  · obtain rfl : k = s.length := by omega
    rw [List.drop_length, runP]
    simp (disch := first | omega | (simp only [List.length_append, List.length_map, List.length_set, List.length_cons, List.length_nil, List.length_take, List.length_drop]; omega)) only [va0, va1, va2, va3, va4, va5, va6, va7, va8, va9, va10, va11, va12, va13, va14, vb0, vb1, vb2, vb3, w_i8, w_u8, w_i16, w_u16, w_i32, w_u32, w_i64, w_u64, lt_T, lt_F, le_T, le_F, nlt_T, nlt_F, nle_T, nle_F, List.take_of_length_le, gB, gcW, gcR, posIn, renA, renL, Chunk.ren, Chunk.refs, evOpD, touchD, stepC, isFresh, nFresh, freshOf, mkR, hole, evL, evH, opd, get, putD, ofVal, cellOf, loadE, behind, lenE, idxAddrE, idxE, addPtr, intE, strE, unE, convE, AV.int, AV.bool, AV.str, ivs, take, frameOf, firstRegion, refsA, refsL, one, cellsA, floatOk, apartT, List.map, if_true, if_false, E_P, E_glob0, reduceCtorEq, beq_self_eq_true, decide_true, decide_false, ↓reduceIte, Nat.reduceEqDiff, cond_true, cond_false, or_true, true_or, or_false, false_or, and_true, true_and, and_self, false_and, and_false, not_true, not_false_iff, Nat.reduceAdd, Nat.reduceSub, Nat.reduceMul, Nat.reduceLT, Nat.reduceLeDiff, Int.reduceToNat, Int.reduceLT, Int.reduceLE, Option.getD, Int.reduceMul, Int.reduceAdd, List.drop, List.take, Nat.reduceBEq, List.isEmpty, Int.reduceEq, Int.reduceNe, Int.reduceNeg, Int.reduceGT, Int.reduceGE, beq_true, beq_false, UInt8.reduceToNat, eqE, eq_self, foldE, maxE, minE, eq_T, eq_F, ndec, odec, adec, sdec, fillA, over, chop, List.replicate, leavesOk, leafOk, cellsEq, cellEq, E_byref, en12, bs23]
    exact ⟨_, rfl, rfl, rfl, rfl, rfl, by simp [get], rfl⟩
termination_by s.length - k
def markP (s : List UInt8) : Int × List UInt8 := match s with
  | [] => (0, [])
  | b :: r => if privB b.toNat then (b.toNat, r) else (0, b :: r)
def parR (t : List UInt8) : List Int × List UInt8 :=
  (if (runP t [] (-1)).2.2.length < t.length then (runP t [] (-1)).1 ++ [(runP t [] (-1)).2.1] else (runP t [] (-1)).1, (runP t [] (-1)).2.2)
def parseS (s : List UInt8) : Int × List Int × List UInt8 × Int :=
  if trailB (parR (markP s).2).2 = false then (0, [], [], 3) else if limB (parR (markP s).2).1 (parR (markP s).2).2 = false then (0, [], [], 5) else ((markP s).1, (parR (markP s).2).1, (parR (markP s).2).2, 0)
def parseA (p : Int × List Int × List UInt8 × Int) : AV := .tup [.i (.v (.int .u8 p.1)), .i (.sl 1 (rows64 p.2.1) false), .i (.str p.2.2.1), .i (.v (.int .i64 p.2.2.2))]
theorem runP_suf : ∀ (t : List UInt8) (l : List Int) (n : Int), ∃ k, k ≤ t.length ∧ (runP t l n).2.2 = t.drop k ∧ (runP t l n).2.2.length = t.length - k
  | [], l, n => ⟨0, by simp [runP]⟩
  | b :: r, l, n => by
    simp only [runP]
    cases h : stepP l n b.toNat with
    | none => exact ⟨0, by simp⟩
    | some p =>
      obtain ⟨k, h1, h2, h3⟩ := runP_suf r p.1 p.2
      exact ⟨k + 1, by simpa using h1, by simpa using h2, by simpa using h3⟩
theorem c12 (s : List UInt8) (hs : (s.length : Int) < 50000) : ∃ L, callT E 12 [.i (.str s)] [] = some (parseA (parseS s), L) := by
  have main : ∀ (t : List UInt8) (m : Int), t.length < 50000 → ∃ fr, rl E 0 12 (loopAt Tryd.f12 0) [(0, .i (.str t)), (6, .i (.v (.int .u8 m))), (7, .ptr 0 0 0 0), (8, .ptr 2 0 0 0), (9, .i (.v (.int .i64 0))), (10, .clo (.func 21) [] [.ptr 0 0 0 0, .ptr 2 0 0 0])]
      [.box [.ref 1 0 0 0], .sl 1 0 [] false, .box [.i (.v (.int .i64 (-1)))]] = _ ∧ _ := fun t m h => l12 t h (.i (.v (.int .u8 m))) ⟨_, rfl⟩ 0 (Nat.zero_le _) [] (-1) (by simp) (by omega)
  have hp : ∃ m t, markP s = (m, t) ∧ t.length < 50000 ∧ (s = [] ∧ m = 0 ∧ t = [] ∨ ∃ b r, s = b :: r ∧ (privB b.toNat = true ∧ m = b.toNat ∧ t = r ∨ privB b.toNat = false ∧ m = 0 ∧ t = b :: r)) := by
    cases s with
    | nil => exact ⟨0, [], rfl, by simp, .inl ⟨rfl, rfl, rfl⟩⟩
    | cons b r =>
      simp only [List.length_cons] at hs
      by_cases h : privB b.toNat = true
      · exact ⟨b.toNat, r, by simp [markP, h], by omega, .inr ⟨b, r, rfl, .inl ⟨h, rfl, rfl⟩⟩⟩
      · exact ⟨0, b :: r, by simp [markP, h], by simp only [List.length_cons]; omega, .inr ⟨b, r, rfl, .inr ⟨by simpa using h, rfl, rfl⟩⟩⟩
  obtain ⟨m, t, hm, ht, hcase⟩ := hp
  obtain ⟨fr, e, f0, f6, f7, f8, f9, f10⟩ := main t m ht
  rw [List.drop_zero] at e f9
  obtain ⟨k, k1, k2, k3⟩ := runP_suf t [] (-1)
  obtain ⟨n1, n2⟩ := runP_len t [] (-1)
  unfold parseS
  rw [hm]
  simp only [parR]
  generalize (runP t [] (-1)).1 = l at *
  generalize (runP t [] (-1)).2.1 = n at *
  generalize hr : (runP t [] (-1)).2.2 = rest at *
  have hrl : (rest.length : Int) = t.length - k := by omega
  have hfin : t.drop k = rest := k2.symm
  simp only [List.length_nil, Nat.zero_add] at n1
  rw [show ((t.length : Int) - rest.length) = k by omega] at f9
  have hik := ik21 l n (by omega)
  have hcond : (rest.length < t.length) ↔ 0 < (k : Int) := by omega
  simp only [hcond]
  clear hm main n2 k2 k3 hr hcond
  have hl1 := rows64_len l
  rcases hcase with ⟨rfl, rfl, rfl⟩ | ⟨b, r, rfl, ⟨hb, rfl, rfl⟩ | ⟨hb, rfl, rfl⟩⟩
  · obtain rfl : k = 0 := by simpa using k1
    obtain rfl : l = [] := by simpa using n1
    subst hfin
    have ht : trailB [] = true := rfl
    have hlm : limB [] [] = true := rfl
    simp only [List.drop_zero, List.drop_nil, ht, hlm, Int.natCast_zero, Int.lt_irrefl, if_false, reduceCtorEq]
    simp only [Int.natCast_zero] at f9
    rw [callT_eq Tryd.func12 rfl fok12 (by simp [Tryd.ntmps12])]
    have hik2 := fun H => ik23 [] [] (by simp) (by simp) H
    simp only [show rows64 [] = [] from rfl] at hik2 e
    simp (disch := first | omega | (simp only [List.length_append, List.length_map, List.length_set, List.length_cons, List.length_nil, List.length_take, List.length_drop, rows64_len]; omega)) only [va0, va1, va2, va3, va4, va5, va6, va7, va8, va9, va10, va11, va12, va13, va14, vb0, vb1, vb2, vb3, w_i8, w_u8, w_i16, w_u16, w_i32, w_u32, w_i64, w_u64, lt_T, lt_F, le_T, le_F, nlt_T, nlt_F, nle_T, nle_F, List.take_of_length_le, gB, gcW, gcR, posIn, renA, renL, Chunk.ren, Chunk.refs, evOpD, touchD, stepC, isFresh, nFresh, freshOf, mkR, hole, evL, evH, opd, get, putD, ofVal, cellOf, loadE, behind, lenE, idxAddrE, idxE, addPtr, intE, strE, unE, convE, AV.int, AV.bool, AV.str, ivs, take, frameOf, firstRegion, refsA, refsL, one, cellsA, floatOk, apartT, List.map, if_true, if_false, E_P, E_glob0, reduceCtorEq, beq_self_eq_true, decide_true, decide_false, ↓reduceIte, Nat.reduceEqDiff, cond_true, cond_false, or_true, true_or, or_false, false_or, and_true, true_and, and_self, false_and, and_false, not_true, not_false_iff, Nat.reduceAdd, Nat.reduceSub, Nat.reduceMul, Nat.reduceLT, Nat.reduceLeDiff, Int.reduceToNat, Int.reduceLT, Int.reduceLE, Option.getD, Int.reduceMul, Int.reduceAdd, List.drop, List.take, Nat.reduceBEq, List.isEmpty, Int.reduceEq, Int.reduceNe, Int.reduceNeg, Int.reduceGT, Int.reduceGE, beq_true, beq_false, UInt8.reduceToNat, eqE, eq_self, foldE, maxE, minE, eq_T, eq_F, ndec, odec, adec, sdec, fillA, over, chop, List.replicate, leavesOk, leafOk, cellsEq, cellEq, E_byref, en12, bs23, e, f0, f6, f7, f8, f9, f10, hik, ht, hlm, hik2, ik22, rows64_len, List.take_nil, List.drop_nil, show ∀ B fr H, execT E B 12 (Code.loop _) fr H = rlM E B 12 (loopAt Tryd.f12 0) [0, 6, 7, 8, 9, 10] [] (matF [] fr H).1 (matB [(7, 0, 1)] (matF [] fr H).1 (matF [] fr H).2) from fun B fr H => rl_introM rfl mt12_7 mb12_7 zf12_7 hd12_7 fr H]
    exact ⟨_, rfl⟩
  · have hcl : ((b :: t).length : Int) = (t.length : Int) + 1 := rfl 
    (try simp only [List.length_cons] at ht k1 n1 hrl) 
    rw [callT_eq Tryd.func12 rfl fok12 (by simp [Tryd.ntmps12])] 
    by_cases hk : 0 < (k : Int) 
    all_goals (first | rw [if_pos hk] | rw [if_neg hk]) 
    all_goals cases htr : trailB rest 
    all_goals simp only [if_true, if_false, reduceCtorEq] 
    all_goals cases hlm : limB (l ++ [n]) rest <;> cases hlm2 : limB l rest 
    all_goals simp (disch := first | omega | (simp only [List.length_append, List.length_map, List.length_set, List.length_cons, List.length_nil, List.length_take, List.length_drop, rows64_len]; omega)) only [va0, va1, va2, va3, va4, va5, va6, va7, va8, va9, va10, va11, va12, va13, va14, vb0, vb1, vb2, vb3, w_i8, w_u8, w_i16, w_u16, w_i32, w_u32, w_i64, w_u64, lt_T, lt_F, le_T, le_F, nlt_T, nlt_F, nle_T, nle_F, List.take_of_length_le, gB, gcW, gcR, posIn, renA, renL, Chunk.ren, Chunk.refs, evOpD, touchD, stepC, isFresh, nFresh, freshOf, mkR, hole, evL, evH, opd, get, putD, ofVal, cellOf, loadE, behind, lenE, idxAddrE, idxE, addPtr, intE, strE, unE, convE, AV.int, AV.bool, AV.str, ivs, take, frameOf, firstRegion, refsA, refsL, one, cellsA, floatOk, apartT, List.map, if_true, if_false, E_P, E_glob0, reduceCtorEq, beq_self_eq_true, decide_true, decide_false, ↓reduceIte, Nat.reduceEqDiff, cond_true, cond_false, or_true, true_or, or_false, false_or, and_true, true_and, and_self, false_and, and_false, not_true, not_false_iff, Nat.reduceAdd, Nat.reduceSub, Nat.reduceMul, Nat.reduceLT, Nat.reduceLeDiff, Int.reduceToNat, Int.reduceLT, Int.reduceLE, Option.getD, Int.reduceMul, Int.reduceAdd, List.drop, List.take, Nat.reduceBEq, List.isEmpty, Int.reduceEq, Int.reduceNe, Int.reduceNeg, Int.reduceGT, Int.reduceGE, beq_true, beq_false, UInt8.reduceToNat, eqE, eq_self, foldE, maxE, minE, eq_T, eq_F, ndec, odec, adec, sdec, fillA, over, chop, List.replicate, leavesOk, leafOk, cellsEq, cellEq, E_byref, en12, bs23, hcl, e, f0, f6, f7, f8, f9, f10, hik, hb, hk, hfin, hlm, hlm2, ik20, ik22, ik23, htr, rows64_len, List.length_append, List.take_of_length_le, List.length_cons, show ∀ B fr H, execT E B 12 (Code.loop _) fr H = rlM E B 12 (loopAt Tryd.f12 0) [0, 6, 7, 8, 9, 10] [] (matF [] fr H).1 (matB [(7, 0, 1)] (matF [] fr H).1 (matF [] fr H).2) from fun B fr H => rl_introM rfl mt12_7 mb12_7 zf12_7 hd12_7 fr H] 
    all_goals exact ⟨_, rfl⟩
  · have hcl : ((b :: r).length : Int) = (r.length : Int) + 1 := rfl 
    (try simp only [List.length_cons] at ht k1 n1 hrl) 
    rw [callT_eq Tryd.func12 rfl fok12 (by simp [Tryd.ntmps12])] 
    by_cases hk : 0 < (k : Int) 
    all_goals (first | rw [if_pos hk] | rw [if_neg hk]) 
    all_goals cases htr : trailB rest 
    all_goals simp only [if_true, if_false, reduceCtorEq] 
    all_goals cases hlm : limB (l ++ [n]) rest <;> cases hlm2 : limB l rest 
    all_goals simp (disch := first | omega | (simp only [List.length_append, List.length_map, List.length_set, List.length_cons, List.length_nil, List.length_take, List.length_drop, rows64_len]; omega)) only [va0, va1, va2, va3, va4, va5, va6, va7, va8, va9, va10, va11, va12, va13, va14, vb0, vb1, vb2, vb3, w_i8, w_u8, w_i16, w_u16, w_i32, w_u32, w_i64, w_u64, lt_T, lt_F, le_T, le_F, nlt_T, nlt_F, nle_T, nle_F, List.take_of_length_le, gB, gcW, gcR, posIn, renA, renL, Chunk.ren, Chunk.refs, evOpD, touchD, stepC, isFresh, nFresh, freshOf, mkR, hole, evL, evH, opd, get, putD, ofVal, cellOf, loadE, behind, lenE, idxAddrE, idxE, addPtr, intE, strE, unE, convE, AV.int, AV.bool, AV.str, ivs, take, frameOf, firstRegion, refsA, refsL, one, cellsA, floatOk, apartT, List.map, if_true, if_false, E_P, E_glob0, reduceCtorEq, beq_self_eq_true, decide_true, decide_false, ↓reduceIte, Nat.reduceEqDiff, cond_true, cond_false, or_true, true_or, or_false, false_or, and_true, true_and, and_self, false_and, and_false, not_true, not_false_iff, Nat.reduceAdd, Nat.reduceSub, Nat.reduceMul, Nat.reduceLT, Nat.reduceLeDiff, Int.reduceToNat, Int.reduceLT, Int.reduceLE, Option.getD, Int.reduceMul, Int.reduceAdd, List.drop, List.take, Nat.reduceBEq, List.isEmpty, Int.reduceEq, Int.reduceNe, Int.reduceNeg, Int.reduceGT, Int.reduceGE, beq_true, beq_false, UInt8.reduceToNat, eqE, eq_self, foldE, maxE, minE, eq_T, eq_F, ndec, odec, adec, sdec, fillA, over, chop, List.replicate, leavesOk, leafOk, cellsEq, cellEq, E_byref, en12, bs23, hcl, e, f0, f6, f7, f8, f9, f10, hik, hb, hk, hfin, hlm, hlm2, ik20, ik22, ik23, htr, rows64_len, List.length_append, List.take_of_length_le, List.length_cons, show ∀ B fr H, execT E B 12 (Code.loop _) fr H = rlM E B 12 (loopAt Tryd.f12 0) [0, 6, 7, 8, 9, 10] [] (matF [] fr H).1 (matB [(7, 0, 1)] (matF [] fr H).1 (matF [] fr H).2) from fun B fr H => rl_introM rfl mt12_7 mb12_7 zf12_7 hd12_7 fr H] 
    all_goals exact ⟨_, rfl⟩
theorem ik12 (s : List UInt8) (hs : (s.length : Int) < 50000) (H : Hp) : isoK E (callT E) 12 [.i (.str s)] H = some (parseA (parseS s), H) := isoK_val rfl rfl rfl (c12 s hs)
end Go.VI
