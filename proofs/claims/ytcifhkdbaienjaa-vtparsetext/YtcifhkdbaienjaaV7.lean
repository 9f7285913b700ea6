import Derived.Test.YtcifhkdbaienjaaV6
namespace Go.VI
open Go.Proofs
set_option maxRecDepth 100000
set_option linter.unusedSimpArgs false
set_option linter.unusedVariables false
set_option maxHeartbeats 4000000
theorem proper_ok {p : Ps} (h : properS p = true) : PsOK p := by
  unfold properS at h
  split at h
  · simp only [Bool.and_eq_true, beq_iff_eq] at h
    obtain ⟨⟨h1, _⟩, h2⟩ := h
    have := decRest_len p.pe
    rw [h2] at this
    exact ⟨this, by rw [h1]; simp⟩
  · split at h
    · rename_i hpe
      refine ⟨by rw [hpe]; simp, ?_⟩
      repeat' split at h
      all_goals simp only [Bool.and_eq_true, decide_eq_true_eq, Bool.false_eq_true] at h
      all_goals omega
    · cases h
def p0 : Ps := ⟨0, [], []⟩
def startS (p : Ps) : Ps := if properS p = true then p else p0
theorem start_ok (p : Ps) : PsOK (startS p) := by
  unfold startS; split
  · rename_i h; exact proper_ok h
  · exact ok0 _
def feedS (p : Ps) (s : List UInt8) : Ps × List Ev := runF s (startS p)
def feedA (q : Ps × List Ev) : AV := .tup [.agg (psC q.1), .i (.sl 7 (rowsEv q.2) false)]
theorem c9 (p : Ps) (hp : p.pe.length < 40000) (hb : p.bu.length < 100000) (s : List UInt8) (hs : (s.length : Int) < 5000) : ∃ L, callT E 9 [.agg (psC p), .i (.str s)] [] = some (feedA (feedS p s), L) := by
  have hik := fun H => ik15 p hp hb H
  obtain ⟨fr, e, f4, f6⟩ := l9 s (by omega) 0 (Nat.zero_le _) (startS p) (start_ok p) 0 [] rfl (Nat.zero_le _)
  have hlen := (runF_len s (start_ok p)).2
  rw [List.drop_zero] at e
  unfold feedS feedA
  unfold startS at *
  have hrl := rowsEv_len (runF s (if properS p = true then p else p0)).2
  obtain ⟨st, pe, bu⟩ := p
  cases hpr : properS ⟨st, pe, bu⟩ with
  | true =>
    rw [hpr] at hik
    simp only [hpr, if_true] at e ⊢ hlen hrl
    simp only [psC, List.nil_append, Nat.zero_add, Int.natCast_zero] at e ⊢ hik
    generalize (runF s ⟨st, pe, bu⟩).1 = q at *
    generalize (runF s ⟨st, pe, bu⟩).2 = ev at *
    have e' : rl E 0 9 (loopAt Try.f9 0) [(1, .i (.str s)), (4, .ptr 0 0 0 0), (6, .ptr 1 0 0 0), (7, .i (.v (.int .i64 0)))] (.box [.i (.v (.int .i64 0)), .i (.str []), .i (.str [])] :: .box [.i (.v (.int .i64 ((⟨st, pe, bu⟩ : Ps).st))), .i (.str ((⟨st, pe, bu⟩ : Ps).pe)), .i (.str ((⟨st, pe, bu⟩ : Ps).bu)), .ref 2 (0) 0 (0)] :: .sl 7 (0) (rowsEv ([])) false :: []) = _ := e
    have hz : rowsEv [] = [] := rfl
    simp only [hz] at e'
    rw [callT_eq Try.func9 rfl fok9 (by simp [Try.ntmps9])]
    simp (disch := first | omega | (simp only [List.length_append, List.length_map, List.length_set, List.length_cons, List.length_nil, List.length_take, List.length_drop, hrl]; omega)) only [va0, va1, va2, va3, va4, va5, va6, va7, va8, va9, va10, va11, va12, va13, va14, vb0, vb1, vb2, vb3, w_i8, w_u8, w_i16, w_u16, w_i32, w_u32, w_i64, w_u64, lt_T, lt_F, le_T, le_F, nlt_T, nlt_F, nle_T, nle_F, List.take_of_length_le, gB, gcW, gcR, posIn, renA, renL, Chunk.ren, Chunk.refs, evOpD, touchD, stepC, isFresh, nFresh, freshOf, mkR, hole, evL, evH, opd, get, putD, ofVal, cellOf, loadE, behind, lenE, idxAddrE, idxE, addPtr, intE, strE, unE, convE, AV.int, AV.bool, AV.str, ivs, take, frameOf, firstRegion, refsA, refsL, one, cellsA, floatOk, apartT, List.map, if_true, if_false, E_P, E_glob, reduceCtorEq, beq_self_eq_true, decide_true, decide_false, ↓reduceIte, Nat.reduceEqDiff, cond_true, cond_false, or_true, true_or, or_false, false_or, and_true, true_and, and_self, false_and, and_false, not_true, not_false_iff, Nat.reduceAdd, Nat.reduceSub, Nat.reduceMul, Nat.reduceLT, Nat.reduceLeDiff, Int.reduceToNat, Int.reduceLT, Int.reduceLE, Option.getD, Int.reduceMul, Int.reduceAdd, List.drop, List.take, Nat.reduceBEq, List.isEmpty, Int.reduceEq, Int.reduceNe, Int.reduceNeg, Int.reduceGT, Int.reduceGE, beq_true, beq_false, UInt8.reduceToNat, eqE, eq_self, foldE, maxE, minE, eq_T, eq_F, ndec, odec, adec, sdec, fillA, over, chop, List.replicate, leavesOk, leafOk, cellsEq, cellEq, E_ext, E_byref, en9, hik, e', f4, f6, List.take_of_length_le, show ∀ B fr H, execT E B 9 (Code.loop _) fr H = rlM E B 9 (loopAt Try.f9 0) [1, 4, 6, 7] [] (matF [] fr H).1 (matB [(6, 3, 7)] (matF [] fr H).1 (matF [] fr H).2) from fun B fr H => rl_introM rfl mt9_5 mb9_5 zf9_5 hd9_5 fr H]
    exact ⟨_, rfl⟩
  | false =>
    rw [hpr] at hik
    simp only [hpr, Bool.false_eq_true, if_false] at e ⊢ hlen hrl
    simp only [psC, List.nil_append, Nat.zero_add, Int.natCast_zero] at e ⊢ hik
    generalize (runF s p0).1 = q at *
    generalize (runF s p0).2 = ev at *
    have e' : rl E 0 9 (loopAt Try.f9 0) [(1, .i (.str s)), (4, .ptr 0 0 0 0), (6, .ptr 1 0 0 0), (7, .i (.v (.int .i64 0)))] (.box [.i (.v (.int .i64 0)), .i (.str []), .i (.str [])] :: .box [.i (.v (.int .i64 ((⟨0, [], []⟩ : Ps).st))), .i (.str ((⟨0, [], []⟩ : Ps).pe)), .i (.str ((⟨0, [], []⟩ : Ps).bu)), .ref 2 (0) 0 (0)] :: .sl 7 (0) (rowsEv ([])) false :: []) = _ := e
    have hz : rowsEv [] = [] := rfl
    simp only [hz] at e'
    rw [callT_eq Try.func9 rfl fok9 (by simp [Try.ntmps9])]
    simp (disch := first | omega | (simp only [List.length_append, List.length_map, List.length_set, List.length_cons, List.length_nil, List.length_take, List.length_drop, hrl]; omega)) only [va0, va1, va2, va3, va4, va5, va6, va7, va8, va9, va10, va11, va12, va13, va14, vb0, vb1, vb2, vb3, w_i8, w_u8, w_i16, w_u16, w_i32, w_u32, w_i64, w_u64, lt_T, lt_F, le_T, le_F, nlt_T, nlt_F, nle_T, nle_F, List.take_of_length_le, gB, gcW, gcR, posIn, renA, renL, Chunk.ren, Chunk.refs, evOpD, touchD, stepC, isFresh, nFresh, freshOf, mkR, hole, evL, evH, opd, get, putD, ofVal, cellOf, loadE, behind, lenE, idxAddrE, idxE, addPtr, intE, strE, unE, convE, AV.int, AV.bool, AV.str, ivs, take, frameOf, firstRegion, refsA, refsL, one, cellsA, floatOk, apartT, List.map, if_true, if_false, E_P, E_glob, reduceCtorEq, beq_self_eq_true, decide_true, decide_false, ↓reduceIte, Nat.reduceEqDiff, cond_true, cond_false, or_true, true_or, or_false, false_or, and_true, true_and, and_self, false_and, and_false, not_true, not_false_iff, Nat.reduceAdd, Nat.reduceSub, Nat.reduceMul, Nat.reduceLT, Nat.reduceLeDiff, Int.reduceToNat, Int.reduceLT, Int.reduceLE, Option.getD, Int.reduceMul, Int.reduceAdd, List.drop, List.take, Nat.reduceBEq, List.isEmpty, Int.reduceEq, Int.reduceNe, Int.reduceNeg, Int.reduceGT, Int.reduceGE, beq_true, beq_false, UInt8.reduceToNat, eqE, eq_self, foldE, maxE, minE, eq_T, eq_F, ndec, odec, adec, sdec, fillA, over, chop, List.replicate, leavesOk, leafOk, cellsEq, cellEq, E_ext, E_byref, en9, hik, e', f4, f6, List.take_of_length_le, show ∀ B fr H, execT E B 9 (Code.loop _) fr H = rlM E B 9 (loopAt Try.f9 0) [1, 4, 6, 7] [] (matF [] fr H).1 (matB [(6, 3, 7)] (matF [] fr H).1 (matF [] fr H).2) from fun B fr H => rl_introM rfl mt9_5 mb9_5 zf9_5 hd9_5 fr H]
    exact ⟨_, rfl⟩
theorem ik9 (p : Ps) (hp : p.pe.length < 40000) (hb : p.bu.length < 100000) (s : List UInt8) (hs : (s.length : Int) < 5000) (H : Hp) : isoK E (callT E) 9 [.agg (psC p), .i (.str s)] H = some (feedA (feedS p s), H) := isoK_val rfl rfl rfl (c9 p hp hb s hs)
end Go.VI
