import Derived.Test.YtcifhkdbaienjaaDoorZZR5
namespace Go.VI
open Go.Proofs
set_option maxRecDepth 100000
set_option linter.unusedSimpArgs false
set_option linter.unusedVariables false
set_option maxHeartbeats 4000000
def encR (r : Int) : List Int :=
  if r < 0 ∨ (55296 ≤ r ∧ r ≤ 57343) ∨ 1114111 < r then [239, 191, 189] else if r ≤ 127 then [r] else if r ≤ 2047 then [192 + r / 64, 128 + r % 64] else
    if r ≤ 65535 then [224 + r / 4096, 128 + r / 64 % 64, 128 + r % 64] else [240 + r / 262144, 128 + r / 4096 % 64, 128 + r / 64 % 64, 128 + r % 64]
theorem c54 (r : Int) (hr : -2147483648 ≤ r ∧ r ≤ 2147483647) (h7 : r < 0 ∨ 127 < r) (a : List UInt8) (hl : a.length < 1000000) : ∃ L, callT E 54 [.ref 0 0 0 a.length, .i (.v (.int .i32 r))] [.sl 1 0 (rowsB a) false] =
    some (.ref 0 1 0 (a.length + (encR r).length), .sl 1 1 (rowsB (a ++ by8 (encR r))) false :: L) := by
  unfold encR
  by_cases he : r < 0 ∨ (55296 ≤ r ∧ r ≤ 57343) ∨ 1114111 < r
  · rw [if_pos he]; exact c54_e r hr he a hl
  · rw [if_neg he, if_neg (by omega)]
    by_cases h2 : r ≤ 2047
    · rw [if_pos h2]; exact c54_2 r (by omega) h2 a hl
    · rw [if_neg h2]
      by_cases h3 : r ≤ 65535
      · rw [if_pos h3]; exact c54_3 r (by omega) h3 (by omega) a hl
      · rw [if_neg h3]; exact c54_4 r (by omega) (by omega) a hl
end Go.VI

namespace Go.VI
open Go.Proofs
set_option maxRecDepth 100000
set_option linter.unusedSimpArgs false
set_option linter.unusedVariables false
set_option maxHeartbeats 4000000
theorem isoK_app1 {E : Env} {cl : CallF} {H : Hp} {f c g g' n m sz : Nat} {ar : List AV} {rows rows' : List (List IV)} {ex ex' : Bool} (he : E.ext f = none) (hH : H[c]? = some (.sl sz g rows ex)) (has : refsL ar = [])
    (hc : ∃ L, cl f (.ref 0 g 0 n :: ar) [.sl sz g rows ex] = some (.ref 0 g' 0 m, .sl sz g' rows' ex' :: L)) :
    isoK E cl f (.ref c g 0 n :: ar) H = some (.ref c g' 0 m, H.set c (.sl sz g' rows' ex')) := by
  obtain ⟨L, hc⟩ := hc
  have h1 : ∀ ρ, renL ρ ar = ar := fun ρ => (refs_ren ρ).2 ar has
  have hR := reach_one hH (by rfl)
  unfold isoK
  simp [exCl, he, refsL, refsA, hR, renL, renA, posIn, hH, Chunk.ren, has, h1, hc, Chunk.refs, reach, setAll, backRen]
theorem ik54 (r : Int) (hr : -2147483648 ≤ r ∧ r ≤ 2147483647) (h7 : r < 0 ∨ 127 < r) (a : List UInt8) (n : Nat) (hn : n = a.length) (hl : n < 1000000) (T : Hp) : isoK E (callT E) 54 [.ref 0 0 0 n, .i (.v (.int .i32 r))] (.sl 1 0 (rowsB a) false :: T) =
    some (.ref 0 1 0 (n + (encR r).length), .sl 1 1 (rowsB (a ++ by8 (encR r))) false :: T) := by
  subst hn
  exact isoK_app1 rfl rfl rfl (c54 r hr h7 a hl)
theorem c36 (r : Int) (hr : -2147483648 ≤ r ∧ r ≤ 2147483647) (a : List UInt8) (hl : a.length < 1000000) : ∃ L, callT E 36 [.ref 0 0 0 a.length, .i (.v (.int .i32 r))] [.sl 1 0 (rowsB a) false] =
    some (.ref 0 1 0 (a.length + (encR r).length), .sl 1 1 (rowsB (a ++ by8 (encR r))) false :: L) := by
  by_cases h7 : r < 0 ∨ 127 < r
  · have hik := ik54 r hr h7 a _ rfl hl
    by_cases h0 : r < 0
    · have hw : IntKind.u32.wrap r = r + 4294967296 := by simp [IntKind.wrap, IntKind.bits, IntKind.signed]; omega
      rw [callT_eq Tryd.func36 rfl fok36 (by simp [Tryd.ntmps36])]
      simp (disch := first | omega | (simp only [List.length_append, List.length_map, List.length_set, List.length_cons, List.length_nil, List.length_take, List.length_drop, rowsB_len]; omega)) only [va0, va1, va2, va3, va4, va5, va6, va7, va8, va9, va10, va11, va12, va13, va14, va15, vb0, vb1, vb2, vb3, w_i8, w_u8, w_i16, w_u16, w_i32, w_u32, w_i64, w_u64, lt_T, lt_F, le_T, le_F, nlt_T, nlt_F, nle_T, nle_F, List.take_of_length_le, gB, gcW, gcR, posIn, renA, renL, Chunk.ren, Chunk.refs, evOpD, touchD, stepC, isFresh, nFresh, freshOf, mkR, hole, evL, evH, opd, get, putD, ofVal, cellOf, loadE, behind, lenE, idxAddrE, idxE, addPtr, intE, strE, unE, convE, AV.int, AV.bool, AV.str, ivs, take, frameOf, firstRegion, refsA, refsL, one, cellsA, floatOk, apartT, List.map, if_true, if_false, E_P, E_glob0, reduceCtorEq, beq_self_eq_true, decide_true, decide_false, ↓reduceIte, Nat.reduceEqDiff, cond_true, cond_false, or_true, true_or, or_false, false_or, and_true, true_and, and_self, false_and, and_false, not_true, not_false_iff, Nat.reduceAdd, Nat.reduceSub, Nat.reduceMul, Nat.reduceLT, Nat.reduceLeDiff, Int.reduceToNat, Int.reduceLT, Int.reduceLE, Option.getD, Int.reduceMul, Int.reduceAdd, List.drop, List.take, Nat.reduceBEq, List.isEmpty, Int.reduceEq, Int.reduceNe, Int.reduceNeg, Int.reduceGT, Int.reduceGE, beq_true, beq_false, UInt8.reduceToNat, eqE, eq_self, foldE, maxE, minE, eq_T, eq_F, ndec, odec, adec, sdec, fillA, over, chop, List.replicate, leavesOk, leafOk, cellsEq, cellEq, E_byref, en36, bs47, rowsB_len, hw, hik]
      exact ⟨_, rfl⟩
    · have hw : IntKind.u32.wrap r = r := by simp [IntKind.wrap, IntKind.bits, IntKind.signed]; omega
      rw [callT_eq Tryd.func36 rfl fok36 (by simp [Tryd.ntmps36])]
      simp (disch := first | omega | (simp only [List.length_append, List.length_map, List.length_set, List.length_cons, List.length_nil, List.length_take, List.length_drop, rowsB_len]; omega)) only [va0, va1, va2, va3, va4, va5, va6, va7, va8, va9, va10, va11, va12, va13, va14, va15, vb0, vb1, vb2, vb3, w_i8, w_u8, w_i16, w_u16, w_i32, w_u32, w_i64, w_u64, lt_T, lt_F, le_T, le_F, nlt_T, nlt_F, nle_T, nle_F, List.take_of_length_le, gB, gcW, gcR, posIn, renA, renL, Chunk.ren, Chunk.refs, evOpD, touchD, stepC, isFresh, nFresh, freshOf, mkR, hole, evL, evH, opd, get, putD, ofVal, cellOf, loadE, behind, lenE, idxAddrE, idxE, addPtr, intE, strE, unE, convE, AV.int, AV.bool, AV.str, ivs, take, frameOf, firstRegion, refsA, refsL, one, cellsA, floatOk, apartT, List.map, if_true, if_false, E_P, E_glob0, reduceCtorEq, beq_self_eq_true, decide_true, decide_false, ↓reduceIte, Nat.reduceEqDiff, cond_true, cond_false, or_true, true_or, or_false, false_or, and_true, true_and, and_self, false_and, and_false, not_true, not_false_iff, Nat.reduceAdd, Nat.reduceSub, Nat.reduceMul, Nat.reduceLT, Nat.reduceLeDiff, Int.reduceToNat, Int.reduceLT, Int.reduceLE, Option.getD, Int.reduceMul, Int.reduceAdd, List.drop, List.take, Nat.reduceBEq, List.isEmpty, Int.reduceEq, Int.reduceNe, Int.reduceNeg, Int.reduceGT, Int.reduceGE, beq_true, beq_false, UInt8.reduceToNat, eqE, eq_self, foldE, maxE, minE, eq_T, eq_F, ndec, odec, adec, sdec, fillA, over, chop, List.replicate, leavesOk, leafOk, cellsEq, cellEq, E_byref, en36, bs47, rowsB_len, hw, hik]
      exact ⟨_, rfl⟩
  · have he : encR r = [r] := by unfold encR; rw [if_neg (by omega), if_pos (by omega)]
    have hw : IntKind.u32.wrap r = r := by simp [IntKind.wrap, IntKind.bits, IntKind.signed]; omega
    have hw8 : IntKind.u8.wrap r = r := by rw [IntKind.wrap_u8']; omega
    rw [he, ← rowsB_by8 a [r] (by simp only [List.mem_cons, List.not_mem_nil, or_false]; rintro x rfl; omega)]
    rw [callT_eq Tryd.func36 rfl fok36 (by simp [Tryd.ntmps36])]
    simp (disch := first | omega | (simp only [List.length_append, List.length_map, List.length_set, List.length_cons, List.length_nil, List.length_take, List.length_drop, rowsB_len]; omega)) only [va0, va1, va2, va3, va4, va5, va6, va7, va8, va9, va10, va11, va12, va13, va14, va15, vb0, vb1, vb2, vb3, w_i8, w_u8, w_i16, w_u16, w_i32, w_u32, w_i64, w_u64, lt_T, lt_F, le_T, le_F, nlt_T, nlt_F, nle_T, nle_F, List.take_of_length_le, gB, gcW, gcR, posIn, renA, renL, Chunk.ren, Chunk.refs, evOpD, touchD, stepC, isFresh, nFresh, freshOf, mkR, hole, evL, evH, opd, get, putD, ofVal, cellOf, loadE, behind, lenE, idxAddrE, idxE, addPtr, intE, strE, unE, convE, AV.int, AV.bool, AV.str, ivs, take, frameOf, firstRegion, refsA, refsL, one, cellsA, floatOk, apartT, List.map, if_true, if_false, E_P, E_glob0, reduceCtorEq, beq_self_eq_true, decide_true, decide_false, ↓reduceIte, Nat.reduceEqDiff, cond_true, cond_false, or_true, true_or, or_false, false_or, and_true, true_and, and_self, false_and, and_false, not_true, not_false_iff, Nat.reduceAdd, Nat.reduceSub, Nat.reduceMul, Nat.reduceLT, Nat.reduceLeDiff, Int.reduceToNat, Int.reduceLT, Int.reduceLE, Option.getD, Int.reduceMul, Int.reduceAdd, List.drop, List.take, Nat.reduceBEq, List.isEmpty, Int.reduceEq, Int.reduceNe, Int.reduceNeg, Int.reduceGT, Int.reduceGE, beq_true, beq_false, UInt8.reduceToNat, eqE, eq_self, foldE, maxE, minE, eq_T, eq_F, ndec, odec, adec, sdec, fillA, over, chop, List.replicate, leavesOk, leafOk, cellsEq, cellEq, E_byref, en36, bs47, rowsB_len, hw, hw8, List.map_cons, List.map_nil, List.length_cons, List.length_nil]
    exact ⟨_, rfl⟩
theorem ik36 (r : Int) (hr : -2147483648 ≤ r ∧ r ≤ 2147483647) (a : List UInt8) (n : Nat) (hn : n = a.length) (hl : n < 1000000) (T : Hp) : isoK E (callT E) 36 [.ref 0 0 0 n, .i (.v (.int .i32 r))] (.sl 1 0 (rowsB a) false :: T) =
    some (.ref 0 1 0 (n + (encR r).length), .sl 1 1 (rowsB (a ++ by8 (encR r))) false :: T) := by
  subst hn
  exact isoK_app1 rfl rfl rfl (c36 r hr a hl)
theorem c22 (r : Int) (hr : -2147483648 ≤ r ∧ r ≤ 2147483647) : ∃ L, callT E 22 [.i (.sl 1 [[.v (.int .i32 r)]] false)] [] = some (.i (.str (by8 (encR r))), L) := by
  have e0 : rl E 0 22 (loopAt Tryd.f22 0) [(3, .ref 0 0 0 (encR r).length), (6, .i (.sl 1 [[.v (.int .i32 r)]] false)), (7, .i (.v (.int .i64 1))), (8, .i (.v (.int .i64 1)))] [.sl 1 0 (rowsB (by8 (encR r))) false] = some (.exit 0, [(3, .ref 0 0 0 (encR r).length), (6, .i (.sl 1 [[.v (.int .i32 r)]] false)), (7, .i (.v (.int .i64 1))), (8, .i (.v (.int .i64 1))), (9, .i (.v (.bool false)))], [.sl 1 0 (rowsB (by8 (encR r))) false]) := by
    rw [rl_step (fn := Tryd.f22) (k := 0) rfl]
    simp (disch := first | omega | (simp only [List.length_append, List.length_map, List.length_set, List.length_cons, List.length_nil, List.length_take, List.length_drop, rowsB_len]; omega)) only [va0, va1, va2, va3, va4, va5, va6, va7, va8, va9, va10, va11, va12, va13, va14, va15, vb0, vb1, vb2, vb3, w_i8, w_u8, w_i16, w_u16, w_i32, w_u32, w_i64, w_u64, lt_T, lt_F, le_T, le_F, nlt_T, nlt_F, nle_T, nle_F, List.take_of_length_le, gB, gcW, gcR, posIn, renA, renL, Chunk.ren, Chunk.refs, evOpD, touchD, stepC, isFresh, nFresh, freshOf, mkR, hole, evL, evH, opd, get, putD, ofVal, cellOf, loadE, behind, lenE, idxAddrE, idxE, addPtr, intE, strE, unE, convE, AV.int, AV.bool, AV.str, ivs, take, frameOf, firstRegion, refsA, refsL, one, cellsA, floatOk, apartT, List.map, if_true, if_false, E_P, E_glob0, reduceCtorEq, beq_self_eq_true, decide_true, decide_false, ↓reduceIte, Nat.reduceEqDiff, cond_true, cond_false, or_true, true_or, or_false, false_or, and_true, true_and, and_self, false_and, and_false, not_true, not_false_iff, Nat.reduceAdd, Nat.reduceSub, Nat.reduceMul, Nat.reduceLT, Nat.reduceLeDiff, Int.reduceToNat, Int.reduceLT, Int.reduceLE, Option.getD, Int.reduceMul, Int.reduceAdd, List.drop, List.take, Nat.reduceBEq, List.isEmpty, Int.reduceEq, Int.reduceNe, Int.reduceNeg, Int.reduceGT, Int.reduceGE, beq_true, beq_false, UInt8.reduceToNat, eqE, eq_self, foldE, maxE, minE, eq_T, eq_F, ndec, odec, adec, sdec, fillA, over, chop, List.replicate, leavesOk, leafOk, cellsEq, cellEq, E_byref, en22, bs47, bs49, rowsB_len]
  have hl : (encR r).length ≤ 4 := by unfold encR; repeat' split
                                      all_goals simp
  have hik := fun T => ik36 r hr [] 0 rfl (by omega) T
  simp only [List.nil_append, Nat.zero_add] at hik
  have e1 : rl E 0 22 (loopAt Tryd.f22 0) [(3, .ref 0 0 0 0), (6, .i (.sl 1 [[.v (.int .i32 r)]] false)), (7, .i (.v (.int .i64 1))), (8, .i (.v (.int .i64 0)))] [.sl 1 0 (rowsB []) false] = some (.exit 0, [(3, .ref 0 0 0 (encR r).length), (6, .i (.sl 1 [[.v (.int .i32 r)]] false)), (7, .i (.v (.int .i64 1))), (8, .i (.v (.int .i64 1))), (9, .i (.v (.bool false)))], [.sl 1 0 (rowsB (by8 (encR r))) false]) := by
    refine Eq.trans ?_ e0
    clear e0
    rw [rl_step (fn := Tryd.f22) (k := 0) rfl]
    simp (disch := first | omega | (simp only [List.length_append, List.length_map, List.length_set, List.length_cons, List.length_nil, List.length_take, List.length_drop, rowsB_len]; omega)) only [va0, va1, va2, va3, va4, va5, va6, va7, va8, va9, va10, va11, va12, va13, va14, va15, vb0, vb1, vb2, vb3, w_i8, w_u8, w_i16, w_u16, w_i32, w_u32, w_i64, w_u64, lt_T, lt_F, le_T, le_F, nlt_T, nlt_F, nle_T, nle_F, List.take_of_length_le, gB, gcW, gcR, posIn, renA, renL, Chunk.ren, Chunk.refs, evOpD, touchD, stepC, isFresh, nFresh, freshOf, mkR, hole, evL, evH, opd, get, putD, ofVal, cellOf, loadE, behind, lenE, idxAddrE, idxE, addPtr, intE, strE, unE, convE, AV.int, AV.bool, AV.str, ivs, take, frameOf, firstRegion, refsA, refsL, one, cellsA, floatOk, apartT, List.map, if_true, if_false, E_P, E_glob0, reduceCtorEq, beq_self_eq_true, decide_true, decide_false, ↓reduceIte, Nat.reduceEqDiff, cond_true, cond_false, or_true, true_or, or_false, false_or, and_true, true_and, and_self, false_and, and_false, not_true, not_false_iff, Nat.reduceAdd, Nat.reduceSub, Nat.reduceMul, Nat.reduceLT, Nat.reduceLeDiff, Int.reduceToNat, Int.reduceLT, Int.reduceLE, Option.getD, Int.reduceMul, Int.reduceAdd, List.drop, List.take, Nat.reduceBEq, List.isEmpty, Int.reduceEq, Int.reduceNe, Int.reduceNeg, Int.reduceGT, Int.reduceGE, beq_true, beq_false, UInt8.reduceToNat, eqE, eq_self, foldE, maxE, minE, eq_T, eq_F, ndec, odec, adec, sdec, fillA, over, chop, List.replicate, leavesOk, leafOk, cellsEq, cellEq, E_byref, en22, bs47, bs49, rowsB_len, hik, show ∀ B fr H, execT E B 22 (Code.loop _) fr H = rlM E B 22 (loopAt Tryd.f22 0) [3, 6, 7, 8] [] (matF [(3, 1)] fr H).1 (matB [] (matF [(3, 1)] fr H).1 (matF [(3, 1)] fr H).2) from fun B fr H => rl_introM rfl mt22_3 mb22_3 zf22_3 hd22_3 fr H]
  clear e0
  have hz : rowsB [] = [] := rfl
  rw [hz] at e1
  have hlb : (by8 (encR r)).length = (encR r).length := List.length_map _
  rw [callT_eq Tryd.func22 rfl fok22 (by simp [Tryd.ntmps22])]
  simp (disch := first | omega | (simp only [List.length_append, List.length_map, List.length_set, List.length_cons, List.length_nil, List.length_take, List.length_drop, rowsB_len, hlb]; omega)) only [va0, va1, va2, va3, va4, va5, va6, va7, va8, va9, va10, va11, va12, va13, va14, va15, vb0, vb1, vb2, vb3, w_i8, w_u8, w_i16, w_u16, w_i32, w_u32, w_i64, w_u64, lt_T, lt_F, le_T, le_F, nlt_T, nlt_F, nle_T, nle_F, List.take_of_length_le, gB, gcW, gcR, posIn, renA, renL, Chunk.ren, Chunk.refs, evOpD, touchD, stepC, isFresh, nFresh, freshOf, mkR, hole, evL, evH, opd, get, putD, ofVal, cellOf, loadE, behind, lenE, idxAddrE, idxE, addPtr, intE, strE, unE, convE, AV.int, AV.bool, AV.str, ivs, take, frameOf, firstRegion, refsA, refsL, one, cellsA, floatOk, apartT, List.map, if_true, if_false, E_P, E_glob0, reduceCtorEq, beq_self_eq_true, decide_true, decide_false, ↓reduceIte, Nat.reduceEqDiff, cond_true, cond_false, or_true, true_or, or_false, false_or, and_true, true_and, and_self, false_and, and_false, not_true, not_false_iff, Nat.reduceAdd, Nat.reduceSub, Nat.reduceMul, Nat.reduceLT, Nat.reduceLeDiff, Int.reduceToNat, Int.reduceLT, Int.reduceLE, Option.getD, Int.reduceMul, Int.reduceAdd, List.drop, List.take, Nat.reduceBEq, List.isEmpty, Int.reduceEq, Int.reduceNe, Int.reduceNeg, Int.reduceGT, Int.reduceGE, beq_true, beq_false, UInt8.reduceToNat, eqE, eq_self, foldE, maxE, minE, eq_T, eq_F, ndec, odec, adec, sdec, fillA, over, chop, List.replicate, leavesOk, leafOk, cellsEq, cellEq, E_byref, en22, bs47, bs49, rowsB_len, e1, hlb, rowsB_num, Option.map_some, bytes_back, rowsB_take, List.take_of_length_le, show ∀ B fr H, execT E B 22 (Code.loop _) fr H = rlM E B 22 (loopAt Tryd.f22 0) [3, 6, 7, 8] [] (matF [(3, 1)] fr H).1 (matB [] (matF [(3, 1)] fr H).1 (matF [(3, 1)] fr H).2) from fun B fr H => rl_introM rfl mt22_3 mb22_3 zf22_3 hd22_3 fr H]
  exact ⟨_, rfl⟩
theorem ik22 (r : Int) (hr : -2147483648 ≤ r ∧ r ≤ 2147483647) (H : Hp) : isoK E (callT E) 22 [.i (.sl 1 [[.v (.int .i32 r)]] false)] H = some (.i (.str (by8 (encR r))), H) := isoK_val rfl rfl rfl (c22 r hr)
end Go.VI

namespace Go.VI
open Go.Proofs
set_option maxRecDepth 100000
set_option linter.unusedSimpArgs false
set_option linter.unusedVariables false
set_option maxHeartbeats 4000000
def runI : List Int → Nat → Dec → Dec
  | [], _, d => d
  | b :: r, i, d => runI r (i + 1) (stepD d i b)
theorem runI_by8 : ∀ (l : List Int) (i : Nat) (d : Dec), (∀ x ∈ l, 0 ≤ x ∧ x < 256) → runD (by8 l) i d = runI l i d
  | [], _, _, _ => rfl
  | b :: l, i, d, h => by
    have hb := h b (.head _)
    have e : ((UInt8.ofNat b.toNat).toNat : Int) = b := by rw [UInt8.toNat_ofNat', Nat.mod_eq_of_lt (by omega)]; omega
    show runD (UInt8.ofNat b.toNat :: by8 l) i d = _
    rw [runD, runI, e, runI_by8 l _ _ fun x hx => h x (.tail _ hx)]
theorem stepD_in {d : Dec} {i b : Int} (h : 0 < d.s.mi ∧ d.s.lo ≤ b ∧ b ≤ d.s.hi) : stepD d i b = ⟨⟨d.s.v * 64 + b % 64, d.s.mi - 1, 128, 191⟩, if d.s.mi - 1 = 0 then d.out ++ [d.s.v * 64 + b % 64] else d.out, d.st⟩ := by
  unfold stepD; rw [if_pos h]
theorem stepD_one {out : List Int} {st i b : Int} (h0 : 0 ≤ b) (h1 : b < 128) : stepD ⟨sq0, out, st⟩ i b = ⟨beginS b, out ++ [b], i⟩ ∧ (beginS b).mi = 0 := by
  constructor
  · unfold stepD; rw [if_neg (by simp [sq0])]; simp [sq0, h1]
  · unfold beginS; simp only; rw [if_neg (by omega), if_neg (by omega), if_neg (by omega)]
theorem stepD_fst {out : List Int} {st i b : Int} (h0 : 194 ≤ b) (h1 : b ≤ 244) : stepD ⟨sq0, out, st⟩ i b = ⟨beginS b, out, i⟩ := by
  have hm : ¬ (beginS b).mi = 0 := by unfold beginS; simp only; repeat' split
                                      all_goals simp only; omega
  unfold stepD; rw [if_neg (by simp [sq0])]; simp only [sq0, Int.lt_irrefl, if_false]; rw [if_neg (by omega), if_neg hm]
theorem beginS_2 {b : Int} (h0 : 194 ≤ b) (h1 : b ≤ 223) : beginS b = ⟨b - 192, 1, 128, 191⟩ := by
  unfold beginS; simp only; rw [if_pos ⟨h0, h1⟩, if_neg (by omega), if_neg (by omega), if_neg (by omega), if_neg (by omega)]
theorem beginS_3 {b : Int} (h0 : 224 ≤ b) (h1 : b ≤ 239) : beginS b = ⟨b - 224, 2, if b = 224 then 160 else 128, if b = 237 then 159 else 191⟩ := by
  unfold beginS; simp only; rw [if_neg (by omega), if_pos ⟨h0, h1⟩]
  congr 1
  · rw [if_neg (show ¬ b = 240 by omega)]
  · rw [if_neg (show ¬ b = 244 by omega)]
theorem beginS_4 {b : Int} (h0 : 240 ≤ b) (h1 : b ≤ 244) : beginS b = ⟨b - 240, 3, if b = 240 then 144 else 128, if b = 244 then 143 else 191⟩ := by
  unfold beginS; simp only; rw [if_neg (by omega), if_neg (by omega), if_pos ⟨h0, h1⟩]
  congr 1
  · rw [if_neg (show ¬ b = 224 by omega)]
  · rw [if_neg (show ¬ b = 237 by omega)]
def goodR (r : Int) : Bool := decide (0 ≤ r) && decide (r ≤ 1114111) && !(decide (55296 ≤ r) && decide (r ≤ 57343))
theorem encR_b (r : Int) : ∀ x ∈ encR r, 0 ≤ x ∧ x < 256 := by
  unfold encR
  repeat' split
  all_goals simp only [List.mem_cons, List.not_mem_nil, or_false]
  · rintro x (rfl | rfl | rfl) <;> omega
  · rintro x rfl; omega
  · rintro x (rfl | rfl) <;> omega
  · rintro x (rfl | rfl | rfl) <;> omega
  · rintro x (rfl | rfl | rfl | rfl) <;> omega
def dec0 : Dec := ⟨sq0, [], 0⟩
theorem dec_2 {r : Int} (h0 : 128 ≤ r) (h1 : r ≤ 2047) : runI [192 + r / 64, 128 + r % 64] 0 dec0 = ⟨⟨r, 0, 128, 191⟩, [r], 0⟩ ∧ runI [192 + r / 64] 0 dec0 = ⟨⟨r / 64, 1, 128, 191⟩, [], 0⟩ := by
  have e1 : stepD dec0 ((0 : Nat) : Int) (192 + r / 64) = ⟨⟨r / 64, 1, 128, 191⟩, [], 0⟩ := by
    unfold dec0; rw [stepD_fst (by omega) (by omega), beginS_2 (by omega) (by omega)]
    rw [show 192 + r / 64 - 192 = r / 64 by omega]; rfl
  refine ⟨?_, by rw [runI, e1]; rfl⟩
  rw [runI, e1, runI, stepD_in (by simp only; omega), runI]
  simp only [show r / 64 * 64 + (128 + r % 64) % 64 = r by omega, Int.sub_self, if_true, List.nil_append]
theorem dec_3 {r : Int} (h0 : 2048 ≤ r) (h1 : r ≤ 65535) (hs : r < 55296 ∨ 57343 < r) :
    runI [224 + r / 4096, 128 + r / 64 % 64, 128 + r % 64] 0 dec0 = ⟨⟨r, 0, 128, 191⟩, [r], 0⟩ ∧ (∃ s, 0 < s.mi ∧ runI [224 + r / 4096] 0 dec0 = ⟨s, [], 0⟩) ∧
    ∃ s, 0 < s.mi ∧ runI [224 + r / 4096, 128 + r / 64 % 64] 0 dec0 = ⟨s, [], 0⟩ := by
  have e1 : stepD dec0 ((0 : Nat) : Int) (224 + r / 4096) = ⟨⟨r / 4096, 2, if 224 + r / 4096 = 224 then 160 else 128, if 224 + r / 4096 = 237 then 159 else 191⟩, [], 0⟩ := by
    unfold dec0; rw [stepD_fst (by omega) (by omega), beginS_3 (by omega) (by omega)]
    rw [show 224 + r / 4096 - 224 = r / 4096 by omega]; rfl
  have e2 : ∀ i, stepD ⟨⟨r / 4096, 2, if 224 + r / 4096 = 224 then 160 else 128, if 224 + r / 4096 = 237 then 159 else 191⟩, [], 0⟩ i (128 + r / 64 % 64) = ⟨⟨r / 64, 1, 128, 191⟩, [], 0⟩ := by
    intro i
    rw [stepD_in (by simp only; repeat' split
                     all_goals omega)]
    simp only [show r / 4096 * 64 + (128 + r / 64 % 64) % 64 = r / 64 by omega]; rfl
  refine ⟨?_, ⟨_, ?_, by rw [runI, e1]; rfl⟩, ⟨⟨r / 64, 1, 128, 191⟩, (by decide : (0 : Int) < 1), by rw [runI, e1, runI, e2]; rfl⟩⟩
  · rw [runI, e1, runI, e2, runI, stepD_in (by simp only; omega), runI]
    simp only [show r / 64 * 64 + (128 + r % 64) % 64 = r by omega, Int.sub_self, if_true, List.nil_append]
  · exact (by decide : (0 : Int) < 2)
theorem dec_4 {r : Int} (h0 : 65536 ≤ r) (h1 : r ≤ 1114111) :
    runI [240 + r / 262144, 128 + r / 4096 % 64, 128 + r / 64 % 64, 128 + r % 64] 0 dec0 = ⟨⟨r, 0, 128, 191⟩, [r], 0⟩ ∧ (∃ s, 0 < s.mi ∧ runI [240 + r / 262144] 0 dec0 = ⟨s, [], 0⟩) ∧
    (∃ s, 0 < s.mi ∧ runI [240 + r / 262144, 128 + r / 4096 % 64] 0 dec0 = ⟨s, [], 0⟩) ∧ ∃ s, 0 < s.mi ∧ runI [240 + r / 262144, 128 + r / 4096 % 64, 128 + r / 64 % 64] 0 dec0 = ⟨s, [], 0⟩ := by
  have e1 : stepD dec0 ((0 : Nat) : Int) (240 + r / 262144) = ⟨⟨r / 262144, 3, if 240 + r / 262144 = 240 then 144 else 128, if 240 + r / 262144 = 244 then 143 else 191⟩, [], 0⟩ := by
    unfold dec0; rw [stepD_fst (by omega) (by omega), beginS_4 (by omega) (by omega)]
    rw [show 240 + r / 262144 - 240 = r / 262144 by omega]; rfl
  have e2 : ∀ i, stepD ⟨⟨r / 262144, 3, if 240 + r / 262144 = 240 then 144 else 128, if 240 + r / 262144 = 244 then 143 else 191⟩, [], 0⟩ i (128 + r / 4096 % 64) = ⟨⟨r / 4096, 2, 128, 191⟩, [], 0⟩ := by
    intro i
    rw [stepD_in (by simp only; repeat' split
                     all_goals omega)]
    simp only [show r / 262144 * 64 + (128 + r / 4096 % 64) % 64 = r / 4096 by omega]; rfl
  have e3 : ∀ i, stepD ⟨⟨r / 4096, 2, 128, 191⟩, [], 0⟩ i (128 + r / 64 % 64) = ⟨⟨r / 64, 1, 128, 191⟩, [], 0⟩ := by
    intro i
    rw [stepD_in (by simp only; omega)]
    simp only [show r / 4096 * 64 + (128 + r / 64 % 64) % 64 = r / 64 by omega]; rfl
  refine ⟨?_, ⟨_, ?_, by rw [runI, e1]; rfl⟩, ⟨⟨r / 4096, 2, 128, 191⟩, (by decide : (0 : Int) < 2), by rw [runI, e1, runI, e2]; rfl⟩, ⟨⟨r / 64, 1, 128, 191⟩, (by decide : (0 : Int) < 1), by rw [runI, e1, runI, e2, runI, e3]; rfl⟩⟩
  · rw [runI, e1, runI, e2, runI, e3, runI, stepD_in (by simp only; omega), runI]
    simp only [show r / 64 * 64 + (128 + r % 64) % 64 = r by omega, Int.sub_self, if_true, List.nil_append]
  · exact (by decide : (0 : Int) < 3)
theorem decOut_enc (r : Int) : decOut (by8 (encR r)) = [if goodR r = true then r else 65533] := by
  unfold decOut decD
  rw [runI_by8 _ _ _ (encR_b r)]
  unfold encR
  by_cases he : r < 0 ∨ (55296 ≤ r ∧ r ≤ 57343) ∨ 1114111 < r
  · have hg : goodR r = false := by simp [goodR]; omega
    rw [if_pos he, hg, if_neg (by decide)]; decide
  · have hg : goodR r = true := by simp [goodR]; omega
    rw [if_neg he, hg, if_pos rfl]
    by_cases h1 : r ≤ 127
    · rw [if_pos h1, runI, runI, (stepD_one (b := r) (by omega) (by omega)).1]; rfl
    · rw [if_neg h1]
      by_cases h2 : r ≤ 2047
      · rw [if_pos h2]; exact congrArg Dec.out (dec_2 (by omega) h2).1
      · rw [if_neg h2]
        by_cases h3 : r ≤ 65535
        · rw [if_pos h3]; exact congrArg Dec.out (dec_3 (by omega) h3 (by omega)).1
        · rw [if_neg h3]; exact congrArg Dec.out (dec_4 (by omega) (by omega)).1
end Go.VI

namespace Go.VI
open Go.Proofs
set_option maxRecDepth 100000
set_option linter.unusedSimpArgs false
set_option linter.unusedVariables false
set_option maxHeartbeats 4000000
theorem ika42 (x : Int) (h0 : 0 ≤ x) (h1 : x ≤ 9999) (a : List UInt8) (n : Nat) (hn : n = a.length) (hl : n < 1000000) (g : Nat) (T : Hp) :
    isoK E (callT E) 42 [.ref 0 g 0 n, .i (.v (.int .i64 x)), .i (.v (.int .i64 10))] (.sl 1 g (rowsB a) false :: T) = some (.ref 0 (g + 1) 0 (n + (numB x).length), .sl 1 (g + 1) (rowsB (a ++ numB x)) false :: T) :=
  ik42 x h0 (by omega) hn hl rfl
def fmtG : Bool → List Int → List UInt8
  | _, [] => []
  | true, n :: l => numB n ++ fmtG false l
  | false, n :: l => 59 :: (numB n ++ fmtG false l)
theorem b59 (a : List UInt8) : rowsB a ++ [[.v (.int .u8 59)]] = rowsB (a ++ [59]) := rowsB_snoc a 59 59 rfl
theorem l23 (s : List UInt8) (l : List Int) (hl : l.length < 1000) (hl9 : ∀ n ∈ l, n ≤ 9999) (k : Nat) (hk : k ≤ l.length) (out : List UInt8) (ho : out.length ≤ 21 * k + 1) :
    rl E 0 23 (loopAt Tryd.f23 0) [(2, .i (.str s)), (8, .ref 0 0 0 out.length), (45, .i (.sl 1 (rows64 l) false)), (46, .i (.v (.int .i64 l.length))), (47, .i (.v (.int .i64 k)))] [.sl 1 0 (rowsB out) false] =
    some (.exit 1, [(2, .i (.str s)), (8, .ref 0 0 0 (out ++ fmtG (decide (k = 0)) (l.drop k)).length), (45, .i (.sl 1 (rows64 l) false)), (46, .i (.v (.int .i64 l.length))), (47, .i (.v (.int .i64 l.length))), (48, .i (.v (.bool false)))], [.sl 1 0 (rowsB (out ++ fmtG (decide (k = 0)) (l.drop k))) false]) := by
  rw [rl_step (fn := Tryd.f23) (k := 0) rfl]
  by_cases hlt : k < l.length
  · have hrow := rows64_at hlt
    have h9 : l[k] ≤ 9999 := hl9 _ (List.getElem_mem hlt)
    have h20 : (numB l[k]).length ≤ 20 := numB_len _ (by omega)
    have hn0 : ¬ 0 ≤ l[k] → numB l[k] = [] := fun h => by rw [numB, if_neg h]
    have hka := ika42 l[k]
    by_cases h0 : k = 0
    · have ih := l23 s l hl hl9 (k + 1) hlt (out ++ numB l[k]) (by rw [List.length_append]; omega)
      rw [show decide (k + 1 = 0) = false by simp, List.append_assoc] at ih
      rw [List.drop_eq_getElem_cons hlt, show decide (k = 0) = true by simpa using h0, fmtG, ← ih]
      clear ih
      generalize l[k] = n at *
      by_cases hn : 0 ≤ n
      · have hka := hka hn h9
        simp (disch := first | omega | (simp only [List.length_append, List.length_map, List.length_set, List.length_cons, List.length_nil, List.length_take, List.length_drop, rows64_len, rowsB_len]; omega)) only [va0, va1, va2, va3, va4, va5, va6, va7, va8, va9, va10, va11, va12, va13, va14, va15, vb0, vb1, vb2, vb3, w_i8, w_u8, w_i16, w_u16, w_i32, w_u32, w_i64, w_u64, lt_T, lt_F, le_T, le_F, nlt_T, nlt_F, nle_T, nle_F, List.take_of_length_le, gB, gcW, gcR, posIn, renA, renL, Chunk.ren, Chunk.refs, evOpD, touchD, stepC, isFresh, nFresh, freshOf, mkR, hole, evL, evH, opd, get, putD, ofVal, cellOf, loadE, behind, lenE, idxAddrE, idxE, addPtr, intE, strE, unE, convE, AV.int, AV.bool, AV.str, ivs, take, frameOf, firstRegion, refsA, refsL, one, cellsA, floatOk, apartT, List.map, if_true, if_false, E_P, E_glob0, reduceCtorEq, beq_self_eq_true, decide_true, decide_false, ↓reduceIte, Nat.reduceEqDiff, cond_true, cond_false, or_true, true_or, or_false, false_or, and_true, true_and, and_self, false_and, and_false, not_true, not_false_iff, Nat.reduceAdd, Nat.reduceSub, Nat.reduceMul, Nat.reduceLT, Nat.reduceLeDiff, Int.reduceToNat, Int.reduceLT, Int.reduceLE, Option.getD, Int.reduceMul, Int.reduceAdd, List.drop, List.take, Nat.reduceBEq, List.isEmpty, Int.reduceEq, Int.reduceNe, Int.reduceNeg, Int.reduceGT, Int.reduceGE, beq_true, beq_false, UInt8.reduceToNat, eqE, eq_self, foldE, maxE, minE, eq_T, eq_F, ndec, odec, adec, sdec, fillA, over, chop, List.replicate, leavesOk, leafOk, cellsEq, cellEq, E_byref, en23, bs29, bs47, hrow, hn, hka, rows64_len, rowsB_len, show ∀ B fr H, execT E B 23 (Code.loop _) fr H = rlM E B 23 (loopAt Tryd.f23 0) [2, 8, 45, 46, 47] [] (matF [(8, 1)] fr H).1 (matB [] (matF [(8, 1)] fr H).1 (matF [(8, 1)] fr H).2) from fun B fr H => rl_introM rfl mt23_13 mb23_13 zf23_13 hd23_13 fr H]
      · rw [hn0 hn, List.append_nil]
        simp (disch := first | omega | (simp only [List.length_append, List.length_map, List.length_set, List.length_cons, List.length_nil, List.length_take, List.length_drop, rows64_len, rowsB_len]; omega)) only [va0, va1, va2, va3, va4, va5, va6, va7, va8, va9, va10, va11, va12, va13, va14, va15, vb0, vb1, vb2, vb3, w_i8, w_u8, w_i16, w_u16, w_i32, w_u32, w_i64, w_u64, lt_T, lt_F, le_T, le_F, nlt_T, nlt_F, nle_T, nle_F, List.take_of_length_le, gB, gcW, gcR, posIn, renA, renL, Chunk.ren, Chunk.refs, evOpD, touchD, stepC, isFresh, nFresh, freshOf, mkR, hole, evL, evH, opd, get, putD, ofVal, cellOf, loadE, behind, lenE, idxAddrE, idxE, addPtr, intE, strE, unE, convE, AV.int, AV.bool, AV.str, ivs, take, frameOf, firstRegion, refsA, refsL, one, cellsA, floatOk, apartT, List.map, if_true, if_false, E_P, E_glob0, reduceCtorEq, beq_self_eq_true, decide_true, decide_false, ↓reduceIte, Nat.reduceEqDiff, cond_true, cond_false, or_true, true_or, or_false, false_or, and_true, true_and, and_self, false_and, and_false, not_true, not_false_iff, Nat.reduceAdd, Nat.reduceSub, Nat.reduceMul, Nat.reduceLT, Nat.reduceLeDiff, Int.reduceToNat, Int.reduceLT, Int.reduceLE, Option.getD, Int.reduceMul, Int.reduceAdd, List.drop, List.take, Nat.reduceBEq, List.isEmpty, Int.reduceEq, Int.reduceNe, Int.reduceNeg, Int.reduceGT, Int.reduceGE, beq_true, beq_false, UInt8.reduceToNat, eqE, eq_self, foldE, maxE, minE, eq_T, eq_F, ndec, odec, adec, sdec, fillA, over, chop, List.replicate, leavesOk, leafOk, cellsEq, cellEq, E_byref, en23, bs29, bs47, hrow, hn, rows64_len, rowsB_len, show ∀ B fr H, execT E B 23 (Code.loop _) fr H = rlM E B 23 (loopAt Tryd.f23 0) [2, 8, 45, 46, 47] [] (matF [(8, 1)] fr H).1 (matB [] (matF [(8, 1)] fr H).1 (matF [(8, 1)] fr H).2) from fun B fr H => rl_introM rfl mt23_13 mb23_13 zf23_13 hd23_13 fr H]
    · have ih := l23 s l hl hl9 (k + 1) hlt (out ++ ([59] ++ numB l[k])) (by simp only [List.length_append, List.length_cons, List.length_nil]; omega)
      rw [show decide (k + 1 = 0) = false by simp, List.append_assoc, List.append_assoc] at ih
      rw [List.drop_eq_getElem_cons hlt, show decide (k = 0) = false by simpa using h0, fmtG]
      have ih' := ih
      simp only [List.cons_append, List.nil_append] at ih'
      rw [← ih']
      clear ih ih'
      have hk0 : 0 < k := by omega
      generalize l[k] = n at *
      by_cases hn : 0 ≤ n
      · have hka := hka hn h9 (out ++ [59]) (out.length + 1) (by simp) (by omega)
        have e1 : out.length + ((numB n).length + 1) = out.length + 1 + (numB n).length := by omega
        simp (disch := first | omega | (simp only [List.length_append, List.length_map, List.length_set, List.length_cons, List.length_nil, List.length_take, List.length_drop, rows64_len, rowsB_len]; omega)) only [va0, va1, va2, va3, va4, va5, va6, va7, va8, va9, va10, va11, va12, va13, va14, va15, vb0, vb1, vb2, vb3, w_i8, w_u8, w_i16, w_u16, w_i32, w_u32, w_i64, w_u64, lt_T, lt_F, le_T, le_F, nlt_T, nlt_F, nle_T, nle_F, List.take_of_length_le, gB, gcW, gcR, posIn, renA, renL, Chunk.ren, Chunk.refs, evOpD, touchD, stepC, isFresh, nFresh, freshOf, mkR, hole, evL, evH, opd, get, putD, ofVal, cellOf, loadE, behind, lenE, idxAddrE, idxE, addPtr, intE, strE, unE, convE, AV.int, AV.bool, AV.str, ivs, take, frameOf, firstRegion, refsA, refsL, one, cellsA, floatOk, apartT, List.map, if_true, if_false, E_P, E_glob0, reduceCtorEq, beq_self_eq_true, decide_true, decide_false, ↓reduceIte, Nat.reduceEqDiff, cond_true, cond_false, or_true, true_or, or_false, false_or, and_true, true_and, and_self, false_and, and_false, not_true, not_false_iff, Nat.reduceAdd, Nat.reduceSub, Nat.reduceMul, Nat.reduceLT, Nat.reduceLeDiff, Int.reduceToNat, Int.reduceLT, Int.reduceLE, Option.getD, Int.reduceMul, Int.reduceAdd, List.drop, List.take, Nat.reduceBEq, List.isEmpty, Int.reduceEq, Int.reduceNe, Int.reduceNeg, Int.reduceGT, Int.reduceGE, beq_true, beq_false, UInt8.reduceToNat, eqE, eq_self, foldE, maxE, minE, eq_T, eq_F, ndec, odec, adec, sdec, fillA, over, chop, List.replicate, leavesOk, leafOk, cellsEq, cellEq, E_byref, en23, bs29, bs47, hrow, hk0, hn, hka, b59, rows64_len, rowsB_len, List.append_assoc, show ∀ B fr H, execT E B 23 (Code.loop _) fr H = rlM E B 23 (loopAt Tryd.f23 0) [2, 8, 45, 46, 47] [] (matF [(8, 1)] fr H).1 (matB [] (matF [(8, 1)] fr H).1 (matF [(8, 1)] fr H).2) from fun B fr H => rl_introM rfl mt23_13 mb23_13 zf23_13 hd23_13 fr H]
        rw [e1]
      · rw [hn0 hn]
        simp (disch := first | omega | (simp only [List.length_append, List.length_map, List.length_set, List.length_cons, List.length_nil, List.length_take, List.length_drop, rows64_len, rowsB_len]; omega)) only [va0, va1, va2, va3, va4, va5, va6, va7, va8, va9, va10, va11, va12, va13, va14, va15, vb0, vb1, vb2, vb3, w_i8, w_u8, w_i16, w_u16, w_i32, w_u32, w_i64, w_u64, lt_T, lt_F, le_T, le_F, nlt_T, nlt_F, nle_T, nle_F, List.take_of_length_le, gB, gcW, gcR, posIn, renA, renL, Chunk.ren, Chunk.refs, evOpD, touchD, stepC, isFresh, nFresh, freshOf, mkR, hole, evL, evH, opd, get, putD, ofVal, cellOf, loadE, behind, lenE, idxAddrE, idxE, addPtr, intE, strE, unE, convE, AV.int, AV.bool, AV.str, ivs, take, frameOf, firstRegion, refsA, refsL, one, cellsA, floatOk, apartT, List.map, if_true, if_false, E_P, E_glob0, reduceCtorEq, beq_self_eq_true, decide_true, decide_false, ↓reduceIte, Nat.reduceEqDiff, cond_true, cond_false, or_true, true_or, or_false, false_or, and_true, true_and, and_self, false_and, and_false, not_true, not_false_iff, Nat.reduceAdd, Nat.reduceSub, Nat.reduceMul, Nat.reduceLT, Nat.reduceLeDiff, Int.reduceToNat, Int.reduceLT, Int.reduceLE, Option.getD, Int.reduceMul, Int.reduceAdd, List.drop, List.take, Nat.reduceBEq, List.isEmpty, Int.reduceEq, Int.reduceNe, Int.reduceNeg, Int.reduceGT, Int.reduceGE, beq_true, beq_false, UInt8.reduceToNat, eqE, eq_self, foldE, maxE, minE, eq_T, eq_F, ndec, odec, adec, sdec, fillA, over, chop, List.replicate, leavesOk, leafOk, cellsEq, cellEq, E_byref, en23, bs29, bs47, hrow, hk0, hn, b59, rows64_len, rowsB_len, List.append_assoc, show ∀ B fr H, execT E B 23 (Code.loop _) fr H = rlM E B 23 (loopAt Tryd.f23 0) [2, 8, 45, 46, 47] [] (matF [(8, 1)] fr H).1 (matB [] (matF [(8, 1)] fr H).1 (matF [(8, 1)] fr H).2) from fun B fr H => rl_introM rfl mt23_13 mb23_13 zf23_13 hd23_13 fr H]
  · obtain rfl : k = l.length := by omega
    rw [List.drop_length]
    simp only [fmtG, List.append_nil]
    simp (disch := first | omega | (simp only [List.length_append, List.length_map, List.length_set, List.length_cons, List.length_nil, List.length_take, List.length_drop]; omega)) only [va0, va1, va2, va3, va4, va5, va6, va7, va8, va9, va10, va11, va12, va13, va14, va15, vb0, vb1, vb2, vb3, w_i8, w_u8, w_i16, w_u16, w_i32, w_u32, w_i64, w_u64, lt_T, lt_F, le_T, le_F, nlt_T, nlt_F, nle_T, nle_F, List.take_of_length_le, gB, gcW, gcR, posIn, renA, renL, Chunk.ren, Chunk.refs, evOpD, touchD, stepC, isFresh, nFresh, freshOf, mkR, hole, evL, evH, opd, get, putD, ofVal, cellOf, loadE, behind, lenE, idxAddrE, idxE, addPtr, intE, strE, unE, convE, AV.int, AV.bool, AV.str, ivs, take, frameOf, firstRegion, refsA, refsL, one, cellsA, floatOk, apartT, List.map, if_true, if_false, E_P, E_glob0, reduceCtorEq, beq_self_eq_true, decide_true, decide_false, ↓reduceIte, Nat.reduceEqDiff, cond_true, cond_false, or_true, true_or, or_false, false_or, and_true, true_and, and_self, false_and, and_false, not_true, not_false_iff, Nat.reduceAdd, Nat.reduceSub, Nat.reduceMul, Nat.reduceLT, Nat.reduceLeDiff, Int.reduceToNat, Int.reduceLT, Int.reduceLE, Option.getD, Int.reduceMul, Int.reduceAdd, List.drop, List.take, Nat.reduceBEq, List.isEmpty, Int.reduceEq, Int.reduceNe, Int.reduceNeg, Int.reduceGT, Int.reduceGE, beq_true, beq_false, UInt8.reduceToNat, eqE, eq_self, foldE, maxE, minE, eq_T, eq_F, ndec, odec, adec, sdec, fillA, over, chop, List.replicate, leavesOk, leafOk, cellsEq, cellEq, E_byref, en23, bs29, bs47]
termination_by l.length - k
def fmtS (p : Int) (l : List Int) (s : List UInt8) : List UInt8 × Int :=
  if (p ≠ 0 ∧ privB p = false) ∨ trailB s = false ∨ l = [-1] then ([], 1) else if l.any lowB then ([], 1) else if limB l s = false then ([], 5) else
    ((if p = 0 then [] else [UInt8.ofNat p.toNat]) ++ fmtG true l ++ s, 0)
def fmtA (r : List UInt8 × Int) : AV := .tup [.i (.str r.1), .i (.v (.int .i64 r.2))]
theorem fmtG_len (l : List Int) (b : Bool) (h9 : ∀ n ∈ l, n ≤ 9999) : (fmtG b l).length ≤ 21 * l.length := by
  induction l generalizing b with
  | nil => cases b <;> simp [fmtG]
  | cons n l ih =>
    have := ih false fun n hn => h9 n (List.mem_cons_of_mem _ hn)
    have h20 := numB_len n (by have := h9 n (List.mem_cons_self ..); omega)
    cases b <;> simp only [fmtG, List.length_cons, List.length_append] <;> omega
end Go.VI

namespace Go.VI
open Go.Proofs
set_option maxRecDepth 100000
set_option linter.unusedSimpArgs false
set_option linter.unusedVariables false
set_option maxHeartbeats 4000000
theorem u8_back {p : Int} (h : 0 ≤ p ∧ p < 256) : ((UInt8.ofNat p.toNat).toNat : Int) = p := by
  have : p.toNat < 256 := by omega
  rw [UInt8.toNat_ofNat']
  have : p.toNat % 2 ^ 8 = p.toNat := Nat.mod_eq_of_lt (by omega)
  omega
theorem lim9 {l : List Int} {s : List UInt8} (h : limB l s = true) : ∀ n ∈ l, n ≤ 9999 := by
  intro n hn
  simp only [limB, Bool.and_eq_true, Bool.not_eq_true'] at h
  have := List.any_eq_false.1 h.2 n hn
  simpa [over9999] using this
theorem lim16 {l : List Int} {s : List UInt8} (h : limB l s = true) : l.length ≤ 16 ∧ s.length ≤ 2 := by
  simp only [limB, Bool.and_eq_true, decide_eq_true_eq] at h
  exact h.1
theorem c23 (p : Int) (hp : 0 ≤ p ∧ p < 256) (l : List Int) (s : List UInt8) (hl : (l.length : Int) < 9223372036854775808) (hs : (s.length : Int) < 9223372036854775808) :
    ∃ L, callT E 23 [.i (.v (.int .u8 p)), .i (.sl 1 (rows64 l) false), .i (.str s)] [] = some (fmtA (fmtS p l s), L) := by
  have hl0 : 0 < l.length → (rows64 l)[0]? = some [.v (.int .i64 (l.headD 0))] := fun h => by cases l with | nil => cases h | cons a l => rfl
  unfold fmtS
  cases ht : trailB s with
  | false =>
    by_cases h0 : p = 0
    · rw [callT_eq Tryd.func23 rfl fok23 (by simp [Tryd.ntmps23])]
      rw [if_pos (.inr (.inl rfl))]; unfold fmtA; simp (disch := first | omega | (simp only [List.length_append, List.length_map, List.length_set, List.length_cons, List.length_nil, List.length_take, List.length_drop, rows64_len, rowsB_len]; omega)) only [va0, va1, va2, va3, va4, va5, va6, va7, va8, va9, va10, va11, va12, va13, va14, va15, vb0, vb1, vb2, vb3, w_i8, w_u8, w_i16, w_u16, w_i32, w_u32, w_i64, w_u64, lt_T, lt_F, le_T, le_F, nlt_T, nlt_F, nle_T, nle_F, List.take_of_length_le, gB, gcW, gcR, posIn, renA, renL, Chunk.ren, Chunk.refs, evOpD, touchD, stepC, isFresh, nFresh, freshOf, mkR, hole, evL, evH, opd, get, putD, ofVal, cellOf, loadE, behind, lenE, idxAddrE, idxE, addPtr, intE, strE, unE, convE, AV.int, AV.bool, AV.str, ivs, take, frameOf, firstRegion, refsA, refsL, one, cellsA, floatOk, apartT, List.map, if_true, if_false, E_P, E_glob0, reduceCtorEq, beq_self_eq_true, decide_true, decide_false, ↓reduceIte, Nat.reduceEqDiff, cond_true, cond_false, or_true, true_or, or_false, false_or, and_true, true_and, and_self, false_and, and_false, not_true, not_false_iff, Nat.reduceAdd, Nat.reduceSub, Nat.reduceMul, Nat.reduceLT, Nat.reduceLeDiff, Int.reduceToNat, Int.reduceLT, Int.reduceLE, Option.getD, Int.reduceMul, Int.reduceAdd, List.drop, List.take, Nat.reduceBEq, List.isEmpty, Int.reduceEq, Int.reduceNe, Int.reduceNeg, Int.reduceGT, Int.reduceGE, beq_true, beq_false, UInt8.reduceToNat, eqE, eq_self, foldE, maxE, minE, eq_T, eq_F, ndec, odec, adec, sdec, fillA, over, chop, List.replicate, leavesOk, leafOk, cellsEq, cellEq, E_byref, en23, bs29, bs47, hl0, ik37, ik38, ik41, ikf39, ca40, rows64_len, rowsB_len, rowsB_num, bytes_back, rowsB_take, List.take_of_length_le, ht, h0, show ∀ B fr H, execT E B 23 (Code.loop _) fr H = rlM E B 23 (loopAt Tryd.f23 0) [2, 8, 45, 46, 47] [] (matF [(8, 1)] fr H).1 (matB [] (matF [(8, 1)] fr H).1 (matF [(8, 1)] fr H).2) from fun B fr H => rl_introM rfl mt23_13 mb23_13 zf23_13 hd23_13 fr H]; exact ⟨_, rfl⟩
    · cases hv : privB p with
      | true =>
        rw [callT_eq Tryd.func23 rfl fok23 (by simp [Tryd.ntmps23])]
        rw [if_pos (.inr (.inl rfl))]; unfold fmtA; simp (disch := first | omega | (simp only [List.length_append, List.length_map, List.length_set, List.length_cons, List.length_nil, List.length_take, List.length_drop, rows64_len, rowsB_len]; omega)) only [va0, va1, va2, va3, va4, va5, va6, va7, va8, va9, va10, va11, va12, va13, va14, va15, vb0, vb1, vb2, vb3, w_i8, w_u8, w_i16, w_u16, w_i32, w_u32, w_i64, w_u64, lt_T, lt_F, le_T, le_F, nlt_T, nlt_F, nle_T, nle_F, List.take_of_length_le, gB, gcW, gcR, posIn, renA, renL, Chunk.ren, Chunk.refs, evOpD, touchD, stepC, isFresh, nFresh, freshOf, mkR, hole, evL, evH, opd, get, putD, ofVal, cellOf, loadE, behind, lenE, idxAddrE, idxE, addPtr, intE, strE, unE, convE, AV.int, AV.bool, AV.str, ivs, take, frameOf, firstRegion, refsA, refsL, one, cellsA, floatOk, apartT, List.map, if_true, if_false, E_P, E_glob0, reduceCtorEq, beq_self_eq_true, decide_true, decide_false, ↓reduceIte, Nat.reduceEqDiff, cond_true, cond_false, or_true, true_or, or_false, false_or, and_true, true_and, and_self, false_and, and_false, not_true, not_false_iff, Nat.reduceAdd, Nat.reduceSub, Nat.reduceMul, Nat.reduceLT, Nat.reduceLeDiff, Int.reduceToNat, Int.reduceLT, Int.reduceLE, Option.getD, Int.reduceMul, Int.reduceAdd, List.drop, List.take, Nat.reduceBEq, List.isEmpty, Int.reduceEq, Int.reduceNe, Int.reduceNeg, Int.reduceGT, Int.reduceGE, beq_true, beq_false, UInt8.reduceToNat, eqE, eq_self, foldE, maxE, minE, eq_T, eq_F, ndec, odec, adec, sdec, fillA, over, chop, List.replicate, leavesOk, leafOk, cellsEq, cellEq, E_byref, en23, bs29, bs47, hl0, ik37, ik38, ik41, ikf39, ca40, rows64_len, rowsB_len, rowsB_num, bytes_back, rowsB_take, List.take_of_length_le, ht, h0, hv, show ∀ B fr H, execT E B 23 (Code.loop _) fr H = rlM E B 23 (loopAt Tryd.f23 0) [2, 8, 45, 46, 47] [] (matF [(8, 1)] fr H).1 (matB [] (matF [(8, 1)] fr H).1 (matF [(8, 1)] fr H).2) from fun B fr H => rl_introM rfl mt23_13 mb23_13 zf23_13 hd23_13 fr H]; exact ⟨_, rfl⟩
      | false =>
        rw [callT_eq Tryd.func23 rfl fok23 (by simp [Tryd.ntmps23])]
        rw [if_pos (.inr (.inl rfl))]; unfold fmtA; simp (disch := first | omega | (simp only [List.length_append, List.length_map, List.length_set, List.length_cons, List.length_nil, List.length_take, List.length_drop, rows64_len, rowsB_len]; omega)) only [va0, va1, va2, va3, va4, va5, va6, va7, va8, va9, va10, va11, va12, va13, va14, va15, vb0, vb1, vb2, vb3, w_i8, w_u8, w_i16, w_u16, w_i32, w_u32, w_i64, w_u64, lt_T, lt_F, le_T, le_F, nlt_T, nlt_F, nle_T, nle_F, List.take_of_length_le, gB, gcW, gcR, posIn, renA, renL, Chunk.ren, Chunk.refs, evOpD, touchD, stepC, isFresh, nFresh, freshOf, mkR, hole, evL, evH, opd, get, putD, ofVal, cellOf, loadE, behind, lenE, idxAddrE, idxE, addPtr, intE, strE, unE, convE, AV.int, AV.bool, AV.str, ivs, take, frameOf, firstRegion, refsA, refsL, one, cellsA, floatOk, apartT, List.map, if_true, if_false, E_P, E_glob0, reduceCtorEq, beq_self_eq_true, decide_true, decide_false, ↓reduceIte, Nat.reduceEqDiff, cond_true, cond_false, or_true, true_or, or_false, false_or, and_true, true_and, and_self, false_and, and_false, not_true, not_false_iff, Nat.reduceAdd, Nat.reduceSub, Nat.reduceMul, Nat.reduceLT, Nat.reduceLeDiff, Int.reduceToNat, Int.reduceLT, Int.reduceLE, Option.getD, Int.reduceMul, Int.reduceAdd, List.drop, List.take, Nat.reduceBEq, List.isEmpty, Int.reduceEq, Int.reduceNe, Int.reduceNeg, Int.reduceGT, Int.reduceGE, beq_true, beq_false, UInt8.reduceToNat, eqE, eq_self, foldE, maxE, minE, eq_T, eq_F, ndec, odec, adec, sdec, fillA, over, chop, List.replicate, leavesOk, leafOk, cellsEq, cellEq, E_byref, en23, bs29, bs47, hl0, ik37, ik38, ik41, ikf39, ca40, rows64_len, rowsB_len, rowsB_num, bytes_back, rowsB_take, List.take_of_length_le, ht, h0, hv, show ∀ B fr H, execT E B 23 (Code.loop _) fr H = rlM E B 23 (loopAt Tryd.f23 0) [2, 8, 45, 46, 47] [] (matF [(8, 1)] fr H).1 (matB [] (matF [(8, 1)] fr H).1 (matF [(8, 1)] fr H).2) from fun B fr H => rl_introM rfl mt23_13 mb23_13 zf23_13 hd23_13 fr H]; exact ⟨_, rfl⟩
  | true =>
    obtain ⟨b, rfl⟩ : ∃ b : UInt8, p = b.toNat := ⟨UInt8.ofNat p.toNat, (u8_back hp).symm⟩
    have hb : UInt8.ofNat ((b.toNat : Int)).toNat = b := by simp
    rw [hb]
    by_cases h0 : (b.toNat : Int) = 0
    · have hloop : limB l s = true → rl E 0 23 (loopAt Tryd.f23 0) [(2, .i (.str s)), (8, .ref 0 0 0 0), (45, .i (.sl 1 (rows64 l) false)), (46, .i (.v (.int .i64 l.length))), (47, .i (.v (.int .i64 0)))] [.sl 1 0 [] false] =
          some (.exit 1, [(2, .i (.str s)), (8, .ref 0 0 0 ([] ++ fmtG true l).length), (45, .i (.sl 1 (rows64 l) false)), (46, .i (.v (.int .i64 l.length))), (47, .i (.v (.int .i64 l.length))), (48, .i (.v (.bool false)))], [.sl 1 0 (rowsB ([] ++ fmtG true l)) false]) :=
        fun h => l23 s l (by have := lim16 h; omega) (lim9 h) 0 (Nat.zero_le _) [] (by simp)
      rw [show (if (b.toNat : Int) = 0 then ([] : List UInt8) else [b]) = [] from if_pos h0]
      have hz := h0
      generalize (b.toNat : Int) = p at *
      subst h0
      have h0 := trivial
      by_cases h1 : l.length = 1 
      · obtain ⟨n, hln⟩ : ∃ n, l = [n] := List.length_eq_one_iff.1 h1 
        have hl0 : (rows64 l)[0]? = some [.v (.int .i64 n)] := by rw [hln]; rfl 
        by_cases hn : n = -1 
        · subst hn; rw [callT_eq Tryd.func23 rfl fok23 (by simp [Tryd.ntmps23])]; rw [if_pos (.inr (.inr hln))]; unfold fmtA; simp (disch := first | omega | (simp only [List.length_append, List.length_map, List.length_set, List.length_cons, List.length_nil, List.length_take, List.length_drop, rows64_len, rowsB_len]; omega)) only [va0, va1, va2, va3, va4, va5, va6, va7, va8, va9, va10, va11, va12, va13, va14, va15, vb0, vb1, vb2, vb3, w_i8, w_u8, w_i16, w_u16, w_i32, w_u32, w_i64, w_u64, lt_T, lt_F, le_T, le_F, nlt_T, nlt_F, nle_T, nle_F, List.take_of_length_le, gB, gcW, gcR, posIn, renA, renL, Chunk.ren, Chunk.refs, evOpD, touchD, stepC, isFresh, nFresh, freshOf, mkR, hole, evL, evH, opd, get, putD, ofVal, cellOf, loadE, behind, lenE, idxAddrE, idxE, addPtr, intE, strE, unE, convE, AV.int, AV.bool, AV.str, ivs, take, frameOf, firstRegion, refsA, refsL, one, cellsA, floatOk, apartT, List.map, if_true, if_false, E_P, E_glob0, reduceCtorEq, beq_self_eq_true, decide_true, decide_false, ↓reduceIte, Nat.reduceEqDiff, cond_true, cond_false, or_true, true_or, or_false, false_or, and_true, true_and, and_self, false_and, and_false, not_true, not_false_iff, Nat.reduceAdd, Nat.reduceSub, Nat.reduceMul, Nat.reduceLT, Nat.reduceLeDiff, Int.reduceToNat, Int.reduceLT, Int.reduceLE, Option.getD, Int.reduceMul, Int.reduceAdd, List.drop, List.take, Nat.reduceBEq, List.isEmpty, Int.reduceEq, Int.reduceNe, Int.reduceNeg, Int.reduceGT, Int.reduceGE, beq_true, beq_false, UInt8.reduceToNat, eqE, eq_self, foldE, maxE, minE, eq_T, eq_F, ndec, odec, adec, sdec, fillA, over, chop, List.replicate, leavesOk, leafOk, cellsEq, cellEq, E_byref, en23, bs29, bs47, hl0, ik37, ik38, ik41, ikf39, ca40, rows64_len, rowsB_len, rowsB_num, bytes_back, rowsB_take, List.take_of_length_le, ht, h0, show ∀ B fr H, execT E B 23 (Code.loop _) fr H = rlM E B 23 (loopAt Tryd.f23 0) [2, 8, 45, 46, 47] [] (matF [(8, 1)] fr H).1 (matB [] (matF [(8, 1)] fr H).1 (matF [(8, 1)] fr H).2) from fun B fr H => rl_introM rfl mt23_13 mb23_13 zf23_13 hd23_13 fr H]; exact ⟨_, rfl⟩ 
        · have hl1 : l ≠ [-1] := fun h => hn (by rw [hln] at h; simpa using h) 
          clear hln 
          rw [if_neg (by rintro (h | h | h) <;> first | exact absurd rfl h.1 | (cases h; done) | exact hl1 h | (rw [hv] at h; cases h.2))]; unfold fmtA; rw [callT_eq Tryd.func23 rfl fok23 (by simp [Tryd.ntmps23])]; cases hlow : l.any lowB with 
      | true => rw [if_pos rfl]; simp (disch := first | omega | (simp only [List.length_append, List.length_map, List.length_set, List.length_cons, List.length_nil, List.length_take, List.length_drop, rows64_len, rowsB_len]; omega)) only [va0, va1, va2, va3, va4, va5, va6, va7, va8, va9, va10, va11, va12, va13, va14, va15, vb0, vb1, vb2, vb3, w_i8, w_u8, w_i16, w_u16, w_i32, w_u32, w_i64, w_u64, lt_T, lt_F, le_T, le_F, nlt_T, nlt_F, nle_T, nle_F, List.take_of_length_le, gB, gcW, gcR, posIn, renA, renL, Chunk.ren, Chunk.refs, evOpD, touchD, stepC, isFresh, nFresh, freshOf, mkR, hole, evL, evH, opd, get, putD, ofVal, cellOf, loadE, behind, lenE, idxAddrE, idxE, addPtr, intE, strE, unE, convE, AV.int, AV.bool, AV.str, ivs, take, frameOf, firstRegion, refsA, refsL, one, cellsA, floatOk, apartT, List.map, if_true, if_false, E_P, E_glob0, reduceCtorEq, beq_self_eq_true, decide_true, decide_false, ↓reduceIte, Nat.reduceEqDiff, cond_true, cond_false, or_true, true_or, or_false, false_or, and_true, true_and, and_self, false_and, and_false, not_true, not_false_iff, Nat.reduceAdd, Nat.reduceSub, Nat.reduceMul, Nat.reduceLT, Nat.reduceLeDiff, Int.reduceToNat, Int.reduceLT, Int.reduceLE, Option.getD, Int.reduceMul, Int.reduceAdd, List.drop, List.take, Nat.reduceBEq, List.isEmpty, Int.reduceEq, Int.reduceNe, Int.reduceNeg, Int.reduceGT, Int.reduceGE, beq_true, beq_false, UInt8.reduceToNat, eqE, eq_self, foldE, maxE, minE, eq_T, eq_F, ndec, odec, adec, sdec, fillA, over, chop, List.replicate, leavesOk, leafOk, cellsEq, cellEq, E_byref, en23, bs29, bs47, hl0, ik37, ik38, ik41, ikf39, ca40, rows64_len, rowsB_len, rowsB_num, bytes_back, rowsB_take, List.take_of_length_le, ht, h0, hn, hlow, show ∀ B fr H, execT E B 23 (Code.loop _) fr H = rlM E B 23 (loopAt Tryd.f23 0) [2, 8, 45, 46, 47] [] (matF [(8, 1)] fr H).1 (matB [] (matF [(8, 1)] fr H).1 (matF [(8, 1)] fr H).2) from fun B fr H => rl_introM rfl mt23_13 mb23_13 zf23_13 hd23_13 fr H]; exact ⟨_, rfl⟩ 
      | false => 
        rw [if_neg (by simp)] 
        cases hlim : limB l s with 
        | false => rw [if_pos rfl]; simp (disch := first | omega | (simp only [List.length_append, List.length_map, List.length_set, List.length_cons, List.length_nil, List.length_take, List.length_drop, rows64_len, rowsB_len]; omega)) only [va0, va1, va2, va3, va4, va5, va6, va7, va8, va9, va10, va11, va12, va13, va14, va15, vb0, vb1, vb2, vb3, w_i8, w_u8, w_i16, w_u16, w_i32, w_u32, w_i64, w_u64, lt_T, lt_F, le_T, le_F, nlt_T, nlt_F, nle_T, nle_F, List.take_of_length_le, gB, gcW, gcR, posIn, renA, renL, Chunk.ren, Chunk.refs, evOpD, touchD, stepC, isFresh, nFresh, freshOf, mkR, hole, evL, evH, opd, get, putD, ofVal, cellOf, loadE, behind, lenE, idxAddrE, idxE, addPtr, intE, strE, unE, convE, AV.int, AV.bool, AV.str, ivs, take, frameOf, firstRegion, refsA, refsL, one, cellsA, floatOk, apartT, List.map, if_true, if_false, E_P, E_glob0, reduceCtorEq, beq_self_eq_true, decide_true, decide_false, ↓reduceIte, Nat.reduceEqDiff, cond_true, cond_false, or_true, true_or, or_false, false_or, and_true, true_and, and_self, false_and, and_false, not_true, not_false_iff, Nat.reduceAdd, Nat.reduceSub, Nat.reduceMul, Nat.reduceLT, Nat.reduceLeDiff, Int.reduceToNat, Int.reduceLT, Int.reduceLE, Option.getD, Int.reduceMul, Int.reduceAdd, List.drop, List.take, Nat.reduceBEq, List.isEmpty, Int.reduceEq, Int.reduceNe, Int.reduceNeg, Int.reduceGT, Int.reduceGE, beq_true, beq_false, UInt8.reduceToNat, eqE, eq_self, foldE, maxE, minE, eq_T, eq_F, ndec, odec, adec, sdec, fillA, over, chop, List.replicate, leavesOk, leafOk, cellsEq, cellEq, E_byref, en23, bs29, bs47, hl0, ik37, ik38, ik41, ikf39, ca40, rows64_len, rowsB_len, rowsB_num, bytes_back, rowsB_take, List.take_of_length_le, ht, h0, hn, hlow, hlim, show ∀ B fr H, execT E B 23 (Code.loop _) fr H = rlM E B 23 (loopAt Tryd.f23 0) [2, 8, 45, 46, 47] [] (matF [(8, 1)] fr H).1 (matB [] (matF [(8, 1)] fr H).1 (matF [(8, 1)] fr H).2) from fun B fr H => rl_introM rfl mt23_13 mb23_13 zf23_13 hd23_13 fr H]; exact ⟨_, rfl⟩ 
        | true => 
          rw [if_neg (by simp)] 
          have hloop := hloop hlim 
          have h16 := lim16 hlim 
          have hlen : ([] ++ fmtG true l).length ≤ 21 * l.length + 1 := by have := fmtG_len l true (lim9 hlim); simp only [List.length_append, List.length_cons, List.length_nil]; omega 
          generalize [] ++ fmtG true l = out at * 
          simp (disch := first | omega | (simp only [List.length_append, List.length_map, List.length_set, List.length_cons, List.length_nil, List.length_take, List.length_drop, rows64_len, rowsB_len]; omega)) only [va0, va1, va2, va3, va4, va5, va6, va7, va8, va9, va10, va11, va12, va13, va14, va15, vb0, vb1, vb2, vb3, w_i8, w_u8, w_i16, w_u16, w_i32, w_u32, w_i64, w_u64, lt_T, lt_F, le_T, le_F, nlt_T, nlt_F, nle_T, nle_F, List.take_of_length_le, gB, gcW, gcR, posIn, renA, renL, Chunk.ren, Chunk.refs, evOpD, touchD, stepC, isFresh, nFresh, freshOf, mkR, hole, evL, evH, opd, get, putD, ofVal, cellOf, loadE, behind, lenE, idxAddrE, idxE, addPtr, intE, strE, unE, convE, AV.int, AV.bool, AV.str, ivs, take, frameOf, firstRegion, refsA, refsL, one, cellsA, floatOk, apartT, List.map, if_true, if_false, E_P, E_glob0, reduceCtorEq, beq_self_eq_true, decide_true, decide_false, ↓reduceIte, Nat.reduceEqDiff, cond_true, cond_false, or_true, true_or, or_false, false_or, and_true, true_and, and_self, false_and, and_false, not_true, not_false_iff, Nat.reduceAdd, Nat.reduceSub, Nat.reduceMul, Nat.reduceLT, Nat.reduceLeDiff, Int.reduceToNat, Int.reduceLT, Int.reduceLE, Option.getD, Int.reduceMul, Int.reduceAdd, List.drop, List.take, Nat.reduceBEq, List.isEmpty, Int.reduceEq, Int.reduceNe, Int.reduceNeg, Int.reduceGT, Int.reduceGE, beq_true, beq_false, UInt8.reduceToNat, eqE, eq_self, foldE, maxE, minE, eq_T, eq_F, ndec, odec, adec, sdec, fillA, over, chop, List.replicate, leavesOk, leafOk, cellsEq, cellEq, E_byref, en23, bs29, bs47, hl0, ik37, ik38, ik41, ikf39, ca40, rows64_len, rowsB_len, rowsB_num, bytes_back, rowsB_take, List.take_of_length_le, ht, h0, hn, hlow, hlim, hloop, show ∀ B fr H, execT E B 23 (Code.loop _) fr H = rlM E B 23 (loopAt Tryd.f23 0) [2, 8, 45, 46, 47] [] (matF [(8, 1)] fr H).1 (matB [] (matF [(8, 1)] fr H).1 (matF [(8, 1)] fr H).2) from fun B fr H => rl_introM rfl mt23_13 mb23_13 zf23_13 hd23_13 fr H] 
          exact ⟨_, rfl⟩ 
      · have hl1 : l ≠ [-1] := fun h => h1 (by rw [h]; rfl) 
        have hl0 := trivial 
        have h1' : ¬ (l.length : Int) = 1 := by omega 
        rw [if_neg (by rintro (h | h | h) <;> first | exact absurd rfl h.1 | (cases h; done) | exact hl1 h | (rw [hv] at h; cases h.2))]; unfold fmtA; rw [callT_eq Tryd.func23 rfl fok23 (by simp [Tryd.ntmps23])]; cases hlow : l.any lowB with 
      | true => rw [if_pos rfl]; simp (disch := first | omega | (simp only [List.length_append, List.length_map, List.length_set, List.length_cons, List.length_nil, List.length_take, List.length_drop, rows64_len, rowsB_len]; omega)) only [va0, va1, va2, va3, va4, va5, va6, va7, va8, va9, va10, va11, va12, va13, va14, va15, vb0, vb1, vb2, vb3, w_i8, w_u8, w_i16, w_u16, w_i32, w_u32, w_i64, w_u64, lt_T, lt_F, le_T, le_F, nlt_T, nlt_F, nle_T, nle_F, List.take_of_length_le, gB, gcW, gcR, posIn, renA, renL, Chunk.ren, Chunk.refs, evOpD, touchD, stepC, isFresh, nFresh, freshOf, mkR, hole, evL, evH, opd, get, putD, ofVal, cellOf, loadE, behind, lenE, idxAddrE, idxE, addPtr, intE, strE, unE, convE, AV.int, AV.bool, AV.str, ivs, take, frameOf, firstRegion, refsA, refsL, one, cellsA, floatOk, apartT, List.map, if_true, if_false, E_P, E_glob0, reduceCtorEq, beq_self_eq_true, decide_true, decide_false, ↓reduceIte, Nat.reduceEqDiff, cond_true, cond_false, or_true, true_or, or_false, false_or, and_true, true_and, and_self, false_and, and_false, not_true, not_false_iff, Nat.reduceAdd, Nat.reduceSub, Nat.reduceMul, Nat.reduceLT, Nat.reduceLeDiff, Int.reduceToNat, Int.reduceLT, Int.reduceLE, Option.getD, Int.reduceMul, Int.reduceAdd, List.drop, List.take, Nat.reduceBEq, List.isEmpty, Int.reduceEq, Int.reduceNe, Int.reduceNeg, Int.reduceGT, Int.reduceGE, beq_true, beq_false, UInt8.reduceToNat, eqE, eq_self, foldE, maxE, minE, eq_T, eq_F, ndec, odec, adec, sdec, fillA, over, chop, List.replicate, leavesOk, leafOk, cellsEq, cellEq, E_byref, en23, bs29, bs47, hl0, ik37, ik38, ik41, ikf39, ca40, rows64_len, rowsB_len, rowsB_num, bytes_back, rowsB_take, List.take_of_length_le, ht, h0, h1', hlow, show ∀ B fr H, execT E B 23 (Code.loop _) fr H = rlM E B 23 (loopAt Tryd.f23 0) [2, 8, 45, 46, 47] [] (matF [(8, 1)] fr H).1 (matB [] (matF [(8, 1)] fr H).1 (matF [(8, 1)] fr H).2) from fun B fr H => rl_introM rfl mt23_13 mb23_13 zf23_13 hd23_13 fr H]; exact ⟨_, rfl⟩ 
      | false => 
        rw [if_neg (by simp)] 
        cases hlim : limB l s with 
        | false => rw [if_pos rfl]; simp (disch := first | omega | (simp only [List.length_append, List.length_map, List.length_set, List.length_cons, List.length_nil, List.length_take, List.length_drop, rows64_len, rowsB_len]; omega)) only [va0, va1, va2, va3, va4, va5, va6, va7, va8, va9, va10, va11, va12, va13, va14, va15, vb0, vb1, vb2, vb3, w_i8, w_u8, w_i16, w_u16, w_i32, w_u32, w_i64, w_u64, lt_T, lt_F, le_T, le_F, nlt_T, nlt_F, nle_T, nle_F, List.take_of_length_le, gB, gcW, gcR, posIn, renA, renL, Chunk.ren, Chunk.refs, evOpD, touchD, stepC, isFresh, nFresh, freshOf, mkR, hole, evL, evH, opd, get, putD, ofVal, cellOf, loadE, behind, lenE, idxAddrE, idxE, addPtr, intE, strE, unE, convE, AV.int, AV.bool, AV.str, ivs, take, frameOf, firstRegion, refsA, refsL, one, cellsA, floatOk, apartT, List.map, if_true, if_false, E_P, E_glob0, reduceCtorEq, beq_self_eq_true, decide_true, decide_false, ↓reduceIte, Nat.reduceEqDiff, cond_true, cond_false, or_true, true_or, or_false, false_or, and_true, true_and, and_self, false_and, and_false, not_true, not_false_iff, Nat.reduceAdd, Nat.reduceSub, Nat.reduceMul, Nat.reduceLT, Nat.reduceLeDiff, Int.reduceToNat, Int.reduceLT, Int.reduceLE, Option.getD, Int.reduceMul, Int.reduceAdd, List.drop, List.take, Nat.reduceBEq, List.isEmpty, Int.reduceEq, Int.reduceNe, Int.reduceNeg, Int.reduceGT, Int.reduceGE, beq_true, beq_false, UInt8.reduceToNat, eqE, eq_self, foldE, maxE, minE, eq_T, eq_F, ndec, odec, adec, sdec, fillA, over, chop, List.replicate, leavesOk, leafOk, cellsEq, cellEq, E_byref, en23, bs29, bs47, hl0, ik37, ik38, ik41, ikf39, ca40, rows64_len, rowsB_len, rowsB_num, bytes_back, rowsB_take, List.take_of_length_le, ht, h0, h1', hlow, hlim, show ∀ B fr H, execT E B 23 (Code.loop _) fr H = rlM E B 23 (loopAt Tryd.f23 0) [2, 8, 45, 46, 47] [] (matF [(8, 1)] fr H).1 (matB [] (matF [(8, 1)] fr H).1 (matF [(8, 1)] fr H).2) from fun B fr H => rl_introM rfl mt23_13 mb23_13 zf23_13 hd23_13 fr H]; exact ⟨_, rfl⟩ 
        | true => 
          rw [if_neg (by simp)] 
          have hloop := hloop hlim 
          have h16 := lim16 hlim 
          have hlen : ([] ++ fmtG true l).length ≤ 21 * l.length + 1 := by have := fmtG_len l true (lim9 hlim); simp only [List.length_append, List.length_cons, List.length_nil]; omega 
          generalize [] ++ fmtG true l = out at * 
          simp (disch := first | omega | (simp only [List.length_append, List.length_map, List.length_set, List.length_cons, List.length_nil, List.length_take, List.length_drop, rows64_len, rowsB_len]; omega)) only [va0, va1, va2, va3, va4, va5, va6, va7, va8, va9, va10, va11, va12, va13, va14, va15, vb0, vb1, vb2, vb3, w_i8, w_u8, w_i16, w_u16, w_i32, w_u32, w_i64, w_u64, lt_T, lt_F, le_T, le_F, nlt_T, nlt_F, nle_T, nle_F, List.take_of_length_le, gB, gcW, gcR, posIn, renA, renL, Chunk.ren, Chunk.refs, evOpD, touchD, stepC, isFresh, nFresh, freshOf, mkR, hole, evL, evH, opd, get, putD, ofVal, cellOf, loadE, behind, lenE, idxAddrE, idxE, addPtr, intE, strE, unE, convE, AV.int, AV.bool, AV.str, ivs, take, frameOf, firstRegion, refsA, refsL, one, cellsA, floatOk, apartT, List.map, if_true, if_false, E_P, E_glob0, reduceCtorEq, beq_self_eq_true, decide_true, decide_false, ↓reduceIte, Nat.reduceEqDiff, cond_true, cond_false, or_true, true_or, or_false, false_or, and_true, true_and, and_self, false_and, and_false, not_true, not_false_iff, Nat.reduceAdd, Nat.reduceSub, Nat.reduceMul, Nat.reduceLT, Nat.reduceLeDiff, Int.reduceToNat, Int.reduceLT, Int.reduceLE, Option.getD, Int.reduceMul, Int.reduceAdd, List.drop, List.take, Nat.reduceBEq, List.isEmpty, Int.reduceEq, Int.reduceNe, Int.reduceNeg, Int.reduceGT, Int.reduceGE, beq_true, beq_false, UInt8.reduceToNat, eqE, eq_self, foldE, maxE, minE, eq_T, eq_F, ndec, odec, adec, sdec, fillA, over, chop, List.replicate, leavesOk, leafOk, cellsEq, cellEq, E_byref, en23, bs29, bs47, hl0, ik37, ik38, ik41, ikf39, ca40, rows64_len, rowsB_len, rowsB_num, bytes_back, rowsB_take, List.take_of_length_le, ht, h0, h1', hlow, hlim, hloop, show ∀ B fr H, execT E B 23 (Code.loop _) fr H = rlM E B 23 (loopAt Tryd.f23 0) [2, 8, 45, 46, 47] [] (matF [(8, 1)] fr H).1 (matB [] (matF [(8, 1)] fr H).1 (matF [(8, 1)] fr H).2) from fun B fr H => rl_introM rfl mt23_13 mb23_13 zf23_13 hd23_13 fr H] 
          exact ⟨_, rfl⟩
    · have hloop : limB l s = true → rl E 0 23 (loopAt Tryd.f23 0) [(2, .i (.str s)), (8, .ref 0 0 0 1), (45, .i (.sl 1 (rows64 l) false)), (46, .i (.v (.int .i64 l.length))), (47, .i (.v (.int .i64 0)))] [.sl 1 0 [[.v (.int .u8 b.toNat)]] false] =
          some (.exit 1, [(2, .i (.str s)), (8, .ref 0 0 0 ([b] ++ fmtG true l).length), (45, .i (.sl 1 (rows64 l) false)), (46, .i (.v (.int .i64 l.length))), (47, .i (.v (.int .i64 l.length))), (48, .i (.v (.bool false)))], [.sl 1 0 (rowsB ([b] ++ fmtG true l)) false]) :=
        fun h => l23 s l (by have := lim16 h; omega) (lim9 h) 0 (Nat.zero_le _) [b] (by simp)
      rw [show (if (b.toNat : Int) = 0 then ([] : List UInt8) else [b]) = [b] from if_neg h0]
      by_cases hv : privB b.toNat = true
      rotate_left
      · rw [Bool.not_eq_true] at hv
        rw [if_pos (.inl ⟨h0, hv⟩)]
        unfold fmtA
        rw [callT_eq Tryd.func23 rfl fok23 (by simp [Tryd.ntmps23])]
        simp (disch := first | omega | (simp only [List.length_append, List.length_map, List.length_set, List.length_cons, List.length_nil, List.length_take, List.length_drop, rows64_len, rowsB_len]; omega)) only [va0, va1, va2, va3, va4, va5, va6, va7, va8, va9, va10, va11, va12, va13, va14, va15, vb0, vb1, vb2, vb3, w_i8, w_u8, w_i16, w_u16, w_i32, w_u32, w_i64, w_u64, lt_T, lt_F, le_T, le_F, nlt_T, nlt_F, nle_T, nle_F, List.take_of_length_le, gB, gcW, gcR, posIn, renA, renL, Chunk.ren, Chunk.refs, evOpD, touchD, stepC, isFresh, nFresh, freshOf, mkR, hole, evL, evH, opd, get, putD, ofVal, cellOf, loadE, behind, lenE, idxAddrE, idxE, addPtr, intE, strE, unE, convE, AV.int, AV.bool, AV.str, ivs, take, frameOf, firstRegion, refsA, refsL, one, cellsA, floatOk, apartT, List.map, if_true, if_false, E_P, E_glob0, reduceCtorEq, beq_self_eq_true, decide_true, decide_false, ↓reduceIte, Nat.reduceEqDiff, cond_true, cond_false, or_true, true_or, or_false, false_or, and_true, true_and, and_self, false_and, and_false, not_true, not_false_iff, Nat.reduceAdd, Nat.reduceSub, Nat.reduceMul, Nat.reduceLT, Nat.reduceLeDiff, Int.reduceToNat, Int.reduceLT, Int.reduceLE, Option.getD, Int.reduceMul, Int.reduceAdd, List.drop, List.take, Nat.reduceBEq, List.isEmpty, Int.reduceEq, Int.reduceNe, Int.reduceNeg, Int.reduceGT, Int.reduceGE, beq_true, beq_false, UInt8.reduceToNat, eqE, eq_self, foldE, maxE, minE, eq_T, eq_F, ndec, odec, adec, sdec, fillA, over, chop, List.replicate, leavesOk, leafOk, cellsEq, cellEq, E_byref, en23, bs29, bs47, hl0, ik37, ik38, ik41, ikf39, ca40, rows64_len, rowsB_len, rowsB_num, bytes_back, rowsB_take, List.take_of_length_le, ht, h0, hv, show ∀ B fr H, execT E B 23 (Code.loop _) fr H = rlM E B 23 (loopAt Tryd.f23 0) [2, 8, 45, 46, 47] [] (matF [(8, 1)] fr H).1 (matB [] (matF [(8, 1)] fr H).1 (matF [(8, 1)] fr H).2) from fun B fr H => rl_introM rfl mt23_13 mb23_13 zf23_13 hd23_13 fr H]
        exact ⟨_, rfl⟩
      by_cases h1 : l.length = 1 
      · obtain ⟨n, hln⟩ : ∃ n, l = [n] := List.length_eq_one_iff.1 h1 
        have hl0 : (rows64 l)[0]? = some [.v (.int .i64 n)] := by rw [hln]; rfl 
        by_cases hn : n = -1 
        · subst hn; rw [callT_eq Tryd.func23 rfl fok23 (by simp [Tryd.ntmps23])]; rw [if_pos (.inr (.inr hln))]; unfold fmtA; simp (disch := first | omega | (simp only [List.length_append, List.length_map, List.length_set, List.length_cons, List.length_nil, List.length_take, List.length_drop, rows64_len, rowsB_len]; omega)) only [va0, va1, va2, va3, va4, va5, va6, va7, va8, va9, va10, va11, va12, va13, va14, va15, vb0, vb1, vb2, vb3, w_i8, w_u8, w_i16, w_u16, w_i32, w_u32, w_i64, w_u64, lt_T, lt_F, le_T, le_F, nlt_T, nlt_F, nle_T, nle_F, List.take_of_length_le, gB, gcW, gcR, posIn, renA, renL, Chunk.ren, Chunk.refs, evOpD, touchD, stepC, isFresh, nFresh, freshOf, mkR, hole, evL, evH, opd, get, putD, ofVal, cellOf, loadE, behind, lenE, idxAddrE, idxE, addPtr, intE, strE, unE, convE, AV.int, AV.bool, AV.str, ivs, take, frameOf, firstRegion, refsA, refsL, one, cellsA, floatOk, apartT, List.map, if_true, if_false, E_P, E_glob0, reduceCtorEq, beq_self_eq_true, decide_true, decide_false, ↓reduceIte, Nat.reduceEqDiff, cond_true, cond_false, or_true, true_or, or_false, false_or, and_true, true_and, and_self, false_and, and_false, not_true, not_false_iff, Nat.reduceAdd, Nat.reduceSub, Nat.reduceMul, Nat.reduceLT, Nat.reduceLeDiff, Int.reduceToNat, Int.reduceLT, Int.reduceLE, Option.getD, Int.reduceMul, Int.reduceAdd, List.drop, List.take, Nat.reduceBEq, List.isEmpty, Int.reduceEq, Int.reduceNe, Int.reduceNeg, Int.reduceGT, Int.reduceGE, beq_true, beq_false, UInt8.reduceToNat, eqE, eq_self, foldE, maxE, minE, eq_T, eq_F, ndec, odec, adec, sdec, fillA, over, chop, List.replicate, leavesOk, leafOk, cellsEq, cellEq, E_byref, en23, bs29, bs47, hl0, ik37, ik38, ik41, ikf39, ca40, rows64_len, rowsB_len, rowsB_num, bytes_back, rowsB_take, List.take_of_length_le, ht, h0, hv, show ∀ B fr H, execT E B 23 (Code.loop _) fr H = rlM E B 23 (loopAt Tryd.f23 0) [2, 8, 45, 46, 47] [] (matF [(8, 1)] fr H).1 (matB [] (matF [(8, 1)] fr H).1 (matF [(8, 1)] fr H).2) from fun B fr H => rl_introM rfl mt23_13 mb23_13 zf23_13 hd23_13 fr H]; exact ⟨_, rfl⟩ 
        · have hl1 : l ≠ [-1] := fun h => hn (by rw [hln] at h; simpa using h) 
          clear hln 
          rw [if_neg (by rintro (h | h | h) <;> first | exact absurd rfl h.1 | (cases h; done) | exact hl1 h | (rw [hv] at h; cases h.2))]; unfold fmtA; rw [callT_eq Tryd.func23 rfl fok23 (by simp [Tryd.ntmps23])]; cases hlow : l.any lowB with 
      | true => rw [if_pos rfl]; simp (disch := first | omega | (simp only [List.length_append, List.length_map, List.length_set, List.length_cons, List.length_nil, List.length_take, List.length_drop, rows64_len, rowsB_len]; omega)) only [va0, va1, va2, va3, va4, va5, va6, va7, va8, va9, va10, va11, va12, va13, va14, va15, vb0, vb1, vb2, vb3, w_i8, w_u8, w_i16, w_u16, w_i32, w_u32, w_i64, w_u64, lt_T, lt_F, le_T, le_F, nlt_T, nlt_F, nle_T, nle_F, List.take_of_length_le, gB, gcW, gcR, posIn, renA, renL, Chunk.ren, Chunk.refs, evOpD, touchD, stepC, isFresh, nFresh, freshOf, mkR, hole, evL, evH, opd, get, putD, ofVal, cellOf, loadE, behind, lenE, idxAddrE, idxE, addPtr, intE, strE, unE, convE, AV.int, AV.bool, AV.str, ivs, take, frameOf, firstRegion, refsA, refsL, one, cellsA, floatOk, apartT, List.map, if_true, if_false, E_P, E_glob0, reduceCtorEq, beq_self_eq_true, decide_true, decide_false, ↓reduceIte, Nat.reduceEqDiff, cond_true, cond_false, or_true, true_or, or_false, false_or, and_true, true_and, and_self, false_and, and_false, not_true, not_false_iff, Nat.reduceAdd, Nat.reduceSub, Nat.reduceMul, Nat.reduceLT, Nat.reduceLeDiff, Int.reduceToNat, Int.reduceLT, Int.reduceLE, Option.getD, Int.reduceMul, Int.reduceAdd, List.drop, List.take, Nat.reduceBEq, List.isEmpty, Int.reduceEq, Int.reduceNe, Int.reduceNeg, Int.reduceGT, Int.reduceGE, beq_true, beq_false, UInt8.reduceToNat, eqE, eq_self, foldE, maxE, minE, eq_T, eq_F, ndec, odec, adec, sdec, fillA, over, chop, List.replicate, leavesOk, leafOk, cellsEq, cellEq, E_byref, en23, bs29, bs47, hl0, ik37, ik38, ik41, ikf39, ca40, rows64_len, rowsB_len, rowsB_num, bytes_back, rowsB_take, List.take_of_length_le, ht, h0, hv, hn, hlow, show ∀ B fr H, execT E B 23 (Code.loop _) fr H = rlM E B 23 (loopAt Tryd.f23 0) [2, 8, 45, 46, 47] [] (matF [(8, 1)] fr H).1 (matB [] (matF [(8, 1)] fr H).1 (matF [(8, 1)] fr H).2) from fun B fr H => rl_introM rfl mt23_13 mb23_13 zf23_13 hd23_13 fr H]; exact ⟨_, rfl⟩ 
      | false => 
        rw [if_neg (by simp)] 
        cases hlim : limB l s with 
        | false => rw [if_pos rfl]; simp (disch := first | omega | (simp only [List.length_append, List.length_map, List.length_set, List.length_cons, List.length_nil, List.length_take, List.length_drop, rows64_len, rowsB_len]; omega)) only [va0, va1, va2, va3, va4, va5, va6, va7, va8, va9, va10, va11, va12, va13, va14, va15, vb0, vb1, vb2, vb3, w_i8, w_u8, w_i16, w_u16, w_i32, w_u32, w_i64, w_u64, lt_T, lt_F, le_T, le_F, nlt_T, nlt_F, nle_T, nle_F, List.take_of_length_le, gB, gcW, gcR, posIn, renA, renL, Chunk.ren, Chunk.refs, evOpD, touchD, stepC, isFresh, nFresh, freshOf, mkR, hole, evL, evH, opd, get, putD, ofVal, cellOf, loadE, behind, lenE, idxAddrE, idxE, addPtr, intE, strE, unE, convE, AV.int, AV.bool, AV.str, ivs, take, frameOf, firstRegion, refsA, refsL, one, cellsA, floatOk, apartT, List.map, if_true, if_false, E_P, E_glob0, reduceCtorEq, beq_self_eq_true, decide_true, decide_false, ↓reduceIte, Nat.reduceEqDiff, cond_true, cond_false, or_true, true_or, or_false, false_or, and_true, true_and, and_self, false_and, and_false, not_true, not_false_iff, Nat.reduceAdd, Nat.reduceSub, Nat.reduceMul, Nat.reduceLT, Nat.reduceLeDiff, Int.reduceToNat, Int.reduceLT, Int.reduceLE, Option.getD, Int.reduceMul, Int.reduceAdd, List.drop, List.take, Nat.reduceBEq, List.isEmpty, Int.reduceEq, Int.reduceNe, Int.reduceNeg, Int.reduceGT, Int.reduceGE, beq_true, beq_false, UInt8.reduceToNat, eqE, eq_self, foldE, maxE, minE, eq_T, eq_F, ndec, odec, adec, sdec, fillA, over, chop, List.replicate, leavesOk, leafOk, cellsEq, cellEq, E_byref, en23, bs29, bs47, hl0, ik37, ik38, ik41, ikf39, ca40, rows64_len, rowsB_len, rowsB_num, bytes_back, rowsB_take, List.take_of_length_le, ht, h0, hv, hn, hlow, hlim, show ∀ B fr H, execT E B 23 (Code.loop _) fr H = rlM E B 23 (loopAt Tryd.f23 0) [2, 8, 45, 46, 47] [] (matF [(8, 1)] fr H).1 (matB [] (matF [(8, 1)] fr H).1 (matF [(8, 1)] fr H).2) from fun B fr H => rl_introM rfl mt23_13 mb23_13 zf23_13 hd23_13 fr H]; exact ⟨_, rfl⟩ 
        | true => 
          rw [if_neg (by simp)] 
          have hloop := hloop hlim 
          have h16 := lim16 hlim 
          have hlen : ([b] ++ fmtG true l).length ≤ 21 * l.length + 1 := by have := fmtG_len l true (lim9 hlim); simp only [List.length_append, List.length_cons, List.length_nil]; omega 
          generalize [b] ++ fmtG true l = out at * 
          simp (disch := first | omega | (simp only [List.length_append, List.length_map, List.length_set, List.length_cons, List.length_nil, List.length_take, List.length_drop, rows64_len, rowsB_len]; omega)) only [va0, va1, va2, va3, va4, va5, va6, va7, va8, va9, va10, va11, va12, va13, va14, va15, vb0, vb1, vb2, vb3, w_i8, w_u8, w_i16, w_u16, w_i32, w_u32, w_i64, w_u64, lt_T, lt_F, le_T, le_F, nlt_T, nlt_F, nle_T, nle_F, List.take_of_length_le, gB, gcW, gcR, posIn, renA, renL, Chunk.ren, Chunk.refs, evOpD, touchD, stepC, isFresh, nFresh, freshOf, mkR, hole, evL, evH, opd, get, putD, ofVal, cellOf, loadE, behind, lenE, idxAddrE, idxE, addPtr, intE, strE, unE, convE, AV.int, AV.bool, AV.str, ivs, take, frameOf, firstRegion, refsA, refsL, one, cellsA, floatOk, apartT, List.map, if_true, if_false, E_P, E_glob0, reduceCtorEq, beq_self_eq_true, decide_true, decide_false, ↓reduceIte, Nat.reduceEqDiff, cond_true, cond_false, or_true, true_or, or_false, false_or, and_true, true_and, and_self, false_and, and_false, not_true, not_false_iff, Nat.reduceAdd, Nat.reduceSub, Nat.reduceMul, Nat.reduceLT, Nat.reduceLeDiff, Int.reduceToNat, Int.reduceLT, Int.reduceLE, Option.getD, Int.reduceMul, Int.reduceAdd, List.drop, List.take, Nat.reduceBEq, List.isEmpty, Int.reduceEq, Int.reduceNe, Int.reduceNeg, Int.reduceGT, Int.reduceGE, beq_true, beq_false, UInt8.reduceToNat, eqE, eq_self, foldE, maxE, minE, eq_T, eq_F, ndec, odec, adec, sdec, fillA, over, chop, List.replicate, leavesOk, leafOk, cellsEq, cellEq, E_byref, en23, bs29, bs47, hl0, ik37, ik38, ik41, ikf39, ca40, rows64_len, rowsB_len, rowsB_num, bytes_back, rowsB_take, List.take_of_length_le, ht, h0, hv, hn, hlow, hlim, hloop, show ∀ B fr H, execT E B 23 (Code.loop _) fr H = rlM E B 23 (loopAt Tryd.f23 0) [2, 8, 45, 46, 47] [] (matF [(8, 1)] fr H).1 (matB [] (matF [(8, 1)] fr H).1 (matF [(8, 1)] fr H).2) from fun B fr H => rl_introM rfl mt23_13 mb23_13 zf23_13 hd23_13 fr H] 
          exact ⟨_, rfl⟩ 
      · have hl1 : l ≠ [-1] := fun h => h1 (by rw [h]; rfl) 
        have hl0 := trivial 
        have h1' : ¬ (l.length : Int) = 1 := by omega 
        rw [if_neg (by rintro (h | h | h) <;> first | exact absurd rfl h.1 | (cases h; done) | exact hl1 h | (rw [hv] at h; cases h.2))]; unfold fmtA; rw [callT_eq Tryd.func23 rfl fok23 (by simp [Tryd.ntmps23])]; cases hlow : l.any lowB with 
      | true => rw [if_pos rfl]; simp (disch := first | omega | (simp only [List.length_append, List.length_map, List.length_set, List.length_cons, List.length_nil, List.length_take, List.length_drop, rows64_len, rowsB_len]; omega)) only [va0, va1, va2, va3, va4, va5, va6, va7, va8, va9, va10, va11, va12, va13, va14, va15, vb0, vb1, vb2, vb3, w_i8, w_u8, w_i16, w_u16, w_i32, w_u32, w_i64, w_u64, lt_T, lt_F, le_T, le_F, nlt_T, nlt_F, nle_T, nle_F, List.take_of_length_le, gB, gcW, gcR, posIn, renA, renL, Chunk.ren, Chunk.refs, evOpD, touchD, stepC, isFresh, nFresh, freshOf, mkR, hole, evL, evH, opd, get, putD, ofVal, cellOf, loadE, behind, lenE, idxAddrE, idxE, addPtr, intE, strE, unE, convE, AV.int, AV.bool, AV.str, ivs, take, frameOf, firstRegion, refsA, refsL, one, cellsA, floatOk, apartT, List.map, if_true, if_false, E_P, E_glob0, reduceCtorEq, beq_self_eq_true, decide_true, decide_false, ↓reduceIte, Nat.reduceEqDiff, cond_true, cond_false, or_true, true_or, or_false, false_or, and_true, true_and, and_self, false_and, and_false, not_true, not_false_iff, Nat.reduceAdd, Nat.reduceSub, Nat.reduceMul, Nat.reduceLT, Nat.reduceLeDiff, Int.reduceToNat, Int.reduceLT, Int.reduceLE, Option.getD, Int.reduceMul, Int.reduceAdd, List.drop, List.take, Nat.reduceBEq, List.isEmpty, Int.reduceEq, Int.reduceNe, Int.reduceNeg, Int.reduceGT, Int.reduceGE, beq_true, beq_false, UInt8.reduceToNat, eqE, eq_self, foldE, maxE, minE, eq_T, eq_F, ndec, odec, adec, sdec, fillA, over, chop, List.replicate, leavesOk, leafOk, cellsEq, cellEq, E_byref, en23, bs29, bs47, hl0, ik37, ik38, ik41, ikf39, ca40, rows64_len, rowsB_len, rowsB_num, bytes_back, rowsB_take, List.take_of_length_le, ht, h0, hv, h1', hlow, show ∀ B fr H, execT E B 23 (Code.loop _) fr H = rlM E B 23 (loopAt Tryd.f23 0) [2, 8, 45, 46, 47] [] (matF [(8, 1)] fr H).1 (matB [] (matF [(8, 1)] fr H).1 (matF [(8, 1)] fr H).2) from fun B fr H => rl_introM rfl mt23_13 mb23_13 zf23_13 hd23_13 fr H]; exact ⟨_, rfl⟩ 
      | false => 
        rw [if_neg (by simp)] 
        cases hlim : limB l s with 
        | false => rw [if_pos rfl]; simp (disch := first | omega | (simp only [List.length_append, List.length_map, List.length_set, List.length_cons, List.length_nil, List.length_take, List.length_drop, rows64_len, rowsB_len]; omega)) only [va0, va1, va2, va3, va4, va5, va6, va7, va8, va9, va10, va11, va12, va13, va14, va15, vb0, vb1, vb2, vb3, w_i8, w_u8, w_i16, w_u16, w_i32, w_u32, w_i64, w_u64, lt_T, lt_F, le_T, le_F, nlt_T, nlt_F, nle_T, nle_F, List.take_of_length_le, gB, gcW, gcR, posIn, renA, renL, Chunk.ren, Chunk.refs, evOpD, touchD, stepC, isFresh, nFresh, freshOf, mkR, hole, evL, evH, opd, get, putD, ofVal, cellOf, loadE, behind, lenE, idxAddrE, idxE, addPtr, intE, strE, unE, convE, AV.int, AV.bool, AV.str, ivs, take, frameOf, firstRegion, refsA, refsL, one, cellsA, floatOk, apartT, List.map, if_true, if_false, E_P, E_glob0, reduceCtorEq, beq_self_eq_true, decide_true, decide_false, ↓reduceIte, Nat.reduceEqDiff, cond_true, cond_false, or_true, true_or, or_false, false_or, and_true, true_and, and_self, false_and, and_false, not_true, not_false_iff, Nat.reduceAdd, Nat.reduceSub, Nat.reduceMul, Nat.reduceLT, Nat.reduceLeDiff, Int.reduceToNat, Int.reduceLT, Int.reduceLE, Option.getD, Int.reduceMul, Int.reduceAdd, List.drop, List.take, Nat.reduceBEq, List.isEmpty, Int.reduceEq, Int.reduceNe, Int.reduceNeg, Int.reduceGT, Int.reduceGE, beq_true, beq_false, UInt8.reduceToNat, eqE, eq_self, foldE, maxE, minE, eq_T, eq_F, ndec, odec, adec, sdec, fillA, over, chop, List.replicate, leavesOk, leafOk, cellsEq, cellEq, E_byref, en23, bs29, bs47, hl0, ik37, ik38, ik41, ikf39, ca40, rows64_len, rowsB_len, rowsB_num, bytes_back, rowsB_take, List.take_of_length_le, ht, h0, hv, h1', hlow, hlim, show ∀ B fr H, execT E B 23 (Code.loop _) fr H = rlM E B 23 (loopAt Tryd.f23 0) [2, 8, 45, 46, 47] [] (matF [(8, 1)] fr H).1 (matB [] (matF [(8, 1)] fr H).1 (matF [(8, 1)] fr H).2) from fun B fr H => rl_introM rfl mt23_13 mb23_13 zf23_13 hd23_13 fr H]; exact ⟨_, rfl⟩ 
        | true => 
          rw [if_neg (by simp)] 
          have hloop := hloop hlim 
          have h16 := lim16 hlim 
          have hlen : ([b] ++ fmtG true l).length ≤ 21 * l.length + 1 := by have := fmtG_len l true (lim9 hlim); simp only [List.length_append, List.length_cons, List.length_nil]; omega 
          generalize [b] ++ fmtG true l = out at * 
          simp (disch := first | omega | (simp only [List.length_append, List.length_map, List.length_set, List.length_cons, List.length_nil, List.length_take, List.length_drop, rows64_len, rowsB_len]; omega)) only [va0, va1, va2, va3, va4, va5, va6, va7, va8, va9, va10, va11, va12, va13, va14, va15, vb0, vb1, vb2, vb3, w_i8, w_u8, w_i16, w_u16, w_i32, w_u32, w_i64, w_u64, lt_T, lt_F, le_T, le_F, nlt_T, nlt_F, nle_T, nle_F, List.take_of_length_le, gB, gcW, gcR, posIn, renA, renL, Chunk.ren, Chunk.refs, evOpD, touchD, stepC, isFresh, nFresh, freshOf, mkR, hole, evL, evH, opd, get, putD, ofVal, cellOf, loadE, behind, lenE, idxAddrE, idxE, addPtr, intE, strE, unE, convE, AV.int, AV.bool, AV.str, ivs, take, frameOf, firstRegion, refsA, refsL, one, cellsA, floatOk, apartT, List.map, if_true, if_false, E_P, E_glob0, reduceCtorEq, beq_self_eq_true, decide_true, decide_false, ↓reduceIte, Nat.reduceEqDiff, cond_true, cond_false, or_true, true_or, or_false, false_or, and_true, true_and, and_self, false_and, and_false, not_true, not_false_iff, Nat.reduceAdd, Nat.reduceSub, Nat.reduceMul, Nat.reduceLT, Nat.reduceLeDiff, Int.reduceToNat, Int.reduceLT, Int.reduceLE, Option.getD, Int.reduceMul, Int.reduceAdd, List.drop, List.take, Nat.reduceBEq, List.isEmpty, Int.reduceEq, Int.reduceNe, Int.reduceNeg, Int.reduceGT, Int.reduceGE, beq_true, beq_false, UInt8.reduceToNat, eqE, eq_self, foldE, maxE, minE, eq_T, eq_F, ndec, odec, adec, sdec, fillA, over, chop, List.replicate, leavesOk, leafOk, cellsEq, cellEq, E_byref, en23, bs29, bs47, hl0, ik37, ik38, ik41, ikf39, ca40, rows64_len, rowsB_len, rowsB_num, bytes_back, rowsB_take, List.take_of_length_le, ht, h0, hv, h1', hlow, hlim, hloop, show ∀ B fr H, execT E B 23 (Code.loop _) fr H = rlM E B 23 (loopAt Tryd.f23 0) [2, 8, 45, 46, 47] [] (matF [(8, 1)] fr H).1 (matB [] (matF [(8, 1)] fr H).1 (matF [(8, 1)] fr H).2) from fun B fr H => rl_introM rfl mt23_13 mb23_13 zf23_13 hd23_13 fr H] 
          exact ⟨_, rfl⟩
theorem ik23 (p : Int) (hp : 0 ≤ p ∧ p < 256) (l : List Int) (s : List UInt8) (hl : (l.length : Int) < 9223372036854775808) (hs : (s.length : Int) < 9223372036854775808) (H : Hp) :
    isoK E (callT E) 23 [.i (.v (.int .u8 p)), .i (.sl 1 (rows64 l) false), .i (.str s)] H = some (fmtA (fmtS p l s), H) := isoK_val rfl rfl rfl (c23 p hp l s hl hs)
end Go.VI

namespace Go.VI
open Go.Proofs
set_option maxRecDepth 100000
set_option linter.unusedSimpArgs false
set_option linter.unusedVariables false
set_option maxHeartbeats 4000000
def evA (e : Ev) : AV := .agg (ivs (evC e))
theorem evA_eq (e : Ev) : evA e = .agg [.i (.v (.int .i64 e.k)), .i (.v (.int .i32 e.r)), .i (.v (.int .u8 e.c)), .i (.v (.int .u8 e.v)), .i (.str e.i), .i (.sl 1 (rows64 e.ps) false), .i (.str e.t)] := rfl
def rightP (e : Ev) : Bool := goodR e.r && !decide (e.r < 32) && !(decide (127 ≤ e.r) && decide (e.r ≤ 159)) && (decide (e.c = 0) && decide (e.v = 0) && e.i.isEmpty && e.t.isEmpty && e.ps.isEmpty)
def rightC (e : Ev) : Bool := !(decide (32 ≤ e.c) || decide (e.c = 24) || decide (e.c = 26) || decide (e.c = 27)) && (decide (e.r = 0) && decide (e.v = 0) && e.i.isEmpty && e.t.isEmpty && e.ps.isEmpty)
def rightE (e : Ev) : Bool := !decide (3 ≤ e.i.length) && !e.i.any (outB 32 47) && !(decide (e.c < 48) || decide (126 < e.c)) && !(e.i.isEmpty && (decide (e.c = 91) || decide (e.c = 93))) && (decide (e.r = 0) && decide (e.v = 0) && e.t.isEmpty && e.ps.isEmpty)
def rightQ (e : Ev) : Bool := decide ((fmtS e.v e.ps e.i).2 = 0) && !(decide (e.c < 64) || decide (126 < e.c)) && (decide (e.r = 0) && e.t.isEmpty)
def rightO (e : Ev) : Bool := !decide (256 < e.t.length) && !e.t.any (outB 32 255) && (decide (e.r = 0) && decide (e.c = 0) && decide (e.v = 0) && e.i.isEmpty && e.ps.isEmpty)
def rightS (e : Ev) : Bool := if e.k = 1 then rightP e else if e.k = 2 then rightC e else if e.k = 3 then rightE e else if e.k = 4 then rightQ e else if e.k = 5 then rightO e else false
theorem c21_1 (r : Int) (hr : -2147483648 ≤ r ∧ r ≤ 2147483647) (c v : Int) (i : List UInt8) (ps : List Int) (t : List UInt8) :
    ∃ L, callT E 21 [evA ⟨1, r, c, v, i, ps, t⟩] [] = some (.i (.v (.bool (rightP ⟨1, r, c, v, i, ps, t⟩))), L) := by
  rw [evA_eq]
  unfold rightP
  have hd := decOut_enc r
  have hl : (by8 (encR r)).length ≤ 4 := by
    rw [by8, List.length_map]; unfold encR; repeat' split
    all_goals simp only [List.length_cons, List.length_nil]; omega
  have hik := fun H => ik22 r hr H
  have hik2 := fun H => ik28 [] (by8 (encR r)) (by simp only [List.length_nil]; omega) H
  simp only [List.nil_append, hd] at hik2
  simp only []
  cases hg : goodR r with
  | false =>
    have hne : ¬ 65533 = r := by rintro rfl; exact absurd hg (by decide)
    simp only [hg, Bool.false_eq_true, if_false, show rows32 [65533] = [[.v (.int .i32 65533)]] from rfl] at hik2
    simp only [Bool.false_and]
    (rw [callT_eq Tryd.func21 rfl fok21 (by simp [Tryd.ntmps21])]; simp (disch := first | omega | (simp only [List.length_append, List.length_map, List.length_set, List.length_cons, List.length_nil, List.length_take, List.length_drop, rows64_len, rows32_len]; omega)) only [va0, va1, va2, va3, va4, va5, va6, va7, va8, va9, va10, va11, va12, va13, va14, va15, vb0, vb1, vb2, vb3, w_i8, w_u8, w_i16, w_u16, w_i32, w_u32, w_i64, w_u64, lt_T, lt_F, le_T, le_F, nlt_T, nlt_F, nle_T, nle_F, List.take_of_length_le, gB, gcW, gcR, posIn, renA, renL, Chunk.ren, Chunk.refs, evOpD, touchD, stepC, isFresh, nFresh, freshOf, mkR, hole, evL, evH, opd, get, putD, ofVal, cellOf, loadE, behind, lenE, idxAddrE, idxE, addPtr, intE, strE, unE, convE, AV.int, AV.bool, AV.str, ivs, take, frameOf, firstRegion, refsA, refsL, one, cellsA, floatOk, apartT, List.map, if_true, if_false, E_P, E_glob0, reduceCtorEq, beq_self_eq_true, decide_true, decide_false, ↓reduceIte, Nat.reduceEqDiff, cond_true, cond_false, or_true, true_or, or_false, false_or, and_true, true_and, and_self, false_and, and_false, not_true, not_false_iff, Nat.reduceAdd, Nat.reduceSub, Nat.reduceMul, Nat.reduceLT, Nat.reduceLeDiff, Int.reduceToNat, Int.reduceLT, Int.reduceLE, Option.getD, Int.reduceMul, Int.reduceAdd, List.drop, List.take, Nat.reduceBEq, List.isEmpty, Int.reduceEq, Int.reduceNe, Int.reduceNeg, Int.reduceGT, Int.reduceGE, beq_true, beq_false, UInt8.reduceToNat, eqE, eq_self, foldE, maxE, minE, eq_T, eq_F, ndec, odec, adec, sdec, fillA, over, chop, List.replicate, leavesOk, leafOk, cellsEq, cellEq, E_byref, en21, bs29, bs49, ik22, ik28, List.nil_append, ik29, rows64_len, rows32_len, hik, hik2, hne]; exact ⟨_, rfl⟩)
  | true =>
    simp only [hg, if_true, show rows32 [r] = [[.v (.int .i32 r)]] from rfl] at hik2
    simp only [Bool.true_and]
    by_cases h1 : r < 32
    · simp only [h1, decide_true, Bool.not_true, Bool.false_and]
      (rw [callT_eq Tryd.func21 rfl fok21 (by simp [Tryd.ntmps21])]; simp (disch := first | omega | (simp only [List.length_append, List.length_map, List.length_set, List.length_cons, List.length_nil, List.length_take, List.length_drop, rows64_len, rows32_len]; omega)) only [va0, va1, va2, va3, va4, va5, va6, va7, va8, va9, va10, va11, va12, va13, va14, va15, vb0, vb1, vb2, vb3, w_i8, w_u8, w_i16, w_u16, w_i32, w_u32, w_i64, w_u64, lt_T, lt_F, le_T, le_F, nlt_T, nlt_F, nle_T, nle_F, List.take_of_length_le, gB, gcW, gcR, posIn, renA, renL, Chunk.ren, Chunk.refs, evOpD, touchD, stepC, isFresh, nFresh, freshOf, mkR, hole, evL, evH, opd, get, putD, ofVal, cellOf, loadE, behind, lenE, idxAddrE, idxE, addPtr, intE, strE, unE, convE, AV.int, AV.bool, AV.str, ivs, take, frameOf, firstRegion, refsA, refsL, one, cellsA, floatOk, apartT, List.map, if_true, if_false, E_P, E_glob0, reduceCtorEq, beq_self_eq_true, decide_true, decide_false, ↓reduceIte, Nat.reduceEqDiff, cond_true, cond_false, or_true, true_or, or_false, false_or, and_true, true_and, and_self, false_and, and_false, not_true, not_false_iff, Nat.reduceAdd, Nat.reduceSub, Nat.reduceMul, Nat.reduceLT, Nat.reduceLeDiff, Int.reduceToNat, Int.reduceLT, Int.reduceLE, Option.getD, Int.reduceMul, Int.reduceAdd, List.drop, List.take, Nat.reduceBEq, List.isEmpty, Int.reduceEq, Int.reduceNe, Int.reduceNeg, Int.reduceGT, Int.reduceGE, beq_true, beq_false, UInt8.reduceToNat, eqE, eq_self, foldE, maxE, minE, eq_T, eq_F, ndec, odec, adec, sdec, fillA, over, chop, List.replicate, leavesOk, leafOk, cellsEq, cellEq, E_byref, en21, bs29, bs49, ik22, ik28, List.nil_append, ik29, rows64_len, rows32_len, hik, hik2, h1]; exact ⟨_, rfl⟩)
    · simp only [h1, decide_false, Bool.not_false, Bool.true_and]
      by_cases h2 : 127 ≤ r ∧ r ≤ 159
      · obtain ⟨h2, h3⟩ := h2
        simp only [h2, h3, decide_true, Bool.and_true, Bool.not_true, Bool.false_and]
        (rw [callT_eq Tryd.func21 rfl fok21 (by simp [Tryd.ntmps21])]; simp (disch := first | omega | (simp only [List.length_append, List.length_map, List.length_set, List.length_cons, List.length_nil, List.length_take, List.length_drop, rows64_len, rows32_len]; omega)) only [va0, va1, va2, va3, va4, va5, va6, va7, va8, va9, va10, va11, va12, va13, va14, va15, vb0, vb1, vb2, vb3, w_i8, w_u8, w_i16, w_u16, w_i32, w_u32, w_i64, w_u64, lt_T, lt_F, le_T, le_F, nlt_T, nlt_F, nle_T, nle_F, List.take_of_length_le, gB, gcW, gcR, posIn, renA, renL, Chunk.ren, Chunk.refs, evOpD, touchD, stepC, isFresh, nFresh, freshOf, mkR, hole, evL, evH, opd, get, putD, ofVal, cellOf, loadE, behind, lenE, idxAddrE, idxE, addPtr, intE, strE, unE, convE, AV.int, AV.bool, AV.str, ivs, take, frameOf, firstRegion, refsA, refsL, one, cellsA, floatOk, apartT, List.map, if_true, if_false, E_P, E_glob0, reduceCtorEq, beq_self_eq_true, decide_true, decide_false, ↓reduceIte, Nat.reduceEqDiff, cond_true, cond_false, or_true, true_or, or_false, false_or, and_true, true_and, and_self, false_and, and_false, not_true, not_false_iff, Nat.reduceAdd, Nat.reduceSub, Nat.reduceMul, Nat.reduceLT, Nat.reduceLeDiff, Int.reduceToNat, Int.reduceLT, Int.reduceLE, Option.getD, Int.reduceMul, Int.reduceAdd, List.drop, List.take, Nat.reduceBEq, List.isEmpty, Int.reduceEq, Int.reduceNe, Int.reduceNeg, Int.reduceGT, Int.reduceGE, beq_true, beq_false, UInt8.reduceToNat, eqE, eq_self, foldE, maxE, minE, eq_T, eq_F, ndec, odec, adec, sdec, fillA, over, chop, List.replicate, leavesOk, leafOk, cellsEq, cellEq, E_byref, en21, bs29, bs49, ik22, ik28, List.nil_append, ik29, rows64_len, rows32_len, hik, hik2, h1, h2, h3]; exact ⟨_, rfl⟩)
      · rw [show (decide (127 ≤ r) && decide (r ≤ 159)) = false by simp; omega]
        simp only [Bool.not_false, Bool.true_and]
        have h23 : ¬ 127 ≤ r ∨ ¬ r ≤ 159 := by omega
        rcases h23 with h2 | h2
        all_goals
          by_cases q1 : c = 0
          rotate_left
          · simp only [q1, decide_true, decide_false, Bool.true_and, Bool.and_true, Bool.false_and, Bool.and_false, Bool.not_true, Bool.not_false, Bool.or_true, Bool.true_or, Bool.or_false, Bool.false_or, List.isEmpty_nil, List.isEmpty_cons]; (rw [callT_eq Tryd.func21 rfl fok21 (by simp [Tryd.ntmps21])]; simp (disch := first | omega | (simp only [List.length_append, List.length_map, List.length_set, List.length_cons, List.length_nil, List.length_take, List.length_drop, rows64_len, rows32_len]; omega)) only [va0, va1, va2, va3, va4, va5, va6, va7, va8, va9, va10, va11, va12, va13, va14, va15, vb0, vb1, vb2, vb3, w_i8, w_u8, w_i16, w_u16, w_i32, w_u32, w_i64, w_u64, lt_T, lt_F, le_T, le_F, nlt_T, nlt_F, nle_T, nle_F, List.take_of_length_le, gB, gcW, gcR, posIn, renA, renL, Chunk.ren, Chunk.refs, evOpD, touchD, stepC, isFresh, nFresh, freshOf, mkR, hole, evL, evH, opd, get, putD, ofVal, cellOf, loadE, behind, lenE, idxAddrE, idxE, addPtr, intE, strE, unE, convE, AV.int, AV.bool, AV.str, ivs, take, frameOf, firstRegion, refsA, refsL, one, cellsA, floatOk, apartT, List.map, if_true, if_false, E_P, E_glob0, reduceCtorEq, beq_self_eq_true, decide_true, decide_false, ↓reduceIte, Nat.reduceEqDiff, cond_true, cond_false, or_true, true_or, or_false, false_or, and_true, true_and, and_self, false_and, and_false, not_true, not_false_iff, Nat.reduceAdd, Nat.reduceSub, Nat.reduceMul, Nat.reduceLT, Nat.reduceLeDiff, Int.reduceToNat, Int.reduceLT, Int.reduceLE, Option.getD, Int.reduceMul, Int.reduceAdd, List.drop, List.take, Nat.reduceBEq, List.isEmpty, Int.reduceEq, Int.reduceNe, Int.reduceNeg, Int.reduceGT, Int.reduceGE, beq_true, beq_false, UInt8.reduceToNat, eqE, eq_self, foldE, maxE, minE, eq_T, eq_F, ndec, odec, adec, sdec, fillA, over, chop, List.replicate, leavesOk, leafOk, cellsEq, cellEq, E_byref, en21, bs29, bs49, ik22, ik28, List.nil_append, ik29, rows64_len, rows32_len, hik, hik2, h1, h2, q1]; exact ⟨_, rfl⟩)
          subst q1
          by_cases q2 : v = 0
          rotate_left
          · simp only [q2, decide_true, decide_false, Bool.true_and, Bool.and_true, Bool.false_and, Bool.and_false, Bool.not_true, Bool.not_false, Bool.or_true, Bool.true_or, Bool.or_false, Bool.false_or, List.isEmpty_nil, List.isEmpty_cons]; (rw [callT_eq Tryd.func21 rfl fok21 (by simp [Tryd.ntmps21])]; simp (disch := first | omega | (simp only [List.length_append, List.length_map, List.length_set, List.length_cons, List.length_nil, List.length_take, List.length_drop, rows64_len, rows32_len]; omega)) only [va0, va1, va2, va3, va4, va5, va6, va7, va8, va9, va10, va11, va12, va13, va14, va15, vb0, vb1, vb2, vb3, w_i8, w_u8, w_i16, w_u16, w_i32, w_u32, w_i64, w_u64, lt_T, lt_F, le_T, le_F, nlt_T, nlt_F, nle_T, nle_F, List.take_of_length_le, gB, gcW, gcR, posIn, renA, renL, Chunk.ren, Chunk.refs, evOpD, touchD, stepC, isFresh, nFresh, freshOf, mkR, hole, evL, evH, opd, get, putD, ofVal, cellOf, loadE, behind, lenE, idxAddrE, idxE, addPtr, intE, strE, unE, convE, AV.int, AV.bool, AV.str, ivs, take, frameOf, firstRegion, refsA, refsL, one, cellsA, floatOk, apartT, List.map, if_true, if_false, E_P, E_glob0, reduceCtorEq, beq_self_eq_true, decide_true, decide_false, ↓reduceIte, Nat.reduceEqDiff, cond_true, cond_false, or_true, true_or, or_false, false_or, and_true, true_and, and_self, false_and, and_false, not_true, not_false_iff, Nat.reduceAdd, Nat.reduceSub, Nat.reduceMul, Nat.reduceLT, Nat.reduceLeDiff, Int.reduceToNat, Int.reduceLT, Int.reduceLE, Option.getD, Int.reduceMul, Int.reduceAdd, List.drop, List.take, Nat.reduceBEq, List.isEmpty, Int.reduceEq, Int.reduceNe, Int.reduceNeg, Int.reduceGT, Int.reduceGE, beq_true, beq_false, UInt8.reduceToNat, eqE, eq_self, foldE, maxE, minE, eq_T, eq_F, ndec, odec, adec, sdec, fillA, over, chop, List.replicate, leavesOk, leafOk, cellsEq, cellEq, E_byref, en21, bs29, bs49, ik22, ik28, List.nil_append, ik29, rows64_len, rows32_len, hik, hik2, h1, h2, q2]; exact ⟨_, rfl⟩)
          subst q2
          cases i with
          | cons i0 i => simp only [List.length_cons, decide_true, decide_false, Bool.true_and, Bool.and_true, Bool.false_and, Bool.and_false, Bool.not_true, Bool.not_false, Bool.or_true, Bool.true_or, Bool.or_false, Bool.false_or, List.isEmpty_nil, List.isEmpty_cons]; (rw [callT_eq Tryd.func21 rfl fok21 (by simp [Tryd.ntmps21])]; simp (disch := first | omega | (simp only [List.length_append, List.length_map, List.length_set, List.length_cons, List.length_nil, List.length_take, List.length_drop, rows64_len, rows32_len]; omega)) only [va0, va1, va2, va3, va4, va5, va6, va7, va8, va9, va10, va11, va12, va13, va14, va15, vb0, vb1, vb2, vb3, w_i8, w_u8, w_i16, w_u16, w_i32, w_u32, w_i64, w_u64, lt_T, lt_F, le_T, le_F, nlt_T, nlt_F, nle_T, nle_F, List.take_of_length_le, gB, gcW, gcR, posIn, renA, renL, Chunk.ren, Chunk.refs, evOpD, touchD, stepC, isFresh, nFresh, freshOf, mkR, hole, evL, evH, opd, get, putD, ofVal, cellOf, loadE, behind, lenE, idxAddrE, idxE, addPtr, intE, strE, unE, convE, AV.int, AV.bool, AV.str, ivs, take, frameOf, firstRegion, refsA, refsL, one, cellsA, floatOk, apartT, List.map, if_true, if_false, E_P, E_glob0, reduceCtorEq, beq_self_eq_true, decide_true, decide_false, ↓reduceIte, Nat.reduceEqDiff, cond_true, cond_false, or_true, true_or, or_false, false_or, and_true, true_and, and_self, false_and, and_false, not_true, not_false_iff, Nat.reduceAdd, Nat.reduceSub, Nat.reduceMul, Nat.reduceLT, Nat.reduceLeDiff, Int.reduceToNat, Int.reduceLT, Int.reduceLE, Option.getD, Int.reduceMul, Int.reduceAdd, List.drop, List.take, Nat.reduceBEq, List.isEmpty, Int.reduceEq, Int.reduceNe, Int.reduceNeg, Int.reduceGT, Int.reduceGE, beq_true, beq_false, UInt8.reduceToNat, eqE, eq_self, foldE, maxE, minE, eq_T, eq_F, ndec, odec, adec, sdec, fillA, over, chop, List.replicate, leavesOk, leafOk, cellsEq, cellEq, E_byref, en21, bs29, bs49, ik22, ik28, List.nil_append, ik29, rows64_len, rows32_len, hik, hik2, h1, h2, List.length_cons]; exact ⟨_, rfl⟩)
          | nil =>
            cases t with
            | cons i0 i => simp only [List.length_cons, decide_true, decide_false, Bool.true_and, Bool.and_true, Bool.false_and, Bool.and_false, Bool.not_true, Bool.not_false, Bool.or_true, Bool.true_or, Bool.or_false, Bool.false_or, List.isEmpty_nil, List.isEmpty_cons]; (rw [callT_eq Tryd.func21 rfl fok21 (by simp [Tryd.ntmps21])]; simp (disch := first | omega | (simp only [List.length_append, List.length_map, List.length_set, List.length_cons, List.length_nil, List.length_take, List.length_drop, rows64_len, rows32_len]; omega)) only [va0, va1, va2, va3, va4, va5, va6, va7, va8, va9, va10, va11, va12, va13, va14, va15, vb0, vb1, vb2, vb3, w_i8, w_u8, w_i16, w_u16, w_i32, w_u32, w_i64, w_u64, lt_T, lt_F, le_T, le_F, nlt_T, nlt_F, nle_T, nle_F, List.take_of_length_le, gB, gcW, gcR, posIn, renA, renL, Chunk.ren, Chunk.refs, evOpD, touchD, stepC, isFresh, nFresh, freshOf, mkR, hole, evL, evH, opd, get, putD, ofVal, cellOf, loadE, behind, lenE, idxAddrE, idxE, addPtr, intE, strE, unE, convE, AV.int, AV.bool, AV.str, ivs, take, frameOf, firstRegion, refsA, refsL, one, cellsA, floatOk, apartT, List.map, if_true, if_false, E_P, E_glob0, reduceCtorEq, beq_self_eq_true, decide_true, decide_false, ↓reduceIte, Nat.reduceEqDiff, cond_true, cond_false, or_true, true_or, or_false, false_or, and_true, true_and, and_self, false_and, and_false, not_true, not_false_iff, Nat.reduceAdd, Nat.reduceSub, Nat.reduceMul, Nat.reduceLT, Nat.reduceLeDiff, Int.reduceToNat, Int.reduceLT, Int.reduceLE, Option.getD, Int.reduceMul, Int.reduceAdd, List.drop, List.take, Nat.reduceBEq, List.isEmpty, Int.reduceEq, Int.reduceNe, Int.reduceNeg, Int.reduceGT, Int.reduceGE, beq_true, beq_false, UInt8.reduceToNat, eqE, eq_self, foldE, maxE, minE, eq_T, eq_F, ndec, odec, adec, sdec, fillA, over, chop, List.replicate, leavesOk, leafOk, cellsEq, cellEq, E_byref, en21, bs29, bs49, ik22, ik28, List.nil_append, ik29, rows64_len, rows32_len, hik, hik2, h1, h2, List.length_cons]; exact ⟨_, rfl⟩)
            | nil =>
              cases ps with
              | cons p0 ps => simp only [List.length_cons, decide_true, decide_false, Bool.true_and, Bool.and_true, Bool.false_and, Bool.and_false, Bool.not_true, Bool.not_false, Bool.or_true, Bool.true_or, Bool.or_false, Bool.false_or, List.isEmpty_nil, List.isEmpty_cons]; (rw [callT_eq Tryd.func21 rfl fok21 (by simp [Tryd.ntmps21])]; simp (disch := first | omega | (simp only [List.length_append, List.length_map, List.length_set, List.length_cons, List.length_nil, List.length_take, List.length_drop, rows64_len, rows32_len]; omega)) only [va0, va1, va2, va3, va4, va5, va6, va7, va8, va9, va10, va11, va12, va13, va14, va15, vb0, vb1, vb2, vb3, w_i8, w_u8, w_i16, w_u16, w_i32, w_u32, w_i64, w_u64, lt_T, lt_F, le_T, le_F, nlt_T, nlt_F, nle_T, nle_F, List.take_of_length_le, gB, gcW, gcR, posIn, renA, renL, Chunk.ren, Chunk.refs, evOpD, touchD, stepC, isFresh, nFresh, freshOf, mkR, hole, evL, evH, opd, get, putD, ofVal, cellOf, loadE, behind, lenE, idxAddrE, idxE, addPtr, intE, strE, unE, convE, AV.int, AV.bool, AV.str, ivs, take, frameOf, firstRegion, refsA, refsL, one, cellsA, floatOk, apartT, List.map, if_true, if_false, E_P, E_glob0, reduceCtorEq, beq_self_eq_true, decide_true, decide_false, ↓reduceIte, Nat.reduceEqDiff, cond_true, cond_false, or_true, true_or, or_false, false_or, and_true, true_and, and_self, false_and, and_false, not_true, not_false_iff, Nat.reduceAdd, Nat.reduceSub, Nat.reduceMul, Nat.reduceLT, Nat.reduceLeDiff, Int.reduceToNat, Int.reduceLT, Int.reduceLE, Option.getD, Int.reduceMul, Int.reduceAdd, List.drop, List.take, Nat.reduceBEq, List.isEmpty, Int.reduceEq, Int.reduceNe, Int.reduceNeg, Int.reduceGT, Int.reduceGE, beq_true, beq_false, UInt8.reduceToNat, eqE, eq_self, foldE, maxE, minE, eq_T, eq_F, ndec, odec, adec, sdec, fillA, over, chop, List.replicate, leavesOk, leafOk, cellsEq, cellEq, E_byref, en21, bs29, bs49, ik22, ik28, List.nil_append, ik29, rows64_len, rows32_len, hik, hik2, h1, h2, rows64, List.length_cons]; exact ⟨_, rfl⟩)
              | nil => simp only [List.length_nil, decide_true, decide_false, Bool.true_and, Bool.and_true, Bool.false_and, Bool.and_false, Bool.not_true, Bool.not_false, Bool.or_true, Bool.true_or, Bool.or_false, Bool.false_or, List.isEmpty_nil, List.isEmpty_cons]; (rw [callT_eq Tryd.func21 rfl fok21 (by simp [Tryd.ntmps21])]; simp (disch := first | omega | (simp only [List.length_append, List.length_map, List.length_set, List.length_cons, List.length_nil, List.length_take, List.length_drop, rows64_len, rows32_len]; omega)) only [va0, va1, va2, va3, va4, va5, va6, va7, va8, va9, va10, va11, va12, va13, va14, va15, vb0, vb1, vb2, vb3, w_i8, w_u8, w_i16, w_u16, w_i32, w_u32, w_i64, w_u64, lt_T, lt_F, le_T, le_F, nlt_T, nlt_F, nle_T, nle_F, List.take_of_length_le, gB, gcW, gcR, posIn, renA, renL, Chunk.ren, Chunk.refs, evOpD, touchD, stepC, isFresh, nFresh, freshOf, mkR, hole, evL, evH, opd, get, putD, ofVal, cellOf, loadE, behind, lenE, idxAddrE, idxE, addPtr, intE, strE, unE, convE, AV.int, AV.bool, AV.str, ivs, take, frameOf, firstRegion, refsA, refsL, one, cellsA, floatOk, apartT, List.map, if_true, if_false, E_P, E_glob0, reduceCtorEq, beq_self_eq_true, decide_true, decide_false, ↓reduceIte, Nat.reduceEqDiff, cond_true, cond_false, or_true, true_or, or_false, false_or, and_true, true_and, and_self, false_and, and_false, not_true, not_false_iff, Nat.reduceAdd, Nat.reduceSub, Nat.reduceMul, Nat.reduceLT, Nat.reduceLeDiff, Int.reduceToNat, Int.reduceLT, Int.reduceLE, Option.getD, Int.reduceMul, Int.reduceAdd, List.drop, List.take, Nat.reduceBEq, List.isEmpty, Int.reduceEq, Int.reduceNe, Int.reduceNeg, Int.reduceGT, Int.reduceGE, beq_true, beq_false, UInt8.reduceToNat, eqE, eq_self, foldE, maxE, minE, eq_T, eq_F, ndec, odec, adec, sdec, fillA, over, chop, List.replicate, leavesOk, leafOk, cellsEq, cellEq, E_byref, en21, bs29, bs49, ik22, ik28, List.nil_append, ik29, rows64_len, rows32_len, hik, hik2, h1, h2, rows64, List.length_nil]; exact ⟨_, rfl⟩)
end Go.VI

namespace Go.VI
open Go.Proofs
set_option maxRecDepth 100000
set_option linter.unusedSimpArgs false
set_option linter.unusedVariables false
set_option maxHeartbeats 4000000
theorem c21_2 (r c v : Int) (i : List UInt8) (ps : List Int) (t : List UInt8) :
    ∃ L, callT E 21 [evA ⟨2, r, c, v, i, ps, t⟩] [] = some (.i (.v (.bool (rightC ⟨2, r, c, v, i, ps, t⟩))), L) := by
  rw [evA_eq]
  unfold rightC
  simp only []
  by_cases h1 : 32 ≤ c
  · simp only [h1, decide_true, decide_false, Bool.true_and, Bool.and_true, Bool.false_and, Bool.and_false, Bool.not_true, Bool.not_false, Bool.or_true, Bool.true_or, Bool.or_false, Bool.false_or, List.isEmpty_nil, List.isEmpty_cons]; (rw [callT_eq Tryd.func21 rfl fok21 (by simp [Tryd.ntmps21])]; simp (disch := first | omega | (simp only [List.length_append, List.length_map, List.length_set, List.length_cons, List.length_nil, List.length_take, List.length_drop, rows64_len, rows32_len]; omega)) only [va0, va1, va2, va3, va4, va5, va6, va7, va8, va9, va10, va11, va12, va13, va14, va15, vb0, vb1, vb2, vb3, w_i8, w_u8, w_i16, w_u16, w_i32, w_u32, w_i64, w_u64, lt_T, lt_F, le_T, le_F, nlt_T, nlt_F, nle_T, nle_F, List.take_of_length_le, gB, gcW, gcR, posIn, renA, renL, Chunk.ren, Chunk.refs, evOpD, touchD, stepC, isFresh, nFresh, freshOf, mkR, hole, evL, evH, opd, get, putD, ofVal, cellOf, loadE, behind, lenE, idxAddrE, idxE, addPtr, intE, strE, unE, convE, AV.int, AV.bool, AV.str, ivs, take, frameOf, firstRegion, refsA, refsL, one, cellsA, floatOk, apartT, List.map, if_true, if_false, E_P, E_glob0, reduceCtorEq, beq_self_eq_true, decide_true, decide_false, ↓reduceIte, Nat.reduceEqDiff, cond_true, cond_false, or_true, true_or, or_false, false_or, and_true, true_and, and_self, false_and, and_false, not_true, not_false_iff, Nat.reduceAdd, Nat.reduceSub, Nat.reduceMul, Nat.reduceLT, Nat.reduceLeDiff, Int.reduceToNat, Int.reduceLT, Int.reduceLE, Option.getD, Int.reduceMul, Int.reduceAdd, List.drop, List.take, Nat.reduceBEq, List.isEmpty, Int.reduceEq, Int.reduceNe, Int.reduceNeg, Int.reduceGT, Int.reduceGE, beq_true, beq_false, UInt8.reduceToNat, eqE, eq_self, foldE, maxE, minE, eq_T, eq_F, ndec, odec, adec, sdec, fillA, over, chop, List.replicate, leavesOk, leafOk, cellsEq, cellEq, E_byref, en21, bs29, bs49, ik29, rows64_len, rows32_len, h1, h1]; exact ⟨_, rfl⟩)
  by_cases h2 : c = 24
  · simp only [h2, decide_true, decide_false, Bool.true_and, Bool.and_true, Bool.false_and, Bool.and_false, Bool.not_true, Bool.not_false, Bool.or_true, Bool.true_or, Bool.or_false, Bool.false_or, List.isEmpty_nil, List.isEmpty_cons]; (rw [callT_eq Tryd.func21 rfl fok21 (by simp [Tryd.ntmps21])]; simp (disch := first | omega | (simp only [List.length_append, List.length_map, List.length_set, List.length_cons, List.length_nil, List.length_take, List.length_drop, rows64_len, rows32_len]; omega)) only [va0, va1, va2, va3, va4, va5, va6, va7, va8, va9, va10, va11, va12, va13, va14, va15, vb0, vb1, vb2, vb3, w_i8, w_u8, w_i16, w_u16, w_i32, w_u32, w_i64, w_u64, lt_T, lt_F, le_T, le_F, nlt_T, nlt_F, nle_T, nle_F, List.take_of_length_le, gB, gcW, gcR, posIn, renA, renL, Chunk.ren, Chunk.refs, evOpD, touchD, stepC, isFresh, nFresh, freshOf, mkR, hole, evL, evH, opd, get, putD, ofVal, cellOf, loadE, behind, lenE, idxAddrE, idxE, addPtr, intE, strE, unE, convE, AV.int, AV.bool, AV.str, ivs, take, frameOf, firstRegion, refsA, refsL, one, cellsA, floatOk, apartT, List.map, if_true, if_false, E_P, E_glob0, reduceCtorEq, beq_self_eq_true, decide_true, decide_false, ↓reduceIte, Nat.reduceEqDiff, cond_true, cond_false, or_true, true_or, or_false, false_or, and_true, true_and, and_self, false_and, and_false, not_true, not_false_iff, Nat.reduceAdd, Nat.reduceSub, Nat.reduceMul, Nat.reduceLT, Nat.reduceLeDiff, Int.reduceToNat, Int.reduceLT, Int.reduceLE, Option.getD, Int.reduceMul, Int.reduceAdd, List.drop, List.take, Nat.reduceBEq, List.isEmpty, Int.reduceEq, Int.reduceNe, Int.reduceNeg, Int.reduceGT, Int.reduceGE, beq_true, beq_false, UInt8.reduceToNat, eqE, eq_self, foldE, maxE, minE, eq_T, eq_F, ndec, odec, adec, sdec, fillA, over, chop, List.replicate, leavesOk, leafOk, cellsEq, cellEq, E_byref, en21, bs29, bs49, ik29, rows64_len, rows32_len, h1, h2]; exact ⟨_, rfl⟩)
  by_cases h3 : c = 26
  · simp only [h3, decide_true, decide_false, Bool.true_and, Bool.and_true, Bool.false_and, Bool.and_false, Bool.not_true, Bool.not_false, Bool.or_true, Bool.true_or, Bool.or_false, Bool.false_or, List.isEmpty_nil, List.isEmpty_cons]; (rw [callT_eq Tryd.func21 rfl fok21 (by simp [Tryd.ntmps21])]; simp (disch := first | omega | (simp only [List.length_append, List.length_map, List.length_set, List.length_cons, List.length_nil, List.length_take, List.length_drop, rows64_len, rows32_len]; omega)) only [va0, va1, va2, va3, va4, va5, va6, va7, va8, va9, va10, va11, va12, va13, va14, va15, vb0, vb1, vb2, vb3, w_i8, w_u8, w_i16, w_u16, w_i32, w_u32, w_i64, w_u64, lt_T, lt_F, le_T, le_F, nlt_T, nlt_F, nle_T, nle_F, List.take_of_length_le, gB, gcW, gcR, posIn, renA, renL, Chunk.ren, Chunk.refs, evOpD, touchD, stepC, isFresh, nFresh, freshOf, mkR, hole, evL, evH, opd, get, putD, ofVal, cellOf, loadE, behind, lenE, idxAddrE, idxE, addPtr, intE, strE, unE, convE, AV.int, AV.bool, AV.str, ivs, take, frameOf, firstRegion, refsA, refsL, one, cellsA, floatOk, apartT, List.map, if_true, if_false, E_P, E_glob0, reduceCtorEq, beq_self_eq_true, decide_true, decide_false, ↓reduceIte, Nat.reduceEqDiff, cond_true, cond_false, or_true, true_or, or_false, false_or, and_true, true_and, and_self, false_and, and_false, not_true, not_false_iff, Nat.reduceAdd, Nat.reduceSub, Nat.reduceMul, Nat.reduceLT, Nat.reduceLeDiff, Int.reduceToNat, Int.reduceLT, Int.reduceLE, Option.getD, Int.reduceMul, Int.reduceAdd, List.drop, List.take, Nat.reduceBEq, List.isEmpty, Int.reduceEq, Int.reduceNe, Int.reduceNeg, Int.reduceGT, Int.reduceGE, beq_true, beq_false, UInt8.reduceToNat, eqE, eq_self, foldE, maxE, minE, eq_T, eq_F, ndec, odec, adec, sdec, fillA, over, chop, List.replicate, leavesOk, leafOk, cellsEq, cellEq, E_byref, en21, bs29, bs49, ik29, rows64_len, rows32_len, h1, h2, h3]; exact ⟨_, rfl⟩)
  by_cases h4 : c = 27
  · simp only [h4, decide_true, decide_false, Bool.true_and, Bool.and_true, Bool.false_and, Bool.and_false, Bool.not_true, Bool.not_false, Bool.or_true, Bool.true_or, Bool.or_false, Bool.false_or, List.isEmpty_nil, List.isEmpty_cons]; (rw [callT_eq Tryd.func21 rfl fok21 (by simp [Tryd.ntmps21])]; simp (disch := first | omega | (simp only [List.length_append, List.length_map, List.length_set, List.length_cons, List.length_nil, List.length_take, List.length_drop, rows64_len, rows32_len]; omega)) only [va0, va1, va2, va3, va4, va5, va6, va7, va8, va9, va10, va11, va12, va13, va14, va15, vb0, vb1, vb2, vb3, w_i8, w_u8, w_i16, w_u16, w_i32, w_u32, w_i64, w_u64, lt_T, lt_F, le_T, le_F, nlt_T, nlt_F, nle_T, nle_F, List.take_of_length_le, gB, gcW, gcR, posIn, renA, renL, Chunk.ren, Chunk.refs, evOpD, touchD, stepC, isFresh, nFresh, freshOf, mkR, hole, evL, evH, opd, get, putD, ofVal, cellOf, loadE, behind, lenE, idxAddrE, idxE, addPtr, intE, strE, unE, convE, AV.int, AV.bool, AV.str, ivs, take, frameOf, firstRegion, refsA, refsL, one, cellsA, floatOk, apartT, List.map, if_true, if_false, E_P, E_glob0, reduceCtorEq, beq_self_eq_true, decide_true, decide_false, ↓reduceIte, Nat.reduceEqDiff, cond_true, cond_false, or_true, true_or, or_false, false_or, and_true, true_and, and_self, false_and, and_false, not_true, not_false_iff, Nat.reduceAdd, Nat.reduceSub, Nat.reduceMul, Nat.reduceLT, Nat.reduceLeDiff, Int.reduceToNat, Int.reduceLT, Int.reduceLE, Option.getD, Int.reduceMul, Int.reduceAdd, List.drop, List.take, Nat.reduceBEq, List.isEmpty, Int.reduceEq, Int.reduceNe, Int.reduceNeg, Int.reduceGT, Int.reduceGE, beq_true, beq_false, UInt8.reduceToNat, eqE, eq_self, foldE, maxE, minE, eq_T, eq_F, ndec, odec, adec, sdec, fillA, over, chop, List.replicate, leavesOk, leafOk, cellsEq, cellEq, E_byref, en21, bs29, bs49, ik29, rows64_len, rows32_len, h1, h2, h3, h4]; exact ⟨_, rfl⟩)
  simp only [h1, h2, h3, h4, decide_false, Bool.or_false, Bool.not_false, Bool.true_and]
  by_cases qr : r = 0
  rotate_left
  · simp only [qr, decide_true, decide_false, Bool.true_and, Bool.and_true, Bool.false_and, Bool.and_false, Bool.not_true, Bool.not_false, Bool.or_true, Bool.true_or, Bool.or_false, Bool.false_or, List.isEmpty_nil, List.isEmpty_cons]; (rw [callT_eq Tryd.func21 rfl fok21 (by simp [Tryd.ntmps21])]; simp (disch := first | omega | (simp only [List.length_append, List.length_map, List.length_set, List.length_cons, List.length_nil, List.length_take, List.length_drop, rows64_len, rows32_len]; omega)) only [va0, va1, va2, va3, va4, va5, va6, va7, va8, va9, va10, va11, va12, va13, va14, va15, vb0, vb1, vb2, vb3, w_i8, w_u8, w_i16, w_u16, w_i32, w_u32, w_i64, w_u64, lt_T, lt_F, le_T, le_F, nlt_T, nlt_F, nle_T, nle_F, List.take_of_length_le, gB, gcW, gcR, posIn, renA, renL, Chunk.ren, Chunk.refs, evOpD, touchD, stepC, isFresh, nFresh, freshOf, mkR, hole, evL, evH, opd, get, putD, ofVal, cellOf, loadE, behind, lenE, idxAddrE, idxE, addPtr, intE, strE, unE, convE, AV.int, AV.bool, AV.str, ivs, take, frameOf, firstRegion, refsA, refsL, one, cellsA, floatOk, apartT, List.map, if_true, if_false, E_P, E_glob0, reduceCtorEq, beq_self_eq_true, decide_true, decide_false, ↓reduceIte, Nat.reduceEqDiff, cond_true, cond_false, or_true, true_or, or_false, false_or, and_true, true_and, and_self, false_and, and_false, not_true, not_false_iff, Nat.reduceAdd, Nat.reduceSub, Nat.reduceMul, Nat.reduceLT, Nat.reduceLeDiff, Int.reduceToNat, Int.reduceLT, Int.reduceLE, Option.getD, Int.reduceMul, Int.reduceAdd, List.drop, List.take, Nat.reduceBEq, List.isEmpty, Int.reduceEq, Int.reduceNe, Int.reduceNeg, Int.reduceGT, Int.reduceGE, beq_true, beq_false, UInt8.reduceToNat, eqE, eq_self, foldE, maxE, minE, eq_T, eq_F, ndec, odec, adec, sdec, fillA, over, chop, List.replicate, leavesOk, leafOk, cellsEq, cellEq, E_byref, en21, bs29, bs49, ik29, rows64_len, rows32_len, h1, h2, h3, h4, qr]; exact ⟨_, rfl⟩)
  subst qr
  by_cases qv : v = 0
  rotate_left
  · simp only [qv, decide_true, decide_false, Bool.true_and, Bool.and_true, Bool.false_and, Bool.and_false, Bool.not_true, Bool.not_false, Bool.or_true, Bool.true_or, Bool.or_false, Bool.false_or, List.isEmpty_nil, List.isEmpty_cons]; (rw [callT_eq Tryd.func21 rfl fok21 (by simp [Tryd.ntmps21])]; simp (disch := first | omega | (simp only [List.length_append, List.length_map, List.length_set, List.length_cons, List.length_nil, List.length_take, List.length_drop, rows64_len, rows32_len]; omega)) only [va0, va1, va2, va3, va4, va5, va6, va7, va8, va9, va10, va11, va12, va13, va14, va15, vb0, vb1, vb2, vb3, w_i8, w_u8, w_i16, w_u16, w_i32, w_u32, w_i64, w_u64, lt_T, lt_F, le_T, le_F, nlt_T, nlt_F, nle_T, nle_F, List.take_of_length_le, gB, gcW, gcR, posIn, renA, renL, Chunk.ren, Chunk.refs, evOpD, touchD, stepC, isFresh, nFresh, freshOf, mkR, hole, evL, evH, opd, get, putD, ofVal, cellOf, loadE, behind, lenE, idxAddrE, idxE, addPtr, intE, strE, unE, convE, AV.int, AV.bool, AV.str, ivs, take, frameOf, firstRegion, refsA, refsL, one, cellsA, floatOk, apartT, List.map, if_true, if_false, E_P, E_glob0, reduceCtorEq, beq_self_eq_true, decide_true, decide_false, ↓reduceIte, Nat.reduceEqDiff, cond_true, cond_false, or_true, true_or, or_false, false_or, and_true, true_and, and_self, false_and, and_false, not_true, not_false_iff, Nat.reduceAdd, Nat.reduceSub, Nat.reduceMul, Nat.reduceLT, Nat.reduceLeDiff, Int.reduceToNat, Int.reduceLT, Int.reduceLE, Option.getD, Int.reduceMul, Int.reduceAdd, List.drop, List.take, Nat.reduceBEq, List.isEmpty, Int.reduceEq, Int.reduceNe, Int.reduceNeg, Int.reduceGT, Int.reduceGE, beq_true, beq_false, UInt8.reduceToNat, eqE, eq_self, foldE, maxE, minE, eq_T, eq_F, ndec, odec, adec, sdec, fillA, over, chop, List.replicate, leavesOk, leafOk, cellsEq, cellEq, E_byref, en21, bs29, bs49, ik29, rows64_len, rows32_len, h1, h2, h3, h4, qv]; exact ⟨_, rfl⟩)
  subst qv
  cases i with
  | cons i0 i => simp only [List.length_cons, decide_true, decide_false, Bool.true_and, Bool.and_true, Bool.false_and, Bool.and_false, Bool.not_true, Bool.not_false, Bool.or_true, Bool.true_or, Bool.or_false, Bool.false_or, List.isEmpty_nil, List.isEmpty_cons]; (rw [callT_eq Tryd.func21 rfl fok21 (by simp [Tryd.ntmps21])]; simp (disch := first | omega | (simp only [List.length_append, List.length_map, List.length_set, List.length_cons, List.length_nil, List.length_take, List.length_drop, rows64_len, rows32_len]; omega)) only [va0, va1, va2, va3, va4, va5, va6, va7, va8, va9, va10, va11, va12, va13, va14, va15, vb0, vb1, vb2, vb3, w_i8, w_u8, w_i16, w_u16, w_i32, w_u32, w_i64, w_u64, lt_T, lt_F, le_T, le_F, nlt_T, nlt_F, nle_T, nle_F, List.take_of_length_le, gB, gcW, gcR, posIn, renA, renL, Chunk.ren, Chunk.refs, evOpD, touchD, stepC, isFresh, nFresh, freshOf, mkR, hole, evL, evH, opd, get, putD, ofVal, cellOf, loadE, behind, lenE, idxAddrE, idxE, addPtr, intE, strE, unE, convE, AV.int, AV.bool, AV.str, ivs, take, frameOf, firstRegion, refsA, refsL, one, cellsA, floatOk, apartT, List.map, if_true, if_false, E_P, E_glob0, reduceCtorEq, beq_self_eq_true, decide_true, decide_false, ↓reduceIte, Nat.reduceEqDiff, cond_true, cond_false, or_true, true_or, or_false, false_or, and_true, true_and, and_self, false_and, and_false, not_true, not_false_iff, Nat.reduceAdd, Nat.reduceSub, Nat.reduceMul, Nat.reduceLT, Nat.reduceLeDiff, Int.reduceToNat, Int.reduceLT, Int.reduceLE, Option.getD, Int.reduceMul, Int.reduceAdd, List.drop, List.take, Nat.reduceBEq, List.isEmpty, Int.reduceEq, Int.reduceNe, Int.reduceNeg, Int.reduceGT, Int.reduceGE, beq_true, beq_false, UInt8.reduceToNat, eqE, eq_self, foldE, maxE, minE, eq_T, eq_F, ndec, odec, adec, sdec, fillA, over, chop, List.replicate, leavesOk, leafOk, cellsEq, cellEq, E_byref, en21, bs29, bs49, ik29, rows64_len, rows32_len, h1, h2, h3, h4, List.length_cons]; exact ⟨_, rfl⟩)
  | nil =>
    cases t with
    | cons t0 t => simp only [List.length_cons, decide_true, decide_false, Bool.true_and, Bool.and_true, Bool.false_and, Bool.and_false, Bool.not_true, Bool.not_false, Bool.or_true, Bool.true_or, Bool.or_false, Bool.false_or, List.isEmpty_nil, List.isEmpty_cons]; (rw [callT_eq Tryd.func21 rfl fok21 (by simp [Tryd.ntmps21])]; simp (disch := first | omega | (simp only [List.length_append, List.length_map, List.length_set, List.length_cons, List.length_nil, List.length_take, List.length_drop, rows64_len, rows32_len]; omega)) only [va0, va1, va2, va3, va4, va5, va6, va7, va8, va9, va10, va11, va12, va13, va14, va15, vb0, vb1, vb2, vb3, w_i8, w_u8, w_i16, w_u16, w_i32, w_u32, w_i64, w_u64, lt_T, lt_F, le_T, le_F, nlt_T, nlt_F, nle_T, nle_F, List.take_of_length_le, gB, gcW, gcR, posIn, renA, renL, Chunk.ren, Chunk.refs, evOpD, touchD, stepC, isFresh, nFresh, freshOf, mkR, hole, evL, evH, opd, get, putD, ofVal, cellOf, loadE, behind, lenE, idxAddrE, idxE, addPtr, intE, strE, unE, convE, AV.int, AV.bool, AV.str, ivs, take, frameOf, firstRegion, refsA, refsL, one, cellsA, floatOk, apartT, List.map, if_true, if_false, E_P, E_glob0, reduceCtorEq, beq_self_eq_true, decide_true, decide_false, ↓reduceIte, Nat.reduceEqDiff, cond_true, cond_false, or_true, true_or, or_false, false_or, and_true, true_and, and_self, false_and, and_false, not_true, not_false_iff, Nat.reduceAdd, Nat.reduceSub, Nat.reduceMul, Nat.reduceLT, Nat.reduceLeDiff, Int.reduceToNat, Int.reduceLT, Int.reduceLE, Option.getD, Int.reduceMul, Int.reduceAdd, List.drop, List.take, Nat.reduceBEq, List.isEmpty, Int.reduceEq, Int.reduceNe, Int.reduceNeg, Int.reduceGT, Int.reduceGE, beq_true, beq_false, UInt8.reduceToNat, eqE, eq_self, foldE, maxE, minE, eq_T, eq_F, ndec, odec, adec, sdec, fillA, over, chop, List.replicate, leavesOk, leafOk, cellsEq, cellEq, E_byref, en21, bs29, bs49, ik29, rows64_len, rows32_len, h1, h2, h3, h4, List.length_cons]; exact ⟨_, rfl⟩)
    | nil =>
      cases ps with
      | cons p0 ps => simp only [List.length_cons, decide_true, decide_false, Bool.true_and, Bool.and_true, Bool.false_and, Bool.and_false, Bool.not_true, Bool.not_false, Bool.or_true, Bool.true_or, Bool.or_false, Bool.false_or, List.isEmpty_nil, List.isEmpty_cons]; (rw [callT_eq Tryd.func21 rfl fok21 (by simp [Tryd.ntmps21])]; simp (disch := first | omega | (simp only [List.length_append, List.length_map, List.length_set, List.length_cons, List.length_nil, List.length_take, List.length_drop, rows64_len, rows32_len]; omega)) only [va0, va1, va2, va3, va4, va5, va6, va7, va8, va9, va10, va11, va12, va13, va14, va15, vb0, vb1, vb2, vb3, w_i8, w_u8, w_i16, w_u16, w_i32, w_u32, w_i64, w_u64, lt_T, lt_F, le_T, le_F, nlt_T, nlt_F, nle_T, nle_F, List.take_of_length_le, gB, gcW, gcR, posIn, renA, renL, Chunk.ren, Chunk.refs, evOpD, touchD, stepC, isFresh, nFresh, freshOf, mkR, hole, evL, evH, opd, get, putD, ofVal, cellOf, loadE, behind, lenE, idxAddrE, idxE, addPtr, intE, strE, unE, convE, AV.int, AV.bool, AV.str, ivs, take, frameOf, firstRegion, refsA, refsL, one, cellsA, floatOk, apartT, List.map, if_true, if_false, E_P, E_glob0, reduceCtorEq, beq_self_eq_true, decide_true, decide_false, ↓reduceIte, Nat.reduceEqDiff, cond_true, cond_false, or_true, true_or, or_false, false_or, and_true, true_and, and_self, false_and, and_false, not_true, not_false_iff, Nat.reduceAdd, Nat.reduceSub, Nat.reduceMul, Nat.reduceLT, Nat.reduceLeDiff, Int.reduceToNat, Int.reduceLT, Int.reduceLE, Option.getD, Int.reduceMul, Int.reduceAdd, List.drop, List.take, Nat.reduceBEq, List.isEmpty, Int.reduceEq, Int.reduceNe, Int.reduceNeg, Int.reduceGT, Int.reduceGE, beq_true, beq_false, UInt8.reduceToNat, eqE, eq_self, foldE, maxE, minE, eq_T, eq_F, ndec, odec, adec, sdec, fillA, over, chop, List.replicate, leavesOk, leafOk, cellsEq, cellEq, E_byref, en21, bs29, bs49, ik29, rows64_len, rows32_len, h1, h2, h3, h4, rows64, List.length_cons]; exact ⟨_, rfl⟩)
      | nil => simp only [List.length_nil, decide_true, decide_false, Bool.true_and, Bool.and_true, Bool.false_and, Bool.and_false, Bool.not_true, Bool.not_false, Bool.or_true, Bool.true_or, Bool.or_false, Bool.false_or, List.isEmpty_nil, List.isEmpty_cons]; (rw [callT_eq Tryd.func21 rfl fok21 (by simp [Tryd.ntmps21])]; simp (disch := first | omega | (simp only [List.length_append, List.length_map, List.length_set, List.length_cons, List.length_nil, List.length_take, List.length_drop, rows64_len, rows32_len]; omega)) only [va0, va1, va2, va3, va4, va5, va6, va7, va8, va9, va10, va11, va12, va13, va14, va15, vb0, vb1, vb2, vb3, w_i8, w_u8, w_i16, w_u16, w_i32, w_u32, w_i64, w_u64, lt_T, lt_F, le_T, le_F, nlt_T, nlt_F, nle_T, nle_F, List.take_of_length_le, gB, gcW, gcR, posIn, renA, renL, Chunk.ren, Chunk.refs, evOpD, touchD, stepC, isFresh, nFresh, freshOf, mkR, hole, evL, evH, opd, get, putD, ofVal, cellOf, loadE, behind, lenE, idxAddrE, idxE, addPtr, intE, strE, unE, convE, AV.int, AV.bool, AV.str, ivs, take, frameOf, firstRegion, refsA, refsL, one, cellsA, floatOk, apartT, List.map, if_true, if_false, E_P, E_glob0, reduceCtorEq, beq_self_eq_true, decide_true, decide_false, ↓reduceIte, Nat.reduceEqDiff, cond_true, cond_false, or_true, true_or, or_false, false_or, and_true, true_and, and_self, false_and, and_false, not_true, not_false_iff, Nat.reduceAdd, Nat.reduceSub, Nat.reduceMul, Nat.reduceLT, Nat.reduceLeDiff, Int.reduceToNat, Int.reduceLT, Int.reduceLE, Option.getD, Int.reduceMul, Int.reduceAdd, List.drop, List.take, Nat.reduceBEq, List.isEmpty, Int.reduceEq, Int.reduceNe, Int.reduceNeg, Int.reduceGT, Int.reduceGE, beq_true, beq_false, UInt8.reduceToNat, eqE, eq_self, foldE, maxE, minE, eq_T, eq_F, ndec, odec, adec, sdec, fillA, over, chop, List.replicate, leavesOk, leafOk, cellsEq, cellEq, E_byref, en21, bs29, bs49, ik29, rows64_len, rows32_len, h1, h2, h3, h4, rows64, List.length_nil]; exact ⟨_, rfl⟩)
end Go.VI

namespace Go.VI
open Go.Proofs
set_option maxRecDepth 100000
set_option linter.unusedSimpArgs false
set_option linter.unusedVariables false
set_option maxHeartbeats 4000000
theorem c21_3 (r c v : Int) (i : List UInt8) (ps : List Int) (t : List UInt8) :
    ∃ L, callT E 21 [evA ⟨3, r, c, v, i, ps, t⟩] [] = some (.i (.v (.bool (rightE ⟨3, r, c, v, i, ps, t⟩))), L) := by
  rw [evA_eq]
  unfold rightE
  simp only []
  by_cases h1 : 3 ≤ i.length
  · have h1' : 3 ≤ (i.length : Int) := by omega
    simp only [h1, decide_true, decide_false, Bool.true_and, Bool.and_true, Bool.false_and, Bool.and_false, Bool.not_true, Bool.not_false, Bool.or_true, Bool.true_or, Bool.or_false, Bool.false_or, List.isEmpty_nil, List.isEmpty_cons]; (rw [callT_eq Tryd.func21 rfl fok21 (by simp [Tryd.ntmps21])]; simp (disch := first | omega | (simp only [List.length_append, List.length_map, List.length_set, List.length_cons, List.length_nil, List.length_take, List.length_drop, rows64_len, rows32_len]; omega)) only [va0, va1, va2, va3, va4, va5, va6, va7, va8, va9, va10, va11, va12, va13, va14, va15, vb0, vb1, vb2, vb3, w_i8, w_u8, w_i16, w_u16, w_i32, w_u32, w_i64, w_u64, lt_T, lt_F, le_T, le_F, nlt_T, nlt_F, nle_T, nle_F, List.take_of_length_le, gB, gcW, gcR, posIn, renA, renL, Chunk.ren, Chunk.refs, evOpD, touchD, stepC, isFresh, nFresh, freshOf, mkR, hole, evL, evH, opd, get, putD, ofVal, cellOf, loadE, behind, lenE, idxAddrE, idxE, addPtr, intE, strE, unE, convE, AV.int, AV.bool, AV.str, ivs, take, frameOf, firstRegion, refsA, refsL, one, cellsA, floatOk, apartT, List.map, if_true, if_false, E_P, E_glob0, reduceCtorEq, beq_self_eq_true, decide_true, decide_false, ↓reduceIte, Nat.reduceEqDiff, cond_true, cond_false, or_true, true_or, or_false, false_or, and_true, true_and, and_self, false_and, and_false, not_true, not_false_iff, Nat.reduceAdd, Nat.reduceSub, Nat.reduceMul, Nat.reduceLT, Nat.reduceLeDiff, Int.reduceToNat, Int.reduceLT, Int.reduceLE, Option.getD, Int.reduceMul, Int.reduceAdd, List.drop, List.take, Nat.reduceBEq, List.isEmpty, Int.reduceEq, Int.reduceNe, Int.reduceNeg, Int.reduceGT, Int.reduceGE, beq_true, beq_false, UInt8.reduceToNat, eqE, eq_self, foldE, maxE, minE, eq_T, eq_F, ndec, odec, adec, sdec, fillA, over, chop, List.replicate, leavesOk, leafOk, cellsEq, cellEq, E_byref, en21, bs29, bs49, ik29, rows64_len, rows32_len, h1', h1]; exact ⟨_, rfl⟩)
  have h1' : ¬ 3 ≤ (i.length : Int) := by omega
  cases h2 : i.any (outB 32 47) with
  | true => simp only [h2, decide_true, decide_false, Bool.true_and, Bool.and_true, Bool.false_and, Bool.and_false, Bool.not_true, Bool.not_false, Bool.or_true, Bool.true_or, Bool.or_false, Bool.false_or, List.isEmpty_nil, List.isEmpty_cons]; (rw [callT_eq Tryd.func21 rfl fok21 (by simp [Tryd.ntmps21])]; simp (disch := first | omega | (simp only [List.length_append, List.length_map, List.length_set, List.length_cons, List.length_nil, List.length_take, List.length_drop, rows64_len, rows32_len]; omega)) only [va0, va1, va2, va3, va4, va5, va6, va7, va8, va9, va10, va11, va12, va13, va14, va15, vb0, vb1, vb2, vb3, w_i8, w_u8, w_i16, w_u16, w_i32, w_u32, w_i64, w_u64, lt_T, lt_F, le_T, le_F, nlt_T, nlt_F, nle_T, nle_F, List.take_of_length_le, gB, gcW, gcR, posIn, renA, renL, Chunk.ren, Chunk.refs, evOpD, touchD, stepC, isFresh, nFresh, freshOf, mkR, hole, evL, evH, opd, get, putD, ofVal, cellOf, loadE, behind, lenE, idxAddrE, idxE, addPtr, intE, strE, unE, convE, AV.int, AV.bool, AV.str, ivs, take, frameOf, firstRegion, refsA, refsL, one, cellsA, floatOk, apartT, List.map, if_true, if_false, E_P, E_glob0, reduceCtorEq, beq_self_eq_true, decide_true, decide_false, ↓reduceIte, Nat.reduceEqDiff, cond_true, cond_false, or_true, true_or, or_false, false_or, and_true, true_and, and_self, false_and, and_false, not_true, not_false_iff, Nat.reduceAdd, Nat.reduceSub, Nat.reduceMul, Nat.reduceLT, Nat.reduceLeDiff, Int.reduceToNat, Int.reduceLT, Int.reduceLE, Option.getD, Int.reduceMul, Int.reduceAdd, List.drop, List.take, Nat.reduceBEq, List.isEmpty, Int.reduceEq, Int.reduceNe, Int.reduceNeg, Int.reduceGT, Int.reduceGE, beq_true, beq_false, UInt8.reduceToNat, eqE, eq_self, foldE, maxE, minE, eq_T, eq_F, ndec, odec, adec, sdec, fillA, over, chop, List.replicate, leavesOk, leafOk, cellsEq, cellEq, E_byref, en21, bs29, bs49, ik29, rows64_len, rows32_len, h1, h1', h2]; exact ⟨_, rfl⟩)
  | false =>
  simp only [h1, decide_false, Bool.not_false, Bool.true_and]
  by_cases h3 : c < 48
  · simp only [h3, decide_true, decide_false, Bool.true_and, Bool.and_true, Bool.false_and, Bool.and_false, Bool.not_true, Bool.not_false, Bool.or_true, Bool.true_or, Bool.or_false, Bool.false_or, List.isEmpty_nil, List.isEmpty_cons]; (rw [callT_eq Tryd.func21 rfl fok21 (by simp [Tryd.ntmps21])]; simp (disch := first | omega | (simp only [List.length_append, List.length_map, List.length_set, List.length_cons, List.length_nil, List.length_take, List.length_drop, rows64_len, rows32_len]; omega)) only [va0, va1, va2, va3, va4, va5, va6, va7, va8, va9, va10, va11, va12, va13, va14, va15, vb0, vb1, vb2, vb3, w_i8, w_u8, w_i16, w_u16, w_i32, w_u32, w_i64, w_u64, lt_T, lt_F, le_T, le_F, nlt_T, nlt_F, nle_T, nle_F, List.take_of_length_le, gB, gcW, gcR, posIn, renA, renL, Chunk.ren, Chunk.refs, evOpD, touchD, stepC, isFresh, nFresh, freshOf, mkR, hole, evL, evH, opd, get, putD, ofVal, cellOf, loadE, behind, lenE, idxAddrE, idxE, addPtr, intE, strE, unE, convE, AV.int, AV.bool, AV.str, ivs, take, frameOf, firstRegion, refsA, refsL, one, cellsA, floatOk, apartT, List.map, if_true, if_false, E_P, E_glob0, reduceCtorEq, beq_self_eq_true, decide_true, decide_false, ↓reduceIte, Nat.reduceEqDiff, cond_true, cond_false, or_true, true_or, or_false, false_or, and_true, true_and, and_self, false_and, and_false, not_true, not_false_iff, Nat.reduceAdd, Nat.reduceSub, Nat.reduceMul, Nat.reduceLT, Nat.reduceLeDiff, Int.reduceToNat, Int.reduceLT, Int.reduceLE, Option.getD, Int.reduceMul, Int.reduceAdd, List.drop, List.take, Nat.reduceBEq, List.isEmpty, Int.reduceEq, Int.reduceNe, Int.reduceNeg, Int.reduceGT, Int.reduceGE, beq_true, beq_false, UInt8.reduceToNat, eqE, eq_self, foldE, maxE, minE, eq_T, eq_F, ndec, odec, adec, sdec, fillA, over, chop, List.replicate, leavesOk, leafOk, cellsEq, cellEq, E_byref, en21, bs29, bs49, ik29, rows64_len, rows32_len, h1', h2, h3]; exact ⟨_, rfl⟩)
  by_cases h4 : 126 < c
  · simp only [h4, decide_true, decide_false, Bool.true_and, Bool.and_true, Bool.false_and, Bool.and_false, Bool.not_true, Bool.not_false, Bool.or_true, Bool.true_or, Bool.or_false, Bool.false_or, List.isEmpty_nil, List.isEmpty_cons]; (rw [callT_eq Tryd.func21 rfl fok21 (by simp [Tryd.ntmps21])]; simp (disch := first | omega | (simp only [List.length_append, List.length_map, List.length_set, List.length_cons, List.length_nil, List.length_take, List.length_drop, rows64_len, rows32_len]; omega)) only [va0, va1, va2, va3, va4, va5, va6, va7, va8, va9, va10, va11, va12, va13, va14, va15, vb0, vb1, vb2, vb3, w_i8, w_u8, w_i16, w_u16, w_i32, w_u32, w_i64, w_u64, lt_T, lt_F, le_T, le_F, nlt_T, nlt_F, nle_T, nle_F, List.take_of_length_le, gB, gcW, gcR, posIn, renA, renL, Chunk.ren, Chunk.refs, evOpD, touchD, stepC, isFresh, nFresh, freshOf, mkR, hole, evL, evH, opd, get, putD, ofVal, cellOf, loadE, behind, lenE, idxAddrE, idxE, addPtr, intE, strE, unE, convE, AV.int, AV.bool, AV.str, ivs, take, frameOf, firstRegion, refsA, refsL, one, cellsA, floatOk, apartT, List.map, if_true, if_false, E_P, E_glob0, reduceCtorEq, beq_self_eq_true, decide_true, decide_false, ↓reduceIte, Nat.reduceEqDiff, cond_true, cond_false, or_true, true_or, or_false, false_or, and_true, true_and, and_self, false_and, and_false, not_true, not_false_iff, Nat.reduceAdd, Nat.reduceSub, Nat.reduceMul, Nat.reduceLT, Nat.reduceLeDiff, Int.reduceToNat, Int.reduceLT, Int.reduceLE, Option.getD, Int.reduceMul, Int.reduceAdd, List.drop, List.take, Nat.reduceBEq, List.isEmpty, Int.reduceEq, Int.reduceNe, Int.reduceNeg, Int.reduceGT, Int.reduceGE, beq_true, beq_false, UInt8.reduceToNat, eqE, eq_self, foldE, maxE, minE, eq_T, eq_F, ndec, odec, adec, sdec, fillA, over, chop, List.replicate, leavesOk, leafOk, cellsEq, cellEq, E_byref, en21, bs29, bs49, ik29, rows64_len, rows32_len, h1', h2, h3, h4]; exact ⟨_, rfl⟩)
  simp only [h3, h4, decide_false, Bool.or_false, Bool.not_false, Bool.true_and]
  have key : (i = [] ∧ c = 91) ∨ (i = [] ∧ c = 93) ∨ (i = [] ∧ ¬ c = 91 ∧ ¬ c = 93) ∨ (¬ i = [] ∧ i.isEmpty = false) := by
    cases i with
    | cons i0 i => exact .inr (.inr (.inr ⟨by simp, rfl⟩))
    | nil => by_cases q : c = 91
             · exact .inl ⟨rfl, q⟩
             · by_cases q' : c = 93
               · exact .inr (.inl ⟨rfl, q'⟩)
               · exact .inr (.inr (.inl ⟨rfl, q, q'⟩))
  rcases key with ⟨rfl, rfl⟩ | ⟨rfl, rfl⟩ | ⟨rfl, h5, h6⟩ | ⟨h5, h6⟩
  · simp only [h2, decide_true, decide_false, Bool.true_and, Bool.and_true, Bool.false_and, Bool.and_false, Bool.not_true, Bool.not_false, Bool.or_true, Bool.true_or, Bool.or_false, Bool.false_or, List.isEmpty_nil, List.isEmpty_cons]; (rw [callT_eq Tryd.func21 rfl fok21 (by simp [Tryd.ntmps21])]; simp (disch := first | omega | (simp only [List.length_append, List.length_map, List.length_set, List.length_cons, List.length_nil, List.length_take, List.length_drop, rows64_len, rows32_len]; omega)) only [va0, va1, va2, va3, va4, va5, va6, va7, va8, va9, va10, va11, va12, va13, va14, va15, vb0, vb1, vb2, vb3, w_i8, w_u8, w_i16, w_u16, w_i32, w_u32, w_i64, w_u64, lt_T, lt_F, le_T, le_F, nlt_T, nlt_F, nle_T, nle_F, List.take_of_length_le, gB, gcW, gcR, posIn, renA, renL, Chunk.ren, Chunk.refs, evOpD, touchD, stepC, isFresh, nFresh, freshOf, mkR, hole, evL, evH, opd, get, putD, ofVal, cellOf, loadE, behind, lenE, idxAddrE, idxE, addPtr, intE, strE, unE, convE, AV.int, AV.bool, AV.str, ivs, take, frameOf, firstRegion, refsA, refsL, one, cellsA, floatOk, apartT, List.map, if_true, if_false, E_P, E_glob0, reduceCtorEq, beq_self_eq_true, decide_true, decide_false, ↓reduceIte, Nat.reduceEqDiff, cond_true, cond_false, or_true, true_or, or_false, false_or, and_true, true_and, and_self, false_and, and_false, not_true, not_false_iff, Nat.reduceAdd, Nat.reduceSub, Nat.reduceMul, Nat.reduceLT, Nat.reduceLeDiff, Int.reduceToNat, Int.reduceLT, Int.reduceLE, Option.getD, Int.reduceMul, Int.reduceAdd, List.drop, List.take, Nat.reduceBEq, List.isEmpty, Int.reduceEq, Int.reduceNe, Int.reduceNeg, Int.reduceGT, Int.reduceGE, beq_true, beq_false, UInt8.reduceToNat, eqE, eq_self, foldE, maxE, minE, eq_T, eq_F, ndec, odec, adec, sdec, fillA, over, chop, List.replicate, leavesOk, leafOk, cellsEq, cellEq, E_byref, en21, bs29, bs49, ik29, rows64_len, rows32_len, h2, List.length_nil, List.any_nil, h2]; exact ⟨_, rfl⟩)
  · simp only [h2, decide_true, decide_false, Bool.true_and, Bool.and_true, Bool.false_and, Bool.and_false, Bool.not_true, Bool.not_false, Bool.or_true, Bool.true_or, Bool.or_false, Bool.false_or, List.isEmpty_nil, List.isEmpty_cons]; (rw [callT_eq Tryd.func21 rfl fok21 (by simp [Tryd.ntmps21])]; simp (disch := first | omega | (simp only [List.length_append, List.length_map, List.length_set, List.length_cons, List.length_nil, List.length_take, List.length_drop, rows64_len, rows32_len]; omega)) only [va0, va1, va2, va3, va4, va5, va6, va7, va8, va9, va10, va11, va12, va13, va14, va15, vb0, vb1, vb2, vb3, w_i8, w_u8, w_i16, w_u16, w_i32, w_u32, w_i64, w_u64, lt_T, lt_F, le_T, le_F, nlt_T, nlt_F, nle_T, nle_F, List.take_of_length_le, gB, gcW, gcR, posIn, renA, renL, Chunk.ren, Chunk.refs, evOpD, touchD, stepC, isFresh, nFresh, freshOf, mkR, hole, evL, evH, opd, get, putD, ofVal, cellOf, loadE, behind, lenE, idxAddrE, idxE, addPtr, intE, strE, unE, convE, AV.int, AV.bool, AV.str, ivs, take, frameOf, firstRegion, refsA, refsL, one, cellsA, floatOk, apartT, List.map, if_true, if_false, E_P, E_glob0, reduceCtorEq, beq_self_eq_true, decide_true, decide_false, ↓reduceIte, Nat.reduceEqDiff, cond_true, cond_false, or_true, true_or, or_false, false_or, and_true, true_and, and_self, false_and, and_false, not_true, not_false_iff, Nat.reduceAdd, Nat.reduceSub, Nat.reduceMul, Nat.reduceLT, Nat.reduceLeDiff, Int.reduceToNat, Int.reduceLT, Int.reduceLE, Option.getD, Int.reduceMul, Int.reduceAdd, List.drop, List.take, Nat.reduceBEq, List.isEmpty, Int.reduceEq, Int.reduceNe, Int.reduceNeg, Int.reduceGT, Int.reduceGE, beq_true, beq_false, UInt8.reduceToNat, eqE, eq_self, foldE, maxE, minE, eq_T, eq_F, ndec, odec, adec, sdec, fillA, over, chop, List.replicate, leavesOk, leafOk, cellsEq, cellEq, E_byref, en21, bs29, bs49, ik29, rows64_len, rows32_len, h2, List.length_nil, List.any_nil, h2]; exact ⟨_, rfl⟩)
  · simp only [h5, h6, decide_false, Bool.or_false, Bool.and_false, Bool.not_false, Bool.true_and, List.isEmpty_nil]
    by_cases qr : r = 0
    rotate_left
    · simp only [qr, decide_true, decide_false, Bool.true_and, Bool.and_true, Bool.false_and, Bool.and_false, Bool.not_true, Bool.not_false, Bool.or_true, Bool.true_or, Bool.or_false, Bool.false_or, List.isEmpty_nil, List.isEmpty_cons]; (rw [callT_eq Tryd.func21 rfl fok21 (by simp [Tryd.ntmps21])]; simp (disch := first | omega | (simp only [List.length_append, List.length_map, List.length_set, List.length_cons, List.length_nil, List.length_take, List.length_drop, rows64_len, rows32_len]; omega)) only [va0, va1, va2, va3, va4, va5, va6, va7, va8, va9, va10, va11, va12, va13, va14, va15, vb0, vb1, vb2, vb3, w_i8, w_u8, w_i16, w_u16, w_i32, w_u32, w_i64, w_u64, lt_T, lt_F, le_T, le_F, nlt_T, nlt_F, nle_T, nle_F, List.take_of_length_le, gB, gcW, gcR, posIn, renA, renL, Chunk.ren, Chunk.refs, evOpD, touchD, stepC, isFresh, nFresh, freshOf, mkR, hole, evL, evH, opd, get, putD, ofVal, cellOf, loadE, behind, lenE, idxAddrE, idxE, addPtr, intE, strE, unE, convE, AV.int, AV.bool, AV.str, ivs, take, frameOf, firstRegion, refsA, refsL, one, cellsA, floatOk, apartT, List.map, if_true, if_false, E_P, E_glob0, reduceCtorEq, beq_self_eq_true, decide_true, decide_false, ↓reduceIte, Nat.reduceEqDiff, cond_true, cond_false, or_true, true_or, or_false, false_or, and_true, true_and, and_self, false_and, and_false, not_true, not_false_iff, Nat.reduceAdd, Nat.reduceSub, Nat.reduceMul, Nat.reduceLT, Nat.reduceLeDiff, Int.reduceToNat, Int.reduceLT, Int.reduceLE, Option.getD, Int.reduceMul, Int.reduceAdd, List.drop, List.take, Nat.reduceBEq, List.isEmpty, Int.reduceEq, Int.reduceNe, Int.reduceNeg, Int.reduceGT, Int.reduceGE, beq_true, beq_false, UInt8.reduceToNat, eqE, eq_self, foldE, maxE, minE, eq_T, eq_F, ndec, odec, adec, sdec, fillA, over, chop, List.replicate, leavesOk, leafOk, cellsEq, cellEq, E_byref, en21, bs29, bs49, ik29, rows64_len, rows32_len, h2, h3, h4, h5, h6, qr]; exact ⟨_, rfl⟩)
    subst qr
    by_cases qv : v = 0
    rotate_left
    · simp only [qv, decide_true, decide_false, Bool.true_and, Bool.and_true, Bool.false_and, Bool.and_false, Bool.not_true, Bool.not_false, Bool.or_true, Bool.true_or, Bool.or_false, Bool.false_or, List.isEmpty_nil, List.isEmpty_cons]; (rw [callT_eq Tryd.func21 rfl fok21 (by simp [Tryd.ntmps21])]; simp (disch := first | omega | (simp only [List.length_append, List.length_map, List.length_set, List.length_cons, List.length_nil, List.length_take, List.length_drop, rows64_len, rows32_len]; omega)) only [va0, va1, va2, va3, va4, va5, va6, va7, va8, va9, va10, va11, va12, va13, va14, va15, vb0, vb1, vb2, vb3, w_i8, w_u8, w_i16, w_u16, w_i32, w_u32, w_i64, w_u64, lt_T, lt_F, le_T, le_F, nlt_T, nlt_F, nle_T, nle_F, List.take_of_length_le, gB, gcW, gcR, posIn, renA, renL, Chunk.ren, Chunk.refs, evOpD, touchD, stepC, isFresh, nFresh, freshOf, mkR, hole, evL, evH, opd, get, putD, ofVal, cellOf, loadE, behind, lenE, idxAddrE, idxE, addPtr, intE, strE, unE, convE, AV.int, AV.bool, AV.str, ivs, take, frameOf, firstRegion, refsA, refsL, one, cellsA, floatOk, apartT, List.map, if_true, if_false, E_P, E_glob0, reduceCtorEq, beq_self_eq_true, decide_true, decide_false, ↓reduceIte, Nat.reduceEqDiff, cond_true, cond_false, or_true, true_or, or_false, false_or, and_true, true_and, and_self, false_and, and_false, not_true, not_false_iff, Nat.reduceAdd, Nat.reduceSub, Nat.reduceMul, Nat.reduceLT, Nat.reduceLeDiff, Int.reduceToNat, Int.reduceLT, Int.reduceLE, Option.getD, Int.reduceMul, Int.reduceAdd, List.drop, List.take, Nat.reduceBEq, List.isEmpty, Int.reduceEq, Int.reduceNe, Int.reduceNeg, Int.reduceGT, Int.reduceGE, beq_true, beq_false, UInt8.reduceToNat, eqE, eq_self, foldE, maxE, minE, eq_T, eq_F, ndec, odec, adec, sdec, fillA, over, chop, List.replicate, leavesOk, leafOk, cellsEq, cellEq, E_byref, en21, bs29, bs49, ik29, rows64_len, rows32_len, h2, h3, h4, h5, h6, qv]; exact ⟨_, rfl⟩)
    subst qv
    cases t with
    | cons t0 t => simp only [List.length_cons, decide_true, decide_false, Bool.true_and, Bool.and_true, Bool.false_and, Bool.and_false, Bool.not_true, Bool.not_false, Bool.or_true, Bool.true_or, Bool.or_false, Bool.false_or, List.isEmpty_nil, List.isEmpty_cons]; (rw [callT_eq Tryd.func21 rfl fok21 (by simp [Tryd.ntmps21])]; simp (disch := first | omega | (simp only [List.length_append, List.length_map, List.length_set, List.length_cons, List.length_nil, List.length_take, List.length_drop, rows64_len, rows32_len]; omega)) only [va0, va1, va2, va3, va4, va5, va6, va7, va8, va9, va10, va11, va12, va13, va14, va15, vb0, vb1, vb2, vb3, w_i8, w_u8, w_i16, w_u16, w_i32, w_u32, w_i64, w_u64, lt_T, lt_F, le_T, le_F, nlt_T, nlt_F, nle_T, nle_F, List.take_of_length_le, gB, gcW, gcR, posIn, renA, renL, Chunk.ren, Chunk.refs, evOpD, touchD, stepC, isFresh, nFresh, freshOf, mkR, hole, evL, evH, opd, get, putD, ofVal, cellOf, loadE, behind, lenE, idxAddrE, idxE, addPtr, intE, strE, unE, convE, AV.int, AV.bool, AV.str, ivs, take, frameOf, firstRegion, refsA, refsL, one, cellsA, floatOk, apartT, List.map, if_true, if_false, E_P, E_glob0, reduceCtorEq, beq_self_eq_true, decide_true, decide_false, ↓reduceIte, Nat.reduceEqDiff, cond_true, cond_false, or_true, true_or, or_false, false_or, and_true, true_and, and_self, false_and, and_false, not_true, not_false_iff, Nat.reduceAdd, Nat.reduceSub, Nat.reduceMul, Nat.reduceLT, Nat.reduceLeDiff, Int.reduceToNat, Int.reduceLT, Int.reduceLE, Option.getD, Int.reduceMul, Int.reduceAdd, List.drop, List.take, Nat.reduceBEq, List.isEmpty, Int.reduceEq, Int.reduceNe, Int.reduceNeg, Int.reduceGT, Int.reduceGE, beq_true, beq_false, UInt8.reduceToNat, eqE, eq_self, foldE, maxE, minE, eq_T, eq_F, ndec, odec, adec, sdec, fillA, over, chop, List.replicate, leavesOk, leafOk, cellsEq, cellEq, E_byref, en21, bs29, bs49, ik29, rows64_len, rows32_len, h2, h3, h4, h5, h6, List.length_cons]; exact ⟨_, rfl⟩)
    | nil =>
      cases ps with
      | cons p0 ps => simp only [List.length_cons, decide_true, decide_false, Bool.true_and, Bool.and_true, Bool.false_and, Bool.and_false, Bool.not_true, Bool.not_false, Bool.or_true, Bool.true_or, Bool.or_false, Bool.false_or, List.isEmpty_nil, List.isEmpty_cons]; (rw [callT_eq Tryd.func21 rfl fok21 (by simp [Tryd.ntmps21])]; simp (disch := first | omega | (simp only [List.length_append, List.length_map, List.length_set, List.length_cons, List.length_nil, List.length_take, List.length_drop, rows64_len, rows32_len]; omega)) only [va0, va1, va2, va3, va4, va5, va6, va7, va8, va9, va10, va11, va12, va13, va14, va15, vb0, vb1, vb2, vb3, w_i8, w_u8, w_i16, w_u16, w_i32, w_u32, w_i64, w_u64, lt_T, lt_F, le_T, le_F, nlt_T, nlt_F, nle_T, nle_F, List.take_of_length_le, gB, gcW, gcR, posIn, renA, renL, Chunk.ren, Chunk.refs, evOpD, touchD, stepC, isFresh, nFresh, freshOf, mkR, hole, evL, evH, opd, get, putD, ofVal, cellOf, loadE, behind, lenE, idxAddrE, idxE, addPtr, intE, strE, unE, convE, AV.int, AV.bool, AV.str, ivs, take, frameOf, firstRegion, refsA, refsL, one, cellsA, floatOk, apartT, List.map, if_true, if_false, E_P, E_glob0, reduceCtorEq, beq_self_eq_true, decide_true, decide_false, ↓reduceIte, Nat.reduceEqDiff, cond_true, cond_false, or_true, true_or, or_false, false_or, and_true, true_and, and_self, false_and, and_false, not_true, not_false_iff, Nat.reduceAdd, Nat.reduceSub, Nat.reduceMul, Nat.reduceLT, Nat.reduceLeDiff, Int.reduceToNat, Int.reduceLT, Int.reduceLE, Option.getD, Int.reduceMul, Int.reduceAdd, List.drop, List.take, Nat.reduceBEq, List.isEmpty, Int.reduceEq, Int.reduceNe, Int.reduceNeg, Int.reduceGT, Int.reduceGE, beq_true, beq_false, UInt8.reduceToNat, eqE, eq_self, foldE, maxE, minE, eq_T, eq_F, ndec, odec, adec, sdec, fillA, over, chop, List.replicate, leavesOk, leafOk, cellsEq, cellEq, E_byref, en21, bs29, bs49, ik29, rows64_len, rows32_len, h2, h3, h4, h5, h6, rows64, List.length_cons]; exact ⟨_, rfl⟩)
      | nil => simp only [List.length_nil, decide_true, decide_false, Bool.true_and, Bool.and_true, Bool.false_and, Bool.and_false, Bool.not_true, Bool.not_false, Bool.or_true, Bool.true_or, Bool.or_false, Bool.false_or, List.isEmpty_nil, List.isEmpty_cons]; (rw [callT_eq Tryd.func21 rfl fok21 (by simp [Tryd.ntmps21])]; simp (disch := first | omega | (simp only [List.length_append, List.length_map, List.length_set, List.length_cons, List.length_nil, List.length_take, List.length_drop, rows64_len, rows32_len]; omega)) only [va0, va1, va2, va3, va4, va5, va6, va7, va8, va9, va10, va11, va12, va13, va14, va15, vb0, vb1, vb2, vb3, w_i8, w_u8, w_i16, w_u16, w_i32, w_u32, w_i64, w_u64, lt_T, lt_F, le_T, le_F, nlt_T, nlt_F, nle_T, nle_F, List.take_of_length_le, gB, gcW, gcR, posIn, renA, renL, Chunk.ren, Chunk.refs, evOpD, touchD, stepC, isFresh, nFresh, freshOf, mkR, hole, evL, evH, opd, get, putD, ofVal, cellOf, loadE, behind, lenE, idxAddrE, idxE, addPtr, intE, strE, unE, convE, AV.int, AV.bool, AV.str, ivs, take, frameOf, firstRegion, refsA, refsL, one, cellsA, floatOk, apartT, List.map, if_true, if_false, E_P, E_glob0, reduceCtorEq, beq_self_eq_true, decide_true, decide_false, ↓reduceIte, Nat.reduceEqDiff, cond_true, cond_false, or_true, true_or, or_false, false_or, and_true, true_and, and_self, false_and, and_false, not_true, not_false_iff, Nat.reduceAdd, Nat.reduceSub, Nat.reduceMul, Nat.reduceLT, Nat.reduceLeDiff, Int.reduceToNat, Int.reduceLT, Int.reduceLE, Option.getD, Int.reduceMul, Int.reduceAdd, List.drop, List.take, Nat.reduceBEq, List.isEmpty, Int.reduceEq, Int.reduceNe, Int.reduceNeg, Int.reduceGT, Int.reduceGE, beq_true, beq_false, UInt8.reduceToNat, eqE, eq_self, foldE, maxE, minE, eq_T, eq_F, ndec, odec, adec, sdec, fillA, over, chop, List.replicate, leavesOk, leafOk, cellsEq, cellEq, E_byref, en21, bs29, bs49, ik29, rows64_len, rows32_len, h2, h3, h4, h5, h6, rows64, List.length_nil]; exact ⟨_, rfl⟩)
  · simp only [decide_false, Bool.false_and, Bool.not_false, Bool.true_and, h6]
    by_cases qr : r = 0
    rotate_left
    · simp only [qr, decide_true, decide_false, Bool.true_and, Bool.and_true, Bool.false_and, Bool.and_false, Bool.not_true, Bool.not_false, Bool.or_true, Bool.true_or, Bool.or_false, Bool.false_or, List.isEmpty_nil, List.isEmpty_cons]; (rw [callT_eq Tryd.func21 rfl fok21 (by simp [Tryd.ntmps21])]; simp (disch := first | omega | (simp only [List.length_append, List.length_map, List.length_set, List.length_cons, List.length_nil, List.length_take, List.length_drop, rows64_len, rows32_len]; omega)) only [va0, va1, va2, va3, va4, va5, va6, va7, va8, va9, va10, va11, va12, va13, va14, va15, vb0, vb1, vb2, vb3, w_i8, w_u8, w_i16, w_u16, w_i32, w_u32, w_i64, w_u64, lt_T, lt_F, le_T, le_F, nlt_T, nlt_F, nle_T, nle_F, List.take_of_length_le, gB, gcW, gcR, posIn, renA, renL, Chunk.ren, Chunk.refs, evOpD, touchD, stepC, isFresh, nFresh, freshOf, mkR, hole, evL, evH, opd, get, putD, ofVal, cellOf, loadE, behind, lenE, idxAddrE, idxE, addPtr, intE, strE, unE, convE, AV.int, AV.bool, AV.str, ivs, take, frameOf, firstRegion, refsA, refsL, one, cellsA, floatOk, apartT, List.map, if_true, if_false, E_P, E_glob0, reduceCtorEq, beq_self_eq_true, decide_true, decide_false, ↓reduceIte, Nat.reduceEqDiff, cond_true, cond_false, or_true, true_or, or_false, false_or, and_true, true_and, and_self, false_and, and_false, not_true, not_false_iff, Nat.reduceAdd, Nat.reduceSub, Nat.reduceMul, Nat.reduceLT, Nat.reduceLeDiff, Int.reduceToNat, Int.reduceLT, Int.reduceLE, Option.getD, Int.reduceMul, Int.reduceAdd, List.drop, List.take, Nat.reduceBEq, List.isEmpty, Int.reduceEq, Int.reduceNe, Int.reduceNeg, Int.reduceGT, Int.reduceGE, beq_true, beq_false, UInt8.reduceToNat, eqE, eq_self, foldE, maxE, minE, eq_T, eq_F, ndec, odec, adec, sdec, fillA, over, chop, List.replicate, leavesOk, leafOk, cellsEq, cellEq, E_byref, en21, bs29, bs49, ik29, rows64_len, rows32_len, h1', h2, h3, h4, h5, qr]; exact ⟨_, rfl⟩)
    subst qr
    by_cases qv : v = 0
    rotate_left
    · simp only [qv, decide_true, decide_false, Bool.true_and, Bool.and_true, Bool.false_and, Bool.and_false, Bool.not_true, Bool.not_false, Bool.or_true, Bool.true_or, Bool.or_false, Bool.false_or, List.isEmpty_nil, List.isEmpty_cons]; (rw [callT_eq Tryd.func21 rfl fok21 (by simp [Tryd.ntmps21])]; simp (disch := first | omega | (simp only [List.length_append, List.length_map, List.length_set, List.length_cons, List.length_nil, List.length_take, List.length_drop, rows64_len, rows32_len]; omega)) only [va0, va1, va2, va3, va4, va5, va6, va7, va8, va9, va10, va11, va12, va13, va14, va15, vb0, vb1, vb2, vb3, w_i8, w_u8, w_i16, w_u16, w_i32, w_u32, w_i64, w_u64, lt_T, lt_F, le_T, le_F, nlt_T, nlt_F, nle_T, nle_F, List.take_of_length_le, gB, gcW, gcR, posIn, renA, renL, Chunk.ren, Chunk.refs, evOpD, touchD, stepC, isFresh, nFresh, freshOf, mkR, hole, evL, evH, opd, get, putD, ofVal, cellOf, loadE, behind, lenE, idxAddrE, idxE, addPtr, intE, strE, unE, convE, AV.int, AV.bool, AV.str, ivs, take, frameOf, firstRegion, refsA, refsL, one, cellsA, floatOk, apartT, List.map, if_true, if_false, E_P, E_glob0, reduceCtorEq, beq_self_eq_true, decide_true, decide_false, ↓reduceIte, Nat.reduceEqDiff, cond_true, cond_false, or_true, true_or, or_false, false_or, and_true, true_and, and_self, false_and, and_false, not_true, not_false_iff, Nat.reduceAdd, Nat.reduceSub, Nat.reduceMul, Nat.reduceLT, Nat.reduceLeDiff, Int.reduceToNat, Int.reduceLT, Int.reduceLE, Option.getD, Int.reduceMul, Int.reduceAdd, List.drop, List.take, Nat.reduceBEq, List.isEmpty, Int.reduceEq, Int.reduceNe, Int.reduceNeg, Int.reduceGT, Int.reduceGE, beq_true, beq_false, UInt8.reduceToNat, eqE, eq_self, foldE, maxE, minE, eq_T, eq_F, ndec, odec, adec, sdec, fillA, over, chop, List.replicate, leavesOk, leafOk, cellsEq, cellEq, E_byref, en21, bs29, bs49, ik29, rows64_len, rows32_len, h1', h2, h3, h4, h5, qv]; exact ⟨_, rfl⟩)
    subst qv
    cases t with
    | cons t0 t => simp only [List.length_cons, decide_true, decide_false, Bool.true_and, Bool.and_true, Bool.false_and, Bool.and_false, Bool.not_true, Bool.not_false, Bool.or_true, Bool.true_or, Bool.or_false, Bool.false_or, List.isEmpty_nil, List.isEmpty_cons]; (rw [callT_eq Tryd.func21 rfl fok21 (by simp [Tryd.ntmps21])]; simp (disch := first | omega | (simp only [List.length_append, List.length_map, List.length_set, List.length_cons, List.length_nil, List.length_take, List.length_drop, rows64_len, rows32_len]; omega)) only [va0, va1, va2, va3, va4, va5, va6, va7, va8, va9, va10, va11, va12, va13, va14, va15, vb0, vb1, vb2, vb3, w_i8, w_u8, w_i16, w_u16, w_i32, w_u32, w_i64, w_u64, lt_T, lt_F, le_T, le_F, nlt_T, nlt_F, nle_T, nle_F, List.take_of_length_le, gB, gcW, gcR, posIn, renA, renL, Chunk.ren, Chunk.refs, evOpD, touchD, stepC, isFresh, nFresh, freshOf, mkR, hole, evL, evH, opd, get, putD, ofVal, cellOf, loadE, behind, lenE, idxAddrE, idxE, addPtr, intE, strE, unE, convE, AV.int, AV.bool, AV.str, ivs, take, frameOf, firstRegion, refsA, refsL, one, cellsA, floatOk, apartT, List.map, if_true, if_false, E_P, E_glob0, reduceCtorEq, beq_self_eq_true, decide_true, decide_false, ↓reduceIte, Nat.reduceEqDiff, cond_true, cond_false, or_true, true_or, or_false, false_or, and_true, true_and, and_self, false_and, and_false, not_true, not_false_iff, Nat.reduceAdd, Nat.reduceSub, Nat.reduceMul, Nat.reduceLT, Nat.reduceLeDiff, Int.reduceToNat, Int.reduceLT, Int.reduceLE, Option.getD, Int.reduceMul, Int.reduceAdd, List.drop, List.take, Nat.reduceBEq, List.isEmpty, Int.reduceEq, Int.reduceNe, Int.reduceNeg, Int.reduceGT, Int.reduceGE, beq_true, beq_false, UInt8.reduceToNat, eqE, eq_self, foldE, maxE, minE, eq_T, eq_F, ndec, odec, adec, sdec, fillA, over, chop, List.replicate, leavesOk, leafOk, cellsEq, cellEq, E_byref, en21, bs29, bs49, ik29, rows64_len, rows32_len, h1', h2, h3, h4, h5, List.length_cons]; exact ⟨_, rfl⟩)
    | nil =>
      cases ps with
      | cons p0 ps => simp only [List.length_cons, decide_true, decide_false, Bool.true_and, Bool.and_true, Bool.false_and, Bool.and_false, Bool.not_true, Bool.not_false, Bool.or_true, Bool.true_or, Bool.or_false, Bool.false_or, List.isEmpty_nil, List.isEmpty_cons]; (rw [callT_eq Tryd.func21 rfl fok21 (by simp [Tryd.ntmps21])]; simp (disch := first | omega | (simp only [List.length_append, List.length_map, List.length_set, List.length_cons, List.length_nil, List.length_take, List.length_drop, rows64_len, rows32_len]; omega)) only [va0, va1, va2, va3, va4, va5, va6, va7, va8, va9, va10, va11, va12, va13, va14, va15, vb0, vb1, vb2, vb3, w_i8, w_u8, w_i16, w_u16, w_i32, w_u32, w_i64, w_u64, lt_T, lt_F, le_T, le_F, nlt_T, nlt_F, nle_T, nle_F, List.take_of_length_le, gB, gcW, gcR, posIn, renA, renL, Chunk.ren, Chunk.refs, evOpD, touchD, stepC, isFresh, nFresh, freshOf, mkR, hole, evL, evH, opd, get, putD, ofVal, cellOf, loadE, behind, lenE, idxAddrE, idxE, addPtr, intE, strE, unE, convE, AV.int, AV.bool, AV.str, ivs, take, frameOf, firstRegion, refsA, refsL, one, cellsA, floatOk, apartT, List.map, if_true, if_false, E_P, E_glob0, reduceCtorEq, beq_self_eq_true, decide_true, decide_false, ↓reduceIte, Nat.reduceEqDiff, cond_true, cond_false, or_true, true_or, or_false, false_or, and_true, true_and, and_self, false_and, and_false, not_true, not_false_iff, Nat.reduceAdd, Nat.reduceSub, Nat.reduceMul, Nat.reduceLT, Nat.reduceLeDiff, Int.reduceToNat, Int.reduceLT, Int.reduceLE, Option.getD, Int.reduceMul, Int.reduceAdd, List.drop, List.take, Nat.reduceBEq, List.isEmpty, Int.reduceEq, Int.reduceNe, Int.reduceNeg, Int.reduceGT, Int.reduceGE, beq_true, beq_false, UInt8.reduceToNat, eqE, eq_self, foldE, maxE, minE, eq_T, eq_F, ndec, odec, adec, sdec, fillA, over, chop, List.replicate, leavesOk, leafOk, cellsEq, cellEq, E_byref, en21, bs29, bs49, ik29, rows64_len, rows32_len, h1', h2, h3, h4, h5, rows64, List.length_cons]; exact ⟨_, rfl⟩)
      | nil => simp only [List.length_nil, decide_true, decide_false, Bool.true_and, Bool.and_true, Bool.false_and, Bool.and_false, Bool.not_true, Bool.not_false, Bool.or_true, Bool.true_or, Bool.or_false, Bool.false_or, List.isEmpty_nil, List.isEmpty_cons]; (rw [callT_eq Tryd.func21 rfl fok21 (by simp [Tryd.ntmps21])]; simp (disch := first | omega | (simp only [List.length_append, List.length_map, List.length_set, List.length_cons, List.length_nil, List.length_take, List.length_drop, rows64_len, rows32_len]; omega)) only [va0, va1, va2, va3, va4, va5, va6, va7, va8, va9, va10, va11, va12, va13, va14, va15, vb0, vb1, vb2, vb3, w_i8, w_u8, w_i16, w_u16, w_i32, w_u32, w_i64, w_u64, lt_T, lt_F, le_T, le_F, nlt_T, nlt_F, nle_T, nle_F, List.take_of_length_le, gB, gcW, gcR, posIn, renA, renL, Chunk.ren, Chunk.refs, evOpD, touchD, stepC, isFresh, nFresh, freshOf, mkR, hole, evL, evH, opd, get, putD, ofVal, cellOf, loadE, behind, lenE, idxAddrE, idxE, addPtr, intE, strE, unE, convE, AV.int, AV.bool, AV.str, ivs, take, frameOf, firstRegion, refsA, refsL, one, cellsA, floatOk, apartT, List.map, if_true, if_false, E_P, E_glob0, reduceCtorEq, beq_self_eq_true, decide_true, decide_false, ↓reduceIte, Nat.reduceEqDiff, cond_true, cond_false, or_true, true_or, or_false, false_or, and_true, true_and, and_self, false_and, and_false, not_true, not_false_iff, Nat.reduceAdd, Nat.reduceSub, Nat.reduceMul, Nat.reduceLT, Nat.reduceLeDiff, Int.reduceToNat, Int.reduceLT, Int.reduceLE, Option.getD, Int.reduceMul, Int.reduceAdd, List.drop, List.take, Nat.reduceBEq, List.isEmpty, Int.reduceEq, Int.reduceNe, Int.reduceNeg, Int.reduceGT, Int.reduceGE, beq_true, beq_false, UInt8.reduceToNat, eqE, eq_self, foldE, maxE, minE, eq_T, eq_F, ndec, odec, adec, sdec, fillA, over, chop, List.replicate, leavesOk, leafOk, cellsEq, cellEq, E_byref, en21, bs29, bs49, ik29, rows64_len, rows32_len, h1', h2, h3, h4, h5, rows64, List.length_nil]; exact ⟨_, rfl⟩)
end Go.VI

namespace Go.VI
open Go.Proofs
set_option maxRecDepth 100000
set_option linter.unusedSimpArgs false
set_option linter.unusedVariables false
set_option maxHeartbeats 4000000
theorem c21_4 (r c v : Int) (i : List UInt8) (ps : List Int) (t : List UInt8) (hF : ∀ H, isoK E (callT E) 23 [.i (.v (.int .u8 v)), .i (.sl 1 (rows64 ps) false), .i (.str i)] H = some (fmtA (fmtS v ps i), H)) :
    ∃ L, callT E 21 [evA ⟨4, r, c, v, i, ps, t⟩] [] = some (.i (.v (.bool (rightQ ⟨4, r, c, v, i, ps, t⟩))), L) := by
  rw [evA_eq]
  unfold rightQ
  simp only []
  unfold fmtA at hF
  generalize fmtS v ps i = q at *
  by_cases h1 : q.2 = 0
  rotate_left
  · simp only [h1, decide_true, decide_false, Bool.true_and, Bool.and_true, Bool.false_and, Bool.and_false, Bool.not_true, Bool.not_false, Bool.or_true, Bool.true_or, Bool.or_false, Bool.false_or, List.isEmpty_nil, List.isEmpty_cons]; (rw [callT_eq Tryd.func21 rfl fok21 (by simp [Tryd.ntmps21])]; simp (disch := first | omega | (simp only [List.length_append, List.length_map, List.length_set, List.length_cons, List.length_nil, List.length_take, List.length_drop, rows64_len, rows32_len]; omega)) only [va0, va1, va2, va3, va4, va5, va6, va7, va8, va9, va10, va11, va12, va13, va14, va15, vb0, vb1, vb2, vb3, w_i8, w_u8, w_i16, w_u16, w_i32, w_u32, w_i64, w_u64, lt_T, lt_F, le_T, le_F, nlt_T, nlt_F, nle_T, nle_F, List.take_of_length_le, gB, gcW, gcR, posIn, renA, renL, Chunk.ren, Chunk.refs, evOpD, touchD, stepC, isFresh, nFresh, freshOf, mkR, hole, evL, evH, opd, get, putD, ofVal, cellOf, loadE, behind, lenE, idxAddrE, idxE, addPtr, intE, strE, unE, convE, AV.int, AV.bool, AV.str, ivs, take, frameOf, firstRegion, refsA, refsL, one, cellsA, floatOk, apartT, List.map, if_true, if_false, E_P, E_glob0, reduceCtorEq, beq_self_eq_true, decide_true, decide_false, ↓reduceIte, Nat.reduceEqDiff, cond_true, cond_false, or_true, true_or, or_false, false_or, and_true, true_and, and_self, false_and, and_false, not_true, not_false_iff, Nat.reduceAdd, Nat.reduceSub, Nat.reduceMul, Nat.reduceLT, Nat.reduceLeDiff, Int.reduceToNat, Int.reduceLT, Int.reduceLE, Option.getD, Int.reduceMul, Int.reduceAdd, List.drop, List.take, Nat.reduceBEq, List.isEmpty, Int.reduceEq, Int.reduceNe, Int.reduceNeg, Int.reduceGT, Int.reduceGE, beq_true, beq_false, UInt8.reduceToNat, eqE, eq_self, foldE, maxE, minE, eq_T, eq_F, ndec, odec, adec, sdec, fillA, over, chop, List.replicate, leavesOk, leafOk, cellsEq, cellEq, E_byref, en21, bs29, bs49, ik29, rows64_len, rows32_len, hF, h1]; exact ⟨_, rfl⟩)
  simp only [h1, decide_true, Bool.true_and]
  by_cases h2 : c < 64
  · simp only [h2, decide_true, decide_false, Bool.true_and, Bool.and_true, Bool.false_and, Bool.and_false, Bool.not_true, Bool.not_false, Bool.or_true, Bool.true_or, Bool.or_false, Bool.false_or, List.isEmpty_nil, List.isEmpty_cons]; (rw [callT_eq Tryd.func21 rfl fok21 (by simp [Tryd.ntmps21])]; simp (disch := first | omega | (simp only [List.length_append, List.length_map, List.length_set, List.length_cons, List.length_nil, List.length_take, List.length_drop, rows64_len, rows32_len]; omega)) only [va0, va1, va2, va3, va4, va5, va6, va7, va8, va9, va10, va11, va12, va13, va14, va15, vb0, vb1, vb2, vb3, w_i8, w_u8, w_i16, w_u16, w_i32, w_u32, w_i64, w_u64, lt_T, lt_F, le_T, le_F, nlt_T, nlt_F, nle_T, nle_F, List.take_of_length_le, gB, gcW, gcR, posIn, renA, renL, Chunk.ren, Chunk.refs, evOpD, touchD, stepC, isFresh, nFresh, freshOf, mkR, hole, evL, evH, opd, get, putD, ofVal, cellOf, loadE, behind, lenE, idxAddrE, idxE, addPtr, intE, strE, unE, convE, AV.int, AV.bool, AV.str, ivs, take, frameOf, firstRegion, refsA, refsL, one, cellsA, floatOk, apartT, List.map, if_true, if_false, E_P, E_glob0, reduceCtorEq, beq_self_eq_true, decide_true, decide_false, ↓reduceIte, Nat.reduceEqDiff, cond_true, cond_false, or_true, true_or, or_false, false_or, and_true, true_and, and_self, false_and, and_false, not_true, not_false_iff, Nat.reduceAdd, Nat.reduceSub, Nat.reduceMul, Nat.reduceLT, Nat.reduceLeDiff, Int.reduceToNat, Int.reduceLT, Int.reduceLE, Option.getD, Int.reduceMul, Int.reduceAdd, List.drop, List.take, Nat.reduceBEq, List.isEmpty, Int.reduceEq, Int.reduceNe, Int.reduceNeg, Int.reduceGT, Int.reduceGE, beq_true, beq_false, UInt8.reduceToNat, eqE, eq_self, foldE, maxE, minE, eq_T, eq_F, ndec, odec, adec, sdec, fillA, over, chop, List.replicate, leavesOk, leafOk, cellsEq, cellEq, E_byref, en21, bs29, bs49, ik29, rows64_len, rows32_len, hF, h1, h2]; exact ⟨_, rfl⟩)
  by_cases h3 : 126 < c
  · simp only [h3, decide_true, decide_false, Bool.true_and, Bool.and_true, Bool.false_and, Bool.and_false, Bool.not_true, Bool.not_false, Bool.or_true, Bool.true_or, Bool.or_false, Bool.false_or, List.isEmpty_nil, List.isEmpty_cons]; (rw [callT_eq Tryd.func21 rfl fok21 (by simp [Tryd.ntmps21])]; simp (disch := first | omega | (simp only [List.length_append, List.length_map, List.length_set, List.length_cons, List.length_nil, List.length_take, List.length_drop, rows64_len, rows32_len]; omega)) only [va0, va1, va2, va3, va4, va5, va6, va7, va8, va9, va10, va11, va12, va13, va14, va15, vb0, vb1, vb2, vb3, w_i8, w_u8, w_i16, w_u16, w_i32, w_u32, w_i64, w_u64, lt_T, lt_F, le_T, le_F, nlt_T, nlt_F, nle_T, nle_F, List.take_of_length_le, gB, gcW, gcR, posIn, renA, renL, Chunk.ren, Chunk.refs, evOpD, touchD, stepC, isFresh, nFresh, freshOf, mkR, hole, evL, evH, opd, get, putD, ofVal, cellOf, loadE, behind, lenE, idxAddrE, idxE, addPtr, intE, strE, unE, convE, AV.int, AV.bool, AV.str, ivs, take, frameOf, firstRegion, refsA, refsL, one, cellsA, floatOk, apartT, List.map, if_true, if_false, E_P, E_glob0, reduceCtorEq, beq_self_eq_true, decide_true, decide_false, ↓reduceIte, Nat.reduceEqDiff, cond_true, cond_false, or_true, true_or, or_false, false_or, and_true, true_and, and_self, false_and, and_false, not_true, not_false_iff, Nat.reduceAdd, Nat.reduceSub, Nat.reduceMul, Nat.reduceLT, Nat.reduceLeDiff, Int.reduceToNat, Int.reduceLT, Int.reduceLE, Option.getD, Int.reduceMul, Int.reduceAdd, List.drop, List.take, Nat.reduceBEq, List.isEmpty, Int.reduceEq, Int.reduceNe, Int.reduceNeg, Int.reduceGT, Int.reduceGE, beq_true, beq_false, UInt8.reduceToNat, eqE, eq_self, foldE, maxE, minE, eq_T, eq_F, ndec, odec, adec, sdec, fillA, over, chop, List.replicate, leavesOk, leafOk, cellsEq, cellEq, E_byref, en21, bs29, bs49, ik29, rows64_len, rows32_len, hF, h1, h2, h3]; exact ⟨_, rfl⟩)
  simp only [h2, h3, decide_false, Bool.or_false, Bool.not_false, Bool.true_and]
  by_cases qr : r = 0
  rotate_left
  · simp only [qr, decide_true, decide_false, Bool.true_and, Bool.and_true, Bool.false_and, Bool.and_false, Bool.not_true, Bool.not_false, Bool.or_true, Bool.true_or, Bool.or_false, Bool.false_or, List.isEmpty_nil, List.isEmpty_cons]; (rw [callT_eq Tryd.func21 rfl fok21 (by simp [Tryd.ntmps21])]; simp (disch := first | omega | (simp only [List.length_append, List.length_map, List.length_set, List.length_cons, List.length_nil, List.length_take, List.length_drop, rows64_len, rows32_len]; omega)) only [va0, va1, va2, va3, va4, va5, va6, va7, va8, va9, va10, va11, va12, va13, va14, va15, vb0, vb1, vb2, vb3, w_i8, w_u8, w_i16, w_u16, w_i32, w_u32, w_i64, w_u64, lt_T, lt_F, le_T, le_F, nlt_T, nlt_F, nle_T, nle_F, List.take_of_length_le, gB, gcW, gcR, posIn, renA, renL, Chunk.ren, Chunk.refs, evOpD, touchD, stepC, isFresh, nFresh, freshOf, mkR, hole, evL, evH, opd, get, putD, ofVal, cellOf, loadE, behind, lenE, idxAddrE, idxE, addPtr, intE, strE, unE, convE, AV.int, AV.bool, AV.str, ivs, take, frameOf, firstRegion, refsA, refsL, one, cellsA, floatOk, apartT, List.map, if_true, if_false, E_P, E_glob0, reduceCtorEq, beq_self_eq_true, decide_true, decide_false, ↓reduceIte, Nat.reduceEqDiff, cond_true, cond_false, or_true, true_or, or_false, false_or, and_true, true_and, and_self, false_and, and_false, not_true, not_false_iff, Nat.reduceAdd, Nat.reduceSub, Nat.reduceMul, Nat.reduceLT, Nat.reduceLeDiff, Int.reduceToNat, Int.reduceLT, Int.reduceLE, Option.getD, Int.reduceMul, Int.reduceAdd, List.drop, List.take, Nat.reduceBEq, List.isEmpty, Int.reduceEq, Int.reduceNe, Int.reduceNeg, Int.reduceGT, Int.reduceGE, beq_true, beq_false, UInt8.reduceToNat, eqE, eq_self, foldE, maxE, minE, eq_T, eq_F, ndec, odec, adec, sdec, fillA, over, chop, List.replicate, leavesOk, leafOk, cellsEq, cellEq, E_byref, en21, bs29, bs49, ik29, rows64_len, rows32_len, hF, h1, h2, h3, qr]; exact ⟨_, rfl⟩)
  subst qr
  cases t with
  | cons t0 t => simp only [List.length_cons, decide_true, decide_false, Bool.true_and, Bool.and_true, Bool.false_and, Bool.and_false, Bool.not_true, Bool.not_false, Bool.or_true, Bool.true_or, Bool.or_false, Bool.false_or, List.isEmpty_nil, List.isEmpty_cons]; (rw [callT_eq Tryd.func21 rfl fok21 (by simp [Tryd.ntmps21])]; simp (disch := first | omega | (simp only [List.length_append, List.length_map, List.length_set, List.length_cons, List.length_nil, List.length_take, List.length_drop, rows64_len, rows32_len]; omega)) only [va0, va1, va2, va3, va4, va5, va6, va7, va8, va9, va10, va11, va12, va13, va14, va15, vb0, vb1, vb2, vb3, w_i8, w_u8, w_i16, w_u16, w_i32, w_u32, w_i64, w_u64, lt_T, lt_F, le_T, le_F, nlt_T, nlt_F, nle_T, nle_F, List.take_of_length_le, gB, gcW, gcR, posIn, renA, renL, Chunk.ren, Chunk.refs, evOpD, touchD, stepC, isFresh, nFresh, freshOf, mkR, hole, evL, evH, opd, get, putD, ofVal, cellOf, loadE, behind, lenE, idxAddrE, idxE, addPtr, intE, strE, unE, convE, AV.int, AV.bool, AV.str, ivs, take, frameOf, firstRegion, refsA, refsL, one, cellsA, floatOk, apartT, List.map, if_true, if_false, E_P, E_glob0, reduceCtorEq, beq_self_eq_true, decide_true, decide_false, ↓reduceIte, Nat.reduceEqDiff, cond_true, cond_false, or_true, true_or, or_false, false_or, and_true, true_and, and_self, false_and, and_false, not_true, not_false_iff, Nat.reduceAdd, Nat.reduceSub, Nat.reduceMul, Nat.reduceLT, Nat.reduceLeDiff, Int.reduceToNat, Int.reduceLT, Int.reduceLE, Option.getD, Int.reduceMul, Int.reduceAdd, List.drop, List.take, Nat.reduceBEq, List.isEmpty, Int.reduceEq, Int.reduceNe, Int.reduceNeg, Int.reduceGT, Int.reduceGE, beq_true, beq_false, UInt8.reduceToNat, eqE, eq_self, foldE, maxE, minE, eq_T, eq_F, ndec, odec, adec, sdec, fillA, over, chop, List.replicate, leavesOk, leafOk, cellsEq, cellEq, E_byref, en21, bs29, bs49, ik29, rows64_len, rows32_len, hF, h1, h2, h3, List.length_cons]; exact ⟨_, rfl⟩)
  | nil => simp only [List.length_nil, decide_true, decide_false, Bool.true_and, Bool.and_true, Bool.false_and, Bool.and_false, Bool.not_true, Bool.not_false, Bool.or_true, Bool.true_or, Bool.or_false, Bool.false_or, List.isEmpty_nil, List.isEmpty_cons]; (rw [callT_eq Tryd.func21 rfl fok21 (by simp [Tryd.ntmps21])]; simp (disch := first | omega | (simp only [List.length_append, List.length_map, List.length_set, List.length_cons, List.length_nil, List.length_take, List.length_drop, rows64_len, rows32_len]; omega)) only [va0, va1, va2, va3, va4, va5, va6, va7, va8, va9, va10, va11, va12, va13, va14, va15, vb0, vb1, vb2, vb3, w_i8, w_u8, w_i16, w_u16, w_i32, w_u32, w_i64, w_u64, lt_T, lt_F, le_T, le_F, nlt_T, nlt_F, nle_T, nle_F, List.take_of_length_le, gB, gcW, gcR, posIn, renA, renL, Chunk.ren, Chunk.refs, evOpD, touchD, stepC, isFresh, nFresh, freshOf, mkR, hole, evL, evH, opd, get, putD, ofVal, cellOf, loadE, behind, lenE, idxAddrE, idxE, addPtr, intE, strE, unE, convE, AV.int, AV.bool, AV.str, ivs, take, frameOf, firstRegion, refsA, refsL, one, cellsA, floatOk, apartT, List.map, if_true, if_false, E_P, E_glob0, reduceCtorEq, beq_self_eq_true, decide_true, decide_false, ↓reduceIte, Nat.reduceEqDiff, cond_true, cond_false, or_true, true_or, or_false, false_or, and_true, true_and, and_self, false_and, and_false, not_true, not_false_iff, Nat.reduceAdd, Nat.reduceSub, Nat.reduceMul, Nat.reduceLT, Nat.reduceLeDiff, Int.reduceToNat, Int.reduceLT, Int.reduceLE, Option.getD, Int.reduceMul, Int.reduceAdd, List.drop, List.take, Nat.reduceBEq, List.isEmpty, Int.reduceEq, Int.reduceNe, Int.reduceNeg, Int.reduceGT, Int.reduceGE, beq_true, beq_false, UInt8.reduceToNat, eqE, eq_self, foldE, maxE, minE, eq_T, eq_F, ndec, odec, adec, sdec, fillA, over, chop, List.replicate, leavesOk, leafOk, cellsEq, cellEq, E_byref, en21, bs29, bs49, ik29, rows64_len, rows32_len, hF, h1, h2, h3, List.length_nil]; exact ⟨_, rfl⟩)
end Go.VI

namespace Go.VI
open Go.Proofs
set_option maxRecDepth 100000
set_option linter.unusedSimpArgs false
set_option linter.unusedVariables false
set_option maxHeartbeats 4000000
theorem c21_5 (r c v : Int) (i : List UInt8) (ps : List Int) (t : List UInt8) :
    ∃ L, callT E 21 [evA ⟨5, r, c, v, i, ps, t⟩] [] = some (.i (.v (.bool (rightO ⟨5, r, c, v, i, ps, t⟩))), L) := by
  rw [evA_eq]
  unfold rightO
  simp only []
  by_cases h1 : 256 < t.length
  · have h1' : 256 < (t.length : Int) := by omega
    simp only [h1, decide_true, decide_false, Bool.true_and, Bool.and_true, Bool.false_and, Bool.and_false, Bool.not_true, Bool.not_false, Bool.or_true, Bool.true_or, Bool.or_false, Bool.false_or, List.isEmpty_nil, List.isEmpty_cons]; (rw [callT_eq Tryd.func21 rfl fok21 (by simp [Tryd.ntmps21])]; simp (disch := first | omega | (simp only [List.length_append, List.length_map, List.length_set, List.length_cons, List.length_nil, List.length_take, List.length_drop, rows64_len, rows32_len]; omega)) only [va0, va1, va2, va3, va4, va5, va6, va7, va8, va9, va10, va11, va12, va13, va14, va15, vb0, vb1, vb2, vb3, w_i8, w_u8, w_i16, w_u16, w_i32, w_u32, w_i64, w_u64, lt_T, lt_F, le_T, le_F, nlt_T, nlt_F, nle_T, nle_F, List.take_of_length_le, gB, gcW, gcR, posIn, renA, renL, Chunk.ren, Chunk.refs, evOpD, touchD, stepC, isFresh, nFresh, freshOf, mkR, hole, evL, evH, opd, get, putD, ofVal, cellOf, loadE, behind, lenE, idxAddrE, idxE, addPtr, intE, strE, unE, convE, AV.int, AV.bool, AV.str, ivs, take, frameOf, firstRegion, refsA, refsL, one, cellsA, floatOk, apartT, List.map, if_true, if_false, E_P, E_glob0, reduceCtorEq, beq_self_eq_true, decide_true, decide_false, ↓reduceIte, Nat.reduceEqDiff, cond_true, cond_false, or_true, true_or, or_false, false_or, and_true, true_and, and_self, false_and, and_false, not_true, not_false_iff, Nat.reduceAdd, Nat.reduceSub, Nat.reduceMul, Nat.reduceLT, Nat.reduceLeDiff, Int.reduceToNat, Int.reduceLT, Int.reduceLE, Option.getD, Int.reduceMul, Int.reduceAdd, List.drop, List.take, Nat.reduceBEq, List.isEmpty, Int.reduceEq, Int.reduceNe, Int.reduceNeg, Int.reduceGT, Int.reduceGE, beq_true, beq_false, UInt8.reduceToNat, eqE, eq_self, foldE, maxE, minE, eq_T, eq_F, ndec, odec, adec, sdec, fillA, over, chop, List.replicate, leavesOk, leafOk, cellsEq, cellEq, E_byref, en21, bs29, bs49, ik29, rows64_len, rows32_len, h1', h1]; exact ⟨_, rfl⟩)
  have h1' : ¬ 256 < (t.length : Int) := by omega
  cases h2 : t.any (outB 32 255) with
  | true => simp only [h2, decide_true, decide_false, Bool.true_and, Bool.and_true, Bool.false_and, Bool.and_false, Bool.not_true, Bool.not_false, Bool.or_true, Bool.true_or, Bool.or_false, Bool.false_or, List.isEmpty_nil, List.isEmpty_cons]; (rw [callT_eq Tryd.func21 rfl fok21 (by simp [Tryd.ntmps21])]; simp (disch := first | omega | (simp only [List.length_append, List.length_map, List.length_set, List.length_cons, List.length_nil, List.length_take, List.length_drop, rows64_len, rows32_len]; omega)) only [va0, va1, va2, va3, va4, va5, va6, va7, va8, va9, va10, va11, va12, va13, va14, va15, vb0, vb1, vb2, vb3, w_i8, w_u8, w_i16, w_u16, w_i32, w_u32, w_i64, w_u64, lt_T, lt_F, le_T, le_F, nlt_T, nlt_F, nle_T, nle_F, List.take_of_length_le, gB, gcW, gcR, posIn, renA, renL, Chunk.ren, Chunk.refs, evOpD, touchD, stepC, isFresh, nFresh, freshOf, mkR, hole, evL, evH, opd, get, putD, ofVal, cellOf, loadE, behind, lenE, idxAddrE, idxE, addPtr, intE, strE, unE, convE, AV.int, AV.bool, AV.str, ivs, take, frameOf, firstRegion, refsA, refsL, one, cellsA, floatOk, apartT, List.map, if_true, if_false, E_P, E_glob0, reduceCtorEq, beq_self_eq_true, decide_true, decide_false, ↓reduceIte, Nat.reduceEqDiff, cond_true, cond_false, or_true, true_or, or_false, false_or, and_true, true_and, and_self, false_and, and_false, not_true, not_false_iff, Nat.reduceAdd, Nat.reduceSub, Nat.reduceMul, Nat.reduceLT, Nat.reduceLeDiff, Int.reduceToNat, Int.reduceLT, Int.reduceLE, Option.getD, Int.reduceMul, Int.reduceAdd, List.drop, List.take, Nat.reduceBEq, List.isEmpty, Int.reduceEq, Int.reduceNe, Int.reduceNeg, Int.reduceGT, Int.reduceGE, beq_true, beq_false, UInt8.reduceToNat, eqE, eq_self, foldE, maxE, minE, eq_T, eq_F, ndec, odec, adec, sdec, fillA, over, chop, List.replicate, leavesOk, leafOk, cellsEq, cellEq, E_byref, en21, bs29, bs49, ik29, rows64_len, rows32_len, h1, h1', h2]; exact ⟨_, rfl⟩)
  | false =>
  simp only [h1, decide_false, Bool.not_false, Bool.true_and]
  by_cases qr : r = 0
  rotate_left
  · simp only [qr, decide_true, decide_false, Bool.true_and, Bool.and_true, Bool.false_and, Bool.and_false, Bool.not_true, Bool.not_false, Bool.or_true, Bool.true_or, Bool.or_false, Bool.false_or, List.isEmpty_nil, List.isEmpty_cons]; (rw [callT_eq Tryd.func21 rfl fok21 (by simp [Tryd.ntmps21])]; simp (disch := first | omega | (simp only [List.length_append, List.length_map, List.length_set, List.length_cons, List.length_nil, List.length_take, List.length_drop, rows64_len, rows32_len]; omega)) only [va0, va1, va2, va3, va4, va5, va6, va7, va8, va9, va10, va11, va12, va13, va14, va15, vb0, vb1, vb2, vb3, w_i8, w_u8, w_i16, w_u16, w_i32, w_u32, w_i64, w_u64, lt_T, lt_F, le_T, le_F, nlt_T, nlt_F, nle_T, nle_F, List.take_of_length_le, gB, gcW, gcR, posIn, renA, renL, Chunk.ren, Chunk.refs, evOpD, touchD, stepC, isFresh, nFresh, freshOf, mkR, hole, evL, evH, opd, get, putD, ofVal, cellOf, loadE, behind, lenE, idxAddrE, idxE, addPtr, intE, strE, unE, convE, AV.int, AV.bool, AV.str, ivs, take, frameOf, firstRegion, refsA, refsL, one, cellsA, floatOk, apartT, List.map, if_true, if_false, E_P, E_glob0, reduceCtorEq, beq_self_eq_true, decide_true, decide_false, ↓reduceIte, Nat.reduceEqDiff, cond_true, cond_false, or_true, true_or, or_false, false_or, and_true, true_and, and_self, false_and, and_false, not_true, not_false_iff, Nat.reduceAdd, Nat.reduceSub, Nat.reduceMul, Nat.reduceLT, Nat.reduceLeDiff, Int.reduceToNat, Int.reduceLT, Int.reduceLE, Option.getD, Int.reduceMul, Int.reduceAdd, List.drop, List.take, Nat.reduceBEq, List.isEmpty, Int.reduceEq, Int.reduceNe, Int.reduceNeg, Int.reduceGT, Int.reduceGE, beq_true, beq_false, UInt8.reduceToNat, eqE, eq_self, foldE, maxE, minE, eq_T, eq_F, ndec, odec, adec, sdec, fillA, over, chop, List.replicate, leavesOk, leafOk, cellsEq, cellEq, E_byref, en21, bs29, bs49, ik29, rows64_len, rows32_len, h1', h2, qr]; exact ⟨_, rfl⟩)
  subst qr
  by_cases qc : c = 0
  rotate_left
  · simp only [qc, decide_true, decide_false, Bool.true_and, Bool.and_true, Bool.false_and, Bool.and_false, Bool.not_true, Bool.not_false, Bool.or_true, Bool.true_or, Bool.or_false, Bool.false_or, List.isEmpty_nil, List.isEmpty_cons]; (rw [callT_eq Tryd.func21 rfl fok21 (by simp [Tryd.ntmps21])]; simp (disch := first | omega | (simp only [List.length_append, List.length_map, List.length_set, List.length_cons, List.length_nil, List.length_take, List.length_drop, rows64_len, rows32_len]; omega)) only [va0, va1, va2, va3, va4, va5, va6, va7, va8, va9, va10, va11, va12, va13, va14, va15, vb0, vb1, vb2, vb3, w_i8, w_u8, w_i16, w_u16, w_i32, w_u32, w_i64, w_u64, lt_T, lt_F, le_T, le_F, nlt_T, nlt_F, nle_T, nle_F, List.take_of_length_le, gB, gcW, gcR, posIn, renA, renL, Chunk.ren, Chunk.refs, evOpD, touchD, stepC, isFresh, nFresh, freshOf, mkR, hole, evL, evH, opd, get, putD, ofVal, cellOf, loadE, behind, lenE, idxAddrE, idxE, addPtr, intE, strE, unE, convE, AV.int, AV.bool, AV.str, ivs, take, frameOf, firstRegion, refsA, refsL, one, cellsA, floatOk, apartT, List.map, if_true, if_false, E_P, E_glob0, reduceCtorEq, beq_self_eq_true, decide_true, decide_false, ↓reduceIte, Nat.reduceEqDiff, cond_true, cond_false, or_true, true_or, or_false, false_or, and_true, true_and, and_self, false_and, and_false, not_true, not_false_iff, Nat.reduceAdd, Nat.reduceSub, Nat.reduceMul, Nat.reduceLT, Nat.reduceLeDiff, Int.reduceToNat, Int.reduceLT, Int.reduceLE, Option.getD, Int.reduceMul, Int.reduceAdd, List.drop, List.take, Nat.reduceBEq, List.isEmpty, Int.reduceEq, Int.reduceNe, Int.reduceNeg, Int.reduceGT, Int.reduceGE, beq_true, beq_false, UInt8.reduceToNat, eqE, eq_self, foldE, maxE, minE, eq_T, eq_F, ndec, odec, adec, sdec, fillA, over, chop, List.replicate, leavesOk, leafOk, cellsEq, cellEq, E_byref, en21, bs29, bs49, ik29, rows64_len, rows32_len, h1', h2, qc]; exact ⟨_, rfl⟩)
  subst qc
  by_cases qv : v = 0
  rotate_left
  · simp only [qv, decide_true, decide_false, Bool.true_and, Bool.and_true, Bool.false_and, Bool.and_false, Bool.not_true, Bool.not_false, Bool.or_true, Bool.true_or, Bool.or_false, Bool.false_or, List.isEmpty_nil, List.isEmpty_cons]; (rw [callT_eq Tryd.func21 rfl fok21 (by simp [Tryd.ntmps21])]; simp (disch := first | omega | (simp only [List.length_append, List.length_map, List.length_set, List.length_cons, List.length_nil, List.length_take, List.length_drop, rows64_len, rows32_len]; omega)) only [va0, va1, va2, va3, va4, va5, va6, va7, va8, va9, va10, va11, va12, va13, va14, va15, vb0, vb1, vb2, vb3, w_i8, w_u8, w_i16, w_u16, w_i32, w_u32, w_i64, w_u64, lt_T, lt_F, le_T, le_F, nlt_T, nlt_F, nle_T, nle_F, List.take_of_length_le, gB, gcW, gcR, posIn, renA, renL, Chunk.ren, Chunk.refs, evOpD, touchD, stepC, isFresh, nFresh, freshOf, mkR, hole, evL, evH, opd, get, putD, ofVal, cellOf, loadE, behind, lenE, idxAddrE, idxE, addPtr, intE, strE, unE, convE, AV.int, AV.bool, AV.str, ivs, take, frameOf, firstRegion, refsA, refsL, one, cellsA, floatOk, apartT, List.map, if_true, if_false, E_P, E_glob0, reduceCtorEq, beq_self_eq_true, decide_true, decide_false, ↓reduceIte, Nat.reduceEqDiff, cond_true, cond_false, or_true, true_or, or_false, false_or, and_true, true_and, and_self, false_and, and_false, not_true, not_false_iff, Nat.reduceAdd, Nat.reduceSub, Nat.reduceMul, Nat.reduceLT, Nat.reduceLeDiff, Int.reduceToNat, Int.reduceLT, Int.reduceLE, Option.getD, Int.reduceMul, Int.reduceAdd, List.drop, List.take, Nat.reduceBEq, List.isEmpty, Int.reduceEq, Int.reduceNe, Int.reduceNeg, Int.reduceGT, Int.reduceGE, beq_true, beq_false, UInt8.reduceToNat, eqE, eq_self, foldE, maxE, minE, eq_T, eq_F, ndec, odec, adec, sdec, fillA, over, chop, List.replicate, leavesOk, leafOk, cellsEq, cellEq, E_byref, en21, bs29, bs49, ik29, rows64_len, rows32_len, h1', h2, qv]; exact ⟨_, rfl⟩)
  subst qv
  cases i with
  | cons i0 i => simp only [List.length_cons, decide_true, decide_false, Bool.true_and, Bool.and_true, Bool.false_and, Bool.and_false, Bool.not_true, Bool.not_false, Bool.or_true, Bool.true_or, Bool.or_false, Bool.false_or, List.isEmpty_nil, List.isEmpty_cons]; (rw [callT_eq Tryd.func21 rfl fok21 (by simp [Tryd.ntmps21])]; simp (disch := first | omega | (simp only [List.length_append, List.length_map, List.length_set, List.length_cons, List.length_nil, List.length_take, List.length_drop, rows64_len, rows32_len]; omega)) only [va0, va1, va2, va3, va4, va5, va6, va7, va8, va9, va10, va11, va12, va13, va14, va15, vb0, vb1, vb2, vb3, w_i8, w_u8, w_i16, w_u16, w_i32, w_u32, w_i64, w_u64, lt_T, lt_F, le_T, le_F, nlt_T, nlt_F, nle_T, nle_F, List.take_of_length_le, gB, gcW, gcR, posIn, renA, renL, Chunk.ren, Chunk.refs, evOpD, touchD, stepC, isFresh, nFresh, freshOf, mkR, hole, evL, evH, opd, get, putD, ofVal, cellOf, loadE, behind, lenE, idxAddrE, idxE, addPtr, intE, strE, unE, convE, AV.int, AV.bool, AV.str, ivs, take, frameOf, firstRegion, refsA, refsL, one, cellsA, floatOk, apartT, List.map, if_true, if_false, E_P, E_glob0, reduceCtorEq, beq_self_eq_true, decide_true, decide_false, ↓reduceIte, Nat.reduceEqDiff, cond_true, cond_false, or_true, true_or, or_false, false_or, and_true, true_and, and_self, false_and, and_false, not_true, not_false_iff, Nat.reduceAdd, Nat.reduceSub, Nat.reduceMul, Nat.reduceLT, Nat.reduceLeDiff, Int.reduceToNat, Int.reduceLT, Int.reduceLE, Option.getD, Int.reduceMul, Int.reduceAdd, List.drop, List.take, Nat.reduceBEq, List.isEmpty, Int.reduceEq, Int.reduceNe, Int.reduceNeg, Int.reduceGT, Int.reduceGE, beq_true, beq_false, UInt8.reduceToNat, eqE, eq_self, foldE, maxE, minE, eq_T, eq_F, ndec, odec, adec, sdec, fillA, over, chop, List.replicate, leavesOk, leafOk, cellsEq, cellEq, E_byref, en21, bs29, bs49, ik29, rows64_len, rows32_len, h1', h2, List.length_cons]; exact ⟨_, rfl⟩)
  | nil =>
    cases ps with
    | cons p0 ps => simp only [List.length_cons, decide_true, decide_false, Bool.true_and, Bool.and_true, Bool.false_and, Bool.and_false, Bool.not_true, Bool.not_false, Bool.or_true, Bool.true_or, Bool.or_false, Bool.false_or, List.isEmpty_nil, List.isEmpty_cons]; (rw [callT_eq Tryd.func21 rfl fok21 (by simp [Tryd.ntmps21])]; simp (disch := first | omega | (simp only [List.length_append, List.length_map, List.length_set, List.length_cons, List.length_nil, List.length_take, List.length_drop, rows64_len, rows32_len]; omega)) only [va0, va1, va2, va3, va4, va5, va6, va7, va8, va9, va10, va11, va12, va13, va14, va15, vb0, vb1, vb2, vb3, w_i8, w_u8, w_i16, w_u16, w_i32, w_u32, w_i64, w_u64, lt_T, lt_F, le_T, le_F, nlt_T, nlt_F, nle_T, nle_F, List.take_of_length_le, gB, gcW, gcR, posIn, renA, renL, Chunk.ren, Chunk.refs, evOpD, touchD, stepC, isFresh, nFresh, freshOf, mkR, hole, evL, evH, opd, get, putD, ofVal, cellOf, loadE, behind, lenE, idxAddrE, idxE, addPtr, intE, strE, unE, convE, AV.int, AV.bool, AV.str, ivs, take, frameOf, firstRegion, refsA, refsL, one, cellsA, floatOk, apartT, List.map, if_true, if_false, E_P, E_glob0, reduceCtorEq, beq_self_eq_true, decide_true, decide_false, ↓reduceIte, Nat.reduceEqDiff, cond_true, cond_false, or_true, true_or, or_false, false_or, and_true, true_and, and_self, false_and, and_false, not_true, not_false_iff, Nat.reduceAdd, Nat.reduceSub, Nat.reduceMul, Nat.reduceLT, Nat.reduceLeDiff, Int.reduceToNat, Int.reduceLT, Int.reduceLE, Option.getD, Int.reduceMul, Int.reduceAdd, List.drop, List.take, Nat.reduceBEq, List.isEmpty, Int.reduceEq, Int.reduceNe, Int.reduceNeg, Int.reduceGT, Int.reduceGE, beq_true, beq_false, UInt8.reduceToNat, eqE, eq_self, foldE, maxE, minE, eq_T, eq_F, ndec, odec, adec, sdec, fillA, over, chop, List.replicate, leavesOk, leafOk, cellsEq, cellEq, E_byref, en21, bs29, bs49, ik29, rows64_len, rows32_len, h1', h2, rows64, List.length_cons]; exact ⟨_, rfl⟩)
    | nil => simp only [List.length_nil, decide_true, decide_false, Bool.true_and, Bool.and_true, Bool.false_and, Bool.and_false, Bool.not_true, Bool.not_false, Bool.or_true, Bool.true_or, Bool.or_false, Bool.false_or, List.isEmpty_nil, List.isEmpty_cons]; (rw [callT_eq Tryd.func21 rfl fok21 (by simp [Tryd.ntmps21])]; simp (disch := first | omega | (simp only [List.length_append, List.length_map, List.length_set, List.length_cons, List.length_nil, List.length_take, List.length_drop, rows64_len, rows32_len]; omega)) only [va0, va1, va2, va3, va4, va5, va6, va7, va8, va9, va10, va11, va12, va13, va14, va15, vb0, vb1, vb2, vb3, w_i8, w_u8, w_i16, w_u16, w_i32, w_u32, w_i64, w_u64, lt_T, lt_F, le_T, le_F, nlt_T, nlt_F, nle_T, nle_F, List.take_of_length_le, gB, gcW, gcR, posIn, renA, renL, Chunk.ren, Chunk.refs, evOpD, touchD, stepC, isFresh, nFresh, freshOf, mkR, hole, evL, evH, opd, get, putD, ofVal, cellOf, loadE, behind, lenE, idxAddrE, idxE, addPtr, intE, strE, unE, convE, AV.int, AV.bool, AV.str, ivs, take, frameOf, firstRegion, refsA, refsL, one, cellsA, floatOk, apartT, List.map, if_true, if_false, E_P, E_glob0, reduceCtorEq, beq_self_eq_true, decide_true, decide_false, ↓reduceIte, Nat.reduceEqDiff, cond_true, cond_false, or_true, true_or, or_false, false_or, and_true, true_and, and_self, false_and, and_false, not_true, not_false_iff, Nat.reduceAdd, Nat.reduceSub, Nat.reduceMul, Nat.reduceLT, Nat.reduceLeDiff, Int.reduceToNat, Int.reduceLT, Int.reduceLE, Option.getD, Int.reduceMul, Int.reduceAdd, List.drop, List.take, Nat.reduceBEq, List.isEmpty, Int.reduceEq, Int.reduceNe, Int.reduceNeg, Int.reduceGT, Int.reduceGE, beq_true, beq_false, UInt8.reduceToNat, eqE, eq_self, foldE, maxE, minE, eq_T, eq_F, ndec, odec, adec, sdec, fillA, over, chop, List.replicate, leavesOk, leafOk, cellsEq, cellEq, E_byref, en21, bs29, bs49, ik29, rows64_len, rows32_len, h1', h2, rows64, List.length_nil]; exact ⟨_, rfl⟩)
end Go.VI

namespace Go.VI
open Go.Proofs
set_option maxRecDepth 100000
set_option linter.unusedSimpArgs false
set_option linter.unusedVariables false
set_option maxHeartbeats 4000000
def EvR (e : Ev) : Prop := (-2147483648 ≤ e.r ∧ e.r ≤ 2147483647) ∧ (0 ≤ e.c ∧ e.c < 256) ∧ (0 ≤ e.v ∧ e.v < 256)
def FmtOK (e : Ev) : Prop := ∀ H, isoK E (callT E) 23 [.i (.v (.int .u8 e.v)), .i (.sl 1 (rows64 e.ps) false), .i (.str e.i)] H = some (fmtA (fmtS e.v e.ps e.i), H)
def checkS (e : Ev) : Int := if e.k < 1 ∨ 5 < e.k then 9 else if rightS e = true then 0 else 1
theorem c21 (e : Ev) (he : EvR e) (hk : 1 ≤ e.k ∧ e.k ≤ 5) (hF : e.k = 4 → FmtOK e) : ∃ L, callT E 21 [evA e] [] = some (.i (.v (.bool (rightS e))), L) := by
  obtain ⟨k, r, c, v, i, ps, t⟩ := e
  have : k = 1 ∨ k = 2 ∨ k = 3 ∨ k = 4 ∨ k = 5 := by simp only at hk; omega
  rcases this with rfl | rfl | rfl | rfl | rfl
  · exact c21_1 r he.1 c v i ps t
  · exact c21_2 r c v i ps t
  · exact c21_3 r c v i ps t
  · exact c21_4 r c v i ps t (hF rfl)
  · exact c21_5 r c v i ps t
theorem ik21 (e : Ev) (he : EvR e) (hk : 1 ≤ e.k ∧ e.k ≤ 5) (hF : e.k = 4 → FmtOK e) (H : Hp) : isoK E (callT E) 21 [.agg [.i (.v (.int .i64 e.k)), .i (.v (.int .i32 e.r)), .i (.v (.int .u8 e.c)), .i (.v (.int .u8 e.v)), .i (.str e.i), .i (.sl 1 (rows64 e.ps) false), .i (.str e.t)]] H = some (.i (.v (.bool (rightS e))), H) := isoK_val rfl rfl rfl (c21 e he hk hF)
theorem c11 (e : Ev) (he : EvR e) (hF : e.k = 4 → FmtOK e) : ∃ L, callT E 11 [evA e] [] = some (.i (.v (.int .i64 (checkS e))), L) := by
  rw [evA_eq]
  unfold checkS
  by_cases h1 : e.k < 1
  · rw [if_pos (.inl h1)]
    rw [callT_eq Tryd.func11 rfl fok11 (by simp [Tryd.ntmps11])]
    simp (disch := first | omega | (simp only [List.length_append, List.length_map, List.length_set, List.length_cons, List.length_nil, List.length_take, List.length_drop]; omega)) only [va0, va1, va2, va3, va4, va5, va6, va7, va8, va9, va10, va11, va12, va13, va14, va15, vb0, vb1, vb2, vb3, w_i8, w_u8, w_i16, w_u16, w_i32, w_u32, w_i64, w_u64, lt_T, lt_F, le_T, le_F, nlt_T, nlt_F, nle_T, nle_F, List.take_of_length_le, gB, gcW, gcR, posIn, renA, renL, Chunk.ren, Chunk.refs, evOpD, touchD, stepC, isFresh, nFresh, freshOf, mkR, hole, evL, evH, opd, get, putD, ofVal, cellOf, loadE, behind, lenE, idxAddrE, idxE, addPtr, intE, strE, unE, convE, AV.int, AV.bool, AV.str, ivs, take, frameOf, firstRegion, refsA, refsL, one, cellsA, floatOk, apartT, List.map, if_true, if_false, E_P, E_glob0, reduceCtorEq, beq_self_eq_true, decide_true, decide_false, ↓reduceIte, Nat.reduceEqDiff, cond_true, cond_false, or_true, true_or, or_false, false_or, and_true, true_and, and_self, false_and, and_false, not_true, not_false_iff, Nat.reduceAdd, Nat.reduceSub, Nat.reduceMul, Nat.reduceLT, Nat.reduceLeDiff, Int.reduceToNat, Int.reduceLT, Int.reduceLE, Option.getD, Int.reduceMul, Int.reduceAdd, List.drop, List.take, Nat.reduceBEq, List.isEmpty, Int.reduceEq, Int.reduceNe, Int.reduceNeg, Int.reduceGT, Int.reduceGE, beq_true, beq_false, UInt8.reduceToNat, eqE, eq_self, foldE, maxE, minE, eq_T, eq_F, ndec, odec, adec, sdec, fillA, over, chop, List.replicate, leavesOk, leafOk, cellsEq, cellEq, E_byref, en11, h1]
    exact ⟨_, rfl⟩
  by_cases h2 : 5 < e.k
  · rw [if_pos (.inr h2)]
    rw [callT_eq Tryd.func11 rfl fok11 (by simp [Tryd.ntmps11])]
    simp (disch := first | omega | (simp only [List.length_append, List.length_map, List.length_set, List.length_cons, List.length_nil, List.length_take, List.length_drop]; omega)) only [va0, va1, va2, va3, va4, va5, va6, va7, va8, va9, va10, va11, va12, va13, va14, va15, vb0, vb1, vb2, vb3, w_i8, w_u8, w_i16, w_u16, w_i32, w_u32, w_i64, w_u64, lt_T, lt_F, le_T, le_F, nlt_T, nlt_F, nle_T, nle_F, List.take_of_length_le, gB, gcW, gcR, posIn, renA, renL, Chunk.ren, Chunk.refs, evOpD, touchD, stepC, isFresh, nFresh, freshOf, mkR, hole, evL, evH, opd, get, putD, ofVal, cellOf, loadE, behind, lenE, idxAddrE, idxE, addPtr, intE, strE, unE, convE, AV.int, AV.bool, AV.str, ivs, take, frameOf, firstRegion, refsA, refsL, one, cellsA, floatOk, apartT, List.map, if_true, if_false, E_P, E_glob0, reduceCtorEq, beq_self_eq_true, decide_true, decide_false, ↓reduceIte, Nat.reduceEqDiff, cond_true, cond_false, or_true, true_or, or_false, false_or, and_true, true_and, and_self, false_and, and_false, not_true, not_false_iff, Nat.reduceAdd, Nat.reduceSub, Nat.reduceMul, Nat.reduceLT, Nat.reduceLeDiff, Int.reduceToNat, Int.reduceLT, Int.reduceLE, Option.getD, Int.reduceMul, Int.reduceAdd, List.drop, List.take, Nat.reduceBEq, List.isEmpty, Int.reduceEq, Int.reduceNe, Int.reduceNeg, Int.reduceGT, Int.reduceGE, beq_true, beq_false, UInt8.reduceToNat, eqE, eq_self, foldE, maxE, minE, eq_T, eq_F, ndec, odec, adec, sdec, fillA, over, chop, List.replicate, leavesOk, leafOk, cellsEq, cellEq, E_byref, en11, h1, h2]
    exact ⟨_, rfl⟩
  rw [if_neg (by omega)]
  have hik := fun H => ik21 e he (by omega) hF H
  cases hr : rightS e with
  | true =>
    rw [if_pos rfl]
    rw [hr] at hik
    rw [callT_eq Tryd.func11 rfl fok11 (by simp [Tryd.ntmps11])]
    simp (disch := first | omega | (simp only [List.length_append, List.length_map, List.length_set, List.length_cons, List.length_nil, List.length_take, List.length_drop]; omega)) only [va0, va1, va2, va3, va4, va5, va6, va7, va8, va9, va10, va11, va12, va13, va14, va15, vb0, vb1, vb2, vb3, w_i8, w_u8, w_i16, w_u16, w_i32, w_u32, w_i64, w_u64, lt_T, lt_F, le_T, le_F, nlt_T, nlt_F, nle_T, nle_F, List.take_of_length_le, gB, gcW, gcR, posIn, renA, renL, Chunk.ren, Chunk.refs, evOpD, touchD, stepC, isFresh, nFresh, freshOf, mkR, hole, evL, evH, opd, get, putD, ofVal, cellOf, loadE, behind, lenE, idxAddrE, idxE, addPtr, intE, strE, unE, convE, AV.int, AV.bool, AV.str, ivs, take, frameOf, firstRegion, refsA, refsL, one, cellsA, floatOk, apartT, List.map, if_true, if_false, E_P, E_glob0, reduceCtorEq, beq_self_eq_true, decide_true, decide_false, ↓reduceIte, Nat.reduceEqDiff, cond_true, cond_false, or_true, true_or, or_false, false_or, and_true, true_and, and_self, false_and, and_false, not_true, not_false_iff, Nat.reduceAdd, Nat.reduceSub, Nat.reduceMul, Nat.reduceLT, Nat.reduceLeDiff, Int.reduceToNat, Int.reduceLT, Int.reduceLE, Option.getD, Int.reduceMul, Int.reduceAdd, List.drop, List.take, Nat.reduceBEq, List.isEmpty, Int.reduceEq, Int.reduceNe, Int.reduceNeg, Int.reduceGT, Int.reduceGE, beq_true, beq_false, UInt8.reduceToNat, eqE, eq_self, foldE, maxE, minE, eq_T, eq_F, ndec, odec, adec, sdec, fillA, over, chop, List.replicate, leavesOk, leafOk, cellsEq, cellEq, E_byref, en11, h1, h2, hik]
    exact ⟨_, rfl⟩
  | false =>
    rw [if_neg (by simp)]
    rw [hr] at hik
    rw [callT_eq Tryd.func11 rfl fok11 (by simp [Tryd.ntmps11])]
    simp (disch := first | omega | (simp only [List.length_append, List.length_map, List.length_set, List.length_cons, List.length_nil, List.length_take, List.length_drop]; omega)) only [va0, va1, va2, va3, va4, va5, va6, va7, va8, va9, va10, va11, va12, va13, va14, va15, vb0, vb1, vb2, vb3, w_i8, w_u8, w_i16, w_u16, w_i32, w_u32, w_i64, w_u64, lt_T, lt_F, le_T, le_F, nlt_T, nlt_F, nle_T, nle_F, List.take_of_length_le, gB, gcW, gcR, posIn, renA, renL, Chunk.ren, Chunk.refs, evOpD, touchD, stepC, isFresh, nFresh, freshOf, mkR, hole, evL, evH, opd, get, putD, ofVal, cellOf, loadE, behind, lenE, idxAddrE, idxE, addPtr, intE, strE, unE, convE, AV.int, AV.bool, AV.str, ivs, take, frameOf, firstRegion, refsA, refsL, one, cellsA, floatOk, apartT, List.map, if_true, if_false, E_P, E_glob0, reduceCtorEq, beq_self_eq_true, decide_true, decide_false, ↓reduceIte, Nat.reduceEqDiff, cond_true, cond_false, or_true, true_or, or_false, false_or, and_true, true_and, and_self, false_and, and_false, not_true, not_false_iff, Nat.reduceAdd, Nat.reduceSub, Nat.reduceMul, Nat.reduceLT, Nat.reduceLeDiff, Int.reduceToNat, Int.reduceLT, Int.reduceLE, Option.getD, Int.reduceMul, Int.reduceAdd, List.drop, List.take, Nat.reduceBEq, List.isEmpty, Int.reduceEq, Int.reduceNe, Int.reduceNeg, Int.reduceGT, Int.reduceGE, beq_true, beq_false, UInt8.reduceToNat, eqE, eq_self, foldE, maxE, minE, eq_T, eq_F, ndec, odec, adec, sdec, fillA, over, chop, List.replicate, leavesOk, leafOk, cellsEq, cellEq, E_byref, en11, h1, h2, hik]
    exact ⟨_, rfl⟩
theorem ik11 (e : Ev) (he : EvR e) (hF : e.k = 4 → FmtOK e) (H : Hp) : isoK E (callT E) 11 [.agg [.i (.v (.int .i64 e.k)), .i (.v (.int .i32 e.r)), .i (.v (.int .u8 e.c)), .i (.v (.int .u8 e.v)), .i (.str e.i), .i (.sl 1 (rows64 e.ps) false), .i (.str e.t)]] H = some (.i (.v (.int .i64 (checkS e))), H) := isoK_val rfl rfl rfl (c11 e he hF)
def by1 (c : Int) : List UInt8 := [UInt8.ofNat c.toNat]
def encS (e : Ev) : List UInt8 := if e.k = 1 then by8 (encR e.r) else if e.k = 2 then by1 e.c else if e.k = 3 then [27] ++ e.i ++ by1 e.c else if e.k = 4 then [27, 91] ++ (fmtS e.v e.ps e.i).1 ++ by1 e.c else [27, 93] ++ e.t ++ [7]
def encA (e : Ev) : AV := .tup [.i (.str (if checkS e = 0 then encS e else [])), .i (.v (.int .i64 (checkS e)))]
theorem check_k {e : Ev} (h : checkS e = 0) : e.k = 1 ∨ e.k = 2 ∨ e.k = 3 ∨ e.k = 4 ∨ e.k = 5 := by
  unfold checkS at h
  split at h
  · cases h
  · omega
end Go.VI

namespace Go.VI
open Go.Proofs
set_option maxRecDepth 100000
set_option linter.unusedSimpArgs false
set_option linter.unusedVariables false
set_option maxHeartbeats 4000000
theorem run_digits (l0 : List Int) : ∀ (u : Nat), u ≤ 9999 → ∀ r, runP (Lib.decDigits u ++ r) l0 (-1) = runP r l0 u := by
  intro u
  induction u using Nat.strongRecOn with
  | _ u ih =>
    intro hu r
    by_cases h : u < 10
    · rw [Lib.decDigits, dif_pos h]
      have hb : (UInt8.ofNat (48 + u)).toNat = 48 + u := by rw [UInt8.toNat_ofNat']; exact Nat.mod_eq_of_lt (by omega)
      have hs : stepP l0 (-1) ((UInt8.ofNat (48 + u)).toNat : Int) = some (l0, (u : Int)) := by
        rw [hb, stepP, if_neg (by omega), if_neg (by omega), if_neg (by omega)]
        congr 2
        omega
      simp only [List.cons_append, List.nil_append, runP, hs]
    · rw [Lib.decDigits, dif_neg h, List.append_assoc, ih (u / 10) (by omega) (by omega)]
      have hb : (UInt8.ofNat (48 + u % 10)).toNat = 48 + u % 10 := by rw [UInt8.toNat_ofNat']; exact Nat.mod_eq_of_lt (by omega)
      have hs : stepP l0 ((u / 10 : Nat) : Int) ((UInt8.ofNat (48 + u % 10)).toNat : Int) = some (l0, (u : Int)) := by
        rw [hb, stepP, if_neg (by omega), if_neg (by omega), if_neg (by omega)]
        congr 2
        omega
      simp only [List.cons_append, List.nil_append, runP, hs]
theorem run_num (l0 : List Int) (n : Int) (h : -1 ≤ n) (h9 : n ≤ 9999) (r : List UInt8) : runP (numB n ++ r) l0 (-1) = runP r l0 n := by
  unfold numB
  split
  · rename_i h0
    rw [run_digits l0 n.toNat (by omega) r]
    congr 1
    omega
  · obtain rfl : n = -1 := by omega
    rfl
theorem run_trail {s : List UInt8} (h : trailB s = true) (l0 : List Int) (n : Int) : runP s l0 n = (l0, n, s) := by
  cases s with
  | nil => rfl
  | cons c r =>
    simp only [trailB, List.any_cons, Bool.not_or, Bool.and_eq_true, Bool.not_eq_true', badB, Bool.or_eq_false_iff, decide_eq_false_iff_not] at h
    have hs : stepP l0 n c.toNat = none := by rw [stepP, if_neg (by omega), if_pos (by omega)]
    simp only [runP, hs]
def okN (l : List Int) : Prop := ∀ n ∈ l, -1 ≤ n ∧ n ≤ 9999
theorem run_fmt {s : List UInt8} (hs : trailB s = true) : ∀ (l : List Int), okN l → ∀ (l0 : List Int) (n : Int), ∃ a b, runP (fmtG false l ++ s) l0 n = (a, b, s) ∧ a ++ [b] = l0 ++ n :: l
  | [], _, l0, n => ⟨l0, n, by rw [fmtG, List.nil_append, run_trail hs], rfl⟩
  | n2 :: l, h, l0, n => by
    have h2 := h n2 (List.mem_cons_self ..)
    obtain ⟨a, b, e1, e2⟩ := run_fmt hs l (fun m hm => h m (List.mem_cons_of_mem _ hm)) (l0 ++ [n]) n2
    refine ⟨a, b, ?_, by rw [e2]; simp⟩
    have hst : stepP l0 n ((59 : UInt8).toNat : Int) = some (l0 ++ [n], -1) := by rw [stepP, if_pos (by decide)]
    rw [fmtG, List.cons_append, runP, hst]
    simp only [List.append_assoc]
    rw [run_num _ _ h2.1 h2.2, e1]
theorem parR_fmt {l : List Int} {s : List UInt8} (hs : trailB s = true) (h : okN l) (h1 : l ≠ [-1]) : parR (fmtG true l ++ s) = (l, s) := by
  cases l with
  | nil => rw [fmtG, List.nil_append, parR, run_trail hs]; simp
  | cons n l =>
    have h2 := h n (List.mem_cons_self ..)
    obtain ⟨a, b, e1, e2⟩ := run_fmt hs l (fun m hm => h m (List.mem_cons_of_mem _ hm)) [] n
    have hl : s.length < (fmtG true (n :: l) ++ s).length := by
      have : 0 < (fmtG true (n :: l)).length := by
        rw [fmtG]
        cases l with
        | cons m l => simp [fmtG]; omega
        | nil =>
          have hn : n ≠ -1 := fun e => h1 (by rw [e])
          have : Lib.decDigits n.toNat ≠ [] := by
            intro e
            have := Lib.decDigits_length n.toNat
            have := Lib.nDigits_pos n.toNat
            rw [e] at *
            simp at *
            omega
          rw [numB, if_pos (by omega)]
          have := List.length_pos_iff.2 this
          simp only [List.length_append]
          omega
      rw [List.length_append]; omega
    have er : runP (fmtG true (n :: l) ++ s) [] (-1) = (a, b, s) := by
      rw [fmtG, List.append_assoc, run_num _ _ h2.1 h2.2, e1]
    rw [parR, er]
    simp only
    rw [if_pos hl, e2]
    rfl
theorem head_num (n : Int) (h9 : n ≤ 9999) (b : UInt8) (r : List UInt8) (h : numB n = b :: r) : 48 ≤ b.toNat ∧ b.toNat ≤ 57 := by
  unfold numB at h
  split at h
  · have hd : ∀ u : Nat, ∀ c ∈ Lib.decDigits u, 48 ≤ c.toNat ∧ c.toNat ≤ 57 := by
      intro u
      induction u using Nat.strongRecOn with
      | _ u ih =>
        intro c hc
        rw [Lib.decDigits] at hc
        split at hc
        · simp only [List.mem_singleton] at hc
          subst hc
          rw [UInt8.toNat_ofNat', Nat.mod_eq_of_lt (by omega)]; omega
        · simp only [List.mem_append, List.mem_singleton] at hc
          rcases hc with hc | hc
          · exact ih (u / 10) (by omega) c hc
          · subst hc
            rw [UInt8.toNat_ofNat', Nat.mod_eq_of_lt (by omega)]; omega
    exact hd _ b (by rw [h]; simp)
  · cases h
theorem mark_fmt {p : Int} (hp : p = 0 ∨ privB p = true) (hp2 : 0 ≤ p ∧ p < 256) {l : List Int} {s : List UInt8} (hs : trailB s = true) (h : okN l) :
    markP ((if p = 0 then [] else [UInt8.ofNat p.toNat]) ++ fmtG true l ++ s) = (p, fmtG true l ++ s) := by
  by_cases h0 : p = 0
  · subst h0
    simp only [if_true, List.nil_append]
    have hh : ∀ b r, fmtG true l ++ s = b :: r → b.toNat < 60 := by
      intro b r e
      cases l with
      | nil =>
        rw [fmtG, List.nil_append] at e
        subst e
        simp only [trailB, List.any_cons, Bool.not_or, Bool.and_eq_true, Bool.not_eq_true', badB, Bool.or_eq_false_iff, decide_eq_false_iff_not] at hs
        omega
      | cons n l =>
        have h2 := h n (List.mem_cons_self ..)
        rw [fmtG] at e
        cases hn : numB n with
        | cons c q =>
          have := head_num n h2.2 c q hn
          rw [hn] at e
          simp only [List.cons_append, List.cons.injEq] at e
          rw [← e.1]; omega
        | nil =>
          rw [hn, List.nil_append] at e
          cases l with
          | cons m l =>
            rw [fmtG] at e
            simp only [List.cons_append, List.cons.injEq] at e
            rw [← e.1]; decide
          | nil =>
            rw [fmtG, List.nil_append] at e
            subst e
            simp only [trailB, List.any_cons, Bool.not_or, Bool.and_eq_true, Bool.not_eq_true', badB, Bool.or_eq_false_iff, decide_eq_false_iff_not] at hs
            omega
    generalize fmtG true l ++ s = t at *
    cases t with
    | nil => rfl
    | cons b r =>
      have := hh b r rfl
      have hv : privB b.toNat = false := by
        simp only [privB, Bool.and_eq_false_iff, decide_eq_false_iff_not]
        omega
      simp [markP, hv]
  · have hv : privB p = true := by rcases hp with h | h; exact absurd h h0; exact h
    have hb : ((UInt8.ofNat p.toNat).toNat : Int) = p := by
      rw [UInt8.toNat_ofNat', Nat.mod_eq_of_lt (by omega)]; omega
    rw [if_neg h0]
    simp only [List.cons_append, List.nil_append, markP, hb, hv, if_true]
theorem parse_fmt {p : Int} (hp2 : 0 ≤ p ∧ p < 256) {l : List Int} {s t : List UInt8} (h : fmtS p l s = (t, 0)) : parseS t = (p, l, s, 0) := by
  unfold fmtS at h
  split at h
  · simp at h
  rename_i c1
  split at h
  · simp at h
  rename_i c2
  split at h
  · simp at h
  rename_i c3
  simp only [Prod.mk.injEq, and_true] at h
  simp only [not_or, not_and, Bool.not_eq_false] at c1
  simp only [Bool.not_eq_true] at c2
  simp only [Bool.not_eq_false] at c3
  obtain ⟨a1, a2, a3⟩ := c1
  have hok : okN l := by
    intro n hn
    have h1 := List.any_eq_false.1 c2 n hn
    simp only [lowB, decide_eq_true_eq] at h1
    have c3' := c3
    simp only [limB, Bool.and_eq_true, Bool.not_eq_true'] at c3'
    have h2 := List.any_eq_false.1 c3'.2 n hn
    simp only [over9999, decide_eq_true_eq] at h2
    omega
  have hp : p = 0 ∨ privB p = true := by
    by_cases h0 : p = 0
    · exact .inl h0
    · exact .inr (a1 h0)
  have hm := mark_fmt hp hp2 a2 hok
  rw [h] at hm
  have hr := parR_fmt a2 hok a3
  unfold parseS
  rw [hm]
  simp only [hr, a2, c3]
  simp
end Go.VI

namespace Go.VI
open Go.Proofs
set_option maxRecDepth 100000
set_option linter.unusedSimpArgs false
set_option linter.unusedVariables false
set_option maxHeartbeats 4000000
def goodE (e : Ev) : Prop := EvR e ∧ checkS e = 0
def goodL (l : List Ev) : Prop := ∀ e ∈ l, goodE e
end Go.VI

namespace Go.VI
open Go.Proofs
set_option maxRecDepth 100000
set_option linter.unusedSimpArgs false
set_option linter.unusedVariables false
set_option maxHeartbeats 4000000
theorem fmt_ok {p : Int} {l : List Int} {s : List UInt8} (h : (fmtS p l s).2 = 0) : (p = 0 ∨ privB p = true) ∧ trailB s = true ∧ l ≠ [-1] ∧ l.any lowB = false ∧ limB l s = true ∧ (fmtS p l s).1 = (if p = 0 then [] else [UInt8.ofNat p.toNat]) ++ fmtG true l ++ s := by
  unfold fmtS at h ⊢
  split at h
  · cases h
  · rename_i h1
    split at h
    · cases h
    · rename_i h2
      split at h
      · cases h
      · rename_i h3
        rw [if_neg h1, if_neg h2, if_neg h3]
        refine ⟨?_, ?_, fun q => h1 (.inr (.inr q)), by simpa using h2, by simpa using h3, rfl⟩
        · by_cases q : p = 0
          · exact .inl q
          · exact .inr (by
              cases hv : privB p with
              | true => rfl
              | false => exact absurd (.inl ⟨q, hv⟩) h1)
        · cases ht : trailB s with
          | true => rfl
          | false => exact absurd (.inr (.inl ht)) h1
theorem fmt_len {p : Int} {l : List Int} {s : List UInt8} (h : (fmtS p l s).2 = 0) : l.length ≤ 16 ∧ s.length ≤ 2 ∧ (fmtS p l s).1.length ≤ 400 := by
  obtain ⟨_, _, _, _, h5, h6⟩ := fmt_ok h
  have hg := fmtG_len l true (lim9 h5)
  simp only [limB, Bool.and_eq_true, decide_eq_true_eq] at h5
  refine ⟨h5.1.1, h5.1.2, ?_⟩
  rw [h6]
  simp only [List.length_append]
  have : (if p = 0 then ([] : List UInt8) else [UInt8.ofNat p.toNat]).length ≤ 1 := by split <;> simp
  omega
theorem check_len {e : Ev} (h : checkS e = 0) : e.i.length ≤ 2 ∧ e.t.length ≤ 256 ∧ e.ps.length ≤ 16 ∧ (e.k = 4 → (fmtS e.v e.ps e.i).1.length ≤ 400) := by
  unfold checkS at h
  split at h
  · cases h
  rename_i hk
  split at h
  · rename_i hr
    unfold rightS at hr
    have z : ∀ {α : Type} {l : List α}, l.isEmpty = true → l.length = 0 := fun {α l} h => by cases l with | nil => rfl | cons => cases h
    repeat' split at hr
    · simp only [rightP, Bool.and_eq_true] at hr
      have := z hr.2.1.1.2; have := z hr.2.1.2; have := z hr.2.2
      refine ⟨by omega, by omega, by omega, fun h => by omega⟩
    · simp only [rightC, Bool.and_eq_true] at hr
      have := z hr.2.1.1.2; have := z hr.2.1.2; have := z hr.2.2
      refine ⟨by omega, by omega, by omega, fun h => by omega⟩
    · simp only [rightE, Bool.and_eq_true, Bool.not_eq_true', decide_eq_false_iff_not] at hr
      have := z hr.2.1.2; have := z hr.2.2
      refine ⟨by omega, by omega, by omega, fun h => by omega⟩
    · simp only [rightQ, Bool.and_eq_true, decide_eq_true_eq] at hr
      have := z hr.2.2
      have := fmt_len hr.1.1
      refine ⟨by omega, by omega, by omega, fun h => by omega⟩
    · simp only [rightO, Bool.and_eq_true, Bool.not_eq_true', decide_eq_false_iff_not] at hr
      have := z hr.2.1.2; have := z hr.2.2
      refine ⟨by omega, by omega, by omega, fun h => by omega⟩
    · cases hr
  · cases h
theorem c13 (e : Ev) (he : EvR e) (hF : e.k = 4 → FmtOK e) : ∃ L, callT E 13 [evA e] [] = some (encA e, L) := by
  rw [evA_eq]
  unfold encA
  have hik := fun H => ik11 e he hF H
  by_cases h0 : checkS e = 0
  rotate_left
  · rw [if_neg h0]
    generalize checkS e = q at *
    (rw [callT_eq Tryd.func13 rfl fok13 (by simp [Tryd.ntmps13])]; simp (disch := first | omega | (simp only [List.length_append, List.length_map, List.length_set, List.length_cons, List.length_nil, List.length_take, List.length_drop, List.length_append, List.length_cons, List.length_nil]; omega)) only [va0, va1, va2, va3, va4, va5, va6, va7, va8, va9, va10, va11, va12, va13, va14, va15, vb0, vb1, vb2, vb3, w_i8, w_u8, w_i16, w_u16, w_i32, w_u32, w_i64, w_u64, lt_T, lt_F, le_T, le_F, nlt_T, nlt_F, nle_T, nle_F, List.take_of_length_le, gB, gcW, gcR, posIn, renA, renL, Chunk.ren, Chunk.refs, evOpD, touchD, stepC, isFresh, nFresh, freshOf, mkR, hole, evL, evH, opd, get, putD, ofVal, cellOf, loadE, behind, lenE, idxAddrE, idxE, addPtr, intE, strE, unE, convE, AV.int, AV.bool, AV.str, ivs, take, frameOf, firstRegion, refsA, refsL, one, cellsA, floatOk, apartT, List.map, if_true, if_false, E_P, E_glob0, reduceCtorEq, beq_self_eq_true, decide_true, decide_false, ↓reduceIte, Nat.reduceEqDiff, cond_true, cond_false, or_true, true_or, or_false, false_or, and_true, true_and, and_self, false_and, and_false, not_true, not_false_iff, Nat.reduceAdd, Nat.reduceSub, Nat.reduceMul, Nat.reduceLT, Nat.reduceLeDiff, Int.reduceToNat, Int.reduceLT, Int.reduceLE, Option.getD, Int.reduceMul, Int.reduceAdd, List.drop, List.take, Nat.reduceBEq, List.isEmpty, Int.reduceEq, Int.reduceNe, Int.reduceNeg, Int.reduceGT, Int.reduceGE, beq_true, beq_false, UInt8.reduceToNat, eqE, eq_self, foldE, maxE, minE, eq_T, eq_F, ndec, odec, adec, sdec, fillA, over, chop, List.replicate, leavesOk, leafOk, cellsEq, cellEq, E_byref, en13, bs29, bs47, bs49, hik, h0, rowsB_num, Option.map_some, List.map_cons, List.map_nil, List.length_cons, List.length_nil]; exact ⟨_, rfl⟩)
  · have hk := check_k h0
    obtain ⟨hi, ht, _, hf⟩ := check_len h0
    rw [if_pos h0, h0]
    rw [h0] at hik
    unfold encS by1
    rcases hk with hk | hk | hk | hk | hk
    all_goals rw [hk] at hik ⊢
    · have hik2 := fun H => ik22 e.r he.1 H
      simp only [Int.reduceEq, if_true, if_false]
      (rw [callT_eq Tryd.func13 rfl fok13 (by simp [Tryd.ntmps13])]; simp (disch := first | omega | (simp only [List.length_append, List.length_map, List.length_set, List.length_cons, List.length_nil, List.length_take, List.length_drop, List.length_append, List.length_cons, List.length_nil]; omega)) only [va0, va1, va2, va3, va4, va5, va6, va7, va8, va9, va10, va11, va12, va13, va14, va15, vb0, vb1, vb2, vb3, w_i8, w_u8, w_i16, w_u16, w_i32, w_u32, w_i64, w_u64, lt_T, lt_F, le_T, le_F, nlt_T, nlt_F, nle_T, nle_F, List.take_of_length_le, gB, gcW, gcR, posIn, renA, renL, Chunk.ren, Chunk.refs, evOpD, touchD, stepC, isFresh, nFresh, freshOf, mkR, hole, evL, evH, opd, get, putD, ofVal, cellOf, loadE, behind, lenE, idxAddrE, idxE, addPtr, intE, strE, unE, convE, AV.int, AV.bool, AV.str, ivs, take, frameOf, firstRegion, refsA, refsL, one, cellsA, floatOk, apartT, List.map, if_true, if_false, E_P, E_glob0, reduceCtorEq, beq_self_eq_true, decide_true, decide_false, ↓reduceIte, Nat.reduceEqDiff, cond_true, cond_false, or_true, true_or, or_false, false_or, and_true, true_and, and_self, false_and, and_false, not_true, not_false_iff, Nat.reduceAdd, Nat.reduceSub, Nat.reduceMul, Nat.reduceLT, Nat.reduceLeDiff, Int.reduceToNat, Int.reduceLT, Int.reduceLE, Option.getD, Int.reduceMul, Int.reduceAdd, List.drop, List.take, Nat.reduceBEq, List.isEmpty, Int.reduceEq, Int.reduceNe, Int.reduceNeg, Int.reduceGT, Int.reduceGE, beq_true, beq_false, UInt8.reduceToNat, eqE, eq_self, foldE, maxE, minE, eq_T, eq_F, ndec, odec, adec, sdec, fillA, over, chop, List.replicate, leavesOk, leafOk, cellsEq, cellEq, E_byref, en13, bs29, bs47, bs49, hik, hik2, rowsB_num, Option.map_some, List.map_cons, List.map_nil, List.length_cons, List.length_nil]; exact ⟨_, rfl⟩)
    · simp only [Int.reduceEq, if_true, if_false]
      (rw [callT_eq Tryd.func13 rfl fok13 (by simp [Tryd.ntmps13])]; simp (disch := first | omega | (simp only [List.length_append, List.length_map, List.length_set, List.length_cons, List.length_nil, List.length_take, List.length_drop, List.length_append, List.length_cons, List.length_nil]; omega)) only [va0, va1, va2, va3, va4, va5, va6, va7, va8, va9, va10, va11, va12, va13, va14, va15, vb0, vb1, vb2, vb3, w_i8, w_u8, w_i16, w_u16, w_i32, w_u32, w_i64, w_u64, lt_T, lt_F, le_T, le_F, nlt_T, nlt_F, nle_T, nle_F, List.take_of_length_le, gB, gcW, gcR, posIn, renA, renL, Chunk.ren, Chunk.refs, evOpD, touchD, stepC, isFresh, nFresh, freshOf, mkR, hole, evL, evH, opd, get, putD, ofVal, cellOf, loadE, behind, lenE, idxAddrE, idxE, addPtr, intE, strE, unE, convE, AV.int, AV.bool, AV.str, ivs, take, frameOf, firstRegion, refsA, refsL, one, cellsA, floatOk, apartT, List.map, if_true, if_false, E_P, E_glob0, reduceCtorEq, beq_self_eq_true, decide_true, decide_false, ↓reduceIte, Nat.reduceEqDiff, cond_true, cond_false, or_true, true_or, or_false, false_or, and_true, true_and, and_self, false_and, and_false, not_true, not_false_iff, Nat.reduceAdd, Nat.reduceSub, Nat.reduceMul, Nat.reduceLT, Nat.reduceLeDiff, Int.reduceToNat, Int.reduceLT, Int.reduceLE, Option.getD, Int.reduceMul, Int.reduceAdd, List.drop, List.take, Nat.reduceBEq, List.isEmpty, Int.reduceEq, Int.reduceNe, Int.reduceNeg, Int.reduceGT, Int.reduceGE, beq_true, beq_false, UInt8.reduceToNat, eqE, eq_self, foldE, maxE, minE, eq_T, eq_F, ndec, odec, adec, sdec, fillA, over, chop, List.replicate, leavesOk, leafOk, cellsEq, cellEq, E_byref, en13, bs29, bs47, bs49, hik, rowsB_num, Option.map_some, List.map_cons, List.map_nil, List.length_cons, List.length_nil]; exact ⟨_, rfl⟩)
    · simp only [Int.reduceEq, if_true, if_false]
      (rw [callT_eq Tryd.func13 rfl fok13 (by simp [Tryd.ntmps13])]; simp (disch := first | omega | (simp only [List.length_append, List.length_map, List.length_set, List.length_cons, List.length_nil, List.length_take, List.length_drop, List.length_append, List.length_cons, List.length_nil]; omega)) only [va0, va1, va2, va3, va4, va5, va6, va7, va8, va9, va10, va11, va12, va13, va14, va15, vb0, vb1, vb2, vb3, w_i8, w_u8, w_i16, w_u16, w_i32, w_u32, w_i64, w_u64, lt_T, lt_F, le_T, le_F, nlt_T, nlt_F, nle_T, nle_F, List.take_of_length_le, gB, gcW, gcR, posIn, renA, renL, Chunk.ren, Chunk.refs, evOpD, touchD, stepC, isFresh, nFresh, freshOf, mkR, hole, evL, evH, opd, get, putD, ofVal, cellOf, loadE, behind, lenE, idxAddrE, idxE, addPtr, intE, strE, unE, convE, AV.int, AV.bool, AV.str, ivs, take, frameOf, firstRegion, refsA, refsL, one, cellsA, floatOk, apartT, List.map, if_true, if_false, E_P, E_glob0, reduceCtorEq, beq_self_eq_true, decide_true, decide_false, ↓reduceIte, Nat.reduceEqDiff, cond_true, cond_false, or_true, true_or, or_false, false_or, and_true, true_and, and_self, false_and, and_false, not_true, not_false_iff, Nat.reduceAdd, Nat.reduceSub, Nat.reduceMul, Nat.reduceLT, Nat.reduceLeDiff, Int.reduceToNat, Int.reduceLT, Int.reduceLE, Option.getD, Int.reduceMul, Int.reduceAdd, List.drop, List.take, Nat.reduceBEq, List.isEmpty, Int.reduceEq, Int.reduceNe, Int.reduceNeg, Int.reduceGT, Int.reduceGE, beq_true, beq_false, UInt8.reduceToNat, eqE, eq_self, foldE, maxE, minE, eq_T, eq_F, ndec, odec, adec, sdec, fillA, over, chop, List.replicate, leavesOk, leafOk, cellsEq, cellEq, E_byref, en13, bs29, bs47, bs49, hik, rowsB_num, Option.map_some, List.map_cons, List.map_nil, List.length_cons, List.length_nil]; exact ⟨_, rfl⟩)
    · have hik2 := hF hk
      have hf := hf hk
      unfold FmtOK fmtA at hik2
      generalize fmtS e.v e.ps e.i = q at *
      simp only [Int.reduceEq, if_true, if_false]
      (rw [callT_eq Tryd.func13 rfl fok13 (by simp [Tryd.ntmps13])]; simp (disch := first | omega | (simp only [List.length_append, List.length_map, List.length_set, List.length_cons, List.length_nil, List.length_take, List.length_drop, List.length_append, List.length_cons, List.length_nil]; omega)) only [va0, va1, va2, va3, va4, va5, va6, va7, va8, va9, va10, va11, va12, va13, va14, va15, vb0, vb1, vb2, vb3, w_i8, w_u8, w_i16, w_u16, w_i32, w_u32, w_i64, w_u64, lt_T, lt_F, le_T, le_F, nlt_T, nlt_F, nle_T, nle_F, List.take_of_length_le, gB, gcW, gcR, posIn, renA, renL, Chunk.ren, Chunk.refs, evOpD, touchD, stepC, isFresh, nFresh, freshOf, mkR, hole, evL, evH, opd, get, putD, ofVal, cellOf, loadE, behind, lenE, idxAddrE, idxE, addPtr, intE, strE, unE, convE, AV.int, AV.bool, AV.str, ivs, take, frameOf, firstRegion, refsA, refsL, one, cellsA, floatOk, apartT, List.map, if_true, if_false, E_P, E_glob0, reduceCtorEq, beq_self_eq_true, decide_true, decide_false, ↓reduceIte, Nat.reduceEqDiff, cond_true, cond_false, or_true, true_or, or_false, false_or, and_true, true_and, and_self, false_and, and_false, not_true, not_false_iff, Nat.reduceAdd, Nat.reduceSub, Nat.reduceMul, Nat.reduceLT, Nat.reduceLeDiff, Int.reduceToNat, Int.reduceLT, Int.reduceLE, Option.getD, Int.reduceMul, Int.reduceAdd, List.drop, List.take, Nat.reduceBEq, List.isEmpty, Int.reduceEq, Int.reduceNe, Int.reduceNeg, Int.reduceGT, Int.reduceGE, beq_true, beq_false, UInt8.reduceToNat, eqE, eq_self, foldE, maxE, minE, eq_T, eq_F, ndec, odec, adec, sdec, fillA, over, chop, List.replicate, leavesOk, leafOk, cellsEq, cellEq, E_byref, en13, bs29, bs47, bs49, hik, hik2, rowsB_num, Option.map_some, List.map_cons, List.map_nil, List.length_cons, List.length_nil]; exact ⟨_, rfl⟩)
    · simp only [Int.reduceEq, if_true, if_false]
      (rw [callT_eq Tryd.func13 rfl fok13 (by simp [Tryd.ntmps13])]; simp (disch := first | omega | (simp only [List.length_append, List.length_map, List.length_set, List.length_cons, List.length_nil, List.length_take, List.length_drop, List.length_append, List.length_cons, List.length_nil]; omega)) only [va0, va1, va2, va3, va4, va5, va6, va7, va8, va9, va10, va11, va12, va13, va14, va15, vb0, vb1, vb2, vb3, w_i8, w_u8, w_i16, w_u16, w_i32, w_u32, w_i64, w_u64, lt_T, lt_F, le_T, le_F, nlt_T, nlt_F, nle_T, nle_F, List.take_of_length_le, gB, gcW, gcR, posIn, renA, renL, Chunk.ren, Chunk.refs, evOpD, touchD, stepC, isFresh, nFresh, freshOf, mkR, hole, evL, evH, opd, get, putD, ofVal, cellOf, loadE, behind, lenE, idxAddrE, idxE, addPtr, intE, strE, unE, convE, AV.int, AV.bool, AV.str, ivs, take, frameOf, firstRegion, refsA, refsL, one, cellsA, floatOk, apartT, List.map, if_true, if_false, E_P, E_glob0, reduceCtorEq, beq_self_eq_true, decide_true, decide_false, ↓reduceIte, Nat.reduceEqDiff, cond_true, cond_false, or_true, true_or, or_false, false_or, and_true, true_and, and_self, false_and, and_false, not_true, not_false_iff, Nat.reduceAdd, Nat.reduceSub, Nat.reduceMul, Nat.reduceLT, Nat.reduceLeDiff, Int.reduceToNat, Int.reduceLT, Int.reduceLE, Option.getD, Int.reduceMul, Int.reduceAdd, List.drop, List.take, Nat.reduceBEq, List.isEmpty, Int.reduceEq, Int.reduceNe, Int.reduceNeg, Int.reduceGT, Int.reduceGE, beq_true, beq_false, UInt8.reduceToNat, eqE, eq_self, foldE, maxE, minE, eq_T, eq_F, ndec, odec, adec, sdec, fillA, over, chop, List.replicate, leavesOk, leafOk, cellsEq, cellEq, E_byref, en13, bs29, bs47, bs49, hik, rowsB_num, Option.map_some, List.map_cons, List.map_nil, List.length_cons, List.length_nil]; exact ⟨_, rfl⟩)
theorem ik13 (e : Ev) (he : EvR e) (hF : e.k = 4 → FmtOK e) (H : Hp) : isoK E (callT E) 13 [.agg [.i (.v (.int .i64 e.k)), .i (.v (.int .i32 e.r)), .i (.v (.int .u8 e.c)), .i (.v (.int .u8 e.v)), .i (.str e.i), .i (.sl 1 (rows64 e.ps) false), .i (.str e.t)]] H = some (encA e, H) := isoK_val rfl rfl rfl (c13 e he hF)
end Go.VI

namespace Go.VI
open Go.Proofs
set_option maxRecDepth 100000
set_option linter.unusedSimpArgs false
set_option linter.unusedVariables false
set_option maxHeartbeats 4000000
theorem byU (b : UInt8) : by1 (b.toNat : Int) = [b] := by simp [by1]
def fitE (i : List UInt8) (b : UInt8) : Prop := i.length ≤ 2 ∧ i.any (outB 32 47) = false ∧ 48 ≤ (b.toNat : Int) ∧ (b.toNat : Int) ≤ 126 ∧ ¬ (i = [] ∧ (b.toNat : Int) = 91) ∧ ¬ (i = [] ∧ (b.toNat : Int) = 93)
inductive Shape (e : Ev) : Prop
  | pr (r : Int) (h : e = prEv r) (hg : goodR r = true) (h1 : 32 ≤ r) (h2 : r < 127 ∨ 159 < r)
  | ct (b : UInt8) (h : e = ctEv b) (h1 : (b.toNat : Int) < 32) (h2 : ¬ (b.toNat : Int) = 24) (h3 : ¬ (b.toNat : Int) = 26) (h4 : ¬ (b.toNat : Int) = 27)
  | es (i : List UInt8) (b : UInt8) (h : e = escEv i b) (h1 : fitE i b)
  | sq (v : Int) (ps : List Int) (i : List UInt8) (b : UInt8) (h : e = ⟨4, 0, b.toNat, v, i, ps, []⟩) (hv : 0 ≤ v ∧ v < 256) (hf : (fmtS v ps i).2 = 0) (h1 : 64 ≤ (b.toNat : Int)) (h2 : (b.toNat : Int) ≤ 126)
  | cm (t : List UInt8) (h : e = cmdEv t) (h1 : t.length ≤ 256) (h2 : t.any (outB 32 255) = false)
theorem zE {α : Type} {l : List α} (h : l.isEmpty = true) : l = [] := by cases l with | nil => rfl | cons => cases h
theorem shape {e : Ev} (he : goodE e) : Shape e := by
  obtain ⟨⟨hr, hc, hv⟩, hk⟩ := he
  obtain ⟨k, r, c, v, i, ps, t⟩ := e
  simp only at hr hc hv
  have hcu := u8_back hc
  unfold checkS at hk
  split at hk
  · cases hk
  split at hk
  · rename_i hk5 hr
    unfold rightS at hr
    simp only at hr hk5
    repeat' split at hr
    · rename_i h; subst h
      simp only [rightP, Bool.and_eq_true, Bool.not_eq_true', decide_eq_false_iff_not, decide_eq_true_eq, Bool.and_eq_false_iff] at hr
      obtain ⟨⟨⟨h1, h2⟩, h3⟩, ⟨⟨⟨h4, h5⟩, h6⟩, h7⟩, h8⟩ := hr
      subst h4 h5
      rw [zE h6, zE h7, zE h8]
      exact .pr r rfl h1 (by omega) (by omega)
    · rename_i h; subst h
      simp only [rightC, Bool.and_eq_true, Bool.not_eq_true', Bool.or_eq_false_iff, decide_eq_false_iff_not, decide_eq_true_eq] at hr
      obtain ⟨⟨⟨⟨h1, h2⟩, h3⟩, h3'⟩, ⟨⟨⟨h4, h5⟩, h6⟩, h7⟩, h8⟩ := hr
      subst h4 h5
      rw [zE h6, zE h7, zE h8]
      refine .ct (UInt8.ofNat c.toNat) ?_ (by omega) (by omega) (by omega) (by omega)
      unfold ctEv; rw [hcu]
    · rename_i h; subst h
      simp only [rightE, Bool.and_eq_true, Bool.not_eq_true', Bool.or_eq_false_iff, Bool.and_eq_false_iff, decide_eq_false_iff_not, decide_eq_true_eq] at hr
      obtain ⟨⟨⟨⟨h1, h2⟩, h3, h3'⟩, h9⟩, ⟨⟨h4, h5⟩, h7⟩, h8⟩ := hr
      subst h4 h5
      rw [zE h7, zE h8]
      refine .es i (UInt8.ofNat c.toNat) (by unfold escEv; rw [hcu]) ⟨by omega, h2, by omega, by omega, ?_, ?_⟩
      · rintro ⟨rfl, q⟩
        rcases h9 with h9 | h9
        · cases h9
        · omega
      · rintro ⟨rfl, q⟩
        rcases h9 with h9 | h9
        · cases h9
        · omega
    · rename_i h; subst h
      simp only [rightQ, Bool.and_eq_true, Bool.not_eq_true', Bool.or_eq_false_iff, decide_eq_false_iff_not, decide_eq_true_eq] at hr
      obtain ⟨⟨h1, h2, h3⟩, h4, h5⟩ := hr
      subst h4
      rw [zE h5]
      exact .sq v ps i (UInt8.ofNat c.toNat) (by rw [hcu]) hv h1 (by omega) (by omega)
    · rename_i h; subst h
      simp only [rightO, Bool.and_eq_true, Bool.not_eq_true', decide_eq_false_iff_not, decide_eq_true_eq] at hr
      obtain ⟨⟨h1, h2⟩, ⟨⟨⟨h4, h5⟩, h6⟩, h7⟩, h8⟩ := hr
      subst h4 h5 h6
      rw [zE h7, zE h8]
      exact .cm t rfl (by omega) h2
    · cases hr
  · cases hk
theorem common_n (p : Ps) {b : UInt8} (h1 : 32 ≤ (b.toNat : Int)) (h2 : (b.toNat : Int) < 127) : commonS p b = none := by
  unfold commonS
  rw [if_neg (by omega), if_neg (by omega), if_neg (by omega), if_neg (by omega), if_neg (by omega)]
theorem outB_n {lo hi : Int} {b : UInt8} (h : outB lo hi b = false) : lo ≤ (b.toNat : Int) ∧ (b.toNat : Int) ≤ hi := by
  simp [outB] at h; omega
theorem run_inter : ∀ (i bu : List UInt8), i.any (outB 32 47) = false → bu.length + i.length ≤ 3 → runF i ⟨1, [], bu⟩ = (⟨1, [], bu ++ i⟩, [])
  | [], bu, _, _ => by simp [runF]
  | b :: i, bu, h, hl => by
    rw [List.any_cons, Bool.or_eq_false_iff] at h
    have hb := outB_n h.1
    simp only [List.length_cons] at hl
    have h1 : readS ⟨1, [], bu⟩ b = (⟨1, [], bu ++ [b]⟩, []) := by
      simp only [readS, Int.reduceEq, if_false, if_true, escapedS, common_n _ hb.1 (show (b.toNat : Int) < 127 by omega), hb.2, appS]
      rw [if_pos (by omega)]
    rw [runF, h1, run_inter i (bu ++ [b]) h.2 (by simp; omega)]
    simp
theorem run_body : ∀ (i bu : List UInt8), i.any (outB 32 63) = false → bu.length + i.length ≤ 257 → runF i ⟨2, [], bu⟩ = (⟨2, [], bu ++ i⟩, [])
  | [], bu, _, _ => by simp [runF]
  | b :: i, bu, h, hl => by
    rw [List.any_cons, Bool.or_eq_false_iff] at h
    have hb := outB_n h.1
    simp only [List.length_cons] at hl
    have h1 : readS ⟨2, [], bu⟩ b = (⟨2, [], bu ++ [b]⟩, []) := by
      simp only [readS, Int.reduceEq, if_false, if_true, sequencedS, common_n _ hb.1 (show (b.toNat : Int) < 127 by omega), hb.2, appS]
      rw [if_pos (by omega)]
    rw [runF, h1, run_body i (bu ++ [b]) h.2 (by simp; omega)]
    simp
theorem run_text : ∀ (i bu : List UInt8), i.any (outB 32 255) = false → bu.length + i.length ≤ 256 → runF i ⟨3, [], bu⟩ = (⟨3, [], bu ++ i⟩, [])
  | [], bu, _, _ => by simp [runF]
  | b :: i, bu, h, hl => by
    rw [List.any_cons, Bool.or_eq_false_iff] at h
    have hb := outB_n h.1
    simp only [List.length_cons] at hl
    have h1 : readS ⟨3, [], bu⟩ b = (⟨3, [], bu ++ [b]⟩, []) := by
      simp only [readS, Int.reduceEq, if_false, commandedS]
      rw [if_neg (by omega), if_neg (by omega), if_neg (by omega), if_pos hb.1]
      simp only [appS]
      rw [if_pos (by omega)]
    rw [runF, h1, run_text i (bu ++ [b]) h.2 (by simp; omega)]
    simp
theorem dig_all (u : Nat) : (Lib.decDigits u).any (outB 32 63) = false := by
  induction u using Nat.strongRecOn with
  | _ u ih =>
    by_cases h : u < 10
    · rw [Lib.decDigits, dif_pos h]
      have hb : (UInt8.ofNat (48 + u)).toNat = 48 + u := by rw [UInt8.toNat_ofNat']; exact Nat.mod_eq_of_lt (by omega)
      simp only [List.any_cons, List.any_nil, Bool.or_false]
      exact outB_f (by omega) (by omega)
    · rw [Lib.decDigits, dif_neg h, List.any_append, ih (u / 10) (by omega)]
      have hb : (UInt8.ofNat (48 + u % 10)).toNat = 48 + u % 10 := by rw [UInt8.toNat_ofNat']; exact Nat.mod_eq_of_lt (by omega)
      simp only [List.any_cons, List.any_nil, Bool.or_false, Bool.false_or]
      exact outB_f (by omega) (by omega)
theorem dig_len : ∀ (k u : Nat), u < 10 ^ (k + 1) → (Lib.decDigits u).length ≤ k + 1
  | k, u, h => by
    by_cases h1 : u < 10
    · rw [Lib.decDigits, dif_pos h1]; simp
    · cases k with
      | zero => omega
      | succ k =>
        rw [Lib.decDigits, dif_neg h1, List.length_append]
        have := dig_len k (u / 10) (by rw [Nat.pow_succ] at h; omega)
        simp only [List.length_cons, List.length_nil]; omega
theorem num_all (n : Int) : (numB n).any (outB 32 63) = false := by
  unfold numB; split
  · exact dig_all _
  · rfl
theorem num_len {n : Int} (h : n ≤ 9999) : (numB n).length ≤ 4 := by
  unfold numB; split
  · exact dig_len 3 _ (by omega)
  · simp
theorem fmtG_all : ∀ (l : List Int) (b : Bool), (fmtG b l).any (outB 32 63) = false
  | [], b => by cases b <;> rfl
  | n :: l, true => by simp only [fmtG, List.any_append, num_all, fmtG_all l false, Bool.or_false]
  | n :: l, false => by simp only [fmtG, List.any_cons, List.any_append, num_all, fmtG_all l false, Bool.or_false]; rfl
theorem fmtG_len5 : ∀ (l : List Int) (b : Bool), (∀ n ∈ l, n ≤ 9999) → (fmtG b l).length ≤ 5 * l.length
  | [], b, _ => by cases b <;> simp [fmtG]
  | n :: l, b, h => by
    have h1 := num_len (h n (List.mem_cons_self ..))
    have h2 := fmtG_len5 l false fun x hx => h x (List.mem_cons_of_mem _ hx)
    cases b <;> simp only [fmtG, List.length_append, List.length_cons] <;> omega
theorem fmt_body {v : Int} (hv : 0 ≤ v ∧ v < 256) {ps : List Int} {i : List UInt8} (h : (fmtS v ps i).2 = 0) : (fmtS v ps i).1.any (outB 32 63) = false ∧ (fmtS v ps i).1.length ≤ 200 := by
  obtain ⟨h1, h2, _, _, h5, h6⟩ := fmt_ok h
  have hg := fmtG_len5 ps true (lim9 h5)
  simp only [limB, Bool.and_eq_true, decide_eq_true_eq] at h5
  rw [h6]
  constructor
  · rw [List.any_append, List.any_append, fmtG_all, Bool.or_false]
    have hm : (if v = 0 then ([] : List UInt8) else [UInt8.ofNat v.toNat]).any (outB 32 63) = false := by
      split
      · rfl
      · rename_i hv0
        have hu := u8_back hv
        have hp : 60 ≤ v ∧ v ≤ 63 := by
          rcases h1 with h1 | h1
          · exact absurd h1 hv0
          · simpa [privB] using h1
        simp only [List.any_cons, List.any_nil, Bool.or_false]
        exact outB_f (by omega) (by omega)
    rw [hm, Bool.false_or]
    rw [List.any_eq_false]
    intro x hx
    have : badB x = false := by
      simp only [trailB, Bool.not_eq_true', List.any_eq_false] at h2
      simpa using h2 x hx
    simp only [badB, Bool.or_eq_false_iff, decide_eq_false_iff_not] at this
    rw [outB_f (by omega) (by omega)]; simp
  · simp only [List.length_append]
    have : (if v = 0 then ([] : List UInt8) else [UInt8.ofNat v.toNat]).length ≤ 1 := by split <;> simp
    omega
theorem run_27 : readS p0 27 = (⟨1, [], []⟩, []) := rfl
theorem run_91 : readS ⟨1, [], []⟩ 91 = (⟨2, [], []⟩, []) := rfl
theorem run_93 : readS ⟨1, [], []⟩ 93 = (⟨3, [], []⟩, []) := rfl
theorem run_es {i : List UInt8} {b : UInt8} (h : fitE i b) : runF (27 :: (i ++ [b])) p0 = (p0, [escEv i b]) := by
  obtain ⟨h1, h2, h3, h4, h5, h6⟩ := h
  rw [runF, run_27, runF_app, run_inter i [] h2 (by simp; omega)]
  have : readS ⟨1, [], i⟩ b = (p0, [escEv i b]) := by
    simp only [readS, Int.reduceEq, if_false, if_true, escapedS, common_n _ (show 32 ≤ (b.toNat : Int) by omega) (show (b.toNat : Int) < 127 by omega)]
    rw [if_neg (by omega), if_neg h5, if_neg h6, if_pos (by omega)]; rfl
  simp only [List.nil_append, runF, this]
  rfl
theorem run_sq {v : Int} (hv : 0 ≤ v ∧ v < 256) {ps : List Int} {i : List UInt8} {b : UInt8} (h : (fmtS v ps i).2 = 0) (h1 : 64 ≤ (b.toNat : Int)) (h2 : (b.toNat : Int) ≤ 126) :
    runF (27 :: 91 :: ((fmtS v ps i).1 ++ [b])) p0 = (p0, [⟨4, 0, b.toNat, v, i, ps, []⟩]) := by
  obtain ⟨g1, g2⟩ := fmt_body hv h
  have hp := parse_fmt hv (show fmtS v ps i = ((fmtS v ps i).1, 0) by rw [← h])
  generalize (fmtS v ps i).1 = t at *
  rw [runF, run_27, runF, run_91, runF_app, run_body t [] g1 (by simp; omega)]
  have : readS ⟨2, [], t⟩ b = (p0, [⟨4, 0, b.toNat, v, i, ps, []⟩]) := by
    simp only [readS, Int.reduceEq, if_false, if_true, sequencedS, common_n _ (show 32 ≤ (b.toNat : Int) by omega) (show (b.toNat : Int) < 127 by omega)]
    rw [if_neg (by omega), if_neg (by omega), hp]; rfl
  simp only [List.nil_append, runF, this]
  rfl
theorem run_cm {t : List UInt8} (h1 : t.length ≤ 256) (h2 : t.any (outB 32 255) = false) : runF (27 :: 93 :: (t ++ [7])) p0 = (p0, [cmdEv t]) := by
  rw [runF, run_27, runF, run_93, runF_app, run_text t [] h2 (by simp; omega)]
  have : readS ⟨3, [], t⟩ 7 = (p0, [cmdEv t]) := rfl
  simp only [List.nil_append, runF, this]
  rfl
theorem run_ct {b : UInt8} (h1 : (b.toNat : Int) < 32) (h2 : ¬ (b.toNat : Int) = 24) (h3 : ¬ (b.toNat : Int) = 26) (h4 : ¬ (b.toNat : Int) = 27) : runF [b] p0 = (p0, [ctEv b]) := by
  have : readS p0 b = (p0, [ctEv b]) := by
    simp only [readS, p0, if_true, plainS]
    rw [if_neg (by omega), if_neg h4, if_neg (by omega)]; rfl
  simp only [runF, this]; rfl
theorem by8_snoc (l : List Int) (x : Int) : by8 l ++ [UInt8.ofNat x.toNat] = by8 (l ++ [x]) := by simp [by8]
theorem hi_read {l : List Int} {x : Int} (hx : 128 ≤ x ∧ x < 256) : readS ⟨0, by8 l, []⟩ (UInt8.ofNat x.toNat) = (⟨0, decRest (by8 (l ++ [x])), []⟩, prints (decOut (by8 (l ++ [x])))) := by
  have := u8_back (p := x) ⟨by omega, hx.2⟩
  simp only [readS, if_true, plainS]
  rw [if_pos (by omega), by8_snoc]
theorem step_pend {l : List Int} {x : Int} (hx : 128 ≤ x ∧ x < 256) (hl : ∀ y ∈ l ++ [x], 0 ≤ y ∧ y < 256) {s : Sq} (hs : 0 < s.mi) (h : runI (l ++ [x]) 0 dec0 = ⟨s, [], 0⟩) : readS ⟨0, by8 l, []⟩ (UInt8.ofNat x.toNat) = (⟨0, by8 (l ++ [x]), []⟩, []) := by
  have hd : decD (by8 (l ++ [x])) = ⟨s, [], 0⟩ := (runI_by8 _ _ _ hl).trans h
  rw [hi_read hx]
  unfold decRest decOut
  rw [hd, if_neg (by simp only; omega)]
  rfl
theorem step_done {l : List Int} {x r : Int} (hx : 128 ≤ x ∧ x < 256) (hl : ∀ y ∈ l ++ [x], 0 ≤ y ∧ y < 256) {s : Sq} (hs : s.mi = 0) (hr : okR r = true) (h : runI (l ++ [x]) 0 dec0 = ⟨s, [r], 0⟩) : readS ⟨0, by8 l, []⟩ (UInt8.ofNat x.toNat) = (p0, [prEv r]) := by
  have hd : decD (by8 (l ++ [x])) = ⟨s, [r], 0⟩ := (runI_by8 _ _ _ hl).trans h
  rw [hi_read hx]
  unfold decRest decOut
  rw [hd, if_pos hs]
  simp only [prints, List.filter_cons, hr, if_true, List.filter_nil, List.map_cons, List.map_nil]
  rfl
theorem run_pr {r : Int} (hg : goodR r = true) (h1 : 32 ≤ r) (h2 : r < 127 ∨ 159 < r) : runF (by8 (encR r)) p0 = (p0, [prEv r]) := by
  have hb := encR_b r
  have hgr : r ≤ 1114111 ∧ ¬ (55296 ≤ r ∧ r ≤ 57343) := by simp [goodR] at hg; omega
  have hok : okR r = true := by simp [okR]; omega
  unfold encR at hb ⊢
  rw [if_neg (by omega)] at hb ⊢
  by_cases c1 : r ≤ 127
  · rw [if_pos c1]
    have hu := u8_back (p := r) ⟨by omega, by omega⟩
    have := ascii_read [] (UInt8.ofNat r.toNat) (by omega) (by omega)
    rw [hu] at this
    show runF [UInt8.ofNat r.toNat] p0 = _
    simp only [runF, show readS p0 (UInt8.ofNat r.toNat) = _ from this]
    rfl
  · rw [if_neg c1] at hb ⊢
    by_cases c2 : r ≤ 2047
    · rw [if_pos c2] at hb ⊢
      obtain ⟨d1, d2⟩ := dec_2 (r := r) (by omega) c2
      have s1 : readS p0 (UInt8.ofNat (192 + r / 64).toNat) = (⟨0, by8 [192 + r / 64], []⟩, []) := step_pend (l := []) (by omega) (fun y hy => hb y (by simp at hy ⊢; exact .inl hy)) (by exact (by decide : (0 : Int) < 1)) d2
      have s2 := step_done (l := [192 + r / 64]) (x := 128 + r % 64) (by omega) hb rfl hok d1
      show runF (UInt8.ofNat (192 + r / 64).toNat :: [UInt8.ofNat (128 + r % 64).toNat]) p0 = _
      simp only [runF, s1, s2]
      rfl
    · rw [if_neg c2] at hb ⊢
      by_cases c3 : r ≤ 65535
      · rw [if_pos c3] at hb ⊢
        obtain ⟨d1, ⟨sa, ma, d2⟩, sb, mb, d3⟩ := dec_3 (r := r) (by omega) c3 (by omega)
        have s1 : readS p0 (UInt8.ofNat (224 + r / 4096).toNat) = (⟨0, by8 [224 + r / 4096], []⟩, []) := step_pend (l := []) (by omega) (fun y hy => hb y (by simp at hy ⊢; exact .inl hy)) ma d2
        have s2 : readS ⟨0, by8 [224 + r / 4096], []⟩ (UInt8.ofNat (128 + r / 64 % 64).toNat) = (⟨0, by8 [224 + r / 4096, 128 + r / 64 % 64], []⟩, []) := step_pend (l := [224 + r / 4096]) (by omega) (fun y hy => hb y (by simp at hy ⊢; omega)) mb d3
        have s3 := step_done (l := [224 + r / 4096, 128 + r / 64 % 64]) (x := 128 + r % 64) (by omega) hb rfl hok d1
        show runF (UInt8.ofNat (224 + r / 4096).toNat :: UInt8.ofNat (128 + r / 64 % 64).toNat :: [UInt8.ofNat (128 + r % 64).toNat]) p0 = _
        simp only [runF, s1, s2, s3]
        rfl
      · rw [if_neg c3] at hb ⊢
        obtain ⟨d1, ⟨sa, ma, d2⟩, ⟨sb, mb, d3⟩, sc, mc, d4⟩ := dec_4 (r := r) (by omega) (by omega)
        have s1 : readS p0 (UInt8.ofNat (240 + r / 262144).toNat) = (⟨0, by8 [240 + r / 262144], []⟩, []) := step_pend (l := []) (by omega) (fun y hy => hb y (by simp at hy ⊢; exact .inl hy)) ma d2
        have s2 : readS ⟨0, by8 [240 + r / 262144], []⟩ (UInt8.ofNat (128 + r / 4096 % 64).toNat) = (⟨0, by8 [240 + r / 262144, 128 + r / 4096 % 64], []⟩, []) := step_pend (l := [240 + r / 262144]) (by omega) (fun y hy => hb y (by simp at hy ⊢; omega)) mb d3
        have s3 : readS ⟨0, by8 [240 + r / 262144, 128 + r / 4096 % 64], []⟩ (UInt8.ofNat (128 + r / 64 % 64).toNat) = (⟨0, by8 [240 + r / 262144, 128 + r / 4096 % 64, 128 + r / 64 % 64], []⟩, []) := step_pend (l := [240 + r / 262144, 128 + r / 4096 % 64]) (by omega) (fun y hy => hb y (by simp at hy ⊢; omega)) mc d4
        have s4 := step_done (l := [240 + r / 262144, 128 + r / 4096 % 64, 128 + r / 64 % 64]) (x := 128 + r % 64) (by omega) hb rfl hok d1
        show runF (UInt8.ofNat (240 + r / 262144).toNat :: UInt8.ofNat (128 + r / 4096 % 64).toNat :: UInt8.ofNat (128 + r / 64 % 64).toNat :: [UInt8.ofNat (128 + r % 64).toNat]) p0 = _
        simp only [runF, s1, s2, s3, s4]
        rfl
theorem run_enc {e : Ev} (h : goodE e) : runF (encS e) p0 = (p0, [e]) := by
  cases shape h with
  | pr r h hg h1 h2 => subst h; exact run_pr hg h1 h2
  | ct b h h1 h2 h3 h4 => subst h; simp only [encS, ctEv, Int.reduceEq, if_false, if_true, byU]; exact run_ct h1 h2 h3 h4
  | es i b h h1 => subst h; simp only [encS, escEv, Int.reduceEq, if_false, if_true, byU]; exact run_es h1
  | sq v ps i b h hv hf h1 h2 => subst h; simp only [encS, Int.reduceEq, if_false, if_true, byU]; exact run_sq hv hf h1 h2
  | cm t h h1 h2 => subst h; simp only [encS, cmdEv, Int.reduceEq, if_false]; exact run_cm h1 h2
end Go.VI

namespace Go.VI
open Go.Proofs
set_option maxRecDepth 100000
set_option linter.unusedSimpArgs false
set_option linter.unusedVariables false
set_option maxHeartbeats 4000000
theorem encR_len (r : Int) : (encR r).length ≤ 4 := by
  unfold encR
  repeat' split
  all_goals simp only [List.length_cons, List.length_nil]; omega
end Go.VI

namespace Go.VI
open Go.Proofs
set_option maxRecDepth 100000
set_option linter.unusedSimpArgs false
set_option linter.unusedVariables false
set_option maxHeartbeats 4000000
theorem l46 (l : List Int) (hl : l.length < 100000) (k : Nat) (hk : k ≤ l.length) :
    ∃ fr, rl E 0 46 (loopAt Tryd.f46 0) [(0, .i (.sl 1 (rows64 l) false)), (1, .i (.sl 1 (rows64 l) false)), (5, .i (.v (.int .i64 k)))] [] = some (.exit 0, fr, []) := by
  rw [rl_step (fn := Tryd.f46) (k := 0) rfl]
  by_cases hlt : k < l.length
  · have hrow := rows64_at hlt
    obtain ⟨fr, e⟩ := l46 l hl (k + 1) hlt
    refine ⟨fr, Eq.trans ?_ e⟩
    clear e
    generalize l[k] = x at *
    simp (disch := first | omega | (simp only [List.length_append, List.length_map, List.length_set, List.length_cons, List.length_nil, List.length_take, List.length_drop, rows64_len]; omega)) only [va0, va1, va2, va3, va4, va5, va6, va7, va8, va9, va10, va11, va12, va13, va14, va15, vb0, vb1, vb2, vb3, w_i8, w_u8, w_i16, w_u16, w_i32, w_u32, w_i64, w_u64, lt_T, lt_F, le_T, le_F, nlt_T, nlt_F, nle_T, nle_F, List.take_of_length_le, gB, gcW, gcR, posIn, renA, renL, Chunk.ren, Chunk.refs, evOpD, touchD, stepC, isFresh, nFresh, freshOf, mkR, hole, evL, evH, opd, get, putD, ofVal, cellOf, loadE, behind, lenE, idxAddrE, idxE, addPtr, intE, strE, unE, convE, AV.int, AV.bool, AV.str, ivs, take, frameOf, firstRegion, refsA, refsL, one, cellsA, floatOk, apartT, List.map, if_true, if_false, E_P, E_glob0, reduceCtorEq, beq_self_eq_true, decide_true, decide_false, ↓reduceIte, Nat.reduceEqDiff, cond_true, cond_false, or_true, true_or, or_false, false_or, and_true, true_and, and_self, false_and, and_false, not_true, not_false_iff, Nat.reduceAdd, Nat.reduceSub, Nat.reduceMul, Nat.reduceLT, Nat.reduceLeDiff, Int.reduceToNat, Int.reduceLT, Int.reduceLE, Option.getD, Int.reduceMul, Int.reduceAdd, List.drop, List.take, Nat.reduceBEq, List.isEmpty, Int.reduceEq, Int.reduceNe, Int.reduceNeg, Int.reduceGT, Int.reduceGE, beq_true, beq_false, UInt8.reduceToNat, eqE, eq_self, foldE, maxE, minE, eq_T, eq_F, ndec, odec, adec, sdec, fillA, over, chop, List.replicate, leavesOk, leafOk, cellsEq, cellEq, E_byref, en46, bs29, hrow, rows64_len, show ∀ B fr H, execT E B 46 (Code.loop _) fr H = rlG E B 46 (loopAt Tryd.f46 0) (gcn B (norm [0, 1, 5] fr) H) from fun B fr H => rl_intro rfl mt46_4 mb46_4 zf46_4 hd46_4 fr H]
  · obtain rfl : k = l.length := by omega
    simp (disch := first | omega | (simp only [List.length_append, List.length_map, List.length_set, List.length_cons, List.length_nil, List.length_take, List.length_drop, rows64_len]; omega)) only [va0, va1, va2, va3, va4, va5, va6, va7, va8, va9, va10, va11, va12, va13, va14, va15, vb0, vb1, vb2, vb3, w_i8, w_u8, w_i16, w_u16, w_i32, w_u32, w_i64, w_u64, lt_T, lt_F, le_T, le_F, nlt_T, nlt_F, nle_T, nle_F, List.take_of_length_le, gB, gcW, gcR, posIn, renA, renL, Chunk.ren, Chunk.refs, evOpD, touchD, stepC, isFresh, nFresh, freshOf, mkR, hole, evL, evH, opd, get, putD, ofVal, cellOf, loadE, behind, lenE, idxAddrE, idxE, addPtr, intE, strE, unE, convE, AV.int, AV.bool, AV.str, ivs, take, frameOf, firstRegion, refsA, refsL, one, cellsA, floatOk, apartT, List.map, if_true, if_false, E_P, E_glob0, reduceCtorEq, beq_self_eq_true, decide_true, decide_false, ↓reduceIte, Nat.reduceEqDiff, cond_true, cond_false, or_true, true_or, or_false, false_or, and_true, true_and, and_self, false_and, and_false, not_true, not_false_iff, Nat.reduceAdd, Nat.reduceSub, Nat.reduceMul, Nat.reduceLT, Nat.reduceLeDiff, Int.reduceToNat, Int.reduceLT, Int.reduceLE, Option.getD, Int.reduceMul, Int.reduceAdd, List.drop, List.take, Nat.reduceBEq, List.isEmpty, Int.reduceEq, Int.reduceNe, Int.reduceNeg, Int.reduceGT, Int.reduceGE, beq_true, beq_false, UInt8.reduceToNat, eqE, eq_self, foldE, maxE, minE, eq_T, eq_F, ndec, odec, adec, sdec, fillA, over, chop, List.replicate, leavesOk, leafOk, cellsEq, cellEq, E_byref, en46, bs29, rows64_len, show ∀ B fr H, execT E B 46 (Code.loop _) fr H = rlG E B 46 (loopAt Tryd.f46 0) (gcn B (norm [0, 1, 5] fr) H) from fun B fr H => rl_intro rfl mt46_4 mb46_4 zf46_4 hd46_4 fr H]
    exact ⟨_, rfl⟩
termination_by l.length - k
theorem c46 (l : List Int) (hl : (l.length : Int) < 100000) : ∃ L, callT E 46 [.i (.sl 1 (rows64 l) false), .i (.sl 1 (rows64 l) false)] [] = some (.i (.v (.bool true)), L) := by
  obtain ⟨fr, e⟩ := l46 l (by omega) 0 (Nat.zero_le _)
  have e' : rl E 0 46 (loopAt Tryd.f46 0) [(0, .i (.sl 1 (rows64 l) false)), (1, .i (.sl 1 (rows64 l) false)), (5, .i (.v (.int .i64 0)))] [] = _ := e
  rw [callT_eq Tryd.func46 rfl fok46 (by simp [Tryd.ntmps46])]
  simp (disch := first | omega | (simp only [List.length_append, List.length_map, List.length_set, List.length_cons, List.length_nil, List.length_take, List.length_drop, rows64_len]; omega)) only [va0, va1, va2, va3, va4, va5, va6, va7, va8, va9, va10, va11, va12, va13, va14, va15, vb0, vb1, vb2, vb3, w_i8, w_u8, w_i16, w_u16, w_i32, w_u32, w_i64, w_u64, lt_T, lt_F, le_T, le_F, nlt_T, nlt_F, nle_T, nle_F, List.take_of_length_le, gB, gcW, gcR, posIn, renA, renL, Chunk.ren, Chunk.refs, evOpD, touchD, stepC, isFresh, nFresh, freshOf, mkR, hole, evL, evH, opd, get, putD, ofVal, cellOf, loadE, behind, lenE, idxAddrE, idxE, addPtr, intE, strE, unE, convE, AV.int, AV.bool, AV.str, ivs, take, frameOf, firstRegion, refsA, refsL, one, cellsA, floatOk, apartT, List.map, if_true, if_false, E_P, E_glob0, reduceCtorEq, beq_self_eq_true, decide_true, decide_false, ↓reduceIte, Nat.reduceEqDiff, cond_true, cond_false, or_true, true_or, or_false, false_or, and_true, true_and, and_self, false_and, and_false, not_true, not_false_iff, Nat.reduceAdd, Nat.reduceSub, Nat.reduceMul, Nat.reduceLT, Nat.reduceLeDiff, Int.reduceToNat, Int.reduceLT, Int.reduceLE, Option.getD, Int.reduceMul, Int.reduceAdd, List.drop, List.take, Nat.reduceBEq, List.isEmpty, Int.reduceEq, Int.reduceNe, Int.reduceNeg, Int.reduceGT, Int.reduceGE, beq_true, beq_false, UInt8.reduceToNat, eqE, eq_self, foldE, maxE, minE, eq_T, eq_F, ndec, odec, adec, sdec, fillA, over, chop, List.replicate, leavesOk, leafOk, cellsEq, cellEq, E_byref, en46, bs29, e', rows64_len, show ∀ B fr H, execT E B 46 (Code.loop _) fr H = rlG E B 46 (loopAt Tryd.f46 0) (gcn B (norm [0, 1, 5] fr) H) from fun B fr H => rl_intro rfl mt46_4 mb46_4 zf46_4 hd46_4 fr H]
  exact ⟨_, rfl⟩
theorem ik46 (l : List Int) (hl : (l.length : Int) < 100000) (H : Hp) : isoK E (callT E) 46 [.i (.sl 1 (rows64 l) false), .i (.sl 1 (rows64 l) false)] H = some (.i (.v (.bool true)), H) := isoK_val rfl rfl rfl (c46 l hl)
end Go.VI

namespace Go.VI
open Go.Proofs
set_option maxRecDepth 100000
set_option linter.unusedSimpArgs false
set_option linter.unusedVariables false
set_option maxHeartbeats 4000000
def EvL (e : Ev) : Prop := e.i.length ≤ 400 ∧ e.ps.length ≤ 100 ∧ e.t.length ≤ 400
end Go.VI

