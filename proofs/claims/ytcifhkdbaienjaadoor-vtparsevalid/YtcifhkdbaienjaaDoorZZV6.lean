import Derived.Shelf.LaysM
import Derived.Shelf.Strings.SlTrimAsciiWalks
import Derived.Test.YtcifhkdbaienjaaDoorProg
import Derived.Lib.LaidTab
import Derived.MakeChecks
import Derived.Test.YtcifhkdbaienjaaDoorZZV5
namespace Go.VI
open Go.Proofs
set_option maxRecDepth 100000
set_option linter.unusedSimpArgs false
set_option linter.unusedVariables false
set_option maxHeartbeats 4000000
theorem c54_4 (r : Int) (h0 : 65536 ≤ r) (h1 : r ≤ 1114111) (a : List UInt8) (hl : a.length < 1000000) : ∃ L, callT E 54 [.ref 0 0 0 a.length, .i (.v (.int .i32 r))] [.sl 1 0 (rowsB a) false] =
    some (.ref 0 1 0 (a.length + 4), .sl 1 1 (rowsB (a ++ by8 [240 + r / 262144, 128 + r / 4096 % 64, 128 + r / 64 % 64, 128 + r % 64])) false :: L) := by
  have f1 : r.fdiv (2 ^ min 6 IntKind.i32.bits) = r / 64 := fd (r := r) 6 64 (by decide) (by decide) (by decide)
  have f0 : r.fdiv (2 ^ min 12 IntKind.i32.bits) = r / 4096 := fd (r := r) 12 4096 (by decide) (by decide) (by decide)
  have f12 : r.fdiv (2 ^ min 18 IntKind.i32.bits) = r / 262144 := fd (r := r) 18 262144 (by decide) (by decide) (by decide)
  have f2 : IntKind.u8.wrap (r / 262144) = r / 262144 := by rw [IntKind.wrap_u8']; omega
  have f3 : IntKind.u8.wrap r = r % 256 := by rw [IntKind.wrap_u8']
  have f8 : IntKind.u8.wrap (r / 64) = r / 64 % 256 := by rw [IntKind.wrap_u8']
  have f13 : IntKind.u8.wrap (r / 4096) = r / 4096 % 256 := by rw [IntKind.wrap_u8']
  have f4 := or240 (v := r / 262144) (by omega) (by omega)
  have f5 := and63 (b := r % 256) (by omega) (by omega)
  have f6 : r % 256 % 64 = r % 64 := by omega
  have f7 := or128 (v := r % 64) (by omega) (by omega)
  have f9 := and63 (b := r / 64 % 256) (by omega) (by omega)
  have f10 : r / 64 % 256 % 64 = r / 64 % 64 := by omega
  have f11 := or128 (v := r / 64 % 64) (by omega) (by omega)
  have f14 := and63 (b := r / 4096 % 256) (by omega) (by omega)
  have f15 : r / 4096 % 256 % 64 = r / 4096 % 64 := by omega
  have f16 := or128 (v := r / 4096 % 64) (by omega) (by omega)
  rw [← rowsB_by8 a [240 + r / 262144, 128 + r / 4096 % 64, 128 + r / 64 % 64, 128 + r % 64] (by simp only [List.mem_cons, List.not_mem_nil, or_false]; rintro x (rfl | rfl | rfl | rfl) <;> omega)]
  rw [callT_eq Tryd.func54 rfl fok54 (by simp [Tryd.ntmps54])]
  simp (disch := first | omega | (simp only [List.length_append, List.length_map, List.length_set, List.length_cons, List.length_nil, List.length_take, List.length_drop, rowsB_len]; omega)) only [va0, va1, va2, va3, va4, va5, va6, va7, va8, va9, va10, va11, va12, va13, va14, va15, vb0, vb1, vb2, vb3, w_i8, w_u8, w_i16, w_u16, w_i32, w_u32, w_i64, w_u64, lt_T, lt_F, le_T, le_F, nlt_T, nlt_F, nle_T, nle_F, List.take_of_length_le, gB, gcW, gcR, posIn, renA, renL, Chunk.ren, Chunk.refs, evOpD, touchD, stepC, isFresh, nFresh, freshOf, mkR, hole, evL, evH, opd, get, putD, ofVal, cellOf, loadE, behind, lenE, idxAddrE, idxE, addPtr, intE, strE, unE, convE, AV.int, AV.bool, AV.str, ivs, take, frameOf, firstRegion, refsA, refsL, one, cellsA, floatOk, apartT, List.map, if_true, if_false, E_P, E_glob0, reduceCtorEq, beq_self_eq_true, decide_true, decide_false, ↓reduceIte, Nat.reduceEqDiff, cond_true, cond_false, or_true, true_or, or_false, false_or, and_true, true_and, and_self, false_and, and_false, not_true, not_false_iff, Nat.reduceAdd, Nat.reduceSub, Nat.reduceMul, Nat.reduceLT, Nat.reduceLeDiff, Int.reduceToNat, Int.reduceLT, Int.reduceLE, Option.getD, Int.reduceMul, Int.reduceAdd, List.drop, List.take, Nat.reduceBEq, List.isEmpty, Int.reduceEq, Int.reduceNe, Int.reduceNeg, Int.reduceGT, Int.reduceGE, beq_true, beq_false, UInt8.reduceToNat, eqE, eq_self, foldE, maxE, minE, eq_T, eq_F, ndec, odec, adec, sdec, fillA, over, chop, List.replicate, leavesOk, leafOk, cellsEq, cellEq, E_byref, en54, bs47, rowsB_len, f0, f1, f2, f3, f4, f5, f6, f7, f8, f9, f10, f11, f12, f13, f14, f15, f16, Option.map_some]
  exact ⟨_, rfl⟩
end Go.VI

namespace Go.VI
open Go.Proofs
set_option maxRecDepth 100000
set_option linter.unusedSimpArgs false
set_option linter.unusedVariables false
set_option maxHeartbeats 4000000
theorem c54_e (r : Int) (hr : -2147483648 ≤ r ∧ r ≤ 2147483647) (h : r < 0 ∨ (55296 ≤ r ∧ r ≤ 57343) ∨ 1114111 < r) (a : List UInt8) (hl : a.length < 1000000) : ∃ L, callT E 54 [.ref 0 0 0 a.length, .i (.v (.int .i32 r))] [.sl 1 0 (rowsB a) false] =
    some (.ref 0 1 0 (a.length + 3), .sl 1 1 (rowsB (a ++ by8 [239, 191, 189])) false :: L) := by
  rw [← rowsB_by8 a [239, 191, 189] (by decide)]
  rcases h with h | h | h
  · have hw : IntKind.u32.wrap r = r + 4294967296 := by simp [IntKind.wrap, IntKind.bits, IntKind.signed]; omega
    rw [callT_eq Tryd.func54 rfl fok54 (by simp [Tryd.ntmps54])]
    simp (disch := first | omega | (simp only [List.length_append, List.length_map, List.length_set, List.length_cons, List.length_nil, List.length_take, List.length_drop, rowsB_len]; omega)) only [va0, va1, va2, va3, va4, va5, va6, va7, va8, va9, va10, va11, va12, va13, va14, va15, vb0, vb1, vb2, vb3, w_i8, w_u8, w_i16, w_u16, w_i32, w_u32, w_i64, w_u64, lt_T, lt_F, le_T, le_F, nlt_T, nlt_F, nle_T, nle_F, List.take_of_length_le, gB, gcW, gcR, posIn, renA, renL, Chunk.ren, Chunk.refs, evOpD, touchD, stepC, isFresh, nFresh, freshOf, mkR, hole, evL, evH, opd, get, putD, ofVal, cellOf, loadE, behind, lenE, idxAddrE, idxE, addPtr, intE, strE, unE, convE, AV.int, AV.bool, AV.str, ivs, take, frameOf, firstRegion, refsA, refsL, one, cellsA, floatOk, apartT, List.map, if_true, if_false, E_P, E_glob0, reduceCtorEq, beq_self_eq_true, decide_true, decide_false, ↓reduceIte, Nat.reduceEqDiff, cond_true, cond_false, or_true, true_or, or_false, false_or, and_true, true_and, and_self, false_and, and_false, not_true, not_false_iff, Nat.reduceAdd, Nat.reduceSub, Nat.reduceMul, Nat.reduceLT, Nat.reduceLeDiff, Int.reduceToNat, Int.reduceLT, Int.reduceLE, Option.getD, Int.reduceMul, Int.reduceAdd, List.drop, List.take, Nat.reduceBEq, List.isEmpty, Int.reduceEq, Int.reduceNe, Int.reduceNeg, Int.reduceGT, Int.reduceGE, beq_true, beq_false, UInt8.reduceToNat, eqE, eq_self, foldE, maxE, minE, eq_T, eq_F, ndec, odec, adec, sdec, fillA, over, chop, List.replicate, leavesOk, leafOk, cellsEq, cellEq, E_byref, en54, bs47, rowsB_len, hw, List.map_cons, List.map_nil]
    exact ⟨_, rfl⟩
  · rw [callT_eq Tryd.func54 rfl fok54 (by simp [Tryd.ntmps54])]
    simp (disch := first | omega | (simp only [List.length_append, List.length_map, List.length_set, List.length_cons, List.length_nil, List.length_take, List.length_drop, rowsB_len]; omega)) only [va0, va1, va2, va3, va4, va5, va6, va7, va8, va9, va10, va11, va12, va13, va14, va15, vb0, vb1, vb2, vb3, w_i8, w_u8, w_i16, w_u16, w_i32, w_u32, w_i64, w_u64, lt_T, lt_F, le_T, le_F, nlt_T, nlt_F, nle_T, nle_F, List.take_of_length_le, gB, gcW, gcR, posIn, renA, renL, Chunk.ren, Chunk.refs, evOpD, touchD, stepC, isFresh, nFresh, freshOf, mkR, hole, evL, evH, opd, get, putD, ofVal, cellOf, loadE, behind, lenE, idxAddrE, idxE, addPtr, intE, strE, unE, convE, AV.int, AV.bool, AV.str, ivs, take, frameOf, firstRegion, refsA, refsL, one, cellsA, floatOk, apartT, List.map, if_true, if_false, E_P, E_glob0, reduceCtorEq, beq_self_eq_true, decide_true, decide_false, ↓reduceIte, Nat.reduceEqDiff, cond_true, cond_false, or_true, true_or, or_false, false_or, and_true, true_and, and_self, false_and, and_false, not_true, not_false_iff, Nat.reduceAdd, Nat.reduceSub, Nat.reduceMul, Nat.reduceLT, Nat.reduceLeDiff, Int.reduceToNat, Int.reduceLT, Int.reduceLE, Option.getD, Int.reduceMul, Int.reduceAdd, List.drop, List.take, Nat.reduceBEq, List.isEmpty, Int.reduceEq, Int.reduceNe, Int.reduceNeg, Int.reduceGT, Int.reduceGE, beq_true, beq_false, UInt8.reduceToNat, eqE, eq_self, foldE, maxE, minE, eq_T, eq_F, ndec, odec, adec, sdec, fillA, over, chop, List.replicate, leavesOk, leafOk, cellsEq, cellEq, E_byref, en54, bs47, rowsB_len, List.map_cons, List.map_nil]
    exact ⟨_, rfl⟩
  · rw [callT_eq Tryd.func54 rfl fok54 (by simp [Tryd.ntmps54])]
    simp (disch := first | omega | (simp only [List.length_append, List.length_map, List.length_set, List.length_cons, List.length_nil, List.length_take, List.length_drop, rowsB_len]; omega)) only [va0, va1, va2, va3, va4, va5, va6, va7, va8, va9, va10, va11, va12, va13, va14, va15, vb0, vb1, vb2, vb3, w_i8, w_u8, w_i16, w_u16, w_i32, w_u32, w_i64, w_u64, lt_T, lt_F, le_T, le_F, nlt_T, nlt_F, nle_T, nle_F, List.take_of_length_le, gB, gcW, gcR, posIn, renA, renL, Chunk.ren, Chunk.refs, evOpD, touchD, stepC, isFresh, nFresh, freshOf, mkR, hole, evL, evH, opd, get, putD, ofVal, cellOf, loadE, behind, lenE, idxAddrE, idxE, addPtr, intE, strE, unE, convE, AV.int, AV.bool, AV.str, ivs, take, frameOf, firstRegion, refsA, refsL, one, cellsA, floatOk, apartT, List.map, if_true, if_false, E_P, E_glob0, reduceCtorEq, beq_self_eq_true, decide_true, decide_false, ↓reduceIte, Nat.reduceEqDiff, cond_true, cond_false, or_true, true_or, or_false, false_or, and_true, true_and, and_self, false_and, and_false, not_true, not_false_iff, Nat.reduceAdd, Nat.reduceSub, Nat.reduceMul, Nat.reduceLT, Nat.reduceLeDiff, Int.reduceToNat, Int.reduceLT, Int.reduceLE, Option.getD, Int.reduceMul, Int.reduceAdd, List.drop, List.take, Nat.reduceBEq, List.isEmpty, Int.reduceEq, Int.reduceNe, Int.reduceNeg, Int.reduceGT, Int.reduceGE, beq_true, beq_false, UInt8.reduceToNat, eqE, eq_self, foldE, maxE, minE, eq_T, eq_F, ndec, odec, adec, sdec, fillA, over, chop, List.replicate, leavesOk, leafOk, cellsEq, cellEq, E_byref, en54, bs47, rowsB_len, List.map_cons, List.map_nil]
    exact ⟨_, rfl⟩
end Go.VI

namespace Go.VI
open Go.Proofs
set_option maxRecDepth 100000
set_option linter.unusedSimpArgs false
set_option linter.unusedVariables false
set_option maxHeartbeats 4000000
def encR (r : Int) : List Int :=
  if r < 0 ∨ (55296 ≤ r ∧ r ≤ 57343) ∨ 1114111 < r then [239, 191, 189] else if r ≤ 127 then [r] else if r ≤ 2047 then [192 + r / 64, 128 + r % 64] else
    if r ≤ 65535 then [224 + r / 4096, 128 + r / 64 % 64, 128 + r % 64] else [240 + r / 262144, 128 + r / 4096 % 64, 128 + r / 64 % 64, 128 + r % 64]
theorem c54 (r : Int) (hr : -2147483648 ≤ r ∧ r ≤ 2147483647) (h7 : r < 0 ∨ 127 < r) (a : List UInt8) (hl : a.length < 1000000) : ∃ L, callT E 54 [.ref 0 0 0 a.length, .i (.v (.int .i32 r))] [.sl 1 0 (rowsB a) false] =
    some (.ref 0 1 0 (a.length + (encR r).length), .sl 1 1 (rowsB (a ++ by8 (encR r))) false :: L) := by
  unfold encR
  by_cases he : r < 0 ∨ (55296 ≤ r ∧ r ≤ 57343) ∨ 1114111 < r
  · rw [if_pos he]; exact c54_e r hr he a hl
  · rw [if_neg he, if_neg (by omega)]
    by_cases h2 : r ≤ 2047
    · rw [if_pos h2]; exact c54_2 r (by omega) h2 a hl
    · rw [if_neg h2]
      by_cases h3 : r ≤ 65535
      · rw [if_pos h3]; exact c54_3 r (by omega) h3 (by omega) a hl
      · rw [if_neg h3]; exact c54_4 r (by omega) (by omega) a hl
end Go.VI

namespace Go.VI
open Go.Proofs
set_option maxRecDepth 100000
set_option linter.unusedSimpArgs false
set_option linter.unusedVariables false
set_option maxHeartbeats 4000000
theorem isoK_app1 {E : Env} {cl : CallF} {H : Hp} {f c g g' n m sz : Nat} {ar : List AV} {rows rows' : List (List IV)} {ex ex' : Bool} (he : E.ext f = none) (hH : H[c]? = some (.sl sz g rows ex)) (has : refsL ar = [])
    (hc : ∃ L, cl f (.ref 0 g 0 n :: ar) [.sl sz g rows ex] = some (.ref 0 g' 0 m, .sl sz g' rows' ex' :: L)) :
    isoK E cl f (.ref c g 0 n :: ar) H = some (.ref c g' 0 m, H.set c (.sl sz g' rows' ex')) := by
  obtain ⟨L, hc⟩ := hc
  have h1 : ∀ ρ, renL ρ ar = ar := fun ρ => (refs_ren ρ).2 ar has
  have hR := reach_one hH (by rfl)
  unfold isoK
  simp [exCl, he, refsL, refsA, hR, renL, renA, posIn, hH, Chunk.ren, has, h1, hc, Chunk.refs, reach, setAll, backRen]
theorem ik54 (r : Int) (hr : -2147483648 ≤ r ∧ r ≤ 2147483647) (h7 : r < 0 ∨ 127 < r) (a : List UInt8) (n : Nat) (hn : n = a.length) (hl : n < 1000000) (T : Hp) : isoK E (callT E) 54 [.ref 0 0 0 n, .i (.v (.int .i32 r))] (.sl 1 0 (rowsB a) false :: T) =
    some (.ref 0 1 0 (n + (encR r).length), .sl 1 1 (rowsB (a ++ by8 (encR r))) false :: T) := by
  subst hn
  exact isoK_app1 rfl rfl rfl (c54 r hr h7 a hl)
theorem c36 (r : Int) (hr : -2147483648 ≤ r ∧ r ≤ 2147483647) (a : List UInt8) (hl : a.length < 1000000) : ∃ L, callT E 36 [.ref 0 0 0 a.length, .i (.v (.int .i32 r))] [.sl 1 0 (rowsB a) false] =
    some (.ref 0 1 0 (a.length + (encR r).length), .sl 1 1 (rowsB (a ++ by8 (encR r))) false :: L) := by
  by_cases h7 : r < 0 ∨ 127 < r
  · have hik := ik54 r hr h7 a _ rfl hl
    by_cases h0 : r < 0
    · have hw : IntKind.u32.wrap r = r + 4294967296 := by simp [IntKind.wrap, IntKind.bits, IntKind.signed]; omega
      rw [callT_eq Tryd.func36 rfl fok36 (by simp [Tryd.ntmps36])]
      simp (disch := first | omega | (simp only [List.length_append, List.length_map, List.length_set, List.length_cons, List.length_nil, List.length_take, List.length_drop, rowsB_len]; omega)) only [va0, va1, va2, va3, va4, va5, va6, va7, va8, va9, va10, va11, va12, va13, va14, va15, vb0, vb1, vb2, vb3, w_i8, w_u8, w_i16, w_u16, w_i32, w_u32, w_i64, w_u64, lt_T, lt_F, le_T, le_F, nlt_T, nlt_F, nle_T, nle_F, List.take_of_length_le, gB, gcW, gcR, posIn, renA, renL, Chunk.ren, Chunk.refs, evOpD, touchD, stepC, isFresh, nFresh, freshOf, mkR, hole, evL, evH, opd, get, putD, ofVal, cellOf, loadE, behind, lenE, idxAddrE, idxE, addPtr, intE, strE, unE, convE, AV.int, AV.bool, AV.str, ivs, take, frameOf, firstRegion, refsA, refsL, one, cellsA, floatOk, apartT, List.map, if_true, if_false, E_P, E_glob0, reduceCtorEq, beq_self_eq_true, decide_true, decide_false, ↓reduceIte, Nat.reduceEqDiff, cond_true, cond_false, or_true, true_or, or_false, false_or, and_true, true_and, and_self, false_and, and_false, not_true, not_false_iff, Nat.reduceAdd, Nat.reduceSub, Nat.reduceMul, Nat.reduceLT, Nat.reduceLeDiff, Int.reduceToNat, Int.reduceLT, Int.reduceLE, Option.getD, Int.reduceMul, Int.reduceAdd, List.drop, List.take, Nat.reduceBEq, List.isEmpty, Int.reduceEq, Int.reduceNe, Int.reduceNeg, Int.reduceGT, Int.reduceGE, beq_true, beq_false, UInt8.reduceToNat, eqE, eq_self, foldE, maxE, minE, eq_T, eq_F, ndec, odec, adec, sdec, fillA, over, chop, List.replicate, leavesOk, leafOk, cellsEq, cellEq, E_byref, en36, bs47, rowsB_len, hw, hik]
      exact ⟨_, rfl⟩
    · have hw : IntKind.u32.wrap r = r := by simp [IntKind.wrap, IntKind.bits, IntKind.signed]; omega
      rw [callT_eq Tryd.func36 rfl fok36 (by simp [Tryd.ntmps36])]
      simp (disch := first | omega | (simp only [List.length_append, List.length_map, List.length_set, List.length_cons, List.length_nil, List.length_take, List.length_drop, rowsB_len]; omega)) only [va0, va1, va2, va3, va4, va5, va6, va7, va8, va9, va10, va11, va12, va13, va14, va15, vb0, vb1, vb2, vb3, w_i8, w_u8, w_i16, w_u16, w_i32, w_u32, w_i64, w_u64, lt_T, lt_F, le_T, le_F, nlt_T, nlt_F, nle_T, nle_F, List.take_of_length_le, gB, gcW, gcR, posIn, renA, renL, Chunk.ren, Chunk.refs, evOpD, touchD, stepC, isFresh, nFresh, freshOf, mkR, hole, evL, evH, opd, get, putD, ofVal, cellOf, loadE, behind, lenE, idxAddrE, idxE, addPtr, intE, strE, unE, convE, AV.int, AV.bool, AV.str, ivs, take, frameOf, firstRegion, refsA, refsL, one, cellsA, floatOk, apartT, List.map, if_true, if_false, E_P, E_glob0, reduceCtorEq, beq_self_eq_true, decide_true, decide_false, ↓reduceIte, Nat.reduceEqDiff, cond_true, cond_false, or_true, true_or, or_false, false_or, and_true, true_and, and_self, false_and, and_false, not_true, not_false_iff, Nat.reduceAdd, Nat.reduceSub, Nat.reduceMul, Nat.reduceLT, Nat.reduceLeDiff, Int.reduceToNat, Int.reduceLT, Int.reduceLE, Option.getD, Int.reduceMul, Int.reduceAdd, List.drop, List.take, Nat.reduceBEq, List.isEmpty, Int.reduceEq, Int.reduceNe, Int.reduceNeg, Int.reduceGT, Int.reduceGE, beq_true, beq_false, UInt8.reduceToNat, eqE, eq_self, foldE, maxE, minE, eq_T, eq_F, ndec, odec, adec, sdec, fillA, over, chop, List.replicate, leavesOk, leafOk, cellsEq, cellEq, E_byref, en36, bs47, rowsB_len, hw, hik]
      exact ⟨_, rfl⟩
  · have he : encR r = [r] := by unfold encR; rw [if_neg (by omega), if_pos (by omega)]
    have hw : IntKind.u32.wrap r = r := by simp [IntKind.wrap, IntKind.bits, IntKind.signed]; omega
    have hw8 : IntKind.u8.wrap r = r := by rw [IntKind.wrap_u8']; omega
    rw [he, ← rowsB_by8 a [r] (by simp only [List.mem_cons, List.not_mem_nil, or_false]; rintro x rfl; omega)]
    rw [callT_eq Tryd.func36 rfl fok36 (by simp [Tryd.ntmps36])]
    simp (disch := first | omega | (simp only [List.length_append, List.length_map, List.length_set, List.length_cons, List.length_nil, List.length_take, List.length_drop, rowsB_len]; omega)) only [va0, va1, va2, va3, va4, va5, va6, va7, va8, va9, va10, va11, va12, va13, va14, va15, vb0, vb1, vb2, vb3, w_i8, w_u8, w_i16, w_u16, w_i32, w_u32, w_i64, w_u64, lt_T, lt_F, le_T, le_F, nlt_T, nlt_F, nle_T, nle_F, List.take_of_length_le, gB, gcW, gcR, posIn, renA, renL, Chunk.ren, Chunk.refs, evOpD, touchD, stepC, isFresh, nFresh, freshOf, mkR, hole, evL, evH, opd, get, putD, ofVal, cellOf, loadE, behind, lenE, idxAddrE, idxE, addPtr, intE, strE, unE, convE, AV.int, AV.bool, AV.str, ivs, take, frameOf, firstRegion, refsA, refsL, one, cellsA, floatOk, apartT, List.map, if_true, if_false, E_P, E_glob0, reduceCtorEq, beq_self_eq_true, decide_true, decide_false, ↓reduceIte, Nat.reduceEqDiff, cond_true, cond_false, or_true, true_or, or_false, false_or, and_true, true_and, and_self, false_and, and_false, not_true, not_false_iff, Nat.reduceAdd, Nat.reduceSub, Nat.reduceMul, Nat.reduceLT, Nat.reduceLeDiff, Int.reduceToNat, Int.reduceLT, Int.reduceLE, Option.getD, Int.reduceMul, Int.reduceAdd, List.drop, List.take, Nat.reduceBEq, List.isEmpty, Int.reduceEq, Int.reduceNe, Int.reduceNeg, Int.reduceGT, Int.reduceGE, beq_true, beq_false, UInt8.reduceToNat, eqE, eq_self, foldE, maxE, minE, eq_T, eq_F, ndec, odec, adec, sdec, fillA, over, chop, List.replicate, leavesOk, leafOk, cellsEq, cellEq, E_byref, en36, bs47, rowsB_len, hw, hw8, List.map_cons, List.map_nil, List.length_cons, List.length_nil]
    exact ⟨_, rfl⟩
theorem ik36 (r : Int) (hr : -2147483648 ≤ r ∧ r ≤ 2147483647) (a : List UInt8) (n : Nat) (hn : n = a.length) (hl : n < 1000000) (T : Hp) : isoK E (callT E) 36 [.ref 0 0 0 n, .i (.v (.int .i32 r))] (.sl 1 0 (rowsB a) false :: T) =
    some (.ref 0 1 0 (n + (encR r).length), .sl 1 1 (rowsB (a ++ by8 (encR r))) false :: T) := by
  subst hn
  exact isoK_app1 rfl rfl rfl (c36 r hr a hl)
theorem c22 (r : Int) (hr : -2147483648 ≤ r ∧ r ≤ 2147483647) : ∃ L, callT E 22 [.i (.sl 1 [[.v (.int .i32 r)]] false)] [] = some (.i (.str (by8 (encR r))), L) := by
  have e0 : rl E 0 22 (loopAt Tryd.f22 0) [(3, .ref 0 0 0 (encR r).length), (6, .i (.sl 1 [[.v (.int .i32 r)]] false)), (7, .i (.v (.int .i64 1))), (8, .i (.v (.int .i64 1)))] [.sl 1 0 (rowsB (by8 (encR r))) false] = some (.exit 0, [(3, .ref 0 0 0 (encR r).length), (6, .i (.sl 1 [[.v (.int .i32 r)]] false)), (7, .i (.v (.int .i64 1))), (8, .i (.v (.int .i64 1))), (9, .i (.v (.bool false)))], [.sl 1 0 (rowsB (by8 (encR r))) false]) := by
    rw [rl_step (fn := Tryd.f22) (k := 0) rfl]
    simp (disch := first | omega | (simp only [List.length_append, List.length_map, List.length_set, List.length_cons, List.length_nil, List.length_take, List.length_drop, rowsB_len]; omega)) only [va0, va1, va2, va3, va4, va5, va6, va7, va8, va9, va10, va11, va12, va13, va14, va15, vb0, vb1, vb2, vb3, w_i8, w_u8, w_i16, w_u16, w_i32, w_u32, w_i64, w_u64, lt_T, lt_F, le_T, le_F, nlt_T, nlt_F, nle_T, nle_F, List.take_of_length_le, gB, gcW, gcR, posIn, renA, renL, Chunk.ren, Chunk.refs, evOpD, touchD, stepC, isFresh, nFresh, freshOf, mkR, hole, evL, evH, opd, get, putD, ofVal, cellOf, loadE, behind, lenE, idxAddrE, idxE, addPtr, intE, strE, unE, convE, AV.int, AV.bool, AV.str, ivs, take, frameOf, firstRegion, refsA, refsL, one, cellsA, floatOk, apartT, List.map, if_true, if_false, E_P, E_glob0, reduceCtorEq, beq_self_eq_true, decide_true, decide_false, ↓reduceIte, Nat.reduceEqDiff, cond_true, cond_false, or_true, true_or, or_false, false_or, and_true, true_and, and_self, false_and, and_false, not_true, not_false_iff, Nat.reduceAdd, Nat.reduceSub, Nat.reduceMul, Nat.reduceLT, Nat.reduceLeDiff, Int.reduceToNat, Int.reduceLT, Int.reduceLE, Option.getD, Int.reduceMul, Int.reduceAdd, List.drop, List.take, Nat.reduceBEq, List.isEmpty, Int.reduceEq, Int.reduceNe, Int.reduceNeg, Int.reduceGT, Int.reduceGE, beq_true, beq_false, UInt8.reduceToNat, eqE, eq_self, foldE, maxE, minE, eq_T, eq_F, ndec, odec, adec, sdec, fillA, over, chop, List.replicate, leavesOk, leafOk, cellsEq, cellEq, E_byref, en22, bs47, bs49, rowsB_len]
  have hl : (encR r).length ≤ 4 := by unfold encR; repeat' split
                                      all_goals simp
  have hik := fun T => ik36 r hr [] 0 rfl (by omega) T
  simp only [List.nil_append, Nat.zero_add] at hik
  have e1 : rl E 0 22 (loopAt Tryd.f22 0) [(3, .ref 0 0 0 0), (6, .i (.sl 1 [[.v (.int .i32 r)]] false)), (7, .i (.v (.int .i64 1))), (8, .i (.v (.int .i64 0)))] [.sl 1 0 (rowsB []) false] = some (.exit 0, [(3, .ref 0 0 0 (encR r).length), (6, .i (.sl 1 [[.v (.int .i32 r)]] false)), (7, .i (.v (.int .i64 1))), (8, .i (.v (.int .i64 1))), (9, .i (.v (.bool false)))], [.sl 1 0 (rowsB (by8 (encR r))) false]) := by
    refine Eq.trans ?_ e0
    clear e0
    rw [rl_step (fn := Tryd.f22) (k := 0) rfl]
    simp (disch := first | omega | (simp only [List.length_append, List.length_map, List.length_set, List.length_cons, List.length_nil, List.length_take, List.length_drop, rowsB_len]; omega)) only [va0, va1, va2, va3, va4, va5, va6, va7, va8, va9, va10, va11, va12, va13, va14, va15, vb0, vb1, vb2, vb3, w_i8, w_u8, w_i16, w_u16, w_i32, w_u32, w_i64, w_u64, lt_T, lt_F, le_T, le_F, nlt_T, nlt_F, nle_T, nle_F, List.take_of_length_le, gB, gcW, gcR, posIn, renA, renL, Chunk.ren, Chunk.refs, evOpD, touchD, stepC, isFresh, nFresh, freshOf, mkR, hole, evL, evH, opd, get, putD, ofVal, cellOf, loadE, behind, lenE, idxAddrE, idxE, addPtr, intE, strE, unE, convE, AV.int, AV.bool, AV.str, ivs, take, frameOf, firstRegion, refsA, refsL, one, cellsA, floatOk, apartT, List.map, if_true, if_false, E_P, E_glob0, reduceCtorEq, beq_self_eq_true, decide_true, decide_false, ↓reduceIte, Nat.reduceEqDiff, cond_true, cond_false, or_true, true_or, or_false, false_or, and_true, true_and, and_self, false_and, and_false, not_true, not_false_iff, Nat.reduceAdd, Nat.reduceSub, Nat.reduceMul, Nat.reduceLT, Nat.reduceLeDiff, Int.reduceToNat, Int.reduceLT, Int.reduceLE, Option.getD, Int.reduceMul, Int.reduceAdd, List.drop, List.take, Nat.reduceBEq, List.isEmpty, Int.reduceEq, Int.reduceNe, Int.reduceNeg, Int.reduceGT, Int.reduceGE, beq_true, beq_false, UInt8.reduceToNat, eqE, eq_self, foldE, maxE, minE, eq_T, eq_F, ndec, odec, adec, sdec, fillA, over, chop, List.replicate, leavesOk, leafOk, cellsEq, cellEq, E_byref, en22, bs47, bs49, rowsB_len, hik, show ∀ B fr H, execT E B 22 (Code.loop _) fr H = rlM E B 22 (loopAt Tryd.f22 0) [3, 6, 7, 8] [] (matF [(3, 1)] fr H).1 (matB [] (matF [(3, 1)] fr H).1 (matF [(3, 1)] fr H).2) from fun B fr H => rl_introM rfl mt22_3 mb22_3 zf22_3 hd22_3 fr H]
  clear e0
  have hz : rowsB [] = [] := rfl
  rw [hz] at e1
  have hlb : (by8 (encR r)).length = (encR r).length := List.length_map _
  rw [callT_eq Tryd.func22 rfl fok22 (by simp [Tryd.ntmps22])]
  simp (disch := first | omega | (simp only [List.length_append, List.length_map, List.length_set, List.length_cons, List.length_nil, List.length_take, List.length_drop, rowsB_len, hlb]; omega)) only [va0, va1, va2, va3, va4, va5, va6, va7, va8, va9, va10, va11, va12, va13, va14, va15, vb0, vb1, vb2, vb3, w_i8, w_u8, w_i16, w_u16, w_i32, w_u32, w_i64, w_u64, lt_T, lt_F, le_T, le_F, nlt_T, nlt_F, nle_T, nle_F, List.take_of_length_le, gB, gcW, gcR, posIn, renA, renL, Chunk.ren, Chunk.refs, evOpD, touchD, stepC, isFresh, nFresh, freshOf, mkR, hole, evL, evH, opd, get, putD, ofVal, cellOf, loadE, behind, lenE, idxAddrE, idxE, addPtr, intE, strE, unE, convE, AV.int, AV.bool, AV.str, ivs, take, frameOf, firstRegion, refsA, refsL, one, cellsA, floatOk, apartT, List.map, if_true, if_false, E_P, E_glob0, reduceCtorEq, beq_self_eq_true, decide_true, decide_false, ↓reduceIte, Nat.reduceEqDiff, cond_true, cond_false, or_true, true_or, or_false, false_or, and_true, true_and, and_self, false_and, and_false, not_true, not_false_iff, Nat.reduceAdd, Nat.reduceSub, Nat.reduceMul, Nat.reduceLT, Nat.reduceLeDiff, Int.reduceToNat, Int.reduceLT, Int.reduceLE, Option.getD, Int.reduceMul, Int.reduceAdd, List.drop, List.take, Nat.reduceBEq, List.isEmpty, Int.reduceEq, Int.reduceNe, Int.reduceNeg, Int.reduceGT, Int.reduceGE, beq_true, beq_false, UInt8.reduceToNat, eqE, eq_self, foldE, maxE, minE, eq_T, eq_F, ndec, odec, adec, sdec, fillA, over, chop, List.replicate, leavesOk, leafOk, cellsEq, cellEq, E_byref, en22, bs47, bs49, rowsB_len, e1, hlb, rowsB_num, Option.map_some, bytes_back, rowsB_take, List.take_of_length_le, show ∀ B fr H, execT E B 22 (Code.loop _) fr H = rlM E B 22 (loopAt Tryd.f22 0) [3, 6, 7, 8] [] (matF [(3, 1)] fr H).1 (matB [] (matF [(3, 1)] fr H).1 (matF [(3, 1)] fr H).2) from fun B fr H => rl_introM rfl mt22_3 mb22_3 zf22_3 hd22_3 fr H]
  exact ⟨_, rfl⟩
theorem ik22 (r : Int) (hr : -2147483648 ≤ r ∧ r ≤ 2147483647) (H : Hp) : isoK E (callT E) 22 [.i (.sl 1 [[.v (.int .i32 r)]] false)] H = some (.i (.str (by8 (encR r))), H) := isoK_val rfl rfl rfl (c22 r hr)
end Go.VI

namespace Go.VI
open Go.Proofs
set_option maxRecDepth 100000
set_option linter.unusedSimpArgs false
set_option linter.unusedVariables false
set_option maxHeartbeats 4000000
def runI : List Int → Nat → Dec → Dec
  | [], _, d => d
  | b :: r, i, d => runI r (i + 1) (stepD d i b)
theorem runI_by8 : ∀ (l : List Int) (i : Nat) (d : Dec), (∀ x ∈ l, 0 ≤ x ∧ x < 256) → runD (by8 l) i d = runI l i d
  | [], _, _, _ => rfl
  | b :: l, i, d, h => by
    have hb := h b (.head _)
    have e : ((UInt8.ofNat b.toNat).toNat : Int) = b := by rw [UInt8.toNat_ofNat', Nat.mod_eq_of_lt (by omega)]; omega
    show runD (UInt8.ofNat b.toNat :: by8 l) i d = _
    rw [runD, runI, e, runI_by8 l _ _ fun x hx => h x (.tail _ hx)]
theorem stepD_in {d : Dec} {i b : Int} (h : 0 < d.s.mi ∧ d.s.lo ≤ b ∧ b ≤ d.s.hi) : stepD d i b = ⟨⟨d.s.v * 64 + b % 64, d.s.mi - 1, 128, 191⟩, if d.s.mi - 1 = 0 then d.out ++ [d.s.v * 64 + b % 64] else d.out, d.st⟩ := by
  unfold stepD; rw [if_pos h]
theorem stepD_one {out : List Int} {st i b : Int} (h0 : 0 ≤ b) (h1 : b < 128) : stepD ⟨sq0, out, st⟩ i b = ⟨beginS b, out ++ [b], i⟩ ∧ (beginS b).mi = 0 := by
  constructor
  · unfold stepD; rw [if_neg (by simp [sq0])]; simp [sq0, h1]
  · unfold beginS; simp only; rw [if_neg (by omega), if_neg (by omega), if_neg (by omega)]
theorem stepD_fst {out : List Int} {st i b : Int} (h0 : 194 ≤ b) (h1 : b ≤ 244) : stepD ⟨sq0, out, st⟩ i b = ⟨beginS b, out, i⟩ := by
  have hm : ¬ (beginS b).mi = 0 := by unfold beginS; simp only; repeat' split
                                      all_goals simp only; omega
  unfold stepD; rw [if_neg (by simp [sq0])]; simp only [sq0, Int.lt_irrefl, if_false]; rw [if_neg (by omega), if_neg hm]
theorem beginS_2 {b : Int} (h0 : 194 ≤ b) (h1 : b ≤ 223) : beginS b = ⟨b - 192, 1, 128, 191⟩ := by
  unfold beginS; simp only; rw [if_pos ⟨h0, h1⟩, if_neg (by omega), if_neg (by omega), if_neg (by omega), if_neg (by omega)]
theorem beginS_3 {b : Int} (h0 : 224 ≤ b) (h1 : b ≤ 239) : beginS b = ⟨b - 224, 2, if b = 224 then 160 else 128, if b = 237 then 159 else 191⟩ := by
  unfold beginS; simp only; rw [if_neg (by omega), if_pos ⟨h0, h1⟩]
  congr 1
  · rw [if_neg (show ¬ b = 240 by omega)]
  · rw [if_neg (show ¬ b = 244 by omega)]
theorem beginS_4 {b : Int} (h0 : 240 ≤ b) (h1 : b ≤ 244) : beginS b = ⟨b - 240, 3, if b = 240 then 144 else 128, if b = 244 then 143 else 191⟩ := by
  unfold beginS; simp only; rw [if_neg (by omega), if_neg (by omega), if_pos ⟨h0, h1⟩]
  congr 1
  · rw [if_neg (show ¬ b = 224 by omega)]
  · rw [if_neg (show ¬ b = 237 by omega)]
def goodR (r : Int) : Bool := decide (0 ≤ r) && decide (r ≤ 1114111) && !(decide (55296 ≤ r) && decide (r ≤ 57343))
theorem encR_b (r : Int) : ∀ x ∈ encR r, 0 ≤ x ∧ x < 256 := by
  unfold encR
  repeat' split
  all_goals simp only [List.mem_cons, List.not_mem_nil, or_false]
  · rintro x (rfl | rfl | rfl) <;> omega
  · rintro x rfl; omega
  · rintro x (rfl | rfl) <;> omega
  · rintro x (rfl | rfl | rfl) <;> omega
  · rintro x (rfl | rfl | rfl | rfl) <;> omega
def dec0 : Dec := ⟨sq0, [], 0⟩
theorem dec_2 {r : Int} (h0 : 128 ≤ r) (h1 : r ≤ 2047) : runI [192 + r / 64, 128 + r % 64] 0 dec0 = ⟨⟨r, 0, 128, 191⟩, [r], 0⟩ ∧ runI [192 + r / 64] 0 dec0 = ⟨⟨r / 64, 1, 128, 191⟩, [], 0⟩ := by
  have e1 : stepD dec0 ((0 : Nat) : Int) (192 + r / 64) = ⟨⟨r / 64, 1, 128, 191⟩, [], 0⟩ := by
    unfold dec0; rw [stepD_fst (by omega) (by omega), beginS_2 (by omega) (by omega)]
    rw [show 192 + r / 64 - 192 = r / 64 by omega]; rfl
  refine ⟨?_, by rw [runI, e1]; rfl⟩
  rw [runI, e1, runI, stepD_in (by simp only; omega), runI]
  simp only [show r / 64 * 64 + (128 + r % 64) % 64 = r by omega, Int.sub_self, if_true, List.nil_append]
theorem dec_3 {r : Int} (h0 : 2048 ≤ r) (h1 : r ≤ 65535) (hs : r < 55296 ∨ 57343 < r) :
    runI [224 + r / 4096, 128 + r / 64 % 64, 128 + r % 64] 0 dec0 = ⟨⟨r, 0, 128, 191⟩, [r], 0⟩ ∧ (∃ s, 0 < s.mi ∧ runI [224 + r / 4096] 0 dec0 = ⟨s, [], 0⟩) ∧
    ∃ s, 0 < s.mi ∧ runI [224 + r / 4096, 128 + r / 64 % 64] 0 dec0 = ⟨s, [], 0⟩ := by
  have e1 : stepD dec0 ((0 : Nat) : Int) (224 + r / 4096) = ⟨⟨r / 4096, 2, if 224 + r / 4096 = 224 then 160 else 128, if 224 + r / 4096 = 237 then 159 else 191⟩, [], 0⟩ := by
    unfold dec0; rw [stepD_fst (by omega) (by omega), beginS_3 (by omega) (by omega)]
    rw [show 224 + r / 4096 - 224 = r / 4096 by omega]; rfl
  have e2 : ∀ i, stepD ⟨⟨r / 4096, 2, if 224 + r / 4096 = 224 then 160 else 128, if 224 + r / 4096 = 237 then 159 else 191⟩, [], 0⟩ i (128 + r / 64 % 64) = ⟨⟨r / 64, 1, 128, 191⟩, [], 0⟩ := by
    intro i
    rw [stepD_in (by simp only; repeat' split
                     all_goals omega)]
    simp only [show r / 4096 * 64 + (128 + r / 64 % 64) % 64 = r / 64 by omega]; rfl
  refine ⟨?_, ⟨_, ?_, by rw [runI, e1]; rfl⟩, ⟨⟨r / 64, 1, 128, 191⟩, (by decide : (0 : Int) < 1), by rw [runI, e1, runI, e2]; rfl⟩⟩
  · rw [runI, e1, runI, e2, runI, stepD_in (by simp only; omega), runI]
    simp only [show r / 64 * 64 + (128 + r % 64) % 64 = r by omega, Int.sub_self, if_true, List.nil_append]
  · exact (by decide : (0 : Int) < 2)
theorem dec_4 {r : Int} (h0 : 65536 ≤ r) (h1 : r ≤ 1114111) :
    runI [240 + r / 262144, 128 + r / 4096 % 64, 128 + r / 64 % 64, 128 + r % 64] 0 dec0 = ⟨⟨r, 0, 128, 191⟩, [r], 0⟩ ∧ (∃ s, 0 < s.mi ∧ runI [240 + r / 262144] 0 dec0 = ⟨s, [], 0⟩) ∧
    (∃ s, 0 < s.mi ∧ runI [240 + r / 262144, 128 + r / 4096 % 64] 0 dec0 = ⟨s, [], 0⟩) ∧ ∃ s, 0 < s.mi ∧ runI [240 + r / 262144, 128 + r / 4096 % 64, 128 + r / 64 % 64] 0 dec0 = ⟨s, [], 0⟩ := by
  have e1 : stepD dec0 ((0 : Nat) : Int) (240 + r / 262144) = ⟨⟨r / 262144, 3, if 240 + r / 262144 = 240 then 144 else 128, if 240 + r / 262144 = 244 then 143 else 191⟩, [], 0⟩ := by
    unfold dec0; rw [stepD_fst (by omega) (by omega), beginS_4 (by omega) (by omega)]
    rw [show 240 + r / 262144 - 240 = r / 262144 by omega]; rfl
  have e2 : ∀ i, stepD ⟨⟨r / 262144, 3, if 240 + r / 262144 = 240 then 144 else 128, if 240 + r / 262144 = 244 then 143 else 191⟩, [], 0⟩ i (128 + r / 4096 % 64) = ⟨⟨r / 4096, 2, 128, 191⟩, [], 0⟩ := by
    intro i
    rw [stepD_in (by simp only; repeat' split
                     all_goals omega)]
    simp only [show r / 262144 * 64 + (128 + r / 4096 % 64) % 64 = r / 4096 by omega]; rfl
  have e3 : ∀ i, stepD ⟨⟨r / 4096, 2, 128, 191⟩, [], 0⟩ i (128 + r / 64 % 64) = ⟨⟨r / 64, 1, 128, 191⟩, [], 0⟩ := by
    intro i
    rw [stepD_in (by simp only; omega)]
    simp only [show r / 4096 * 64 + (128 + r / 64 % 64) % 64 = r / 64 by omega]; rfl
  refine ⟨?_, ⟨_, ?_, by rw [runI, e1]; rfl⟩, ⟨⟨r / 4096, 2, 128, 191⟩, (by decide : (0 : Int) < 2), by rw [runI, e1, runI, e2]; rfl⟩, ⟨⟨r / 64, 1, 128, 191⟩, (by decide : (0 : Int) < 1), by rw [runI, e1, runI, e2, runI, e3]; rfl⟩⟩
  · rw [runI, e1, runI, e2, runI, e3, runI, stepD_in (by simp only; omega), runI]
    simp only [show r / 64 * 64 + (128 + r % 64) % 64 = r by omega, Int.sub_self, if_true, List.nil_append]
  · exact (by decide : (0 : Int) < 3)
theorem decOut_enc (r : Int) : decOut (by8 (encR r)) = [if goodR r = true then r else 65533] := by
  unfold decOut decD
  rw [runI_by8 _ _ _ (encR_b r)]
  unfold encR
  by_cases he : r < 0 ∨ (55296 ≤ r ∧ r ≤ 57343) ∨ 1114111 < r
  · have hg : goodR r = false := by simp [goodR]; omega
    rw [if_pos he, hg, if_neg (by decide)]; decide
  · have hg : goodR r = true := by simp [goodR]; omega
    rw [if_neg he, hg, if_pos rfl]
    by_cases h1 : r ≤ 127
    · rw [if_pos h1, runI, runI, (stepD_one (b := r) (by omega) (by omega)).1]; rfl
    · rw [if_neg h1]
      by_cases h2 : r ≤ 2047
      · rw [if_pos h2]; exact congrArg Dec.out (dec_2 (by omega) h2).1
      · rw [if_neg h2]
        by_cases h3 : r ≤ 65535
        · rw [if_pos h3]; exact congrArg Dec.out (dec_3 (by omega) h3 (by omega)).1
        · rw [if_neg h3]; exact congrArg Dec.out (dec_4 (by omega) (by omega)).1
end Go.VI

namespace Go.VI
open Go.Proofs
set_option maxRecDepth 100000
set_option linter.unusedSimpArgs false
set_option linter.unusedVariables false
set_option maxHeartbeats 4000000
theorem ika42 (x : Int) (h0 : 0 ≤ x) (h1 : x ≤ 9999) (a : List UInt8) (n : Nat) (hn : n = a.length) (hl : n < 1000000) (g : Nat) (T : Hp) :
    isoK E (callT E) 42 [.ref 0 g 0 n, .i (.v (.int .i64 x)), .i (.v (.int .i64 10))] (.sl 1 g (rowsB a) false :: T) = some (.ref 0 (g + 1) 0 (n + (numB x).length), .sl 1 (g + 1) (rowsB (a ++ numB x)) false :: T) :=
  ik42 x h0 (by omega) hn hl rfl
def fmtG : Bool → List Int → List UInt8
  | _, [] => []
  | true, n :: l => numB n ++ fmtG false l
  | false, n :: l => 59 :: (numB n ++ fmtG false l)
theorem b59 (a : List UInt8) : rowsB a ++ [[.v (.int .u8 59)]] = rowsB (a ++ [59]) := rowsB_snoc a 59 59 rfl
theorem l23 (s : List UInt8) (l : List Int) (hl : l.length < 1000) (hl9 : ∀ n ∈ l, n ≤ 9999) (k : Nat) (hk : k ≤ l.length) (out : List UInt8) (ho : out.length ≤ 21 * k + 1) :
    rl E 0 23 (loopAt Tryd.f23 0) [(2, .i (.str s)), (8, .ref 0 0 0 out.length), (45, .i (.sl 1 (rows64 l) false)), (46, .i (.v (.int .i64 l.length))), (47, .i (.v (.int .i64 k)))] [.sl 1 0 (rowsB out) false] =
    some (.exit 1, [(2, .i (.str s)), (8, .ref 0 0 0 (out ++ fmtG (decide (k = 0)) (l.drop k)).length), (45, .i (.sl 1 (rows64 l) false)), (46, .i (.v (.int .i64 l.length))), (47, .i (.v (.int .i64 l.length))), (48, .i (.v (.bool false)))], [.sl 1 0 (rowsB (out ++ fmtG (decide (k = 0)) (l.drop k))) false]) := by
  rw [rl_step (fn := Tryd.f23) (k := 0) rfl]
  by_cases hlt : k < l.length
  · have hrow := rows64_at hlt
    have h9 : l[k] ≤ 9999 := hl9 _ (List.getElem_mem hlt)
    have h20 : (numB l[k]).length ≤ 20 := numB_len _ (by omega)
    have hn0 : ¬ 0 ≤ l[k] → numB l[k] = [] := fun h => by rw [numB, if_neg h]
    have hka := ika42 l[k]
    by_cases h0 : k = 0
    · have ih := l23 s l hl hl9 (k + 1) hlt (out ++ numB l[k]) (by rw [List.length_append]; omega)
      rw [show decide (k + 1 = 0) = false by simp, List.append_assoc] at ih
      rw [List.drop_eq_getElem_cons hlt, show decide (k = 0) = true by simpa using h0, fmtG, ← ih]
      clear ih
      generalize l[k] = n at *
      by_cases hn : 0 ≤ n
      · have hka := hka hn h9
        simp (disch := first | omega | (simp only [List.length_append, List.length_map, List.length_set, List.length_cons, List.length_nil, List.length_take, List.length_drop, rows64_len, rowsB_len]; omega)) only [va0, va1, va2, va3, va4, va5, va6, va7, va8, va9, va10, va11, va12, va13, va14, va15, vb0, vb1, vb2, vb3, w_i8, w_u8, w_i16, w_u16, w_i32, w_u32, w_i64, w_u64, lt_T, lt_F, le_T, le_F, nlt_T, nlt_F, nle_T, nle_F, List.take_of_length_le, gB, gcW, gcR, posIn, renA, renL, Chunk.ren, Chunk.refs, evOpD, touchD, stepC, isFresh, nFresh, freshOf, mkR, hole, evL, evH, opd, get, putD, ofVal, cellOf, loadE, behind, lenE, idxAddrE, idxE, addPtr, intE, strE, unE, convE, AV.int, AV.bool, AV.str, ivs, take, frameOf, firstRegion, refsA, refsL, one, cellsA, floatOk, apartT, List.map, if_true, if_false, E_P, E_glob0, reduceCtorEq, beq_self_eq_true, decide_true, decide_false, ↓reduceIte, Nat.reduceEqDiff, cond_true, cond_false, or_true, true_or, or_false, false_or, and_true, true_and, and_self, false_and, and_false, not_true, not_false_iff, Nat.reduceAdd, Nat.reduceSub, Nat.reduceMul, Nat.reduceLT, Nat.reduceLeDiff, Int.reduceToNat, Int.reduceLT, Int.reduceLE, Option.getD, Int.reduceMul, Int.reduceAdd, List.drop, List.take, Nat.reduceBEq, List.isEmpty, Int.reduceEq, Int.reduceNe, Int.reduceNeg, Int.reduceGT, Int.reduceGE, beq_true, beq_false, UInt8.reduceToNat, eqE, eq_self, foldE, maxE, minE, eq_T, eq_F, ndec, odec, adec, sdec, fillA, over, chop, List.replicate, leavesOk, leafOk, cellsEq, cellEq, E_byref, en23, bs29, bs47, hrow, hn, hka, rows64_len, rowsB_len, show ∀ B fr H, execT E B 23 (Code.loop _) fr H = rlM E B 23 (loopAt Tryd.f23 0) [2, 8, 45, 46, 47] [] (matF [(8, 1)] fr H).1 (matB [] (matF [(8, 1)] fr H).1 (matF [(8, 1)] fr H).2) from fun B fr H => rl_introM rfl mt23_13 mb23_13 zf23_13 hd23_13 fr H]
      · rw [hn0 hn, List.append_nil]
        simp (disch := first | omega | (simp only [List.length_append, List.length_map, List.length_set, List.length_cons, List.length_nil, List.length_take, List.length_drop, rows64_len, rowsB_len]; omega)) only [va0, va1, va2, va3, va4, va5, va6, va7, va8, va9, va10, va11, va12, va13, va14, va15, vb0, vb1, vb2, vb3, w_i8, w_u8, w_i16, w_u16, w_i32, w_u32, w_i64, w_u64, lt_T, lt_F, le_T, le_F, nlt_T, nlt_F, nle_T, nle_F, List.take_of_length_le, gB, gcW, gcR, posIn, renA, renL, Chunk.ren, Chunk.refs, evOpD, touchD, stepC, isFresh, nFresh, freshOf, mkR, hole, evL, evH, opd, get, putD, ofVal, cellOf, loadE, behind, lenE, idxAddrE, idxE, addPtr, intE, strE, unE, convE, AV.int, AV.bool, AV.str, ivs, take, frameOf, firstRegion, refsA, refsL, one, cellsA, floatOk, apartT, List.map, if_true, if_false, E_P, E_glob0, reduceCtorEq, beq_self_eq_true, decide_true, decide_false, ↓reduceIte, Nat.reduceEqDiff, cond_true, cond_false, or_true, true_or, or_false, false_or, and_true, true_and, and_self, false_and, and_false, not_true, not_false_iff, Nat.reduceAdd, Nat.reduceSub, Nat.reduceMul, Nat.reduceLT, Nat.reduceLeDiff, Int.reduceToNat, Int.reduceLT, Int.reduceLE, Option.getD, Int.reduceMul, Int.reduceAdd, List.drop, List.take, Nat.reduceBEq, List.isEmpty, Int.reduceEq, Int.reduceNe, Int.reduceNeg, Int.reduceGT, Int.reduceGE, beq_true, beq_false, UInt8.reduceToNat, eqE, eq_self, foldE, maxE, minE, eq_T, eq_F, ndec, odec, adec, sdec, fillA, over, chop, List.replicate, leavesOk, leafOk, cellsEq, cellEq, E_byref, en23, bs29, bs47, hrow, hn, rows64_len, rowsB_len, show ∀ B fr H, execT E B 23 (Code.loop _) fr H = rlM E B 23 (loopAt Tryd.f23 0) [2, 8, 45, 46, 47] [] (matF [(8, 1)] fr H).1 (matB [] (matF [(8, 1)] fr H).1 (matF [(8, 1)] fr H).2) from fun B fr H => rl_introM rfl mt23_13 mb23_13 zf23_13 hd23_13 fr H]
    · have ih := l23 s l hl hl9 (k + 1) hlt (out ++ ([59] ++ numB l[k])) (by simp only [List.length_append, List.length_cons, List.length_nil]; omega)
      rw [show decide (k + 1 = 0) = false by simp, List.append_assoc, List.append_assoc] at ih
      rw [List.drop_eq_getElem_cons hlt, show decide (k = 0) = false by simpa using h0, fmtG]
      have ih' := ih
      simp only [List.cons_append, List.nil_append] at ih'
      rw [← ih']
      clear ih ih'
      have hk0 : 0 < k := by omega
      generalize l[k] = n at *
      by_cases hn : 0 ≤ n
      · have hka := hka hn h9 (out ++ [59]) (out.length + 1) (by simp) (by omega)
        have e1 : out.length + ((numB n).length + 1) = out.length + 1 + (numB n).length := by omega
        simp (disch := first | omega | (simp only [List.length_append, List.length_map, List.length_set, List.length_cons, List.length_nil, List.length_take, List.length_drop, rows64_len, rowsB_len]; omega)) only [va0, va1, va2, va3, va4, va5, va6, va7, va8, va9, va10, va11, va12, va13, va14, va15, vb0, vb1, vb2, vb3, w_i8, w_u8, w_i16, w_u16, w_i32, w_u32, w_i64, w_u64, lt_T, lt_F, le_T, le_F, nlt_T, nlt_F, nle_T, nle_F, List.take_of_length_le, gB, gcW, gcR, posIn, renA, renL, Chunk.ren, Chunk.refs, evOpD, touchD, stepC, isFresh, nFresh, freshOf, mkR, hole, evL, evH, opd, get, putD, ofVal, cellOf, loadE, behind, lenE, idxAddrE, idxE, addPtr, intE, strE, unE, convE, AV.int, AV.bool, AV.str, ivs, take, frameOf, firstRegion, refsA, refsL, one, cellsA, floatOk, apartT, List.map, if_true, if_false, E_P, E_glob0, reduceCtorEq, beq_self_eq_true, decide_true, decide_false, ↓reduceIte, Nat.reduceEqDiff, cond_true, cond_false, or_true, true_or, or_false, false_or, and_true, true_and, and_self, false_and, and_false, not_true, not_false_iff, Nat.reduceAdd, Nat.reduceSub, Nat.reduceMul, Nat.reduceLT, Nat.reduceLeDiff, Int.reduceToNat, Int.reduceLT, Int.reduceLE, Option.getD, Int.reduceMul, Int.reduceAdd, List.drop, List.take, Nat.reduceBEq, List.isEmpty, Int.reduceEq, Int.reduceNe, Int.reduceNeg, Int.reduceGT, Int.reduceGE, beq_true, beq_false, UInt8.reduceToNat, eqE, eq_self, foldE, maxE, minE, eq_T, eq_F, ndec, odec, adec, sdec, fillA, over, chop, List.replicate, leavesOk, leafOk, cellsEq, cellEq, E_byref, en23, bs29, bs47, hrow, hk0, hn, hka, b59, rows64_len, rowsB_len, List.append_assoc, show ∀ B fr H, execT E B 23 (Code.loop _) fr H = rlM E B 23 (loopAt Tryd.f23 0) [2, 8, 45, 46, 47] [] (matF [(8, 1)] fr H).1 (matB [] (matF [(8, 1)] fr H).1 (matF [(8, 1)] fr H).2) from fun B fr H => rl_introM rfl mt23_13 mb23_13 zf23_13 hd23_13 fr H]
        rw [e1]
      · rw [hn0 hn]
        simp (disch := first | omega | (simp only [List.length_append, List.length_map, List.length_set, List.length_cons, List.length_nil, List.length_take, List.length_drop, rows64_len, rowsB_len]; omega)) only [va0, va1, va2, va3, va4, va5, va6, va7, va8, va9, va10, va11, va12, va13, va14, va15, vb0, vb1, vb2, vb3, w_i8, w_u8, w_i16, w_u16, w_i32, w_u32, w_i64, w_u64, lt_T, lt_F, le_T, le_F, nlt_T, nlt_F, nle_T, nle_F, List.take_of_length_le, gB, gcW, gcR, posIn, renA, renL, Chunk.ren, Chunk.refs, evOpD, touchD, stepC, isFresh, nFresh, freshOf, mkR, hole, evL, evH, opd, get, putD, ofVal, cellOf, loadE, behind, lenE, idxAddrE, idxE, addPtr, intE, strE, unE, convE, AV.int, AV.bool, AV.str, ivs, take, frameOf, firstRegion, refsA, refsL, one, cellsA, floatOk, apartT, List.map, if_true, if_false, E_P, E_glob0, reduceCtorEq, beq_self_eq_true, decide_true, decide_false, ↓reduceIte, Nat.reduceEqDiff, cond_true, cond_false, or_true, true_or, or_false, false_or, and_true, true_and, and_self, false_and, and_false, not_true, not_false_iff, Nat.reduceAdd, Nat.reduceSub, Nat.reduceMul, Nat.reduceLT, Nat.reduceLeDiff, Int.reduceToNat, Int.reduceLT, Int.reduceLE, Option.getD, Int.reduceMul, Int.reduceAdd, List.drop, List.take, Nat.reduceBEq, List.isEmpty, Int.reduceEq, Int.reduceNe, Int.reduceNeg, Int.reduceGT, Int.reduceGE, beq_true, beq_false, UInt8.reduceToNat, eqE, eq_self, foldE, maxE, minE, eq_T, eq_F, ndec, odec, adec, sdec, fillA, over, chop, List.replicate, leavesOk, leafOk, cellsEq, cellEq, E_byref, en23, bs29, bs47, hrow, hk0, hn, b59, rows64_len, rowsB_len, List.append_assoc, show ∀ B fr H, execT E B 23 (Code.loop _) fr H = rlM E B 23 (loopAt Tryd.f23 0) [2, 8, 45, 46, 47] [] (matF [(8, 1)] fr H).1 (matB [] (matF [(8, 1)] fr H).1 (matF [(8, 1)] fr H).2) from fun B fr H => rl_introM rfl mt23_13 mb23_13 zf23_13 hd23_13 fr H]
  · obtain rfl : k = l.length := by omega
    rw [List.drop_length]
    simp only [fmtG, List.append_nil]
    simp (disch := first | omega | (simp only [List.length_append, List.length_map, List.length_set, List.length_cons, List.length_nil, List.length_take, List.length_drop]; omega)) only [va0, va1, va2, va3, va4, va5, va6, va7, va8, va9, va10, va11, va12, va13, va14, va15, vb0, vb1, vb2, vb3, w_i8, w_u8, w_i16, w_u16, w_i32, w_u32, w_i64, w_u64, lt_T, lt_F, le_T, le_F, nlt_T, nlt_F, nle_T, nle_F, List.take_of_length_le, gB, gcW, gcR, posIn, renA, renL, Chunk.ren, Chunk.refs, evOpD, touchD, stepC, isFresh, nFresh, freshOf, mkR, hole, evL, evH, opd, get, putD, ofVal, cellOf, loadE, behind, lenE, idxAddrE, idxE, addPtr, intE, strE, unE, convE, AV.int, AV.bool, AV.str, ivs, take, frameOf, firstRegion, refsA, refsL, one, cellsA, floatOk, apartT, List.map, if_true, if_false, E_P, E_glob0, reduceCtorEq, beq_self_eq_true, decide_true, decide_false, ↓reduceIte, Nat.reduceEqDiff, cond_true, cond_false, or_true, true_or, or_false, false_or, and_true, true_and, and_self, false_and, and_false, not_true, not_false_iff, Nat.reduceAdd, Nat.reduceSub, Nat.reduceMul, Nat.reduceLT, Nat.reduceLeDiff, Int.reduceToNat, Int.reduceLT, Int.reduceLE, Option.getD, Int.reduceMul, Int.reduceAdd, List.drop, List.take, Nat.reduceBEq, List.isEmpty, Int.reduceEq, Int.reduceNe, Int.reduceNeg, Int.reduceGT, Int.reduceGE, beq_true, beq_false, UInt8.reduceToNat, eqE, eq_self, foldE, maxE, minE, eq_T, eq_F, ndec, odec, adec, sdec, fillA, over, chop, List.replicate, leavesOk, leafOk, cellsEq, cellEq, E_byref, en23, bs29, bs47]
termination_by l.length - k
def fmtS (p : Int) (l : List Int) (s : List UInt8) : List UInt8 × Int :=
  if (p ≠ 0 ∧ privB p = false) ∨ trailB s = false ∨ l = [-1] then ([], 1) else if l.any lowB then ([], 1) else if limB l s = false then ([], 5) else
    ((if p = 0 then [] else [UInt8.ofNat p.toNat]) ++ fmtG true l ++ s, 0)
def fmtA (r : List UInt8 × Int) : AV := .tup [.i (.str r.1), .i (.v (.int .i64 r.2))]
theorem fmtG_len (l : List Int) (b : Bool) (h9 : ∀ n ∈ l, n ≤ 9999) : (fmtG b l).length ≤ 21 * l.length := by
  induction l generalizing b with
  | nil => cases b <;> simp [fmtG]
  | cons n l ih =>
    have := ih false fun n hn => h9 n (List.mem_cons_of_mem _ hn)
    have h20 := numB_len n (by have := h9 n (List.mem_cons_self ..); omega)
    cases b <;> simp only [fmtG, List.length_cons, List.length_append] <;> omega
end Go.VI

namespace Go.VI
open Go.Proofs
set_option maxRecDepth 100000
set_option linter.unusedSimpArgs false
set_option linter.unusedVariables false
set_option maxHeartbeats 4000000
theorem u8_back {p : Int} (h : 0 ≤ p ∧ p < 256) : ((UInt8.ofNat p.toNat).toNat : Int) = p := by
  have : p.toNat < 256 := by omega
  rw [UInt8.toNat_ofNat']
  have : p.toNat % 2 ^ 8 = p.toNat := Nat.mod_eq_of_lt (by omega)
  omega
theorem lim9 {l : List Int} {s : List UInt8} (h : limB l s = true) : ∀ n ∈ l, n ≤ 9999 := by
  intro n hn
  simp only [limB, Bool.and_eq_true, Bool.not_eq_true'] at h
  have := List.any_eq_false.1 h.2 n hn
  simpa [over9999] using this
theorem lim16 {l : List Int} {s : List UInt8} (h : limB l s = true) : l.length ≤ 16 ∧ s.length ≤ 2 := by
  simp only [limB, Bool.and_eq_true, decide_eq_true_eq] at h
  exact h.1
theorem c23 (p : Int) (hp : 0 ≤ p ∧ p < 256) (l : List Int) (s : List UInt8) (hl : (l.length : Int) < 9223372036854775808) (hs : (s.length : Int) < 9223372036854775808) :
    ∃ L, callT E 23 [.i (.v (.int .u8 p)), .i (.sl 1 (rows64 l) false), .i (.str s)] [] = some (fmtA (fmtS p l s), L) := by
  have hl0 : 0 < l.length → (rows64 l)[0]? = some [.v (.int .i64 (l.headD 0))] := fun h => by cases l with | nil => cases h | cons a l => rfl
  unfold fmtS
  cases ht : trailB s with
  | false =>
    by_cases h0 : p = 0
    · rw [callT_eq Tryd.func23 rfl fok23 (by simp [Tryd.ntmps23])]
      rw [if_pos (.inr (.inl rfl))]; unfold fmtA; simp (disch := first | omega | (simp only [List.length_append, List.length_map, List.length_set, List.length_cons, List.length_nil, List.length_take, List.length_drop, rows64_len, rowsB_len]; omega)) only [va0, va1, va2, va3, va4, va5, va6, va7, va8, va9, va10, va11, va12, va13, va14, va15, vb0, vb1, vb2, vb3, w_i8, w_u8, w_i16, w_u16, w_i32, w_u32, w_i64, w_u64, lt_T, lt_F, le_T, le_F, nlt_T, nlt_F, nle_T, nle_F, List.take_of_length_le, gB, gcW, gcR, posIn, renA, renL, Chunk.ren, Chunk.refs, evOpD, touchD, stepC, isFresh, nFresh, freshOf, mkR, hole, evL, evH, opd, get, putD, ofVal, cellOf, loadE, behind, lenE, idxAddrE, idxE, addPtr, intE, strE, unE, convE, AV.int, AV.bool, AV.str, ivs, take, frameOf, firstRegion, refsA, refsL, one, cellsA, floatOk, apartT, List.map, if_true, if_false, E_P, E_glob0, reduceCtorEq, beq_self_eq_true, decide_true, decide_false, ↓reduceIte, Nat.reduceEqDiff, cond_true, cond_false, or_true, true_or, or_false, false_or, and_true, true_and, and_self, false_and, and_false, not_true, not_false_iff, Nat.reduceAdd, Nat.reduceSub, Nat.reduceMul, Nat.reduceLT, Nat.reduceLeDiff, Int.reduceToNat, Int.reduceLT, Int.reduceLE, Option.getD, Int.reduceMul, Int.reduceAdd, List.drop, List.take, Nat.reduceBEq, List.isEmpty, Int.reduceEq, Int.reduceNe, Int.reduceNeg, Int.reduceGT, Int.reduceGE, beq_true, beq_false, UInt8.reduceToNat, eqE, eq_self, foldE, maxE, minE, eq_T, eq_F, ndec, odec, adec, sdec, fillA, over, chop, List.replicate, leavesOk, leafOk, cellsEq, cellEq, E_byref, en23, bs29, bs47, hl0, ik37, ik38, ik41, ikf39, ca40, rows64_len, rowsB_len, rowsB_num, bytes_back, rowsB_take, List.take_of_length_le, ht, h0, show ∀ B fr H, execT E B 23 (Code.loop _) fr H = rlM E B 23 (loopAt Tryd.f23 0) [2, 8, 45, 46, 47] [] (matF [(8, 1)] fr H).1 (matB [] (matF [(8, 1)] fr H).1 (matF [(8, 1)] fr H).2) from fun B fr H => rl_introM rfl mt23_13 mb23_13 zf23_13 hd23_13 fr H]; exact ⟨_, rfl⟩
    · cases hv : privB p with
      | true =>
        rw [callT_eq Tryd.func23 rfl fok23 (by simp [Tryd.ntmps23])]
        rw [if_pos (.inr (.inl rfl))]; unfold fmtA; simp (disch := first | omega | (simp only [List.length_append, List.length_map, List.length_set, List.length_cons, List.length_nil, List.length_take, List.length_drop, rows64_len, rowsB_len]; omega)) only [va0, va1, va2, va3, va4, va5, va6, va7, va8, va9, va10, va11, va12, va13, va14, va15, vb0, vb1, vb2, vb3, w_i8, w_u8, w_i16, w_u16, w_i32, w_u32, w_i64, w_u64, lt_T, lt_F, le_T, le_F, nlt_T, nlt_F, nle_T, nle_F, List.take_of_length_le, gB, gcW, gcR, posIn, renA, renL, Chunk.ren, Chunk.refs, evOpD, touchD, stepC, isFresh, nFresh, freshOf, mkR, hole, evL, evH, opd, get, putD, ofVal, cellOf, loadE, behind, lenE, idxAddrE, idxE, addPtr, intE, strE, unE, convE, AV.int, AV.bool, AV.str, ivs, take, frameOf, firstRegion, refsA, refsL, one, cellsA, floatOk, apartT, List.map, if_true, if_false, E_P, E_glob0, reduceCtorEq, beq_self_eq_true, decide_true, decide_false, ↓reduceIte, Nat.reduceEqDiff, cond_true, cond_false, or_true, true_or, or_false, false_or, and_true, true_and, and_self, false_and, and_false, not_true, not_false_iff, Nat.reduceAdd, Nat.reduceSub, Nat.reduceMul, Nat.reduceLT, Nat.reduceLeDiff, Int.reduceToNat, Int.reduceLT, Int.reduceLE, Option.getD, Int.reduceMul, Int.reduceAdd, List.drop, List.take, Nat.reduceBEq, List.isEmpty, Int.reduceEq, Int.reduceNe, Int.reduceNeg, Int.reduceGT, Int.reduceGE, beq_true, beq_false, UInt8.reduceToNat, eqE, eq_self, foldE, maxE, minE, eq_T, eq_F, ndec, odec, adec, sdec, fillA, over, chop, List.replicate, leavesOk, leafOk, cellsEq, cellEq, E_byref, en23, bs29, bs47, hl0, ik37, ik38, ik41, ikf39, ca40, rows64_len, rowsB_len, rowsB_num, bytes_back, rowsB_take, List.take_of_length_le, ht, h0, hv, show ∀ B fr H, execT E B 23 (Code.loop _) fr H = rlM E B 23 (loopAt Tryd.f23 0) [2, 8, 45, 46, 47] [] (matF [(8, 1)] fr H).1 (matB [] (matF [(8, 1)] fr H).1 (matF [(8, 1)] fr H).2) from fun B fr H => rl_introM rfl mt23_13 mb23_13 zf23_13 hd23_13 fr H]; exact ⟨_, rfl⟩
      | false =>
        rw [callT_eq Tryd.func23 rfl fok23 (by simp [Tryd.ntmps23])]
        rw [if_pos (.inr (.inl rfl))]; unfold fmtA; simp (disch := first | omega | (simp only [List.length_append, List.length_map, List.length_set, List.length_cons, List.length_nil, List.length_take, List.length_drop, rows64_len, rowsB_len]; omega)) only [va0, va1, va2, va3, va4, va5, va6, va7, va8, va9, va10, va11, va12, va13, va14, va15, vb0, vb1, vb2, vb3, w_i8, w_u8, w_i16, w_u16, w_i32, w_u32, w_i64, w_u64, lt_T, lt_F, le_T, le_F, nlt_T, nlt_F, nle_T, nle_F, List.take_of_length_le, gB, gcW, gcR, posIn, renA, renL, Chunk.ren, Chunk.refs, evOpD, touchD, stepC, isFresh, nFresh, freshOf, mkR, hole, evL, evH, opd, get, putD, ofVal, cellOf, loadE, behind, lenE, idxAddrE, idxE, addPtr, intE, strE, unE, convE, AV.int, AV.bool, AV.str, ivs, take, frameOf, firstRegion, refsA, refsL, one, cellsA, floatOk, apartT, List.map, if_true, if_false, E_P, E_glob0, reduceCtorEq, beq_self_eq_true, decide_true, decide_false, ↓reduceIte, Nat.reduceEqDiff, cond_true, cond_false, or_true, true_or, or_false, false_or, and_true, true_and, and_self, false_and, and_false, not_true, not_false_iff, Nat.reduceAdd, Nat.reduceSub, Nat.reduceMul, Nat.reduceLT, Nat.reduceLeDiff, Int.reduceToNat, Int.reduceLT, Int.reduceLE, Option.getD, Int.reduceMul, Int.reduceAdd, List.drop, List.take, Nat.reduceBEq, List.isEmpty, Int.reduceEq, Int.reduceNe, Int.reduceNeg, Int.reduceGT, Int.reduceGE, beq_true, beq_false, UInt8.reduceToNat, eqE, eq_self, foldE, maxE, minE, eq_T, eq_F, ndec, odec, adec, sdec, fillA, over, chop, List.replicate, leavesOk, leafOk, cellsEq, cellEq, E_byref, en23, bs29, bs47, hl0, ik37, ik38, ik41, ikf39, ca40, rows64_len, rowsB_len, rowsB_num, bytes_back, rowsB_take, List.take_of_length_le, ht, h0, hv, show ∀ B fr H, execT E B 23 (Code.loop _) fr H = rlM E B 23 (loopAt Tryd.f23 0) [2, 8, 45, 46, 47] [] (matF [(8, 1)] fr H).1 (matB [] (matF [(8, 1)] fr H).1 (matF [(8, 1)] fr H).2) from fun B fr H => rl_introM rfl mt23_13 mb23_13 zf23_13 hd23_13 fr H]; exact ⟨_, rfl⟩
  | true =>
    obtain ⟨b, rfl⟩ : ∃ b : UInt8, p = b.toNat := ⟨UInt8.ofNat p.toNat, (u8_back hp).symm⟩
    have hb : UInt8.ofNat ((b.toNat : Int)).toNat = b := by simp
    rw [hb]
    by_cases h0 : (b.toNat : Int) = 0
    · have hloop : limB l s = true → rl E 0 23 (loopAt Tryd.f23 0) [(2, .i (.str s)), (8, .ref 0 0 0 0), (45, .i (.sl 1 (rows64 l) false)), (46, .i (.v (.int .i64 l.length))), (47, .i (.v (.int .i64 0)))] [.sl 1 0 [] false] =
          some (.exit 1, [(2, .i (.str s)), (8, .ref 0 0 0 ([] ++ fmtG true l).length), (45, .i (.sl 1 (rows64 l) false)), (46, .i (.v (.int .i64 l.length))), (47, .i (.v (.int .i64 l.length))), (48, .i (.v (.bool false)))], [.sl 1 0 (rowsB ([] ++ fmtG true l)) false]) :=
        fun h => l23 s l (by have := lim16 h; omega) (lim9 h) 0 (Nat.zero_le _) [] (by simp)
      rw [show (if (b.toNat : Int) = 0 then ([] : List UInt8) else [b]) = [] from if_pos h0]
      have hz := h0
      generalize (b.toNat : Int) = p at *
      subst h0
      have h0 := trivial
      by_cases h1 : l.length = 1 
      · obtain ⟨n, hln⟩ : ∃ n, l = [n] := List.length_eq_one_iff.1 h1 
        have hl0 : (rows64 l)[0]? = some [.v (.int .i64 n)] := by rw [hln]; rfl 
        by_cases hn : n = -1 
        · subst hn; rw [callT_eq Tryd.func23 rfl fok23 (by simp [Tryd.ntmps23])]; rw [if_pos (.inr (.inr hln))]; unfold fmtA; simp (disch := first | omega | (simp only [List.length_append, List.length_map, List.length_set, List.length_cons, List.length_nil, List.length_take, List.length_drop, rows64_len, rowsB_len]; omega)) only [va0, va1, va2, va3, va4, va5, va6, va7, va8, va9, va10, va11, va12, va13, va14, va15, vb0, vb1, vb2, vb3, w_i8, w_u8, w_i16, w_u16, w_i32, w_u32, w_i64, w_u64, lt_T, lt_F, le_T, le_F, nlt_T, nlt_F, nle_T, nle_F, List.take_of_length_le, gB, gcW, gcR, posIn, renA, renL, Chunk.ren, Chunk.refs, evOpD, touchD, stepC, isFresh, nFresh, freshOf, mkR, hole, evL, evH, opd, get, putD, ofVal, cellOf, loadE, behind, lenE, idxAddrE, idxE, addPtr, intE, strE, unE, convE, AV.int, AV.bool, AV.str, ivs, take, frameOf, firstRegion, refsA, refsL, one, cellsA, floatOk, apartT, List.map, if_true, if_false, E_P, E_glob0, reduceCtorEq, beq_self_eq_true, decide_true, decide_false, ↓reduceIte, Nat.reduceEqDiff, cond_true, cond_false, or_true, true_or, or_false, false_or, and_true, true_and, and_self, false_and, and_false, not_true, not_false_iff, Nat.reduceAdd, Nat.reduceSub, Nat.reduceMul, Nat.reduceLT, Nat.reduceLeDiff, Int.reduceToNat, Int.reduceLT, Int.reduceLE, Option.getD, Int.reduceMul, Int.reduceAdd, List.drop, List.take, Nat.reduceBEq, List.isEmpty, Int.reduceEq, Int.reduceNe, Int.reduceNeg, Int.reduceGT, Int.reduceGE, beq_true, beq_false, UInt8.reduceToNat, eqE, eq_self, foldE, maxE, minE, eq_T, eq_F, ndec, odec, adec, sdec, fillA, over, chop, List.replicate, leavesOk, leafOk, cellsEq, cellEq, E_byref, en23, bs29, bs47, hl0, ik37, ik38, ik41, ikf39, ca40, rows64_len, rowsB_len, rowsB_num, bytes_back, rowsB_take, List.take_of_length_le, ht, h0, show ∀ B fr H, execT E B 23 (Code.loop _) fr H = rlM E B 23 (loopAt Tryd.f23 0) [2, 8, 45, 46, 47] [] (matF [(8, 1)] fr H).1 (matB [] (matF [(8, 1)] fr H).1 (matF [(8, 1)] fr H).2) from fun B fr H => rl_introM rfl mt23_13 mb23_13 zf23_13 hd23_13 fr H]; exact ⟨_, rfl⟩ 
        · have hl1 : l ≠ [-1] := fun h => hn (by rw [hln] at h; simpa using h) 
          clear hln 
          rw [if_neg (by rintro (h | h | h) <;> first | exact absurd rfl h.1 | (cases h; done) | exact hl1 h | (rw [hv] at h; cases h.2))]; unfold fmtA; rw [callT_eq Tryd.func23 rfl fok23 (by simp [Tryd.ntmps23])]; cases hlow : l.any lowB with 
      | true => rw [if_pos rfl]; simp (disch := first | omega | (simp only [List.length_append, List.length_map, List.length_set, List.length_cons, List.length_nil, List.length_take, List.length_drop, rows64_len, rowsB_len]; omega)) only [va0, va1, va2, va3, va4, va5, va6, va7, va8, va9, va10, va11, va12, va13, va14, va15, vb0, vb1, vb2, vb3, w_i8, w_u8, w_i16, w_u16, w_i32, w_u32, w_i64, w_u64, lt_T, lt_F, le_T, le_F, nlt_T, nlt_F, nle_T, nle_F, List.take_of_length_le, gB, gcW, gcR, posIn, renA, renL, Chunk.ren, Chunk.refs, evOpD, touchD, stepC, isFresh, nFresh, freshOf, mkR, hole, evL, evH, opd, get, putD, ofVal, cellOf, loadE, behind, lenE, idxAddrE, idxE, addPtr, intE, strE, unE, convE, AV.int, AV.bool, AV.str, ivs, take, frameOf, firstRegion, refsA, refsL, one, cellsA, floatOk, apartT, List.map, if_true, if_false, E_P, E_glob0, reduceCtorEq, beq_self_eq_true, decide_true, decide_false, ↓reduceIte, Nat.reduceEqDiff, cond_true, cond_false, or_true, true_or, or_false, false_or, and_true, true_and, and_self, false_and, and_false, not_true, not_false_iff, Nat.reduceAdd, Nat.reduceSub, Nat.reduceMul, Nat.reduceLT, Nat.reduceLeDiff, Int.reduceToNat, Int.reduceLT, Int.reduceLE, Option.getD, Int.reduceMul, Int.reduceAdd, List.drop, List.take, Nat.reduceBEq, List.isEmpty, Int.reduceEq, Int.reduceNe, Int.reduceNeg, Int.reduceGT, Int.reduceGE, beq_true, beq_false, UInt8.reduceToNat, eqE, eq_self, foldE, maxE, minE, eq_T, eq_F, ndec, odec, adec, sdec, fillA, over, chop, List.replicate, leavesOk, leafOk, cellsEq, cellEq, E_byref, en23, bs29, bs47, hl0, ik37, ik38, ik41, ikf39, ca40, rows64_len, rowsB_len, rowsB_num, bytes_back, rowsB_take, List.take_of_length_le, ht, h0, hn, hlow, show ∀ B fr H, execT E B 23 (Code.loop _) fr H = rlM E B 23 (loopAt Tryd.f23 0) [2, 8, 45, 46, 47] [] (matF [(8, 1)] fr H).1 (matB [] (matF [(8, 1)] fr H).1 (matF [(8, 1)] fr H).2) from fun B fr H => rl_introM rfl mt23_13 mb23_13 zf23_13 hd23_13 fr H]; exact ⟨_, rfl⟩ 
      | false => 
        rw [if_neg (by simp)] 
        cases hlim : limB l s with 
        | false => rw [if_pos rfl]; simp (disch := first | omega | (simp only [List.length_append, List.length_map, List.length_set, List.length_cons, List.length_nil, List.length_take, List.length_drop, rows64_len, rowsB_len]; omega)) only [va0, va1, va2, va3, va4, va5, va6, va7, va8, va9, va10, va11, va12, va13, va14, va15, vb0, vb1, vb2, vb3, w_i8, w_u8, w_i16, w_u16, w_i32, w_u32, w_i64, w_u64, lt_T, lt_F, le_T, le_F, nlt_T, nlt_F, nle_T, nle_F, List.take_of_length_le, gB, gcW, gcR, posIn, renA, renL, Chunk.ren, Chunk.refs, evOpD, touchD, stepC, isFresh, nFresh, freshOf, mkR, hole, evL, evH, opd, get, putD, ofVal, cellOf, loadE, behind, lenE, idxAddrE, idxE, addPtr, intE, strE, unE, convE, AV.int, AV.bool, AV.str, ivs, take, frameOf, firstRegion, refsA, refsL, one, cellsA, floatOk, apartT, List.map, if_true, if_false, E_P, E_glob0, reduceCtorEq, beq_self_eq_true, decide_true, decide_false, ↓reduceIte, Nat.reduceEqDiff, cond_true, cond_false, or_true, true_or, or_false, false_or, and_true, true_and, and_self, false_and, and_false, not_true, not_false_iff, Nat.reduceAdd, Nat.reduceSub, Nat.reduceMul, Nat.reduceLT, Nat.reduceLeDiff, Int.reduceToNat, Int.reduceLT, Int.reduceLE, Option.getD, Int.reduceMul, Int.reduceAdd, List.drop, List.take, Nat.reduceBEq, List.isEmpty, Int.reduceEq, Int.reduceNe, Int.reduceNeg, Int.reduceGT, Int.reduceGE, beq_true, beq_false, UInt8.reduceToNat, eqE, eq_self, foldE, maxE, minE, eq_T, eq_F, ndec, odec, adec, sdec, fillA, over, chop, List.replicate, leavesOk, leafOk, cellsEq, cellEq, E_byref, en23, bs29, bs47, hl0, ik37, ik38, ik41, ikf39, ca40, rows64_len, rowsB_len, rowsB_num, bytes_back, rowsB_take, List.take_of_length_le, ht, h0, hn, hlow, hlim, show ∀ B fr H, execT E B 23 (Code.loop _) fr H = rlM E B 23 (loopAt Tryd.f23 0) [2, 8, 45, 46, 47] [] (matF [(8, 1)] fr H).1 (matB [] (matF [(8, 1)] fr H).1 (matF [(8, 1)] fr H).2) from fun B fr H => rl_introM rfl mt23_13 mb23_13 zf23_13 hd23_13 fr H]; exact ⟨_, rfl⟩ 
        | true => 
          rw [if_neg (by simp)] 
          have hloop := hloop hlim 
          have h16 := lim16 hlim 
          have hlen : ([] ++ fmtG true l).length ≤ 21 * l.length + 1 := by have := fmtG_len l true (lim9 hlim); simp only [List.length_append, List.length_cons, List.length_nil]; omega 
          generalize [] ++ fmtG true l = out at * 
          simp (disch := first | omega | (simp only [List.length_append, List.length_map, List.length_set, List.length_cons, List.length_nil, List.length_take, List.length_drop, rows64_len, rowsB_len]; omega)) only [va0, va1, va2, va3, va4, va5, va6, va7, va8, va9, va10, va11, va12, va13, va14, va15, vb0, vb1, vb2, vb3, w_i8, w_u8, w_i16, w_u16, w_i32, w_u32, w_i64, w_u64, lt_T, lt_F, le_T, le_F, nlt_T, nlt_F, nle_T, nle_F, List.take_of_length_le, gB, gcW, gcR, posIn, renA, renL, Chunk.ren, Chunk.refs, evOpD, touchD, stepC, isFresh, nFresh, freshOf, mkR, hole, evL, evH, opd, get, putD, ofVal, cellOf, loadE, behind, lenE, idxAddrE, idxE, addPtr, intE, strE, unE, convE, AV.int, AV.bool, AV.str, ivs, take, frameOf, firstRegion, refsA, refsL, one, cellsA, floatOk, apartT, List.map, if_true, if_false, E_P, E_glob0, reduceCtorEq, beq_self_eq_true, decide_true, decide_false, ↓reduceIte, Nat.reduceEqDiff, cond_true, cond_false, or_true, true_or, or_false, false_or, and_true, true_and, and_self, false_and, and_false, not_true, not_false_iff, Nat.reduceAdd, Nat.reduceSub, Nat.reduceMul, Nat.reduceLT, Nat.reduceLeDiff, Int.reduceToNat, Int.reduceLT, Int.reduceLE, Option.getD, Int.reduceMul, Int.reduceAdd, List.drop, List.take, Nat.reduceBEq, List.isEmpty, Int.reduceEq, Int.reduceNe, Int.reduceNeg, Int.reduceGT, Int.reduceGE, beq_true, beq_false, UInt8.reduceToNat, eqE, eq_self, foldE, maxE, minE, eq_T, eq_F, ndec, odec, adec, sdec, fillA, over, chop, List.replicate, leavesOk, leafOk, cellsEq, cellEq, E_byref, en23, bs29, bs47, hl0, ik37, ik38, ik41, ikf39, ca40, rows64_len, rowsB_len, rowsB_num, bytes_back, rowsB_take, List.take_of_length_le, ht, h0, hn, hlow, hlim, hloop, show ∀ B fr H, execT E B 23 (Code.loop _) fr H = rlM E B 23 (loopAt Tryd.f23 0) [2, 8, 45, 46, 47] [] (matF [(8, 1)] fr H).1 (matB [] (matF [(8, 1)] fr H).1 (matF [(8, 1)] fr H).2) from fun B fr H => rl_introM rfl mt23_13 mb23_13 zf23_13 hd23_13 fr H] 
          exact ⟨_, rfl⟩ 
      · have hl1 : l ≠ [-1] := fun h => h1 (by rw [h]; rfl) 
        have hl0 := trivial 
        have h1' : ¬ (l.length : Int) = 1 := by omega 
        rw [if_neg (by rintro (h | h | h) <;> first | exact absurd rfl h.1 | (cases h; done) | exact hl1 h | (rw [hv] at h; cases h.2))]; unfold fmtA; rw [callT_eq Tryd.func23 rfl fok23 (by simp [Tryd.ntmps23])]; cases hlow : l.any lowB with 
      | true => rw [if_pos rfl]; simp (disch := first | omega | (simp only [List.length_append, List.length_map, List.length_set, List.length_cons, List.length_nil, List.length_take, List.length_drop, rows64_len, rowsB_len]; omega)) only [va0, va1, va2, va3, va4, va5, va6, va7, va8, va9, va10, va11, va12, va13, va14, va15, vb0, vb1, vb2, vb3, w_i8, w_u8, w_i16, w_u16, w_i32, w_u32, w_i64, w_u64, lt_T, lt_F, le_T, le_F, nlt_T, nlt_F, nle_T, nle_F, List.take_of_length_le, gB, gcW, gcR, posIn, renA, renL, Chunk.ren, Chunk.refs, evOpD, touchD, stepC, isFresh, nFresh, freshOf, mkR, hole, evL, evH, opd, get, putD, ofVal, cellOf, loadE, behind, lenE, idxAddrE, idxE, addPtr, intE, strE, unE, convE, AV.int, AV.bool, AV.str, ivs, take, frameOf, firstRegion, refsA, refsL, one, cellsA, floatOk, apartT, List.map, if_true, if_false, E_P, E_glob0, reduceCtorEq, beq_self_eq_true, decide_true, decide_false, ↓reduceIte, Nat.reduceEqDiff, cond_true, cond_false, or_true, true_or, or_false, false_or, and_true, true_and, and_self, false_and, and_false, not_true, not_false_iff, Nat.reduceAdd, Nat.reduceSub, Nat.reduceMul, Nat.reduceLT, Nat.reduceLeDiff, Int.reduceToNat, Int.reduceLT, Int.reduceLE, Option.getD, Int.reduceMul, Int.reduceAdd, List.drop, List.take, Nat.reduceBEq, List.isEmpty, Int.reduceEq, Int.reduceNe, Int.reduceNeg, Int.reduceGT, Int.reduceGE, beq_true, beq_false, UInt8.reduceToNat, eqE, eq_self, foldE, maxE, minE, eq_T, eq_F, ndec, odec, adec, sdec, fillA, over, chop, List.replicate, leavesOk, leafOk, cellsEq, cellEq, E_byref, en23, bs29, bs47, hl0, ik37, ik38, ik41, ikf39, ca40, rows64_len, rowsB_len, rowsB_num, bytes_back, rowsB_take, List.take_of_length_le, ht, h0, h1', hlow, show ∀ B fr H, execT E B 23 (Code.loop _) fr H = rlM E B 23 (loopAt Tryd.f23 0) [2, 8, 45, 46, 47] [] (matF [(8, 1)] fr H).1 (matB [] (matF [(8, 1)] fr H).1 (matF [(8, 1)] fr H).2) from fun B fr H => rl_introM rfl mt23_13 mb23_13 zf23_13 hd23_13 fr H]; exact ⟨_, rfl⟩ 
      | false => 
        rw [if_neg (by simp)] 
        cases hlim : limB l s with 
        | false => rw [if_pos rfl]; simp (disch := first | omega | (simp only [List.length_append, List.length_map, List.length_set, List.length_cons, List.length_nil, List.length_take, List.length_drop, rows64_len, rowsB_len]; omega)) only [va0, va1, va2, va3, va4, va5, va6, va7, va8, va9, va10, va11, va12, va13, va14, va15, vb0, vb1, vb2, vb3, w_i8, w_u8, w_i16, w_u16, w_i32, w_u32, w_i64, w_u64, lt_T, lt_F, le_T, le_F, nlt_T, nlt_F, nle_T, nle_F, List.take_of_length_le, gB, gcW, gcR, posIn, renA, renL, Chunk.ren, Chunk.refs, evOpD, touchD, stepC, isFresh, nFresh, freshOf, mkR, hole, evL, evH, opd, get, putD, ofVal, cellOf, loadE, behind, lenE, idxAddrE, idxE, addPtr, intE, strE, unE, convE, AV.int, AV.bool, AV.str, ivs, take, frameOf, firstRegion, refsA, refsL, one, cellsA, floatOk, apartT, List.map, if_true, if_false, E_P, E_glob0, reduceCtorEq, beq_self_eq_true, decide_true, decide_false, ↓reduceIte, Nat.reduceEqDiff, cond_true, cond_false, or_true, true_or, or_false, false_or, and_true, true_and, and_self, false_and, and_false, not_true, not_false_iff, Nat.reduceAdd, Nat.reduceSub, Nat.reduceMul, Nat.reduceLT, Nat.reduceLeDiff, Int.reduceToNat, Int.reduceLT, Int.reduceLE, Option.getD, Int.reduceMul, Int.reduceAdd, List.drop, List.take, Nat.reduceBEq, List.isEmpty, Int.reduceEq, Int.reduceNe, Int.reduceNeg, Int.reduceGT, Int.reduceGE, beq_true, beq_false, UInt8.reduceToNat, eqE, eq_self, foldE, maxE, minE, eq_T, eq_F, ndec, odec, adec, sdec, fillA, over, chop, List.replicate, leavesOk, leafOk, cellsEq, cellEq, E_byref, en23, bs29, bs47, hl0, ik37, ik38, ik41, ikf39, ca40, rows64_len, rowsB_len, rowsB_num, bytes_back, rowsB_take, List.take_of_length_le, ht, h0, h1', hlow, hlim, show ∀ B fr H, execT E B 23 (Code.loop _) fr H = rlM E B 23 (loopAt Tryd.f23 0) [2, 8, 45, 46, 47] [] (matF [(8, 1)] fr H).1 (matB [] (matF [(8, 1)] fr H).1 (matF [(8, 1)] fr H).2) from fun B fr H => rl_introM rfl mt23_13 mb23_13 zf23_13 hd23_13 fr H]; exact ⟨_, rfl⟩ 
        | true => 
          rw [if_neg (by simp)] 
          have hloop := hloop hlim 
          have h16 := lim16 hlim 
          have hlen : ([] ++ fmtG true l).length ≤ 21 * l.length + 1 := by have := fmtG_len l true (lim9 hlim); simp only [List.length_append, List.length_cons, List.length_nil]; omega 
          generalize [] ++ fmtG true l = out at * 
          simp (disch := first | omega | (simp only [List.length_append, List.length_map, List.length_set, List.length_cons, List.length_nil, List.length_take, List.length_drop, rows64_len, rowsB_len]; omega)) only [va0, va1, va2, va3, va4, va5, va6, va7, va8, va9, va10, va11, va12, va13, va14, va15, vb0, vb1, vb2, vb3, w_i8, w_u8, w_i16, w_u16, w_i32, w_u32, w_i64, w_u64, lt_T, lt_F, le_T, le_F, nlt_T, nlt_F, nle_T, nle_F, List.take_of_length_le, gB, gcW, gcR, posIn, renA, renL, Chunk.ren, Chunk.refs, evOpD, touchD, stepC, isFresh, nFresh, freshOf, mkR, hole, evL, evH, opd, get, putD, ofVal, cellOf, loadE, behind, lenE, idxAddrE, idxE, addPtr, intE, strE, unE, convE, AV.int, AV.bool, AV.str, ivs, take, frameOf, firstRegion, refsA, refsL, one, cellsA, floatOk, apartT, List.map, if_true, if_false, E_P, E_glob0, reduceCtorEq, beq_self_eq_true, decide_true, decide_false, ↓reduceIte, Nat.reduceEqDiff, cond_true, cond_false, or_true, true_or, or_false, false_or, and_true, true_and, and_self, false_and, and_false, not_true, not_false_iff, Nat.reduceAdd, Nat.reduceSub, Nat.reduceMul, Nat.reduceLT, Nat.reduceLeDiff, Int.reduceToNat, Int.reduceLT, Int.reduceLE, Option.getD, Int.reduceMul, Int.reduceAdd, List.drop, List.take, Nat.reduceBEq, List.isEmpty, Int.reduceEq, Int.reduceNe, Int.reduceNeg, Int.reduceGT, Int.reduceGE, beq_true, beq_false, UInt8.reduceToNat, eqE, eq_self, foldE, maxE, minE, eq_T, eq_F, ndec, odec, adec, sdec, fillA, over, chop, List.replicate, leavesOk, leafOk, cellsEq, cellEq, E_byref, en23, bs29, bs47, hl0, ik37, ik38, ik41, ikf39, ca40, rows64_len, rowsB_len, rowsB_num, bytes_back, rowsB_take, List.take_of_length_le, ht, h0, h1', hlow, hlim, hloop, show ∀ B fr H, execT E B 23 (Code.loop _) fr H = rlM E B 23 (loopAt Tryd.f23 0) [2, 8, 45, 46, 47] [] (matF [(8, 1)] fr H).1 (matB [] (matF [(8, 1)] fr H).1 (matF [(8, 1)] fr H).2) from fun B fr H => rl_introM rfl mt23_13 mb23_13 zf23_13 hd23_13 fr H] 
          exact ⟨_, rfl⟩
    · have hloop : limB l s = true → rl E 0 23 (loopAt Tryd.f23 0) [(2, .i (.str s)), (8, .ref 0 0 0 1), (45, .i (.sl 1 (rows64 l) false)), (46, .i (.v (.int .i64 l.length))), (47, .i (.v (.int .i64 0)))] [.sl 1 0 [[.v (.int .u8 b.toNat)]] false] =
          some (.exit 1, [(2, .i (.str s)), (8, .ref 0 0 0 ([b] ++ fmtG true l).length), (45, .i (.sl 1 (rows64 l) false)), (46, .i (.v (.int .i64 l.length))), (47, .i (.v (.int .i64 l.length))), (48, .i (.v (.bool false)))], [.sl 1 0 (rowsB ([b] ++ fmtG true l)) false]) :=
        fun h => l23 s l (by have := lim16 h; omega) (lim9 h) 0 (Nat.zero_le _) [b] (by simp)
      rw [show (if (b.toNat : Int) = 0 then ([] : List UInt8) else [b]) = [b] from if_neg h0]
      by_cases hv : privB b.toNat = true
      rotate_left
      · rw [Bool.not_eq_true] at hv
        rw [if_pos (.inl ⟨h0, hv⟩)]
        unfold fmtA
        rw [callT_eq Tryd.func23 rfl fok23 (by simp [Tryd.ntmps23])]
        simp (disch := first | omega | (simp only [List.length_append, List.length_map, List.length_set, List.length_cons, List.length_nil, List.length_take, List.length_drop, rows64_len, rowsB_len]; omega)) only [va0, va1, va2, va3, va4, va5, va6, va7, va8, va9, va10, va11, va12, va13, va14, va15, vb0, vb1, vb2, vb3, w_i8, w_u8, w_i16, w_u16, w_i32, w_u32, w_i64, w_u64, lt_T, lt_F, le_T, le_F, nlt_T, nlt_F, nle_T, nle_F, List.take_of_length_le, gB, gcW, gcR, posIn, renA, renL, Chunk.ren, Chunk.refs, evOpD, touchD, stepC, isFresh, nFresh, freshOf, mkR, hole, evL, evH, opd, get, putD, ofVal, cellOf, loadE, behind, lenE, idxAddrE, idxE, addPtr, intE, strE, unE, convE, AV.int, AV.bool, AV.str, ivs, take, frameOf, firstRegion, refsA, refsL, one, cellsA, floatOk, apartT, List.map, if_true, if_false, E_P, E_glob0, reduceCtorEq, beq_self_eq_true, decide_true, decide_false, ↓reduceIte, Nat.reduceEqDiff, cond_true, cond_false, or_true, true_or, or_false, false_or, and_true, true_and, and_self, false_and, and_false, not_true, not_false_iff, Nat.reduceAdd, Nat.reduceSub, Nat.reduceMul, Nat.reduceLT, Nat.reduceLeDiff, Int.reduceToNat, Int.reduceLT, Int.reduceLE, Option.getD, Int.reduceMul, Int.reduceAdd, List.drop, List.take, Nat.reduceBEq, List.isEmpty, Int.reduceEq, Int.reduceNe, Int.reduceNeg, Int.reduceGT, Int.reduceGE, beq_true, beq_false, UInt8.reduceToNat, eqE, eq_self, foldE, maxE, minE, eq_T, eq_F, ndec, odec, adec, sdec, fillA, over, chop, List.replicate, leavesOk, leafOk, cellsEq, cellEq, E_byref, en23, bs29, bs47, hl0, ik37, ik38, ik41, ikf39, ca40, rows64_len, rowsB_len, rowsB_num, bytes_back, rowsB_take, List.take_of_length_le, ht, h0, hv, show ∀ B fr H, execT E B 23 (Code.loop _) fr H = rlM E B 23 (loopAt Tryd.f23 0) [2, 8, 45, 46, 47] [] (matF [(8, 1)] fr H).1 (matB [] (matF [(8, 1)] fr H).1 (matF [(8, 1)] fr H).2) from fun B fr H => rl_introM rfl mt23_13 mb23_13 zf23_13 hd23_13 fr H]
        exact ⟨_, rfl⟩
      by_cases h1 : l.length = 1 
      · obtain ⟨n, hln⟩ : ∃ n, l = [n] := List.length_eq_one_iff.1 h1 
        have hl0 : (rows64 l)[0]? = some [.v (.int .i64 n)] := by rw [hln]; rfl 
        by_cases hn : n = -1 
        · subst hn; rw [callT_eq Tryd.func23 rfl fok23 (by simp [Tryd.ntmps23])]; rw [if_pos (.inr (.inr hln))]; unfold fmtA; simp (disch := first | omega | (simp only [List.length_append, List.length_map, List.length_set, List.length_cons, List.length_nil, List.length_take, List.length_drop, rows64_len, rowsB_len]; omega)) only [va0, va1, va2, va3, va4, va5, va6, va7, va8, va9, va10, va11, va12, va13, va14, va15, vb0, vb1, vb2, vb3, w_i8, w_u8, w_i16, w_u16, w_i32, w_u32, w_i64, w_u64, lt_T, lt_F, le_T, le_F, nlt_T, nlt_F, nle_T, nle_F, List.take_of_length_le, gB, gcW, gcR, posIn, renA, renL, Chunk.ren, Chunk.refs, evOpD, touchD, stepC, isFresh, nFresh, freshOf, mkR, hole, evL, evH, opd, get, putD, ofVal, cellOf, loadE, behind, lenE, idxAddrE, idxE, addPtr, intE, strE, unE, convE, AV.int, AV.bool, AV.str, ivs, take, frameOf, firstRegion, refsA, refsL, one, cellsA, floatOk, apartT, List.map, if_true, if_false, E_P, E_glob0, reduceCtorEq, beq_self_eq_true, decide_true, decide_false, ↓reduceIte, Nat.reduceEqDiff, cond_true, cond_false, or_true, true_or, or_false, false_or, and_true, true_and, and_self, false_and, and_false, not_true, not_false_iff, Nat.reduceAdd, Nat.reduceSub, Nat.reduceMul, Nat.reduceLT, Nat.reduceLeDiff, Int.reduceToNat, Int.reduceLT, Int.reduceLE, Option.getD, Int.reduceMul, Int.reduceAdd, List.drop, List.take, Nat.reduceBEq, List.isEmpty, Int.reduceEq, Int.reduceNe, Int.reduceNeg, Int.reduceGT, Int.reduceGE, beq_true, beq_false, UInt8.reduceToNat, eqE, eq_self, foldE, maxE, minE, eq_T, eq_F, ndec, odec, adec, sdec, fillA, over, chop, List.replicate, leavesOk, leafOk, cellsEq, cellEq, E_byref, en23, bs29, bs47, hl0, ik37, ik38, ik41, ikf39, ca40, rows64_len, rowsB_len, rowsB_num, bytes_back, rowsB_take, List.take_of_length_le, ht, h0, hv, show ∀ B fr H, execT E B 23 (Code.loop _) fr H = rlM E B 23 (loopAt Tryd.f23 0) [2, 8, 45, 46, 47] [] (matF [(8, 1)] fr H).1 (matB [] (matF [(8, 1)] fr H).1 (matF [(8, 1)] fr H).2) from fun B fr H => rl_introM rfl mt23_13 mb23_13 zf23_13 hd23_13 fr H]; exact ⟨_, rfl⟩ 
        · have hl1 : l ≠ [-1] := fun h => hn (by rw [hln] at h; simpa using h) 
          clear hln 
          rw [if_neg (by rintro (h | h | h) <;> first | exact absurd rfl h.1 | (cases h; done) | exact hl1 h | (rw [hv] at h; cases h.2))]; unfold fmtA; rw [callT_eq Tryd.func23 rfl fok23 (by simp [Tryd.ntmps23])]; cases hlow : l.any lowB with 
      | true => rw [if_pos rfl]; simp (disch := first | omega | (simp only [List.length_append, List.length_map, List.length_set, List.length_cons, List.length_nil, List.length_take, List.length_drop, rows64_len, rowsB_len]; omega)) only [va0, va1, va2, va3, va4, va5, va6, va7, va8, va9, va10, va11, va12, va13, va14, va15, vb0, vb1, vb2, vb3, w_i8, w_u8, w_i16, w_u16, w_i32, w_u32, w_i64, w_u64, lt_T, lt_F, le_T, le_F, nlt_T, nlt_F, nle_T, nle_F, List.take_of_length_le, gB, gcW, gcR, posIn, renA, renL, Chunk.ren, Chunk.refs, evOpD, touchD, stepC, isFresh, nFresh, freshOf, mkR, hole, evL, evH, opd, get, putD, ofVal, cellOf, loadE, behind, lenE, idxAddrE, idxE, addPtr, intE, strE, unE, convE, AV.int, AV.bool, AV.str, ivs, take, frameOf, firstRegion, refsA, refsL, one, cellsA, floatOk, apartT, List.map, if_true, if_false, E_P, E_glob0, reduceCtorEq, beq_self_eq_true, decide_true, decide_false, ↓reduceIte, Nat.reduceEqDiff, cond_true, cond_false, or_true, true_or, or_false, false_or, and_true, true_and, and_self, false_and, and_false, not_true, not_false_iff, Nat.reduceAdd, Nat.reduceSub, Nat.reduceMul, Nat.reduceLT, Nat.reduceLeDiff, Int.reduceToNat, Int.reduceLT, Int.reduceLE, Option.getD, Int.reduceMul, Int.reduceAdd, List.drop, List.take, Nat.reduceBEq, List.isEmpty, Int.reduceEq, Int.reduceNe, Int.reduceNeg, Int.reduceGT, Int.reduceGE, beq_true, beq_false, UInt8.reduceToNat, eqE, eq_self, foldE, maxE, minE, eq_T, eq_F, ndec, odec, adec, sdec, fillA, over, chop, List.replicate, leavesOk, leafOk, cellsEq, cellEq, E_byref, en23, bs29, bs47, hl0, ik37, ik38, ik41, ikf39, ca40, rows64_len, rowsB_len, rowsB_num, bytes_back, rowsB_take, List.take_of_length_le, ht, h0, hv, hn, hlow, show ∀ B fr H, execT E B 23 (Code.loop _) fr H = rlM E B 23 (loopAt Tryd.f23 0) [2, 8, 45, 46, 47] [] (matF [(8, 1)] fr H).1 (matB [] (matF [(8, 1)] fr H).1 (matF [(8, 1)] fr H).2) from fun B fr H => rl_introM rfl mt23_13 mb23_13 zf23_13 hd23_13 fr H]; exact ⟨_, rfl⟩ 
      | false => 
        rw [if_neg (by simp)] 
        cases hlim : limB l s with 
        | false => rw [if_pos rfl]; simp (disch := first | omega | (simp only [List.length_append, List.length_map, List.length_set, List.length_cons, List.length_nil, List.length_take, List.length_drop, rows64_len, rowsB_len]; omega)) only [va0, va1, va2, va3, va4, va5, va6, va7, va8, va9, va10, va11, va12, va13, va14, va15, vb0, vb1, vb2, vb3, w_i8, w_u8, w_i16, w_u16, w_i32, w_u32, w_i64, w_u64, lt_T, lt_F, le_T, le_F, nlt_T, nlt_F, nle_T, nle_F, List.take_of_length_le, gB, gcW, gcR, posIn, renA, renL, Chunk.ren, Chunk.refs, evOpD, touchD, stepC, isFresh, nFresh, freshOf, mkR, hole, evL, evH, opd, get, putD, ofVal, cellOf, loadE, behind, lenE, idxAddrE, idxE, addPtr, intE, strE, unE, convE, AV.int, AV.bool, AV.str, ivs, take, frameOf, firstRegion, refsA, refsL, one, cellsA, floatOk, apartT, List.map, if_true, if_false, E_P, E_glob0, reduceCtorEq, beq_self_eq_true, decide_true, decide_false, ↓reduceIte, Nat.reduceEqDiff, cond_true, cond_false, or_true, true_or, or_false, false_or, and_true, true_and, and_self, false_and, and_false, not_true, not_false_iff, Nat.reduceAdd, Nat.reduceSub, Nat.reduceMul, Nat.reduceLT, Nat.reduceLeDiff, Int.reduceToNat, Int.reduceLT, Int.reduceLE, Option.getD, Int.reduceMul, Int.reduceAdd, List.drop, List.take, Nat.reduceBEq, List.isEmpty, Int.reduceEq, Int.reduceNe, Int.reduceNeg, Int.reduceGT, Int.reduceGE, beq_true, beq_false, UInt8.reduceToNat, eqE, eq_self, foldE, maxE, minE, eq_T, eq_F, ndec, odec, adec, sdec, fillA, over, chop, List.replicate, leavesOk, leafOk, cellsEq, cellEq, E_byref, en23, bs29, bs47, hl0, ik37, ik38, ik41, ikf39, ca40, rows64_len, rowsB_len, rowsB_num, bytes_back, rowsB_take, List.take_of_length_le, ht, h0, hv, hn, hlow, hlim, show ∀ B fr H, execT E B 23 (Code.loop _) fr H = rlM E B 23 (loopAt Tryd.f23 0) [2, 8, 45, 46, 47] [] (matF [(8, 1)] fr H).1 (matB [] (matF [(8, 1)] fr H).1 (matF [(8, 1)] fr H).2) from fun B fr H => rl_introM rfl mt23_13 mb23_13 zf23_13 hd23_13 fr H]; exact ⟨_, rfl⟩ 
        | true => 
          rw [if_neg (by simp)] 
          have hloop := hloop hlim 
          have h16 := lim16 hlim 
          have hlen : ([b] ++ fmtG true l).length ≤ 21 * l.length + 1 := by have := fmtG_len l true (lim9 hlim); simp only [List.length_append, List.length_cons, List.length_nil]; omega 
          generalize [b] ++ fmtG true l = out at * 
          simp (disch := first | omega | (simp only [List.length_append, List.length_map, List.length_set, List.length_cons, List.length_nil, List.length_take, List.length_drop, rows64_len, rowsB_len]; omega)) only [va0, va1, va2, va3, va4, va5, va6, va7, va8, va9, va10, va11, va12, va13, va14, va15, vb0, vb1, vb2, vb3, w_i8, w_u8, w_i16, w_u16, w_i32, w_u32, w_i64, w_u64, lt_T, lt_F, le_T, le_F, nlt_T, nlt_F, nle_T, nle_F, List.take_of_length_le, gB, gcW, gcR, posIn, renA, renL, Chunk.ren, Chunk.refs, evOpD, touchD, stepC, isFresh, nFresh, freshOf, mkR, hole, evL, evH, opd, get, putD, ofVal, cellOf, loadE, behind, lenE, idxAddrE, idxE, addPtr, intE, strE, unE, convE, AV.int, AV.bool, AV.str, ivs, take, frameOf, firstRegion, refsA, refsL, one, cellsA, floatOk, apartT, List.map, if_true, if_false, E_P, E_glob0, reduceCtorEq, beq_self_eq_true, decide_true, decide_false, ↓reduceIte, Nat.reduceEqDiff, cond_true, cond_false, or_true, true_or, or_false, false_or, and_true, true_and, and_self, false_and, and_false, not_true, not_false_iff, Nat.reduceAdd, Nat.reduceSub, Nat.reduceMul, Nat.reduceLT, Nat.reduceLeDiff, Int.reduceToNat, Int.reduceLT, Int.reduceLE, Option.getD, Int.reduceMul, Int.reduceAdd, List.drop, List.take, Nat.reduceBEq, List.isEmpty, Int.reduceEq, Int.reduceNe, Int.reduceNeg, Int.reduceGT, Int.reduceGE, beq_true, beq_false, UInt8.reduceToNat, eqE, eq_self, foldE, maxE, minE, eq_T, eq_F, ndec, odec, adec, sdec, fillA, over, chop, List.replicate, leavesOk, leafOk, cellsEq, cellEq, E_byref, en23, bs29, bs47, hl0, ik37, ik38, ik41, ikf39, ca40, rows64_len, rowsB_len, rowsB_num, bytes_back, rowsB_take, List.take_of_length_le, ht, h0, hv, hn, hlow, hlim, hloop, show ∀ B fr H, execT E B 23 (Code.loop _) fr H = rlM E B 23 (loopAt Tryd.f23 0) [2, 8, 45, 46, 47] [] (matF [(8, 1)] fr H).1 (matB [] (matF [(8, 1)] fr H).1 (matF [(8, 1)] fr H).2) from fun B fr H => rl_introM rfl mt23_13 mb23_13 zf23_13 hd23_13 fr H] 
          exact ⟨_, rfl⟩ 
      · have hl1 : l ≠ [-1] := fun h => h1 (by rw [h]; rfl) 
        have hl0 := trivial 
        have h1' : ¬ (l.length : Int) = 1 := by omega 
        rw [if_neg (by rintro (h | h | h) <;> first | exact absurd rfl h.1 | (cases h; done) | exact hl1 h | (rw [hv] at h; cases h.2))]; unfold fmtA; rw [callT_eq Tryd.func23 rfl fok23 (by simp [Tryd.ntmps23])]; cases hlow : l.any lowB with 
      | true => rw [if_pos rfl]; simp (disch := first | omega | (simp only [List.length_append, List.length_map, List.length_set, List.length_cons, List.length_nil, List.length_take, List.length_drop, rows64_len, rowsB_len]; omega)) only [va0, va1, va2, va3, va4, va5, va6, va7, va8, va9, va10, va11, va12, va13, va14, va15, vb0, vb1, vb2, vb3, w_i8, w_u8, w_i16, w_u16, w_i32, w_u32, w_i64, w_u64, lt_T, lt_F, le_T, le_F, nlt_T, nlt_F, nle_T, nle_F, List.take_of_length_le, gB, gcW, gcR, posIn, renA, renL, Chunk.ren, Chunk.refs, evOpD, touchD, stepC, isFresh, nFresh, freshOf, mkR, hole, evL, evH, opd, get, putD, ofVal, cellOf, loadE, behind, lenE, idxAddrE, idxE, addPtr, intE, strE, unE, convE, AV.int, AV.bool, AV.str, ivs, take, frameOf, firstRegion, refsA, refsL, one, cellsA, floatOk, apartT, List.map, if_true, if_false, E_P, E_glob0, reduceCtorEq, beq_self_eq_true, decide_true, decide_false, ↓reduceIte, Nat.reduceEqDiff, cond_true, cond_false, or_true, true_or, or_false, false_or, and_true, true_and, and_self, false_and, and_false, not_true, not_false_iff, Nat.reduceAdd, Nat.reduceSub, Nat.reduceMul, Nat.reduceLT, Nat.reduceLeDiff, Int.reduceToNat, Int.reduceLT, Int.reduceLE, Option.getD, Int.reduceMul, Int.reduceAdd, List.drop, List.take, Nat.reduceBEq, List.isEmpty, Int.reduceEq, Int.reduceNe, Int.reduceNeg, Int.reduceGT, Int.reduceGE, beq_true, beq_false, UInt8.reduceToNat, eqE, eq_self, foldE, maxE, minE, eq_T, eq_F, ndec, odec, adec, sdec, fillA, over, chop, List.replicate, leavesOk, leafOk, cellsEq, cellEq, E_byref, en23, bs29, bs47, hl0, ik37, ik38, ik41, ikf39, ca40, rows64_len, rowsB_len, rowsB_num, bytes_back, rowsB_take, List.take_of_length_le, ht, h0, hv, h1', hlow, show ∀ B fr H, execT E B 23 (Code.loop _) fr H = rlM E B 23 (loopAt Tryd.f23 0) [2, 8, 45, 46, 47] [] (matF [(8, 1)] fr H).1 (matB [] (matF [(8, 1)] fr H).1 (matF [(8, 1)] fr H).2) from fun B fr H => rl_introM rfl mt23_13 mb23_13 zf23_13 hd23_13 fr H]; exact ⟨_, rfl⟩ 
      | false => 
        rw [if_neg (by simp)] 
        cases hlim : limB l s with 
        | false => rw [if_pos rfl]; simp (disch := first | omega | (simp only [List.length_append, List.length_map, List.length_set, List.length_cons, List.length_nil, List.length_take, List.length_drop, rows64_len, rowsB_len]; omega)) only [va0, va1, va2, va3, va4, va5, va6, va7, va8, va9, va10, va11, va12, va13, va14, va15, vb0, vb1, vb2, vb3, w_i8, w_u8, w_i16, w_u16, w_i32, w_u32, w_i64, w_u64, lt_T, lt_F, le_T, le_F, nlt_T, nlt_F, nle_T, nle_F, List.take_of_length_le, gB, gcW, gcR, posIn, renA, renL, Chunk.ren, Chunk.refs, evOpD, touchD, stepC, isFresh, nFresh, freshOf, mkR, hole, evL, evH, opd, get, putD, ofVal, cellOf, loadE, behind, lenE, idxAddrE, idxE, addPtr, intE, strE, unE, convE, AV.int, AV.bool, AV.str, ivs, take, frameOf, firstRegion, refsA, refsL, one, cellsA, floatOk, apartT, List.map, if_true, if_false, E_P, E_glob0, reduceCtorEq, beq_self_eq_true, decide_true, decide_false, ↓reduceIte, Nat.reduceEqDiff, cond_true, cond_false, or_true, true_or, or_false, false_or, and_true, true_and, and_self, false_and, and_false, not_true, not_false_iff, Nat.reduceAdd, Nat.reduceSub, Nat.reduceMul, Nat.reduceLT, Nat.reduceLeDiff, Int.reduceToNat, Int.reduceLT, Int.reduceLE, Option.getD, Int.reduceMul, Int.reduceAdd, List.drop, List.take, Nat.reduceBEq, List.isEmpty, Int.reduceEq, Int.reduceNe, Int.reduceNeg, Int.reduceGT, Int.reduceGE, beq_true, beq_false, UInt8.reduceToNat, eqE, eq_self, foldE, maxE, minE, eq_T, eq_F, ndec, odec, adec, sdec, fillA, over, chop, List.replicate, leavesOk, leafOk, cellsEq, cellEq, E_byref, en23, bs29, bs47, hl0, ik37, ik38, ik41, ikf39, ca40, rows64_len, rowsB_len, rowsB_num, bytes_back, rowsB_take, List.take_of_length_le, ht, h0, hv, h1', hlow, hlim, show ∀ B fr H, execT E B 23 (Code.loop _) fr H = rlM E B 23 (loopAt Tryd.f23 0) [2, 8, 45, 46, 47] [] (matF [(8, 1)] fr H).1 (matB [] (matF [(8, 1)] fr H).1 (matF [(8, 1)] fr H).2) from fun B fr H => rl_introM rfl mt23_13 mb23_13 zf23_13 hd23_13 fr H]; exact ⟨_, rfl⟩ 
        | true => 
          rw [if_neg (by simp)] 
          have hloop := hloop hlim 
          have h16 := lim16 hlim 
          have hlen : ([b] ++ fmtG true l).length ≤ 21 * l.length + 1 := by have := fmtG_len l true (lim9 hlim); simp only [List.length_append, List.length_cons, List.length_nil]; omega 
          generalize [b] ++ fmtG true l = out at * 
          simp (disch := first | omega | (simp only [List.length_append, List.length_map, List.length_set, List.length_cons, List.length_nil, List.length_take, List.length_drop, rows64_len, rowsB_len]; omega)) only [va0, va1, va2, va3, va4, va5, va6, va7, va8, va9, va10, va11, va12, va13, va14, va15, vb0, vb1, vb2, vb3, w_i8, w_u8, w_i16, w_u16, w_i32, w_u32, w_i64, w_u64, lt_T, lt_F, le_T, le_F, nlt_T, nlt_F, nle_T, nle_F, List.take_of_length_le, gB, gcW, gcR, posIn, renA, renL, Chunk.ren, Chunk.refs, evOpD, touchD, stepC, isFresh, nFresh, freshOf, mkR, hole, evL, evH, opd, get, putD, ofVal, cellOf, loadE, behind, lenE, idxAddrE, idxE, addPtr, intE, strE, unE, convE, AV.int, AV.bool, AV.str, ivs, take, frameOf, firstRegion, refsA, refsL, one, cellsA, floatOk, apartT, List.map, if_true, if_false, E_P, E_glob0, reduceCtorEq, beq_self_eq_true, decide_true, decide_false, ↓reduceIte, Nat.reduceEqDiff, cond_true, cond_false, or_true, true_or, or_false, false_or, and_true, true_and, and_self, false_and, and_false, not_true, not_false_iff, Nat.reduceAdd, Nat.reduceSub, Nat.reduceMul, Nat.reduceLT, Nat.reduceLeDiff, Int.reduceToNat, Int.reduceLT, Int.reduceLE, Option.getD, Int.reduceMul, Int.reduceAdd, List.drop, List.take, Nat.reduceBEq, List.isEmpty, Int.reduceEq, Int.reduceNe, Int.reduceNeg, Int.reduceGT, Int.reduceGE, beq_true, beq_false, UInt8.reduceToNat, eqE, eq_self, foldE, maxE, minE, eq_T, eq_F, ndec, odec, adec, sdec, fillA, over, chop, List.replicate, leavesOk, leafOk, cellsEq, cellEq, E_byref, en23, bs29, bs47, hl0, ik37, ik38, ik41, ikf39, ca40, rows64_len, rowsB_len, rowsB_num, bytes_back, rowsB_take, List.take_of_length_le, ht, h0, hv, h1', hlow, hlim, hloop, show ∀ B fr H, execT E B 23 (Code.loop _) fr H = rlM E B 23 (loopAt Tryd.f23 0) [2, 8, 45, 46, 47] [] (matF [(8, 1)] fr H).1 (matB [] (matF [(8, 1)] fr H).1 (matF [(8, 1)] fr H).2) from fun B fr H => rl_introM rfl mt23_13 mb23_13 zf23_13 hd23_13 fr H] 
          exact ⟨_, rfl⟩
theorem ik23 (p : Int) (hp : 0 ≤ p ∧ p < 256) (l : List Int) (s : List UInt8) (hl : (l.length : Int) < 9223372036854775808) (hs : (s.length : Int) < 9223372036854775808) (H : Hp) :
    isoK E (callT E) 23 [.i (.v (.int .u8 p)), .i (.sl 1 (rows64 l) false), .i (.str s)] H = some (fmtA (fmtS p l s), H) := isoK_val rfl rfl rfl (c23 p hp l s hl hs)
end Go.VI

namespace Go.VI
open Go.Proofs
set_option maxRecDepth 100000
set_option linter.unusedSimpArgs false
set_option linter.unusedVariables false
set_option maxHeartbeats 4000000
def evA (e : Ev) : AV := .agg (ivs (evC e))
theorem evA_eq (e : Ev) : evA e = .agg [.i (.v (.int .i64 e.k)), .i (.v (.int .i32 e.r)), .i (.v (.int .u8 e.c)), .i (.v (.int .u8 e.v)), .i (.str e.i), .i (.sl 1 (rows64 e.ps) false), .i (.str e.t)] := rfl
def rightP (e : Ev) : Bool := goodR e.r && !decide (e.r < 32) && !(decide (127 ≤ e.r) && decide (e.r ≤ 159)) && (decide (e.c = 0) && decide (e.v = 0) && e.i.isEmpty && e.t.isEmpty && e.ps.isEmpty)
def rightC (e : Ev) : Bool := !(decide (32 ≤ e.c) || decide (e.c = 24) || decide (e.c = 26) || decide (e.c = 27)) && (decide (e.r = 0) && decide (e.v = 0) && e.i.isEmpty && e.t.isEmpty && e.ps.isEmpty)
def rightE (e : Ev) : Bool := !decide (3 ≤ e.i.length) && !e.i.any (outB 32 47) && !(decide (e.c < 48) || decide (126 < e.c)) && !(e.i.isEmpty && (decide (e.c = 91) || decide (e.c = 93))) && (decide (e.r = 0) && decide (e.v = 0) && e.t.isEmpty && e.ps.isEmpty)
def rightQ (e : Ev) : Bool := decide ((fmtS e.v e.ps e.i).2 = 0) && !(decide (e.c < 64) || decide (126 < e.c)) && (decide (e.r = 0) && e.t.isEmpty)
def rightO (e : Ev) : Bool := !decide (256 < e.t.length) && !e.t.any (outB 32 255) && (decide (e.r = 0) && decide (e.c = 0) && decide (e.v = 0) && e.i.isEmpty && e.ps.isEmpty)
def rightS (e : Ev) : Bool := if e.k = 1 then rightP e else if e.k = 2 then rightC e else if e.k = 3 then rightE e else if e.k = 4 then rightQ e else if e.k = 5 then rightO e else false
theorem c21_1 (r : Int) (hr : -2147483648 ≤ r ∧ r ≤ 2147483647) (c v : Int) (i : List UInt8) (ps : List Int) (t : List UInt8) :
    ∃ L, callT E 21 [evA ⟨1, r, c, v, i, ps, t⟩] [] = some (.i (.v (.bool (rightP ⟨1, r, c, v, i, ps, t⟩))), L) := by
  rw [evA_eq]
  unfold rightP
  have hd := decOut_enc r
  have hl : (by8 (encR r)).length ≤ 4 := by
    rw [by8, List.length_map]; unfold encR; repeat' split
    all_goals simp only [List.length_cons, List.length_nil]; omega
  have hik := fun H => ik22 r hr H
  have hik2 := fun H => ik28 [] (by8 (encR r)) (by simp only [List.length_nil]; omega) H
  simp only [List.nil_append, hd] at hik2
  simp only []
  cases hg : goodR r with
  | false =>
    have hne : ¬ 65533 = r := by rintro rfl; exact absurd hg (by decide)
    simp only [hg, Bool.false_eq_true, if_false, show rows32 [65533] = [[.v (.int .i32 65533)]] from rfl] at hik2
    simp only [Bool.false_and]
    (rw [callT_eq Tryd.func21 rfl fok21 (by simp [Tryd.ntmps21])]; simp (disch := first | omega | (simp only [List.length_append, List.length_map, List.length_set, List.length_cons, List.length_nil, List.length_take, List.length_drop, rows64_len, rows32_len]; omega)) only [va0, va1, va2, va3, va4, va5, va6, va7, va8, va9, va10, va11, va12, va13, va14, va15, vb0, vb1, vb2, vb3, w_i8, w_u8, w_i16, w_u16, w_i32, w_u32, w_i64, w_u64, lt_T, lt_F, le_T, le_F, nlt_T, nlt_F, nle_T, nle_F, List.take_of_length_le, gB, gcW, gcR, posIn, renA, renL, Chunk.ren, Chunk.refs, evOpD, touchD, stepC, isFresh, nFresh, freshOf, mkR, hole, evL, evH, opd, get, putD, ofVal, cellOf, loadE, behind, lenE, idxAddrE, idxE, addPtr, intE, strE, unE, convE, AV.int, AV.bool, AV.str, ivs, take, frameOf, firstRegion, refsA, refsL, one, cellsA, floatOk, apartT, List.map, if_true, if_false, E_P, E_glob0, reduceCtorEq, beq_self_eq_true, decide_true, decide_false, ↓reduceIte, Nat.reduceEqDiff, cond_true, cond_false, or_true, true_or, or_false, false_or, and_true, true_and, and_self, false_and, and_false, not_true, not_false_iff, Nat.reduceAdd, Nat.reduceSub, Nat.reduceMul, Nat.reduceLT, Nat.reduceLeDiff, Int.reduceToNat, Int.reduceLT, Int.reduceLE, Option.getD, Int.reduceMul, Int.reduceAdd, List.drop, List.take, Nat.reduceBEq, List.isEmpty, Int.reduceEq, Int.reduceNe, Int.reduceNeg, Int.reduceGT, Int.reduceGE, beq_true, beq_false, UInt8.reduceToNat, eqE, eq_self, foldE, maxE, minE, eq_T, eq_F, ndec, odec, adec, sdec, fillA, over, chop, List.replicate, leavesOk, leafOk, cellsEq, cellEq, E_byref, en21, bs29, bs49, ik22, ik28, List.nil_append, ik29, rows64_len, rows32_len, hik, hik2, hne]; exact ⟨_, rfl⟩)
  | true =>
    simp only [hg, if_true, show rows32 [r] = [[.v (.int .i32 r)]] from rfl] at hik2
    simp only [Bool.true_and]
    by_cases h1 : r < 32
    · simp only [h1, decide_true, Bool.not_true, Bool.false_and]
      (rw [callT_eq Tryd.func21 rfl fok21 (by simp [Tryd.ntmps21])]; simp (disch := first | omega | (simp only [List.length_append, List.length_map, List.length_set, List.length_cons, List.length_nil, List.length_take, List.length_drop, rows64_len, rows32_len]; omega)) only [va0, va1, va2, va3, va4, va5, va6, va7, va8, va9, va10, va11, va12, va13, va14, va15, vb0, vb1, vb2, vb3, w_i8, w_u8, w_i16, w_u16, w_i32, w_u32, w_i64, w_u64, lt_T, lt_F, le_T, le_F, nlt_T, nlt_F, nle_T, nle_F, List.take_of_length_le, gB, gcW, gcR, posIn, renA, renL, Chunk.ren, Chunk.refs, evOpD, touchD, stepC, isFresh, nFresh, freshOf, mkR, hole, evL, evH, opd, get, putD, ofVal, cellOf, loadE, behind, lenE, idxAddrE, idxE, addPtr, intE, strE, unE, convE, AV.int, AV.bool, AV.str, ivs, take, frameOf, firstRegion, refsA, refsL, one, cellsA, floatOk, apartT, List.map, if_true, if_false, E_P, E_glob0, reduceCtorEq, beq_self_eq_true, decide_true, decide_false, ↓reduceIte, Nat.reduceEqDiff, cond_true, cond_false, or_true, true_or, or_false, false_or, and_true, true_and, and_self, false_and, and_false, not_true, not_false_iff, Nat.reduceAdd, Nat.reduceSub, Nat.reduceMul, Nat.reduceLT, Nat.reduceLeDiff, Int.reduceToNat, Int.reduceLT, Int.reduceLE, Option.getD, Int.reduceMul, Int.reduceAdd, List.drop, List.take, Nat.reduceBEq, List.isEmpty, Int.reduceEq, Int.reduceNe, Int.reduceNeg, Int.reduceGT, Int.reduceGE, beq_true, beq_false, UInt8.reduceToNat, eqE, eq_self, foldE, maxE, minE, eq_T, eq_F, ndec, odec, adec, sdec, fillA, over, chop, List.replicate, leavesOk, leafOk, cellsEq, cellEq, E_byref, en21, bs29, bs49, ik22, ik28, List.nil_append, ik29, rows64_len, rows32_len, hik, hik2, h1]; exact ⟨_, rfl⟩)
    · simp only [h1, decide_false, Bool.not_false, Bool.true_and]
      by_cases h2 : 127 ≤ r ∧ r ≤ 159
      · obtain ⟨h2, h3⟩ := h2
        simp only [h2, h3, decide_true, Bool.and_true, Bool.not_true, Bool.false_and]
        (rw [callT_eq Tryd.func21 rfl fok21 (by simp [Tryd.ntmps21])]; simp (disch := first | omega | (simp only [List.length_append, List.length_map, List.length_set, List.length_cons, List.length_nil, List.length_take, List.length_drop, rows64_len, rows32_len]; omega)) only [va0, va1, va2, va3, va4, va5, va6, va7, va8, va9, va10, va11, va12, va13, va14, va15, vb0, vb1, vb2, vb3, w_i8, w_u8, w_i16, w_u16, w_i32, w_u32, w_i64, w_u64, lt_T, lt_F, le_T, le_F, nlt_T, nlt_F, nle_T, nle_F, List.take_of_length_le, gB, gcW, gcR, posIn, renA, renL, Chunk.ren, Chunk.refs, evOpD, touchD, stepC, isFresh, nFresh, freshOf, mkR, hole, evL, evH, opd, get, putD, ofVal, cellOf, loadE, behind, lenE, idxAddrE, idxE, addPtr, intE, strE, unE, convE, AV.int, AV.bool, AV.str, ivs, take, frameOf, firstRegion, refsA, refsL, one, cellsA, floatOk, apartT, List.map, if_true, if_false, E_P, E_glob0, reduceCtorEq, beq_self_eq_true, decide_true, decide_false, ↓reduceIte, Nat.reduceEqDiff, cond_true, cond_false, or_true, true_or, or_false, false_or, and_true, true_and, and_self, false_and, and_false, not_true, not_false_iff, Nat.reduceAdd, Nat.reduceSub, Nat.reduceMul, Nat.reduceLT, Nat.reduceLeDiff, Int.reduceToNat, Int.reduceLT, Int.reduceLE, Option.getD, Int.reduceMul, Int.reduceAdd, List.drop, List.take, Nat.reduceBEq, List.isEmpty, Int.reduceEq, Int.reduceNe, Int.reduceNeg, Int.reduceGT, Int.reduceGE, beq_true, beq_false, UInt8.reduceToNat, eqE, eq_self, foldE, maxE, minE, eq_T, eq_F, ndec, odec, adec, sdec, fillA, over, chop, List.replicate, leavesOk, leafOk, cellsEq, cellEq, E_byref, en21, bs29, bs49, ik22, ik28, List.nil_append, ik29, rows64_len, rows32_len, hik, hik2, h1, h2, h3]; exact ⟨_, rfl⟩)
      · rw [show (decide (127 ≤ r) && decide (r ≤ 159)) = false by simp; omega]
        simp only [Bool.not_false, Bool.true_and]
        have h23 : ¬ 127 ≤ r ∨ ¬ r ≤ 159 := by omega
        rcases h23 with h2 | h2
        all_goals
          by_cases q1 : c = 0
          rotate_left
          · simp only [q1, decide_true, decide_false, Bool.true_and, Bool.and_true, Bool.false_and, Bool.and_false, Bool.not_true, Bool.not_false, Bool.or_true, Bool.true_or, Bool.or_false, Bool.false_or, List.isEmpty_nil, List.isEmpty_cons]; (rw [callT_eq Tryd.func21 rfl fok21 (by simp [Tryd.ntmps21])]; simp (disch := first | omega | (simp only [List.length_append, List.length_map, List.length_set, List.length_cons, List.length_nil, List.length_take, List.length_drop, rows64_len, rows32_len]; omega)) only [va0, va1, va2, va3, va4, va5, va6, va7, va8, va9, va10, va11, va12, va13, va14, va15, vb0, vb1, vb2, vb3, w_i8, w_u8, w_i16, w_u16, w_i32, w_u32, w_i64, w_u64, lt_T, lt_F, le_T, le_F, nlt_T, nlt_F, nle_T, nle_F, List.take_of_length_le, gB, gcW, gcR, posIn, renA, renL, Chunk.ren, Chunk.refs, evOpD, touchD, stepC, isFresh, nFresh, freshOf, mkR, hole, evL, evH, opd, get, putD, ofVal, cellOf, loadE, behind, lenE, idxAddrE, idxE, addPtr, intE, strE, unE, convE, AV.int, AV.bool, AV.str, ivs, take, frameOf, firstRegion, refsA, refsL, one, cellsA, floatOk, apartT, List.map, if_true, if_false, E_P, E_glob0, reduceCtorEq, beq_self_eq_true, decide_true, decide_false, ↓reduceIte, Nat.reduceEqDiff, cond_true, cond_false, or_true, true_or, or_false, false_or, and_true, true_and, and_self, false_and, and_false, not_true, not_false_iff, Nat.reduceAdd, Nat.reduceSub, Nat.reduceMul, Nat.reduceLT, Nat.reduceLeDiff, Int.reduceToNat, Int.reduceLT, Int.reduceLE, Option.getD, Int.reduceMul, Int.reduceAdd, List.drop, List.take, Nat.reduceBEq, List.isEmpty, Int.reduceEq, Int.reduceNe, Int.reduceNeg, Int.reduceGT, Int.reduceGE, beq_true, beq_false, UInt8.reduceToNat, eqE, eq_self, foldE, maxE, minE, eq_T, eq_F, ndec, odec, adec, sdec, fillA, over, chop, List.replicate, leavesOk, leafOk, cellsEq, cellEq, E_byref, en21, bs29, bs49, ik22, ik28, List.nil_append, ik29, rows64_len, rows32_len, hik, hik2, h1, h2, q1]; exact ⟨_, rfl⟩)
          subst q1
          by_cases q2 : v = 0
          rotate_left
          · simp only [q2, decide_true, decide_false, Bool.true_and, Bool.and_true, Bool.false_and, Bool.and_false, Bool.not_true, Bool.not_false, Bool.or_true, Bool.true_or, Bool.or_false, Bool.false_or, List.isEmpty_nil, List.isEmpty_cons]; (rw [callT_eq Tryd.func21 rfl fok21 (by simp [Tryd.ntmps21])]; simp (disch := first | omega | (simp only [List.length_append, List.length_map, List.length_set, List.length_cons, List.length_nil, List.length_take, List.length_drop, rows64_len, rows32_len]; omega)) only [va0, va1, va2, va3, va4, va5, va6, va7, va8, va9, va10, va11, va12, va13, va14, va15, vb0, vb1, vb2, vb3, w_i8, w_u8, w_i16, w_u16, w_i32, w_u32, w_i64, w_u64, lt_T, lt_F, le_T, le_F, nlt_T, nlt_F, nle_T, nle_F, List.take_of_length_le, gB, gcW, gcR, posIn, renA, renL, Chunk.ren, Chunk.refs, evOpD, touchD, stepC, isFresh, nFresh, freshOf, mkR, hole, evL, evH, opd, get, putD, ofVal, cellOf, loadE, behind, lenE, idxAddrE, idxE, addPtr, intE, strE, unE, convE, AV.int, AV.bool, AV.str, ivs, take, frameOf, firstRegion, refsA, refsL, one, cellsA, floatOk, apartT, List.map, if_true, if_false, E_P, E_glob0, reduceCtorEq, beq_self_eq_true, decide_true, decide_false, ↓reduceIte, Nat.reduceEqDiff, cond_true, cond_false, or_true, true_or, or_false, false_or, and_true, true_and, and_self, false_and, and_false, not_true, not_false_iff, Nat.reduceAdd, Nat.reduceSub, Nat.reduceMul, Nat.reduceLT, Nat.reduceLeDiff, Int.reduceToNat, Int.reduceLT, Int.reduceLE, Option.getD, Int.reduceMul, Int.reduceAdd, List.drop, List.take, Nat.reduceBEq, List.isEmpty, Int.reduceEq, Int.reduceNe, Int.reduceNeg, Int.reduceGT, Int.reduceGE, beq_true, beq_false, UInt8.reduceToNat, eqE, eq_self, foldE, maxE, minE, eq_T, eq_F, ndec, odec, adec, sdec, fillA, over, chop, List.replicate, leavesOk, leafOk, cellsEq, cellEq, E_byref, en21, bs29, bs49, ik22, ik28, List.nil_append, ik29, rows64_len, rows32_len, hik, hik2, h1, h2, q2]; exact ⟨_, rfl⟩)
          subst q2
          cases i with
          | cons i0 i => simp only [List.length_cons, decide_true, decide_false, Bool.true_and, Bool.and_true, Bool.false_and, Bool.and_false, Bool.not_true, Bool.not_false, Bool.or_true, Bool.true_or, Bool.or_false, Bool.false_or, List.isEmpty_nil, List.isEmpty_cons]; (rw [callT_eq Tryd.func21 rfl fok21 (by simp [Tryd.ntmps21])]; simp (disch := first | omega | (simp only [List.length_append, List.length_map, List.length_set, List.length_cons, List.length_nil, List.length_take, List.length_drop, rows64_len, rows32_len]; omega)) only [va0, va1, va2, va3, va4, va5, va6, va7, va8, va9, va10, va11, va12, va13, va14, va15, vb0, vb1, vb2, vb3, w_i8, w_u8, w_i16, w_u16, w_i32, w_u32, w_i64, w_u64, lt_T, lt_F, le_T, le_F, nlt_T, nlt_F, nle_T, nle_F, List.take_of_length_le, gB, gcW, gcR, posIn, renA, renL, Chunk.ren, Chunk.refs, evOpD, touchD, stepC, isFresh, nFresh, freshOf, mkR, hole, evL, evH, opd, get, putD, ofVal, cellOf, loadE, behind, lenE, idxAddrE, idxE, addPtr, intE, strE, unE, convE, AV.int, AV.bool, AV.str, ivs, take, frameOf, firstRegion, refsA, refsL, one, cellsA, floatOk, apartT, List.map, if_true, if_false, E_P, E_glob0, reduceCtorEq, beq_self_eq_true, decide_true, decide_false, ↓reduceIte, Nat.reduceEqDiff, cond_true, cond_false, or_true, true_or, or_false, false_or, and_true, true_and, and_self, false_and, and_false, not_true, not_false_iff, Nat.reduceAdd, Nat.reduceSub, Nat.reduceMul, Nat.reduceLT, Nat.reduceLeDiff, Int.reduceToNat, Int.reduceLT, Int.reduceLE, Option.getD, Int.reduceMul, Int.reduceAdd, List.drop, List.take, Nat.reduceBEq, List.isEmpty, Int.reduceEq, Int.reduceNe, Int.reduceNeg, Int.reduceGT, Int.reduceGE, beq_true, beq_false, UInt8.reduceToNat, eqE, eq_self, foldE, maxE, minE, eq_T, eq_F, ndec, odec, adec, sdec, fillA, over, chop, List.replicate, leavesOk, leafOk, cellsEq, cellEq, E_byref, en21, bs29, bs49, ik22, ik28, List.nil_append, ik29, rows64_len, rows32_len, hik, hik2, h1, h2, List.length_cons]; exact ⟨_, rfl⟩)
          | nil =>
            cases t with
            | cons i0 i => simp only [List.length_cons, decide_true, decide_false, Bool.true_and, Bool.and_true, Bool.false_and, Bool.and_false, Bool.not_true, Bool.not_false, Bool.or_true, Bool.true_or, Bool.or_false, Bool.false_or, List.isEmpty_nil, List.isEmpty_cons]; (rw [callT_eq Tryd.func21 rfl fok21 (by simp [Tryd.ntmps21])]; simp (disch := first | omega | (simp only [List.length_append, List.length_map, List.length_set, List.length_cons, List.length_nil, List.length_take, List.length_drop, rows64_len, rows32_len]; omega)) only [va0, va1, va2, va3, va4, va5, va6, va7, va8, va9, va10, va11, va12, va13, va14, va15, vb0, vb1, vb2, vb3, w_i8, w_u8, w_i16, w_u16, w_i32, w_u32, w_i64, w_u64, lt_T, lt_F, le_T, le_F, nlt_T, nlt_F, nle_T, nle_F, List.take_of_length_le, gB, gcW, gcR, posIn, renA, renL, Chunk.ren, Chunk.refs, evOpD, touchD, stepC, isFresh, nFresh, freshOf, mkR, hole, evL, evH, opd, get, putD, ofVal, cellOf, loadE, behind, lenE, idxAddrE, idxE, addPtr, intE, strE, unE, convE, AV.int, AV.bool, AV.str, ivs, take, frameOf, firstRegion, refsA, refsL, one, cellsA, floatOk, apartT, List.map, if_true, if_false, E_P, E_glob0, reduceCtorEq, beq_self_eq_true, decide_true, decide_false, ↓reduceIte, Nat.reduceEqDiff, cond_true, cond_false, or_true, true_or, or_false, false_or, and_true, true_and, and_self, false_and, and_false, not_true, not_false_iff, Nat.reduceAdd, Nat.reduceSub, Nat.reduceMul, Nat.reduceLT, Nat.reduceLeDiff, Int.reduceToNat, Int.reduceLT, Int.reduceLE, Option.getD, Int.reduceMul, Int.reduceAdd, List.drop, List.take, Nat.reduceBEq, List.isEmpty, Int.reduceEq, Int.reduceNe, Int.reduceNeg, Int.reduceGT, Int.reduceGE, beq_true, beq_false, UInt8.reduceToNat, eqE, eq_self, foldE, maxE, minE, eq_T, eq_F, ndec, odec, adec, sdec, fillA, over, chop, List.replicate, leavesOk, leafOk, cellsEq, cellEq, E_byref, en21, bs29, bs49, ik22, ik28, List.nil_append, ik29, rows64_len, rows32_len, hik, hik2, h1, h2, List.length_cons]; exact ⟨_, rfl⟩)
            | nil =>
              cases ps with
              | cons p0 ps => simp only [List.length_cons, decide_true, decide_false, Bool.true_and, Bool.and_true, Bool.false_and, Bool.and_false, Bool.not_true, Bool.not_false, Bool.or_true, Bool.true_or, Bool.or_false, Bool.false_or, List.isEmpty_nil, List.isEmpty_cons]; (rw [callT_eq Tryd.func21 rfl fok21 (by simp [Tryd.ntmps21])]; simp (disch := first | omega | (simp only [List.length_append, List.length_map, List.length_set, List.length_cons, List.length_nil, List.length_take, List.length_drop, rows64_len, rows32_len]; omega)) only [va0, va1, va2, va3, va4, va5, va6, va7, va8, va9, va10, va11, va12, va13, va14, va15, vb0, vb1, vb2, vb3, w_i8, w_u8, w_i16, w_u16, w_i32, w_u32, w_i64, w_u64, lt_T, lt_F, le_T, le_F, nlt_T, nlt_F, nle_T, nle_F, List.take_of_length_le, gB, gcW, gcR, posIn, renA, renL, Chunk.ren, Chunk.refs, evOpD, touchD, stepC, isFresh, nFresh, freshOf, mkR, hole, evL, evH, opd, get, putD, ofVal, cellOf, loadE, behind, lenE, idxAddrE, idxE, addPtr, intE, strE, unE, convE, AV.int, AV.bool, AV.str, ivs, take, frameOf, firstRegion, refsA, refsL, one, cellsA, floatOk, apartT, List.map, if_true, if_false, E_P, E_glob0, reduceCtorEq, beq_self_eq_true, decide_true, decide_false, ↓reduceIte, Nat.reduceEqDiff, cond_true, cond_false, or_true, true_or, or_false, false_or, and_true, true_and, and_self, false_and, and_false, not_true, not_false_iff, Nat.reduceAdd, Nat.reduceSub, Nat.reduceMul, Nat.reduceLT, Nat.reduceLeDiff, Int.reduceToNat, Int.reduceLT, Int.reduceLE, Option.getD, Int.reduceMul, Int.reduceAdd, List.drop, List.take, Nat.reduceBEq, List.isEmpty, Int.reduceEq, Int.reduceNe, Int.reduceNeg, Int.reduceGT, Int.reduceGE, beq_true, beq_false, UInt8.reduceToNat, eqE, eq_self, foldE, maxE, minE, eq_T, eq_F, ndec, odec, adec, sdec, fillA, over, chop, List.replicate, leavesOk, leafOk, cellsEq, cellEq, E_byref, en21, bs29, bs49, ik22, ik28, List.nil_append, ik29, rows64_len, rows32_len, hik, hik2, h1, h2, rows64, List.length_cons]; exact ⟨_, rfl⟩)
              | nil => simp only [List.length_nil, decide_true, decide_false, Bool.true_and, Bool.and_true, Bool.false_and, Bool.and_false, Bool.not_true, Bool.not_false, Bool.or_true, Bool.true_or, Bool.or_false, Bool.false_or, List.isEmpty_nil, List.isEmpty_cons]; (rw [callT_eq Tryd.func21 rfl fok21 (by simp [Tryd.ntmps21])]; simp (disch := first | omega | (simp only [List.length_append, List.length_map, List.length_set, List.length_cons, List.length_nil, List.length_take, List.length_drop, rows64_len, rows32_len]; omega)) only [va0, va1, va2, va3, va4, va5, va6, va7, va8, va9, va10, va11, va12, va13, va14, va15, vb0, vb1, vb2, vb3, w_i8, w_u8, w_i16, w_u16, w_i32, w_u32, w_i64, w_u64, lt_T, lt_F, le_T, le_F, nlt_T, nlt_F, nle_T, nle_F, List.take_of_length_le, gB, gcW, gcR, posIn, renA, renL, Chunk.ren, Chunk.refs, evOpD, touchD, stepC, isFresh, nFresh, freshOf, mkR, hole, evL, evH, opd, get, putD, ofVal, cellOf, loadE, behind, lenE, idxAddrE, idxE, addPtr, intE, strE, unE, convE, AV.int, AV.bool, AV.str, ivs, take, frameOf, firstRegion, refsA, refsL, one, cellsA, floatOk, apartT, List.map, if_true, if_false, E_P, E_glob0, reduceCtorEq, beq_self_eq_true, decide_true, decide_false, ↓reduceIte, Nat.reduceEqDiff, cond_true, cond_false, or_true, true_or, or_false, false_or, and_true, true_and, and_self, false_and, and_false, not_true, not_false_iff, Nat.reduceAdd, Nat.reduceSub, Nat.reduceMul, Nat.reduceLT, Nat.reduceLeDiff, Int.reduceToNat, Int.reduceLT, Int.reduceLE, Option.getD, Int.reduceMul, Int.reduceAdd, List.drop, List.take, Nat.reduceBEq, List.isEmpty, Int.reduceEq, Int.reduceNe, Int.reduceNeg, Int.reduceGT, Int.reduceGE, beq_true, beq_false, UInt8.reduceToNat, eqE, eq_self, foldE, maxE, minE, eq_T, eq_F, ndec, odec, adec, sdec, fillA, over, chop, List.replicate, leavesOk, leafOk, cellsEq, cellEq, E_byref, en21, bs29, bs49, ik22, ik28, List.nil_append, ik29, rows64_len, rows32_len, hik, hik2, h1, h2, rows64, List.length_nil]; exact ⟨_, rfl⟩)
end Go.VI

namespace Go.VI
open Go.Proofs
set_option maxRecDepth 100000
set_option linter.unusedSimpArgs false
set_option linter.unusedVariables false
set_option maxHeartbeats 4000000
theorem c21_2 (r c v : Int) (i : List UInt8) (ps : List Int) (t : List UInt8) :
    ∃ L, callT E 21 [evA ⟨2, r, c, v, i, ps, t⟩] [] = some (.i (.v (.bool (rightC ⟨2, r, c, v, i, ps, t⟩))), L) := by
  rw [evA_eq]
  unfold rightC
  simp only []
  by_cases h1 : 32 ≤ c
  · simp only [h1, decide_true, decide_false, Bool.true_and, Bool.and_true, Bool.false_and, Bool.and_false, Bool.not_true, Bool.not_false, Bool.or_true, Bool.true_or, Bool.or_false, Bool.false_or, List.isEmpty_nil, List.isEmpty_cons]; (rw [callT_eq Tryd.func21 rfl fok21 (by simp [Tryd.ntmps21])]; simp (disch := first | omega | (simp only [List.length_append, List.length_map, List.length_set, List.length_cons, List.length_nil, List.length_take, List.length_drop, rows64_len, rows32_len]; omega)) only [va0, va1, va2, va3, va4, va5, va6, va7, va8, va9, va10, va11, va12, va13, va14, va15, vb0, vb1, vb2, vb3, w_i8, w_u8, w_i16, w_u16, w_i32, w_u32, w_i64, w_u64, lt_T, lt_F, le_T, le_F, nlt_T, nlt_F, nle_T, nle_F, List.take_of_length_le, gB, gcW, gcR, posIn, renA, renL, Chunk.ren, Chunk.refs, evOpD, touchD, stepC, isFresh, nFresh, freshOf, mkR, hole, evL, evH, opd, get, putD, ofVal, cellOf, loadE, behind, lenE, idxAddrE, idxE, addPtr, intE, strE, unE, convE, AV.int, AV.bool, AV.str, ivs, take, frameOf, firstRegion, refsA, refsL, one, cellsA, floatOk, apartT, List.map, if_true, if_false, E_P, E_glob0, reduceCtorEq, beq_self_eq_true, decide_true, decide_false, ↓reduceIte, Nat.reduceEqDiff, cond_true, cond_false, or_true, true_or, or_false, false_or, and_true, true_and, and_self, false_and, and_false, not_true, not_false_iff, Nat.reduceAdd, Nat.reduceSub, Nat.reduceMul, Nat.reduceLT, Nat.reduceLeDiff, Int.reduceToNat, Int.reduceLT, Int.reduceLE, Option.getD, Int.reduceMul, Int.reduceAdd, List.drop, List.take, Nat.reduceBEq, List.isEmpty, Int.reduceEq, Int.reduceNe, Int.reduceNeg, Int.reduceGT, Int.reduceGE, beq_true, beq_false, UInt8.reduceToNat, eqE, eq_self, foldE, maxE, minE, eq_T, eq_F, ndec, odec, adec, sdec, fillA, over, chop, List.replicate, leavesOk, leafOk, cellsEq, cellEq, E_byref, en21, bs29, bs49, ik29, rows64_len, rows32_len, h1, h1]; exact ⟨_, rfl⟩)
  by_cases h2 : c = 24
  · simp only [h2, decide_true, decide_false, Bool.true_and, Bool.and_true, Bool.false_and, Bool.and_false, Bool.not_true, Bool.not_false, Bool.or_true, Bool.true_or, Bool.or_false, Bool.false_or, List.isEmpty_nil, List.isEmpty_cons]; (rw [callT_eq Tryd.func21 rfl fok21 (by simp [Tryd.ntmps21])]; simp (disch := first | omega | (simp only [List.length_append, List.length_map, List.length_set, List.length_cons, List.length_nil, List.length_take, List.length_drop, rows64_len, rows32_len]; omega)) only [va0, va1, va2, va3, va4, va5, va6, va7, va8, va9, va10, va11, va12, va13, va14, va15, vb0, vb1, vb2, vb3, w_i8, w_u8, w_i16, w_u16, w_i32, w_u32, w_i64, w_u64, lt_T, lt_F, le_T, le_F, nlt_T, nlt_F, nle_T, nle_F, List.take_of_length_le, gB, gcW, gcR, posIn, renA, renL, Chunk.ren, Chunk.refs, evOpD, touchD, stepC, isFresh, nFresh, freshOf, mkR, hole, evL, evH, opd, get, putD, ofVal, cellOf, loadE, behind, lenE, idxAddrE, idxE, addPtr, intE, strE, unE, convE, AV.int, AV.bool, AV.str, ivs, take, frameOf, firstRegion, refsA, refsL, one, cellsA, floatOk, apartT, List.map, if_true, if_false, E_P, E_glob0, reduceCtorEq, beq_self_eq_true, decide_true, decide_false, ↓reduceIte, Nat.reduceEqDiff, cond_true, cond_false, or_true, true_or, or_false, false_or, and_true, true_and, and_self, false_and, and_false, not_true, not_false_iff, Nat.reduceAdd, Nat.reduceSub, Nat.reduceMul, Nat.reduceLT, Nat.reduceLeDiff, Int.reduceToNat, Int.reduceLT, Int.reduceLE, Option.getD, Int.reduceMul, Int.reduceAdd, List.drop, List.take, Nat.reduceBEq, List.isEmpty, Int.reduceEq, Int.reduceNe, Int.reduceNeg, Int.reduceGT, Int.reduceGE, beq_true, beq_false, UInt8.reduceToNat, eqE, eq_self, foldE, maxE, minE, eq_T, eq_F, ndec, odec, adec, sdec, fillA, over, chop, List.replicate, leavesOk, leafOk, cellsEq, cellEq, E_byref, en21, bs29, bs49, ik29, rows64_len, rows32_len, h1, h2]; exact ⟨_, rfl⟩)
  by_cases h3 : c = 26
  · simp only [h3, decide_true, decide_false, Bool.true_and, Bool.and_true, Bool.false_and, Bool.and_false, Bool.not_true, Bool.not_false, Bool.or_true, Bool.true_or, Bool.or_false, Bool.false_or, List.isEmpty_nil, List.isEmpty_cons]; (rw [callT_eq Tryd.func21 rfl fok21 (by simp [Tryd.ntmps21])]; simp (disch := first | omega | (simp only [List.length_append, List.length_map, List.length_set, List.length_cons, List.length_nil, List.length_take, List.length_drop, rows64_len, rows32_len]; omega)) only [va0, va1, va2, va3, va4, va5, va6, va7, va8, va9, va10, va11, va12, va13, va14, va15, vb0, vb1, vb2, vb3, w_i8, w_u8, w_i16, w_u16, w_i32, w_u32, w_i64, w_u64, lt_T, lt_F, le_T, le_F, nlt_T, nlt_F, nle_T, nle_F, List.take_of_length_le, gB, gcW, gcR, posIn, renA, renL, Chunk.ren, Chunk.refs, evOpD, touchD, stepC, isFresh, nFresh, freshOf, mkR, hole, evL, evH, opd, get, putD, ofVal, cellOf, loadE, behind, lenE, idxAddrE, idxE, addPtr, intE, strE, unE, convE, AV.int, AV.bool, AV.str, ivs, take, frameOf, firstRegion, refsA, refsL, one, cellsA, floatOk, apartT, List.map, if_true, if_false, E_P, E_glob0, reduceCtorEq, beq_self_eq_true, decide_true, decide_false, ↓reduceIte, Nat.reduceEqDiff, cond_true, cond_false, or_true, true_or, or_false, false_or, and_true, true_and, and_self, false_and, and_false, not_true, not_false_iff, Nat.reduceAdd, Nat.reduceSub, Nat.reduceMul, Nat.reduceLT, Nat.reduceLeDiff, Int.reduceToNat, Int.reduceLT, Int.reduceLE, Option.getD, Int.reduceMul, Int.reduceAdd, List.drop, List.take, Nat.reduceBEq, List.isEmpty, Int.reduceEq, Int.reduceNe, Int.reduceNeg, Int.reduceGT, Int.reduceGE, beq_true, beq_false, UInt8.reduceToNat, eqE, eq_self, foldE, maxE, minE, eq_T, eq_F, ndec, odec, adec, sdec, fillA, over, chop, List.replicate, leavesOk, leafOk, cellsEq, cellEq, E_byref, en21, bs29, bs49, ik29, rows64_len, rows32_len, h1, h2, h3]; exact ⟨_, rfl⟩)
  by_cases h4 : c = 27
  · simp only [h4, decide_true, decide_false, Bool.true_and, Bool.and_true, Bool.false_and, Bool.and_false, Bool.not_true, Bool.not_false, Bool.or_true, Bool.true_or, Bool.or_false, Bool.false_or, List.isEmpty_nil, List.isEmpty_cons]; (rw [callT_eq Tryd.func21 rfl fok21 (by simp [Tryd.ntmps21])]; simp (disch := first | omega | (simp only [List.length_append, List.length_map, List.length_set, List.length_cons, List.length_nil, List.length_take, List.length_drop, rows64_len, rows32_len]; omega)) only [va0, va1, va2, va3, va4, va5, va6, va7, va8, va9, va10, va11, va12, va13, va14, va15, vb0, vb1, vb2, vb3, w_i8, w_u8, w_i16, w_u16, w_i32, w_u32, w_i64, w_u64, lt_T, lt_F, le_T, le_F, nlt_T, nlt_F, nle_T, nle_F, List.take_of_length_le, gB, gcW, gcR, posIn, renA, renL, Chunk.ren, Chunk.refs, evOpD, touchD, stepC, isFresh, nFresh, freshOf, mkR, hole, evL, evH, opd, get, putD, ofVal, cellOf, loadE, behind, lenE, idxAddrE, idxE, addPtr, intE, strE, unE, convE, AV.int, AV.bool, AV.str, ivs, take, frameOf, firstRegion, refsA, refsL, one, cellsA, floatOk, apartT, List.map, if_true, if_false, E_P, E_glob0, reduceCtorEq, beq_self_eq_true, decide_true, decide_false, ↓reduceIte, Nat.reduceEqDiff, cond_true, cond_false, or_true, true_or, or_false, false_or, and_true, true_and, and_self, false_and, and_false, not_true, not_false_iff, Nat.reduceAdd, Nat.reduceSub, Nat.reduceMul, Nat.reduceLT, Nat.reduceLeDiff, Int.reduceToNat, Int.reduceLT, Int.reduceLE, Option.getD, Int.reduceMul, Int.reduceAdd, List.drop, List.take, Nat.reduceBEq, List.isEmpty, Int.reduceEq, Int.reduceNe, Int.reduceNeg, Int.reduceGT, Int.reduceGE, beq_true, beq_false, UInt8.reduceToNat, eqE, eq_self, foldE, maxE, minE, eq_T, eq_F, ndec, odec, adec, sdec, fillA, over, chop, List.replicate, leavesOk, leafOk, cellsEq, cellEq, E_byref, en21, bs29, bs49, ik29, rows64_len, rows32_len, h1, h2, h3, h4]; exact ⟨_, rfl⟩)
  simp only [h1, h2, h3, h4, decide_false, Bool.or_false, Bool.not_false, Bool.true_and]
  by_cases qr : r = 0
  rotate_left
  · simp only [qr, decide_true, decide_false, Bool.true_and, Bool.and_true, Bool.false_and, Bool.and_false, Bool.not_true, Bool.not_false, Bool.or_true, Bool.true_or, Bool.or_false, Bool.false_or, List.isEmpty_nil, List.isEmpty_cons]; (rw [callT_eq Tryd.func21 rfl fok21 (by simp [Tryd.ntmps21])]; simp (disch := first | omega | (simp only [List.length_append, List.length_map, List.length_set, List.length_cons, List.length_nil, List.length_take, List.length_drop, rows64_len, rows32_len]; omega)) only [va0, va1, va2, va3, va4, va5, va6, va7, va8, va9, va10, va11, va12, va13, va14, va15, vb0, vb1, vb2, vb3, w_i8, w_u8, w_i16, w_u16, w_i32, w_u32, w_i64, w_u64, lt_T, lt_F, le_T, le_F, nlt_T, nlt_F, nle_T, nle_F, List.take_of_length_le, gB, gcW, gcR, posIn, renA, renL, Chunk.ren, Chunk.refs, evOpD, touchD, stepC, isFresh, nFresh, freshOf, mkR, hole, evL, evH, opd, get, putD, ofVal, cellOf, loadE, behind, lenE, idxAddrE, idxE, addPtr, intE, strE, unE, convE, AV.int, AV.bool, AV.str, ivs, take, frameOf, firstRegion, refsA, refsL, one, cellsA, floatOk, apartT, List.map, if_true, if_false, E_P, E_glob0, reduceCtorEq, beq_self_eq_true, decide_true, decide_false, ↓reduceIte, Nat.reduceEqDiff, cond_true, cond_false, or_true, true_or, or_false, false_or, and_true, true_and, and_self, false_and, and_false, not_true, not_false_iff, Nat.reduceAdd, Nat.reduceSub, Nat.reduceMul, Nat.reduceLT, Nat.reduceLeDiff, Int.reduceToNat, Int.reduceLT, Int.reduceLE, Option.getD, Int.reduceMul, Int.reduceAdd, List.drop, List.take, Nat.reduceBEq, List.isEmpty, Int.reduceEq, Int.reduceNe, Int.reduceNeg, Int.reduceGT, Int.reduceGE, beq_true, beq_false, UInt8.reduceToNat, eqE, eq_self, foldE, maxE, minE, eq_T, eq_F, ndec, odec, adec, sdec, fillA, over, chop, List.replicate, leavesOk, leafOk, cellsEq, cellEq, E_byref, en21, bs29, bs49, ik29, rows64_len, rows32_len, h1, h2, h3, h4, qr]; exact ⟨_, rfl⟩)
  subst qr
  by_cases qv : v = 0
  rotate_left
  · simp only [qv, decide_true, decide_false, Bool.true_and, Bool.and_true, Bool.false_and, Bool.and_false, Bool.not_true, Bool.not_false, Bool.or_true, Bool.true_or, Bool.or_false, Bool.false_or, List.isEmpty_nil, List.isEmpty_cons]; (rw [callT_eq Tryd.func21 rfl fok21 (by simp [Tryd.ntmps21])]; simp (disch := first | omega | (simp only [List.length_append, List.length_map, List.length_set, List.length_cons, List.length_nil, List.length_take, List.length_drop, rows64_len, rows32_len]; omega)) only [va0, va1, va2, va3, va4, va5, va6, va7, va8, va9, va10, va11, va12, va13, va14, va15, vb0, vb1, vb2, vb3, w_i8, w_u8, w_i16, w_u16, w_i32, w_u32, w_i64, w_u64, lt_T, lt_F, le_T, le_F, nlt_T, nlt_F, nle_T, nle_F, List.take_of_length_le, gB, gcW, gcR, posIn, renA, renL, Chunk.ren, Chunk.refs, evOpD, touchD, stepC, isFresh, nFresh, freshOf, mkR, hole, evL, evH, opd, get, putD, ofVal, cellOf, loadE, behind, lenE, idxAddrE, idxE, addPtr, intE, strE, unE, convE, AV.int, AV.bool, AV.str, ivs, take, frameOf, firstRegion, refsA, refsL, one, cellsA, floatOk, apartT, List.map, if_true, if_false, E_P, E_glob0, reduceCtorEq, beq_self_eq_true, decide_true, decide_false, ↓reduceIte, Nat.reduceEqDiff, cond_true, cond_false, or_true, true_or, or_false, false_or, and_true, true_and, and_self, false_and, and_false, not_true, not_false_iff, Nat.reduceAdd, Nat.reduceSub, Nat.reduceMul, Nat.reduceLT, Nat.reduceLeDiff, Int.reduceToNat, Int.reduceLT, Int.reduceLE, Option.getD, Int.reduceMul, Int.reduceAdd, List.drop, List.take, Nat.reduceBEq, List.isEmpty, Int.reduceEq, Int.reduceNe, Int.reduceNeg, Int.reduceGT, Int.reduceGE, beq_true, beq_false, UInt8.reduceToNat, eqE, eq_self, foldE, maxE, minE, eq_T, eq_F, ndec, odec, adec, sdec, fillA, over, chop, List.replicate, leavesOk, leafOk, cellsEq, cellEq, E_byref, en21, bs29, bs49, ik29, rows64_len, rows32_len, h1, h2, h3, h4, qv]; exact ⟨_, rfl⟩)
  subst qv
  cases i with
  | cons i0 i => simp only [List.length_cons, decide_true, decide_false, Bool.true_and, Bool.and_true, Bool.false_and, Bool.and_false, Bool.not_true, Bool.not_false, Bool.or_true, Bool.true_or, Bool.or_false, Bool.false_or, List.isEmpty_nil, List.isEmpty_cons]; (rw [callT_eq Tryd.func21 rfl fok21 (by simp [Tryd.ntmps21])]; simp (disch := first | omega | (simp only [List.length_append, List.length_map, List.length_set, List.length_cons, List.length_nil, List.length_take, List.length_drop, rows64_len, rows32_len]; omega)) only [va0, va1, va2, va3, va4, va5, va6, va7, va8, va9, va10, va11, va12, va13, va14, va15, vb0, vb1, vb2, vb3, w_i8, w_u8, w_i16, w_u16, w_i32, w_u32, w_i64, w_u64, lt_T, lt_F, le_T, le_F, nlt_T, nlt_F, nle_T, nle_F, List.take_of_length_le, gB, gcW, gcR, posIn, renA, renL, Chunk.ren, Chunk.refs, evOpD, touchD, stepC, isFresh, nFresh, freshOf, mkR, hole, evL, evH, opd, get, putD, ofVal, cellOf, loadE, behind, lenE, idxAddrE, idxE, addPtr, intE, strE, unE, convE, AV.int, AV.bool, AV.str, ivs, take, frameOf, firstRegion, refsA, refsL, one, cellsA, floatOk, apartT, List.map, if_true, if_false, E_P, E_glob0, reduceCtorEq, beq_self_eq_true, decide_true, decide_false, ↓reduceIte, Nat.reduceEqDiff, cond_true, cond_false, or_true, true_or, or_false, false_or, and_true, true_and, and_self, false_and, and_false, not_true, not_false_iff, Nat.reduceAdd, Nat.reduceSub, Nat.reduceMul, Nat.reduceLT, Nat.reduceLeDiff, Int.reduceToNat, Int.reduceLT, Int.reduceLE, Option.getD, Int.reduceMul, Int.reduceAdd, List.drop, List.take, Nat.reduceBEq, List.isEmpty, Int.reduceEq, Int.reduceNe, Int.reduceNeg, Int.reduceGT, Int.reduceGE, beq_true, beq_false, UInt8.reduceToNat, eqE, eq_self, foldE, maxE, minE, eq_T, eq_F, ndec, odec, adec, sdec, fillA, over, chop, List.replicate, leavesOk, leafOk, cellsEq, cellEq, E_byref, en21, bs29, bs49, ik29, rows64_len, rows32_len, h1, h2, h3, h4, List.length_cons]; exact ⟨_, rfl⟩)
  | nil =>
    cases t with
    | cons t0 t => simp only [List.length_cons, decide_true, decide_false, Bool.true_and, Bool.and_true, Bool.false_and, Bool.and_false, Bool.not_true, Bool.not_false, Bool.or_true, Bool.true_or, Bool.or_false, Bool.false_or, List.isEmpty_nil, List.isEmpty_cons]; (rw [callT_eq Tryd.func21 rfl fok21 (by simp [Tryd.ntmps21])]; simp (disch := first | omega | (simp only [List.length_append, List.length_map, List.length_set, List.length_cons, List.length_nil, List.length_take, List.length_drop, rows64_len, rows32_len]; omega)) only [va0, va1, va2, va3, va4, va5, va6, va7, va8, va9, va10, va11, va12, va13, va14, va15, vb0, vb1, vb2, vb3, w_i8, w_u8, w_i16, w_u16, w_i32, w_u32, w_i64, w_u64, lt_T, lt_F, le_T, le_F, nlt_T, nlt_F, nle_T, nle_F, List.take_of_length_le, gB, gcW, gcR, posIn, renA, renL, Chunk.ren, Chunk.refs, evOpD, touchD, stepC, isFresh, nFresh, freshOf, mkR, hole, evL, evH, opd, get, putD, ofVal, cellOf, loadE, behind, lenE, idxAddrE, idxE, addPtr, intE, strE, unE, convE, AV.int, AV.bool, AV.str, ivs, take, frameOf, firstRegion, refsA, refsL, one, cellsA, floatOk, apartT, List.map, if_true, if_false, E_P, E_glob0, reduceCtorEq, beq_self_eq_true, decide_true, decide_false, ↓reduceIte, Nat.reduceEqDiff, cond_true, cond_false, or_true, true_or, or_false, false_or, and_true, true_and, and_self, false_and, and_false, not_true, not_false_iff, Nat.reduceAdd, Nat.reduceSub, Nat.reduceMul, Nat.reduceLT, Nat.reduceLeDiff, Int.reduceToNat, Int.reduceLT, Int.reduceLE, Option.getD, Int.reduceMul, Int.reduceAdd, List.drop, List.take, Nat.reduceBEq, List.isEmpty, Int.reduceEq, Int.reduceNe, Int.reduceNeg, Int.reduceGT, Int.reduceGE, beq_true, beq_false, UInt8.reduceToNat, eqE, eq_self, foldE, maxE, minE, eq_T, eq_F, ndec, odec, adec, sdec, fillA, over, chop, List.replicate, leavesOk, leafOk, cellsEq, cellEq, E_byref, en21, bs29, bs49, ik29, rows64_len, rows32_len, h1, h2, h3, h4, List.length_cons]; exact ⟨_, rfl⟩)
    | nil =>
      cases ps with
      | cons p0 ps => simp only [List.length_cons, decide_true, decide_false, Bool.true_and, Bool.and_true, Bool.false_and, Bool.and_false, Bool.not_true, Bool.not_false, Bool.or_true, Bool.true_or, Bool.or_false, Bool.false_or, List.isEmpty_nil, List.isEmpty_cons]; (rw [callT_eq Tryd.func21 rfl fok21 (by simp [Tryd.ntmps21])]; simp (disch := first | omega | (simp only [List.length_append, List.length_map, List.length_set, List.length_cons, List.length_nil, List.length_take, List.length_drop, rows64_len, rows32_len]; omega)) only [va0, va1, va2, va3, va4, va5, va6, va7, va8, va9, va10, va11, va12, va13, va14, va15, vb0, vb1, vb2, vb3, w_i8, w_u8, w_i16, w_u16, w_i32, w_u32, w_i64, w_u64, lt_T, lt_F, le_T, le_F, nlt_T, nlt_F, nle_T, nle_F, List.take_of_length_le, gB, gcW, gcR, posIn, renA, renL, Chunk.ren, Chunk.refs, evOpD, touchD, stepC, isFresh, nFresh, freshOf, mkR, hole, evL, evH, opd, get, putD, ofVal, cellOf, loadE, behind, lenE, idxAddrE, idxE, addPtr, intE, strE, unE, convE, AV.int, AV.bool, AV.str, ivs, take, frameOf, firstRegion, refsA, refsL, one, cellsA, floatOk, apartT, List.map, if_true, if_false, E_P, E_glob0, reduceCtorEq, beq_self_eq_true, decide_true, decide_false, ↓reduceIte, Nat.reduceEqDiff, cond_true, cond_false, or_true, true_or, or_false, false_or, and_true, true_and, and_self, false_and, and_false, not_true, not_false_iff, Nat.reduceAdd, Nat.reduceSub, Nat.reduceMul, Nat.reduceLT, Nat.reduceLeDiff, Int.reduceToNat, Int.reduceLT, Int.reduceLE, Option.getD, Int.reduceMul, Int.reduceAdd, List.drop, List.take, Nat.reduceBEq, List.isEmpty, Int.reduceEq, Int.reduceNe, Int.reduceNeg, Int.reduceGT, Int.reduceGE, beq_true, beq_false, UInt8.reduceToNat, eqE, eq_self, foldE, maxE, minE, eq_T, eq_F, ndec, odec, adec, sdec, fillA, over, chop, List.replicate, leavesOk, leafOk, cellsEq, cellEq, E_byref, en21, bs29, bs49, ik29, rows64_len, rows32_len, h1, h2, h3, h4, rows64, List.length_cons]; exact ⟨_, rfl⟩)
      | nil => simp only [List.length_nil, decide_true, decide_false, Bool.true_and, Bool.and_true, Bool.false_and, Bool.and_false, Bool.not_true, Bool.not_false, Bool.or_true, Bool.true_or, Bool.or_false, Bool.false_or, List.isEmpty_nil, List.isEmpty_cons]; (rw [callT_eq Tryd.func21 rfl fok21 (by simp [Tryd.ntmps21])]; simp (disch := first | omega | (simp only [List.length_append, List.length_map, List.length_set, List.length_cons, List.length_nil, List.length_take, List.length_drop, rows64_len, rows32_len]; omega)) only [va0, va1, va2, va3, va4, va5, va6, va7, va8, va9, va10, va11, va12, va13, va14, va15, vb0, vb1, vb2, vb3, w_i8, w_u8, w_i16, w_u16, w_i32, w_u32, w_i64, w_u64, lt_T, lt_F, le_T, le_F, nlt_T, nlt_F, nle_T, nle_F, List.take_of_length_le, gB, gcW, gcR, posIn, renA, renL, Chunk.ren, Chunk.refs, evOpD, touchD, stepC, isFresh, nFresh, freshOf, mkR, hole, evL, evH, opd, get, putD, ofVal, cellOf, loadE, behind, lenE, idxAddrE, idxE, addPtr, intE, strE, unE, convE, AV.int, AV.bool, AV.str, ivs, take, frameOf, firstRegion, refsA, refsL, one, cellsA, floatOk, apartT, List.map, if_true, if_false, E_P, E_glob0, reduceCtorEq, beq_self_eq_true, decide_true, decide_false, ↓reduceIte, Nat.reduceEqDiff, cond_true, cond_false, or_true, true_or, or_false, false_or, and_true, true_and, and_self, false_and, and_false, not_true, not_false_iff, Nat.reduceAdd, Nat.reduceSub, Nat.reduceMul, Nat.reduceLT, Nat.reduceLeDiff, Int.reduceToNat, Int.reduceLT, Int.reduceLE, Option.getD, Int.reduceMul, Int.reduceAdd, List.drop, List.take, Nat.reduceBEq, List.isEmpty, Int.reduceEq, Int.reduceNe, Int.reduceNeg, Int.reduceGT, Int.reduceGE, beq_true, beq_false, UInt8.reduceToNat, eqE, eq_self, foldE, maxE, minE, eq_T, eq_F, ndec, odec, adec, sdec, fillA, over, chop, List.replicate, leavesOk, leafOk, cellsEq, cellEq, E_byref, en21, bs29, bs49, ik29, rows64_len, rows32_len, h1, h2, h3, h4, rows64, List.length_nil]; exact ⟨_, rfl⟩)
end Go.VI

namespace Go.VI
open Go.Proofs
set_option maxRecDepth 100000
set_option linter.unusedSimpArgs false
set_option linter.unusedVariables false
set_option maxHeartbeats 4000000
theorem c21_3 (r c v : Int) (i : List UInt8) (ps : List Int) (t : List UInt8) :
    ∃ L, callT E 21 [evA ⟨3, r, c, v, i, ps, t⟩] [] = some (.i (.v (.bool (rightE ⟨3, r, c, v, i, ps, t⟩))), L) := by
  rw [evA_eq]
  unfold rightE
  simp only []
  by_cases h1 : 3 ≤ i.length
  · have h1' : 3 ≤ (i.length : Int) := by omega
    simp only [h1, decide_true, decide_false, Bool.true_and, Bool.and_true, Bool.false_and, Bool.and_false, Bool.not_true, Bool.not_false, Bool.or_true, Bool.true_or, Bool.or_false, Bool.false_or, List.isEmpty_nil, List.isEmpty_cons]; (rw [callT_eq Tryd.func21 rfl fok21 (by simp [Tryd.ntmps21])]; simp (disch := first | omega | (simp only [List.length_append, List.length_map, List.length_set, List.length_cons, List.length_nil, List.length_take, List.length_drop, rows64_len, rows32_len]; omega)) only [va0, va1, va2, va3, va4, va5, va6, va7, va8, va9, va10, va11, va12, va13, va14, va15, vb0, vb1, vb2, vb3, w_i8, w_u8, w_i16, w_u16, w_i32, w_u32, w_i64, w_u64, lt_T, lt_F, le_T, le_F, nlt_T, nlt_F, nle_T, nle_F, List.take_of_length_le, gB, gcW, gcR, posIn, renA, renL, Chunk.ren, Chunk.refs, evOpD, touchD, stepC, isFresh, nFresh, freshOf, mkR, hole, evL, evH, opd, get, putD, ofVal, cellOf, loadE, behind, lenE, idxAddrE, idxE, addPtr, intE, strE, unE, convE, AV.int, AV.bool, AV.str, ivs, take, frameOf, firstRegion, refsA, refsL, one, cellsA, floatOk, apartT, List.map, if_true, if_false, E_P, E_glob0, reduceCtorEq, beq_self_eq_true, decide_true, decide_false, ↓reduceIte, Nat.reduceEqDiff, cond_true, cond_false, or_true, true_or, or_false, false_or, and_true, true_and, and_self, false_and, and_false, not_true, not_false_iff, Nat.reduceAdd, Nat.reduceSub, Nat.reduceMul, Nat.reduceLT, Nat.reduceLeDiff, Int.reduceToNat, Int.reduceLT, Int.reduceLE, Option.getD, Int.reduceMul, Int.reduceAdd, List.drop, List.take, Nat.reduceBEq, List.isEmpty, Int.reduceEq, Int.reduceNe, Int.reduceNeg, Int.reduceGT, Int.reduceGE, beq_true, beq_false, UInt8.reduceToNat, eqE, eq_self, foldE, maxE, minE, eq_T, eq_F, ndec, odec, adec, sdec, fillA, over, chop, List.replicate, leavesOk, leafOk, cellsEq, cellEq, E_byref, en21, bs29, bs49, ik29, rows64_len, rows32_len, h1', h1]; exact ⟨_, rfl⟩)
  have h1' : ¬ 3 ≤ (i.length : Int) := by omega
  cases h2 : i.any (outB 32 47) with
  | true => simp only [h2, decide_true, decide_false, Bool.true_and, Bool.and_true, Bool.false_and, Bool.and_false, Bool.not_true, Bool.not_false, Bool.or_true, Bool.true_or, Bool.or_false, Bool.false_or, List.isEmpty_nil, List.isEmpty_cons]; (rw [callT_eq Tryd.func21 rfl fok21 (by simp [Tryd.ntmps21])]; simp (disch := first | omega | (simp only [List.length_append, List.length_map, List.length_set, List.length_cons, List.length_nil, List.length_take, List.length_drop, rows64_len, rows32_len]; omega)) only [va0, va1, va2, va3, va4, va5, va6, va7, va8, va9, va10, va11, va12, va13, va14, va15, vb0, vb1, vb2, vb3, w_i8, w_u8, w_i16, w_u16, w_i32, w_u32, w_i64, w_u64, lt_T, lt_F, le_T, le_F, nlt_T, nlt_F, nle_T, nle_F, List.take_of_length_le, gB, gcW, gcR, posIn, renA, renL, Chunk.ren, Chunk.refs, evOpD, touchD, stepC, isFresh, nFresh, freshOf, mkR, hole, evL, evH, opd, get, putD, ofVal, cellOf, loadE, behind, lenE, idxAddrE, idxE, addPtr, intE, strE, unE, convE, AV.int, AV.bool, AV.str, ivs, take, frameOf, firstRegion, refsA, refsL, one, cellsA, floatOk, apartT, List.map, if_true, if_false, E_P, E_glob0, reduceCtorEq, beq_self_eq_true, decide_true, decide_false, ↓reduceIte, Nat.reduceEqDiff, cond_true, cond_false, or_true, true_or, or_false, false_or, and_true, true_and, and_self, false_and, and_false, not_true, not_false_iff, Nat.reduceAdd, Nat.reduceSub, Nat.reduceMul, Nat.reduceLT, Nat.reduceLeDiff, Int.reduceToNat, Int.reduceLT, Int.reduceLE, Option.getD, Int.reduceMul, Int.reduceAdd, List.drop, List.take, Nat.reduceBEq, List.isEmpty, Int.reduceEq, Int.reduceNe, Int.reduceNeg, Int.reduceGT, Int.reduceGE, beq_true, beq_false, UInt8.reduceToNat, eqE, eq_self, foldE, maxE, minE, eq_T, eq_F, ndec, odec, adec, sdec, fillA, over, chop, List.replicate, leavesOk, leafOk, cellsEq, cellEq, E_byref, en21, bs29, bs49, ik29, rows64_len, rows32_len, h1, h1', h2]; exact ⟨_, rfl⟩)
  | false =>
  simp only [h1, decide_false, Bool.not_false, Bool.true_and]
  by_cases h3 : c < 48
  · simp only [h3, decide_true, decide_false, Bool.true_and, Bool.and_true, Bool.false_and, Bool.and_false, Bool.not_true, Bool.not_false, Bool.or_true, Bool.true_or, Bool.or_false, Bool.false_or, List.isEmpty_nil, List.isEmpty_cons]; (rw [callT_eq Tryd.func21 rfl fok21 (by simp [Tryd.ntmps21])]; simp (disch := first | omega | (simp only [List.length_append, List.length_map, List.length_set, List.length_cons, List.length_nil, List.length_take, List.length_drop, rows64_len, rows32_len]; omega)) only [va0, va1, va2, va3, va4, va5, va6, va7, va8, va9, va10, va11, va12, va13, va14, va15, vb0, vb1, vb2, vb3, w_i8, w_u8, w_i16, w_u16, w_i32, w_u32, w_i64, w_u64, lt_T, lt_F, le_T, le_F, nlt_T, nlt_F, nle_T, nle_F, List.take_of_length_le, gB, gcW, gcR, posIn, renA, renL, Chunk.ren, Chunk.refs, evOpD, touchD, stepC, isFresh, nFresh, freshOf, mkR, hole, evL, evH, opd, get, putD, ofVal, cellOf, loadE, behind, lenE, idxAddrE, idxE, addPtr, intE, strE, unE, convE, AV.int, AV.bool, AV.str, ivs, take, frameOf, firstRegion, refsA, refsL, one, cellsA, floatOk, apartT, List.map, if_true, if_false, E_P, E_glob0, reduceCtorEq, beq_self_eq_true, decide_true, decide_false, ↓reduceIte, Nat.reduceEqDiff, cond_true, cond_false, or_true, true_or, or_false, false_or, and_true, true_and, and_self, false_and, and_false, not_true, not_false_iff, Nat.reduceAdd, Nat.reduceSub, Nat.reduceMul, Nat.reduceLT, Nat.reduceLeDiff, Int.reduceToNat, Int.reduceLT, Int.reduceLE, Option.getD, Int.reduceMul, Int.reduceAdd, List.drop, List.take, Nat.reduceBEq, List.isEmpty, Int.reduceEq, Int.reduceNe, Int.reduceNeg, Int.reduceGT, Int.reduceGE, beq_true, beq_false, UInt8.reduceToNat, eqE, eq_self, foldE, maxE, minE, eq_T, eq_F, ndec, odec, adec, sdec, fillA, over, chop, List.replicate, leavesOk, leafOk, cellsEq, cellEq, E_byref, en21, bs29, bs49, ik29, rows64_len, rows32_len, h1', h2, h3]; exact ⟨_, rfl⟩)
  by_cases h4 : 126 < c
  · simp only [h4, decide_true, decide_false, Bool.true_and, Bool.and_true, Bool.false_and, Bool.and_false, Bool.not_true, Bool.not_false, Bool.or_true, Bool.true_or, Bool.or_false, Bool.false_or, List.isEmpty_nil, List.isEmpty_cons]; (rw [callT_eq Tryd.func21 rfl fok21 (by simp [Tryd.ntmps21])]; simp (disch := first | omega | (simp only [List.length_append, List.length_map, List.length_set, List.length_cons, List.length_nil, List.length_take, List.length_drop, rows64_len, rows32_len]; omega)) only [va0, va1, va2, va3, va4, va5, va6, va7, va8, va9, va10, va11, va12, va13, va14, va15, vb0, vb1, vb2, vb3, w_i8, w_u8, w_i16, w_u16, w_i32, w_u32, w_i64, w_u64, lt_T, lt_F, le_T, le_F, nlt_T, nlt_F, nle_T, nle_F, List.take_of_length_le, gB, gcW, gcR, posIn, renA, renL, Chunk.ren, Chunk.refs, evOpD, touchD, stepC, isFresh, nFresh, freshOf, mkR, hole, evL, evH, opd, get, putD, ofVal, cellOf, loadE, behind, lenE, idxAddrE, idxE, addPtr, intE, strE, unE, convE, AV.int, AV.bool, AV.str, ivs, take, frameOf, firstRegion, refsA, refsL, one, cellsA, floatOk, apartT, List.map, if_true, if_false, E_P, E_glob0, reduceCtorEq, beq_self_eq_true, decide_true, decide_false, ↓reduceIte, Nat.reduceEqDiff, cond_true, cond_false, or_true, true_or, or_false, false_or, and_true, true_and, and_self, false_and, and_false, not_true, not_false_iff, Nat.reduceAdd, Nat.reduceSub, Nat.reduceMul, Nat.reduceLT, Nat.reduceLeDiff, Int.reduceToNat, Int.reduceLT, Int.reduceLE, Option.getD, Int.reduceMul, Int.reduceAdd, List.drop, List.take, Nat.reduceBEq, List.isEmpty, Int.reduceEq, Int.reduceNe, Int.reduceNeg, Int.reduceGT, Int.reduceGE, beq_true, beq_false, UInt8.reduceToNat, eqE, eq_self, foldE, maxE, minE, eq_T, eq_F, ndec, odec, adec, sdec, fillA, over, chop, List.replicate, leavesOk, leafOk, cellsEq, cellEq, E_byref, en21, bs29, bs49, ik29, rows64_len, rows32_len, h1', h2, h3, h4]; exact ⟨_, rfl⟩)
  simp only [h3, h4, decide_false, Bool.or_false, Bool.not_false, Bool.true_and]
  have key : (i = [] ∧ c = 91) ∨ (i = [] ∧ c = 93) ∨ (i = [] ∧ ¬ c = 91 ∧ ¬ c = 93) ∨ (¬ i = [] ∧ i.isEmpty = false) := by
    cases i with
    | cons i0 i => exact .inr (.inr (.inr ⟨by simp, rfl⟩))
    | nil => by_cases q : c = 91
             · exact .inl ⟨rfl, q⟩
             · by_cases q' : c = 93
               · exact .inr (.inl ⟨rfl, q'⟩)
               · exact .inr (.inr (.inl ⟨rfl, q, q'⟩))
  rcases key with ⟨rfl, rfl⟩ | ⟨rfl, rfl⟩ | ⟨rfl, h5, h6⟩ | ⟨h5, h6⟩
  · simp only [h2, decide_true, decide_false, Bool.true_and, Bool.and_true, Bool.false_and, Bool.and_false, Bool.not_true, Bool.not_false, Bool.or_true, Bool.true_or, Bool.or_false, Bool.false_or, List.isEmpty_nil, List.isEmpty_cons]; (rw [callT_eq Tryd.func21 rfl fok21 (by simp [Tryd.ntmps21])]; simp (disch := first | omega | (simp only [List.length_append, List.length_map, List.length_set, List.length_cons, List.length_nil, List.length_take, List.length_drop, rows64_len, rows32_len]; omega)) only [va0, va1, va2, va3, va4, va5, va6, va7, va8, va9, va10, va11, va12, va13, va14, va15, vb0, vb1, vb2, vb3, w_i8, w_u8, w_i16, w_u16, w_i32, w_u32, w_i64, w_u64, lt_T, lt_F, le_T, le_F, nlt_T, nlt_F, nle_T, nle_F, List.take_of_length_le, gB, gcW, gcR, posIn, renA, renL, Chunk.ren, Chunk.refs, evOpD, touchD, stepC, isFresh, nFresh, freshOf, mkR, hole, evL, evH, opd, get, putD, ofVal, cellOf, loadE, behind, lenE, idxAddrE, idxE, addPtr, intE, strE, unE, convE, AV.int, AV.bool, AV.str, ivs, take, frameOf, firstRegion, refsA, refsL, one, cellsA, floatOk, apartT, List.map, if_true, if_false, E_P, E_glob0, reduceCtorEq, beq_self_eq_true, decide_true, decide_false, ↓reduceIte, Nat.reduceEqDiff, cond_true, cond_false, or_true, true_or, or_false, false_or, and_true, true_and, and_self, false_and, and_false, not_true, not_false_iff, Nat.reduceAdd, Nat.reduceSub, Nat.reduceMul, Nat.reduceLT, Nat.reduceLeDiff, Int.reduceToNat, Int.reduceLT, Int.reduceLE, Option.getD, Int.reduceMul, Int.reduceAdd, List.drop, List.take, Nat.reduceBEq, List.isEmpty, Int.reduceEq, Int.reduceNe, Int.reduceNeg, Int.reduceGT, Int.reduceGE, beq_true, beq_false, UInt8.reduceToNat, eqE, eq_self, foldE, maxE, minE, eq_T, eq_F, ndec, odec, adec, sdec, fillA, over, chop, List.replicate, leavesOk, leafOk, cellsEq, cellEq, E_byref, en21, bs29, bs49, ik29, rows64_len, rows32_len, h2, List.length_nil, List.any_nil, h2]; exact ⟨_, rfl⟩)
  · simp only [h2, decide_true, decide_false, Bool.true_and, Bool.and_true, Bool.false_and, Bool.and_false, Bool.not_true, Bool.not_false, Bool.or_true, Bool.true_or, Bool.or_false, Bool.false_or, List.isEmpty_nil, List.isEmpty_cons]; (rw [callT_eq Tryd.func21 rfl fok21 (by simp [Tryd.ntmps21])]; simp (disch := first | omega | (simp only [List.length_append, List.length_map, List.length_set, List.length_cons, List.length_nil, List.length_take, List.length_drop, rows64_len, rows32_len]; omega)) only [va0, va1, va2, va3, va4, va5, va6, va7, va8, va9, va10, va11, va12, va13, va14, va15, vb0, vb1, vb2, vb3, w_i8, w_u8, w_i16, w_u16, w_i32, w_u32, w_i64, w_u64, lt_T, lt_F, le_T, le_F, nlt_T, nlt_F, nle_T, nle_F, List.take_of_length_le, gB, gcW, gcR, posIn, renA, renL, Chunk.ren, Chunk.refs, evOpD, touchD, stepC, isFresh, nFresh, freshOf, mkR, hole, evL, evH, opd, get, putD, ofVal, cellOf, loadE, behind, lenE, idxAddrE, idxE, addPtr, intE, strE, unE, convE, AV.int, AV.bool, AV.str, ivs, take, frameOf, firstRegion, refsA, refsL, one, cellsA, floatOk, apartT, List.map, if_true, if_false, E_P, E_glob0, reduceCtorEq, beq_self_eq_true, decide_true, decide_false, ↓reduceIte, Nat.reduceEqDiff, cond_true, cond_false, or_true, true_or, or_false, false_or, and_true, true_and, and_self, false_and, and_false, not_true, not_false_iff, Nat.reduceAdd, Nat.reduceSub, Nat.reduceMul, Nat.reduceLT, Nat.reduceLeDiff, Int.reduceToNat, Int.reduceLT, Int.reduceLE, Option.getD, Int.reduceMul, Int.reduceAdd, List.drop, List.take, Nat.reduceBEq, List.isEmpty, Int.reduceEq, Int.reduceNe, Int.reduceNeg, Int.reduceGT, Int.reduceGE, beq_true, beq_false, UInt8.reduceToNat, eqE, eq_self, foldE, maxE, minE, eq_T, eq_F, ndec, odec, adec, sdec, fillA, over, chop, List.replicate, leavesOk, leafOk, cellsEq, cellEq, E_byref, en21, bs29, bs49, ik29, rows64_len, rows32_len, h2, List.length_nil, List.any_nil, h2]; exact ⟨_, rfl⟩)
  · simp only [h5, h6, decide_false, Bool.or_false, Bool.and_false, Bool.not_false, Bool.true_and, List.isEmpty_nil]
    by_cases qr : r = 0
    rotate_left
    · simp only [qr, decide_true, decide_false, Bool.true_and, Bool.and_true, Bool.false_and, Bool.and_false, Bool.not_true, Bool.not_false, Bool.or_true, Bool.true_or, Bool.or_false, Bool.false_or, List.isEmpty_nil, List.isEmpty_cons]; (rw [callT_eq Tryd.func21 rfl fok21 (by simp [Tryd.ntmps21])]; simp (disch := first | omega | (simp only [List.length_append, List.length_map, List.length_set, List.length_cons, List.length_nil, List.length_take, List.length_drop, rows64_len, rows32_len]; omega)) only [va0, va1, va2, va3, va4, va5, va6, va7, va8, va9, va10, va11, va12, va13, va14, va15, vb0, vb1, vb2, vb3, w_i8, w_u8, w_i16, w_u16, w_i32, w_u32, w_i64, w_u64, lt_T, lt_F, le_T, le_F, nlt_T, nlt_F, nle_T, nle_F, List.take_of_length_le, gB, gcW, gcR, posIn, renA, renL, Chunk.ren, Chunk.refs, evOpD, touchD, stepC, isFresh, nFresh, freshOf, mkR, hole, evL, evH, opd, get, putD, ofVal, cellOf, loadE, behind, lenE, idxAddrE, idxE, addPtr, intE, strE, unE, convE, AV.int, AV.bool, AV.str, ivs, take, frameOf, firstRegion, refsA, refsL, one, cellsA, floatOk, apartT, List.map, if_true, if_false, E_P, E_glob0, reduceCtorEq, beq_self_eq_true, decide_true, decide_false, ↓reduceIte, Nat.reduceEqDiff, cond_true, cond_false, or_true, true_or, or_false, false_or, and_true, true_and, and_self, false_and, and_false, not_true, not_false_iff, Nat.reduceAdd, Nat.reduceSub, Nat.reduceMul, Nat.reduceLT, Nat.reduceLeDiff, Int.reduceToNat, Int.reduceLT, Int.reduceLE, Option.getD, Int.reduceMul, Int.reduceAdd, List.drop, List.take, Nat.reduceBEq, List.isEmpty, Int.reduceEq, Int.reduceNe, Int.reduceNeg, Int.reduceGT, Int.reduceGE, beq_true, beq_false, UInt8.reduceToNat, eqE, eq_self, foldE, maxE, minE, eq_T, eq_F, ndec, odec, adec, sdec, fillA, over, chop, List.replicate, leavesOk, leafOk, cellsEq, cellEq, E_byref, en21, bs29, bs49, ik29, rows64_len, rows32_len, h2, h3, h4, h5, h6, qr]; exact ⟨_, rfl⟩)
    subst qr
    by_cases qv : v = 0
    rotate_left
    · simp only [qv, decide_true, decide_false, Bool.true_and, Bool.and_true, Bool.false_and, Bool.and_false, Bool.not_true, Bool.not_false, Bool.or_true, Bool.true_or, Bool.or_false, Bool.false_or, List.isEmpty_nil, List.isEmpty_cons]; (rw [callT_eq Tryd.func21 rfl fok21 (by simp [Tryd.ntmps21])]; simp (disch := first | omega | (simp only [List.length_append, List.length_map, List.length_set, List.length_cons, List.length_nil, List.length_take, List.length_drop, rows64_len, rows32_len]; omega)) only [va0, va1, va2, va3, va4, va5, va6, va7, va8, va9, va10, va11, va12, va13, va14, va15, vb0, vb1, vb2, vb3, w_i8, w_u8, w_i16, w_u16, w_i32, w_u32, w_i64, w_u64, lt_T, lt_F, le_T, le_F, nlt_T, nlt_F, nle_T, nle_F, List.take_of_length_le, gB, gcW, gcR, posIn, renA, renL, Chunk.ren, Chunk.refs, evOpD, touchD, stepC, isFresh, nFresh, freshOf, mkR, hole, evL, evH, opd, get, putD, ofVal, cellOf, loadE, behind, lenE, idxAddrE, idxE, addPtr, intE, strE, unE, convE, AV.int, AV.bool, AV.str, ivs, take, frameOf, firstRegion, refsA, refsL, one, cellsA, floatOk, apartT, List.map, if_true, if_false, E_P, E_glob0, reduceCtorEq, beq_self_eq_true, decide_true, decide_false, ↓reduceIte, Nat.reduceEqDiff, cond_true, cond_false, or_true, true_or, or_false, false_or, and_true, true_and, and_self, false_and, and_false, not_true, not_false_iff, Nat.reduceAdd, Nat.reduceSub, Nat.reduceMul, Nat.reduceLT, Nat.reduceLeDiff, Int.reduceToNat, Int.reduceLT, Int.reduceLE, Option.getD, Int.reduceMul, Int.reduceAdd, List.drop, List.take, Nat.reduceBEq, List.isEmpty, Int.reduceEq, Int.reduceNe, Int.reduceNeg, Int.reduceGT, Int.reduceGE, beq_true, beq_false, UInt8.reduceToNat, eqE, eq_self, foldE, maxE, minE, eq_T, eq_F, ndec, odec, adec, sdec, fillA, over, chop, List.replicate, leavesOk, leafOk, cellsEq, cellEq, E_byref, en21, bs29, bs49, ik29, rows64_len, rows32_len, h2, h3, h4, h5, h6, qv]; exact ⟨_, rfl⟩)
    subst qv
    cases t with
    | cons t0 t => simp only [List.length_cons, decide_true, decide_false, Bool.true_and, Bool.and_true, Bool.false_and, Bool.and_false, Bool.not_true, Bool.not_false, Bool.or_true, Bool.true_or, Bool.or_false, Bool.false_or, List.isEmpty_nil, List.isEmpty_cons]; (rw [callT_eq Tryd.func21 rfl fok21 (by simp [Tryd.ntmps21])]; simp (disch := first | omega | (simp only [List.length_append, List.length_map, List.length_set, List.length_cons, List.length_nil, List.length_take, List.length_drop, rows64_len, rows32_len]; omega)) only [va0, va1, va2, va3, va4, va5, va6, va7, va8, va9, va10, va11, va12, va13, va14, va15, vb0, vb1, vb2, vb3, w_i8, w_u8, w_i16, w_u16, w_i32, w_u32, w_i64, w_u64, lt_T, lt_F, le_T, le_F, nlt_T, nlt_F, nle_T, nle_F, List.take_of_length_le, gB, gcW, gcR, posIn, renA, renL, Chunk.ren, Chunk.refs, evOpD, touchD, stepC, isFresh, nFresh, freshOf, mkR, hole, evL, evH, opd, get, putD, ofVal, cellOf, loadE, behind, lenE, idxAddrE, idxE, addPtr, intE, strE, unE, convE, AV.int, AV.bool, AV.str, ivs, take, frameOf, firstRegion, refsA, refsL, one, cellsA, floatOk, apartT, List.map, if_true, if_false, E_P, E_glob0, reduceCtorEq, beq_self_eq_true, decide_true, decide_false, ↓reduceIte, Nat.reduceEqDiff, cond_true, cond_false, or_true, true_or, or_false, false_or, and_true, true_and, and_self, false_and, and_false, not_true, not_false_iff, Nat.reduceAdd, Nat.reduceSub, Nat.reduceMul, Nat.reduceLT, Nat.reduceLeDiff, Int.reduceToNat, Int.reduceLT, Int.reduceLE, Option.getD, Int.reduceMul, Int.reduceAdd, List.drop, List.take, Nat.reduceBEq, List.isEmpty, Int.reduceEq, Int.reduceNe, Int.reduceNeg, Int.reduceGT, Int.reduceGE, beq_true, beq_false, UInt8.reduceToNat, eqE, eq_self, foldE, maxE, minE, eq_T, eq_F, ndec, odec, adec, sdec, fillA, over, chop, List.replicate, leavesOk, leafOk, cellsEq, cellEq, E_byref, en21, bs29, bs49, ik29, rows64_len, rows32_len, h2, h3, h4, h5, h6, List.length_cons]; exact ⟨_, rfl⟩)
    | nil =>
      cases ps with
      | cons p0 ps => simp only [List.length_cons, decide_true, decide_false, Bool.true_and, Bool.and_true, Bool.false_and, Bool.and_false, Bool.not_true, Bool.not_false, Bool.or_true, Bool.true_or, Bool.or_false, Bool.false_or, List.isEmpty_nil, List.isEmpty_cons]; (rw [callT_eq Tryd.func21 rfl fok21 (by simp [Tryd.ntmps21])]; simp (disch := first | omega | (simp only [List.length_append, List.length_map, List.length_set, List.length_cons, List.length_nil, List.length_take, List.length_drop, rows64_len, rows32_len]; omega)) only [va0, va1, va2, va3, va4, va5, va6, va7, va8, va9, va10, va11, va12, va13, va14, va15, vb0, vb1, vb2, vb3, w_i8, w_u8, w_i16, w_u16, w_i32, w_u32, w_i64, w_u64, lt_T, lt_F, le_T, le_F, nlt_T, nlt_F, nle_T, nle_F, List.take_of_length_le, gB, gcW, gcR, posIn, renA, renL, Chunk.ren, Chunk.refs, evOpD, touchD, stepC, isFresh, nFresh, freshOf, mkR, hole, evL, evH, opd, get, putD, ofVal, cellOf, loadE, behind, lenE, idxAddrE, idxE, addPtr, intE, strE, unE, convE, AV.int, AV.bool, AV.str, ivs, take, frameOf, firstRegion, refsA, refsL, one, cellsA, floatOk, apartT, List.map, if_true, if_false, E_P, E_glob0, reduceCtorEq, beq_self_eq_true, decide_true, decide_false, ↓reduceIte, Nat.reduceEqDiff, cond_true, cond_false, or_true, true_or, or_false, false_or, and_true, true_and, and_self, false_and, and_false, not_true, not_false_iff, Nat.reduceAdd, Nat.reduceSub, Nat.reduceMul, Nat.reduceLT, Nat.reduceLeDiff, Int.reduceToNat, Int.reduceLT, Int.reduceLE, Option.getD, Int.reduceMul, Int.reduceAdd, List.drop, List.take, Nat.reduceBEq, List.isEmpty, Int.reduceEq, Int.reduceNe, Int.reduceNeg, Int.reduceGT, Int.reduceGE, beq_true, beq_false, UInt8.reduceToNat, eqE, eq_self, foldE, maxE, minE, eq_T, eq_F, ndec, odec, adec, sdec, fillA, over, chop, List.replicate, leavesOk, leafOk, cellsEq, cellEq, E_byref, en21, bs29, bs49, ik29, rows64_len, rows32_len, h2, h3, h4, h5, h6, rows64, List.length_cons]; exact ⟨_, rfl⟩)
      | nil => simp only [List.length_nil, decide_true, decide_false, Bool.true_and, Bool.and_true, Bool.false_and, Bool.and_false, Bool.not_true, Bool.not_false, Bool.or_true, Bool.true_or, Bool.or_false, Bool.false_or, List.isEmpty_nil, List.isEmpty_cons]; (rw [callT_eq Tryd.func21 rfl fok21 (by simp [Tryd.ntmps21])]; simp (disch := first | omega | (simp only [List.length_append, List.length_map, List.length_set, List.length_cons, List.length_nil, List.length_take, List.length_drop, rows64_len, rows32_len]; omega)) only [va0, va1, va2, va3, va4, va5, va6, va7, va8, va9, va10, va11, va12, va13, va14, va15, vb0, vb1, vb2, vb3, w_i8, w_u8, w_i16, w_u16, w_i32, w_u32, w_i64, w_u64, lt_T, lt_F, le_T, le_F, nlt_T, nlt_F, nle_T, nle_F, List.take_of_length_le, gB, gcW, gcR, posIn, renA, renL, Chunk.ren, Chunk.refs, evOpD, touchD, stepC, isFresh, nFresh, freshOf, mkR, hole, evL, evH, opd, get, putD, ofVal, cellOf, loadE, behind, lenE, idxAddrE, idxE, addPtr, intE, strE, unE, convE, AV.int, AV.bool, AV.str, ivs, take, frameOf, firstRegion, refsA, refsL, one, cellsA, floatOk, apartT, List.map, if_true, if_false, E_P, E_glob0, reduceCtorEq, beq_self_eq_true, decide_true, decide_false, ↓reduceIte, Nat.reduceEqDiff, cond_true, cond_false, or_true, true_or, or_false, false_or, and_true, true_and, and_self, false_and, and_false, not_true, not_false_iff, Nat.reduceAdd, Nat.reduceSub, Nat.reduceMul, Nat.reduceLT, Nat.reduceLeDiff, Int.reduceToNat, Int.reduceLT, Int.reduceLE, Option.getD, Int.reduceMul, Int.reduceAdd, List.drop, List.take, Nat.reduceBEq, List.isEmpty, Int.reduceEq, Int.reduceNe, Int.reduceNeg, Int.reduceGT, Int.reduceGE, beq_true, beq_false, UInt8.reduceToNat, eqE, eq_self, foldE, maxE, minE, eq_T, eq_F, ndec, odec, adec, sdec, fillA, over, chop, List.replicate, leavesOk, leafOk, cellsEq, cellEq, E_byref, en21, bs29, bs49, ik29, rows64_len, rows32_len, h2, h3, h4, h5, h6, rows64, List.length_nil]; exact ⟨_, rfl⟩)
  · simp only [decide_false, Bool.false_and, Bool.not_false, Bool.true_and, h6]
    by_cases qr : r = 0
    rotate_left
    · simp only [qr, decide_true, decide_false, Bool.true_and, Bool.and_true, Bool.false_and, Bool.and_false, Bool.not_true, Bool.not_false, Bool.or_true, Bool.true_or, Bool.or_false, Bool.false_or, List.isEmpty_nil, List.isEmpty_cons]; (rw [callT_eq Tryd.func21 rfl fok21 (by simp [Tryd.ntmps21])]; simp (disch := first | omega | (simp only [List.length_append, List.length_map, List.length_set, List.length_cons, List.length_nil, List.length_take, List.length_drop, rows64_len, rows32_len]; omega)) only [va0, va1, va2, va3, va4, va5, va6, va7, va8, va9, va10, va11, va12, va13, va14, va15, vb0, vb1, vb2, vb3, w_i8, w_u8, w_i16, w_u16, w_i32, w_u32, w_i64, w_u64, lt_T, lt_F, le_T, le_F, nlt_T, nlt_F, nle_T, nle_F, List.take_of_length_le, gB, gcW, gcR, posIn, renA, renL, Chunk.ren, Chunk.refs, evOpD, touchD, stepC, isFresh, nFresh, freshOf, mkR, hole, evL, evH, opd, get, putD, ofVal, cellOf, loadE, behind, lenE, idxAddrE, idxE, addPtr, intE, strE, unE, convE, AV.int, AV.bool, AV.str, ivs, take, frameOf, firstRegion, refsA, refsL, one, cellsA, floatOk, apartT, List.map, if_true, if_false, E_P, E_glob0, reduceCtorEq, beq_self_eq_true, decide_true, decide_false, ↓reduceIte, Nat.reduceEqDiff, cond_true, cond_false, or_true, true_or, or_false, false_or, and_true, true_and, and_self, false_and, and_false, not_true, not_false_iff, Nat.reduceAdd, Nat.reduceSub, Nat.reduceMul, Nat.reduceLT, Nat.reduceLeDiff, Int.reduceToNat, Int.reduceLT, Int.reduceLE, Option.getD, Int.reduceMul, Int.reduceAdd, List.drop, List.take, Nat.reduceBEq, List.isEmpty, Int.reduceEq, Int.reduceNe, Int.reduceNeg, Int.reduceGT, Int.reduceGE, beq_true, beq_false, UInt8.reduceToNat, eqE, eq_self, foldE, maxE, minE, eq_T, eq_F, ndec, odec, adec, sdec, fillA, over, chop, List.replicate, leavesOk, leafOk, cellsEq, cellEq, E_byref, en21, bs29, bs49, ik29, rows64_len, rows32_len, h1', h2, h3, h4, h5, qr]; exact ⟨_, rfl⟩)
    subst qr
    by_cases qv : v = 0
    rotate_left
    · simp only [qv, decide_true, decide_false, Bool.true_and, Bool.and_true, Bool.false_and, Bool.and_false, Bool.not_true, Bool.not_false, Bool.or_true, Bool.true_or, Bool.or_false, Bool.false_or, List.isEmpty_nil, List.isEmpty_cons]; (rw [callT_eq Tryd.func21 rfl fok21 (by simp [Tryd.ntmps21])]; simp (disch := first | omega | (simp only [List.length_append, List.length_map, List.length_set, List.length_cons, List.length_nil, List.length_take, List.length_drop, rows64_len, rows32_len]; omega)) only [va0, va1, va2, va3, va4, va5, va6, va7, va8, va9, va10, va11, va12, va13, va14, va15, vb0, vb1, vb2, vb3, w_i8, w_u8, w_i16, w_u16, w_i32, w_u32, w_i64, w_u64, lt_T, lt_F, le_T, le_F, nlt_T, nlt_F, nle_T, nle_F, List.take_of_length_le, gB, gcW, gcR, posIn, renA, renL, Chunk.ren, Chunk.refs, evOpD, touchD, stepC, isFresh, nFresh, freshOf, mkR, hole, evL, evH, opd, get, putD, ofVal, cellOf, loadE, behind, lenE, idxAddrE, idxE, addPtr, intE, strE, unE, convE, AV.int, AV.bool, AV.str, ivs, take, frameOf, firstRegion, refsA, refsL, one, cellsA, floatOk, apartT, List.map, if_true, if_false, E_P, E_glob0, reduceCtorEq, beq_self_eq_true, decide_true, decide_false, ↓reduceIte, Nat.reduceEqDiff, cond_true, cond_false, or_true, true_or, or_false, false_or, and_true, true_and, and_self, false_and, and_false, not_true, not_false_iff, Nat.reduceAdd, Nat.reduceSub, Nat.reduceMul, Nat.reduceLT, Nat.reduceLeDiff, Int.reduceToNat, Int.reduceLT, Int.reduceLE, Option.getD, Int.reduceMul, Int.reduceAdd, List.drop, List.take, Nat.reduceBEq, List.isEmpty, Int.reduceEq, Int.reduceNe, Int.reduceNeg, Int.reduceGT, Int.reduceGE, beq_true, beq_false, UInt8.reduceToNat, eqE, eq_self, foldE, maxE, minE, eq_T, eq_F, ndec, odec, adec, sdec, fillA, over, chop, List.replicate, leavesOk, leafOk, cellsEq, cellEq, E_byref, en21, bs29, bs49, ik29, rows64_len, rows32_len, h1', h2, h3, h4, h5, qv]; exact ⟨_, rfl⟩)
    subst qv
    cases t with
    | cons t0 t => simp only [List.length_cons, decide_true, decide_false, Bool.true_and, Bool.and_true, Bool.false_and, Bool.and_false, Bool.not_true, Bool.not_false, Bool.or_true, Bool.true_or, Bool.or_false, Bool.false_or, List.isEmpty_nil, List.isEmpty_cons]; (rw [callT_eq Tryd.func21 rfl fok21 (by simp [Tryd.ntmps21])]; simp (disch := first | omega | (simp only [List.length_append, List.length_map, List.length_set, List.length_cons, List.length_nil, List.length_take, List.length_drop, rows64_len, rows32_len]; omega)) only [va0, va1, va2, va3, va4, va5, va6, va7, va8, va9, va10, va11, va12, va13, va14, va15, vb0, vb1, vb2, vb3, w_i8, w_u8, w_i16, w_u16, w_i32, w_u32, w_i64, w_u64, lt_T, lt_F, le_T, le_F, nlt_T, nlt_F, nle_T, nle_F, List.take_of_length_le, gB, gcW, gcR, posIn, renA, renL, Chunk.ren, Chunk.refs, evOpD, touchD, stepC, isFresh, nFresh, freshOf, mkR, hole, evL, evH, opd, get, putD, ofVal, cellOf, loadE, behind, lenE, idxAddrE, idxE, addPtr, intE, strE, unE, convE, AV.int, AV.bool, AV.str, ivs, take, frameOf, firstRegion, refsA, refsL, one, cellsA, floatOk, apartT, List.map, if_true, if_false, E_P, E_glob0, reduceCtorEq, beq_self_eq_true, decide_true, decide_false, ↓reduceIte, Nat.reduceEqDiff, cond_true, cond_false, or_true, true_or, or_false, false_or, and_true, true_and, and_self, false_and, and_false, not_true, not_false_iff, Nat.reduceAdd, Nat.reduceSub, Nat.reduceMul, Nat.reduceLT, Nat.reduceLeDiff, Int.reduceToNat, Int.reduceLT, Int.reduceLE, Option.getD, Int.reduceMul, Int.reduceAdd, List.drop, List.take, Nat.reduceBEq, List.isEmpty, Int.reduceEq, Int.reduceNe, Int.reduceNeg, Int.reduceGT, Int.reduceGE, beq_true, beq_false, UInt8.reduceToNat, eqE, eq_self, foldE, maxE, minE, eq_T, eq_F, ndec, odec, adec, sdec, fillA, over, chop, List.replicate, leavesOk, leafOk, cellsEq, cellEq, E_byref, en21, bs29, bs49, ik29, rows64_len, rows32_len, h1', h2, h3, h4, h5, List.length_cons]; exact ⟨_, rfl⟩)
    | nil =>
      cases ps with
      | cons p0 ps => simp only [List.length_cons, decide_true, decide_false, Bool.true_and, Bool.and_true, Bool.false_and, Bool.and_false, Bool.not_true, Bool.not_false, Bool.or_true, Bool.true_or, Bool.or_false, Bool.false_or, List.isEmpty_nil, List.isEmpty_cons]; (rw [callT_eq Tryd.func21 rfl fok21 (by simp [Tryd.ntmps21])]; simp (disch := first | omega | (simp only [List.length_append, List.length_map, List.length_set, List.length_cons, List.length_nil, List.length_take, List.length_drop, rows64_len, rows32_len]; omega)) only [va0, va1, va2, va3, va4, va5, va6, va7, va8, va9, va10, va11, va12, va13, va14, va15, vb0, vb1, vb2, vb3, w_i8, w_u8, w_i16, w_u16, w_i32, w_u32, w_i64, w_u64, lt_T, lt_F, le_T, le_F, nlt_T, nlt_F, nle_T, nle_F, List.take_of_length_le, gB, gcW, gcR, posIn, renA, renL, Chunk.ren, Chunk.refs, evOpD, touchD, stepC, isFresh, nFresh, freshOf, mkR, hole, evL, evH, opd, get, putD, ofVal, cellOf, loadE, behind, lenE, idxAddrE, idxE, addPtr, intE, strE, unE, convE, AV.int, AV.bool, AV.str, ivs, take, frameOf, firstRegion, refsA, refsL, one, cellsA, floatOk, apartT, List.map, if_true, if_false, E_P, E_glob0, reduceCtorEq, beq_self_eq_true, decide_true, decide_false, ↓reduceIte, Nat.reduceEqDiff, cond_true, cond_false, or_true, true_or, or_false, false_or, and_true, true_and, and_self, false_and, and_false, not_true, not_false_iff, Nat.reduceAdd, Nat.reduceSub, Nat.reduceMul, Nat.reduceLT, Nat.reduceLeDiff, Int.reduceToNat, Int.reduceLT, Int.reduceLE, Option.getD, Int.reduceMul, Int.reduceAdd, List.drop, List.take, Nat.reduceBEq, List.isEmpty, Int.reduceEq, Int.reduceNe, Int.reduceNeg, Int.reduceGT, Int.reduceGE, beq_true, beq_false, UInt8.reduceToNat, eqE, eq_self, foldE, maxE, minE, eq_T, eq_F, ndec, odec, adec, sdec, fillA, over, chop, List.replicate, leavesOk, leafOk, cellsEq, cellEq, E_byref, en21, bs29, bs49, ik29, rows64_len, rows32_len, h1', h2, h3, h4, h5, rows64, List.length_cons]; exact ⟨_, rfl⟩)
      | nil => simp only [List.length_nil, decide_true, decide_false, Bool.true_and, Bool.and_true, Bool.false_and, Bool.and_false, Bool.not_true, Bool.not_false, Bool.or_true, Bool.true_or, Bool.or_false, Bool.false_or, List.isEmpty_nil, List.isEmpty_cons]; (rw [callT_eq Tryd.func21 rfl fok21 (by simp [Tryd.ntmps21])]; simp (disch := first | omega | (simp only [List.length_append, List.length_map, List.length_set, List.length_cons, List.length_nil, List.length_take, List.length_drop, rows64_len, rows32_len]; omega)) only [va0, va1, va2, va3, va4, va5, va6, va7, va8, va9, va10, va11, va12, va13, va14, va15, vb0, vb1, vb2, vb3, w_i8, w_u8, w_i16, w_u16, w_i32, w_u32, w_i64, w_u64, lt_T, lt_F, le_T, le_F, nlt_T, nlt_F, nle_T, nle_F, List.take_of_length_le, gB, gcW, gcR, posIn, renA, renL, Chunk.ren, Chunk.refs, evOpD, touchD, stepC, isFresh, nFresh, freshOf, mkR, hole, evL, evH, opd, get, putD, ofVal, cellOf, loadE, behind, lenE, idxAddrE, idxE, addPtr, intE, strE, unE, convE, AV.int, AV.bool, AV.str, ivs, take, frameOf, firstRegion, refsA, refsL, one, cellsA, floatOk, apartT, List.map, if_true, if_false, E_P, E_glob0, reduceCtorEq, beq_self_eq_true, decide_true, decide_false, ↓reduceIte, Nat.reduceEqDiff, cond_true, cond_false, or_true, true_or, or_false, false_or, and_true, true_and, and_self, false_and, and_false, not_true, not_false_iff, Nat.reduceAdd, Nat.reduceSub, Nat.reduceMul, Nat.reduceLT, Nat.reduceLeDiff, Int.reduceToNat, Int.reduceLT, Int.reduceLE, Option.getD, Int.reduceMul, Int.reduceAdd, List.drop, List.take, Nat.reduceBEq, List.isEmpty, Int.reduceEq, Int.reduceNe, Int.reduceNeg, Int.reduceGT, Int.reduceGE, beq_true, beq_false, UInt8.reduceToNat, eqE, eq_self, foldE, maxE, minE, eq_T, eq_F, ndec, odec, adec, sdec, fillA, over, chop, List.replicate, leavesOk, leafOk, cellsEq, cellEq, E_byref, en21, bs29, bs49, ik29, rows64_len, rows32_len, h1', h2, h3, h4, h5, rows64, List.length_nil]; exact ⟨_, rfl⟩)
end Go.VI

namespace Go.VI
open Go.Proofs
set_option maxRecDepth 100000
set_option linter.unusedSimpArgs false
set_option linter.unusedVariables false
set_option maxHeartbeats 4000000
theorem c21_4 (r c v : Int) (i : List UInt8) (ps : List Int) (t : List UInt8) (hF : ∀ H, isoK E (callT E) 23 [.i (.v (.int .u8 v)), .i (.sl 1 (rows64 ps) false), .i (.str i)] H = some (fmtA (fmtS v ps i), H)) :
    ∃ L, callT E 21 [evA ⟨4, r, c, v, i, ps, t⟩] [] = some (.i (.v (.bool (rightQ ⟨4, r, c, v, i, ps, t⟩))), L) := by
  rw [evA_eq]
  unfold rightQ
  simp only []
  unfold fmtA at hF
  generalize fmtS v ps i = q at *
  by_cases h1 : q.2 = 0
  rotate_left
  · simp only [h1, decide_true, decide_false, Bool.true_and, Bool.and_true, Bool.false_and, Bool.and_false, Bool.not_true, Bool.not_false, Bool.or_true, Bool.true_or, Bool.or_false, Bool.false_or, List.isEmpty_nil, List.isEmpty_cons]; (rw [callT_eq Tryd.func21 rfl fok21 (by simp [Tryd.ntmps21])]; simp (disch := first | omega | (simp only [List.length_append, List.length_map, List.length_set, List.length_cons, List.length_nil, List.length_take, List.length_drop, rows64_len, rows32_len]; omega)) only [va0, va1, va2, va3, va4, va5, va6, va7, va8, va9, va10, va11, va12, va13, va14, va15, vb0, vb1, vb2, vb3, w_i8, w_u8, w_i16, w_u16, w_i32, w_u32, w_i64, w_u64, lt_T, lt_F, le_T, le_F, nlt_T, nlt_F, nle_T, nle_F, List.take_of_length_le, gB, gcW, gcR, posIn, renA, renL, Chunk.ren, Chunk.refs, evOpD, touchD, stepC, isFresh, nFresh, freshOf, mkR, hole, evL, evH, opd, get, putD, ofVal, cellOf, loadE, behind, lenE, idxAddrE, idxE, addPtr, intE, strE, unE, convE, AV.int, AV.bool, AV.str, ivs, take, frameOf, firstRegion, refsA, refsL, one, cellsA, floatOk, apartT, List.map, if_true, if_false, E_P, E_glob0, reduceCtorEq, beq_self_eq_true, decide_true, decide_false, ↓reduceIte, Nat.reduceEqDiff, cond_true, cond_false, or_true, true_or, or_false, false_or, and_true, true_and, and_self, false_and, and_false, not_true, not_false_iff, Nat.reduceAdd, Nat.reduceSub, Nat.reduceMul, Nat.reduceLT, Nat.reduceLeDiff, Int.reduceToNat, Int.reduceLT, Int.reduceLE, Option.getD, Int.reduceMul, Int.reduceAdd, List.drop, List.take, Nat.reduceBEq, List.isEmpty, Int.reduceEq, Int.reduceNe, Int.reduceNeg, Int.reduceGT, Int.reduceGE, beq_true, beq_false, UInt8.reduceToNat, eqE, eq_self, foldE, maxE, minE, eq_T, eq_F, ndec, odec, adec, sdec, fillA, over, chop, List.replicate, leavesOk, leafOk, cellsEq, cellEq, E_byref, en21, bs29, bs49, ik29, rows64_len, rows32_len, hF, h1]; exact ⟨_, rfl⟩)
  simp only [h1, decide_true, Bool.true_and]
  by_cases h2 : c < 64
  · simp only [h2, decide_true, decide_false, Bool.true_and, Bool.and_true, Bool.false_and, Bool.and_false, Bool.not_true, Bool.not_false, Bool.or_true, Bool.true_or, Bool.or_false, Bool.false_or, List.isEmpty_nil, List.isEmpty_cons]; (rw [callT_eq Tryd.func21 rfl fok21 (by simp [Tryd.ntmps21])]; simp (disch := first | omega | (simp only [List.length_append, List.length_map, List.length_set, List.length_cons, List.length_nil, List.length_take, List.length_drop, rows64_len, rows32_len]; omega)) only [va0, va1, va2, va3, va4, va5, va6, va7, va8, va9, va10, va11, va12, va13, va14, va15, vb0, vb1, vb2, vb3, w_i8, w_u8, w_i16, w_u16, w_i32, w_u32, w_i64, w_u64, lt_T, lt_F, le_T, le_F, nlt_T, nlt_F, nle_T, nle_F, List.take_of_length_le, gB, gcW, gcR, posIn, renA, renL, Chunk.ren, Chunk.refs, evOpD, touchD, stepC, isFresh, nFresh, freshOf, mkR, hole, evL, evH, opd, get, putD, ofVal, cellOf, loadE, behind, lenE, idxAddrE, idxE, addPtr, intE, strE, unE, convE, AV.int, AV.bool, AV.str, ivs, take, frameOf, firstRegion, refsA, refsL, one, cellsA, floatOk, apartT, List.map, if_true, if_false, E_P, E_glob0, reduceCtorEq, beq_self_eq_true, decide_true, decide_false, ↓reduceIte, Nat.reduceEqDiff, cond_true, cond_false, or_true, true_or, or_false, false_or, and_true, true_and, and_self, false_and, and_false, not_true, not_false_iff, Nat.reduceAdd, Nat.reduceSub, Nat.reduceMul, Nat.reduceLT, Nat.reduceLeDiff, Int.reduceToNat, Int.reduceLT, Int.reduceLE, Option.getD, Int.reduceMul, Int.reduceAdd, List.drop, List.take, Nat.reduceBEq, List.isEmpty, Int.reduceEq, Int.reduceNe, Int.reduceNeg, Int.reduceGT, Int.reduceGE, beq_true, beq_false, UInt8.reduceToNat, eqE, eq_self, foldE, maxE, minE, eq_T, eq_F, ndec, odec, adec, sdec, fillA, over, chop, List.replicate, leavesOk, leafOk, cellsEq, cellEq, E_byref, en21, bs29, bs49, ik29, rows64_len, rows32_len, hF, h1, h2]; exact ⟨_, rfl⟩)
  by_cases h3 : 126 < c
  · simp only [h3, decide_true, decide_false, Bool.true_and, Bool.and_true, Bool.false_and, Bool.and_false, Bool.not_true, Bool.not_false, Bool.or_true, Bool.true_or, Bool.or_false, Bool.false_or, List.isEmpty_nil, List.isEmpty_cons]; (rw [callT_eq Tryd.func21 rfl fok21 (by simp [Tryd.ntmps21])]; simp (disch := first | omega | (simp only [List.length_append, List.length_map, List.length_set, List.length_cons, List.length_nil, List.length_take, List.length_drop, rows64_len, rows32_len]; omega)) only [va0, va1, va2, va3, va4, va5, va6, va7, va8, va9, va10, va11, va12, va13, va14, va15, vb0, vb1, vb2, vb3, w_i8, w_u8, w_i16, w_u16, w_i32, w_u32, w_i64, w_u64, lt_T, lt_F, le_T, le_F, nlt_T, nlt_F, nle_T, nle_F, List.take_of_length_le, gB, gcW, gcR, posIn, renA, renL, Chunk.ren, Chunk.refs, evOpD, touchD, stepC, isFresh, nFresh, freshOf, mkR, hole, evL, evH, opd, get, putD, ofVal, cellOf, loadE, behind, lenE, idxAddrE, idxE, addPtr, intE, strE, unE, convE, AV.int, AV.bool, AV.str, ivs, take, frameOf, firstRegion, refsA, refsL, one, cellsA, floatOk, apartT, List.map, if_true, if_false, E_P, E_glob0, reduceCtorEq, beq_self_eq_true, decide_true, decide_false, ↓reduceIte, Nat.reduceEqDiff, cond_true, cond_false, or_true, true_or, or_false, false_or, and_true, true_and, and_self, false_and, and_false, not_true, not_false_iff, Nat.reduceAdd, Nat.reduceSub, Nat.reduceMul, Nat.reduceLT, Nat.reduceLeDiff, Int.reduceToNat, Int.reduceLT, Int.reduceLE, Option.getD, Int.reduceMul, Int.reduceAdd, List.drop, List.take, Nat.reduceBEq, List.isEmpty, Int.reduceEq, Int.reduceNe, Int.reduceNeg, Int.reduceGT, Int.reduceGE, beq_true, beq_false, UInt8.reduceToNat, eqE, eq_self, foldE, maxE, minE, eq_T, eq_F, ndec, odec, adec, sdec, fillA, over, chop, List.replicate, leavesOk, leafOk, cellsEq, cellEq, E_byref, en21, bs29, bs49, ik29, rows64_len, rows32_len, hF, h1, h2, h3]; exact ⟨_, rfl⟩)
  simp only [h2, h3, decide_false, Bool.or_false, Bool.not_false, Bool.true_and]
  by_cases qr : r = 0
  rotate_left
  · simp only [qr, decide_true, decide_false, Bool.true_and, Bool.and_true, Bool.false_and, Bool.and_false, Bool.not_true, Bool.not_false, Bool.or_true, Bool.true_or, Bool.or_false, Bool.false_or, List.isEmpty_nil, List.isEmpty_cons]; (rw [callT_eq Tryd.func21 rfl fok21 (by simp [Tryd.ntmps21])]; simp (disch := first | omega | (simp only [List.length_append, List.length_map, List.length_set, List.length_cons, List.length_nil, List.length_take, List.length_drop, rows64_len, rows32_len]; omega)) only [va0, va1, va2, va3, va4, va5, va6, va7, va8, va9, va10, va11, va12, va13, va14, va15, vb0, vb1, vb2, vb3, w_i8, w_u8, w_i16, w_u16, w_i32, w_u32, w_i64, w_u64, lt_T, lt_F, le_T, le_F, nlt_T, nlt_F, nle_T, nle_F, List.take_of_length_le, gB, gcW, gcR, posIn, renA, renL, Chunk.ren, Chunk.refs, evOpD, touchD, stepC, isFresh, nFresh, freshOf, mkR, hole, evL, evH, opd, get, putD, ofVal, cellOf, loadE, behind, lenE, idxAddrE, idxE, addPtr, intE, strE, unE, convE, AV.int, AV.bool, AV.str, ivs, take, frameOf, firstRegion, refsA, refsL, one, cellsA, floatOk, apartT, List.map, if_true, if_false, E_P, E_glob0, reduceCtorEq, beq_self_eq_true, decide_true, decide_false, ↓reduceIte, Nat.reduceEqDiff, cond_true, cond_false, or_true, true_or, or_false, false_or, and_true, true_and, and_self, false_and, and_false, not_true, not_false_iff, Nat.reduceAdd, Nat.reduceSub, Nat.reduceMul, Nat.reduceLT, Nat.reduceLeDiff, Int.reduceToNat, Int.reduceLT, Int.reduceLE, Option.getD, Int.reduceMul, Int.reduceAdd, List.drop, List.take, Nat.reduceBEq, List.isEmpty, Int.reduceEq, Int.reduceNe, Int.reduceNeg, Int.reduceGT, Int.reduceGE, beq_true, beq_false, UInt8.reduceToNat, eqE, eq_self, foldE, maxE, minE, eq_T, eq_F, ndec, odec, adec, sdec, fillA, over, chop, List.replicate, leavesOk, leafOk, cellsEq, cellEq, E_byref, en21, bs29, bs49, ik29, rows64_len, rows32_len, hF, h1, h2, h3, qr]; exact ⟨_, rfl⟩)
  subst qr
  cases t with
  | cons t0 t => simp only [List.length_cons, decide_true, decide_false, Bool.true_and, Bool.and_true, Bool.false_and, Bool.and_false, Bool.not_true, Bool.not_false, Bool.or_true, Bool.true_or, Bool.or_false, Bool.false_or, List.isEmpty_nil, List.isEmpty_cons]; (rw [callT_eq Tryd.func21 rfl fok21 (by simp [Tryd.ntmps21])]; simp (disch := first | omega | (simp only [List.length_append, List.length_map, List.length_set, List.length_cons, List.length_nil, List.length_take, List.length_drop, rows64_len, rows32_len]; omega)) only [va0, va1, va2, va3, va4, va5, va6, va7, va8, va9, va10, va11, va12, va13, va14, va15, vb0, vb1, vb2, vb3, w_i8, w_u8, w_i16, w_u16, w_i32, w_u32, w_i64, w_u64, lt_T, lt_F, le_T, le_F, nlt_T, nlt_F, nle_T, nle_F, List.take_of_length_le, gB, gcW, gcR, posIn, renA, renL, Chunk.ren, Chunk.refs, evOpD, touchD, stepC, isFresh, nFresh, freshOf, mkR, hole, evL, evH, opd, get, putD, ofVal, cellOf, loadE, behind, lenE, idxAddrE, idxE, addPtr, intE, strE, unE, convE, AV.int, AV.bool, AV.str, ivs, take, frameOf, firstRegion, refsA, refsL, one, cellsA, floatOk, apartT, List.map, if_true, if_false, E_P, E_glob0, reduceCtorEq, beq_self_eq_true, decide_true, decide_false, ↓reduceIte, Nat.reduceEqDiff, cond_true, cond_false, or_true, true_or, or_false, false_or, and_true, true_and, and_self, false_and, and_false, not_true, not_false_iff, Nat.reduceAdd, Nat.reduceSub, Nat.reduceMul, Nat.reduceLT, Nat.reduceLeDiff, Int.reduceToNat, Int.reduceLT, Int.reduceLE, Option.getD, Int.reduceMul, Int.reduceAdd, List.drop, List.take, Nat.reduceBEq, List.isEmpty, Int.reduceEq, Int.reduceNe, Int.reduceNeg, Int.reduceGT, Int.reduceGE, beq_true, beq_false, UInt8.reduceToNat, eqE, eq_self, foldE, maxE, minE, eq_T, eq_F, ndec, odec, adec, sdec, fillA, over, chop, List.replicate, leavesOk, leafOk, cellsEq, cellEq, E_byref, en21, bs29, bs49, ik29, rows64_len, rows32_len, hF, h1, h2, h3, List.length_cons]; exact ⟨_, rfl⟩)
  | nil => simp only [List.length_nil, decide_true, decide_false, Bool.true_and, Bool.and_true, Bool.false_and, Bool.and_false, Bool.not_true, Bool.not_false, Bool.or_true, Bool.true_or, Bool.or_false, Bool.false_or, List.isEmpty_nil, List.isEmpty_cons]; (rw [callT_eq Tryd.func21 rfl fok21 (by simp [Tryd.ntmps21])]; simp (disch := first | omega | (simp only [List.length_append, List.length_map, List.length_set, List.length_cons, List.length_nil, List.length_take, List.length_drop, rows64_len, rows32_len]; omega)) only [va0, va1, va2, va3, va4, va5, va6, va7, va8, va9, va10, va11, va12, va13, va14, va15, vb0, vb1, vb2, vb3, w_i8, w_u8, w_i16, w_u16, w_i32, w_u32, w_i64, w_u64, lt_T, lt_F, le_T, le_F, nlt_T, nlt_F, nle_T, nle_F, List.take_of_length_le, gB, gcW, gcR, posIn, renA, renL, Chunk.ren, Chunk.refs, evOpD, touchD, stepC, isFresh, nFresh, freshOf, mkR, hole, evL, evH, opd, get, putD, ofVal, cellOf, loadE, behind, lenE, idxAddrE, idxE, addPtr, intE, strE, unE, convE, AV.int, AV.bool, AV.str, ivs, take, frameOf, firstRegion, refsA, refsL, one, cellsA, floatOk, apartT, List.map, if_true, if_false, E_P, E_glob0, reduceCtorEq, beq_self_eq_true, decide_true, decide_false, ↓reduceIte, Nat.reduceEqDiff, cond_true, cond_false, or_true, true_or, or_false, false_or, and_true, true_and, and_self, false_and, and_false, not_true, not_false_iff, Nat.reduceAdd, Nat.reduceSub, Nat.reduceMul, Nat.reduceLT, Nat.reduceLeDiff, Int.reduceToNat, Int.reduceLT, Int.reduceLE, Option.getD, Int.reduceMul, Int.reduceAdd, List.drop, List.take, Nat.reduceBEq, List.isEmpty, Int.reduceEq, Int.reduceNe, Int.reduceNeg, Int.reduceGT, Int.reduceGE, beq_true, beq_false, UInt8.reduceToNat, eqE, eq_self, foldE, maxE, minE, eq_T, eq_F, ndec, odec, adec, sdec, fillA, over, chop, List.replicate, leavesOk, leafOk, cellsEq, cellEq, E_byref, en21, bs29, bs49, ik29, rows64_len, rows32_len, hF, h1, h2, h3, List.length_nil]; exact ⟨_, rfl⟩)
end Go.VI

namespace Go.VI
open Go.Proofs
set_option maxRecDepth 100000
set_option linter.unusedSimpArgs false
set_option linter.unusedVariables false
set_option maxHeartbeats 4000000
theorem c21_5 (r c v : Int) (i : List UInt8) (ps : List Int) (t : List UInt8) :
    ∃ L, callT E 21 [evA ⟨5, r, c, v, i, ps, t⟩] [] = some (.i (.v (.bool (rightO ⟨5, r, c, v, i, ps, t⟩))), L) := by
  rw [evA_eq]
  unfold rightO
  simp only []
  by_cases h1 : 256 < t.length
  · have h1' : 256 < (t.length : Int) := by omega
    simp only [h1, decide_true, decide_false, Bool.true_and, Bool.and_true, Bool.false_and, Bool.and_false, Bool.not_true, Bool.not_false, Bool.or_true, Bool.true_or, Bool.or_false, Bool.false_or, List.isEmpty_nil, List.isEmpty_cons]; (rw [callT_eq Tryd.func21 rfl fok21 (by simp [Tryd.ntmps21])]; simp (disch := first | omega | (simp only [List.length_append, List.length_map, List.length_set, List.length_cons, List.length_nil, List.length_take, List.length_drop, rows64_len, rows32_len]; omega)) only [va0, va1, va2, va3, va4, va5, va6, va7, va8, va9, va10, va11, va12, va13, va14, va15, vb0, vb1, vb2, vb3, w_i8, w_u8, w_i16, w_u16, w_i32, w_u32, w_i64, w_u64, lt_T, lt_F, le_T, le_F, nlt_T, nlt_F, nle_T, nle_F, List.take_of_length_le, gB, gcW, gcR, posIn, renA, renL, Chunk.ren, Chunk.refs, evOpD, touchD, stepC, isFresh, nFresh, freshOf, mkR, hole, evL, evH, opd, get, putD, ofVal, cellOf, loadE, behind, lenE, idxAddrE, idxE, addPtr, intE, strE, unE, convE, AV.int, AV.bool, AV.str, ivs, take, frameOf, firstRegion, refsA, refsL, one, cellsA, floatOk, apartT, List.map, if_true, if_false, E_P, E_glob0, reduceCtorEq, beq_self_eq_true, decide_true, decide_false, ↓reduceIte, Nat.reduceEqDiff, cond_true, cond_false, or_true, true_or, or_false, false_or, and_true, true_and, and_self, false_and, and_false, not_true, not_false_iff, Nat.reduceAdd, Nat.reduceSub, Nat.reduceMul, Nat.reduceLT, Nat.reduceLeDiff, Int.reduceToNat, Int.reduceLT, Int.reduceLE, Option.getD, Int.reduceMul, Int.reduceAdd, List.drop, List.take, Nat.reduceBEq, List.isEmpty, Int.reduceEq, Int.reduceNe, Int.reduceNeg, Int.reduceGT, Int.reduceGE, beq_true, beq_false, UInt8.reduceToNat, eqE, eq_self, foldE, maxE, minE, eq_T, eq_F, ndec, odec, adec, sdec, fillA, over, chop, List.replicate, leavesOk, leafOk, cellsEq, cellEq, E_byref, en21, bs29, bs49, ik29, rows64_len, rows32_len, h1', h1]; exact ⟨_, rfl⟩)
  have h1' : ¬ 256 < (t.length : Int) := by omega
  cases h2 : t.any (outB 32 255) with
  | true => simp only [h2, decide_true, decide_false, Bool.true_and, Bool.and_true, Bool.false_and, Bool.and_false, Bool.not_true, Bool.not_false, Bool.or_true, Bool.true_or, Bool.or_false, Bool.false_or, List.isEmpty_nil, List.isEmpty_cons]; (rw [callT_eq Tryd.func21 rfl fok21 (by simp [Tryd.ntmps21])]; simp (disch := first | omega | (simp only [List.length_append, List.length_map, List.length_set, List.length_cons, List.length_nil, List.length_take, List.length_drop, rows64_len, rows32_len]; omega)) only [va0, va1, va2, va3, va4, va5, va6, va7, va8, va9, va10, va11, va12, va13, va14, va15, vb0, vb1, vb2, vb3, w_i8, w_u8, w_i16, w_u16, w_i32, w_u32, w_i64, w_u64, lt_T, lt_F, le_T, le_F, nlt_T, nlt_F, nle_T, nle_F, List.take_of_length_le, gB, gcW, gcR, posIn, renA, renL, Chunk.ren, Chunk.refs, evOpD, touchD, stepC, isFresh, nFresh, freshOf, mkR, hole, evL, evH, opd, get, putD, ofVal, cellOf, loadE, behind, lenE, idxAddrE, idxE, addPtr, intE, strE, unE, convE, AV.int, AV.bool, AV.str, ivs, take, frameOf, firstRegion, refsA, refsL, one, cellsA, floatOk, apartT, List.map, if_true, if_false, E_P, E_glob0, reduceCtorEq, beq_self_eq_true, decide_true, decide_false, ↓reduceIte, Nat.reduceEqDiff, cond_true, cond_false, or_true, true_or, or_false, false_or, and_true, true_and, and_self, false_and, and_false, not_true, not_false_iff, Nat.reduceAdd, Nat.reduceSub, Nat.reduceMul, Nat.reduceLT, Nat.reduceLeDiff, Int.reduceToNat, Int.reduceLT, Int.reduceLE, Option.getD, Int.reduceMul, Int.reduceAdd, List.drop, List.take, Nat.reduceBEq, List.isEmpty, Int.reduceEq, Int.reduceNe, Int.reduceNeg, Int.reduceGT, Int.reduceGE, beq_true, beq_false, UInt8.reduceToNat, eqE, eq_self, foldE, maxE, minE, eq_T, eq_F, ndec, odec, adec, sdec, fillA, over, chop, List.replicate, leavesOk, leafOk, cellsEq, cellEq, E_byref, en21, bs29, bs49, ik29, rows64_len, rows32_len, h1, h1', h2]; exact ⟨_, rfl⟩)
  | false =>
  simp only [h1, decide_false, Bool.not_false, Bool.true_and]
  by_cases qr : r = 0
  rotate_left
  · simp only [qr, decide_true, decide_false, Bool.true_and, Bool.and_true, Bool.false_and, Bool.and_false, Bool.not_true, Bool.not_false, Bool.or_true, Bool.true_or, Bool.or_false, Bool.false_or, List.isEmpty_nil, List.isEmpty_cons]; (rw [callT_eq Tryd.func21 rfl fok21 (by simp [Tryd.ntmps21])]; simp (disch := first | omega | (simp only [List.length_append, List.length_map, List.length_set, List.length_cons, List.length_nil, List.length_take, List.length_drop, rows64_len, rows32_len]; omega)) only [va0, va1, va2, va3, va4, va5, va6, va7, va8, va9, va10, va11, va12, va13, va14, va15, vb0, vb1, vb2, vb3, w_i8, w_u8, w_i16, w_u16, w_i32, w_u32, w_i64, w_u64, lt_T, lt_F, le_T, le_F, nlt_T, nlt_F, nle_T, nle_F, List.take_of_length_le, gB, gcW, gcR, posIn, renA, renL, Chunk.ren, Chunk.refs, evOpD, touchD, stepC, isFresh, nFresh, freshOf, mkR, hole, evL, evH, opd, get, putD, ofVal, cellOf, loadE, behind, lenE, idxAddrE, idxE, addPtr, intE, strE, unE, convE, AV.int, AV.bool, AV.str, ivs, take, frameOf, firstRegion, refsA, refsL, one, cellsA, floatOk, apartT, List.map, if_true, if_false, E_P, E_glob0, reduceCtorEq, beq_self_eq_true, decide_true, decide_false, ↓reduceIte, Nat.reduceEqDiff, cond_true, cond_false, or_true, true_or, or_false, false_or, and_true, true_and, and_self, false_and, and_false, not_true, not_false_iff, Nat.reduceAdd, Nat.reduceSub, Nat.reduceMul, Nat.reduceLT, Nat.reduceLeDiff, Int.reduceToNat, Int.reduceLT, Int.reduceLE, Option.getD, Int.reduceMul, Int.reduceAdd, List.drop, List.take, Nat.reduceBEq, List.isEmpty, Int.reduceEq, Int.reduceNe, Int.reduceNeg, Int.reduceGT, Int.reduceGE, beq_true, beq_false, UInt8.reduceToNat, eqE, eq_self, foldE, maxE, minE, eq_T, eq_F, ndec, odec, adec, sdec, fillA, over, chop, List.replicate, leavesOk, leafOk, cellsEq, cellEq, E_byref, en21, bs29, bs49, ik29, rows64_len, rows32_len, h1', h2, qr]; exact ⟨_, rfl⟩)
  subst qr
  by_cases qc : c = 0
  rotate_left
  · simp only [qc, decide_true, decide_false, Bool.true_and, Bool.and_true, Bool.false_and, Bool.and_false, Bool.not_true, Bool.not_false, Bool.or_true, Bool.true_or, Bool.or_false, Bool.false_or, List.isEmpty_nil, List.isEmpty_cons]; (rw [callT_eq Tryd.func21 rfl fok21 (by simp [Tryd.ntmps21])]; simp (disch := first | omega | (simp only [List.length_append, List.length_map, List.length_set, List.length_cons, List.length_nil, List.length_take, List.length_drop, rows64_len, rows32_len]; omega)) only [va0, va1, va2, va3, va4, va5, va6, va7, va8, va9, va10, va11, va12, va13, va14, va15, vb0, vb1, vb2, vb3, w_i8, w_u8, w_i16, w_u16, w_i32, w_u32, w_i64, w_u64, lt_T, lt_F, le_T, le_F, nlt_T, nlt_F, nle_T, nle_F, List.take_of_length_le, gB, gcW, gcR, posIn, renA, renL, Chunk.ren, Chunk.refs, evOpD, touchD, stepC, isFresh, nFresh, freshOf, mkR, hole, evL, evH, opd, get, putD, ofVal, cellOf, loadE, behind, lenE, idxAddrE, idxE, addPtr, intE, strE, unE, convE, AV.int, AV.bool, AV.str, ivs, take, frameOf, firstRegion, refsA, refsL, one, cellsA, floatOk, apartT, List.map, if_true, if_false, E_P, E_glob0, reduceCtorEq, beq_self_eq_true, decide_true, decide_false, ↓reduceIte, Nat.reduceEqDiff, cond_true, cond_false, or_true, true_or, or_false, false_or, and_true, true_and, and_self, false_and, and_false, not_true, not_false_iff, Nat.reduceAdd, Nat.reduceSub, Nat.reduceMul, Nat.reduceLT, Nat.reduceLeDiff, Int.reduceToNat, Int.reduceLT, Int.reduceLE, Option.getD, Int.reduceMul, Int.reduceAdd, List.drop, List.take, Nat.reduceBEq, List.isEmpty, Int.reduceEq, Int.reduceNe, Int.reduceNeg, Int.reduceGT, Int.reduceGE, beq_true, beq_false, UInt8.reduceToNat, eqE, eq_self, foldE, maxE, minE, eq_T, eq_F, ndec, odec, adec, sdec, fillA, over, chop, List.replicate, leavesOk, leafOk, cellsEq, cellEq, E_byref, en21, bs29, bs49, ik29, rows64_len, rows32_len, h1', h2, qc]; exact ⟨_, rfl⟩)
  subst qc
  by_cases qv : v = 0
  rotate_left
  · simp only [qv, decide_true, decide_false, Bool.true_and, Bool.and_true, Bool.false_and, Bool.and_false, Bool.not_true, Bool.not_false, Bool.or_true, Bool.true_or, Bool.or_false, Bool.false_or, List.isEmpty_nil, List.isEmpty_cons]; (rw [callT_eq Tryd.func21 rfl fok21 (by simp [Tryd.ntmps21])]; simp (disch := first | omega | (simp only [List.length_append, List.length_map, List.length_set, List.length_cons, List.length_nil, List.length_take, List.length_drop, rows64_len, rows32_len]; omega)) only [va0, va1, va2, va3, va4, va5, va6, va7, va8, va9, va10, va11, va12, va13, va14, va15, vb0, vb1, vb2, vb3, w_i8, w_u8, w_i16, w_u16, w_i32, w_u32, w_i64, w_u64, lt_T, lt_F, le_T, le_F, nlt_T, nlt_F, nle_T, nle_F, List.take_of_length_le, gB, gcW, gcR, posIn, renA, renL, Chunk.ren, Chunk.refs, evOpD, touchD, stepC, isFresh, nFresh, freshOf, mkR, hole, evL, evH, opd, get, putD, ofVal, cellOf, loadE, behind, lenE, idxAddrE, idxE, addPtr, intE, strE, unE, convE, AV.int, AV.bool, AV.str, ivs, take, frameOf, firstRegion, refsA, refsL, one, cellsA, floatOk, apartT, List.map, if_true, if_false, E_P, E_glob0, reduceCtorEq, beq_self_eq_true, decide_true, decide_false, ↓reduceIte, Nat.reduceEqDiff, cond_true, cond_false, or_true, true_or, or_false, false_or, and_true, true_and, and_self, false_and, and_false, not_true, not_false_iff, Nat.reduceAdd, Nat.reduceSub, Nat.reduceMul, Nat.reduceLT, Nat.reduceLeDiff, Int.reduceToNat, Int.reduceLT, Int.reduceLE, Option.getD, Int.reduceMul, Int.reduceAdd, List.drop, List.take, Nat.reduceBEq, List.isEmpty, Int.reduceEq, Int.reduceNe, Int.reduceNeg, Int.reduceGT, Int.reduceGE, beq_true, beq_false, UInt8.reduceToNat, eqE, eq_self, foldE, maxE, minE, eq_T, eq_F, ndec, odec, adec, sdec, fillA, over, chop, List.replicate, leavesOk, leafOk, cellsEq, cellEq, E_byref, en21, bs29, bs49, ik29, rows64_len, rows32_len, h1', h2, qv]; exact ⟨_, rfl⟩)
  subst qv
  cases i with
  | cons i0 i => simp only [List.length_cons, decide_true, decide_false, Bool.true_and, Bool.and_true, Bool.false_and, Bool.and_false, Bool.not_true, Bool.not_false, Bool.or_true, Bool.true_or, Bool.or_false, Bool.false_or, List.isEmpty_nil, List.isEmpty_cons]; (rw [callT_eq Tryd.func21 rfl fok21 (by simp [Tryd.ntmps21])]; simp (disch := first | omega | (simp only [List.length_append, List.length_map, List.length_set, List.length_cons, List.length_nil, List.length_take, List.length_drop, rows64_len, rows32_len]; omega)) only [va0, va1, va2, va3, va4, va5, va6, va7, va8, va9, va10, va11, va12, va13, va14, va15, vb0, vb1, vb2, vb3, w_i8, w_u8, w_i16, w_u16, w_i32, w_u32, w_i64, w_u64, lt_T, lt_F, le_T, le_F, nlt_T, nlt_F, nle_T, nle_F, List.take_of_length_le, gB, gcW, gcR, posIn, renA, renL, Chunk.ren, Chunk.refs, evOpD, touchD, stepC, isFresh, nFresh, freshOf, mkR, hole, evL, evH, opd, get, putD, ofVal, cellOf, loadE, behind, lenE, idxAddrE, idxE, addPtr, intE, strE, unE, convE, AV.int, AV.bool, AV.str, ivs, take, frameOf, firstRegion, refsA, refsL, one, cellsA, floatOk, apartT, List.map, if_true, if_false, E_P, E_glob0, reduceCtorEq, beq_self_eq_true, decide_true, decide_false, ↓reduceIte, Nat.reduceEqDiff, cond_true, cond_false, or_true, true_or, or_false, false_or, and_true, true_and, and_self, false_and, and_false, not_true, not_false_iff, Nat.reduceAdd, Nat.reduceSub, Nat.reduceMul, Nat.reduceLT, Nat.reduceLeDiff, Int.reduceToNat, Int.reduceLT, Int.reduceLE, Option.getD, Int.reduceMul, Int.reduceAdd, List.drop, List.take, Nat.reduceBEq, List.isEmpty, Int.reduceEq, Int.reduceNe, Int.reduceNeg, Int.reduceGT, Int.reduceGE, beq_true, beq_false, UInt8.reduceToNat, eqE, eq_self, foldE, maxE, minE, eq_T, eq_F, ndec, odec, adec, sdec, fillA, over, chop, List.replicate, leavesOk, leafOk, cellsEq, cellEq, E_byref, en21, bs29, bs49, ik29, rows64_len, rows32_len, h1', h2, List.length_cons]; exact ⟨_, rfl⟩)
  | nil =>
    cases ps with
    | cons p0 ps => simp only [List.length_cons, decide_true, decide_false, Bool.true_and, Bool.and_true, Bool.false_and, Bool.and_false, Bool.not_true, Bool.not_false, Bool.or_true, Bool.true_or, Bool.or_false, Bool.false_or, List.isEmpty_nil, List.isEmpty_cons]; (rw [callT_eq Tryd.func21 rfl fok21 (by simp [Tryd.ntmps21])]; simp (disch := first | omega | (simp only [List.length_append, List.length_map, List.length_set, List.length_cons, List.length_nil, List.length_take, List.length_drop, rows64_len, rows32_len]; omega)) only [va0, va1, va2, va3, va4, va5, va6, va7, va8, va9, va10, va11, va12, va13, va14, va15, vb0, vb1, vb2, vb3, w_i8, w_u8, w_i16, w_u16, w_i32, w_u32, w_i64, w_u64, lt_T, lt_F, le_T, le_F, nlt_T, nlt_F, nle_T, nle_F, List.take_of_length_le, gB, gcW, gcR, posIn, renA, renL, Chunk.ren, Chunk.refs, evOpD, touchD, stepC, isFresh, nFresh, freshOf, mkR, hole, evL, evH, opd, get, putD, ofVal, cellOf, loadE, behind, lenE, idxAddrE, idxE, addPtr, intE, strE, unE, convE, AV.int, AV.bool, AV.str, ivs, take, frameOf, firstRegion, refsA, refsL, one, cellsA, floatOk, apartT, List.map, if_true, if_false, E_P, E_glob0, reduceCtorEq, beq_self_eq_true, decide_true, decide_false, ↓reduceIte, Nat.reduceEqDiff, cond_true, cond_false, or_true, true_or, or_false, false_or, and_true, true_and, and_self, false_and, and_false, not_true, not_false_iff, Nat.reduceAdd, Nat.reduceSub, Nat.reduceMul, Nat.reduceLT, Nat.reduceLeDiff, Int.reduceToNat, Int.reduceLT, Int.reduceLE, Option.getD, Int.reduceMul, Int.reduceAdd, List.drop, List.take, Nat.reduceBEq, List.isEmpty, Int.reduceEq, Int.reduceNe, Int.reduceNeg, Int.reduceGT, Int.reduceGE, beq_true, beq_false, UInt8.reduceToNat, eqE, eq_self, foldE, maxE, minE, eq_T, eq_F, ndec, odec, adec, sdec, fillA, over, chop, List.replicate, leavesOk, leafOk, cellsEq, cellEq, E_byref, en21, bs29, bs49, ik29, rows64_len, rows32_len, h1', h2, rows64, List.length_cons]; exact ⟨_, rfl⟩)
    | nil => simp only [List.length_nil, decide_true, decide_false, Bool.true_and, Bool.and_true, Bool.false_and, Bool.and_false, Bool.not_true, Bool.not_false, Bool.or_true, Bool.true_or, Bool.or_false, Bool.false_or, List.isEmpty_nil, List.isEmpty_cons]; (rw [callT_eq Tryd.func21 rfl fok21 (by simp [Tryd.ntmps21])]; simp (disch := first | omega | (simp only [List.length_append, List.length_map, List.length_set, List.length_cons, List.length_nil, List.length_take, List.length_drop, rows64_len, rows32_len]; omega)) only [va0, va1, va2, va3, va4, va5, va6, va7, va8, va9, va10, va11, va12, va13, va14, va15, vb0, vb1, vb2, vb3, w_i8, w_u8, w_i16, w_u16, w_i32, w_u32, w_i64, w_u64, lt_T, lt_F, le_T, le_F, nlt_T, nlt_F, nle_T, nle_F, List.take_of_length_le, gB, gcW, gcR, posIn, renA, renL, Chunk.ren, Chunk.refs, evOpD, touchD, stepC, isFresh, nFresh, freshOf, mkR, hole, evL, evH, opd, get, putD, ofVal, cellOf, loadE, behind, lenE, idxAddrE, idxE, addPtr, intE, strE, unE, convE, AV.int, AV.bool, AV.str, ivs, take, frameOf, firstRegion, refsA, refsL, one, cellsA, floatOk, apartT, List.map, if_true, if_false, E_P, E_glob0, reduceCtorEq, beq_self_eq_true, decide_true, decide_false, ↓reduceIte, Nat.reduceEqDiff, cond_true, cond_false, or_true, true_or, or_false, false_or, and_true, true_and, and_self, false_and, and_false, not_true, not_false_iff, Nat.reduceAdd, Nat.reduceSub, Nat.reduceMul, Nat.reduceLT, Nat.reduceLeDiff, Int.reduceToNat, Int.reduceLT, Int.reduceLE, Option.getD, Int.reduceMul, Int.reduceAdd, List.drop, List.take, Nat.reduceBEq, List.isEmpty, Int.reduceEq, Int.reduceNe, Int.reduceNeg, Int.reduceGT, Int.reduceGE, beq_true, beq_false, UInt8.reduceToNat, eqE, eq_self, foldE, maxE, minE, eq_T, eq_F, ndec, odec, adec, sdec, fillA, over, chop, List.replicate, leavesOk, leafOk, cellsEq, cellEq, E_byref, en21, bs29, bs49, ik29, rows64_len, rows32_len, h1', h2, rows64, List.length_nil]; exact ⟨_, rfl⟩)
end Go.VI

namespace Go.VI
open Go.Proofs
set_option maxRecDepth 100000
set_option linter.unusedSimpArgs false
set_option linter.unusedVariables false
set_option maxHeartbeats 4000000
def EvR (e : Ev) : Prop := (-2147483648 ≤ e.r ∧ e.r ≤ 2147483647) ∧ (0 ≤ e.c ∧ e.c < 256) ∧ (0 ≤ e.v ∧ e.v < 256)
def FmtOK (e : Ev) : Prop := ∀ H, isoK E (callT E) 23 [.i (.v (.int .u8 e.v)), .i (.sl 1 (rows64 e.ps) false), .i (.str e.i)] H = some (fmtA (fmtS e.v e.ps e.i), H)
def checkS (e : Ev) : Int := if e.k < 1 ∨ 5 < e.k then 9 else if rightS e = true then 0 else 1
theorem c21 (e : Ev) (he : EvR e) (hk : 1 ≤ e.k ∧ e.k ≤ 5) (hF : e.k = 4 → FmtOK e) : ∃ L, callT E 21 [evA e] [] = some (.i (.v (.bool (rightS e))), L) := by
  obtain ⟨k, r, c, v, i, ps, t⟩ := e
  have : k = 1 ∨ k = 2 ∨ k = 3 ∨ k = 4 ∨ k = 5 := by simp only at hk; omega
  rcases this with rfl | rfl | rfl | rfl | rfl
  · exact c21_1 r he.1 c v i ps t
  · exact c21_2 r c v i ps t
  · exact c21_3 r c v i ps t
  · exact c21_4 r c v i ps t (hF rfl)
  · exact c21_5 r c v i ps t
theorem ik21 (e : Ev) (he : EvR e) (hk : 1 ≤ e.k ∧ e.k ≤ 5) (hF : e.k = 4 → FmtOK e) (H : Hp) : isoK E (callT E) 21 [.agg [.i (.v (.int .i64 e.k)), .i (.v (.int .i32 e.r)), .i (.v (.int .u8 e.c)), .i (.v (.int .u8 e.v)), .i (.str e.i), .i (.sl 1 (rows64 e.ps) false), .i (.str e.t)]] H = some (.i (.v (.bool (rightS e))), H) := isoK_val rfl rfl rfl (c21 e he hk hF)
theorem c11 (e : Ev) (he : EvR e) (hF : e.k = 4 → FmtOK e) : ∃ L, callT E 11 [evA e] [] = some (.i (.v (.int .i64 (checkS e))), L) := by
  rw [evA_eq]
  unfold checkS
  by_cases h1 : e.k < 1
  · rw [if_pos (.inl h1)]
    rw [callT_eq Tryd.func11 rfl fok11 (by simp [Tryd.ntmps11])]
    simp (disch := first | omega | (simp only [List.length_append, List.length_map, List.length_set, List.length_cons, List.length_nil, List.length_take, List.length_drop]; omega)) only [va0, va1, va2, va3, va4, va5, va6, va7, va8, va9, va10, va11, va12, va13, va14, va15, vb0, vb1, vb2, vb3, w_i8, w_u8, w_i16, w_u16, w_i32, w_u32, w_i64, w_u64, lt_T, lt_F, le_T, le_F, nlt_T, nlt_F, nle_T, nle_F, List.take_of_length_le, gB, gcW, gcR, posIn, renA, renL, Chunk.ren, Chunk.refs, evOpD, touchD, stepC, isFresh, nFresh, freshOf, mkR, hole, evL, evH, opd, get, putD, ofVal, cellOf, loadE, behind, lenE, idxAddrE, idxE, addPtr, intE, strE, unE, convE, AV.int, AV.bool, AV.str, ivs, take, frameOf, firstRegion, refsA, refsL, one, cellsA, floatOk, apartT, List.map, if_true, if_false, E_P, E_glob0, reduceCtorEq, beq_self_eq_true, decide_true, decide_false, ↓reduceIte, Nat.reduceEqDiff, cond_true, cond_false, or_true, true_or, or_false, false_or, and_true, true_and, and_self, false_and, and_false, not_true, not_false_iff, Nat.reduceAdd, Nat.reduceSub, Nat.reduceMul, Nat.reduceLT, Nat.reduceLeDiff, Int.reduceToNat, Int.reduceLT, Int.reduceLE, Option.getD, Int.reduceMul, Int.reduceAdd, List.drop, List.take, Nat.reduceBEq, List.isEmpty, Int.reduceEq, Int.reduceNe, Int.reduceNeg, Int.reduceGT, Int.reduceGE, beq_true, beq_false, UInt8.reduceToNat, eqE, eq_self, foldE, maxE, minE, eq_T, eq_F, ndec, odec, adec, sdec, fillA, over, chop, List.replicate, leavesOk, leafOk, cellsEq, cellEq, E_byref, en11, h1]
    exact ⟨_, rfl⟩
  by_cases h2 : 5 < e.k
  · rw [if_pos (.inr h2)]
    rw [callT_eq Tryd.func11 rfl fok11 (by simp [Tryd.ntmps11])]
    simp (disch := first | omega | (simp only [List.length_append, List.length_map, List.length_set, List.length_cons, List.length_nil, List.length_take, List.length_drop]; omega)) only [va0, va1, va2, va3, va4, va5, va6, va7, va8, va9, va10, va11, va12, va13, va14, va15, vb0, vb1, vb2, vb3, w_i8, w_u8, w_i16, w_u16, w_i32, w_u32, w_i64, w_u64, lt_T, lt_F, le_T, le_F, nlt_T, nlt_F, nle_T, nle_F, List.take_of_length_le, gB, gcW, gcR, posIn, renA, renL, Chunk.ren, Chunk.refs, evOpD, touchD, stepC, isFresh, nFresh, freshOf, mkR, hole, evL, evH, opd, get, putD, ofVal, cellOf, loadE, behind, lenE, idxAddrE, idxE, addPtr, intE, strE, unE, convE, AV.int, AV.bool, AV.str, ivs, take, frameOf, firstRegion, refsA, refsL, one, cellsA, floatOk, apartT, List.map, if_true, if_false, E_P, E_glob0, reduceCtorEq, beq_self_eq_true, decide_true, decide_false, ↓reduceIte, Nat.reduceEqDiff, cond_true, cond_false, or_true, true_or, or_false, false_or, and_true, true_and, and_self, false_and, and_false, not_true, not_false_iff, Nat.reduceAdd, Nat.reduceSub, Nat.reduceMul, Nat.reduceLT, Nat.reduceLeDiff, Int.reduceToNat, Int.reduceLT, Int.reduceLE, Option.getD, Int.reduceMul, Int.reduceAdd, List.drop, List.take, Nat.reduceBEq, List.isEmpty, Int.reduceEq, Int.reduceNe, Int.reduceNeg, Int.reduceGT, Int.reduceGE, beq_true, beq_false, UInt8.reduceToNat, eqE, eq_self, foldE, maxE, minE, eq_T, eq_F, ndec, odec, adec, sdec, fillA, over, chop, List.replicate, leavesOk, leafOk, cellsEq, cellEq, E_byref, en11, h1, h2]
    exact ⟨_, rfl⟩
  rw [if_neg (by omega)]
  have hik := fun H => ik21 e he (by omega) hF H
  cases hr : rightS e with
  | true =>
    rw [if_pos rfl]
    rw [hr] at hik
    rw [callT_eq Tryd.func11 rfl fok11 (by simp [Tryd.ntmps11])]
    simp (disch := first | omega | (simp only [List.length_append, List.length_map, List.length_set, List.length_cons, List.length_nil, List.length_take, List.length_drop]; omega)) only [va0, va1, va2, va3, va4, va5, va6, va7, va8, va9, va10, va11, va12, va13, va14, va15, vb0, vb1, vb2, vb3, w_i8, w_u8, w_i16, w_u16, w_i32, w_u32, w_i64, w_u64, lt_T, lt_F, le_T, le_F, nlt_T, nlt_F, nle_T, nle_F, List.take_of_length_le, gB, gcW, gcR, posIn, renA, renL, Chunk.ren, Chunk.refs, evOpD, touchD, stepC, isFresh, nFresh, freshOf, mkR, hole, evL, evH, opd, get, putD, ofVal, cellOf, loadE, behind, lenE, idxAddrE, idxE, addPtr, intE, strE, unE, convE, AV.int, AV.bool, AV.str, ivs, take, frameOf, firstRegion, refsA, refsL, one, cellsA, floatOk, apartT, List.map, if_true, if_false, E_P, E_glob0, reduceCtorEq, beq_self_eq_true, decide_true, decide_false, ↓reduceIte, Nat.reduceEqDiff, cond_true, cond_false, or_true, true_or, or_false, false_or, and_true, true_and, and_self, false_and, and_false, not_true, not_false_iff, Nat.reduceAdd, Nat.reduceSub, Nat.reduceMul, Nat.reduceLT, Nat.reduceLeDiff, Int.reduceToNat, Int.reduceLT, Int.reduceLE, Option.getD, Int.reduceMul, Int.reduceAdd, List.drop, List.take, Nat.reduceBEq, List.isEmpty, Int.reduceEq, Int.reduceNe, Int.reduceNeg, Int.reduceGT, Int.reduceGE, beq_true, beq_false, UInt8.reduceToNat, eqE, eq_self, foldE, maxE, minE, eq_T, eq_F, ndec, odec, adec, sdec, fillA, over, chop, List.replicate, leavesOk, leafOk, cellsEq, cellEq, E_byref, en11, h1, h2, hik]
    exact ⟨_, rfl⟩
  | false =>
    rw [if_neg (by simp)]
    rw [hr] at hik
    rw [callT_eq Tryd.func11 rfl fok11 (by simp [Tryd.ntmps11])]
    simp (disch := first | omega | (simp only [List.length_append, List.length_map, List.length_set, List.length_cons, List.length_nil, List.length_take, List.length_drop]; omega)) only [va0, va1, va2, va3, va4, va5, va6, va7, va8, va9, va10, va11, va12, va13, va14, va15, vb0, vb1, vb2, vb3, w_i8, w_u8, w_i16, w_u16, w_i32, w_u32, w_i64, w_u64, lt_T, lt_F, le_T, le_F, nlt_T, nlt_F, nle_T, nle_F, List.take_of_length_le, gB, gcW, gcR, posIn, renA, renL, Chunk.ren, Chunk.refs, evOpD, touchD, stepC, isFresh, nFresh, freshOf, mkR, hole, evL, evH, opd, get, putD, ofVal, cellOf, loadE, behind, lenE, idxAddrE, idxE, addPtr, intE, strE, unE, convE, AV.int, AV.bool, AV.str, ivs, take, frameOf, firstRegion, refsA, refsL, one, cellsA, floatOk, apartT, List.map, if_true, if_false, E_P, E_glob0, reduceCtorEq, beq_self_eq_true, decide_true, decide_false, ↓reduceIte, Nat.reduceEqDiff, cond_true, cond_false, or_true, true_or, or_false, false_or, and_true, true_and, and_self, false_and, and_false, not_true, not_false_iff, Nat.reduceAdd, Nat.reduceSub, Nat.reduceMul, Nat.reduceLT, Nat.reduceLeDiff, Int.reduceToNat, Int.reduceLT, Int.reduceLE, Option.getD, Int.reduceMul, Int.reduceAdd, List.drop, List.take, Nat.reduceBEq, List.isEmpty, Int.reduceEq, Int.reduceNe, Int.reduceNeg, Int.reduceGT, Int.reduceGE, beq_true, beq_false, UInt8.reduceToNat, eqE, eq_self, foldE, maxE, minE, eq_T, eq_F, ndec, odec, adec, sdec, fillA, over, chop, List.replicate, leavesOk, leafOk, cellsEq, cellEq, E_byref, en11, h1, h2, hik]
    exact ⟨_, rfl⟩
theorem ik11 (e : Ev) (he : EvR e) (hF : e.k = 4 → FmtOK e) (H : Hp) : isoK E (callT E) 11 [.agg [.i (.v (.int .i64 e.k)), .i (.v (.int .i32 e.r)), .i (.v (.int .u8 e.c)), .i (.v (.int .u8 e.v)), .i (.str e.i), .i (.sl 1 (rows64 e.ps) false), .i (.str e.t)]] H = some (.i (.v (.int .i64 (checkS e))), H) := isoK_val rfl rfl rfl (c11 e he hF)
end Go.VI

namespace Go.VI
open Go.Proofs
set_option maxRecDepth 100000
set_option linter.unusedSimpArgs false
set_option linter.unusedVariables false
set_option maxHeartbeats 4000000
def pB (b : UInt8) : Bool := decide (48 ≤ b.toNat) && decide (b.toNat ≤ 57) || b.toNat == 59
theorem pB_step (l : List Int) (n : Int) (b : UInt8) : pB b = (stepP l n b.toNat).isSome := by
  have h := b.toNat_lt
  unfold stepP pB
  by_cases h1 : b.toNat = 59
  · simp [h1]
  · rw [if_neg (by omega)]
    by_cases h2 : b.toNat < 48
    · rw [if_pos (by omega)]; simp [h1]; omega
    · rw [if_neg (by omega)]
      by_cases h3 : 57 < b.toNat
      · rw [if_pos (by omega)]; simp [h1]; omega
      · rw [if_neg (by omega)]; simp; omega
theorem runP_split : ∀ (t : List UInt8) (l : List Int) (n : Int), runP t l n = ((runP (t.takeWhile pB) l n).1, (runP (t.takeWhile pB) l n).2.1, t.dropWhile pB) ∧ (runP (t.takeWhile pB) l n).2.2 = []
  | [], l, n => by simp [runP]
  | b :: r, l, n => by
    have hp := pB_step l n b
    cases h : stepP l n b.toNat with
    | none =>
      rw [h] at hp
      simp only [Option.isSome_none] at hp
      simp [runP, h, hp]
    | some p =>
      rw [h] at hp
      simp only [Option.isSome_some] at hp
      have ih := runP_split r p.1 p.2
      simp only [runP, h, hp, List.takeWhile_cons_of_pos, List.dropWhile_cons_of_pos]
      exact ih
end Go.VI

namespace Go.VI
open Go.Proofs
set_option maxRecDepth 100000
set_option linter.unusedSimpArgs false
set_option linter.unusedVariables false
set_option maxHeartbeats 4000000
theorem tw_take (P : UInt8 → Bool) : ∀ t : List UInt8, t.take (t.takeWhile P).length = t.takeWhile P ∧ t.drop (t.takeWhile P).length = t.dropWhile P
  | [] => by simp
  | b :: r => by
    have ih := tw_take P r
    by_cases h : P b = true
    · simp [List.takeWhile_cons_of_pos h, List.dropWhile_cons_of_pos h, ih]
    · simp [List.takeWhile_cons_of_neg h, List.dropWhile_cons_of_neg h]
theorem tw_all (P : UInt8 → Bool) : ∀ t : List UInt8, (t.takeWhile P).all P = true
  | [] => rfl
  | b :: r => by
    by_cases h : P b = true
    · rw [List.takeWhile_cons_of_pos h, List.all_cons, h, tw_all P r]; rfl
    · rw [List.takeWhile_cons_of_neg h]; rfl
theorem parR_split {t : List UInt8} {l : List Int} {n : Int} (h : runP (t.takeWhile pB) [] (-1) = (l, n, [])) :
    parR t = (if t.takeWhile pB = [] then [] else l ++ [n], t.dropWhile pB) := by
  obtain ⟨h1, _⟩ := runP_split t [] (-1)
  rw [h] at h1
  obtain ⟨h2, h3⟩ := tw_take pB t
  have hl : t.length = (t.takeWhile pB).length + (t.dropWhile pB).length := by rw [← List.length_append, List.takeWhile_append_dropWhile]
  unfold parR
  rw [h1]
  simp only
  by_cases hp : t.takeWhile pB = []
  · rw [if_pos hp, if_neg (by rw [hl, hp]; simp)]
    rw [hp] at h
    simp only [runP, Prod.mk.injEq] at h
    rw [← h.1]
  · rw [if_neg hp, if_pos (by rw [hl]; have := List.length_pos_iff.2 hp; omega)]
end Go.VI

namespace Go.VI
open Go.Proofs
set_option maxRecDepth 100000
set_option linter.unusedSimpArgs false
set_option linter.unusedVariables false
set_option maxHeartbeats 4000000
def InvD (n : Int) (d : List UInt8) : Prop := (n ≤ 9999 → (numB n).length ≤ d.length ∧ ((numB n).length = d.length → numB n = d)) ∧ (n = -1 ∧ d = [] ∨ 0 ≤ n ∧ d ≠ [])
theorem inv_start : InvD (-1) [] := ⟨fun _ => ⟨by simp [numB], fun _ => rfl⟩, .inl ⟨rfl, rfl⟩⟩
theorem inv_step {n : Int} {d : List UInt8} (h : InvD n d) {b : UInt8} (hb : 48 ≤ b.toNat ∧ b.toNat ≤ 57) : InvD (min (10 * max n 0 + ((b.toNat : Int) - 48)) 10000) (d ++ [b]) := by
  obtain ⟨h1, h2⟩ := h
  refine ⟨fun h9 => ?_, .inr ⟨by omega, by simp⟩⟩
  generalize hm : min (10 * max n 0 + ((b.toNat : Int) - 48)) 10000 = m at *
  have e : m = 10 * max n 0 + ((b.toNat : Int) - 48) := by omega
  have hm0 : 0 ≤ m := by omega
  have hn9 : n ≤ 9999 := by omega
  obtain ⟨g1, g2⟩ := h1 hn9
  rw [numB, if_pos hm0]
  by_cases h10 : m.toNat < 10
  · rw [Lib.decDigits, dif_pos h10]
    refine ⟨by simp, fun hl => ?_⟩
    have hd : d = [] := by
      simp only [List.length_append, List.length_cons, List.length_nil] at hl
      exact List.length_eq_zero_iff.1 (by omega)
    subst hd
    have hn : n = -1 := by
      rcases h2 with h | h
      · exact h.1
      · exact absurd rfl h.2
    have : 48 + m.toNat = b.toNat := by omega
    rw [this]
    simp
  · rw [Lib.decDigits, dif_neg h10]
    have hn0 : 0 ≤ n := by omega
    have e1 : m.toNat / 10 = n.toNat := by omega
    have e2 : 48 + m.toNat % 10 = b.toNat := by omega
    have e3 : Lib.decDigits (m.toNat / 10) = numB n := by rw [e1, numB, if_pos hn0]
    rw [e2, e3]
    refine ⟨by simp only [List.length_append, List.length_cons, List.length_nil]; omega, fun hl => ?_⟩
    rw [g2 (by simp only [List.length_append, List.length_cons, List.length_nil] at hl; omega)]
    simp
def Canon (l0 : List Int) (q : List Int) (v : List UInt8) : Prop := ∃ x xs, q = l0 ++ x :: xs ∧ (∀ y ∈ x :: xs, -1 ≤ y) ∧ (x :: xs = [-1] → v = []) ∧
  ((∀ y ∈ x :: xs, y ≤ 9999) → (fmtG true (x :: xs)).length ≤ v.length ∧ ((fmtG true (x :: xs)).length = v.length → fmtG true (x :: xs) = v))
theorem canon : ∀ (w : List UInt8), w.all pB = true → ∀ (l0 : List Int) (n : Int) (d : List UInt8), InvD n d → Canon l0 ((runP w l0 n).1 ++ [(runP w l0 n).2.1]) (d ++ w)
  | [], _, l0, n, d, h => by
    refine ⟨n, [], by simp [runP], ?_, ?_, ?_⟩
    · intro y hy
      simp only [List.mem_singleton] at hy
      subst hy
      rcases h.2 with h | h <;> omega
    · intro e
      simp only [List.cons.injEq, and_true] at e
      rcases h.2 with h | h
      · simp [h.2]
      · omega
    · intro h9
      have := h.1 (h9 n (by simp))
      simpa [fmtG] using this
  | b :: r, ha, l0, n, d, h => by
    simp only [List.all_cons, Bool.and_eq_true] at ha
    obtain ⟨hb, ha⟩ := ha
    by_cases h59 : (b.toNat : Int) = 59
    · have hst : stepP l0 n b.toNat = some (l0 ++ [n], -1) := by rw [stepP, if_pos h59]
      obtain ⟨x, xs, e1, e2, e3, e4⟩ := canon r ha (l0 ++ [n]) (-1) [] inv_start
      simp only [runP, hst]
      refine ⟨n, x :: xs, by rw [e1]; simp, ?_, fun e => by simp at e, ?_⟩
      · intro y hy
        rcases List.mem_cons.1 hy with rfl | hy
        · rcases h.2 with h | h <;> omega
        · exact e2 y hy
      · intro h9
        obtain ⟨f1, f2⟩ := e4 fun y hy => h9 y (List.mem_cons_of_mem _ hy)
        obtain ⟨g1, g2⟩ := h.1 (h9 n (List.mem_cons_self ..))
        have hb59 : b = 59 := UInt8.toNat_inj.1 (by have : (59 : UInt8).toNat = 59 := rfl; omega)
        have ef : fmtG true (n :: x :: xs) = numB n ++ 59 :: fmtG true (x :: xs) := by simp [fmtG]
        rw [ef, hb59]
        simp only [List.nil_append] at f1 f2
        refine ⟨by simp only [List.length_append, List.length_cons]; omega, fun hl => ?_⟩
        simp only [List.length_append, List.length_cons] at hl
        rw [g2 (by omega), f2 (by omega)]
    · have hr : 48 ≤ b.toNat ∧ b.toNat ≤ 57 := by
        simp only [pB, Bool.or_eq_true, Bool.and_eq_true, decide_eq_true_eq, beq_iff_eq] at hb
        omega
      have hst : stepP l0 n b.toNat = some (l0, min (10 * max n 0 + (b.toNat - 48)) 10000) := by rw [stepP, if_neg h59, if_neg (by omega), if_neg (by omega)]
      have ih := canon r ha l0 _ (d ++ [b]) (inv_step h hr)
      simp only [runP, hst]
      rwa [List.append_assoc] at ih
theorem lim9' {l : List Int} {s : List UInt8} (h : limB l s = true) : ∀ n ∈ l, n ≤ 9999 := by
  intro n hn
  simp only [limB, Bool.and_eq_true, Bool.not_eq_true'] at h
  have := List.any_eq_false.1 h.2 n hn
  simpa [over9999] using this
theorem parse_mark {s : List UInt8} : ∃ (pre : List UInt8), s = pre ++ (markP s).2 ∧ pre = (if (markP s).1 = 0 then [] else [UInt8.ofNat (markP s).1.toNat]) ∧ (0 ≤ (markP s).1 ∧ (markP s).1 < 256) ∧ ((markP s).1 = 0 ∨ privB (markP s).1 = true) := by
  cases s with
  | nil => exact ⟨[], rfl, rfl, by simp [markP], .inl rfl⟩
  | cons b r =>
    have hb := b.toNat_lt
    by_cases h : privB b.toNat = true
    · have h0 : (b.toNat : Int) ≠ 0 := by
        intro e
        rw [e] at h
        revert h; decide
      refine ⟨[b], ?_, ?_, ?_, ?_⟩ <;> simp only [markP, h, if_true]
      · rfl
      · rw [if_neg h0]; simp
      · omega
      · exact .inr trivial
    · refine ⟨[], ?_, ?_, ?_, ?_⟩ <;> simp only [markP, h]
      · rfl
      · rfl
      · simp
      · exact .inl rfl
theorem fmt_parse {s : List UInt8} {p : Int} {l : List Int} {i : List UInt8} (h : parseS s = (p, l, i, 0)) : (0 ≤ p ∧ p < 256) ∧ ∃ t, fmtS p l i = (t, 0) ∧ t.length ≤ s.length ∧ (t.length = s.length → t = s) := by
  obtain ⟨pre, e1, e2, hp2, hp⟩ := parse_mark (s := s)
  unfold parseS at h
  split at h
  · simp at h
  rename_i c1
  split at h
  · simp at h
  rename_i c2
  simp only [Prod.mk.injEq, and_true] at h
  obtain ⟨rfl, rfl, rfl⟩ := h
  simp only [Bool.not_eq_false] at c1 c2
  refine ⟨hp2, ?_⟩
  generalize markP s = mk at *
  obtain ⟨p, t⟩ := mk
  dsimp only at *
  obtain ⟨a1, a2⟩ := runP_split t [] (-1)
  have hpar := parR_split (t := t) (l := (runP (t.takeWhile pB) [] (-1)).1) (n := (runP (t.takeWhile pB) [] (-1)).2.1) (by
    rw [← a2])
  have htw : t.takeWhile pB ++ t.dropWhile pB = t := List.takeWhile_append_dropWhile
  have hcan := canon (t.takeWhile pB) (tw_all pB t) [] (-1) [] inv_start
  rw [hpar] at c1 c2 ⊢
  dsimp only at *
  generalize t.takeWhile pB = w at *
  generalize t.dropWhile pB = q at *
  have key : ∀ l' : List Int, l' ≠ [-1] → (∀ y ∈ l', -1 ≤ y) → limB l' q = true → ((fmtG true l').length ≤ w.length ∧ ((fmtG true l').length = w.length → fmtG true l' = w)) →
      ∃ t', fmtS p l' q = (t', 0) ∧ t'.length ≤ s.length ∧ (t'.length = s.length → t' = s) := by
    intro l' k1 k2 k3 k4
    refine ⟨pre ++ fmtG true l' ++ q, ?_, ?_, ?_⟩
    · unfold fmtS
      rw [if_neg, if_neg, if_neg, ← e2]
      · simp [k3]
      · rw [Bool.not_eq_true]
        exact List.any_eq_false.2 fun y hy => by have := k2 y hy; simp [lowB]; omega
      · rintro (⟨h1, h2⟩ | h1 | h1)
        · rcases hp with h | h
          · exact h1 h
          · rw [h2] at h; cases h
        · rw [c1] at h1; cases h1
        · exact k1 h1
    · rw [e1, ← htw]
      simp only [List.length_append]
      omega
    · intro hl
      rw [e1, ← htw] at hl ⊢
      simp only [List.length_append] at hl
      rw [k4.2 (by omega), List.append_assoc]
  by_cases hw : w = []
  · rw [if_pos hw] at c2 ⊢
    exact key [] (by simp) (by simp) c2 (by subst hw; simp [fmtG])
  · rw [if_neg hw] at c2 ⊢
    obtain ⟨x, xs, f1, f2, f3, f4⟩ := hcan
    rw [List.nil_append] at f1 f3 f4
    rw [f1] at c2 ⊢
    exact key _ (fun e => hw (f3 e)) f2 c2 (f4 (lim9' c2))
end Go.VI

namespace Go.VI
open Go.Proofs
set_option maxRecDepth 100000
set_option linter.unusedSimpArgs false
set_option linter.unusedVariables false
set_option maxHeartbeats 4000000
def SqG (s : Sq) : Prop := s.mi = 0 ∨ (128 ≤ s.lo ∧ s.hi ≤ 191 ∧ (s.mi = 1 ∧ 2 ≤ s.v ∧ s.v ≤ 17407 ∧ ¬ (864 ≤ s.v ∧ s.v ≤ 895) ∨
  s.mi = 2 ∧ 0 ≤ s.v ∧ s.v ≤ 271 ∧ (s.v = 0 → 160 ≤ s.lo) ∧ (s.v = 13 → s.hi ≤ 159) ∨ s.mi = 3 ∧ 0 ≤ s.v ∧ s.v ≤ 4 ∧ (s.v = 0 → 144 ≤ s.lo) ∧ (s.v = 4 → s.hi ≤ 143)))
theorem beginS_gall : ∀ n : Nat, n < 256 → ((beginS n).mi = 0 ∨ (128 ≤ (beginS n).lo ∧ (beginS n).hi ≤ 191 ∧ ((beginS n).mi = 1 ∧ 2 ≤ (beginS n).v ∧ (beginS n).v ≤ 17407 ∧ ¬ (864 ≤ (beginS n).v ∧ (beginS n).v ≤ 895) ∨
  (beginS n).mi = 2 ∧ 0 ≤ (beginS n).v ∧ (beginS n).v ≤ 271 ∧ ((beginS n).v = 0 → 160 ≤ (beginS n).lo) ∧ ((beginS n).v = 13 → (beginS n).hi ≤ 159) ∨ (beginS n).mi = 3 ∧ 0 ≤ (beginS n).v ∧ (beginS n).v ≤ 4 ∧ ((beginS n).v = 0 → 144 ≤ (beginS n).lo) ∧ ((beginS n).v = 4 → (beginS n).hi ≤ 143)))) := by decide +kernel
theorem beginS_g {b : Int} (h0 : 0 ≤ b) (h1 : b ≤ 255) : SqG (beginS b) := by
  obtain ⟨n, rfl⟩ := Int.eq_ofNat_of_zero_le h0
  exact beginS_gall n (by omega)
theorem goodR_of {r : Int} (h0 : 0 ≤ r) (h1 : r ≤ 1114111) (h2 : ¬ (55296 ≤ r ∧ r ≤ 57343)) : goodR r = true := by
  simp [goodR, h0, h1]; omega
theorem stepD_new {d : Dec} (h : SqG d.s) (i : Int) {b : Int} (h0 : 0 ≤ b) (h1 : b ≤ 255) : SqG (stepD d i b).s ∧ ∃ l, (stepD d i b).out = d.out ++ l ∧ ∀ c ∈ l, goodR c = true ∧ (c < 128 → c = b) := by
  unfold stepD
  split
  · rename_i hc
    obtain ⟨c1, c2, c3⟩ := hc
    unfold SqG at h ⊢
    refine ⟨by simp only; omega, ?_⟩
    simp only
    split
    · refine ⟨[d.s.v * 64 + b % 64], rfl, ?_⟩
      intro c hc
      rw [List.mem_singleton] at hc
      subst hc
      exact ⟨goodR_of (by omega) (by omega) (by omega), by omega⟩
    · exact ⟨[], by simp, fun c hc => by cases hc⟩
  · refine ⟨beginS_g h0 h1, ?_⟩
    simp only
    have h655 : goodR 65533 = true := by decide
    have key : ∃ l, (if 0 < d.s.mi then d.out ++ [65533] else d.out) = d.out ++ l ∧ ∀ c ∈ l, goodR c = true ∧ (c < 128 → c = b) := by
      split
      · exact ⟨[65533], rfl, fun c hc => by rw [List.mem_singleton] at hc; subst hc; exact ⟨h655, by omega⟩⟩
      · exact ⟨[], by simp, fun c hc => by cases hc⟩
    obtain ⟨l, hl, hl2⟩ := key
    rw [hl]
    split
    · refine ⟨l ++ [b], by simp, ?_⟩
      intro c hc
      rw [List.mem_append, List.mem_singleton] at hc
      rcases hc with hc | rfl
      · exact hl2 c hc
      · exact ⟨goodR_of h0 (by omega) (by omega), fun _ => rfl⟩
    · split
      · refine ⟨l ++ [65533], by simp, ?_⟩
        intro c hc
        rw [List.mem_append, List.mem_singleton] at hc
        rcases hc with hc | rfl
        · exact hl2 c hc
        · exact ⟨h655, by omega⟩
      · exact ⟨l, rfl, hl2⟩
theorem runD_g : ∀ (l : List UInt8) (i : Nat) (d : Dec), SqG d.s → SqG (runD l i d).s
  | [], _, _, h => h
  | b :: l, i, d, h => by
    have := b.toNat_lt
    exact runD_g l (i + 1) _ (stepD_new h i (by omega) (by omega)).1
theorem decOut_new {pe : List UInt8} (h : decOut pe = []) (b : UInt8) : ∀ c ∈ decOut (pe ++ [b]), goodR c = true ∧ (c < 128 → c = b.toNat) := by
  have hb := b.toNat_lt
  have hd : decD (pe ++ [b]) = stepD (decD pe) ((0 + pe.length : Nat)) b.toNat := runD_snoc pe b 0 _
  obtain ⟨_, l, hl, hl2⟩ := stepD_new (runD_g pe 0 ⟨sq0, [], 0⟩ (.inl rfl)) ((0 + pe.length : Nat)) (b := b.toNat) (by omega) (by omega)
  have ho : decOut (pe ++ [b]) = l := by
    unfold decOut
    rw [hd]
    refine hl.trans ?_
    have : (runD pe 0 ⟨sq0, [], 0⟩).out = [] := h
    rw [this, List.nil_append]
  rw [ho]; exact hl2
def goodE (e : Ev) : Prop := EvR e ∧ checkS e = 0
def goodL (l : List Ev) : Prop := ∀ e ∈ l, goodE e
theorem goodL_nil : goodL [] := fun e h => by cases h
theorem goodL_one {e : Ev} (h : goodE e) : goodL [e] := fun x hx => by rw [List.mem_singleton.1 hx]; exact h
theorem goodL_app {a b : List Ev} (h : goodL a) (k : goodL b) : goodL (a ++ b) := fun e he => by
  rcases List.mem_append.1 he with h1 | h1
  · exact h e h1
  · exact k e h1
theorem good_of {e : Ev} (h : EvR e) (hk : 1 ≤ e.k ∧ e.k ≤ 5) (hr : rightS e = true) : goodE e := ⟨h, by unfold checkS; rw [if_neg (by omega), if_pos hr]⟩
theorem good_pr {c : Int} (hg : goodR c = true) (h1 : 32 ≤ c) (h2 : c < 127 ∨ 159 < c) : goodE (prEv c) := by
  have hb : 0 ≤ c ∧ c ≤ 1114111 := by simp [goodR] at hg; omega
  refine good_of ⟨⟨by simp only [prEv]; omega, by simp only [prEv]; omega⟩, by simp [prEv], by simp [prEv]⟩ (by simp [prEv]) ?_
  have e1 : ¬ c < 32 := by omega
  rcases h2 with h2 | h2
  · have e2 : ¬ 127 ≤ c := by omega
    simp only [rightS, prEv, rightP, if_true, hg, e1, e2, decide_false, decide_true, Bool.false_and]; rfl
  · have e2 : ¬ c ≤ 159 := by omega
    simp only [rightS, prEv, rightP, if_true, hg, e1, e2, decide_false, decide_true, Bool.and_false]; rfl
theorem good_ct {b : UInt8} (h1 : (b.toNat : Int) < 32) (h2 : ¬ (b.toNat : Int) = 24) (h3 : ¬ (b.toNat : Int) = 26) (h4 : ¬ (b.toNat : Int) = 27) : goodE (ctEv b) := by
  refine good_of ⟨by simp [ctEv], by simp only [ctEv]; omega, by simp [ctEv]⟩ (by simp [ctEv]) ?_
  have e1 : ¬ 32 ≤ (b.toNat : Int) := by omega
  simp only [rightS, ctEv, rightC, Int.reduceEq, if_false, if_true, e1, h2, h3, h4, decide_false, decide_true]; rfl
theorem good_lost (pe : List UInt8) : goodL (lostS pe) := by
  unfold lostS; split
  · exact goodL_nil
  · exact goodL_one (good_pr (by decide) (by omega) (by omega))
theorem good_plain {p : Ps} (h : decOut p.pe = []) (b : UInt8) : goodL (plainS p b).2 := by
  unfold plainS
  split
  · rename_i hc
    intro e he
    unfold prints at he
    obtain ⟨c, hc2, rfl⟩ := List.mem_map.1 he
    obtain ⟨h1, h2⟩ := List.mem_filter.1 hc2
    obtain ⟨h3, h4⟩ := decOut_new h b c h1
    simp only [okR, Bool.or_eq_true, decide_eq_true_eq] at h2
    have h5 : 0 ≤ c := by simp [goodR] at h3; omega
    exact good_pr h3 (by omega) (by omega)
  · split
    · exact good_lost _
    · split
      · exact good_lost _
      · exact goodL_app (good_lost _) (goodL_one (good_ct (by omega) (by omega) (by omega) (by omega)))
theorem good_common {p : Ps} {b : UInt8} {q : Ps × List Ev} (hq : commonS p b = some q) : goodL q.2 := by
  unfold commonS at hq
  repeat' split at hq
  all_goals first | cases hq | skip
  · exact goodL_nil
  · exact goodL_nil
  · exact goodL_one (good_ct (by omega) (by omega) (by omega) (by omega))
  · exact goodL_nil
  · exact good_plain rfl b
theorem buf_ok {bu : List UInt8} {m : Nat} {hi : Int} (h : bufOK bu m hi = true) : bu.length ≤ m ∧ bu.any (outB 32 hi) = false := by
  simpa [bufOK] using h
theorem good_escaped {p : Ps} (hp : bufOK p.bu 3 47 = true) (b : UInt8) : goodL (escapedS p b).2 := by
  unfold escapedS
  cases hq : commonS p b with
  | some q => exact good_common hq
  | none =>
    have hb := common_none hq
    have hbu := buf_ok hp
    simp only
    split
    · exact goodL_nil
    · rename_i h47
      split
      · exact goodL_nil
      · rename_i h91
        split
        · exact goodL_nil
        · rename_i h93
          simp only
          split
          · rename_i hl
            refine goodL_one (good_of ⟨by simp [escEv], by simp only [escEv]; omega, by simp [escEv]⟩ (by simp [escEv]) ?_)
            have e1 : ¬ 3 ≤ p.bu.length := by omega
            have e2 : ¬ (b.toNat : Int) < 48 := by omega
            have e3 : ¬ 126 < (b.toNat : Int) := by omega
            cases hbb : p.bu with
            | nil =>
              rw [hbb] at h91 h93
              have g1 : ¬ (b.toNat : Int) = 91 := fun h => h91 ⟨rfl, h⟩
              have g2 : ¬ (b.toNat : Int) = 93 := fun h => h93 ⟨rfl, h⟩
              simp only [rightS, escEv, rightE, Int.reduceEq, if_true, if_false, e2, e3, g1, g2, decide_false, decide_true]
              rfl
            | cons x r =>
              rw [hbb] at e1 hbu
              simp only [rightS, escEv, rightE, Int.reduceEq, if_true, if_false, hbu.2, e1, e2, e3, decide_false, decide_true]
              rfl
          · exact goodL_nil
theorem good_sequenced {p : Ps} (b : UInt8) : goodL (sequencedS p b).2 := by
  unfold sequencedS
  cases hq : commonS p b with
  | some q => exact good_common hq
  | none =>
    have hb := common_none hq
    simp only
    split
    · exact goodL_nil
    · simp only
      split
      · exact goodL_nil
      · split
        · rename_i h0
          obtain ⟨pv, l, i, e, hx⟩ : ∃ pv l i e, parseS p.bu = (pv, l, i, e) := ⟨_, _, _, _, rfl⟩
          rw [hx] at h0 ⊢
          simp only at h0
          subst h0
          obtain ⟨hr, t, ht, _⟩ := fmt_parse hx
          refine goodL_one (good_of ⟨by simp [seqEv], by simp only [seqEv]; omega, by simp only [seqEv]; omega⟩ (by simp [seqEv]) ?_)
          have e2 : ¬ (b.toNat : Int) < 64 := by omega
          have e3 : ¬ 126 < (b.toNat : Int) := by omega
          simp only [rightS, seqEv, rightQ, Int.reduceEq, if_true, if_false, ht, e2, e3, decide_false, decide_true]
          rfl
        · exact goodL_nil
theorem good_cmd {bu : List UInt8} (h : bufOK bu 256 255 = true) : goodE (cmdEv bu) := by
  obtain ⟨h1, h2⟩ := buf_ok h
  refine good_of ⟨by simp [cmdEv], by simp [cmdEv], by simp [cmdEv]⟩ (by simp [cmdEv]) ?_
  have e1 : ¬ 256 < bu.length := by omega
  simp only [rightS, cmdEv, rightO, Int.reduceEq, if_true, if_false, h2, e1, decide_false, decide_true]
  rfl
theorem good_commanded {p : Ps} (hp : bufOK p.bu 256 255 = true) (b : UInt8) : goodL (commandedS p b).2 := by
  unfold commandedS
  split
  · exact goodL_one (good_cmd hp)
  · repeat' split
    all_goals exact goodL_nil
theorem good_read {p : Ps} (hp : properS p = true) (b : UInt8) : goodL (readS p b).2 := by
  have hst := proper_st hp
  unfold readS
  split
  · rename_i h0
    unfold properS at hp
    rw [if_pos h0] at hp
    simp only [Bool.and_eq_true, beq_iff_eq, decide_eq_true_eq] at hp
    exact good_plain (List.length_eq_zero_iff.1 hp.1.2) b
  · obtain ⟨st, pe, bu⟩ := p
    dsimp only at hst ⊢
    rename_i h0
    split
    · subst st
      rw [proper_4, Bool.and_eq_true] at hp
      split
      · exact goodL_one (good_cmd hp.2)
      · exact good_escaped (by decide) b
    · split
      · subst st
        rw [proper_1, Bool.and_eq_true] at hp
        exact good_escaped hp.2 b
      · split
        · exact good_sequenced b
        · obtain rfl : st = 3 := by simp only at h0; omega
          rw [proper_3, Bool.and_eq_true] at hp
          exact good_commanded hp.2 b
theorem good_run : ∀ (s : List UInt8) {p : Ps}, properS p = true → goodL (runF s p).2
  | [], p, h => goodL_nil
  | b :: r, p, h => goodL_app (good_read h b) (good_run r (proper_read h b))
end Go.VI

namespace Go.VI
open Go.Proofs
set_option maxRecDepth 100000
set_option linter.unusedSimpArgs false
set_option linter.unusedVariables false
set_option maxHeartbeats 4000000
theorem fmt_ok {p : Int} {l : List Int} {s : List UInt8} (h : (fmtS p l s).2 = 0) : (p = 0 ∨ privB p = true) ∧ trailB s = true ∧ l ≠ [-1] ∧ l.any lowB = false ∧ limB l s = true ∧ (fmtS p l s).1 = (if p = 0 then [] else [UInt8.ofNat p.toNat]) ++ fmtG true l ++ s := by
  unfold fmtS at h ⊢
  split at h
  · cases h
  · rename_i h1
    split at h
    · cases h
    · rename_i h2
      split at h
      · cases h
      · rename_i h3
        rw [if_neg h1, if_neg h2, if_neg h3]
        refine ⟨?_, ?_, fun q => h1 (.inr (.inr q)), by simpa using h2, by simpa using h3, rfl⟩
        · by_cases q : p = 0
          · exact .inl q
          · exact .inr (by
              cases hv : privB p with
              | true => rfl
              | false => exact absurd (.inl ⟨q, hv⟩) h1)
        · cases ht : trailB s with
          | true => rfl
          | false => exact absurd (.inr (.inl ht)) h1
theorem fmt_len {p : Int} {l : List Int} {s : List UInt8} (h : (fmtS p l s).2 = 0) : l.length ≤ 16 ∧ s.length ≤ 2 ∧ (fmtS p l s).1.length ≤ 400 := by
  obtain ⟨_, _, _, _, h5, h6⟩ := fmt_ok h
  have hg := fmtG_len l true (lim9 h5)
  simp only [limB, Bool.and_eq_true, decide_eq_true_eq] at h5
  refine ⟨h5.1.1, h5.1.2, ?_⟩
  rw [h6]
  simp only [List.length_append]
  have : (if p = 0 then ([] : List UInt8) else [UInt8.ofNat p.toNat]).length ≤ 1 := by split <;> simp
  omega
theorem check_len {e : Ev} (h : checkS e = 0) : e.i.length ≤ 2 ∧ e.t.length ≤ 256 ∧ e.ps.length ≤ 16 ∧ (e.k = 4 → (fmtS e.v e.ps e.i).1.length ≤ 400) := by
  unfold checkS at h
  split at h
  · cases h
  rename_i hk
  split at h
  · rename_i hr
    unfold rightS at hr
    have z : ∀ {α : Type} {l : List α}, l.isEmpty = true → l.length = 0 := fun {α l} h => by cases l with | nil => rfl | cons => cases h
    repeat' split at hr
    · simp only [rightP, Bool.and_eq_true] at hr
      have := z hr.2.1.1.2; have := z hr.2.1.2; have := z hr.2.2
      refine ⟨by omega, by omega, by omega, fun h => by omega⟩
    · simp only [rightC, Bool.and_eq_true] at hr
      have := z hr.2.1.1.2; have := z hr.2.1.2; have := z hr.2.2
      refine ⟨by omega, by omega, by omega, fun h => by omega⟩
    · simp only [rightE, Bool.and_eq_true, Bool.not_eq_true', decide_eq_false_iff_not] at hr
      have := z hr.2.1.2; have := z hr.2.2
      refine ⟨by omega, by omega, by omega, fun h => by omega⟩
    · simp only [rightQ, Bool.and_eq_true, decide_eq_true_eq] at hr
      have := z hr.2.2
      have := fmt_len hr.1.1
      refine ⟨by omega, by omega, by omega, fun h => by omega⟩
    · simp only [rightO, Bool.and_eq_true, Bool.not_eq_true', decide_eq_false_iff_not] at hr
      have := z hr.2.1.2; have := z hr.2.2
      refine ⟨by omega, by omega, by omega, fun h => by omega⟩
    · cases hr
  · cases h
end Go.VI

namespace Go.VI
open Go.Proofs
set_option maxRecDepth 100000
set_option linter.unusedSimpArgs false
set_option linter.unusedVariables false
set_option maxHeartbeats 4000000
def fitE (i : List UInt8) (b : UInt8) : Prop := i.length ≤ 2 ∧ i.any (outB 32 47) = false ∧ 48 ≤ (b.toNat : Int) ∧ (b.toNat : Int) ≤ 126 ∧ ¬ (i = [] ∧ (b.toNat : Int) = 91) ∧ ¬ (i = [] ∧ (b.toNat : Int) = 93)
inductive Shape (e : Ev) : Prop
  | pr (r : Int) (h : e = prEv r) (hg : goodR r = true) (h1 : 32 ≤ r) (h2 : r < 127 ∨ 159 < r)
  | ct (b : UInt8) (h : e = ctEv b) (h1 : (b.toNat : Int) < 32) (h2 : ¬ (b.toNat : Int) = 24) (h3 : ¬ (b.toNat : Int) = 26) (h4 : ¬ (b.toNat : Int) = 27)
  | es (i : List UInt8) (b : UInt8) (h : e = escEv i b) (h1 : fitE i b)
  | sq (v : Int) (ps : List Int) (i : List UInt8) (b : UInt8) (h : e = ⟨4, 0, b.toNat, v, i, ps, []⟩) (hv : 0 ≤ v ∧ v < 256) (hf : (fmtS v ps i).2 = 0) (h1 : 64 ≤ (b.toNat : Int)) (h2 : (b.toNat : Int) ≤ 126)
  | cm (t : List UInt8) (h : e = cmdEv t) (h1 : t.length ≤ 256) (h2 : t.any (outB 32 255) = false)
end Go.VI

namespace Go.VI
open Go.Proofs
set_option maxRecDepth 100000
set_option linter.unusedSimpArgs false
set_option linter.unusedVariables false
set_option maxHeartbeats 4000000
def EvL (e : Ev) : Prop := e.i.length ≤ 400 ∧ e.ps.length ≤ 100 ∧ e.t.length ≤ 400
end Go.VI

namespace Go.VI
open Go.Proofs
set_option maxRecDepth 100000
set_option linter.unusedSimpArgs false
set_option linter.unusedVariables false
set_option maxHeartbeats 4000000
theorem rowsEv_at {l : List Ev} {k : Nat} (h : k < l.length) : (rowsEv l)[k]? = some (evC l[k]) := by simp [rowsEv, h]
def largeB (p : Ps) (s : List UInt8) : Bool := decide (400 < (p.pe.length : Int)) || decide (400 < (p.bu.length : Int)) || decide (400 < (s.length : Int))
theorem c8 (p : Ps) (s : List UInt8) : ∃ L, callT E 8 [.agg (psC p), .i (.str s)] [] = some (.i (.v (.bool (largeB p s))), L) := by
  unfold psC largeB
  rw [callT_eq Tryd.func8 rfl fok8 (by simp [Tryd.ntmps8])]
  by_cases h1 : 400 < (p.pe.length : Int) <;> by_cases h2 : 400 < (p.bu.length : Int) <;> by_cases h3 : 400 < (s.length : Int) <;> simp only [h1, h2, h3, decide_true, decide_false, Bool.or_true, Bool.true_or, Bool.or_false] <;> simp (disch := first | omega | (simp only [List.length_append, List.length_map, List.length_set, List.length_cons, List.length_nil, List.length_take, List.length_drop]; omega)) only [va0, va1, va2, va3, va4, va5, va6, va7, va8, va9, va10, va11, va12, va13, va14, va15, vb0, vb1, vb2, vb3, w_i8, w_u8, w_i16, w_u16, w_i32, w_u32, w_i64, w_u64, lt_T, lt_F, le_T, le_F, nlt_T, nlt_F, nle_T, nle_F, List.take_of_length_le, gB, gcW, gcR, posIn, renA, renL, Chunk.ren, Chunk.refs, evOpD, touchD, stepC, isFresh, nFresh, freshOf, mkR, hole, evL, evH, opd, get, putD, ofVal, cellOf, loadE, behind, lenE, idxAddrE, idxE, addPtr, intE, strE, unE, convE, AV.int, AV.bool, AV.str, ivs, take, frameOf, firstRegion, refsA, refsL, one, cellsA, floatOk, apartT, List.map, if_true, if_false, E_P, E_glob0, reduceCtorEq, beq_self_eq_true, decide_true, decide_false, ↓reduceIte, Nat.reduceEqDiff, cond_true, cond_false, or_true, true_or, or_false, false_or, and_true, true_and, and_self, false_and, and_false, not_true, not_false_iff, Nat.reduceAdd, Nat.reduceSub, Nat.reduceMul, Nat.reduceLT, Nat.reduceLeDiff, Int.reduceToNat, Int.reduceLT, Int.reduceLE, Option.getD, Int.reduceMul, Int.reduceAdd, List.drop, List.take, Nat.reduceBEq, List.isEmpty, Int.reduceEq, Int.reduceNe, Int.reduceNeg, Int.reduceGT, Int.reduceGE, beq_true, beq_false, UInt8.reduceToNat, eqE, eq_self, foldE, maxE, minE, eq_T, eq_F, ndec, odec, adec, sdec, fillA, over, chop, List.replicate, leavesOk, leafOk, cellsEq, cellEq, E_byref, en8, h1, h2, h3] <;> exact ⟨_, rfl⟩
theorem ik8 (p : Ps) (s : List UInt8) (H : Hp) : isoK E (callT E) 8 [.agg (psC p), .i (.str s)] H = some (.i (.v (.bool (largeB p s))), H) := isoK_val rfl rfl rfl (c8 p s)
theorem ran_true {f n : Nat} (h : (match call E n f [] [] with | some (.i (.v (.bool true)), _) => true | _ => false) = true) : ∃ L, callT E f [] [] = some (.i (.v (.bool true)), L) := by
  split at h
  · rename_i L hL; exact ⟨L, callT_of hL⟩
  · cases h
theorem ik9 (H : Hp) : isoK E (callT E) 9 [] H = some (.i (.v (.bool true)), H) := isoK_val rfl rfl rfl (ran_true (n := 200) (by kernel_rfl))
theorem small_of {p : Ps} {s : List UInt8} (h : largeB p s = false) : p.pe.length ≤ 400 ∧ p.bu.length ≤ 400 ∧ s.length ≤ 400 := by
  unfold largeB at h
  simp only [Bool.or_eq_false_iff, decide_eq_false_iff_not] at h
  omega
theorem fmt_of {e : Ev} (he : EvR e) (hl : EvL e) : FmtOK e := fun H => ik23 e.v he.2.2 e.ps e.i (by have := hl.2.1; omega) (by have := hl.1; omega) H
end Go.VI

namespace Go.VI
open Go.Proofs
set_option maxRecDepth 100000
set_option linter.unusedSimpArgs false
set_option linter.unusedVariables false
set_option maxHeartbeats 4000000
theorem eqP (a a' : Int) (b b' c c' : List UInt8) : binE Tryd.prog .eql 23 (.agg [.i (.v (.int .i64 a)), .i (.str b), .i (.str c)]) (.agg [.i (.v (.int .i64 a')), .i (.str b'), .i (.str c')]) = some (.i (.v (.bool (decide (a = a') && ((b == b') && (c == c')))))) := by
  simp (disch := first | omega | (simp only [List.length_append, List.length_map, List.length_set, List.length_cons, List.length_nil, List.length_take, List.length_drop]; omega)) only [va0, va1, va2, va3, va4, va5, va6, va7, va8, va9, va10, va11, va12, va13, va14, va15, vb0, vb1, vb2, vb3, w_i8, w_u8, w_i16, w_u16, w_i32, w_u32, w_i64, w_u64, lt_T, lt_F, le_T, le_F, nlt_T, nlt_F, nle_T, nle_F, List.take_of_length_le, gB, gcW, gcR, posIn, renA, renL, Chunk.ren, Chunk.refs, evOpD, touchD, stepC, isFresh, nFresh, freshOf, mkR, hole, evL, evH, opd, get, putD, ofVal, cellOf, loadE, behind, lenE, idxAddrE, idxE, addPtr, intE, strE, unE, convE, AV.int, AV.bool, AV.str, ivs, take, frameOf, firstRegion, refsA, refsL, one, cellsA, floatOk, apartT, List.map, if_true, if_false, E_P, E_glob0, reduceCtorEq, beq_self_eq_true, decide_true, decide_false, ↓reduceIte, Nat.reduceEqDiff, cond_true, cond_false, or_true, true_or, or_false, false_or, and_true, true_and, and_self, false_and, and_false, not_true, not_false_iff, Nat.reduceAdd, Nat.reduceSub, Nat.reduceMul, Nat.reduceLT, Nat.reduceLeDiff, Int.reduceToNat, Int.reduceLT, Int.reduceLE, Option.getD, Int.reduceMul, Int.reduceAdd, List.drop, List.take, Nat.reduceBEq, List.isEmpty, Int.reduceEq, Int.reduceNe, Int.reduceNeg, Int.reduceGT, Int.reduceGE, beq_true, beq_false, UInt8.reduceToNat, eqE, eq_self, foldE, maxE, minE, eq_T, eq_F, ndec, sdec, fillA, over, chop, List.replicate, leavesOk, leafOk, cellsEq, cellEq, E_byref, tyaa, tyab, tyac, tyad, tyae, tyaf, tyag, tyah, tyai, tyaj, tyak, tyal, tyam, bs26, bs29, bs47, bs49, be_aa]
theorem ik10_c (a : Int) (b c s : List UInt8) (hb : b.length < 40000) (hc : c.length < 100000) (hs : (s.length : Int) < 5000) (H : Hp) : isoK E (callT E) 10 [.agg [.i (.v (.int .i64 a)), .i (.str b), .i (.str c)], .i (.str s)] H =
    some (.tup [.agg [.i (.v (.int .i64 (feedS ⟨a, b, c⟩ s).1.st)), .i (.str (feedS ⟨a, b, c⟩ s).1.pe), .i (.str (feedS ⟨a, b, c⟩ s).1.bu)], .i (.sl 7 (rowsEv (feedS ⟨a, b, c⟩ s).2) false)], H) := ik10 ⟨a, b, c⟩ hb hc s hs H
theorem good_len {e : Ev} (h : goodE e) : EvL e := by
  obtain ⟨h1, h2, h3, _⟩ := check_len h.2
  exact ⟨by omega, by omega, by omega⟩
theorem ik11_g (e : Ev) (h : goodE e) (H : Hp) : isoK E (callT E) 11 [.agg [.i (.v (.int .i64 e.k)), .i (.v (.int .i32 e.r)), .i (.v (.int .u8 e.c)), .i (.v (.int .u8 e.v)), .i (.str e.i), .i (.sl 1 (rows64 e.ps) false), .i (.str e.t)]] H = some (.i (.v (.int .i64 0)), H) := by
  have := ik11 e h.1 (fun _ => fmt_of h.1 (good_len h)) H
  rw [h.2] at this
  exact this
theorem l3 (q : Ps) (l : List Ev) (hl : l.length < 100000) (hg : goodL l) (k : Nat) (hk : k ≤ l.length) :
    ∃ fr, rl E 0 3 (loopAt Tryd.f3 0) [(5, .ptr 0 0 0 0), (21, .i (.sl 7 (rowsEv l) false)), (22, .i (.v (.int .i64 l.length))), (23, .i (.v (.int .i64 k)))] [.box [.i (.v (.int .i64 (q).st)), .i (.str (q).pe), .i (.str (q).bu)]] = some (.exit 0, fr, [.box [.i (.v (.int .i64 (q).st)), .i (.str (q).pe), .i (.str (q).bu)]]) ∧ get 5 fr = .ptr 0 0 0 0 := by
  rw [rl_step (fn := Tryd.f3) (k := 0) rfl]
  by_cases hlt : k < l.length
  · have hrow := rowsEv_at hlt
    have hge := hg l[k] (List.getElem_mem _)
    obtain ⟨fr, e, f5⟩ := l3 q l hl hg (k + 1) hlt
    refine ⟨fr, Eq.trans ?_ e, f5⟩
    clear e f5
    generalize l[k] = x at *
    have hik := fun H => ik11_g x hge H
    rw [evC] at hrow
    simp (disch := first | omega | (simp only [List.length_append, List.length_map, List.length_set, List.length_cons, List.length_nil, List.length_take, List.length_drop, rowsEv_len]; omega)) only [va0, va1, va2, va3, va4, va5, va6, va7, va8, va9, va10, va11, va12, va13, va14, va15, vb0, vb1, vb2, vb3, w_i8, w_u8, w_i16, w_u16, w_i32, w_u32, w_i64, w_u64, lt_T, lt_F, le_T, le_F, nlt_T, nlt_F, nle_T, nle_F, List.take_of_length_le, gB, gcW, gcR, posIn, renA, renL, Chunk.ren, Chunk.refs, evOpD, touchD, stepC, isFresh, nFresh, freshOf, mkR, hole, evL, evH, opd, get, putD, ofVal, cellOf, loadE, behind, lenE, idxAddrE, idxE, addPtr, intE, strE, unE, convE, AV.int, AV.bool, AV.str, ivs, take, frameOf, firstRegion, refsA, refsL, one, cellsA, floatOk, apartT, List.map, if_true, if_false, E_P, E_glob0, reduceCtorEq, beq_self_eq_true, decide_true, decide_false, ↓reduceIte, Nat.reduceEqDiff, cond_true, cond_false, or_true, true_or, or_false, false_or, and_true, true_and, and_self, false_and, and_false, not_true, not_false_iff, Nat.reduceAdd, Nat.reduceSub, Nat.reduceMul, Nat.reduceLT, Nat.reduceLeDiff, Int.reduceToNat, Int.reduceLT, Int.reduceLE, Option.getD, Int.reduceMul, Int.reduceAdd, List.drop, List.take, Nat.reduceBEq, List.isEmpty, Int.reduceEq, Int.reduceNe, Int.reduceNeg, Int.reduceGT, Int.reduceGE, beq_true, beq_false, UInt8.reduceToNat, eqE, eq_self, foldE, maxE, minE, eq_T, eq_F, ndec, odec, adec, sdec, fillA, over, chop, List.replicate, leavesOk, leafOk, cellsEq, cellEq, E_byref, en3, bs26, hrow, rowsEv_len, hik, show ∀ B fr H, execT E B 3 (Code.loop _) fr H = rlG E B 3 (loopAt Tryd.f3 0) (gcn B (norm [5, 21, 22, 23] fr) H) from fun B fr H => rl_intro rfl mt3_5 mb3_5 zf3_5 hd3_5 fr H]
  · obtain rfl : k = l.length := by omega
    simp (disch := first | omega | (simp only [List.length_append, List.length_map, List.length_set, List.length_cons, List.length_nil, List.length_take, List.length_drop, rowsEv_len]; omega)) only [va0, va1, va2, va3, va4, va5, va6, va7, va8, va9, va10, va11, va12, va13, va14, va15, vb0, vb1, vb2, vb3, w_i8, w_u8, w_i16, w_u16, w_i32, w_u32, w_i64, w_u64, lt_T, lt_F, le_T, le_F, nlt_T, nlt_F, nle_T, nle_F, List.take_of_length_le, gB, gcW, gcR, posIn, renA, renL, Chunk.ren, Chunk.refs, evOpD, touchD, stepC, isFresh, nFresh, freshOf, mkR, hole, evL, evH, opd, get, putD, ofVal, cellOf, loadE, behind, lenE, idxAddrE, idxE, addPtr, intE, strE, unE, convE, AV.int, AV.bool, AV.str, ivs, take, frameOf, firstRegion, refsA, refsL, one, cellsA, floatOk, apartT, List.map, if_true, if_false, E_P, E_glob0, reduceCtorEq, beq_self_eq_true, decide_true, decide_false, ↓reduceIte, Nat.reduceEqDiff, cond_true, cond_false, or_true, true_or, or_false, false_or, and_true, true_and, and_self, false_and, and_false, not_true, not_false_iff, Nat.reduceAdd, Nat.reduceSub, Nat.reduceMul, Nat.reduceLT, Nat.reduceLeDiff, Int.reduceToNat, Int.reduceLT, Int.reduceLE, Option.getD, Int.reduceMul, Int.reduceAdd, List.drop, List.take, Nat.reduceBEq, List.isEmpty, Int.reduceEq, Int.reduceNe, Int.reduceNeg, Int.reduceGT, Int.reduceGE, beq_true, beq_false, UInt8.reduceToNat, eqE, eq_self, foldE, maxE, minE, eq_T, eq_F, ndec, odec, adec, sdec, fillA, over, chop, List.replicate, leavesOk, leafOk, cellsEq, cellEq, E_byref, en3, bs26, rowsEv_len, show ∀ B fr H, execT E B 3 (Code.loop _) fr H = rlG E B 3 (loopAt Tryd.f3 0) (gcn B (norm [5, 21, 22, 23] fr) H) from fun B fr H => rl_intro rfl mt3_5 mb3_5 zf3_5 hd3_5 fr H]
    exact ⟨_, rfl, rfl⟩
termination_by l.length - k
theorem law3 (a : Int) (b c s : List UInt8) : ∃ L, callT E 3 [.agg (psC ⟨a, b, c⟩), .i (.str s)] [] = some (.i (.v (.bool true)), L) := by
  have hlg := fun H => ik8 ⟨a, b, c⟩ s H 
  cases hl : largeB ⟨a, b, c⟩ s with 
  | true => 
    rw [hl] at hlg 
    unfold psC at * 
    rw [callT_eq Tryd.func3 rfl fok3 (by simp [Tryd.ntmps3])] 
    simp (disch := first | omega | (simp only [List.length_append, List.length_map, List.length_set, List.length_cons, List.length_nil, List.length_take, List.length_drop]; omega)) only [va0, va1, va2, va3, va4, va5, va6, va7, va8, va9, va10, va11, va12, va13, va14, va15, vb0, vb1, vb2, vb3, w_i8, w_u8, w_i16, w_u16, w_i32, w_u32, w_i64, w_u64, lt_T, lt_F, le_T, le_F, nlt_T, nlt_F, nle_T, nle_F, List.take_of_length_le, gB, gcW, gcR, posIn, renA, renL, Chunk.ren, Chunk.refs, evOpD, touchD, stepC, isFresh, nFresh, freshOf, mkR, hole, evL, evH, opd, get, putD, ofVal, cellOf, loadE, behind, lenE, idxAddrE, idxE, addPtr, intE, strE, unE, convE, AV.int, AV.bool, AV.str, ivs, take, frameOf, firstRegion, refsA, refsL, one, cellsA, floatOk, apartT, List.map, if_true, if_false, E_P, E_glob0, reduceCtorEq, beq_self_eq_true, decide_true, decide_false, ↓reduceIte, Nat.reduceEqDiff, cond_true, cond_false, or_true, true_or, or_false, false_or, and_true, true_and, and_self, false_and, and_false, not_true, not_false_iff, Nat.reduceAdd, Nat.reduceSub, Nat.reduceMul, Nat.reduceLT, Nat.reduceLeDiff, Int.reduceToNat, Int.reduceLT, Int.reduceLE, Option.getD, Int.reduceMul, Int.reduceAdd, List.drop, List.take, Nat.reduceBEq, List.isEmpty, Int.reduceEq, Int.reduceNe, Int.reduceNeg, Int.reduceGT, Int.reduceGE, beq_true, beq_false, UInt8.reduceToNat, eqE, eq_self, foldE, maxE, minE, eq_T, eq_F, ndec, odec, adec, sdec, fillA, over, chop, List.replicate, leavesOk, leafOk, cellsEq, cellEq, E_byref, en3, bs26, hlg, ik9] 
    exact ⟨_, rfl⟩ 
  | false => 
    rw [hl] at hlg 
    obtain ⟨h1, h2, h3⟩ := small_of hl 
    dsimp only at h1 h2 
    unfold psC at *
    have hg : goodL (feedS ⟨a, b, c⟩ s).2 := good_run s (proper_start _)
    have m1 := runF_len s (start_ok ⟨a, b, c⟩)
    have hp : properS (feedS ⟨a, b, c⟩ s).1 = true := proper_run s (proper_start _)
    have k1 := fun H => ik10_c a b c s (by omega) (by omega) (by omega) H
    rw [show runF s (startS ⟨a, b, c⟩) = feedS ⟨a, b, c⟩ s from rfl] at m1
    generalize feedS ⟨a, b, c⟩ s = q at *
    obtain ⟨⟨q1, q2, q3⟩, ev⟩ := q
    dsimp only at *
    obtain ⟨⟨m2, m3⟩, m4⟩ := m1
    dsimp only at m2 m3
    have hf2 : feedS ⟨q1, q2, q3⟩ [] = (⟨q1, q2, q3⟩, []) := by unfold feedS; rw [start_of hp]; rfl
    have k2 := fun H => ik10_c q1 q2 q3 [] (by omega) (by omega) (by simp) H
    rw [hf2] at k2
    dsimp only at k2
    have hz : rowsEv [] = [] := rfl
    rw [hz] at k2
    have he := eqP q1 q1 q2 q2 q3 q3
    simp only [decide_true, beq_self_eq_true, Bool.and_self] at he
    have hrl := rowsEv_len ev
    obtain ⟨fr, e, f5⟩ := l3 ⟨q1, q2, q3⟩ ev (by omega) hg 0 (Nat.zero_le _)
    have e' : rl E 0 3 (loopAt Tryd.f3 0) [(5, .ptr 0 0 0 0), (21, .i (.sl 7 (rowsEv ev) false)), (22, .i (.v (.int .i64 ev.length))), (23, .i (.v (.int .i64 0)))] [.box [.i (.v (.int .i64 ((⟨q1, q2, q3⟩ : Ps)).st)), .i (.str ((⟨q1, q2, q3⟩ : Ps)).pe), .i (.str ((⟨q1, q2, q3⟩ : Ps)).bu)]] = _ := e
    dsimp only at e'
    rw [callT_eq Tryd.func3 rfl fok3 (by simp [Tryd.ntmps3])]
    simp (disch := first | omega | (simp only [List.length_append, List.length_map, List.length_set, List.length_cons, List.length_nil, List.length_take, List.length_drop, hrl]; omega)) only [va0, va1, va2, va3, va4, va5, va6, va7, va8, va9, va10, va11, va12, va13, va14, va15, vb0, vb1, vb2, vb3, w_i8, w_u8, w_i16, w_u16, w_i32, w_u32, w_i64, w_u64, lt_T, lt_F, le_T, le_F, nlt_T, nlt_F, nle_T, nle_F, List.take_of_length_le, gB, gcW, gcR, posIn, renA, renL, Chunk.ren, Chunk.refs, evOpD, touchD, stepC, isFresh, nFresh, freshOf, mkR, hole, evL, evH, opd, get, putD, ofVal, cellOf, loadE, behind, lenE, idxAddrE, idxE, addPtr, intE, strE, unE, convE, AV.int, AV.bool, AV.str, ivs, take, frameOf, firstRegion, refsA, refsL, one, cellsA, floatOk, apartT, List.map, if_true, if_false, E_P, E_glob0, reduceCtorEq, beq_self_eq_true, decide_true, decide_false, ↓reduceIte, Nat.reduceEqDiff, cond_true, cond_false, or_true, true_or, or_false, false_or, and_true, true_and, and_self, false_and, and_false, not_true, not_false_iff, Nat.reduceAdd, Nat.reduceSub, Nat.reduceMul, Nat.reduceLT, Nat.reduceLeDiff, Int.reduceToNat, Int.reduceLT, Int.reduceLE, Option.getD, Int.reduceMul, Int.reduceAdd, List.drop, List.take, Nat.reduceBEq, List.isEmpty, Int.reduceEq, Int.reduceNe, Int.reduceNeg, Int.reduceGT, Int.reduceGE, beq_true, beq_false, UInt8.reduceToNat, eqE, eq_self, foldE, maxE, minE, eq_T, eq_F, ndec, odec, adec, sdec, fillA, over, chop, List.replicate, leavesOk, leafOk, cellsEq, cellEq, E_byref, en3, bs26, hlg, k1, k2, e', f5, he, hrl, ik9, show ∀ B fr H, execT E B 3 (Code.loop _) fr H = rlG E B 3 (loopAt Tryd.f3 0) (gcn B (norm [5, 21, 22, 23] fr) H) from fun B fr H => rl_intro rfl mt3_5 mb3_5 zf3_5 hd3_5 fr H]
    exact ⟨_, rfl⟩
end Go.VI

namespace Go.Proofs
open Go.Shelf
def Tryd.laysAI_ren : Go.Shelf.Ren := ⟨fun | 176 => 42 | 249 => 59 | 288 => 63 | 283 => 65 | 284 => 66 | 285 => 67 | 286 => 68 | 129 => 70 | 317 => 69 | 318 => 71 | 319 => 72 | 320 => 73 | 337 => 74 | 338 => 75 | n => n, fun | 37 => 47 | 2 => 2 | 3 => 3 | 53 => 81 | 4 => 4 | 9 => 9 | 171 => 84 | 0 => 0 | 173 => 87 | 212 => 91 | 51 => 75 | 5 => 5 | 20 => 20 | 213 => 92 | 46 => 68 | 232 => 95 | 233 => 96 | n => n, fun | 17 => 0 | 18 => 1 | 19 => 2 | n => n⟩
theorem Tryd.laysAI : Go.Proofs.LaysM.n176 Tryd.prog Tryd.laysAI_ren := {
  mixed := by kernel_rfl
  f129 := Tryd.func70.trans (congrArg some (by kernel_rfl))
  f176 := Tryd.func42.trans (congrArg some (by kernel_rfl))
  f249 := Tryd.func59.trans (congrArg some (by kernel_rfl))
  f283 := Tryd.func65.trans (congrArg some (by kernel_rfl))
  f284 := Tryd.func66.trans (congrArg some (by kernel_rfl))
  f285 := Tryd.func67.trans (congrArg some (by kernel_rfl))
  f286 := Tryd.func68.trans (congrArg some (by kernel_rfl))
  f288 := Tryd.func63.trans (congrArg some (by kernel_rfl))
  f317 := Tryd.func69.trans (congrArg some (by kernel_rfl))
  f318 := Tryd.func71.trans (congrArg some (by kernel_rfl))
  f319 := Tryd.func72.trans (congrArg some (by kernel_rfl))
  f320 := Tryd.func73.trans (congrArg some (by kernel_rfl))
  f337 := Tryd.func74.trans (congrArg some (by kernel_rfl))
  f338 := Tryd.func75.trans (congrArg some (by kernel_rfl))
  t0 := Tryd.underlying0
  a0 := Tryd.isAgg0
  z0 := Tryd.sizeOf0
  v0 := Tryd.zeroValue0
  t2 := Tryd.underlying2
  a2 := Tryd.isAgg2
  z2 := Tryd.sizeOf2
  v2 := Tryd.zeroValue2
  t3 := Tryd.underlying3
  a3 := Tryd.isAgg3
  z3 := Tryd.sizeOf3
  v3 := Tryd.zeroValue3
  t4 := Tryd.underlying4
  a4 := Tryd.isAgg4
  z4 := Tryd.sizeOf4
  v4 := Tryd.zeroValue4
  t5 := Tryd.underlying5
  a5 := Tryd.isAgg5
  z5 := Tryd.sizeOf5
  v5 := Tryd.zeroValue5
  t9 := Tryd.underlying9
  a9 := Tryd.isAgg9
  z9 := Tryd.sizeOf9
  v9 := Tryd.zeroValue9
  t20 := Tryd.underlying20
  a20 := Tryd.isAgg20
  z20 := Tryd.sizeOf20
  v20 := Tryd.zeroValue20
  t37 := Tryd.underlying47
  a37 := Tryd.isAgg47
  z37 := Tryd.sizeOf47
  v37 := Tryd.zeroValue47
  t46 := Tryd.underlying68
  a46 := Tryd.isAgg68
  z46 := Tryd.sizeOf68
  v46 := Tryd.zeroValue68
  t51 := Tryd.underlying75
  a51 := Tryd.isAgg75
  z51 := Tryd.sizeOf75
  v51 := Tryd.zeroValue75
  t53 := Tryd.underlying81
  a53 := Tryd.isAgg81
  z53 := Tryd.sizeOf81
  v53 := Tryd.zeroValue81
  t171 := Tryd.underlying84
  a171 := Tryd.isAgg84
  z171 := Tryd.sizeOf84
  v171 := Tryd.zeroValue84
  t173 := Tryd.underlying87
  a173 := Tryd.isAgg87
  z173 := Tryd.sizeOf87
  v173 := Tryd.zeroValue87
  t212 := Tryd.underlying91
  a212 := Tryd.isAgg91
  z212 := Tryd.sizeOf91
  v212 := Tryd.zeroValue91
  t213 := Tryd.underlying92
  a213 := Tryd.isAgg92
  z213 := Tryd.sizeOf92
  t232 := Tryd.underlying95
  a232 := Tryd.isAgg95
  z232 := Tryd.sizeOf95
  v232 := Tryd.zeroValue95
  t233 := Tryd.underlying96
  a233 := Tryd.isAgg96
  z233 := Tryd.sizeOf96
  v233 := Tryd.zeroValue96
  g17 := by kernel_rfl
  g18 := by kernel_rfl
  g19 := by kernel_rfl
  i0 := by kernel_rfl
  i2 := by kernel_rfl
  i3 := by kernel_rfl
  i4 := by kernel_rfl
  i5 := by kernel_rfl
  i9 := by kernel_rfl
  i20 := by kernel_rfl
  i37 := by kernel_rfl
  i46 := by kernel_rfl
  i51 := by kernel_rfl
  i53 := by kernel_rfl
  i171 := by kernel_rfl
  i173 := by kernel_rfl
  i212 := by kernel_rfl
  i232 := by kernel_rfl
  i233 := by kernel_rfl
  m17 := by kernel_rfl
  m18 := by kernel_rfl
  m19 := by kernel_rfl }
end Go.Proofs

set_option linter.unusedSimpArgs false
set_option linter.unusedVariables false
namespace Go.VI
open Go.Proofs
theorem extOK : ExtOK E := by
  intro f h hf
  have h2 := E_extI f h hf
  rcases h2 with ⟨rfl, rfl⟩ | h2
  · exact ext_appendInt (E := E) (ρ := Tryd.laysAI_ren) Tryd.laysAI rfl
  · exact h2.elim
theorem laid_tail {P : Program} {W : World} {x : String × DataW Unit} {l : List (String × DataW Unit)} (h : laidMet P (x :: l) W) : laidMet P l W := by
  obtain ⟨ps, ⟨g, t, cs, fuel, p, q, _, _, _, _, hr, rfl⟩, hnd, hrows⟩ := h
  exact ⟨q, hr, hnd.sublist (List.sublist_append_right _ _), fun b off hp => hrows b off (List.mem_append.2 (.inr hp))⟩
theorem glob_of_tab {P : Program} {W : World} {name : String} {g : Nat} (hg : P.globalNamed name = some g) (h : Lib.TabIs P W name .u64 Lib.pow10Tab) : RelI (imm0 W) (.pt powT 0) (.pointer (some ⟨g, 0, none⟩)) := by
  unfold Lib.TabIs World.var? at h
  rw [hg] at h
  simp only [Option.bind_some] at h
  split at h
  · rename_i cs e fz hh
    simp only [Option.some.injEq] at h
    refine .pt powT 0 g 0 cs e fz (fun k => .int .u64 (Lib.pow10Tab.getD k 0)) hh (fun k a hk => ?_) (fun k a hk => ?_)
    · have hl : k < Lib.pow10Tab.length := by
        have := (List.getElem?_eq_some_iff.1 hk).1
        simpa [powT] using this
      subst h
      simp [List.getD, hl]
    · have hl : k < Lib.pow10Tab.length := by
        have := (List.getElem?_eq_some_iff.1 hk).1
        simpa [powT] using this
      simp only [powT, List.getElem?_map, List.getElem?_eq_getElem hl, Option.map_some, Option.some.injEq] at hk
      subst hk
      simp [List.getD, hl]
      exact .v _ rfl
  · cases h
theorem globs {W : World} {name : String} (hn : Tryd.prog.globalNamed name = some (Tryd.laysAI_ren.g 17)) (h : Lib.TabIs Tryd.prog W name .u64 Lib.pow10Tab) : ∀ g cells, E.glob g = some cells → RelI (imm0 W) (.pt cells 0) (.pointer (some ⟨g, 0, none⟩)) := by
  intro g cells hg
  rcases E_globI g cells hg with ⟨rfl, rfl⟩ | h'
  · exact glob_of_tab hn h
  · exact h'.elim
theorem weight_str {H : Type} {P : Program} {t : TypeId} {l : List UInt8} : ∀ {ts : List TypeId} {ds : List (DataW H)} (j : Nat), (DataW.weightsEach P ts ds).all (· ≤ reachBytes) = true → ts[j]? = some t → ds[j]? = some (.lit (.string l)) → l.length ≤ reachBytes
  | [], _, j, _, ht, _ => by simp at ht
  | _ :: _, [], j, _, _, hd => by simp at hd
  | t' :: ts, d' :: ds, 0, h, ht, hd => by
    simp at ht hd
    subst ht; subst hd
    simp only [DataW.weightsEach, List.all_append, Bool.and_eq_true] at h
    have h1 := h.1
    simpa [DataW.weights] using h1
  | t' :: ts, d' :: ds, j + 1, h, ht, hd => by
    simp only [DataW.weightsEach, List.all_append, Bool.and_eq_true] at h
    exact weight_str j h.2 (by simpa using ht) (by simpa using hd)
end Go.VI

