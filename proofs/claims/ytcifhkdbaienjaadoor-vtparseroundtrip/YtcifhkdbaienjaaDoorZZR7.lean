import Derived.Shelf.LaysM
import Derived.Shelf.Strings.SlTrimAsciiWalks
import Derived.Test.YtcifhkdbaienjaaDoorProg
import Derived.Lib.LaidTab
import Derived.MakeChecks
import Derived.Test.YtcifhkdbaienjaaDoorZZR6
namespace Go.VI
open Go.Proofs
set_option maxRecDepth 100000
set_option linter.unusedSimpArgs false
set_option linter.unusedVariables false
set_option maxHeartbeats 4000000
theorem c27 (e : Ev) (hl : (e.ps.length : Int) < 100000) : ∃ L, callT E 27 [evA e, evA e] [] = some (.i (.v (.bool true)), L) := by
  rw [evA_eq]
  rw [callT_eq Tryd.func27 rfl fok27 (by simp [Tryd.ntmps27])]
  simp (disch := first | omega | (simp only [List.length_append, List.length_map, List.length_set, List.length_cons, List.length_nil, List.length_take, List.length_drop]; omega)) only [va0, va1, va2, va3, va4, va5, va6, va7, va8, va9, va10, va11, va12, va13, va14, va15, vb0, vb1, vb2, vb3, w_i8, w_u8, w_i16, w_u16, w_i32, w_u32, w_i64, w_u64, lt_T, lt_F, le_T, le_F, nlt_T, nlt_F, nle_T, nle_F, List.take_of_length_le, gB, gcW, gcR, posIn, renA, renL, Chunk.ren, Chunk.refs, evOpD, touchD, stepC, isFresh, nFresh, freshOf, mkR, hole, evL, evH, opd, get, putD, ofVal, cellOf, loadE, behind, lenE, idxAddrE, idxE, addPtr, intE, strE, unE, convE, AV.int, AV.bool, AV.str, ivs, take, frameOf, firstRegion, refsA, refsL, one, cellsA, floatOk, apartT, List.map, if_true, if_false, E_P, E_glob0, reduceCtorEq, beq_self_eq_true, decide_true, decide_false, ↓reduceIte, Nat.reduceEqDiff, cond_true, cond_false, or_true, true_or, or_false, false_or, and_true, true_and, and_self, false_and, and_false, not_true, not_false_iff, Nat.reduceAdd, Nat.reduceSub, Nat.reduceMul, Nat.reduceLT, Nat.reduceLeDiff, Int.reduceToNat, Int.reduceLT, Int.reduceLE, Option.getD, Int.reduceMul, Int.reduceAdd, List.drop, List.take, Nat.reduceBEq, List.isEmpty, Int.reduceEq, Int.reduceNe, Int.reduceNeg, Int.reduceGT, Int.reduceGE, beq_true, beq_false, UInt8.reduceToNat, eqE, eq_self, foldE, maxE, minE, eq_T, eq_F, ndec, odec, adec, sdec, fillA, over, chop, List.replicate, leavesOk, leafOk, cellsEq, cellEq, E_byref, en27, bs29, ik46]
  exact ⟨_, rfl⟩
theorem ik27 (k r c v : Int) (i : List UInt8) (ps : List Int) (t : List UInt8) (hl : (ps.length : Int) < 100000) (H : Hp) : isoK E (callT E) 27 [.agg [.i (.v (.int .i64 k)), .i (.v (.int .i32 r)), .i (.v (.int .u8 c)), .i (.v (.int .u8 v)), .i (.str i), .i (.sl 1 (rows64 ps) false), .i (.str t)], .agg [.i (.v (.int .i64 k)), .i (.v (.int .i32 r)), .i (.v (.int .u8 c)), .i (.v (.int .u8 v)), .i (.str i), .i (.sl 1 (rows64 ps) false), .i (.str t)]] H = some (.i (.v (.bool true)), H) := isoK_val rfl rfl rfl (c27 ⟨k, r, c, v, i, ps, t⟩ hl)
theorem rowsEv_at {l : List Ev} {k : Nat} (h : k < l.length) : (rowsEv l)[k]? = some (evC l[k]) := by simp [rowsEv, h]
def evFew (l : List Ev) : Prop := ∀ e ∈ l, e.ps.length < 100000
theorem l16 (l : List Ev) (hl : l.length < 1000000) (hf : evFew l) (k : Nat) (hk : k ≤ l.length) :
    ∃ fr, rl E 0 16 (loopAt Tryd.f16 0) [(0, .i (.sl 7 (rowsEv l) false)), (1, .i (.sl 7 (rowsEv l) false)), (5, .i (.v (.int .i64 k)))] [] = some (.exit 0, fr, []) := by
  rw [rl_step (fn := Tryd.f16) (k := 0) rfl]
  by_cases hlt : k < l.length
  · have hrow := rowsEv_at hlt
    have hps := hf l[k] (List.getElem_mem _)
    obtain ⟨fr, e⟩ := l16 l hl hf (k + 1) hlt
    refine ⟨fr, Eq.trans ?_ e⟩
    clear e
    generalize l[k] = x at *
    rw [evC] at hrow
    simp (disch := first | omega | (simp only [List.length_append, List.length_map, List.length_set, List.length_cons, List.length_nil, List.length_take, List.length_drop, rowsEv_len]; omega)) only [va0, va1, va2, va3, va4, va5, va6, va7, va8, va9, va10, va11, va12, va13, va14, va15, vb0, vb1, vb2, vb3, w_i8, w_u8, w_i16, w_u16, w_i32, w_u32, w_i64, w_u64, lt_T, lt_F, le_T, le_F, nlt_T, nlt_F, nle_T, nle_F, List.take_of_length_le, gB, gcW, gcR, posIn, renA, renL, Chunk.ren, Chunk.refs, evOpD, touchD, stepC, isFresh, nFresh, freshOf, mkR, hole, evL, evH, opd, get, putD, ofVal, cellOf, loadE, behind, lenE, idxAddrE, idxE, addPtr, intE, strE, unE, convE, AV.int, AV.bool, AV.str, ivs, take, frameOf, firstRegion, refsA, refsL, one, cellsA, floatOk, apartT, List.map, if_true, if_false, E_P, E_glob0, reduceCtorEq, beq_self_eq_true, decide_true, decide_false, ↓reduceIte, Nat.reduceEqDiff, cond_true, cond_false, or_true, true_or, or_false, false_or, and_true, true_and, and_self, false_and, and_false, not_true, not_false_iff, Nat.reduceAdd, Nat.reduceSub, Nat.reduceMul, Nat.reduceLT, Nat.reduceLeDiff, Int.reduceToNat, Int.reduceLT, Int.reduceLE, Option.getD, Int.reduceMul, Int.reduceAdd, List.drop, List.take, Nat.reduceBEq, List.isEmpty, Int.reduceEq, Int.reduceNe, Int.reduceNeg, Int.reduceGT, Int.reduceGE, beq_true, beq_false, UInt8.reduceToNat, eqE, eq_self, foldE, maxE, minE, eq_T, eq_F, ndec, odec, adec, sdec, fillA, over, chop, List.replicate, leavesOk, leafOk, cellsEq, cellEq, E_byref, en16, bs26, hrow, rowsEv_len, ik27, show ∀ B fr H, execT E B 16 (Code.loop _) fr H = rlG E B 16 (loopAt Tryd.f16 0) (gcn B (norm [0, 1, 5] fr) H) from fun B fr H => rl_intro rfl mt16_4 mb16_4 zf16_4 hd16_4 fr H]
  · obtain rfl : k = l.length := by omega
    simp (disch := first | omega | (simp only [List.length_append, List.length_map, List.length_set, List.length_cons, List.length_nil, List.length_take, List.length_drop, rowsEv_len]; omega)) only [va0, va1, va2, va3, va4, va5, va6, va7, va8, va9, va10, va11, va12, va13, va14, va15, vb0, vb1, vb2, vb3, w_i8, w_u8, w_i16, w_u16, w_i32, w_u32, w_i64, w_u64, lt_T, lt_F, le_T, le_F, nlt_T, nlt_F, nle_T, nle_F, List.take_of_length_le, gB, gcW, gcR, posIn, renA, renL, Chunk.ren, Chunk.refs, evOpD, touchD, stepC, isFresh, nFresh, freshOf, mkR, hole, evL, evH, opd, get, putD, ofVal, cellOf, loadE, behind, lenE, idxAddrE, idxE, addPtr, intE, strE, unE, convE, AV.int, AV.bool, AV.str, ivs, take, frameOf, firstRegion, refsA, refsL, one, cellsA, floatOk, apartT, List.map, if_true, if_false, E_P, E_glob0, reduceCtorEq, beq_self_eq_true, decide_true, decide_false, ↓reduceIte, Nat.reduceEqDiff, cond_true, cond_false, or_true, true_or, or_false, false_or, and_true, true_and, and_self, false_and, and_false, not_true, not_false_iff, Nat.reduceAdd, Nat.reduceSub, Nat.reduceMul, Nat.reduceLT, Nat.reduceLeDiff, Int.reduceToNat, Int.reduceLT, Int.reduceLE, Option.getD, Int.reduceMul, Int.reduceAdd, List.drop, List.take, Nat.reduceBEq, List.isEmpty, Int.reduceEq, Int.reduceNe, Int.reduceNeg, Int.reduceGT, Int.reduceGE, beq_true, beq_false, UInt8.reduceToNat, eqE, eq_self, foldE, maxE, minE, eq_T, eq_F, ndec, odec, adec, sdec, fillA, over, chop, List.replicate, leavesOk, leafOk, cellsEq, cellEq, E_byref, en16, bs26, rowsEv_len, show ∀ B fr H, execT E B 16 (Code.loop _) fr H = rlG E B 16 (loopAt Tryd.f16 0) (gcn B (norm [0, 1, 5] fr) H) from fun B fr H => rl_intro rfl mt16_4 mb16_4 zf16_4 hd16_4 fr H]
    exact ⟨_, rfl⟩
termination_by l.length - k
theorem c16 (l : List Ev) (hl : (l.length : Int) < 1000000) (hf : evFew l) : ∃ L, callT E 16 [.i (.sl 7 (rowsEv l) false), .i (.sl 7 (rowsEv l) false)] [] = some (.i (.v (.bool true)), L) := by
  obtain ⟨fr, e⟩ := l16 l (by omega) hf 0 (Nat.zero_le _)
  have e' : rl E 0 16 (loopAt Tryd.f16 0) [(0, .i (.sl 7 (rowsEv l) false)), (1, .i (.sl 7 (rowsEv l) false)), (5, .i (.v (.int .i64 0)))] [] = _ := e
  rw [callT_eq Tryd.func16 rfl fok16 (by simp [Tryd.ntmps16])]
  simp (disch := first | omega | (simp only [List.length_append, List.length_map, List.length_set, List.length_cons, List.length_nil, List.length_take, List.length_drop, rowsEv_len]; omega)) only [va0, va1, va2, va3, va4, va5, va6, va7, va8, va9, va10, va11, va12, va13, va14, va15, vb0, vb1, vb2, vb3, w_i8, w_u8, w_i16, w_u16, w_i32, w_u32, w_i64, w_u64, lt_T, lt_F, le_T, le_F, nlt_T, nlt_F, nle_T, nle_F, List.take_of_length_le, gB, gcW, gcR, posIn, renA, renL, Chunk.ren, Chunk.refs, evOpD, touchD, stepC, isFresh, nFresh, freshOf, mkR, hole, evL, evH, opd, get, putD, ofVal, cellOf, loadE, behind, lenE, idxAddrE, idxE, addPtr, intE, strE, unE, convE, AV.int, AV.bool, AV.str, ivs, take, frameOf, firstRegion, refsA, refsL, one, cellsA, floatOk, apartT, List.map, if_true, if_false, E_P, E_glob0, reduceCtorEq, beq_self_eq_true, decide_true, decide_false, ↓reduceIte, Nat.reduceEqDiff, cond_true, cond_false, or_true, true_or, or_false, false_or, and_true, true_and, and_self, false_and, and_false, not_true, not_false_iff, Nat.reduceAdd, Nat.reduceSub, Nat.reduceMul, Nat.reduceLT, Nat.reduceLeDiff, Int.reduceToNat, Int.reduceLT, Int.reduceLE, Option.getD, Int.reduceMul, Int.reduceAdd, List.drop, List.take, Nat.reduceBEq, List.isEmpty, Int.reduceEq, Int.reduceNe, Int.reduceNeg, Int.reduceGT, Int.reduceGE, beq_true, beq_false, UInt8.reduceToNat, eqE, eq_self, foldE, maxE, minE, eq_T, eq_F, ndec, odec, adec, sdec, fillA, over, chop, List.replicate, leavesOk, leafOk, cellsEq, cellEq, E_byref, en16, bs26, e', rowsEv_len, show ∀ B fr H, execT E B 16 (Code.loop _) fr H = rlG E B 16 (loopAt Tryd.f16 0) (gcn B (norm [0, 1, 5] fr) H) from fun B fr H => rl_intro rfl mt16_4 mb16_4 zf16_4 hd16_4 fr H]
  exact ⟨_, rfl⟩
theorem ik16 (l : List Ev) (hl : (l.length : Int) < 1000000) (hf : evFew l) (H : Hp) : isoK E (callT E) 16 [.i (.sl 7 (rowsEv l) false), .i (.sl 7 (rowsEv l) false)] H = some (.i (.v (.bool true)), H) := isoK_val rfl rfl rfl (c16 l hl hf)
theorem ran_true {f n : Nat} (h : (match call E n f [] [] with | some (.i (.v (.bool true)), _) => true | _ => false) = true) : ∃ L, callT E f [] [] = some (.i (.v (.bool true)), L) := by
  split at h
  · rename_i L hL; exact ⟨L, callT_of hL⟩
  · cases h
theorem ik9 (H : Hp) : isoK E (callT E) 9 [] H = some (.i (.v (.bool true)), H) := isoK_val rfl rfl rfl (ran_true (n := 200) (by kernel_rfl))
def longB (e : Ev) : Bool := decide (400 < (e.i.length : Int)) || decide (100 < (e.ps.length : Int)) || decide (400 < (e.t.length : Int))
theorem c12 (e : Ev) : ∃ L, callT E 12 [evA e] [] = some (.i (.v (.bool (longB e))), L) := by
  rw [evA_eq]
  unfold longB
  by_cases h1 : 400 < (e.i.length : Int) <;> by_cases h2 : 100 < (e.ps.length : Int) <;> by_cases h3 : 400 < (e.t.length : Int) <;> simp only [h1, h2, h3, decide_true, decide_false, Bool.or_true, Bool.true_or, Bool.or_false] <;> (rw [callT_eq Tryd.func12 rfl fok12 (by simp [Tryd.ntmps12])]; simp (disch := first | omega | (simp only [List.length_append, List.length_map, List.length_set, List.length_cons, List.length_nil, List.length_take, List.length_drop, rows64_len]; omega)) only [va0, va1, va2, va3, va4, va5, va6, va7, va8, va9, va10, va11, va12, va13, va14, va15, vb0, vb1, vb2, vb3, w_i8, w_u8, w_i16, w_u16, w_i32, w_u32, w_i64, w_u64, lt_T, lt_F, le_T, le_F, nlt_T, nlt_F, nle_T, nle_F, List.take_of_length_le, gB, gcW, gcR, posIn, renA, renL, Chunk.ren, Chunk.refs, evOpD, touchD, stepC, isFresh, nFresh, freshOf, mkR, hole, evL, evH, opd, get, putD, ofVal, cellOf, loadE, behind, lenE, idxAddrE, idxE, addPtr, intE, strE, unE, convE, AV.int, AV.bool, AV.str, ivs, take, frameOf, firstRegion, refsA, refsL, one, cellsA, floatOk, apartT, List.map, if_true, if_false, E_P, E_glob0, reduceCtorEq, beq_self_eq_true, decide_true, decide_false, ↓reduceIte, Nat.reduceEqDiff, cond_true, cond_false, or_true, true_or, or_false, false_or, and_true, true_and, and_self, false_and, and_false, not_true, not_false_iff, Nat.reduceAdd, Nat.reduceSub, Nat.reduceMul, Nat.reduceLT, Nat.reduceLeDiff, Int.reduceToNat, Int.reduceLT, Int.reduceLE, Option.getD, Int.reduceMul, Int.reduceAdd, List.drop, List.take, Nat.reduceBEq, List.isEmpty, Int.reduceEq, Int.reduceNe, Int.reduceNeg, Int.reduceGT, Int.reduceGE, beq_true, beq_false, UInt8.reduceToNat, eqE, eq_self, foldE, maxE, minE, eq_T, eq_F, ndec, odec, adec, sdec, fillA, over, chop, List.replicate, leavesOk, leafOk, cellsEq, cellEq, E_byref, en12, bs29, rows64_len, h1, h2, h3]) <;> exact ⟨_, rfl⟩
theorem ik12 (e : Ev) (H : Hp) : isoK E (callT E) 12 [.agg [.i (.v (.int .i64 e.k)), .i (.v (.int .i32 e.r)), .i (.v (.int .u8 e.c)), .i (.v (.int .u8 e.v)), .i (.str e.i), .i (.sl 1 (rows64 e.ps) false), .i (.str e.t)]] H = some (.i (.v (.bool (longB e))), H) := isoK_val rfl rfl rfl (c12 e)
theorem long_l {e : Ev} (h : longB e = false) : EvL e := by
  simp only [longB, Bool.or_eq_false_iff, decide_eq_false_iff_not] at h
  unfold EvL
  omega
theorem fmt_of {e : Ev} (he : EvR e) (hl : EvL e) : FmtOK e := fun H => ik23 e.v he.2.2 e.ps e.i (by have := hl.2.1; omega) (by have := hl.1; omega) H
end Go.VI

namespace Go.VI
open Go.Proofs
set_option maxRecDepth 100000
set_option linter.unusedSimpArgs false
set_option linter.unusedVariables false
set_option maxHeartbeats 4000000
theorem eqP (a a' : Int) (b b' c c' : List UInt8) : binE Tryd.prog .eql 23 (.agg [.i (.v (.int .i64 a)), .i (.str b), .i (.str c)]) (.agg [.i (.v (.int .i64 a')), .i (.str b'), .i (.str c')]) = some (.i (.v (.bool (decide (a = a') && ((b == b') && (c == c')))))) := by
  simp (disch := first | omega | (simp only [List.length_append, List.length_map, List.length_set, List.length_cons, List.length_nil, List.length_take, List.length_drop]; omega)) only [va0, va1, va2, va3, va4, va5, va6, va7, va8, va9, va10, va11, va12, va13, va14, va15, vb0, vb1, vb2, vb3, w_i8, w_u8, w_i16, w_u16, w_i32, w_u32, w_i64, w_u64, lt_T, lt_F, le_T, le_F, nlt_T, nlt_F, nle_T, nle_F, List.take_of_length_le, gB, gcW, gcR, posIn, renA, renL, Chunk.ren, Chunk.refs, evOpD, touchD, stepC, isFresh, nFresh, freshOf, mkR, hole, evL, evH, opd, get, putD, ofVal, cellOf, loadE, behind, lenE, idxAddrE, idxE, addPtr, intE, strE, unE, convE, AV.int, AV.bool, AV.str, ivs, take, frameOf, firstRegion, refsA, refsL, one, cellsA, floatOk, apartT, List.map, if_true, if_false, E_P, E_glob0, reduceCtorEq, beq_self_eq_true, decide_true, decide_false, ↓reduceIte, Nat.reduceEqDiff, cond_true, cond_false, or_true, true_or, or_false, false_or, and_true, true_and, and_self, false_and, and_false, not_true, not_false_iff, Nat.reduceAdd, Nat.reduceSub, Nat.reduceMul, Nat.reduceLT, Nat.reduceLeDiff, Int.reduceToNat, Int.reduceLT, Int.reduceLE, Option.getD, Int.reduceMul, Int.reduceAdd, List.drop, List.take, Nat.reduceBEq, List.isEmpty, Int.reduceEq, Int.reduceNe, Int.reduceNeg, Int.reduceGT, Int.reduceGE, beq_true, beq_false, UInt8.reduceToNat, eqE, eq_self, foldE, maxE, minE, eq_T, eq_F, ndec, sdec, fillA, over, chop, List.replicate, leavesOk, leafOk, cellsEq, cellEq, E_byref, tyaa, tyab, tyac, tyad, tyae, tyaf, tyag, tyah, tyai, tyaj, tyak, tyal, tyam, bs26, bs29, bs47, bs49, be_aa]
def isZ (p : Ps) : Bool := decide (p.st = 0) && ((p.pe == []) && (p.bu == []))
def idleS (p : Ps) : Bool := !properS p || isZ p
theorem c17 (p : Ps) (hp : p.pe.length < 40000) (hb : p.bu.length < 100000) : ∃ L, callT E 17 [.agg (psC p)] [] = some (.i (.v (.bool (idleS p))), L) := by
  have hik := fun H => ik18 p hp hb H
  have hz : isZ p = (decide (p.st = 0) && ((p.pe == []) && (p.bu == []))) := rfl
  have he := eqP p.st 0 p.pe [] p.bu []
  rw [← hz] at he
  unfold idleS psC at *
  rw [callT_eq Tryd.func17 rfl fok17 (by simp [Tryd.ntmps17])]
  cases hpr : properS p <;> cases hzz : isZ p <;> rw [hpr] at hik <;> rw [hzz] at he
  all_goals simp (disch := first | omega | (simp only [List.length_append, List.length_map, List.length_set, List.length_cons, List.length_nil, List.length_take, List.length_drop]; omega)) only [va0, va1, va2, va3, va4, va5, va6, va7, va8, va9, va10, va11, va12, va13, va14, va15, vb0, vb1, vb2, vb3, w_i8, w_u8, w_i16, w_u16, w_i32, w_u32, w_i64, w_u64, lt_T, lt_F, le_T, le_F, nlt_T, nlt_F, nle_T, nle_F, List.take_of_length_le, gB, gcW, gcR, posIn, renA, renL, Chunk.ren, Chunk.refs, evOpD, touchD, stepC, isFresh, nFresh, freshOf, mkR, hole, evL, evH, opd, get, putD, ofVal, cellOf, loadE, behind, lenE, idxAddrE, idxE, addPtr, intE, strE, unE, convE, AV.int, AV.bool, AV.str, ivs, take, frameOf, firstRegion, refsA, refsL, one, cellsA, floatOk, apartT, List.map, if_true, if_false, E_P, E_glob0, reduceCtorEq, beq_self_eq_true, decide_true, decide_false, ↓reduceIte, Nat.reduceEqDiff, cond_true, cond_false, or_true, true_or, or_false, false_or, and_true, true_and, and_self, false_and, and_false, not_true, not_false_iff, Nat.reduceAdd, Nat.reduceSub, Nat.reduceMul, Nat.reduceLT, Nat.reduceLeDiff, Int.reduceToNat, Int.reduceLT, Int.reduceLE, Option.getD, Int.reduceMul, Int.reduceAdd, List.drop, List.take, Nat.reduceBEq, List.isEmpty, Int.reduceEq, Int.reduceNe, Int.reduceNeg, Int.reduceGT, Int.reduceGE, beq_true, beq_false, UInt8.reduceToNat, eqE, eq_self, foldE, maxE, minE, eq_T, eq_F, ndec, odec, adec, sdec, fillA, over, chop, List.replicate, leavesOk, leafOk, cellsEq, cellEq, E_byref, en17, hik, he, Bool.not_true, Bool.not_false, Bool.or_true, Bool.or_false]
  all_goals exact ⟨_, rfl⟩
theorem ik17_0 (H : Hp) : isoK E (callT E) 17 [.agg [.i (.v (.int .i64 0)), .i (.str []), .i (.str [])]] H = some (.i (.v (.bool true)), H) := isoK_val rfl rfl rfl (c17 ⟨0, [], []⟩ (by simp) (by simp))
theorem ik10_c (a : Int) (b c s : List UInt8) (hb : b.length < 40000) (hc : c.length < 100000) (hs : (s.length : Int) < 5000) (H : Hp) : isoK E (callT E) 10 [.agg [.i (.v (.int .i64 a)), .i (.str b), .i (.str c)], .i (.str s)] H =
    some (.tup [.agg [.i (.v (.int .i64 (feedS ⟨a, b, c⟩ s).1.st)), .i (.str (feedS ⟨a, b, c⟩ s).1.pe), .i (.str (feedS ⟨a, b, c⟩ s).1.bu)], .i (.sl 7 (rowsEv (feedS ⟨a, b, c⟩ s).2) false)], H) := ik10 ⟨a, b, c⟩ hb hc s hs H
theorem ik10_0 (s : List UInt8) (l : List Ev) (h : feedS p0 s = (p0, l)) (hs : (s.length : Int) < 5000) (H : Hp) : isoK E (callT E) 10 [.agg [.i (.v (.int .i64 0)), .i (.str []), .i (.str [])], .i (.str s)] H =
    some (.tup [.agg [.i (.v (.int .i64 0)), .i (.str []), .i (.str [])], .i (.sl 7 (rowsEv l) false)], H) := by
  have := ik10_c 0 [] [] s (by simp) (by simp) hs H
  rw [show feedS ⟨0, [], []⟩ s = (p0, l) from h] at this
  exact this
end Go.VI

namespace Go.VI
open Go.Proofs
set_option maxRecDepth 100000
set_option linter.unusedSimpArgs false
set_option linter.unusedVariables false
set_option maxHeartbeats 4000000
theorem enc_len {e : Ev} (h : goodE e) : (encS e).length ≤ 300 := by
  have hl := check_len h.2
  cases shape h with
  | pr r h hg h1 h2 => subst h; have := encR_len r; simp only [encS, prEv, if_true, by8, List.length_map]; omega
  | ct b h h1 h2 h3 h4 => subst h; simp [encS, ctEv, by1]
  | es i b h h1 => subst h; have := h1.1; simp [encS, escEv, by1]; omega
  | sq v ps i b h hv hf h1 h2 => subst h; have := (fmt_body hv hf).2; simp [encS, by1]; omega
  | cm t h h1 h2 => subst h; simp [encS, cmdEv]; omega
end Go.VI

namespace Go.VI
open Go.Proofs
set_option maxRecDepth 100000
set_option linter.unusedSimpArgs false
set_option linter.unusedVariables false
set_option maxHeartbeats 4000000
def joinE : List Ev → List UInt8
  | [] => []
  | e :: r => encS e ++ joinE r
def okB (e : Ev) : Bool := !longB e && decide (checkS e = 0)
theorem joinE_len : ∀ l : List Ev, goodL l → (joinE l).length ≤ 300 * l.length
  | [], _ => by simp [joinE]
  | e :: r, h => by
    have h1 := enc_len (h e (.head _))
    have h2 := joinE_len r fun x hx => h x (.tail _ hx)
    simp only [joinE, List.length_append, List.length_cons]; omega
theorem run_join : ∀ l : List Ev, goodL l → runF (joinE l) p0 = (p0, l)
  | [], _ => rfl
  | e :: r, h => by
    rw [joinE, runF_app, run_enc (h e (.head _)), run_join r fun x hx => h x (.tail _ hx)]
    rfl
def rtQ (l : List Ev) (s : List UInt8) : Bool → Fr → Ex → Hp → Prop
  | true, fr, ex, H' => ex = .exit 0 ∧ H' = [] ∧ get 3 fr = .i (.str s) ∧ get 0 fr = .i (.sl 7 (rowsEv l) false)
  | false, fr, ex, _ => ex = .ret ∧ get 2 fr = .i (.v (.bool true))
theorem l7 (l : List Ev) (hl : l.length ≤ 10) (hr : ∀ e ∈ l, EvR e) (k : Nat) (hk : k ≤ l.length) (s : List UInt8) (hs : s.length ≤ 300 * k) :
    ∃ fr ex H', rl E 0 7 (loopAt Tryd.f7 0) [(0, .i (.sl 7 (rowsEv l) false)), (3, .i (.str (s))), (14, .i (.sl 7 (rowsEv l) false)), (15, .i (.v (.int .i64 l.length))), (16, .i (.v (.int .i64 (k))))] [] = some (ex, fr, H') ∧
      rtQ l (s ++ joinE (l.drop k)) ((l.drop k).all okB) fr ex H' := by
  rw [rl_step (fn := Tryd.f7) (k := 0) rfl]
  by_cases hlt : k < l.length
  · have hrow := rowsEv_at hlt
    have hex := hr l[k] (List.getElem_mem _)
    rw [List.drop_eq_getElem_cons hlt, List.all_cons, joinE]
    have ih := fun (hs' : (s ++ encS l[k]).length ≤ 300 * (k + 1)) => l7 l hl hr (k + 1) hlt (s ++ encS l[k]) hs'
    generalize l[k] = x at *
    rw [evC] at hrow
    have hL := fun H => ik12 x H
    cases hb : longB x with
    | true =>
      have hok : okB x = false := by unfold okB; rw [hb]; rfl
      rw [hok, Bool.false_and]
      rw [hb] at hL
      clear ih
      simp (disch := first | omega | (simp only [List.length_append, List.length_map, List.length_set, List.length_cons, List.length_nil, List.length_take, List.length_drop, rowsEv_len]; omega)) only [va0, va1, va2, va3, va4, va5, va6, va7, va8, va9, va10, va11, va12, va13, va14, va15, vb0, vb1, vb2, vb3, w_i8, w_u8, w_i16, w_u16, w_i32, w_u32, w_i64, w_u64, lt_T, lt_F, le_T, le_F, nlt_T, nlt_F, nle_T, nle_F, List.take_of_length_le, gB, gcW, gcR, posIn, renA, renL, Chunk.ren, Chunk.refs, evOpD, touchD, stepC, isFresh, nFresh, freshOf, mkR, hole, evL, evH, opd, get, putD, ofVal, cellOf, loadE, behind, lenE, idxAddrE, idxE, addPtr, intE, strE, unE, convE, AV.int, AV.bool, AV.str, ivs, take, frameOf, firstRegion, refsA, refsL, one, cellsA, floatOk, apartT, List.map, if_true, if_false, E_P, E_glob0, reduceCtorEq, beq_self_eq_true, decide_true, decide_false, ↓reduceIte, Nat.reduceEqDiff, cond_true, cond_false, or_true, true_or, or_false, false_or, and_true, true_and, and_self, false_and, and_false, not_true, not_false_iff, Nat.reduceAdd, Nat.reduceSub, Nat.reduceMul, Nat.reduceLT, Nat.reduceLeDiff, Int.reduceToNat, Int.reduceLT, Int.reduceLE, Option.getD, Int.reduceMul, Int.reduceAdd, List.drop, List.take, Nat.reduceBEq, List.isEmpty, Int.reduceEq, Int.reduceNe, Int.reduceNeg, Int.reduceGT, Int.reduceGE, beq_true, beq_false, UInt8.reduceToNat, eqE, eq_self, foldE, maxE, minE, eq_T, eq_F, ndec, odec, adec, sdec, fillA, over, chop, List.replicate, leavesOk, leafOk, cellsEq, cellEq, E_byref, en7, bs26, hrow, rowsEv_len, hL, ik9, show ∀ B fr H, execT E B 7 (Code.loop _) fr H = rlG E B 7 (loopAt Tryd.f7 0) (gcn B (norm [0, 3, 14, 15, 16] fr) H) from fun B fr H => rl_intro rfl mt7_5 mb7_5 zf7_5 hd7_5 fr H]
      exact ⟨_, _, _, rfl, rfl, rfl⟩
    | false =>
      rw [hb] at hL
      have hlx := long_l hb
      have hE := fun H => ik13 x hex (fun _ => fmt_of hex hlx) H
      have hC := fun H => ik11 x hex (fun _ => fmt_of hex hlx) H
      unfold encA at hE
      by_cases h0 : checkS x = 0
      · have hok : okB x = true := by unfold okB; rw [hb, decide_eq_true h0]; rfl
        rw [hok, Bool.true_and]
        rw [if_pos h0, h0] at hE
        rw [h0] at hC
        have hln := enc_len (e := x) ⟨hex, h0⟩
        obtain ⟨fr, ex, H', e, hh⟩ := ih (by simp only [List.length_append]; omega)
        rw [List.append_assoc] at hh
        refine ⟨fr, ex, H', Eq.trans ?_ e, hh⟩
        clear e hh ih
        generalize encS x = w at *
        simp (disch := first | omega | (simp only [List.length_append, List.length_map, List.length_set, List.length_cons, List.length_nil, List.length_take, List.length_drop, rowsEv_len]; omega)) only [va0, va1, va2, va3, va4, va5, va6, va7, va8, va9, va10, va11, va12, va13, va14, va15, vb0, vb1, vb2, vb3, w_i8, w_u8, w_i16, w_u16, w_i32, w_u32, w_i64, w_u64, lt_T, lt_F, le_T, le_F, nlt_T, nlt_F, nle_T, nle_F, List.take_of_length_le, gB, gcW, gcR, posIn, renA, renL, Chunk.ren, Chunk.refs, evOpD, touchD, stepC, isFresh, nFresh, freshOf, mkR, hole, evL, evH, opd, get, putD, ofVal, cellOf, loadE, behind, lenE, idxAddrE, idxE, addPtr, intE, strE, unE, convE, AV.int, AV.bool, AV.str, ivs, take, frameOf, firstRegion, refsA, refsL, one, cellsA, floatOk, apartT, List.map, if_true, if_false, E_P, E_glob0, reduceCtorEq, beq_self_eq_true, decide_true, decide_false, ↓reduceIte, Nat.reduceEqDiff, cond_true, cond_false, or_true, true_or, or_false, false_or, and_true, true_and, and_self, false_and, and_false, not_true, not_false_iff, Nat.reduceAdd, Nat.reduceSub, Nat.reduceMul, Nat.reduceLT, Nat.reduceLeDiff, Int.reduceToNat, Int.reduceLT, Int.reduceLE, Option.getD, Int.reduceMul, Int.reduceAdd, List.drop, List.take, Nat.reduceBEq, List.isEmpty, Int.reduceEq, Int.reduceNe, Int.reduceNeg, Int.reduceGT, Int.reduceGE, beq_true, beq_false, UInt8.reduceToNat, eqE, eq_self, foldE, maxE, minE, eq_T, eq_F, ndec, odec, adec, sdec, fillA, over, chop, List.replicate, leavesOk, leafOk, cellsEq, cellEq, E_byref, en7, bs26, hrow, rowsEv_len, hL, hE, hC, show ∀ B fr H, execT E B 7 (Code.loop _) fr H = rlG E B 7 (loopAt Tryd.f7 0) (gcn B (norm [0, 3, 14, 15, 16] fr) H) from fun B fr H => rl_intro rfl mt7_5 mb7_5 zf7_5 hd7_5 fr H]
      · have hok : okB x = false := by unfold okB; rw [hb, decide_eq_false h0]; rfl
        rw [hok, Bool.false_and]
        rw [if_neg h0] at hE
        clear ih
        generalize checkS x = q at *
        simp (disch := first | omega | (simp only [List.length_append, List.length_map, List.length_set, List.length_cons, List.length_nil, List.length_take, List.length_drop, rowsEv_len]; omega)) only [va0, va1, va2, va3, va4, va5, va6, va7, va8, va9, va10, va11, va12, va13, va14, va15, vb0, vb1, vb2, vb3, w_i8, w_u8, w_i16, w_u16, w_i32, w_u32, w_i64, w_u64, lt_T, lt_F, le_T, le_F, nlt_T, nlt_F, nle_T, nle_F, List.take_of_length_le, gB, gcW, gcR, posIn, renA, renL, Chunk.ren, Chunk.refs, evOpD, touchD, stepC, isFresh, nFresh, freshOf, mkR, hole, evL, evH, opd, get, putD, ofVal, cellOf, loadE, behind, lenE, idxAddrE, idxE, addPtr, intE, strE, unE, convE, AV.int, AV.bool, AV.str, ivs, take, frameOf, firstRegion, refsA, refsL, one, cellsA, floatOk, apartT, List.map, if_true, if_false, E_P, E_glob0, reduceCtorEq, beq_self_eq_true, decide_true, decide_false, ↓reduceIte, Nat.reduceEqDiff, cond_true, cond_false, or_true, true_or, or_false, false_or, and_true, true_and, and_self, false_and, and_false, not_true, not_false_iff, Nat.reduceAdd, Nat.reduceSub, Nat.reduceMul, Nat.reduceLT, Nat.reduceLeDiff, Int.reduceToNat, Int.reduceLT, Int.reduceLE, Option.getD, Int.reduceMul, Int.reduceAdd, List.drop, List.take, Nat.reduceBEq, List.isEmpty, Int.reduceEq, Int.reduceNe, Int.reduceNeg, Int.reduceGT, Int.reduceGE, beq_true, beq_false, UInt8.reduceToNat, eqE, eq_self, foldE, maxE, minE, eq_T, eq_F, ndec, odec, adec, sdec, fillA, over, chop, List.replicate, leavesOk, leafOk, cellsEq, cellEq, E_byref, en7, bs26, hrow, rowsEv_len, hL, hE, hC, h0, ik9, show ∀ B fr H, execT E B 7 (Code.loop _) fr H = rlG E B 7 (loopAt Tryd.f7 0) (gcn B (norm [0, 3, 14, 15, 16] fr) H) from fun B fr H => rl_intro rfl mt7_5 mb7_5 zf7_5 hd7_5 fr H]
        exact ⟨_, _, _, rfl, rfl, rfl⟩
  · obtain rfl : k = l.length := by omega
    rw [List.drop_length, List.all_nil, joinE, List.append_nil]
    simp (disch := first | omega | (simp only [List.length_append, List.length_map, List.length_set, List.length_cons, List.length_nil, List.length_take, List.length_drop, rowsEv_len]; omega)) only [va0, va1, va2, va3, va4, va5, va6, va7, va8, va9, va10, va11, va12, va13, va14, va15, vb0, vb1, vb2, vb3, w_i8, w_u8, w_i16, w_u16, w_i32, w_u32, w_i64, w_u64, lt_T, lt_F, le_T, le_F, nlt_T, nlt_F, nle_T, nle_F, List.take_of_length_le, gB, gcW, gcR, posIn, renA, renL, Chunk.ren, Chunk.refs, evOpD, touchD, stepC, isFresh, nFresh, freshOf, mkR, hole, evL, evH, opd, get, putD, ofVal, cellOf, loadE, behind, lenE, idxAddrE, idxE, addPtr, intE, strE, unE, convE, AV.int, AV.bool, AV.str, ivs, take, frameOf, firstRegion, refsA, refsL, one, cellsA, floatOk, apartT, List.map, if_true, if_false, E_P, E_glob0, reduceCtorEq, beq_self_eq_true, decide_true, decide_false, ↓reduceIte, Nat.reduceEqDiff, cond_true, cond_false, or_true, true_or, or_false, false_or, and_true, true_and, and_self, false_and, and_false, not_true, not_false_iff, Nat.reduceAdd, Nat.reduceSub, Nat.reduceMul, Nat.reduceLT, Nat.reduceLeDiff, Int.reduceToNat, Int.reduceLT, Int.reduceLE, Option.getD, Int.reduceMul, Int.reduceAdd, List.drop, List.take, Nat.reduceBEq, List.isEmpty, Int.reduceEq, Int.reduceNe, Int.reduceNeg, Int.reduceGT, Int.reduceGE, beq_true, beq_false, UInt8.reduceToNat, eqE, eq_self, foldE, maxE, minE, eq_T, eq_F, ndec, odec, adec, sdec, fillA, over, chop, List.replicate, leavesOk, leafOk, cellsEq, cellEq, E_byref, en7, bs26, rowsEv_len, show ∀ B fr H, execT E B 7 (Code.loop _) fr H = rlG E B 7 (loopAt Tryd.f7 0) (gcn B (norm [0, 3, 14, 15, 16] fr) H) from fun B fr H => rl_intro rfl mt7_5 mb7_5 zf7_5 hd7_5 fr H]
    exact ⟨_, _, _, rfl, rfl, rfl, rfl, rfl⟩
termination_by l.length - k
theorem law7 (l : List Ev) (hr : ∀ e ∈ l, EvR e) (hbig : (l.length : Int) < 9223372036854775808) : ∃ L, callT E 7 [.i (.sl 7 (rowsEv l) false)] [] = some (.i (.v (.bool true)), L) := by
  by_cases hl : 10 < (l.length : Int)
  · rw [callT_eq Tryd.func7 rfl fok7 (by simp [Tryd.ntmps7])]
    simp (disch := first | omega | (simp only [List.length_append, List.length_map, List.length_set, List.length_cons, List.length_nil, List.length_take, List.length_drop, rowsEv_len]; omega)) only [va0, va1, va2, va3, va4, va5, va6, va7, va8, va9, va10, va11, va12, va13, va14, va15, vb0, vb1, vb2, vb3, w_i8, w_u8, w_i16, w_u16, w_i32, w_u32, w_i64, w_u64, lt_T, lt_F, le_T, le_F, nlt_T, nlt_F, nle_T, nle_F, List.take_of_length_le, gB, gcW, gcR, posIn, renA, renL, Chunk.ren, Chunk.refs, evOpD, touchD, stepC, isFresh, nFresh, freshOf, mkR, hole, evL, evH, opd, get, putD, ofVal, cellOf, loadE, behind, lenE, idxAddrE, idxE, addPtr, intE, strE, unE, convE, AV.int, AV.bool, AV.str, ivs, take, frameOf, firstRegion, refsA, refsL, one, cellsA, floatOk, apartT, List.map, if_true, if_false, E_P, E_glob0, reduceCtorEq, beq_self_eq_true, decide_true, decide_false, ↓reduceIte, Nat.reduceEqDiff, cond_true, cond_false, or_true, true_or, or_false, false_or, and_true, true_and, and_self, false_and, and_false, not_true, not_false_iff, Nat.reduceAdd, Nat.reduceSub, Nat.reduceMul, Nat.reduceLT, Nat.reduceLeDiff, Int.reduceToNat, Int.reduceLT, Int.reduceLE, Option.getD, Int.reduceMul, Int.reduceAdd, List.drop, List.take, Nat.reduceBEq, List.isEmpty, Int.reduceEq, Int.reduceNe, Int.reduceNeg, Int.reduceGT, Int.reduceGE, beq_true, beq_false, UInt8.reduceToNat, eqE, eq_self, foldE, maxE, minE, eq_T, eq_F, ndec, odec, adec, sdec, fillA, over, chop, List.replicate, leavesOk, leafOk, cellsEq, cellEq, E_byref, en7, bs26, hl, rowsEv_len, ik9]
    exact ⟨_, rfl⟩
  · obtain ⟨fr, ex, H', e, hh⟩ := l7 l (by omega) hr 0 (Nat.zero_le _) [] (by simp)
    rw [List.drop_zero] at hh
    rw [List.nil_append] at hh
    have e' : rl E 0 7 (loopAt Tryd.f7 0) [(0, .i (.sl 7 (rowsEv l) false)), (3, .i (.str ([]))), (14, .i (.sl 7 (rowsEv l) false)), (15, .i (.v (.int .i64 l.length))), (16, .i (.v (.int .i64 (0))))] [] = _ := e
    cases hall : l.all okB with
    | false =>
      rw [hall] at hh
      obtain ⟨rfl, h2⟩ := hh
      rw [callT_eq Tryd.func7 rfl fok7 (by simp [Tryd.ntmps7])]
      simp (disch := first | omega | (simp only [List.length_append, List.length_map, List.length_set, List.length_cons, List.length_nil, List.length_take, List.length_drop, rowsEv_len]; omega)) only [va0, va1, va2, va3, va4, va5, va6, va7, va8, va9, va10, va11, va12, va13, va14, va15, vb0, vb1, vb2, vb3, w_i8, w_u8, w_i16, w_u16, w_i32, w_u32, w_i64, w_u64, lt_T, lt_F, le_T, le_F, nlt_T, nlt_F, nle_T, nle_F, List.take_of_length_le, gB, gcW, gcR, posIn, renA, renL, Chunk.ren, Chunk.refs, evOpD, touchD, stepC, isFresh, nFresh, freshOf, mkR, hole, evL, evH, opd, get, putD, ofVal, cellOf, loadE, behind, lenE, idxAddrE, idxE, addPtr, intE, strE, unE, convE, AV.int, AV.bool, AV.str, ivs, take, frameOf, firstRegion, refsA, refsL, one, cellsA, floatOk, apartT, List.map, if_true, if_false, E_P, E_glob0, reduceCtorEq, beq_self_eq_true, decide_true, decide_false, ↓reduceIte, Nat.reduceEqDiff, cond_true, cond_false, or_true, true_or, or_false, false_or, and_true, true_and, and_self, false_and, and_false, not_true, not_false_iff, Nat.reduceAdd, Nat.reduceSub, Nat.reduceMul, Nat.reduceLT, Nat.reduceLeDiff, Int.reduceToNat, Int.reduceLT, Int.reduceLE, Option.getD, Int.reduceMul, Int.reduceAdd, List.drop, List.take, Nat.reduceBEq, List.isEmpty, Int.reduceEq, Int.reduceNe, Int.reduceNeg, Int.reduceGT, Int.reduceGE, beq_true, beq_false, UInt8.reduceToNat, eqE, eq_self, foldE, maxE, minE, eq_T, eq_F, ndec, odec, adec, sdec, fillA, over, chop, List.replicate, leavesOk, leafOk, cellsEq, cellEq, E_byref, en7, bs26, hl, rowsEv_len, e', h2, show ∀ B fr H, execT E B 7 (Code.loop _) fr H = rlG E B 7 (loopAt Tryd.f7 0) (gcn B (norm [0, 3, 14, 15, 16] fr) H) from fun B fr H => rl_intro rfl mt7_5 mb7_5 zf7_5 hd7_5 fr H]
      exact ⟨_, rfl⟩
    | true =>
      rw [hall] at hh
      obtain ⟨rfl, rfl, h3, h0⟩ := hh
      have hg : goodL l := fun x hx => by
        have := List.all_eq_true.1 hall x hx
        simp only [okB, Bool.and_eq_true, decide_eq_true_eq] at this
        exact ⟨hr x hx, this.2⟩
      have hfd : feedS p0 (joinE l) = (p0, l) := by
        unfold feedS
        rw [show startS p0 = p0 from start_of (proper_zero 0 (by omega))]
        exact run_join l hg
      have hjl := joinE_len l hg
      have hF := fun H => ik10_0 _ _ hfd (by omega) H
      have hfew : evFew l := fun y hy => by have := (check_len (hg y hy).2).2.2.1; omega
      have hS := fun H => ik16 l (by omega) hfew H
      have heq := eqP 0 0 [] [] [] []
      simp only [decide_true, beq_self_eq_true, Bool.and_self] at heq
      rw [callT_eq Tryd.func7 rfl fok7 (by simp [Tryd.ntmps7])]
      simp (disch := first | omega | (simp only [List.length_append, List.length_map, List.length_set, List.length_cons, List.length_nil, List.length_take, List.length_drop, rowsEv_len]; omega)) only [va0, va1, va2, va3, va4, va5, va6, va7, va8, va9, va10, va11, va12, va13, va14, va15, vb0, vb1, vb2, vb3, w_i8, w_u8, w_i16, w_u16, w_i32, w_u32, w_i64, w_u64, lt_T, lt_F, le_T, le_F, nlt_T, nlt_F, nle_T, nle_F, List.take_of_length_le, gB, gcW, gcR, posIn, renA, renL, Chunk.ren, Chunk.refs, evOpD, touchD, stepC, isFresh, nFresh, freshOf, mkR, hole, evL, evH, opd, get, putD, ofVal, cellOf, loadE, behind, lenE, idxAddrE, idxE, addPtr, intE, strE, unE, convE, AV.int, AV.bool, AV.str, ivs, take, frameOf, firstRegion, refsA, refsL, one, cellsA, floatOk, apartT, List.map, if_true, if_false, E_P, E_glob0, reduceCtorEq, beq_self_eq_true, decide_true, decide_false, ↓reduceIte, Nat.reduceEqDiff, cond_true, cond_false, or_true, true_or, or_false, false_or, and_true, true_and, and_self, false_and, and_false, not_true, not_false_iff, Nat.reduceAdd, Nat.reduceSub, Nat.reduceMul, Nat.reduceLT, Nat.reduceLeDiff, Int.reduceToNat, Int.reduceLT, Int.reduceLE, Option.getD, Int.reduceMul, Int.reduceAdd, List.drop, List.take, Nat.reduceBEq, List.isEmpty, Int.reduceEq, Int.reduceNe, Int.reduceNeg, Int.reduceGT, Int.reduceGE, beq_true, beq_false, UInt8.reduceToNat, eqE, eq_self, foldE, maxE, minE, eq_T, eq_F, ndec, odec, adec, sdec, fillA, over, chop, List.replicate, leavesOk, leafOk, cellsEq, cellEq, E_byref, en7, bs26, hl, rowsEv_len, e', h3, h0, hF, hS, heq, ik17_0, ik9, show ∀ B fr H, execT E B 7 (Code.loop _) fr H = rlG E B 7 (loopAt Tryd.f7 0) (gcn B (norm [0, 3, 14, 15, 16] fr) H) from fun B fr H => rl_intro rfl mt7_5 mb7_5 zf7_5 hd7_5 fr H]
      exact ⟨_, rfl⟩
abbrev EvT := Int × Int × Int × Int × List UInt8 × List Int × List UInt8
def evOf (a : EvT) : Ev := ⟨a.1, a.2.1, a.2.2.1, a.2.2.2.1, a.2.2.2.2.1, a.2.2.2.2.2.1, a.2.2.2.2.2.2⟩
theorem c7 (l : List EvT) (hl : l.length ≤ 9223372036854775807) (hw : ∀ a ∈ l, (-2147483648 ≤ a.2.1 ∧ a.2.1 ≤ 2147483647) ∧ (0 ≤ a.2.2.1 ∧ a.2.2.1 ≤ 255) ∧ (0 ≤ a.2.2.2.1 ∧ a.2.2.2.1 ≤ 255)) :
    ∃ L, callT E 7 [.i (.sl 7 (l.map fun a => evC (evOf a)) false)] [] = some (.i (.v (.bool true)), L) := by
  have h := law7 (l.map evOf) (fun e he => by
    obtain ⟨a, ha, rfl⟩ := List.mem_map.1 he
    obtain ⟨h1, h2, h3⟩ := hw a ha
    exact ⟨h1, ⟨h2.1, by simp only [evOf]; omega⟩, ⟨h3.1, by simp only [evOf]; omega⟩⟩) (by rw [List.length_map]; omega)
  have he : rowsEv (l.map evOf) = l.map fun a => evC (evOf a) := by simp [rowsEv, List.map_map, Function.comp_def]
  rw [he] at h
  exact h
end Go.VI

namespace Go.Proofs
open Go.Shelf
def Tryd.laysAI_ren : Go.Shelf.Ren := ⟨fun | 176 => 42 | 249 => 59 | 288 => 63 | 283 => 65 | 284 => 66 | 285 => 67 | 286 => 68 | 129 => 70 | 317 => 69 | 318 => 71 | 319 => 72 | 320 => 73 | 337 => 74 | 338 => 75 | n => n, fun | 37 => 47 | 2 => 2 | 3 => 3 | 53 => 81 | 4 => 4 | 9 => 9 | 171 => 84 | 0 => 0 | 173 => 87 | 212 => 91 | 51 => 75 | 5 => 5 | 20 => 20 | 213 => 92 | 46 => 68 | 232 => 95 | 233 => 96 | n => n, fun | 17 => 0 | 18 => 1 | 19 => 2 | n => n⟩
theorem Tryd.laysAI : Go.Proofs.LaysM.n176 Tryd.prog Tryd.laysAI_ren := {
  mixed := by kernel_rfl
  f129 := Tryd.func70.trans (congrArg some (by kernel_rfl))
  f176 := Tryd.func42.trans (congrArg some (by kernel_rfl))
  f249 := Tryd.func59.trans (congrArg some (by kernel_rfl))
  f283 := Tryd.func65.trans (congrArg some (by kernel_rfl))
  f284 := Tryd.func66.trans (congrArg some (by kernel_rfl))
  f285 := Tryd.func67.trans (congrArg some (by kernel_rfl))
  f286 := Tryd.func68.trans (congrArg some (by kernel_rfl))
  f288 := Tryd.func63.trans (congrArg some (by kernel_rfl))
  f317 := Tryd.func69.trans (congrArg some (by kernel_rfl))
  f318 := Tryd.func71.trans (congrArg some (by kernel_rfl))
  f319 := Tryd.func72.trans (congrArg some (by kernel_rfl))
  f320 := Tryd.func73.trans (congrArg some (by kernel_rfl))
  f337 := Tryd.func74.trans (congrArg some (by kernel_rfl))
  f338 := Tryd.func75.trans (congrArg some (by kernel_rfl))
  t0 := Tryd.underlying0
  a0 := Tryd.isAgg0
  z0 := Tryd.sizeOf0
  v0 := Tryd.zeroValue0
  t2 := Tryd.underlying2
  a2 := Tryd.isAgg2
  z2 := Tryd.sizeOf2
  v2 := Tryd.zeroValue2
  t3 := Tryd.underlying3
  a3 := Tryd.isAgg3
  z3 := Tryd.sizeOf3
  v3 := Tryd.zeroValue3
  t4 := Tryd.underlying4
  a4 := Tryd.isAgg4
  z4 := Tryd.sizeOf4
  v4 := Tryd.zeroValue4
  t5 := Tryd.underlying5
  a5 := Tryd.isAgg5
  z5 := Tryd.sizeOf5
  v5 := Tryd.zeroValue5
  t9 := Tryd.underlying9
  a9 := Tryd.isAgg9
  z9 := Tryd.sizeOf9
  v9 := Tryd.zeroValue9
  t20 := Tryd.underlying20
  a20 := Tryd.isAgg20
  z20 := Tryd.sizeOf20
  v20 := Tryd.zeroValue20
  t37 := Tryd.underlying47
  a37 := Tryd.isAgg47
  z37 := Tryd.sizeOf47
  v37 := Tryd.zeroValue47
  t46 := Tryd.underlying68
  a46 := Tryd.isAgg68
  z46 := Tryd.sizeOf68
  v46 := Tryd.zeroValue68
  t51 := Tryd.underlying75
  a51 := Tryd.isAgg75
  z51 := Tryd.sizeOf75
  v51 := Tryd.zeroValue75
  t53 := Tryd.underlying81
  a53 := Tryd.isAgg81
  z53 := Tryd.sizeOf81
  v53 := Tryd.zeroValue81
  t171 := Tryd.underlying84
  a171 := Tryd.isAgg84
  z171 := Tryd.sizeOf84
  v171 := Tryd.zeroValue84
  t173 := Tryd.underlying87
  a173 := Tryd.isAgg87
  z173 := Tryd.sizeOf87
  v173 := Tryd.zeroValue87
  t212 := Tryd.underlying91
  a212 := Tryd.isAgg91
  z212 := Tryd.sizeOf91
  v212 := Tryd.zeroValue91
  t213 := Tryd.underlying92
  a213 := Tryd.isAgg92
  z213 := Tryd.sizeOf92
  t232 := Tryd.underlying95
  a232 := Tryd.isAgg95
  z232 := Tryd.sizeOf95
  v232 := Tryd.zeroValue95
  t233 := Tryd.underlying96
  a233 := Tryd.isAgg96
  z233 := Tryd.sizeOf96
  v233 := Tryd.zeroValue96
  g17 := by kernel_rfl
  g18 := by kernel_rfl
  g19 := by kernel_rfl
  i0 := by kernel_rfl
  i2 := by kernel_rfl
  i3 := by kernel_rfl
  i4 := by kernel_rfl
  i5 := by kernel_rfl
  i9 := by kernel_rfl
  i20 := by kernel_rfl
  i37 := by kernel_rfl
  i46 := by kernel_rfl
  i51 := by kernel_rfl
  i53 := by kernel_rfl
  i171 := by kernel_rfl
  i173 := by kernel_rfl
  i212 := by kernel_rfl
  i232 := by kernel_rfl
  i233 := by kernel_rfl
  m17 := by kernel_rfl
  m18 := by kernel_rfl
  m19 := by kernel_rfl }
end Go.Proofs

set_option linter.unusedSimpArgs false
set_option linter.unusedVariables false
namespace Go.VI
open Go.Proofs
theorem extOK : ExtOK E := by
  intro f h hf
  have h2 := E_extI f h hf
  rcases h2 with ⟨rfl, rfl⟩ | h2
  · exact ext_appendInt (E := E) (ρ := Tryd.laysAI_ren) Tryd.laysAI rfl
  · exact h2.elim
theorem laid_tail {P : Program} {W : World} {x : String × DataW Unit} {l : List (String × DataW Unit)} (h : laidMet P (x :: l) W) : laidMet P l W := by
  obtain ⟨ps, ⟨g, t, cs, fuel, p, q, _, _, _, _, hr, rfl⟩, hnd, hrows⟩ := h
  exact ⟨q, hr, hnd.sublist (List.sublist_append_right _ _), fun b off hp => hrows b off (List.mem_append.2 (.inr hp))⟩
theorem glob_of_tab {P : Program} {W : World} {name : String} {g : Nat} (hg : P.globalNamed name = some g) (h : Lib.TabIs P W name .u64 Lib.pow10Tab) : RelI (imm0 W) (.pt powT 0) (.pointer (some ⟨g, 0, none⟩)) := by
  unfold Lib.TabIs World.var? at h
  rw [hg] at h
  simp only [Option.bind_some] at h
  split at h
  · rename_i cs e fz hh
    simp only [Option.some.injEq] at h
    refine .pt powT 0 g 0 cs e fz (fun k => .int .u64 (Lib.pow10Tab.getD k 0)) hh (fun k a hk => ?_) (fun k a hk => ?_)
    · have hl : k < Lib.pow10Tab.length := by
        have := (List.getElem?_eq_some_iff.1 hk).1
        simpa [powT] using this
      subst h
      simp [List.getD, hl]
    · have hl : k < Lib.pow10Tab.length := by
        have := (List.getElem?_eq_some_iff.1 hk).1
        simpa [powT] using this
      simp only [powT, List.getElem?_map, List.getElem?_eq_getElem hl, Option.map_some, Option.some.injEq] at hk
      subst hk
      simp [List.getD, hl]
      exact .v _ rfl
  · cases h
theorem globs {W : World} {name : String} (hn : Tryd.prog.globalNamed name = some (Tryd.laysAI_ren.g 17)) (h : Lib.TabIs Tryd.prog W name .u64 Lib.pow10Tab) : ∀ g cells, E.glob g = some cells → RelI (imm0 W) (.pt cells 0) (.pointer (some ⟨g, 0, none⟩)) := by
  intro g cells hg
  rcases E_globI g cells hg with ⟨rfl, rfl⟩ | h'
  · exact glob_of_tab hn h
  · exact h'.elim
end Go.VI

