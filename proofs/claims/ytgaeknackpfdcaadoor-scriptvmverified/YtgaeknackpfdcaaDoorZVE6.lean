import Derived.Lib.LaidTab
import Derived.MakeChecks
import Derived.Test.YtgaeknackpfdcaaDoorZVE5
namespace Go.VI
open Go.Proofs
set_option maxRecDepth 100000
set_option linter.unusedSimpArgs false
set_option linter.unusedVariables false
set_option maxHeartbeats 4000000
def longG (g : List Gl) : Bool := g.any fun x => decide (40 < (x.1.length : Int))
def greatB (n : Nat) (g : List Gl) : Bool := decide (520 < (n : Int)) || decide (100 < (g.length : Int)) || longG g
def grP (b : Bool) (fr : Fr) (ex : Ex) : Prop := (b = false ∧ ex = .exit 0) ∨ (b = true ∧ ex = .ret ∧ get 4 fr = .i (.v (.int .i64 1)))
theorem l11 (g : List Gl) (hg : g.length ≤ 100) (k : Nat) (hk : k ≤ g.length) :
    ∃ fr ex H', rl E 0 11 (loopAt Tryd.f11 0) [(1, .i (.sl 3 (rowsG g) false)), (5, .i (.v (.int .i64 k)))] [] = some (ex, fr, H') ∧ grP (longG (g.drop k)) fr ex := by
  by_cases hlt : k < g.length
  · have hrow := rowsG_at hlt
    rw [List.drop_eq_getElem_cons hlt]
    obtain ⟨fr, ex, H', e, hh⟩ := l11 g hg (k + 1) hlt
    generalize g[k] = a at *
    obtain ⟨t, cc, s⟩ := a
    have hq : longG ((t, cc, s) :: g.drop (k + 1)) = (decide (40 < (t.length : Int)) || longG (g.drop (k + 1))) := by simp only [longG, List.any_cons]
    rw [hq]
    simp only at hrow
    rw [rl_step (fn := Tryd.f11) (k := 0) rfl]
    by_cases h4 : 40 < (t.length : Int)
    · rw [decide_eq_true h4, Bool.true_or]
      clear e hh
      simp (disch := first | omega | (simp only [List.length_append, List.length_map, List.length_set, List.length_cons, List.length_nil, List.length_take, List.length_drop, rowsG_len]; omega)) only [va0, va1, va2, va3, va4, va5, va6, va7, va8, va9, va10, va11, va12, va13, va14, va15, vb0, vb1, vb2, vb3, w_i8, w_u8, w_i16, w_u16, w_i32, w_u32, w_i64, w_u64, lt_T, lt_F, le_T, le_F, nlt_T, nlt_F, nle_T, nle_F, List.take_of_length_le, gB, gcW, gcR, posIn, renA, renL, Chunk.ren, Chunk.refs, evOpD, touchD, stepC, isFresh, nFresh, freshOf, mkR, hole, evL, evH, opd, get, putD, ofVal, cellOf, loadE, behind, lenE, idxAddrE, idxE, lookE, lookM, addPtr, intE, strE, unE, convE, AV.int, AV.bool, AV.str, ivs, take, frameOf, firstRegion, refsA, refsL, one, cellsA, floatOk, apartT, List.map, if_true, if_false, E_P, E_glob0, E_glob1, reduceCtorEq, beq_self_eq_true, decide_true, decide_false, ↓reduceIte, Nat.reduceEqDiff, cond_true, cond_false, or_true, true_or, or_false, false_or, and_true, true_and, and_self, false_and, and_false, not_true, not_false_iff, Nat.reduceAdd, Nat.reduceSub, Nat.reduceMul, Nat.reduceLT, Nat.reduceLeDiff, Int.reduceToNat, Int.reduceLT, Int.reduceLE, Option.getD, Int.reduceMul, Int.reduceAdd, List.drop, List.take, Nat.reduceBEq, List.isEmpty, Int.reduceEq, Int.reduceNe, Int.reduceNeg, Int.reduceGT, Int.reduceGE, beq_true, beq_false, UInt8.reduceToNat, eqE, eq_self, foldE, maxE, minE, eq_T, eq_F, ndec, odec, adec, sdec, fillA, over, chop, List.replicate, leavesOk, leafOk, cellsEq, cellEq, E_byref, en11, bs22, bs23, hrow, rowsG_len, h4, show ∀ B fr H, execT E B 11 (Code.loop _) fr H = rlG E B 11 (loopAt Tryd.f11 0) (gcn B (norm [1, 5] fr) H) from fun B fr H => rl_intro rfl mt11_4 mb11_4 zf11_4 hd11_4 fr H]
      exact ⟨_, _, _, rfl, .inr ⟨rfl, rfl, rfl⟩⟩
    · rw [decide_eq_false h4, Bool.false_or]
      refine ⟨fr, ex, H', Eq.trans ?_ e, hh⟩
      clear e hh
      simp (disch := first | omega | (simp only [List.length_append, List.length_map, List.length_set, List.length_cons, List.length_nil, List.length_take, List.length_drop, rowsG_len]; omega)) only [va0, va1, va2, va3, va4, va5, va6, va7, va8, va9, va10, va11, va12, va13, va14, va15, vb0, vb1, vb2, vb3, w_i8, w_u8, w_i16, w_u16, w_i32, w_u32, w_i64, w_u64, lt_T, lt_F, le_T, le_F, nlt_T, nlt_F, nle_T, nle_F, List.take_of_length_le, gB, gcW, gcR, posIn, renA, renL, Chunk.ren, Chunk.refs, evOpD, touchD, stepC, isFresh, nFresh, freshOf, mkR, hole, evL, evH, opd, get, putD, ofVal, cellOf, loadE, behind, lenE, idxAddrE, idxE, lookE, lookM, addPtr, intE, strE, unE, convE, AV.int, AV.bool, AV.str, ivs, take, frameOf, firstRegion, refsA, refsL, one, cellsA, floatOk, apartT, List.map, if_true, if_false, E_P, E_glob0, E_glob1, reduceCtorEq, beq_self_eq_true, decide_true, decide_false, ↓reduceIte, Nat.reduceEqDiff, cond_true, cond_false, or_true, true_or, or_false, false_or, and_true, true_and, and_self, false_and, and_false, not_true, not_false_iff, Nat.reduceAdd, Nat.reduceSub, Nat.reduceMul, Nat.reduceLT, Nat.reduceLeDiff, Int.reduceToNat, Int.reduceLT, Int.reduceLE, Option.getD, Int.reduceMul, Int.reduceAdd, List.drop, List.take, Nat.reduceBEq, List.isEmpty, Int.reduceEq, Int.reduceNe, Int.reduceNeg, Int.reduceGT, Int.reduceGE, beq_true, beq_false, UInt8.reduceToNat, eqE, eq_self, foldE, maxE, minE, eq_T, eq_F, ndec, odec, adec, sdec, fillA, over, chop, List.replicate, leavesOk, leafOk, cellsEq, cellEq, E_byref, en11, bs22, bs23, hrow, rowsG_len, h4, show ∀ B fr H, execT E B 11 (Code.loop _) fr H = rlG E B 11 (loopAt Tryd.f11 0) (gcn B (norm [1, 5] fr) H) from fun B fr H => rl_intro rfl mt11_4 mb11_4 zf11_4 hd11_4 fr H]
  · obtain rfl : k = g.length := by omega
    rw [List.drop_length]
    rw [rl_step (fn := Tryd.f11) (k := 0) rfl]
    simp (disch := first | omega | (simp only [List.length_append, List.length_map, List.length_set, List.length_cons, List.length_nil, List.length_take, List.length_drop, rowsG_len]; omega)) only [va0, va1, va2, va3, va4, va5, va6, va7, va8, va9, va10, va11, va12, va13, va14, va15, vb0, vb1, vb2, vb3, w_i8, w_u8, w_i16, w_u16, w_i32, w_u32, w_i64, w_u64, lt_T, lt_F, le_T, le_F, nlt_T, nlt_F, nle_T, nle_F, List.take_of_length_le, gB, gcW, gcR, posIn, renA, renL, Chunk.ren, Chunk.refs, evOpD, touchD, stepC, isFresh, nFresh, freshOf, mkR, hole, evL, evH, opd, get, putD, ofVal, cellOf, loadE, behind, lenE, idxAddrE, idxE, lookE, lookM, addPtr, intE, strE, unE, convE, AV.int, AV.bool, AV.str, ivs, take, frameOf, firstRegion, refsA, refsL, one, cellsA, floatOk, apartT, List.map, if_true, if_false, E_P, E_glob0, E_glob1, reduceCtorEq, beq_self_eq_true, decide_true, decide_false, ↓reduceIte, Nat.reduceEqDiff, cond_true, cond_false, or_true, true_or, or_false, false_or, and_true, true_and, and_self, false_and, and_false, not_true, not_false_iff, Nat.reduceAdd, Nat.reduceSub, Nat.reduceMul, Nat.reduceLT, Nat.reduceLeDiff, Int.reduceToNat, Int.reduceLT, Int.reduceLE, Option.getD, Int.reduceMul, Int.reduceAdd, List.drop, List.take, Nat.reduceBEq, List.isEmpty, Int.reduceEq, Int.reduceNe, Int.reduceNeg, Int.reduceGT, Int.reduceGE, beq_true, beq_false, UInt8.reduceToNat, eqE, eq_self, foldE, maxE, minE, eq_T, eq_F, ndec, odec, adec, sdec, fillA, over, chop, List.replicate, leavesOk, leafOk, cellsEq, cellEq, E_byref, en11, bs22, bs23, rowsG_len, show ∀ B fr H, execT E B 11 (Code.loop _) fr H = rlG E B 11 (loopAt Tryd.f11 0) (gcn B (norm [1, 5] fr) H) from fun B fr H => rl_intro rfl mt11_4 mb11_4 zf11_4 hd11_4 fr H]
    exact ⟨_, _, _, rfl, .inl ⟨rfl, rfl⟩⟩
termination_by g.length - k
theorem c11 (l : List Ins) (g : List Gl) (hl : (l.length : Int) < 9223372036854775808) (hg : (g.length : Int) < 9223372036854775808) : ∃ L, callT E 11 [.i (.sl 2 (rowsI l) false), .i (.sl 3 (rowsG g) false)] [] = some (.i (.v (.int .i64 (if greatB l.length g = true then 1 else 0))), L) := by
  unfold greatB
  by_cases h1 : 520 < (l.length : Int)
  · rw [decide_eq_true h1, Bool.true_or, Bool.true_or, if_pos rfl]
    rw [callT_eq Tryd.func11 rfl fok11 (by simp [Tryd.ntmps11])]
    simp (disch := first | omega | (simp only [List.length_append, List.length_map, List.length_set, List.length_cons, List.length_nil, List.length_take, List.length_drop, rowsI_len, rowsG_len]; omega)) only [va0, va1, va2, va3, va4, va5, va6, va7, va8, va9, va10, va11, va12, va13, va14, va15, vb0, vb1, vb2, vb3, w_i8, w_u8, w_i16, w_u16, w_i32, w_u32, w_i64, w_u64, lt_T, lt_F, le_T, le_F, nlt_T, nlt_F, nle_T, nle_F, List.take_of_length_le, gB, gcW, gcR, posIn, renA, renL, Chunk.ren, Chunk.refs, evOpD, touchD, stepC, isFresh, nFresh, freshOf, mkR, hole, evL, evH, opd, get, putD, ofVal, cellOf, loadE, behind, lenE, idxAddrE, idxE, lookE, lookM, addPtr, intE, strE, unE, convE, AV.int, AV.bool, AV.str, ivs, take, frameOf, firstRegion, refsA, refsL, one, cellsA, floatOk, apartT, List.map, if_true, if_false, E_P, E_glob0, E_glob1, reduceCtorEq, beq_self_eq_true, decide_true, decide_false, ↓reduceIte, Nat.reduceEqDiff, cond_true, cond_false, or_true, true_or, or_false, false_or, and_true, true_and, and_self, false_and, and_false, not_true, not_false_iff, Nat.reduceAdd, Nat.reduceSub, Nat.reduceMul, Nat.reduceLT, Nat.reduceLeDiff, Int.reduceToNat, Int.reduceLT, Int.reduceLE, Option.getD, Int.reduceMul, Int.reduceAdd, List.drop, List.take, Nat.reduceBEq, List.isEmpty, Int.reduceEq, Int.reduceNe, Int.reduceNeg, Int.reduceGT, Int.reduceGE, beq_true, beq_false, UInt8.reduceToNat, eqE, eq_self, foldE, maxE, minE, eq_T, eq_F, ndec, odec, adec, sdec, fillA, over, chop, List.replicate, leavesOk, leafOk, cellsEq, cellEq, E_byref, en11, bs22, bs23, rowsI_len, rowsG_len, h1]
    exact ⟨_, rfl⟩
  · by_cases h2 : 100 < (g.length : Int)
    · rw [decide_eq_true h2, Bool.or_true, Bool.true_or, if_pos rfl]
      rw [callT_eq Tryd.func11 rfl fok11 (by simp [Tryd.ntmps11])]
      simp (disch := first | omega | (simp only [List.length_append, List.length_map, List.length_set, List.length_cons, List.length_nil, List.length_take, List.length_drop, rowsI_len, rowsG_len]; omega)) only [va0, va1, va2, va3, va4, va5, va6, va7, va8, va9, va10, va11, va12, va13, va14, va15, vb0, vb1, vb2, vb3, w_i8, w_u8, w_i16, w_u16, w_i32, w_u32, w_i64, w_u64, lt_T, lt_F, le_T, le_F, nlt_T, nlt_F, nle_T, nle_F, List.take_of_length_le, gB, gcW, gcR, posIn, renA, renL, Chunk.ren, Chunk.refs, evOpD, touchD, stepC, isFresh, nFresh, freshOf, mkR, hole, evL, evH, opd, get, putD, ofVal, cellOf, loadE, behind, lenE, idxAddrE, idxE, lookE, lookM, addPtr, intE, strE, unE, convE, AV.int, AV.bool, AV.str, ivs, take, frameOf, firstRegion, refsA, refsL, one, cellsA, floatOk, apartT, List.map, if_true, if_false, E_P, E_glob0, E_glob1, reduceCtorEq, beq_self_eq_true, decide_true, decide_false, ↓reduceIte, Nat.reduceEqDiff, cond_true, cond_false, or_true, true_or, or_false, false_or, and_true, true_and, and_self, false_and, and_false, not_true, not_false_iff, Nat.reduceAdd, Nat.reduceSub, Nat.reduceMul, Nat.reduceLT, Nat.reduceLeDiff, Int.reduceToNat, Int.reduceLT, Int.reduceLE, Option.getD, Int.reduceMul, Int.reduceAdd, List.drop, List.take, Nat.reduceBEq, List.isEmpty, Int.reduceEq, Int.reduceNe, Int.reduceNeg, Int.reduceGT, Int.reduceGE, beq_true, beq_false, UInt8.reduceToNat, eqE, eq_self, foldE, maxE, minE, eq_T, eq_F, ndec, odec, adec, sdec, fillA, over, chop, List.replicate, leavesOk, leafOk, cellsEq, cellEq, E_byref, en11, bs22, bs23, rowsI_len, rowsG_len, h1, h2]
      exact ⟨_, rfl⟩
    · rw [decide_eq_false h1, decide_eq_false h2, Bool.false_or, Bool.false_or]
      obtain ⟨fr, ex, H', e, hh⟩ := l11 g (by omega) 0 (Nat.zero_le _)
      rw [List.drop_zero] at hh
      have e' : rl E 0 11 (loopAt Tryd.f11 0) [(1, .i (.sl 3 (rowsG g) false)), (5, .i (.v (.int .i64 0)))] [] = _ := e
      clear e
      rcases hh with ⟨hz, rfl⟩ | ⟨hz, rfl, h4⟩
      · rw [hz, if_neg (by decide)]
        rw [callT_eq Tryd.func11 rfl fok11 (by simp [Tryd.ntmps11])]
        simp (disch := first | omega | (simp only [List.length_append, List.length_map, List.length_set, List.length_cons, List.length_nil, List.length_take, List.length_drop, rowsI_len, rowsG_len]; omega)) only [va0, va1, va2, va3, va4, va5, va6, va7, va8, va9, va10, va11, va12, va13, va14, va15, vb0, vb1, vb2, vb3, w_i8, w_u8, w_i16, w_u16, w_i32, w_u32, w_i64, w_u64, lt_T, lt_F, le_T, le_F, nlt_T, nlt_F, nle_T, nle_F, List.take_of_length_le, gB, gcW, gcR, posIn, renA, renL, Chunk.ren, Chunk.refs, evOpD, touchD, stepC, isFresh, nFresh, freshOf, mkR, hole, evL, evH, opd, get, putD, ofVal, cellOf, loadE, behind, lenE, idxAddrE, idxE, lookE, lookM, addPtr, intE, strE, unE, convE, AV.int, AV.bool, AV.str, ivs, take, frameOf, firstRegion, refsA, refsL, one, cellsA, floatOk, apartT, List.map, if_true, if_false, E_P, E_glob0, E_glob1, reduceCtorEq, beq_self_eq_true, decide_true, decide_false, ↓reduceIte, Nat.reduceEqDiff, cond_true, cond_false, or_true, true_or, or_false, false_or, and_true, true_and, and_self, false_and, and_false, not_true, not_false_iff, Nat.reduceAdd, Nat.reduceSub, Nat.reduceMul, Nat.reduceLT, Nat.reduceLeDiff, Int.reduceToNat, Int.reduceLT, Int.reduceLE, Option.getD, Int.reduceMul, Int.reduceAdd, List.drop, List.take, Nat.reduceBEq, List.isEmpty, Int.reduceEq, Int.reduceNe, Int.reduceNeg, Int.reduceGT, Int.reduceGE, beq_true, beq_false, UInt8.reduceToNat, eqE, eq_self, foldE, maxE, minE, eq_T, eq_F, ndec, odec, adec, sdec, fillA, over, chop, List.replicate, leavesOk, leafOk, cellsEq, cellEq, E_byref, en11, bs22, bs23, rowsI_len, rowsG_len, h1, h2, e', show ∀ B fr H, execT E B 11 (Code.loop _) fr H = rlG E B 11 (loopAt Tryd.f11 0) (gcn B (norm [1, 5] fr) H) from fun B fr H => rl_intro rfl mt11_4 mb11_4 zf11_4 hd11_4 fr H]
        exact ⟨_, rfl⟩
      · rw [hz, if_pos rfl]
        rw [callT_eq Tryd.func11 rfl fok11 (by simp [Tryd.ntmps11])]
        simp (disch := first | omega | (simp only [List.length_append, List.length_map, List.length_set, List.length_cons, List.length_nil, List.length_take, List.length_drop, rowsI_len, rowsG_len]; omega)) only [va0, va1, va2, va3, va4, va5, va6, va7, va8, va9, va10, va11, va12, va13, va14, va15, vb0, vb1, vb2, vb3, w_i8, w_u8, w_i16, w_u16, w_i32, w_u32, w_i64, w_u64, lt_T, lt_F, le_T, le_F, nlt_T, nlt_F, nle_T, nle_F, List.take_of_length_le, gB, gcW, gcR, posIn, renA, renL, Chunk.ren, Chunk.refs, evOpD, touchD, stepC, isFresh, nFresh, freshOf, mkR, hole, evL, evH, opd, get, putD, ofVal, cellOf, loadE, behind, lenE, idxAddrE, idxE, lookE, lookM, addPtr, intE, strE, unE, convE, AV.int, AV.bool, AV.str, ivs, take, frameOf, firstRegion, refsA, refsL, one, cellsA, floatOk, apartT, List.map, if_true, if_false, E_P, E_glob0, E_glob1, reduceCtorEq, beq_self_eq_true, decide_true, decide_false, ↓reduceIte, Nat.reduceEqDiff, cond_true, cond_false, or_true, true_or, or_false, false_or, and_true, true_and, and_self, false_and, and_false, not_true, not_false_iff, Nat.reduceAdd, Nat.reduceSub, Nat.reduceMul, Nat.reduceLT, Nat.reduceLeDiff, Int.reduceToNat, Int.reduceLT, Int.reduceLE, Option.getD, Int.reduceMul, Int.reduceAdd, List.drop, List.take, Nat.reduceBEq, List.isEmpty, Int.reduceEq, Int.reduceNe, Int.reduceNeg, Int.reduceGT, Int.reduceGE, beq_true, beq_false, UInt8.reduceToNat, eqE, eq_self, foldE, maxE, minE, eq_T, eq_F, ndec, odec, adec, sdec, fillA, over, chop, List.replicate, leavesOk, leafOk, cellsEq, cellEq, E_byref, en11, bs22, bs23, rowsI_len, rowsG_len, h1, h2, h4, e', show ∀ B fr H, execT E B 11 (Code.loop _) fr H = rlG E B 11 (loopAt Tryd.f11 0) (gcn B (norm [1, 5] fr) H) from fun B fr H => rl_intro rfl mt11_4 mb11_4 zf11_4 hd11_4 fr H]
        exact ⟨_, rfl⟩
theorem ik11 (l : List Ins) (g : List Gl) (hl : (l.length : Int) < 9223372036854775808) (hg : (g.length : Int) < 9223372036854775808) (H : Hp) : isoK E (callT E) 11 [.i (.sl 2 (rowsI l) false), .i (.sl 3 (rowsG g) false)] H = some (.i (.v (.int .i64 (if greatB l.length g = true then 1 else 0))), H) := isoK_val rfl rfl rfl (c11 l g hl hg)
theorem ik12 (H : Hp) : isoK E (callT E) 12 [] H = some (.i (.v (.bool true)), H) := isoK_val rfl rfl rfl (ran_true (n := 200) (by kernel_rfl))
def bG (g : List Gl) : Prop := ∀ a ∈ g, a.1.length ≤ maxLen ∧ -9223372036854775808 ≤ a.2.2 ∧ a.2.2 ≤ 9223372036854775807
theorem okG_of {n : Nat} {g : List Gl} (h : greatB n g = false) (hb : bG g) : n ≤ 520 ∧ okG g := by
  unfold greatB at h
  rw [Bool.or_eq_false_iff, Bool.or_eq_false_iff] at h
  obtain ⟨⟨h1, h2⟩, h3⟩ := h
  have h1 := of_decide_eq_false h1
  have h2 := of_decide_eq_false h2
  refine ⟨by omega, by omega, fun a ha => ⟨?_, (hb a ha).2⟩⟩
  have := List.any_eq_false.1 h3 a ha
  have := of_decide_eq_false (Bool.eq_false_iff.2 this)
  omega
end Go.VI

namespace Go.VI
open Go.Proofs
set_option maxRecDepth 100000
set_option linter.unusedSimpArgs false
set_option linter.unusedVariables false
set_option maxHeartbeats 4000000
def walkF (l : List Ins) : Nat → Nat → Int → List Int
  | 0, _, _ => []
  | f + 1, i, q => if i < l.length then (i : Int) :: (if (l.getD i (0, 0)).1 = 0 then [] else if (l.getD i (0, 0)).1 = 17 then walkF l f (l.getD i (0, 0)).2.toNat q else if (l.getD i (0, 0)).1 = 18 then walkF l f (if q % 2 = 1 then (l.getD i (0, 0)).2.toNat else i + 1) (q / 2) else walkF l f (i + 1) q) else []
theorem chk1_jump {n k : Nat} {op arg : Int} (h : chk1 n k (op, arg) = 0) (hj : op = 17 ∨ op = 18) : (k : Int) + 1 ≤ arg ∧ arg ≤ n := by
  unfold chk1 at h
  simp only at h
  split at h
  · cases h
  rename_i h1
  split at h
  · cases h
  rename_i h2
  have h1 : ¬ op = 1 := by omega
  unfold boundsS at h2
  rw [if_neg h1, if_pos hj] at h2
  simp only at h2
  omega
def walkS (l : List Ins) (q : Int) : List Int := walkF l (l.length + 1) 0 q
end Go.VI

namespace Go.VI
open Go.Proofs
set_option maxRecDepth 100000
set_option linter.unusedSimpArgs false
set_option linter.unusedVariables false
set_option maxHeartbeats 4000000
theorem dSet_keep {n after : Int} : ∀ (ks out out' : List Int), dSet n after ks out = some out' → (∀ x ∈ ks, 0 ≤ x) → ∀ j : Nat, (j : Int) < n → 0 ≤ out.getD j 0 → j < out.length → out'.getD j 0 = out.getD j 0
  | [], out, out', h, hk, j, hj, h0, hl => by simp only [dSet, Option.some.injEq] at h; rw [h]
  | k :: ks, out, out', h, hk, j, hj, h0, hl => by
    simp only [dSet] at h
    split at h
    · cases h
    · rename_i hc
      have hk0 := hk k (.head _)
      have hs : (out.set k.toNat after).getD j 0 = out.getD j 0 := by
        rw [getD_set_int]
        split
        · rename_i he
          obtain ⟨rfl, _⟩ := he
          by_cases hx : out.getD k.toNat 0 = after
          · exact hx.symm
          · exact absurd ⟨by omega, h0, hx⟩ hc
        · rfl
      rw [dSet_keep ks _ out' h (fun x hx => hk x (.tail _ hx)) j hj (by rw [hs]; exact h0) (by rw [List.length_set]; exact hl), hs]
theorem dSet_hit {n after : Int} (ha : 0 ≤ after) : ∀ (ks out out' : List Int), dSet n after ks out = some out' → (∀ x ∈ ks, 0 ≤ x) → ∀ j : Nat, (j : Int) < n → j < out.length → (j : Int) ∈ ks → out'.getD j 0 = after
  | [], out, out', h, hk, j, hj, hl, hm => by cases hm
  | k :: ks, out, out', h, hk, j, hj, hl, hm => by
    simp only [dSet] at h
    split at h
    · cases h
    · rename_i hc
      rcases List.mem_cons.1 hm with e | hm
      · subst e
        have hs : (out.set (j : Int).toNat after).getD j 0 = after := by rw [getD_set_int, if_pos ⟨by omega, by omega⟩]
        rw [dSet_keep ks _ out' h (fun x hx => hk x (.tail _ hx)) j hj (by rw [hs]; exact ha) (by rw [List.length_set]; exact hl), hs]
      · exact dSet_hit ha ks _ out' h (fun x hx => hk x (.tail _ hx)) j hj (by rw [List.length_set]; exact hl) hm
structure Good (l : List Ins) : Prop where
  ok : ∀ (j : Nat) (h : j < l.length), chk1 l.length j l[j] = 0
theorem good_of {l : List Ins} (h : checkI l = 0) : Good l := ⟨check_ok h⟩
theorem good_getD {l : List Ins} {j : Nat} (h : j < l.length) : l.getD j (0, 0) = l[j] := by rw [List.getD_eq_getElem?_getD, List.getElem?_eq_getElem h]; rfl
theorem good_suc {l : List Ins} (g : Good l) {j : Nat} (h : j < l.length) : (0 ≤ (l.getD j (0, 0)).1 ∧ (l.getD j (0, 0)).1 ≤ 20) ∧ ∀ x ∈ sucL (l.getD j (0, 0)).1 (l.getD j (0, 0)).2 j, (j : Int) < x ∧ x ≤ l.length := by
  rw [good_getD h]; exact sucL_in h (g.ok j h)
theorem good_jump {l : List Ins} (g : Good l) {j : Nat} (h : j < l.length) (hj : (l.getD j (0, 0)).1 = 17 ∨ (l.getD j (0, 0)).1 = 18) : (j : Int) + 1 ≤ (l.getD j (0, 0)).2 ∧ (l.getD j (0, 0)).2 ≤ l.length := by
  rw [good_getD h] at hj ⊢; exact chk1_jump (g.ok j h) hj
theorem dStep_keep {l : List Ins} (g : Good l) {k : Nat} (hk : k < l.length) {out out' : List Int} (h : dStep l.length k (l.getD k (0, 0)) out = some out') : ∀ j : Nat, j < l.length → 0 ≤ out.getD j 0 → j < out.length → out'.getD j 0 = out.getD j 0 := fun j hj h0 hl => by
  unfold dStep at h
  split at h
  · injection h with h; rw [h]
  split at h
  · cases h
  · exact dSet_keep _ _ _ h (fun x hx => by have := (good_suc g hk).2 x hx; omega) j (by omega) h0 hl
theorem dStep_len {n i : Nat} {p : Ins} {out out' : List Int} (h : dStep n i p out = some out') : out'.length = out.length := by
  unfold dStep at h
  split at h
  · injection h with h; rw [h]
  split at h
  · cases h
  · exact dSet_len _ _ _ h
theorem dRun_next {l : List Ins} {k : Nat} (hk : k < l.length) {out fin : List Int} (h : dRun l.length k (l.drop k) out = some fin) : ∃ out', dStep l.length k (l.getD k (0, 0)) out = some out' ∧ dRun l.length (k + 1) (l.drop (k + 1)) out' = some fin := by
  rw [List.drop_eq_getElem_cons hk, dRun, ← good_getD hk] at h
  cases hd : dStep l.length k (l.getD k (0, 0)) out with
  | none => rw [hd] at h; cases h
  | some out' => rw [hd] at h; exact ⟨out', rfl, h⟩
theorem dRun_to {l : List Ins} (g : Good l) {fin : List Int} (b : Nat) (hb : b ≤ l.length) (a : Nat) (ha : a ≤ b) (out : List Int) (hl : out.length = l.length + 1) (h : dRun l.length a (l.drop a) out = some fin) :
    ∃ out', dRun l.length b (l.drop b) out' = some fin ∧ out'.length = l.length + 1 ∧ ∀ j : Nat, j < l.length → 0 ≤ out.getD j 0 → out'.getD j 0 = out.getD j 0 := by
  by_cases hlt : a < b
  · obtain ⟨o1, h1, h2⟩ := dRun_next (by omega) h
    obtain ⟨o2, g1, g2, g3⟩ := dRun_to g b hb (a + 1) hlt o1 (by rw [dStep_len h1]; exact hl) h2
    refine ⟨o2, g1, g2, fun j hj h0 => ?_⟩
    have h3 := dStep_keep g (by omega) h1 j hj h0 (by omega)
    rw [g3 j hj (by rw [h3]; exact h0), h3]
  · obtain rfl : a = b := by omega
    exact ⟨out, h, hl, fun _ _ _ => rfl⟩
termination_by b - a
theorem dRun_fin {l : List Ins} (g : Good l) {fin : List Int} (a : Nat) (ha : a ≤ l.length) (out : List Int) (hl : out.length = l.length + 1) (h : dRun l.length a (l.drop a) out = some fin) : fin.length = l.length + 1 ∧ ∀ j : Nat, j < l.length → 0 ≤ out.getD j 0 → fin.getD j 0 = out.getD j 0 := by
  obtain ⟨o, g1, g2, g3⟩ := dRun_to g l.length (Nat.le_refl _) a ha out hl h
  rw [List.drop_length, dRun, Option.some.injEq] at g1
  subst g1
  exact ⟨g2, g3⟩
def pathOK (fin : List Int) (l : List Ins) : List Int → Int → Prop
  | [], _ => True
  | i :: r, d => (0 ≤ i ∧ i < l.length ∧ fin.getD i.toNat 0 = d ∧ popS (l.getD i.toNat (0, 0)).1 ≤ d ∧ d - popS (l.getD i.toNat (0, 0)).1 + pushS (l.getD i.toNat (0, 0)).1 ≤ 16 ∧ 0 ≤ d) ∧ pathOK fin l r (d - popS (l.getD i.toNat (0, 0)).1 + pushS (l.getD i.toNat (0, 0)).1)
theorem walk_end {l : List Ins} (f : Nat) {k : Nat} (q : Int) (hk : l.length ≤ k) : walkF l f k q = [] := by
  cases f with
  | zero => rfl
  | succ f => rw [walkF, if_neg (by omega)]
def nextW (p : Ins) (k : Nat) (q : Int) : Option (Nat × Int) := if p.1 = 0 then none else if p.1 = 17 then some (p.2.toNat, q) else if p.1 = 18 then some (if q % 2 = 1 then p.2.toNat else k + 1, q / 2) else some (k + 1, q)
theorem walk_step {l : List Ins} (f : Nat) {k : Nat} (q : Int) (hk : k < l.length) : walkF l (f + 1) k q = (k : Int) :: (match nextW (l.getD k (0, 0)) k q with | none => [] | some (k', q') => walkF l f k' q') := by
  rw [walkF, if_pos hk]
  unfold nextW
  by_cases h0 : (l.getD k (0, 0)).1 = 0
  · rw [if_pos h0, if_pos h0]
  · rw [if_neg h0, if_neg h0]
    by_cases h17 : (l.getD k (0, 0)).1 = 17
    · rw [if_pos h17, if_pos h17]
    · rw [if_neg h17, if_neg h17]
      by_cases h18 : (l.getD k (0, 0)).1 = 18
      · rw [if_pos h18, if_pos h18]
      · rw [if_neg h18, if_neg h18]
theorem nextW_suc {l : List Ins} (g : Good l) {k : Nat} (hk : k < l.length) {q : Int} {k' : Nat} {q' : Int} (h : nextW (l.getD k (0, 0)) k q = some (k', q')) : (k' : Int) ∈ sucL (l.getD k (0, 0)).1 (l.getD k (0, 0)).2 k ∧ k < k' ∧ k' ≤ l.length := by
  have key : (k' : Int) ∈ sucL (l.getD k (0, 0)).1 (l.getD k (0, 0)).2 k := by
    unfold nextW at h
    unfold sucL
    rw [List.mem_append]
    split at h
    · cases h
    rename_i h0
    split at h
    · rename_i h17
      have := good_jump g hk (.inl h17)
      injection h with h; injection h with h1 h2
      refine .inr ?_
      rw [if_pos (.inl h17), List.mem_singleton]; omega
    rename_i h17
    split at h
    · rename_i h18
      have := good_jump g hk (.inr h18)
      injection h with h; injection h with h1 h2
      split at h1
      · refine .inr ?_
        rw [if_pos (.inr h18), List.mem_singleton]; omega
      · refine .inl ?_
        rw [if_neg (by omega), List.mem_singleton]; omega
    · injection h with h; injection h with h1 h2
      refine .inl ?_
      rw [if_neg (by omega), List.mem_singleton]; omega
  have := (good_suc g hk).2 _ key
  exact ⟨key, by omega, by omega⟩
theorem path_ok {l : List Ins} (g : Good l) {fin : List Int} : ∀ (f k : Nat) (hk : k ≤ l.length) (out : List Int) (hl : out.length = l.length + 1) (h : dRun l.length k (l.drop k) out = some fin) (d : Int) (h0 : 0 ≤ d) (hd : k < l.length → out.getD k 0 = d) (q : Int), pathOK fin l (walkF l f k q) d
  | 0, _, _, _, _, _, _, _, _, _ => trivial
  | f + 1, k, hk, out, hl, h, d, h0, hd, q => by
    by_cases hlt : k < l.length
    · rw [walk_step f q hlt]
      have hd := hd hlt
      have hfin := (dRun_fin g k hk out hl h).2 k hlt (by omega)
      obtain ⟨o1, h1, h2⟩ := dRun_next hlt h
      have hl1 := (dStep_len h1).trans hl
      unfold dStep at h1
      rw [if_neg (by omega)] at h1
      split at h1
      · cases h1
      rename_i hc
      have hpu := pushS_r (l.getD k (0, 0)).1
      rw [hd] at hc h1
      refine ⟨?_, ?_⟩
      · exact ⟨by omega, by omega, by rw [Int.toNat_natCast, hfin, hd], by rw [Int.toNat_natCast]; omega, by rw [Int.toNat_natCast]; omega, h0⟩
      · rw [Int.toNat_natCast]
        cases hn : nextW (l.getD k (0, 0)) k q with
        | none => trivial
        | some kq =>
          obtain ⟨k', q'⟩ := kq
          obtain ⟨hs, hb1, hb2⟩ := nextW_suc g hlt hn
          simp only
          obtain ⟨o2, g1, g2, g3⟩ := dRun_to g k' hb2 (k + 1) hb1 o1 hl1 h2
          refine path_ok g f k' hb2 o2 g2 g1 _ (by omega) (fun hlt' => ?_) q'
          have hh := dSet_hit (by omega) _ _ _ h1 (fun x hx => by have := (good_suc g hlt).2 x hx; omega) k' (by omega) (by omega) hs
          rw [g3 k' hlt' (by rw [hh]; omega), hh]
    · rw [walk_end _ _ (by omega)]
      trivial
end Go.VI

namespace Go.VI
open Go.Proofs
set_option maxRecDepth 100000
set_option linter.unusedSimpArgs false
set_option linter.unusedVariables false
set_option maxHeartbeats 4000000
theorem pathOK_congr {l : List Ins} {d fin : List Int} (h : ∀ j : Nat, j < l.length → d.getD j 0 = fin.getD j 0) : ∀ (w : List Int) (dep : Int), pathOK fin l w dep → pathOK d l w dep
  | [], _, _ => trivial
  | i :: r, dep, ⟨⟨p1, p2, p3, p4⟩, hr⟩ => ⟨⟨p1, p2, by rw [h i.toNat (by omega)]; exact p3, p4⟩, pathOK_congr h r _ hr⟩
theorem getD_take (l : List Int) (n j : Nat) (h : j < n) : (l.take n).getD j 0 = l.getD j 0 := by
  rw [List.getD_eq_getElem?_getD, List.getD_eq_getElem?_getD, List.getElem?_take, if_pos h]
theorem depths_ok {l : List Ins} (h : (depthsS l).2 = 0) : ∃ fin, checkI l = 0 ∧ dRun l.length 0 l (0 :: List.replicate l.length (-1)) = some fin ∧ (depthsS l).1 = fin.take l.length ∧ fin.length = l.length + 1 := by
  unfold depthsS at h ⊢
  by_cases h0 : checkI l = 0
  · rw [if_pos h0] at h ⊢
    cases hd : dRun l.length 0 l (0 :: List.replicate l.length (-1)) with
    | none => rw [hd] at h; cases h
    | some fin =>
      refine ⟨fin, h0, rfl, rfl, ?_⟩
      exact (dRun_fin (good_of h0) 0 (Nat.zero_le _) (0 :: List.replicate l.length (-1)) (by simp) (by rw [List.drop_zero]; exact hd)).1
  · rw [if_neg h0] at h
    exact absurd h h0
theorem depths_path {l : List Ins} (h : (depthsS l).2 = 0) (f : Nat) (q : Int) : pathOK (depthsS l).1 l (walkF l f 0 q) 0 := by
  obtain ⟨fin, h0, hd, h1, h2⟩ := depths_ok h
  rw [h1]
  refine pathOK_congr (fun j hj => getD_take _ _ _ hj) _ _ ?_
  exact path_ok (good_of h0) f 0 (Nat.zero_le _) (0 :: List.replicate l.length (-1)) (by simp) (by rw [List.drop_zero]; exact hd) 0 (by omega) (fun _ => rfl) q
theorem fSet_own (i : Nat) : ∀ (xs out : List Int), (∀ x ∈ xs, (i : Int) < x) → i < out.length → ∀ j : Nat, j ≠ i → (fSet i xs out).getD j 0 = out.getD j 0
  | [], out, h, hl, j, hj => rfl
  | x :: xs, out, h, hl, j, hj => by
    rw [fSet, fSet_own i xs _ (fun y hy => h y (.tail _ hy)) (by rw [List.length_set]; exact hl) j hj, getD_set_int, if_neg (fun e => hj e.1.symm)]
theorem fSet_ge (i : Nat) : ∀ (xs out : List Int), (∀ x ∈ xs, (i : Int) < x) → i < out.length → out.getD i 0 ≤ (fSet i xs out).getD i 0 ∧ ∀ x ∈ xs, out.getD x.toNat 0 ≤ (fSet i xs out).getD i 0
  | [], out, h, hl => ⟨Int.le_refl _, fun x hx => by cases hx⟩
  | x :: xs, out, h, hl => by
    have hx := h x (.head _)
    obtain ⟨h1, h2⟩ := fSet_ge i xs (out.set i (max (out.getD i 0) (out.getD x.toNat 0))) (fun y hy => h y (.tail _ hy)) (by rw [List.length_set]; exact hl)
    rw [getD_set_int, if_pos ⟨rfl, hl⟩] at h1
    rw [fSet]
    refine ⟨by omega, fun y hy => ?_⟩
    rcases List.mem_cons.1 hy with rfl | hy
    · omega
    · have hyy := h y (.tail _ hy)
      have := h2 y hy
      rw [getD_set_int, if_neg (by omega)] at this
      exact this
theorem fSet_at (i : Nat) : ∀ (xs out : List Int), (∀ x ∈ xs, (i : Int) < x) → i < out.length → (fSet i xs out).getD i 0 = out.getD i 0 ∨ ∃ x ∈ xs, (fSet i xs out).getD i 0 = out.getD x.toNat 0
  | [], out, h, hl => .inl rfl
  | x :: xs, out, h, hl => by
    have hx := h x (.head _)
    rw [fSet]
    rcases fSet_at i xs (out.set i (max (out.getD i 0) (out.getD x.toNat 0))) (fun y hy => h y (.tail _ hy)) (by rw [List.length_set]; exact hl) with h1 | ⟨y, hy, h1⟩
    · rw [h1, getD_set_int, if_pos ⟨rfl, hl⟩]
      by_cases hm : out.getD i 0 ≤ out.getD x.toNat 0
      · exact .inr ⟨x, .head _, by omega⟩
      · exact .inl (by omega)
    · have hyy := h y (.tail _ hy)
      rw [getD_set_int, if_neg (by omega)] at h1
      exact .inr ⟨y, .tail _ hy, h1⟩
structure Most (l : List Ins) (k : Nat) (out : List Int) : Prop where
  len : out.length = l.length + 1
  low : ∀ j : Nat, j < k → out.getD j 0 = 0
  end_ : 0 ≤ out.getD l.length 0
  ge : ∀ j : Nat, k ≤ j → j ≤ l.length → ∀ f q, ((walkF l f j q).length : Int) ≤ out.getD j 0
theorem most_step {l : List Ins} (g : Good l) {k : Nat} (hk : k < l.length) {out : List Int} (h : Most l (k + 1) out) : Most l k (fStep k (l.getD k (0, 0)) out) := by
  have hs := good_suc g hk
  have hxs : ∀ x ∈ sucL (l.getD k (0, 0)).1 (l.getD k (0, 0)).2 k, (k : Int) < x := fun x hx => (hs.2 x hx).1
  have hl : k < out.length := by rw [h.len]; omega
  have hl2 := fSet_len k (sucL (l.getD k (0, 0)).1 (l.getD k (0, 0)).2 k) out
  have hother : ∀ j : Nat, j ≠ k → (fStep k (l.getD k (0, 0)) out).getD j 0 = out.getD j 0 := fun j hj => by
    unfold fStep
    rw [getD_set_int, if_neg (fun e => hj e.1.symm), fSet_own k _ _ hxs hl j hj]
  have hown : (fStep k (l.getD k (0, 0)) out).getD k 0 = (fSet k (sucL (l.getD k (0, 0)).1 (l.getD k (0, 0)).2 k) out).getD k 0 + 1 := by
    unfold fStep
    rw [getD_set_int, if_pos ⟨rfl, by rw [hl2]; exact hl⟩]
  refine ⟨by rw [fStep_len]; exact h.len, fun j hj => ?_, ?_, fun j hj hjl f q => ?_⟩
  · rw [hother j (by omega)]; exact h.low j (by omega)
  · rw [hother _ (by omega)]; exact h.end_
  · by_cases hjk : j = k
    · subst hjk
      rw [hown]
      obtain ⟨h1, h2⟩ := fSet_ge j _ _ hxs hl
      rw [h.low j (by omega)] at h1
      cases f with
      | zero => simp only [walkF, List.length_nil]; omega
      | succ f =>
        rw [walk_step f q hk, List.length_cons]
        cases hn : nextW (l.getD j (0, 0)) j q with
        | none => simp only [List.length_nil]; omega
        | some kq =>
          obtain ⟨k', q'⟩ := kq
          obtain ⟨hs', hb1, hb2⟩ := nextW_suc g hk hn
          have h3 := h2 _ hs'
          rw [Int.toNat_natCast] at h3
          have h4 := h.ge k' hb1 hb2 f q'
          simp only
          omega
    · rw [hother j hjk]; exact h.ge j (by omega) hjl f q
theorem most_run {l : List Ins} (g : Good l) : ∀ (k : Nat), k ≤ l.length → ∀ out, Most l k out → Most l 0 (fRun l k out)
  | 0, _, out, h => h
  | k + 1, hk, out, h => most_run g k (by omega) _ (most_step g hk h)
theorem getD_rep0 (n j : Nat) : (List.replicate n (0 : Int)).getD j 0 = 0 := by
  rw [List.getD_eq_getElem?_getD, List.getElem?_replicate]; split <;> rfl
theorem most_start (l : List Ins) : Most l l.length (List.replicate (l.length + 1) 0) :=
  ⟨by simp, fun j _ => getD_rep0 _ _, by rw [getD_rep0]; exact Int.le_refl _, fun j h1 h2 f q => by rw [walk_end f q h1, getD_rep0]; exact Int.le_refl _⟩
theorem fuel_ge {l : List Ins} (h : checkI l = 0) (f : Nat) (q : Int) : (fuelS l).2 = 0 ∧ ((walkF l f 0 q).length : Int) ≤ (fuelS l).1 := by
  unfold fuelS
  rw [if_pos h]
  exact ⟨rfl, (most_run (good_of h) l.length (Nat.le_refl _) _ (most_start l)).ge 0 (Nat.le_refl _) (Nat.zero_le _) f q⟩
theorem walk_len {l : List Ins} : ∀ (f k : Nat) (q : Int), (walkF l f k q).length ≤ f
  | 0, k, q => Nat.le_refl _
  | f + 1, k, q => by
    by_cases hk : k < l.length
    · rw [walk_step f q hk, List.length_cons]
      cases nextW (l.getD k (0, 0)) k q with
      | none => simp only [List.length_nil]; omega
      | some kq => have := walk_len (l := l) f kq.1 kq.2; simp only; omega
    · rw [walk_end _ _ (by omega)]; exact Nat.zero_le _
end Go.VI

namespace Go.VI
open Go.Proofs
set_option maxRecDepth 100000
set_option linter.unusedSimpArgs false
set_option linter.unusedVariables false
set_option maxHeartbeats 4000000
def jz : List Ins → Nat
  | [] => 0
  | p :: r => (if p.1 = 18 then 1 else 0) + jz r
theorem jz_drop (l : List Ins) {k : Nat} (hk : k < l.length) : jz (l.drop k) = (if (l.getD k (0, 0)).1 = 18 then 1 else 0) + jz (l.drop (k + 1)) := by
  rw [List.drop_eq_getElem_cons hk, jz, good_getD hk]
theorem jz_mono (l : List Ins) (a b : Nat) (h : a ≤ b) (hb : b ≤ l.length) : jz (l.drop b) ≤ jz (l.drop a) := by
  by_cases hlt : a < b
  · have h1 := jz_mono l (a + 1) b hlt hb
    rw [jz_drop l (k := a) (by omega)]
    omega
  · obtain rfl : a = b := by omega
    exact Nat.le_refl _
termination_by b - a
def two (n : Nat) : Int := ((2 ^ n : Nat) : Int)
theorem two_pos (n : Nat) : 1 ≤ two n := by unfold two; have := Nat.two_pow_pos n; omega
theorem two_succ (n : Nat) : two (n + 1) = 2 * two n := by unfold two; rw [Nat.pow_succ]; omega
theorem two_mono {a b : Nat} (h : a ≤ b) : two a ≤ two b := by unfold two; have := Nat.pow_le_pow_right (n := 2) (by omega) h; omega
structure Hit (l : List Ins) (k : Nat) (out : List Int) : Prop where
  len : out.length = l.length + 1
  low : ∀ j : Nat, j < k → out.getD j 0 = 0
  at_ : ∀ j : Nat, k ≤ j → j ≤ l.length → ∃ q, 0 ≤ q ∧ q < two (jz (l.drop j)) ∧ ∀ f, l.length + 1 ≤ j + f → ((walkF l f j q).length : Int) = out.getD j 0
theorem pick_next {l : List Ins} (g : Good l) {k : Nat} (hk : k < l.length) {k' : Nat} (hs : (k' : Int) ∈ sucL (l.getD k (0, 0)).1 (l.getD k (0, 0)).2 k) (q' : Int) (h0 : 0 ≤ q') (m : Nat) (h1 : q' < two m) : ∃ q, 0 ≤ q ∧ q < two ((if (l.getD k (0, 0)).1 = 18 then 1 else 0) + m) ∧ nextW (l.getD k (0, 0)) k q = some (k', q') := by
  unfold sucL at hs
  rw [List.mem_append] at hs
  unfold nextW
  by_cases h18 : (l.getD k (0, 0)).1 = 18
  · have hj := good_jump g hk (.inr h18)
    rw [if_pos h18, Nat.add_comm, two_succ]
    rw [if_neg (by omega), if_pos (.inr h18), List.mem_singleton, List.mem_singleton] at hs
    rcases hs with hs | hs
    · refine ⟨2 * q', by omega, by omega, ?_⟩
      rw [if_neg (by omega), if_neg (by omega), if_pos h18, if_neg (by omega)]
      have e1 : k + 1 = k' := by omega
      have e2 : 2 * q' / 2 = q' := by omega
      rw [e1, e2]
    · refine ⟨2 * q' + 1, by omega, by omega, ?_⟩
      rw [if_neg (by omega), if_neg (by omega), if_pos h18, if_pos (by omega)]
      have e1 : (l.getD k (0, 0)).2.toNat = k' := by omega
      have e2 : (2 * q' + 1) / 2 = q' := by omega
      rw [e1, e2]
  · rw [if_neg h18, Nat.zero_add]
    refine ⟨q', h0, h1, ?_⟩
    by_cases h17 : (l.getD k (0, 0)).1 = 17
    · rw [if_neg (by omega), if_pos h17]
      rw [if_pos (.inr h17), if_pos (.inl h17), List.mem_singleton] at hs
      rcases hs with hs | hs
      · cases hs
      · have e1 : (l.getD k (0, 0)).2.toNat = k' := by omega
        rw [e1]
    · by_cases h00 : (l.getD k (0, 0)).1 = 0
      · rw [if_pos (.inl h00), if_neg (by omega)] at hs
        rcases hs with hs | hs <;> cases hs
      · rw [if_neg h00, if_neg h17, if_neg h18]
        rw [if_neg (by omega), if_neg (by omega), List.mem_singleton] at hs
        rcases hs with hs | hs
        · have e1 : k + 1 = k' := by omega
          rw [e1]
        · cases hs
theorem sucL_nil {op arg i : Int} (h : sucL op arg i = []) : op = 0 := by
  unfold sucL at h
  rw [List.append_eq_nil_iff] at h
  by_cases h0 : op = 0
  · exact h0
  · exfalso
    obtain ⟨h1, h2⟩ := h
    by_cases h17 : op = 17
    · rw [if_pos (.inl h17)] at h2; cases h2
    · rw [if_neg (by omega)] at h1; cases h1
theorem hit_step {l : List Ins} (g : Good l) {k : Nat} (hk : k < l.length) {out : List Int} (hm : Most l (k + 1) out) (h : Hit l (k + 1) out) : Hit l k (fStep k (l.getD k (0, 0)) out) := by
  have hs := good_suc g hk
  have hxs : ∀ x ∈ sucL (l.getD k (0, 0)).1 (l.getD k (0, 0)).2 k, (k : Int) < x := fun x hx => (hs.2 x hx).1
  have hl : k < out.length := by rw [h.len]; omega
  have hl2 := fSet_len k (sucL (l.getD k (0, 0)).1 (l.getD k (0, 0)).2 k) out
  have hother : ∀ j : Nat, j ≠ k → (fStep k (l.getD k (0, 0)) out).getD j 0 = out.getD j 0 := fun j hj => by
    unfold fStep
    rw [getD_set_int, if_neg (fun e => hj e.1.symm), fSet_own k _ _ hxs hl j hj]
  have hown : (fStep k (l.getD k (0, 0)) out).getD k 0 = (fSet k (sucL (l.getD k (0, 0)).1 (l.getD k (0, 0)).2 k) out).getD k 0 + 1 := by
    unfold fStep
    rw [getD_set_int, if_pos ⟨rfl, by rw [hl2]; exact hl⟩]
  have via : ∀ k' : Nat, (k' : Int) ∈ sucL (l.getD k (0, 0)).1 (l.getD k (0, 0)).2 k → (fSet k (sucL (l.getD k (0, 0)).1 (l.getD k (0, 0)).2 k) out).getD k 0 = out.getD k' 0 →
      ∃ q, 0 ≤ q ∧ q < two (jz (l.drop k)) ∧ ∀ f, l.length + 1 ≤ k + f → ((walkF l f k q).length : Int) = (fStep k (l.getD k (0, 0)) out).getD k 0 := fun k' hk' he => by
    have hb := hs.2 _ hk'
    obtain ⟨q', p1, p2, p3⟩ := h.at_ k' (by omega) (by omega)
    obtain ⟨q, r1, r2, r3⟩ := pick_next g hk hk' q' p1 (jz (l.drop (k + 1))) (Int.lt_of_lt_of_le p2 (two_mono (jz_mono l (k + 1) k' (by omega) (by omega))))
    rw [← jz_drop l hk] at r2
    refine ⟨q, r1, r2, fun f hf => ?_⟩
    cases f with
    | zero => omega
    | succ f =>
      rw [walk_step f q hk, r3, hown, he, List.length_cons]
      simp only
      have := p3 f (by omega)
      omega
  refine ⟨by rw [fStep_len]; exact h.len, fun j hj => ?_, fun j hj hjl => ?_⟩
  · rw [hother j (by omega)]; exact h.low j (by omega)
  · by_cases hjk : j = k
    · subst hjk
      rcases fSet_at j _ _ hxs hl with h1 | ⟨x, hx, h1⟩
      · rw [h.low j (by omega)] at h1
        cases hsu : sucL (l.getD j (0, 0)).1 (l.getD j (0, 0)).2 j with
        | nil =>
          have h0 := sucL_nil hsu
          refine ⟨0, Int.le_refl _, Int.lt_of_lt_of_le (by omega) (two_pos _), fun f hf => ?_⟩
          cases f with
          | zero => omega
          | succ f =>
            rw [walk_step f 0 hk, hown, h1, nextW, if_pos h0]
            rfl
        | cons x xs =>
          have hx : x ∈ sucL (l.getD j (0, 0)).1 (l.getD j (0, 0)).2 j := by rw [hsu]; exact .head _
          have hb := hs.2 x hx
          have hge := (fSet_ge j _ _ hxs hl).2 x hx
          have h0 := hm.ge x.toNat (by omega) (by omega) 0 0
          simp only [walkF, List.length_nil] at h0
          have hc : ((x.toNat : Nat) : Int) = x := by omega
          exact via x.toNat (by rw [hc]; exact hx) (by omega)
      · have hb := hs.2 x hx
        have hc : ((x.toNat : Nat) : Int) = x := by omega
        exact via x.toNat (by rw [hc]; exact hx) h1
    · rw [hother j hjk]; exact h.at_ j (by omega) hjl
theorem hit_run {l : List Ins} (g : Good l) : ∀ (k : Nat), k ≤ l.length → ∀ out, Most l k out → Hit l k out → Hit l 0 (fRun l k out)
  | 0, _, out, hm, h => h
  | k + 1, hk, out, hm, h => hit_run g k (by omega) _ (most_step g hk hm) (hit_step g hk hm h)
theorem hit_start (l : List Ins) : Hit l l.length (List.replicate (l.length + 1) 0) :=
  ⟨by simp, fun j _ => getD_rep0 _ _, fun j h1 h2 => ⟨0, Int.le_refl _, Int.lt_of_lt_of_le (by omega) (two_pos _), fun f _ => by rw [walk_end f 0 h1, getD_rep0]; rfl⟩⟩
theorem fuel_hit {l : List Ins} (h : checkI l = 0) : ∃ q, 0 ≤ q ∧ q < two (jz l) ∧ ((walkS l q).length : Int) = (fuelS l).1 := by
  obtain ⟨q, h1, h2, h3⟩ := (hit_run (good_of h) l.length (Nat.le_refl _) _ (most_start l) (hit_start l)).at_ 0 (Nat.le_refl _) (Nat.zero_le _)
  refine ⟨q, h1, by rw [List.drop_zero] at h2; exact h2, ?_⟩
  unfold fuelS walkS
  rw [if_pos h]
  exact h3 _ (by omega)
end Go.VI

namespace Go.VI
open Go.Proofs
set_option maxRecDepth 100000
set_option linter.unusedSimpArgs false
set_option linter.unusedVariables false
set_option maxHeartbeats 4000000
theorem getD_some {l : List Ins} {i : Nat} {p : Ins} (h : l[i]? = some p) : l.getD i (0, 0) = p := by rw [List.getD_eq_getElem?_getD, h]; rfl
theorem walk_enc {l : List Ins} {k : Nat} {p : Ins} (h : l[k]? = some p) (h0 : p.1 ≠ 0) (h1 : p.1 = 17 ∨ p.1 = 18 → 0 ≤ p.2) (p0 : Int) (q' : Int) : ∃ q, ∀ f, walkF l (f + 1) k q = (k : Int) :: walkF l f (nextR p.1 p.2 k l.length p0).toNat q' := by
  have hk : k < l.length := (List.getElem?_eq_some_iff.1 h).1
  have hg := getD_some h
  have step : ∀ q, nextW p k q = some ((nextR p.1 p.2 k l.length p0).toNat, q') → ∀ f, walkF l (f + 1) k q = (k : Int) :: walkF l f (nextR p.1 p.2 k l.length p0).toNat q' := by
    intro q hq f
    rw [walk_step f q hk, hg, hq]
  by_cases h17 : p.1 = 17
  · refine ⟨q', step q' ?_⟩
    unfold nextW nextR
    rw [if_neg h0, if_pos h17, if_neg h0, if_pos h17]
  · by_cases h18 : p.1 = 18
    · by_cases hz : p0 = 0
      · refine ⟨2 * q' + 1, step _ ?_⟩
        have e1 : nextR p.1 p.2 k l.length p0 = p.2 := by unfold nextR; rw [if_neg h0, if_neg h17, if_pos ⟨h18, hz⟩]
        rw [e1]
        unfold nextW
        rw [if_neg h0, if_neg h17, if_pos h18, if_pos (by omega), show (2 * q' + 1) / 2 = q' from by omega]
      · refine ⟨2 * q', step _ ?_⟩
        have e1 : nextR p.1 p.2 k l.length p0 = ((k + 1 : Nat) : Int) := by unfold nextR; rw [if_neg h0, if_neg h17, if_neg (fun h => hz h.2)]; rfl
        rw [e1, Int.toNat_natCast]
        unfold nextW
        rw [if_neg h0, if_neg h17, if_pos h18, if_neg (by omega), show 2 * q' / 2 = q' from by omega]
    · refine ⟨q', step q' ?_⟩
      unfold nextW nextR
      rw [if_neg h0, if_neg h17, if_neg h18, if_neg h0, if_neg h17, if_neg (fun h => h18 h.1)]
      congr 2
theorem run_path {l : List Ins} (hl : checkI l = 0) (row : Int) (g : List Gl) (c0 w0 : Int) (fin : List Int) : ∀ (n i s : Nat) (c w : Int) (stk : List Int), okS stk → (∀ f q, pathOK fin l (walkF l f i q) stk.length) →
    ∃ q, ((runR l row g c0 w0 n i s c w stk).2.2.2 = 0 ∧ ∃ m, (runR l row g c0 w0 n i s c w stk).2.2.1 = s + m ∧ m ≤ (walkF l n i q).length) ∨ ((runR l row g c0 w0 n i s c w stk).2.2.2 = 14 ∧ (walkF l (n + 1) i q).length = n + 1) := by
  intro n
  induction n with
  | zero =>
    intro i s c w stk hk hp
    cases e : l[i]? with
    | none => rw [runR_none e]; exact ⟨0, .inl ⟨rfl, 0, rfl, Nat.zero_le _⟩⟩
    | some p =>
      rw [runR_fuel e]
      have hi : i < l.length := (List.getElem?_eq_some_iff.1 e).1
      refine ⟨0, .inr ⟨rfl, ?_⟩⟩
      rw [walk_step 0 0 hi]
      cases nextW (l.getD i (0, 0)) i 0 <;> rfl
  | succ n ih =>
    intro i s c w stk hk hp
    cases e : l[i]? with
    | none => rw [runR_none e]; exact ⟨0, .inl ⟨rfl, 0, rfl, Nat.zero_le _⟩⟩
    | some p =>
      have hi : i < l.length := (List.getElem?_eq_some_iff.1 e).1
      obtain ⟨a1, a2, a3, a4, a5⟩ := chk_at hl e
      have hgd := getD_some e
      have hp1 := hp 1 0
      rw [walk_step 0 0 hi] at hp1
      have hp1 := hp1.1
      rw [Int.toNat_natCast, hgd] at hp1
      obtain ⟨_, _, _, b1, b2, _⟩ := hp1
      have hf : ¬ failR stk p.1 := by unfold failR; omega
      obtain ⟨a, pp, rfl, hrs, hpl⟩ := okS_split hk a1 a2 hf
      rw [runR_step e hf hrs]
      have hkn := okS_next (row := row) (g := g) (c := c) (w := w) (arg := p.2) hk a1 a2 hf hpl
      have hml := pushedR_len row g c w p.2 pp a1 a2
      by_cases h0 : p.1 = 0
      · have hj : (nextR p.1 p.2 i l.length (pp.getD 0 0)).toNat = l.length := by unfold nextR; rw [if_pos h0]; omega
        rw [hj, runR_none (List.getElem?_eq_none (Nat.le_refl _))]
        refine ⟨0, .inl ⟨rfl, 1, rfl, ?_⟩⟩
        rw [walk_step n 0 hi]
        simp
      · have hen := walk_enc e h0 (fun h => by have := a5 h; omega) (pp.getD 0 0)
        have hp2 : ∀ f q, pathOK fin l (walkF l f (nextR p.1 p.2 i l.length (pp.getD 0 0)).toNat q) (a ++ (pushedR row g c w p.1 p.2 pp).map limS).length := by
          intro f q
          obtain ⟨q2, hq⟩ := hen q
          have := hp (f + 1) q2
          rw [hq f] at this
          have := this.2
          rw [Int.toNat_natCast, hgd] at this
          rw [List.length_append, List.length_map]
          rw [List.length_append] at this
          rw [show ((a.length + (pushedR row g c w p.1 p.2 pp).length : Nat) : Int) = ((a.length + pp.length : Nat) : Int) - popS p.1 + pushS p.1 from by omega]
          exact this
        obtain ⟨q', hq'⟩ := ih _ (s + 1) (clsR p.1 c (pp.getD 0 0)) (waiR p.1 w (pp.getD 0 0)) _ hkn hp2
        obtain ⟨q, hq⟩ := hen q'
        refine ⟨q, ?_⟩
        rcases hq' with ⟨r1, m, r2, r3⟩ | ⟨r1, r2⟩
        · refine .inl ⟨r1, m + 1, by rw [r2]; omega, ?_⟩
          rw [hq n, List.length_cons]; omega
        · refine .inr ⟨r1, ?_⟩
          rw [hq (n + 1), List.length_cons, r2]
theorem fuel_501 {l : List Ins} (h : checkI l = 0) : 0 ≤ (fuelS l).1 ∧ (fuelS l).1 ≤ 501 := by
  obtain ⟨q, _, _, hq⟩ := fuel_hit h
  have h1 := walk_len (l := l) (l.length + 1) 0 q
  have h2 := check_len h
  unfold walkS at hq
  omega
theorem run_verified {l : List Ins} (h : (depthsS l).2 = 0) (row : Int) (g : List Gl) (c w r : Int) :
    (fuelS l).2 = 0 ∧ 0 ≤ (fuelS l).1 ∧ (fuelS l).1 ≤ 501 ∧ (runT l row g c w r (fuelS l).1).e = 0 ∧ (runT l row g c w r (fuelS l).1).s ≤ (fuelS l).1 := by
  obtain ⟨fin, hck, _⟩ := depths_ok h
  have hf := fuel_501 hck
  have hlim : (limI (fuelS l).1 : Int) = (fuelS l).1 := by unfold limI; omega
  obtain ⟨q, hq⟩ := run_path hck row g c w (depthsS l).1 (limI (fuelS l).1) 0 0 c w [] ⟨by decide, by simp⟩ (fun f q => depths_path h f q)
  unfold runT
  simp only [if_pos hck]
  refine ⟨(fuel_ge hck 0 0).1, hf.1, hf.2, ?_⟩
  rcases hq with ⟨r1, m, r2, r3⟩ | ⟨r1, r2⟩
  · refine ⟨r1, ?_⟩
    have := (fuel_ge hck (limI (fuelS l).1) q).2
    omega
  · have := (fuel_ge hck (limI (fuelS l).1 + 1) q).2
    omega
theorem law9 (l : List Ins) (hl : l.length ≤ 9223372036854775807) (row : Int) (hrow : bI row) (g : List Gl) (hgl : g.length ≤ 9223372036854775807) (hg : bG g) (c w r : Int) (hv : bI c ∧ bI w ∧ bI r) :
    ∃ L, callT E 9 [.i (.sl 2 (rowsI l) false), .i (.v (.int .i64 row)), .i (.sl 3 (rowsG g) false), .agg [.i (.v (.int .i64 c)), .i (.v (.int .i64 w)), .i (.v (.int .i64 r))]] [] = some (.i (.v (.bool true)), L) := by
  have hgr := fun H => ik11 l g (by omega) (by omega) H
  have hve := fun H => ik19 l (by omega) H
  cases hb : greatB l.length g with
  | true =>
    rw [hb, if_pos rfl] at hgr
    generalize (depthsS l).2 = d at *
    rw [callT_eq Tryd.func9 rfl fok9 (by simp [Tryd.ntmps9])]
    simp (disch := first | omega | (simp only [List.length_append, List.length_map, List.length_set, List.length_cons, List.length_nil, List.length_take, List.length_drop]; omega)) only [va0, va1, va2, va3, va4, va5, va6, va7, va8, va9, va10, va11, va12, va13, va14, va15, vb0, vb1, vb2, vb3, w_i8, w_u8, w_i16, w_u16, w_i32, w_u32, w_i64, w_u64, lt_T, lt_F, le_T, le_F, nlt_T, nlt_F, nle_T, nle_F, List.take_of_length_le, gB, gcW, gcR, posIn, renA, renL, Chunk.ren, Chunk.refs, evOpD, touchD, stepC, isFresh, nFresh, freshOf, mkR, hole, evL, evH, opd, get, putD, ofVal, cellOf, loadE, behind, lenE, idxAddrE, idxE, lookE, lookM, addPtr, intE, strE, unE, convE, AV.int, AV.bool, AV.str, ivs, take, frameOf, firstRegion, refsA, refsL, one, cellsA, floatOk, apartT, List.map, if_true, if_false, E_P, E_glob0, E_glob1, reduceCtorEq, beq_self_eq_true, decide_true, decide_false, ↓reduceIte, Nat.reduceEqDiff, cond_true, cond_false, or_true, true_or, or_false, false_or, and_true, true_and, and_self, false_and, and_false, not_true, not_false_iff, Nat.reduceAdd, Nat.reduceSub, Nat.reduceMul, Nat.reduceLT, Nat.reduceLeDiff, Int.reduceToNat, Int.reduceLT, Int.reduceLE, Option.getD, Int.reduceMul, Int.reduceAdd, List.drop, List.take, Nat.reduceBEq, List.isEmpty, Int.reduceEq, Int.reduceNe, Int.reduceNeg, Int.reduceGT, Int.reduceGE, beq_true, beq_false, UInt8.reduceToNat, eqE, eq_self, foldE, maxE, minE, eq_T, eq_F, ndec, odec, adec, sdec, fillA, over, chop, List.replicate, leavesOk, leafOk, cellsEq, cellEq, E_byref, en9, bs22, bs23, hgr, hve, ik12]
    exact ⟨_, rfl⟩
  | false =>
    rw [hb, if_neg (by decide)] at hgr
    by_cases hd : (depthsS l).2 = 0
    · obtain ⟨h5, hok⟩ := okG_of hb hg
      obtain ⟨f1, f2, f3, f4, f5⟩ := run_verified hd row g c w r
      have hfu := fun H => ik20 l (by omega) H
      rw [f1] at hfu
      rw [hd] at hve
      have h1 := fun H => ik13 l (by omega) row hrow g hok c w r (fuelS l).1 hv (by unfold bI; omega) H
      rw [run_eqS] at h1
      generalize (fuelS l).1 = F at *
      generalize runT l row g c w r F = o at *
      obtain ⟨o1, o2, o3, o4, o5⟩ := o
      unfold ocA at h1
      simp only at h1 f4 f5
      subst f4
      rw [callT_eq Tryd.func9 rfl fok9 (by simp [Tryd.ntmps9])]
      simp (disch := first | omega | (simp only [List.length_append, List.length_map, List.length_set, List.length_cons, List.length_nil, List.length_take, List.length_drop]; omega)) only [va0, va1, va2, va3, va4, va5, va6, va7, va8, va9, va10, va11, va12, va13, va14, va15, vb0, vb1, vb2, vb3, w_i8, w_u8, w_i16, w_u16, w_i32, w_u32, w_i64, w_u64, lt_T, lt_F, le_T, le_F, nlt_T, nlt_F, nle_T, nle_F, List.take_of_length_le, gB, gcW, gcR, posIn, renA, renL, Chunk.ren, Chunk.refs, evOpD, touchD, stepC, isFresh, nFresh, freshOf, mkR, hole, evL, evH, opd, get, putD, ofVal, cellOf, loadE, behind, lenE, idxAddrE, idxE, lookE, lookM, addPtr, intE, strE, unE, convE, AV.int, AV.bool, AV.str, ivs, take, frameOf, firstRegion, refsA, refsL, one, cellsA, floatOk, apartT, List.map, if_true, if_false, E_P, E_glob0, E_glob1, reduceCtorEq, beq_self_eq_true, decide_true, decide_false, ↓reduceIte, Nat.reduceEqDiff, cond_true, cond_false, or_true, true_or, or_false, false_or, and_true, true_and, and_self, false_and, and_false, not_true, not_false_iff, Nat.reduceAdd, Nat.reduceSub, Nat.reduceMul, Nat.reduceLT, Nat.reduceLeDiff, Int.reduceToNat, Int.reduceLT, Int.reduceLE, Option.getD, Int.reduceMul, Int.reduceAdd, List.drop, List.take, Nat.reduceBEq, List.isEmpty, Int.reduceEq, Int.reduceNe, Int.reduceNeg, Int.reduceGT, Int.reduceGE, beq_true, beq_false, UInt8.reduceToNat, eqE, eq_self, foldE, maxE, minE, eq_T, eq_F, ndec, odec, adec, sdec, fillA, over, chop, List.replicate, leavesOk, leafOk, cellsEq, cellEq, E_byref, en9, bs22, bs23, hgr, hve, hfu, h1, ik12]
      exact ⟨_, rfl⟩
    · generalize (depthsS l).2 = d at *
      rw [callT_eq Tryd.func9 rfl fok9 (by simp [Tryd.ntmps9])]
      simp (disch := first | omega | (simp only [List.length_append, List.length_map, List.length_set, List.length_cons, List.length_nil, List.length_take, List.length_drop]; omega)) only [va0, va1, va2, va3, va4, va5, va6, va7, va8, va9, va10, va11, va12, va13, va14, va15, vb0, vb1, vb2, vb3, w_i8, w_u8, w_i16, w_u16, w_i32, w_u32, w_i64, w_u64, lt_T, lt_F, le_T, le_F, nlt_T, nlt_F, nle_T, nle_F, List.take_of_length_le, gB, gcW, gcR, posIn, renA, renL, Chunk.ren, Chunk.refs, evOpD, touchD, stepC, isFresh, nFresh, freshOf, mkR, hole, evL, evH, opd, get, putD, ofVal, cellOf, loadE, behind, lenE, idxAddrE, idxE, lookE, lookM, addPtr, intE, strE, unE, convE, AV.int, AV.bool, AV.str, ivs, take, frameOf, firstRegion, refsA, refsL, one, cellsA, floatOk, apartT, List.map, if_true, if_false, E_P, E_glob0, E_glob1, reduceCtorEq, beq_self_eq_true, decide_true, decide_false, ↓reduceIte, Nat.reduceEqDiff, cond_true, cond_false, or_true, true_or, or_false, false_or, and_true, true_and, and_self, false_and, and_false, not_true, not_false_iff, Nat.reduceAdd, Nat.reduceSub, Nat.reduceMul, Nat.reduceLT, Nat.reduceLeDiff, Int.reduceToNat, Int.reduceLT, Int.reduceLE, Option.getD, Int.reduceMul, Int.reduceAdd, List.drop, List.take, Nat.reduceBEq, List.isEmpty, Int.reduceEq, Int.reduceNe, Int.reduceNeg, Int.reduceGT, Int.reduceGE, beq_true, beq_false, UInt8.reduceToNat, eqE, eq_self, foldE, maxE, minE, eq_T, eq_F, ndec, odec, adec, sdec, fillA, over, chop, List.replicate, leavesOk, leafOk, cellsEq, cellEq, E_byref, en9, bs22, bs23, hgr, hve, hd, ik12]
      exact ⟨_, rfl⟩
theorem c9 (l : List Ins) (hl : l.length ≤ 9223372036854775807) (row : Int) (hrow : bI row) (g : List Gl) (hgl : g.length ≤ 9223372036854775807) (hg : bG g) (c w r : Int) (hv : bI c ∧ bI w ∧ bI r) :
    ∃ L, callT E 9 [.i (.sl 2 (l.map fun a => insC a) false), .i (.v (.int .i64 row)), .i (.sl 3 (g.map fun a => [.str a.1, .v (.bool a.2.1), .v (.int .i64 a.2.2)]) false), .agg [.i (.v (.int .i64 c)), .i (.v (.int .i64 w)), .i (.v (.int .i64 r))]] [] = some (.i (.v (.bool true)), L) := law9 l hl row hrow g hgl hg c w r hv
end Go.VI

set_option linter.unusedSimpArgs false
set_option linter.unusedVariables false
namespace Go.VI
open Go.Proofs
theorem laid_tail {P : Program} {W : World} {x : String × DataW Unit} {l : List (String × DataW Unit)} (h : laidMet P (x :: l) W) : laidMet P l W := by
  obtain ⟨ps, ⟨g, t, cs, fuel, p, q, _, _, _, _, hr, rfl⟩, hnd, hrows⟩ := h
  exact ⟨q, hr, hnd.sublist (List.sublist_append_right _ _), fun b off hp => hrows b off (List.mem_append.2 (.inr hp))⟩
theorem glob_of_tabI {P : Program} {W : World} {name : String} {g : Nat} {tab : List Int} (hg : P.globalNamed name = some g) (h : Lib.TabIs P W name .i64 tab) : RelI (imm0 W) (.pt (tabT tab) 0) (.pointer (some ⟨g, 0, none⟩)) := by
  unfold Lib.TabIs World.var? at h
  rw [hg] at h
  simp only [Option.bind_some] at h
  split at h
  · rename_i cs e fz hh
    simp only [Option.some.injEq] at h
    refine .pt (tabT tab) 0 g 0 cs e fz (fun k => .int .i64 (tab.getD k 0)) hh (fun k a hk => ?_) (fun k a hk => ?_)
    · have hl : k < tab.length := by
        have := (List.getElem?_eq_some_iff.1 hk).1
        simpa [tabT] using this
      subst h
      simp [List.getD, hl]
    · have hl : k < tab.length := by
        have := (List.getElem?_eq_some_iff.1 hk).1
        simpa [tabT] using this
      simp only [tabT, List.getElem?_map, List.getElem?_eq_getElem hl, Option.map_some, Option.some.injEq] at hk
      subst hk
      simp [List.getD, hl]
      exact .v _ rfl
  · cases h
theorem globs2 {W : World} (h0 : Lib.TabIs Tryd.prog W "narrator/scriptverify.pops" .i64 popsL) (h1 : Lib.TabIs Tryd.prog W "narrator/scriptverify.pushes" .i64 pushesL) : ∀ g cells, E.glob g = some cells → RelI (imm0 W) (.pt cells 0) (.pointer (some ⟨g, 0, none⟩)) := by
  intro g cells hg
  rcases E_globI g cells hg with ⟨rfl, rfl⟩ | ⟨rfl, rfl⟩ | h'
  · exact glob_of_tabI (by kernel_rfl) h0
  · exact glob_of_tabI (by kernel_rfl) h1
  · exact h'.elim
end Go.VI

