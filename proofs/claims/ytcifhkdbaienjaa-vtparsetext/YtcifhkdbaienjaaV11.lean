import Derived.Test.YtcifhkdbaienjaaV10
namespace Go.VI
open Go.Proofs
set_option maxRecDepth 100000
set_option linter.unusedSimpArgs false
set_option linter.unusedVariables false
set_option maxHeartbeats 4000000
def GrOK (p : Ps) : Prop := PsOK p ∧ (p.st = 0 → p.bu = [])
def refS (p : Ps) (b : UInt8) : Ps × List Ev :=
  if p.st = 0 then plainS ⟨0, p.pe, []⟩ b else if p.st = 1 then withinS p b else if p.st = 2 then withinS p b else commandS p b
theorem refS_eq {p : Ps} (h : GrOK p) (b : UInt8) : refS p b = readS p b := by
  obtain ⟨st, pe, bu⟩ := p
  have h2 := h.2
  unfold refS readS commandS withinS
  dsimp only at *
  by_cases c0 : st = 0
  · subst c0
    rw [if_pos rfl, if_pos rfl, h2 rfl]
  · rw [if_neg c0, if_neg c0]
    by_cases c1 : st = 1
    · subst c1; simp
    · rw [if_neg c1]
      by_cases c2 : st = 2
      · subst c2; simp
      · rw [if_neg c2]
        by_cases c4 : st = 4
        · subst c4; simp
        · rw [if_neg c4, if_neg c4, if_neg c1, if_neg c2]
theorem read_gr {p : Ps} (h : GrOK p) (b : UInt8) : GrOK (readS p b).1 := by
  refine ⟨(read_ok h.1 b).1, ?_⟩
  have hp : ∀ q : Ps, (q.st = 0 → q.bu = []) → ((plainS q b).1.st = 0 → (plainS q b).1.bu = []) := by
    intro q hq
    unfold plainS
    repeat' split
    all_goals first | exact hq | (intro _; rfl)
  have hc : ∀ (q : Ps) (r : Ps × List Ev), (q.st = 0 → q.bu = []) → commonS q b = some r → (r.1.st = 0 → r.1.bu = []) := by
    intro q r hq hr
    unfold commonS at hr
    repeat' split at hr
    all_goals first | cases hr | skip
    all_goals first | (intro _; rfl) | exact hq | exact hp _ (fun _ => rfl)
  have he : ∀ q : Ps, (q.st = 0 → q.bu = []) → q.st ≠ 0 → ((escapedS q b).1.st = 0 → (escapedS q b).1.bu = []) := by
    intro q hq hs
    unfold escapedS
    cases hr : commonS q b with
    | some r => exact hc q r hq hr
    | none =>
      simp only
      repeat' split
      all_goals first | (intro _; rfl) | exact fun h => absurd h hs
  have hsq : ∀ q : Ps, (q.st = 0 → q.bu = []) → q.st ≠ 0 → ((sequencedS q b).1.st = 0 → (sequencedS q b).1.bu = []) := by
    intro q hq hs
    unfold sequencedS
    cases hr : commonS q b with
    | some r => exact hc q r hq hr
    | none =>
      simp only
      repeat' split
      all_goals first | (intro _; rfl) | exact fun h => absurd h hs
  unfold readS
  split
  · exact hp p h.2
  · rename_i c0
    split
    · split
      · intro _; rfl
      · exact he _ (fun _ => rfl) (by simp)
    · split
      · exact he p h.2 c0
      · split
        · exact hsq p h.2 c0
        · unfold commandedS
          repeat' split
          all_goals first | (intro _; rfl) | exact h.2 | exact fun h => absurd h c0 | (intro h; cases h)
theorem start_gr (p : Ps) : GrOK (startS p) := by
  refine ⟨start_ok p, ?_⟩
  unfold startS
  split
  · rename_i h
    intro h0
    unfold properS at h
    rw [if_pos h0] at h
    simp only [Bool.and_eq_true, beq_iff_eq] at h
    exact h.1.1
  · intro _; rfl
theorem rowsEv_app (l m : List Ev) : rowsEv l ++ rowsEv m = rowsEv (l ++ m) := by simp [rowsEv]
theorem l12 (s : List UInt8) (hs : s.length < 5000) (k : Nat) (hk : k ≤ s.length) (p : Ps) (hp : GrOK p) (n : Nat) (l : List Ev) (hn : n = l.length) (hl : n ≤ 8 * k) :
    ∃ fr, rl E 0 12 (loopAt Try.f12 0) [(1, .i (.str s)), (2, .ptr 0 0 0 0), (4, .ptr 1 0 0 0), (6, .ref 2 0 0 n), (7, .i (.v (.int .i64 k)))] [.box [.i (.v (.int .i64 (p).st)), .i (.str (p).pe), .i (.str (p).bu)], .box [.i (.v (.int .i64 0)), .i (.str []), .i (.str [])], .sl 7 0 (rowsEv (l)) false] =
      some (.exit 0, fr, [.box [.i (.v (.int .i64 ((runF (s.drop k) p).1).st)), .i (.str ((runF (s.drop k) p).1).pe), .i (.str ((runF (s.drop k) p).1).bu)], .box [.i (.v (.int .i64 0)), .i (.str []), .i (.str [])], .sl 7 0 (rowsEv (l ++ (runF (s.drop k) p).2)) false]) ∧ get 2 fr = .ptr 0 0 0 0 ∧ get 4 fr = .ptr 1 0 0 0 ∧ get 6 fr = .ref 2 0 0 (n + (runF (s.drop k) p).2.length) := by
  rw [rl_step (fn := Try.f12) (k := 0) rfl]
  by_cases hlt : k < s.length
  · have hb := byte_at hlt
    have b1 := s[k].toNat_lt
    rw [List.drop_eq_getElem_cons hlt, runF]
    have o2 := (read_ok hp.1 s[k]).2
    have hr := refS_eq hp s[k]
    have hpe := hp.1.1
    have hbu := hp.1.2
    obtain ⟨fr, e, f2, f4, f6⟩ := l12 s hs (k + 1) hlt (readS p s[k]).1 (read_gr hp s[k]) (n + (readS p s[k]).2.length) (l ++ (readS p s[k]).2) (by simp; omega) (by omega)
    rw [List.append_assoc] at e
    refine ⟨fr, Eq.trans ?_ e, f2, f4, by rw [f6, List.length_append, Nat.add_assoc]⟩
    clear e f2 f4 f6
    rw [← hr] at o2 ⊢
    clear hr hp
    have h1 := fun H => ik20 p (by omega) s[k] H
    have h2 := fun H => ik21 p (by omega) hbu s[k] H
    have h3 := fun H => ik22 p (by omega) hbu s[k] H
    obtain ⟨st, pe, bu⟩ := p
    unfold refS at *
    dsimp only [psC, feedA] at *
    generalize s[k] = b at *
    by_cases c0 : st = 0
    · rw [if_pos c0] at o2 ⊢
      subst c0
      generalize plainS ⟨0, pe, []⟩ b = q at *
      have hql := rowsEv_len q.2
      simp (disch := first | omega | (simp only [List.length_append, List.length_map, List.length_set, List.length_cons, List.length_nil, List.length_take, List.length_drop, rowsEv_len]; omega)) only [va0, va1, va2, va3, va4, va5, va6, va7, va8, va9, va10, va11, va12, va13, va14, vb0, vb1, vb2, vb3, w_i8, w_u8, w_i16, w_u16, w_i32, w_u32, w_i64, w_u64, lt_T, lt_F, le_T, le_F, nlt_T, nlt_F, nle_T, nle_F, List.take_of_length_le, gB, gcW, gcR, posIn, renA, renL, Chunk.ren, Chunk.refs, evOpD, touchD, stepC, isFresh, nFresh, freshOf, mkR, hole, evL, evH, opd, get, putD, ofVal, cellOf, loadE, behind, lenE, idxAddrE, idxE, addPtr, intE, strE, unE, convE, AV.int, AV.bool, AV.str, ivs, take, frameOf, firstRegion, refsA, refsL, one, cellsA, floatOk, apartT, List.map, if_true, if_false, E_P, E_glob, reduceCtorEq, beq_self_eq_true, decide_true, decide_false, ↓reduceIte, Nat.reduceEqDiff, cond_true, cond_false, or_true, true_or, or_false, false_or, and_true, true_and, and_self, false_and, and_false, not_true, not_false_iff, Nat.reduceAdd, Nat.reduceSub, Nat.reduceMul, Nat.reduceLT, Nat.reduceLeDiff, Int.reduceToNat, Int.reduceLT, Int.reduceLE, Option.getD, Int.reduceMul, Int.reduceAdd, List.drop, List.take, Nat.reduceBEq, List.isEmpty, Int.reduceEq, Int.reduceNe, Int.reduceNeg, Int.reduceGT, Int.reduceGE, beq_true, beq_false, UInt8.reduceToNat, eqE, eq_self, foldE, maxE, minE, eq_T, eq_F, ndec, odec, adec, sdec, fillA, over, chop, List.replicate, leavesOk, leafOk, cellsEq, cellEq, E_ext, E_byref, en12, bs27, hb, h1, psC, feedA, rowsEv_len, rowsEv_app, List.take_of_length_le, show ∀ B fr H, execT E B 12 (Code.loop _) fr H = rlM E B 12 (loopAt Try.f12 0) [1, 2, 4, 6, 7] [] (matF [(6, 7)] fr H).1 (matB [] (matF [(6, 7)] fr H).1 (matF [(6, 7)] fr H).2) from fun B fr H => rl_introM rfl mt12_5 mb12_5 zf12_5 hd12_5 fr H]; all_goals trace_state
    · rw [if_neg c0] at o2 ⊢
      by_cases c1 : st = 1
      · rw [if_pos c1] at o2 ⊢
        subst c1
        generalize withinS ⟨1, pe, bu⟩ b = q at *
        have hql := rowsEv_len q.2
        simp (disch := first | omega | (simp only [List.length_append, List.length_map, List.length_set, List.length_cons, List.length_nil, List.length_take, List.length_drop, rowsEv_len]; omega)) only [va0, va1, va2, va3, va4, va5, va6, va7, va8, va9, va10, va11, va12, va13, va14, vb0, vb1, vb2, vb3, w_i8, w_u8, w_i16, w_u16, w_i32, w_u32, w_i64, w_u64, lt_T, lt_F, le_T, le_F, nlt_T, nlt_F, nle_T, nle_F, List.take_of_length_le, gB, gcW, gcR, posIn, renA, renL, Chunk.ren, Chunk.refs, evOpD, touchD, stepC, isFresh, nFresh, freshOf, mkR, hole, evL, evH, opd, get, putD, ofVal, cellOf, loadE, behind, lenE, idxAddrE, idxE, addPtr, intE, strE, unE, convE, AV.int, AV.bool, AV.str, ivs, take, frameOf, firstRegion, refsA, refsL, one, cellsA, floatOk, apartT, List.map, if_true, if_false, E_P, E_glob, reduceCtorEq, beq_self_eq_true, decide_true, decide_false, ↓reduceIte, Nat.reduceEqDiff, cond_true, cond_false, or_true, true_or, or_false, false_or, and_true, true_and, and_self, false_and, and_false, not_true, not_false_iff, Nat.reduceAdd, Nat.reduceSub, Nat.reduceMul, Nat.reduceLT, Nat.reduceLeDiff, Int.reduceToNat, Int.reduceLT, Int.reduceLE, Option.getD, Int.reduceMul, Int.reduceAdd, List.drop, List.take, Nat.reduceBEq, List.isEmpty, Int.reduceEq, Int.reduceNe, Int.reduceNeg, Int.reduceGT, Int.reduceGE, beq_true, beq_false, UInt8.reduceToNat, eqE, eq_self, foldE, maxE, minE, eq_T, eq_F, ndec, odec, adec, sdec, fillA, over, chop, List.replicate, leavesOk, leafOk, cellsEq, cellEq, E_ext, E_byref, en12, bs27, hb, h2, psC, feedA, rowsEv_len, rowsEv_app, List.take_of_length_le, show ∀ B fr H, execT E B 12 (Code.loop _) fr H = rlM E B 12 (loopAt Try.f12 0) [1, 2, 4, 6, 7] [] (matF [(6, 7)] fr H).1 (matB [] (matF [(6, 7)] fr H).1 (matF [(6, 7)] fr H).2) from fun B fr H => rl_introM rfl mt12_5 mb12_5 zf12_5 hd12_5 fr H]; all_goals trace_state
      · rw [if_neg c1] at o2 ⊢
        by_cases c2 : st = 2
        · rw [if_pos c2] at o2 ⊢
          subst c2
          generalize withinS ⟨2, pe, bu⟩ b = q at *
          have hql := rowsEv_len q.2
          simp (disch := first | omega | (simp only [List.length_append, List.length_map, List.length_set, List.length_cons, List.length_nil, List.length_take, List.length_drop, rowsEv_len]; omega)) only [va0, va1, va2, va3, va4, va5, va6, va7, va8, va9, va10, va11, va12, va13, va14, vb0, vb1, vb2, vb3, w_i8, w_u8, w_i16, w_u16, w_i32, w_u32, w_i64, w_u64, lt_T, lt_F, le_T, le_F, nlt_T, nlt_F, nle_T, nle_F, List.take_of_length_le, gB, gcW, gcR, posIn, renA, renL, Chunk.ren, Chunk.refs, evOpD, touchD, stepC, isFresh, nFresh, freshOf, mkR, hole, evL, evH, opd, get, putD, ofVal, cellOf, loadE, behind, lenE, idxAddrE, idxE, addPtr, intE, strE, unE, convE, AV.int, AV.bool, AV.str, ivs, take, frameOf, firstRegion, refsA, refsL, one, cellsA, floatOk, apartT, List.map, if_true, if_false, E_P, E_glob, reduceCtorEq, beq_self_eq_true, decide_true, decide_false, ↓reduceIte, Nat.reduceEqDiff, cond_true, cond_false, or_true, true_or, or_false, false_or, and_true, true_and, and_self, false_and, and_false, not_true, not_false_iff, Nat.reduceAdd, Nat.reduceSub, Nat.reduceMul, Nat.reduceLT, Nat.reduceLeDiff, Int.reduceToNat, Int.reduceLT, Int.reduceLE, Option.getD, Int.reduceMul, Int.reduceAdd, List.drop, List.take, Nat.reduceBEq, List.isEmpty, Int.reduceEq, Int.reduceNe, Int.reduceNeg, Int.reduceGT, Int.reduceGE, beq_true, beq_false, UInt8.reduceToNat, eqE, eq_self, foldE, maxE, minE, eq_T, eq_F, ndec, odec, adec, sdec, fillA, over, chop, List.replicate, leavesOk, leafOk, cellsEq, cellEq, E_ext, E_byref, en12, bs27, hb, h2, psC, feedA, rowsEv_len, rowsEv_app, List.take_of_length_le, show ∀ B fr H, execT E B 12 (Code.loop _) fr H = rlM E B 12 (loopAt Try.f12 0) [1, 2, 4, 6, 7] [] (matF [(6, 7)] fr H).1 (matB [] (matF [(6, 7)] fr H).1 (matF [(6, 7)] fr H).2) from fun B fr H => rl_introM rfl mt12_5 mb12_5 zf12_5 hd12_5 fr H]; all_goals trace_state
        · rw [if_neg c2] at o2 ⊢
          generalize commandS ⟨st, pe, bu⟩ b = q at *
          have hql := rowsEv_len q.2
          simp (disch := first | omega | (simp only [List.length_append, List.length_map, List.length_set, List.length_cons, List.length_nil, List.length_take, List.length_drop, rowsEv_len]; omega)) only [va0, va1, va2, va3, va4, va5, va6, va7, va8, va9, va10, va11, va12, va13, va14, vb0, vb1, vb2, vb3, w_i8, w_u8, w_i16, w_u16, w_i32, w_u32, w_i64, w_u64, lt_T, lt_F, le_T, le_F, nlt_T, nlt_F, nle_T, nle_F, List.take_of_length_le, gB, gcW, gcR, posIn, renA, renL, Chunk.ren, Chunk.refs, evOpD, touchD, stepC, isFresh, nFresh, freshOf, mkR, hole, evL, evH, opd, get, putD, ofVal, cellOf, loadE, behind, lenE, idxAddrE, idxE, addPtr, intE, strE, unE, convE, AV.int, AV.bool, AV.str, ivs, take, frameOf, firstRegion, refsA, refsL, one, cellsA, floatOk, apartT, List.map, if_true, if_false, E_P, E_glob, reduceCtorEq, beq_self_eq_true, decide_true, decide_false, ↓reduceIte, Nat.reduceEqDiff, cond_true, cond_false, or_true, true_or, or_false, false_or, and_true, true_and, and_self, false_and, and_false, not_true, not_false_iff, Nat.reduceAdd, Nat.reduceSub, Nat.reduceMul, Nat.reduceLT, Nat.reduceLeDiff, Int.reduceToNat, Int.reduceLT, Int.reduceLE, Option.getD, Int.reduceMul, Int.reduceAdd, List.drop, List.take, Nat.reduceBEq, List.isEmpty, Int.reduceEq, Int.reduceNe, Int.reduceNeg, Int.reduceGT, Int.reduceGE, beq_true, beq_false, UInt8.reduceToNat, eqE, eq_self, foldE, maxE, minE, eq_T, eq_F, ndec, odec, adec, sdec, fillA, over, chop, List.replicate, leavesOk, leafOk, cellsEq, cellEq, E_ext, E_byref, en12, bs27, hb, h3, c0, c1, c2, psC, feedA, rowsEv_len, rowsEv_app, List.take_of_length_le, show ∀ B fr H, execT E B 12 (Code.loop _) fr H = rlM E B 12 (loopAt Try.f12 0) [1, 2, 4, 6, 7] [] (matF [(6, 7)] fr H).1 (matB [] (matF [(6, 7)] fr H).1 (matF [(6, 7)] fr H).2) from fun B fr H => rl_introM rfl mt12_5 mb12_5 zf12_5 hd12_5 fr H]; all_goals trace_state
  · obtain rfl : k = s.length := by omega
    rw [List.drop_length, runF]
    simp (disch := first | omega | (simp only [List.length_append, List.length_map, List.length_set, List.length_cons, List.length_nil, List.length_take, List.length_drop, rowsEv_len]; omega)) only [va0, va1, va2, va3, va4, va5, va6, va7, va8, va9, va10, va11, va12, va13, va14, vb0, vb1, vb2, vb3, w_i8, w_u8, w_i16, w_u16, w_i32, w_u32, w_i64, w_u64, lt_T, lt_F, le_T, le_F, nlt_T, nlt_F, nle_T, nle_F, List.take_of_length_le, gB, gcW, gcR, posIn, renA, renL, Chunk.ren, Chunk.refs, evOpD, touchD, stepC, isFresh, nFresh, freshOf, mkR, hole, evL, evH, opd, get, putD, ofVal, cellOf, loadE, behind, lenE, idxAddrE, idxE, addPtr, intE, strE, unE, convE, AV.int, AV.bool, AV.str, ivs, take, frameOf, firstRegion, refsA, refsL, one, cellsA, floatOk, apartT, List.map, if_true, if_false, E_P, E_glob, reduceCtorEq, beq_self_eq_true, decide_true, decide_false, ↓reduceIte, Nat.reduceEqDiff, cond_true, cond_false, or_true, true_or, or_false, false_or, and_true, true_and, and_self, false_and, and_false, not_true, not_false_iff, Nat.reduceAdd, Nat.reduceSub, Nat.reduceMul, Nat.reduceLT, Nat.reduceLeDiff, Int.reduceToNat, Int.reduceLT, Int.reduceLE, Option.getD, Int.reduceMul, Int.reduceAdd, List.drop, List.take, Nat.reduceBEq, List.isEmpty, Int.reduceEq, Int.reduceNe, Int.reduceNeg, Int.reduceGT, Int.reduceGE, beq_true, beq_false, UInt8.reduceToNat, eqE, eq_self, foldE, maxE, minE, eq_T, eq_F, ndec, odec, adec, sdec, fillA, over, chop, List.replicate, leavesOk, leafOk, cellsEq, cellEq, E_ext, E_byref, en12, bs27, List.append_nil, List.length_nil, Nat.add_zero, rowsEv_len, show ∀ B fr H, execT E B 12 (Code.loop _) fr H = rlM E B 12 (loopAt Try.f12 0) [1, 2, 4, 6, 7] [] (matF [(6, 7)] fr H).1 (matB [] (matF [(6, 7)] fr H).1 (matF [(6, 7)] fr H).2) from fun B fr H => rl_introM rfl mt12_5 mb12_5 zf12_5 hd12_5 fr H]
    exact ⟨_, rfl, rfl, rfl, rfl⟩
termination_by s.length - k
end Go.VI
