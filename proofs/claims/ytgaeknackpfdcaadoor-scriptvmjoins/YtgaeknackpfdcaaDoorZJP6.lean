import Derived.Test.YtgaeknackpfdcaaDoorZJP5
namespace Go.VI
open Go.Proofs
set_option maxRecDepth 100000
set_option linter.unusedSimpArgs false
set_option linter.unusedVariables false
set_option maxHeartbeats 4000000
theorem sucL_len (op arg i : Int) : (sucL op arg i).length ≤ 2 := by
  unfold sucL; rw [List.length_append]; repeat' split
  all_goals simp
theorem l31_1 (l : List Ins) (hl : l.length ≤ 500) (n : Nat) (hn : n = l.length + 1) (hok : ∀ (j : Nat) (h : j < l.length), chk1 l.length j l[j] = 0) (k : Nat) (hk : k ≤ l.length) (out : List Int) (ho : out.length = n) (hr : ∀ x ∈ out, -1 ≤ x ∧ x ≤ 16) :
    ∃ fr ex H', rl E 0 31 (loopAt Tryd.f31 1) [(0, .i (.sl 2 (rowsI l) false)), (5, .ref 0 0 0 n), (7, .i (.v (.int .i64 k)))] [.sl 1 0 (rows64 out) false] = some (ex, fr, H') ∧ rP l n 2 fr ex H' (dRun l.length k (l.drop k) out) := by
  rw [rl_step (fn := Tryd.f31) (k := 1) rfl]
  by_cases hlt : k < l.length
  · have hrow := rowsI_at hlt
    have hck := hok k hlt
    have hnx := fun H => ik48 l k hlt (by omega) H
    rw [List.drop_eq_getElem_cons hlt, dRun, dStep]
    have ih := fun out ho hr => l31_1 l hl n hn hok (k + 1) hlt out ho hr
    obtain ⟨op, arg, hp⟩ : ∃ op arg, l[k] = (op, arg) := ⟨_, _, rfl⟩
    rw [hp] at hrow hck hnx ⊢
    simp only at hrow hnx ⊢
    obtain ⟨⟨o1, o2⟩, hsuc⟩ := sucL_in hlt hck
    have hd := rows64_get (l := out) (k := k) (by omega)
    have hdr := hr (out.getD k 0) (by rw [List.getD_eq_getElem?_getD, List.getElem?_eq_getElem (by omega)]; exact List.getElem_mem _)
    have hpo := fun H => ik27 op o1 o2 H
    have hpu := fun H => ik28 op o1 o2 H
    have hp1 := popS_r op
    have hp2 := pushS_r op
    have hin := fun af => l31_2 l hl n hn k af (sucL op arg k) (sucL_len _ _ _) (fun x hx => by have := hsuc x hx; omega) 0 (Nat.zero_le _) out ho
    have hxl := sucL_len op arg k
    generalize out.getD k 0 = d at *
    generalize popS op = po at *
    generalize pushS op = pu at *
    generalize sucL op arg k = xs at *
    by_cases h1 : d < 0
    · rw [if_pos h1]
      simp only
      obtain ⟨fr, ex, H', e, hh⟩ := ih out ho hr
      refine ⟨fr, ex, H', Eq.trans ?_ e, hh⟩
      clear e hh ih hin
      simp (disch := first | omega | (simp only [vlen, rowsI_len, rows64_len]; omega)) only [vall, List.take_of_length_le, gB, gcW, gcR, posIn, renA, renL, Chunk.ren, Chunk.refs, evOpD, touchD, stepC, isFresh, nFresh, freshOf, mkR, hole, evL, evH, opd, get, putD, ofVal, cellOf, loadE, behind, lenE, idxAddrE, idxE, lookE, lookM, addPtr, intE, strE, unE, convE, AV.int, AV.bool, AV.str, ivs, take, frameOf, firstRegion, refsA, refsL, one, cellsA, floatOk, apartT, List.map, if_true, if_false, E_P, E_glob0, E_glob1, reduceCtorEq, beq_self_eq_true, ↓reduceIte, Nat.reduceEqDiff, cond_true, cond_false, Nat.reduceAdd, Nat.reduceSub, Nat.reduceMul, Nat.reduceLT, Nat.reduceLeDiff, Int.reduceToNat, Int.reduceLT, Int.reduceLE, Option.getD, Int.reduceMul, Int.reduceAdd, List.drop, List.take, Nat.reduceBEq, List.isEmpty, Int.reduceEq, Int.reduceNe, Int.reduceNeg, Int.reduceGT, Int.reduceGE, beq_true, beq_false, UInt8.reduceToNat, eqE, eq_self, foldE, maxE, minE, fillA, over, chop, List.replicate, leavesOk, leafOk, cellsEq, cellEq, E_byref, en31, bs22, bs46, hrow, rowsI_len, rows64_len, hd, h1, show ∀ B fr H, execT E B 31 (Code.loop _) fr H = rlM E B 31 (loopAt Tryd.f31 1) [0, 5, 7] [] (matF [(5, 1)] fr H).1 (matB [] (matF [(5, 1)] fr H).1 (matF [(5, 1)] fr H).2) from fun B fr H => rl_introM rfl mt31_11 mb31_11 zf31_11 hd31_11 fr H]
    · rw [if_neg h1]
      by_cases h2 : d < po
      · rw [if_pos (.inl h2)]
        clear ih hin
        simp (disch := first | omega | (simp only [vlen, rowsI_len, rows64_len]; omega)) only [vall, List.take_of_length_le, gB, gcW, gcR, posIn, renA, renL, Chunk.ren, Chunk.refs, evOpD, touchD, stepC, isFresh, nFresh, freshOf, mkR, hole, evL, evH, opd, get, putD, ofVal, cellOf, loadE, behind, lenE, idxAddrE, idxE, lookE, lookM, addPtr, intE, strE, unE, convE, AV.int, AV.bool, AV.str, ivs, take, frameOf, firstRegion, refsA, refsL, one, cellsA, floatOk, apartT, List.map, if_true, if_false, E_P, E_glob0, E_glob1, reduceCtorEq, beq_self_eq_true, ↓reduceIte, Nat.reduceEqDiff, cond_true, cond_false, Nat.reduceAdd, Nat.reduceSub, Nat.reduceMul, Nat.reduceLT, Nat.reduceLeDiff, Int.reduceToNat, Int.reduceLT, Int.reduceLE, Option.getD, Int.reduceMul, Int.reduceAdd, List.drop, List.take, Nat.reduceBEq, List.isEmpty, Int.reduceEq, Int.reduceNe, Int.reduceNeg, Int.reduceGT, Int.reduceGE, beq_true, beq_false, UInt8.reduceToNat, eqE, eq_self, foldE, maxE, minE, fillA, over, chop, List.replicate, leavesOk, leafOk, cellsEq, cellEq, E_byref, en31, bs22, bs46, hrow, rowsI_len, rows64_len, hd, hpo, hpu, h1, h2, show ∀ B fr H, execT E B 31 (Code.loop _) fr H = rlM E B 31 (loopAt Tryd.f31 1) [0, 5, 7] [] (matF [(5, 1)] fr H).1 (matB [] (matF [(5, 1)] fr H).1 (matF [(5, 1)] fr H).2) from fun B fr H => rl_introM rfl mt31_11 mb31_11 zf31_11 hd31_11 fr H]
        refine ⟨_, _, _, rfl, ?_⟩
        exact ⟨rfl, rfl, rfl⟩
      · by_cases h3 : 16 < d - po + pu
        · rw [if_pos (.inr h3)]
          clear ih hin
          simp (disch := first | omega | (simp only [vlen, rowsI_len, rows64_len]; omega)) only [vall, List.take_of_length_le, gB, gcW, gcR, posIn, renA, renL, Chunk.ren, Chunk.refs, evOpD, touchD, stepC, isFresh, nFresh, freshOf, mkR, hole, evL, evH, opd, get, putD, ofVal, cellOf, loadE, behind, lenE, idxAddrE, idxE, lookE, lookM, addPtr, intE, strE, unE, convE, AV.int, AV.bool, AV.str, ivs, take, frameOf, firstRegion, refsA, refsL, one, cellsA, floatOk, apartT, List.map, if_true, if_false, E_P, E_glob0, E_glob1, reduceCtorEq, beq_self_eq_true, ↓reduceIte, Nat.reduceEqDiff, cond_true, cond_false, Nat.reduceAdd, Nat.reduceSub, Nat.reduceMul, Nat.reduceLT, Nat.reduceLeDiff, Int.reduceToNat, Int.reduceLT, Int.reduceLE, Option.getD, Int.reduceMul, Int.reduceAdd, List.drop, List.take, Nat.reduceBEq, List.isEmpty, Int.reduceEq, Int.reduceNe, Int.reduceNeg, Int.reduceGT, Int.reduceGE, beq_true, beq_false, UInt8.reduceToNat, eqE, eq_self, foldE, maxE, minE, fillA, over, chop, List.replicate, leavesOk, leafOk, cellsEq, cellEq, E_byref, en31, bs22, bs46, hrow, rowsI_len, rows64_len, hd, hpo, hpu, h1, h2, h3, show ∀ B fr H, execT E B 31 (Code.loop _) fr H = rlM E B 31 (loopAt Tryd.f31 1) [0, 5, 7] [] (matF [(5, 1)] fr H).1 (matB [] (matF [(5, 1)] fr H).1 (matF [(5, 1)] fr H).2) from fun B fr H => rl_introM rfl mt31_11 mb31_11 zf31_11 hd31_11 fr H]
          refine ⟨_, _, _, rfl, ?_⟩
          exact ⟨rfl, rfl, rfl⟩
        · rw [if_neg (by omega)]
          obtain ⟨fr2, ex2, H2, e2, hh2, h7⟩ := hin (d - po + pu)
          rw [List.drop_zero] at hh2
          have e2' : rl E 0 31 (loopAt Tryd.f31 2) [(0, .i (.sl 2 (rowsI l) false)), (5, .ref 0 0 0 n), (7, .i (.v (.int .i64 k))), (8, .i (.v (.int .i64 (d - po + pu)))), (9, .i (.sl 1 (rows64 xs) false)), (10, .i (.v (.int .i64 0)))] [.sl 1 0 (rows64 out) false] = _ := e2
          cases hds : dSet l.length (d - po + pu) xs out with
          | some out' =>
            rw [hds] at hh2
            obtain ⟨rfl, g2, rfl, f0, f5⟩ := hh2
            have f7 := h7 rfl
            simp only
            obtain ⟨fr, ex, H', e, hh⟩ := ih out' g2 (dSet_r (by omega) xs out out' hds hr)
            refine ⟨fr, ex, H', Eq.trans ?_ e, hh⟩
            clear e hh ih hin
            simp (disch := first | omega | (simp only [vlen, rowsI_len, rows64_len]; omega)) only [vall, List.take_of_length_le, gB, gcW, gcR, posIn, renA, renL, Chunk.ren, Chunk.refs, evOpD, touchD, stepC, isFresh, nFresh, freshOf, mkR, hole, evL, evH, opd, get, putD, ofVal, cellOf, loadE, behind, lenE, idxAddrE, idxE, lookE, lookM, addPtr, intE, strE, unE, convE, AV.int, AV.bool, AV.str, ivs, take, frameOf, firstRegion, refsA, refsL, one, cellsA, floatOk, apartT, List.map, if_true, if_false, E_P, E_glob0, E_glob1, reduceCtorEq, beq_self_eq_true, ↓reduceIte, Nat.reduceEqDiff, cond_true, cond_false, Nat.reduceAdd, Nat.reduceSub, Nat.reduceMul, Nat.reduceLT, Nat.reduceLeDiff, Int.reduceToNat, Int.reduceLT, Int.reduceLE, Option.getD, Int.reduceMul, Int.reduceAdd, List.drop, List.take, Nat.reduceBEq, List.isEmpty, Int.reduceEq, Int.reduceNe, Int.reduceNeg, Int.reduceGT, Int.reduceGE, beq_true, beq_false, UInt8.reduceToNat, eqE, eq_self, foldE, maxE, minE, fillA, over, chop, List.replicate, leavesOk, leafOk, cellsEq, cellEq, E_byref, en31, bs22, bs46, hrow, rowsI_len, rows64_len, hd, hpo, hpu, h1, h2, h3, hnx, e2', f0, f5, f7, show ∀ B fr H, execT E B 31 (Code.loop _) fr H = rlM E B 31 (loopAt Tryd.f31 1) [0, 5, 7] [] (matF [(5, 1)] fr H).1 (matB [] (matF [(5, 1)] fr H).1 (matF [(5, 1)] fr H).2) from fun B fr H => rl_introM rfl mt31_11 mb31_11 zf31_11 hd31_11 fr H, show ∀ B fr H, execT E B 31 (Code.loop _) fr H = rlM E B 31 (loopAt Tryd.f31 2) [0, 5, 7, 8, 9, 10] [] (matF [(5, 1)] fr H).1 (matB [] (matF [(5, 1)] fr H).1 (matF [(5, 1)] fr H).2) from fun B fr H => rl_introM rfl mt31_19 mb31_19 zf31_19 hd31_19 fr H]
          | none =>
            rw [hds] at hh2
            obtain ⟨rfl, f2, f3⟩ := hh2
            simp only
            clear ih hin
            simp (disch := first | omega | (simp only [vlen, rowsI_len, rows64_len]; omega)) only [vall, List.take_of_length_le, gB, gcW, gcR, posIn, renA, renL, Chunk.ren, Chunk.refs, evOpD, touchD, stepC, isFresh, nFresh, freshOf, mkR, hole, evL, evH, opd, get, putD, ofVal, cellOf, loadE, behind, lenE, idxAddrE, idxE, lookE, lookM, addPtr, intE, strE, unE, convE, AV.int, AV.bool, AV.str, ivs, take, frameOf, firstRegion, refsA, refsL, one, cellsA, floatOk, apartT, List.map, if_true, if_false, E_P, E_glob0, E_glob1, reduceCtorEq, beq_self_eq_true, ↓reduceIte, Nat.reduceEqDiff, cond_true, cond_false, Nat.reduceAdd, Nat.reduceSub, Nat.reduceMul, Nat.reduceLT, Nat.reduceLeDiff, Int.reduceToNat, Int.reduceLT, Int.reduceLE, Option.getD, Int.reduceMul, Int.reduceAdd, List.drop, List.take, Nat.reduceBEq, List.isEmpty, Int.reduceEq, Int.reduceNe, Int.reduceNeg, Int.reduceGT, Int.reduceGE, beq_true, beq_false, UInt8.reduceToNat, eqE, eq_self, foldE, maxE, minE, fillA, over, chop, List.replicate, leavesOk, leafOk, cellsEq, cellEq, E_byref, en31, bs22, bs46, hrow, rowsI_len, rows64_len, hd, hpo, hpu, h1, h2, h3, hnx, e2', f2, f3, show ∀ B fr H, execT E B 31 (Code.loop _) fr H = rlM E B 31 (loopAt Tryd.f31 1) [0, 5, 7] [] (matF [(5, 1)] fr H).1 (matB [] (matF [(5, 1)] fr H).1 (matF [(5, 1)] fr H).2) from fun B fr H => rl_introM rfl mt31_11 mb31_11 zf31_11 hd31_11 fr H, show ∀ B fr H, execT E B 31 (Code.loop _) fr H = rlM E B 31 (loopAt Tryd.f31 2) [0, 5, 7, 8, 9, 10] [] (matF [(5, 1)] fr H).1 (matB [] (matF [(5, 1)] fr H).1 (matF [(5, 1)] fr H).2) from fun B fr H => rl_introM rfl mt31_19 mb31_19 zf31_19 hd31_19 fr H]
            refine ⟨_, _, _, rfl, ?_⟩
            exact ⟨rfl, f2, f3⟩
  · obtain rfl : k = l.length := by omega
    rw [List.drop_length, dRun]
    simp (disch := first | omega | (simp only [vlen, rows64_len, rowsI_len]; omega)) only [vall, List.take_of_length_le, gB, gcW, gcR, posIn, renA, renL, Chunk.ren, Chunk.refs, evOpD, touchD, stepC, isFresh, nFresh, freshOf, mkR, hole, evL, evH, opd, get, putD, ofVal, cellOf, loadE, behind, lenE, idxAddrE, idxE, lookE, lookM, addPtr, intE, strE, unE, convE, AV.int, AV.bool, AV.str, ivs, take, frameOf, firstRegion, refsA, refsL, one, cellsA, floatOk, apartT, List.map, if_true, if_false, E_P, E_glob0, E_glob1, reduceCtorEq, beq_self_eq_true, ↓reduceIte, Nat.reduceEqDiff, cond_true, cond_false, Nat.reduceAdd, Nat.reduceSub, Nat.reduceMul, Nat.reduceLT, Nat.reduceLeDiff, Int.reduceToNat, Int.reduceLT, Int.reduceLE, Option.getD, Int.reduceMul, Int.reduceAdd, List.drop, List.take, Nat.reduceBEq, List.isEmpty, Int.reduceEq, Int.reduceNe, Int.reduceNeg, Int.reduceGT, Int.reduceGE, beq_true, beq_false, UInt8.reduceToNat, eqE, eq_self, foldE, maxE, minE, fillA, over, chop, List.replicate, leavesOk, leafOk, cellsEq, cellEq, E_byref, en31, bs22, bs46, rows64_len, rowsI_len, show ∀ B fr H, execT E B 31 (Code.loop _) fr H = rlM E B 31 (loopAt Tryd.f31 1) [0, 5, 7] [] (matF [(5, 1)] fr H).1 (matB [] (matF [(5, 1)] fr H).1 (matF [(5, 1)] fr H).2) from fun B fr H => rl_introM rfl mt31_11 mb31_11 zf31_11 hd31_11 fr H]
    refine ⟨_, _, _, rfl, ?_⟩
    exact ⟨rfl, ho, rfl, rfl, rfl⟩
termination_by l.length - k
theorem c31 (l : List Ins) (hl : (l.length : Int) < 9223372036854775808) : ∃ L, callT E 31 [.i (.sl 2 (rowsI l) false)] [] = some (.tup [.i (.sl 1 (rows64 (depthsS l).1) false), .i (.v (.int .i64 (depthsS l).2))], L) := by
  have hC := fun H => ik26 l hl H
  unfold depthsS
  by_cases h0 : checkI l = 0
  rotate_left
  · rw [if_neg h0]
    generalize checkI l = q at *
    simp only
    have hz : rows64 [] = [] := rfl
    rw [hz]
    rw [callT_eq Tryd.func31 rfl fok31 (by simp [Tryd.ntmps31])]
    simp (disch := first | omega | (simp only [vlen]; omega)) only [vall, List.take_of_length_le, gB, gcW, gcR, posIn, renA, renL, Chunk.ren, Chunk.refs, evOpD, touchD, stepC, isFresh, nFresh, freshOf, mkR, hole, evL, evH, opd, get, putD, ofVal, cellOf, loadE, behind, lenE, idxAddrE, idxE, lookE, lookM, addPtr, intE, strE, unE, convE, AV.int, AV.bool, AV.str, ivs, take, frameOf, firstRegion, refsA, refsL, one, cellsA, floatOk, apartT, List.map, if_true, if_false, E_P, E_glob0, E_glob1, reduceCtorEq, beq_self_eq_true, ↓reduceIte, Nat.reduceEqDiff, cond_true, cond_false, Nat.reduceAdd, Nat.reduceSub, Nat.reduceMul, Nat.reduceLT, Nat.reduceLeDiff, Int.reduceToNat, Int.reduceLT, Int.reduceLE, Option.getD, Int.reduceMul, Int.reduceAdd, List.drop, List.take, Nat.reduceBEq, List.isEmpty, Int.reduceEq, Int.reduceNe, Int.reduceNeg, Int.reduceGT, Int.reduceGE, beq_true, beq_false, UInt8.reduceToNat, eqE, eq_self, foldE, maxE, minE, fillA, over, chop, List.replicate, leavesOk, leafOk, cellsEq, cellEq, E_byref, en31, bs22, bs46, hC, h0]
    exact ⟨_, rfl⟩
  · rw [if_pos h0]
    rw [h0] at hC
    have h5 := check_len h0
    obtain ⟨fr0, e0, f0, f5⟩ := l31_0 l h5 0 (Nat.zero_le _)
    have e0' : rl E 0 31 (loopAt Tryd.f31 0) [(0, .i (.sl 2 (rowsI l) false)), (5, .ref 0 0 0 0), (6, .i (.v (.int .i64 0)))] [.sl 1 0 [] false] = _ := e0
    have hs : (List.replicate (l.length + 1) (-1 : Int)).set 0 0 = 0 :: List.replicate l.length (-1) := by rw [List.replicate_succ]; rfl
    have hrow : (rows64 (List.replicate (l.length + 1) (-1)))[0]? = some [.v (.int .i64 (-1))] := by rw [List.replicate_succ]; rfl
    obtain ⟨fr1, ex1, H1, e1, hh⟩ := l31_1 l h5 (l.length + 1) rfl (check_ok h0) 0 (Nat.zero_le _) (0 :: List.replicate l.length (-1)) (by simp) (fun x hx => by
      rcases List.mem_cons.1 hx with rfl | hx
      · omega
      · have := List.eq_of_mem_replicate hx; omega)
    rw [List.drop_zero] at hh
    have e1' : rl E 0 31 (loopAt Tryd.f31 1) [(0, .i (.sl 2 (rowsI l) false)), (5, .ref 0 0 0 (l.length + 1)), (7, .i (.v (.int .i64 0)))] [.sl 1 0 (rows64 (0 :: List.replicate l.length (-1))) false] = _ := e1
    rw [← hs] at e1'
    have hol : (List.replicate (l.length + 1) (-1 : Int)).length = l.length + 1 := List.length_replicate
    clear e0 e1
    generalize List.replicate (l.length + 1) (-1 : Int) = o1 at *
    cases hd : dRun l.length 0 l (0 :: List.replicate l.length (-1)) with
    | none =>
      rw [hd] at hh
      obtain ⟨rfl, g2, g3⟩ := hh
      simp only
      have hz : rows64 [] = [] := rfl
      rw [hz]
      clear hs
      rw [callT_eq Tryd.func31 rfl fok31 (by simp [Tryd.ntmps31])]
      simp (disch := first | omega | (simp only [vlen, rowsI_len, rows64_len]; omega)) only [vall, List.take_of_length_le, gB, gcW, gcR, posIn, renA, renL, Chunk.ren, Chunk.refs, evOpD, touchD, stepC, isFresh, nFresh, freshOf, mkR, hole, evL, evH, opd, get, putD, ofVal, cellOf, loadE, behind, lenE, idxAddrE, idxE, lookE, lookM, addPtr, intE, strE, unE, convE, AV.int, AV.bool, AV.str, ivs, take, frameOf, firstRegion, refsA, refsL, one, cellsA, floatOk, apartT, List.map, if_true, if_false, E_P, E_glob0, E_glob1, reduceCtorEq, beq_self_eq_true, ↓reduceIte, Nat.reduceEqDiff, cond_true, cond_false, Nat.reduceAdd, Nat.reduceSub, Nat.reduceMul, Nat.reduceLT, Nat.reduceLeDiff, Int.reduceToNat, Int.reduceLT, Int.reduceLE, Option.getD, Int.reduceMul, Int.reduceAdd, List.drop, List.take, Nat.reduceBEq, List.isEmpty, Int.reduceEq, Int.reduceNe, Int.reduceNeg, Int.reduceGT, Int.reduceGE, beq_true, beq_false, UInt8.reduceToNat, eqE, eq_self, foldE, maxE, minE, fillA, over, chop, List.replicate, leavesOk, leafOk, cellsEq, cellEq, E_byref, en31, bs22, bs46, hC, rowsI_len, rows64_len, rows64_set, hrow, e0', f0, f5, e1', g2, g3, show ∀ B fr H, execT E B 31 (Code.loop _) fr H = rlM E B 31 (loopAt Tryd.f31 0) [0, 5, 6] [] (matF [(5, 1)] fr H).1 (matB [] (matF [(5, 1)] fr H).1 (matF [(5, 1)] fr H).2) from fun B fr H => rl_introM rfl mt31_6 mb31_6 zf31_6 hd31_6 fr H, show ∀ B fr H, execT E B 31 (Code.loop _) fr H = rlM E B 31 (loopAt Tryd.f31 1) [0, 5, 7] [] (matF [(5, 1)] fr H).1 (matB [] (matF [(5, 1)] fr H).1 (matF [(5, 1)] fr H).2) from fun B fr H => rl_introM rfl mt31_11 mb31_11 zf31_11 hd31_11 fr H]
      exact ⟨_, rfl⟩
    | some out =>
      rw [hd] at hh
      obtain ⟨rfl, ho, rfl, g0, g5⟩ := hh
      simp only
      clear hs
      rw [callT_eq Tryd.func31 rfl fok31 (by simp [Tryd.ntmps31])]
      simp (disch := first | omega | (simp only [vlen, rowsI_len, rows64_len]; omega)) only [vall, List.take_of_length_le, gB, gcW, gcR, posIn, renA, renL, Chunk.ren, Chunk.refs, evOpD, touchD, stepC, isFresh, nFresh, freshOf, mkR, hole, evL, evH, opd, get, putD, ofVal, cellOf, loadE, behind, lenE, idxAddrE, idxE, lookE, lookM, addPtr, intE, strE, unE, convE, AV.int, AV.bool, AV.str, ivs, take, frameOf, firstRegion, refsA, refsL, one, cellsA, floatOk, apartT, List.map, if_true, if_false, E_P, E_glob0, E_glob1, reduceCtorEq, beq_self_eq_true, ↓reduceIte, Nat.reduceEqDiff, cond_true, cond_false, Nat.reduceAdd, Nat.reduceSub, Nat.reduceMul, Nat.reduceLT, Nat.reduceLeDiff, Int.reduceToNat, Int.reduceLT, Int.reduceLE, Option.getD, Int.reduceMul, Int.reduceAdd, List.drop, List.take, Nat.reduceBEq, List.isEmpty, Int.reduceEq, Int.reduceNe, Int.reduceNeg, Int.reduceGT, Int.reduceGE, beq_true, beq_false, UInt8.reduceToNat, eqE, eq_self, foldE, maxE, minE, fillA, over, chop, List.replicate, leavesOk, leafOk, cellsEq, cellEq, E_byref, en31, bs22, bs46, hC, rowsI_len, rows64_len, rows64_set, rows64_take, List.take_take, hrow, e0', f0, f5, e1', g0, g5, show ∀ B fr H, execT E B 31 (Code.loop _) fr H = rlM E B 31 (loopAt Tryd.f31 0) [0, 5, 6] [] (matF [(5, 1)] fr H).1 (matB [] (matF [(5, 1)] fr H).1 (matF [(5, 1)] fr H).2) from fun B fr H => rl_introM rfl mt31_6 mb31_6 zf31_6 hd31_6 fr H, show ∀ B fr H, execT E B 31 (Code.loop _) fr H = rlM E B 31 (loopAt Tryd.f31 1) [0, 5, 7] [] (matF [(5, 1)] fr H).1 (matB [] (matF [(5, 1)] fr H).1 (matF [(5, 1)] fr H).2) from fun B fr H => rl_introM rfl mt31_11 mb31_11 zf31_11 hd31_11 fr H]
      exact ⟨_, rfl⟩
theorem ik31 (l : List Ins) (hl : (l.length : Int) < 9223372036854775808) (H : Hp) : isoK E (callT E) 31 [.i (.sl 2 (rowsI l) false)] H = some (.tup [.i (.sl 1 (rows64 (depthsS l).1) false), .i (.v (.int .i64 (depthsS l).2))], H) := isoK_val rfl rfl rfl (c31 l hl)
end Go.VI

namespace Go.VI
open Go.Proofs
set_option maxRecDepth 100000
set_option linter.unusedSimpArgs false
set_option linter.unusedVariables false
set_option maxHeartbeats 4000000
theorem ran_true {f n : Nat} (h : (match call E n f [] [] with | some (.i (.v (.bool true)), _) => true | _ => false) = true) : ∃ L, callT E f [] [] = some (.i (.v (.bool true)), L) := by
  split at h
  · rename_i L hL; exact ⟨L, callT_of hL⟩
  · cases h
end Go.VI

namespace Go.VI
open Go.Proofs
set_option maxRecDepth 100000
set_option linter.unusedSimpArgs false
set_option linter.unusedVariables false
set_option maxHeartbeats 4000000
theorem isoK_mc2 {f : Nat} {ar X X' : List AV} {r : AV} (he : E.ext f = none) (ha : refsL ar = []) (hr : refsA r = []) (hX : refsL X = []) (hX' : refsL X' = [])
    (h : ∃ L, callT E f (.ptr 0 0 0 0 :: ar) [.box X] = some (r, .box X' :: L)) (A B : Chunk) (T : Hp) :
    isoK E (callT E) f (.ptr 2 0 0 0 :: ar) (A :: B :: .box X :: T) = some (r, A :: B :: .box X' :: T) := by
  obtain ⟨L, h⟩ := h
  have ha2 : ∀ ρ, renL ρ ar = ar := fun ρ => (refs_ren ρ).2 ar ha
  have hr2 : ∀ ρ, renA ρ r = r := fun ρ => (refs_ren ρ).1 r hr
  have hX2 : ∀ ρ, renL ρ X = X := fun ρ => (refs_ren ρ).2 X hX
  have hX2' : ∀ ρ, renL ρ X' = X' := fun ρ => (refs_ren ρ).2 X' hX'
  have hR := reach_one (L := A :: B :: .box X :: T) (c := 2) rfl hX
  unfold isoK
  simp [exCl, he, refsL, refsA, hR, renL, renA, posIn, Chunk.ren, ha, ha2, h, Chunk.refs, reach, setAll, backRen, hr, hr2, hX, hX', hX2, hX2']
theorem ik24_2 (row : Int) (g : IV) (c w r : Int) (k : Kk) (hk : okK k) (A B : Chunk) (T : Hp) :
    isoK E (callT E) 24 [.ptr 2 0 0 0] (A :: B :: .box (mcK row g c w r k) :: T) = some (.i (.v (.int .i64 (popV k))), A :: B :: .box (mcK row g c w r (popK k)) :: T) :=
  isoK_mc2 rfl rfl rfl mcK_refs mcK_refs (c24 row g c w r k.st k.d k.f hk.1 hk.2.1) A B T
theorem ik25_2 (op : Int) (ho : 0 ≤ op ∧ op ≤ 20 ∧ op ≠ 0 ∧ op ≠ 17 ∧ op ≠ 18) (row : Int) (l : List Gl) (hg : okG l) (c w r : Int) (k : Kk) (arg : Int) (hk : okK k) (hb : bI arg ∧ bI row ∧ bI c ∧ bI w) (A B : Chunk) (T : Hp) :
    isoK E (callT E) 25 [.ptr 2 0 0 0, .agg [.i (.v (.int .i64 op)), .i (.v (.int .i64 arg))]] (A :: B :: .box (mcK row (.sl 3 (rowsG l) false) c w r k) :: T) = some (.tup [], A :: B :: .box (mcK row (.sl 3 (rowsG l) false) (simK row l c w k op arg).1 (simK row l c w k op arg).2.1 r (simK row l c w k op arg).2.2) :: T) :=
  isoK_mc2 rfl rfl rfl mcK_refs mcK_refs (c25 op ho row l hg c w r k arg hk hb) A B T
def nextC (op arg i n : Int) (k : Kk) : Int := if op = 0 then n else if op = 17 then arg else if op = 18 ∧ popV k = 0 then arg else i + 1
def doC (row : Int) (g : List Gl) (op arg c w : Int) (k : Kk) : Int × Int × Kk := if op = 0 ∨ op = 17 then (c, w, k) else if op = 18 then (c, w, popK k) else simK row g c w k op arg
def runC (l : List Ins) (row : Int) (g : List Gl) (c0 w0 : Int) : Nat → Nat → Nat → Int → Int → Kk → Int × Int × Nat × Int
  | 0, i, s, c, w, k => match l[i]? with
    | none => (c, w, s, 0)
    | some _ => (c0, w0, s, 14)
  | n + 1, i, s, c, w, k => match l[i]? with
    | none => (c, w, s, 0)
    | some p => if (doC row g p.1 p.2 c w k).2.2.f = true then (c0, w0, s + 1, 13)
      else runC l row g c0 w0 n (nextC p.1 p.2 i l.length k).toNat (s + 1) (doC row g p.1 p.2 c w k).1 (doC row g p.1 p.2 c w k).2.1 (doC row g p.1 p.2 c w k).2.2
theorem runC_none {l : List Ins} {row : Int} {g : List Gl} {c0 w0 : Int} {n i s : Nat} {c w : Int} {k : Kk} (h : l[i]? = none) : runC l row g c0 w0 n i s c w k = (c, w, s, 0) := by
  cases n <;> simp only [runC, h]
theorem runC_fuel {l : List Ins} {row : Int} {g : List Gl} {c0 w0 : Int} {i s : Nat} {c w : Int} {k : Kk} {p : Ins} (h : l[i]? = some p) : runC l row g c0 w0 0 i s c w k = (c0, w0, s, 14) := by
  simp only [runC, h]
theorem runC_fail {l : List Ins} {row : Int} {g : List Gl} {c0 w0 : Int} {n i s : Nat} {c w : Int} {k : Kk} {p : Ins} (h : l[i]? = some p) (hf : (doC row g p.1 p.2 c w k).2.2.f = true) : runC l row g c0 w0 (n + 1) i s c w k = (c0, w0, s + 1, 13) := by
  simp only [runC, h, hf, if_true]
theorem runC_step {l : List Ins} {row : Int} {g : List Gl} {c0 w0 : Int} {n i s : Nat} {c w : Int} {k : Kk} {p : Ins} (h : l[i]? = some p) (hf : (doC row g p.1 p.2 c w k).2.2.f = false) :
    runC l row g c0 w0 (n + 1) i s c w k = runC l row g c0 w0 n (nextC p.1 p.2 i l.length k).toNat (s + 1) (doC row g p.1 p.2 c w k).1 (doC row g p.1 p.2 c w k).2.1 (doC row g p.1 p.2 c w k).2.2 := by
  simp only [runC, h, hf, Bool.false_eq_true, if_false]
theorem simK_ok {row : Int} {g : List Gl} {c w : Int} {k : Kk} {op arg : Int} (hk : okK k) (hc : bI c) (hw : bI w) : okK (simK row g c w k op arg).2.2 ∧ bI (simK row g c w k op arg).1 ∧ bI (simK row g c w k op arg).2.1 := by
  have hp := popV_b hk
  unfold simK
  repeat' split
  all_goals refine ⟨?_, ?_, ?_⟩
  all_goals first | exact hc | exact hw | skip
  all_goals first | (unfold bI; simp only; omega) | skip
  all_goals first | exact pushK_ok hk _ | exact pushK_ok (popK_ok (popK_ok hk)) _ | exact pushK_ok (popK_ok hk) _ | exact pushK_ok (pushK_ok (popK_ok hk) _) _ | exact pushK_ok (pushK_ok (popK_ok (popK_ok hk)) _) _ | exact popK_ok hk
theorem doC_ok {row : Int} {g : List Gl} {c w : Int} {k : Kk} {op arg : Int} (hk : okK k) (hc : bI c) (hw : bI w) : okK (doC row g op arg c w k).2.2 ∧ bI (doC row g op arg c w k).1 ∧ bI (doC row g op arg c w k).2.1 := by
  unfold doC
  split
  · exact ⟨hk, hc, hw⟩
  · split
    · exact ⟨popK_ok hk, hc, hw⟩
    · exact simK_ok hk hc hw
theorem chk_at {l : List Ins} (h : checkI l = 0) {i : Nat} {p : Ins} (hp : l[i]? = some p) : 0 ≤ p.1 ∧ p.1 ≤ 20 ∧ -999999999 ≤ p.2 ∧ p.2 ≤ 999999999 ∧ (p.1 = 17 ∨ p.1 = 18 → (i : Int) < p.2 ∧ p.2 ≤ l.length) := by
  obtain ⟨hi, rfl⟩ := List.getElem?_eq_some_iff.1 hp
  have h1 := check_ok h i hi
  have h2 := check_len h
  unfold chk1 at h1
  generalize l[i] = q at *
  split at h1
  · cases h1
  · split at h1
    · cases h1
    · rename_i h3 h4
      unfold boundsS at h4
      by_cases a1 : q.1 = 1
      · rw [if_pos a1] at h4; simp only at h4; omega
      · by_cases a2 : q.1 = 17 ∨ q.1 = 18
        · rw [if_neg a1, if_pos a2] at h4; simp only at h4; omega
        · rw [if_neg a1, if_neg a2] at h4; simp only at h4; omega
def runP (V : Chunk) (row : Int) (g : IV) (r : Int) (R : List (List IV)) (lim : Nat) (q : Int × Int × Nat × Int) (fr : Fr) (ex : Ex) (H : Hp) : Prop :=
  (q.2.2.2 = 0 ∧ ex = .exit 0 ∧ ∃ (k : Kk) (i : Int), okK k ∧ fr = [(0, .i (.sl 2 R false)), (4, .i (.v (.int .i64 lim))), (8, .ptr 0 0 0 0), (10, .ptr 1 0 0 0), (12, .ptr 2 0 0 0), (13, .i (.v (.int .i64 q.2.2.1))), (14, .i (.v (.int .i64 i))), (34, .i (.v (.bool false)))] ∧ H = [V, .box [i64 0, i64 0, i64 0, i64 0, i64 0], .box (mcK row g q.1 q.2.1 r k)]) ∨
  (q.2.2.2 ≠ 0 ∧ ex = .ret ∧ get 10 fr = .ptr 1 0 0 0 ∧ ∃ A L, H = A :: .box [i64 q.1, i64 q.2.1, i64 r, i64 q.2.2.1, i64 q.2.2.2] :: L)
theorem l13 (l : List Ins) (hl : checkI l = 0) (row : Int) (hrow : bI row) (g : List Gl) (hg : okG g) (c0 w0 r : Int) (lim : Nat) (hlim : lim ≤ 5000) : ∀ (n i s : Nat) (c w : Int) (k : Kk), i ≤ l.length → s + n = lim → okK k → k.f = false → bI c → bI w →
    ∃ fr ex H', rl E 0 13 (loopAt Tryd.f13 0) [(0, .i (.sl 2 (rowsI l) false)), (4, .i (.v (.int .i64 lim))), (8, .ptr 0 0 0 0), (10, .ptr 1 0 0 0), (12, .ptr 2 0 0 0), (13, .i (.v (.int .i64 (s)))), (14, .i (.v (.int .i64 (i))))] [.box [i64 c0, i64 w0, i64 r], .box [i64 0, i64 0, i64 0, i64 0, i64 0], .box (mcK row (.sl 3 (rowsG g) false) c w r k)] = some (ex, fr, H') ∧ runP (.box [i64 c0, i64 w0, i64 r]) row (.sl 3 (rowsG g) false) r (rowsI l) lim (runC l row g c0 w0 n i s c w k) fr ex H' := by
  intro n
  induction n with
  | zero =>
    intro i s c w k hi hs hk hf hc hw
    have hll := check_len hl
    rw [rl_step (fn := Tryd.f13) (k := 0) rfl]
    by_cases hlt : i < l.length
    · obtain ⟨p, hp⟩ : ∃ p, l[i]? = some p := ⟨_, List.getElem?_eq_getElem hlt⟩
      rw [runC_fuel hp]
      obtain rfl : s = lim := by omega
      simp (disch := first | omega | (simp only [vlen, rowsI_len]; omega)) only [vall, List.take_of_length_le, gB, gcW, gcR, posIn, renA, renL, Chunk.ren, Chunk.refs, evOpD, touchD, stepC, isFresh, nFresh, freshOf, mkR, hole, evL, evH, opd, get, putD, ofVal, cellOf, loadE, behind, lenE, idxAddrE, idxE, lookE, lookM, addPtr, intE, strE, unE, convE, AV.int, AV.bool, AV.str, ivs, take, frameOf, firstRegion, refsA, refsL, one, cellsA, floatOk, apartT, List.map, if_true, if_false, E_P, E_glob0, E_glob1, reduceCtorEq, beq_self_eq_true, ↓reduceIte, Nat.reduceEqDiff, cond_true, cond_false, Nat.reduceAdd, Nat.reduceSub, Nat.reduceMul, Nat.reduceLT, Nat.reduceLeDiff, Int.reduceToNat, Int.reduceLT, Int.reduceLE, Option.getD, Int.reduceMul, Int.reduceAdd, List.drop, List.take, Nat.reduceBEq, List.isEmpty, Int.reduceEq, Int.reduceNe, Int.reduceNeg, Int.reduceGT, Int.reduceGE, beq_true, beq_false, UInt8.reduceToNat, eqE, eq_self, foldE, maxE, minE, fillA, over, chop, List.replicate, leavesOk, leafOk, cellsEq, cellEq, E_byref, en13, bs22, rowsI_len, i64, mcK_cn, mcK_refs, mcK_ren, show ∀ B fr H, execT E B 13 (Code.loop _) fr H = rlG E B 13 (loopAt Tryd.f13 0) (gcn B (norm [0, 4, 8, 10, 12, 13, 14] fr) H) from fun B fr H => rl_intro rfl mt13_8 mb13_8 zf13_8 hd13_8 fr H]
      exact ⟨_, _, _, rfl, .inr ⟨(by decide : (14 : Int) ≠ 0), rfl, rfl, _, _, rfl⟩⟩
    · rw [runC_none (List.getElem?_eq_none (by omega))]
      simp (disch := first | omega | (simp only [vlen, rowsI_len]; omega)) only [vall, List.take_of_length_le, gB, gcW, gcR, posIn, renA, renL, Chunk.ren, Chunk.refs, evOpD, touchD, stepC, isFresh, nFresh, freshOf, mkR, hole, evL, evH, opd, get, putD, ofVal, cellOf, loadE, behind, lenE, idxAddrE, idxE, lookE, lookM, addPtr, intE, strE, unE, convE, AV.int, AV.bool, AV.str, ivs, take, frameOf, firstRegion, refsA, refsL, one, cellsA, floatOk, apartT, List.map, if_true, if_false, E_P, E_glob0, E_glob1, reduceCtorEq, beq_self_eq_true, ↓reduceIte, Nat.reduceEqDiff, cond_true, cond_false, Nat.reduceAdd, Nat.reduceSub, Nat.reduceMul, Nat.reduceLT, Nat.reduceLeDiff, Int.reduceToNat, Int.reduceLT, Int.reduceLE, Option.getD, Int.reduceMul, Int.reduceAdd, List.drop, List.take, Nat.reduceBEq, List.isEmpty, Int.reduceEq, Int.reduceNe, Int.reduceNeg, Int.reduceGT, Int.reduceGE, beq_true, beq_false, UInt8.reduceToNat, eqE, eq_self, foldE, maxE, minE, fillA, over, chop, List.replicate, leavesOk, leafOk, cellsEq, cellEq, E_byref, en13, bs22, rowsI_len, i64, mcK_cn, mcK_refs, mcK_ren, show ∀ B fr H, execT E B 13 (Code.loop _) fr H = rlG E B 13 (loopAt Tryd.f13 0) (gcn B (norm [0, 4, 8, 10, 12, 13, 14] fr) H) from fun B fr H => rl_intro rfl mt13_8 mb13_8 zf13_8 hd13_8 fr H]
      exact ⟨_, _, _, rfl, .inl ⟨rfl, rfl, k, i, hk, rfl, rfl⟩⟩
  | succ n ih =>
    intro i s c w k hi hs hk hf hc hw
    have hll := check_len hl
    by_cases hlt : i < l.length
    · obtain ⟨p, hp⟩ : ∃ p, l[i]? = some p := ⟨_, List.getElem?_eq_getElem hlt⟩
      obtain ⟨a1, a2, a3, a4, a5⟩ := chk_at hl hp
      obtain ⟨d1, d2, d3⟩ := doC_ok (row := row) (g := g) (op := p.1) (arg := p.2) hk hc hw
      have hr1 : (rowsI l)[i]? = some [.v (.int .i64 p.1), .v (.int .i64 p.2)] := by simp [rowsI, insC, hp]
      obtain ⟨op, arg⟩ := p
      simp only at a1 a2 a3 a4 a5 d1 d2 d3 hr1
      have hsl : (s : Int) ≠ lim := by omega
      by_cases hff : (doC row g op arg c w k).2.2.f = true
      · rw [runC_fail hp hff]
        by_cases o0 : op = 0 ∨ op = 17
        · exfalso
          simp only [doC, if_pos o0, hf, Bool.false_eq_true] at hff
        · by_cases o18 : op = 18
          · simp only [doC, if_neg o0, if_pos o18] at hff d1
            have hpk := fun A B T => ik24_2 row (.sl 3 (rowsG g) false) c w r k hk A B T
            have h22 := mcK_22 (row := row) (g := .sl 3 (rowsG g) false) (c := c) (w := w) (r := r) d1
            rw [hff] at h22
            subst o18
            rw [rl_step (fn := Tryd.f13) (k := 0) rfl]
            by_cases hz : popV k = 0
            · rw [hz] at hpk
              simp (disch := first | omega | (simp only [vlen, rowsI_len]; omega)) only [vall, List.take_of_length_le, gB, gcW, gcR, posIn, renA, renL, Chunk.ren, Chunk.refs, evOpD, touchD, stepC, isFresh, nFresh, freshOf, mkR, hole, evL, evH, opd, get, putD, ofVal, cellOf, loadE, behind, lenE, idxAddrE, idxE, lookE, lookM, addPtr, intE, strE, unE, convE, AV.int, AV.bool, AV.str, ivs, take, frameOf, firstRegion, refsA, refsL, one, cellsA, floatOk, apartT, List.map, if_true, if_false, E_P, E_glob0, E_glob1, reduceCtorEq, beq_self_eq_true, ↓reduceIte, Nat.reduceEqDiff, cond_true, cond_false, Nat.reduceAdd, Nat.reduceSub, Nat.reduceMul, Nat.reduceLT, Nat.reduceLeDiff, Int.reduceToNat, Int.reduceLT, Int.reduceLE, Option.getD, Int.reduceMul, Int.reduceAdd, List.drop, List.take, Nat.reduceBEq, List.isEmpty, Int.reduceEq, Int.reduceNe, Int.reduceNeg, Int.reduceGT, Int.reduceGE, beq_true, beq_false, UInt8.reduceToNat, eqE, eq_self, foldE, maxE, minE, fillA, over, chop, List.replicate, leavesOk, leafOk, cellsEq, cellEq, E_byref, en13, bs22, rowsI_len, i64, hr1, hpk, mcK_cn, mcK_refs, mcK_ren, h22, show ∀ B fr H, execT E B 13 (Code.loop _) fr H = rlG E B 13 (loopAt Tryd.f13 0) (gcn B (norm [0, 4, 8, 10, 12, 13, 14] fr) H) from fun B fr H => rl_intro rfl mt13_8 mb13_8 zf13_8 hd13_8 fr H]
              exact ⟨_, _, _, rfl, .inr ⟨(by decide : (13 : Int) ≠ 0), rfl, rfl, _, _, rfl⟩⟩
            · generalize popV k = pv at *
              simp (disch := first | omega | (simp only [vlen, rowsI_len]; omega)) only [vall, List.take_of_length_le, gB, gcW, gcR, posIn, renA, renL, Chunk.ren, Chunk.refs, evOpD, touchD, stepC, isFresh, nFresh, freshOf, mkR, hole, evL, evH, opd, get, putD, ofVal, cellOf, loadE, behind, lenE, idxAddrE, idxE, lookE, lookM, addPtr, intE, strE, unE, convE, AV.int, AV.bool, AV.str, ivs, take, frameOf, firstRegion, refsA, refsL, one, cellsA, floatOk, apartT, List.map, if_true, if_false, E_P, E_glob0, E_glob1, reduceCtorEq, beq_self_eq_true, ↓reduceIte, Nat.reduceEqDiff, cond_true, cond_false, Nat.reduceAdd, Nat.reduceSub, Nat.reduceMul, Nat.reduceLT, Nat.reduceLeDiff, Int.reduceToNat, Int.reduceLT, Int.reduceLE, Option.getD, Int.reduceMul, Int.reduceAdd, List.drop, List.take, Nat.reduceBEq, List.isEmpty, Int.reduceEq, Int.reduceNe, Int.reduceNeg, Int.reduceGT, Int.reduceGE, beq_true, beq_false, UInt8.reduceToNat, eqE, eq_self, foldE, maxE, minE, fillA, over, chop, List.replicate, leavesOk, leafOk, cellsEq, cellEq, E_byref, en13, bs22, rowsI_len, i64, hr1, hpk, hz, mcK_cn, mcK_refs, mcK_ren, h22, show ∀ B fr H, execT E B 13 (Code.loop _) fr H = rlG E B 13 (loopAt Tryd.f13 0) (gcn B (norm [0, 4, 8, 10, 12, 13, 14] fr) H) from fun B fr H => rl_intro rfl mt13_8 mb13_8 zf13_8 hd13_8 fr H]
              exact ⟨_, _, _, rfl, .inr ⟨(by decide : (13 : Int) ≠ 0), rfl, rfl, _, _, rfl⟩⟩
          · simp only [doC, if_neg o0, if_neg o18] at hff d1
            have hpk := fun A B T => ik25_2 op (by omega) row g hg c w r k arg hk ⟨by unfold bI; omega, hrow, hc, hw⟩ A B T
            generalize simK row g c w k op arg = q at *
            have h22 := mcK_22 (row := row) (g := .sl 3 (rowsG g) false) (c := q.1) (w := q.2.1) (r := r) d1
            rw [hff] at h22
            have z0 : op ≠ 0 := fun h => o0 (.inl h)
            have z17 : op ≠ 17 := fun h => o0 (.inr h)
            rw [rl_step (fn := Tryd.f13) (k := 0) rfl]
            simp (disch := first | omega | (simp only [vlen, rowsI_len]; omega)) only [vall, List.take_of_length_le, gB, gcW, gcR, posIn, renA, renL, Chunk.ren, Chunk.refs, evOpD, touchD, stepC, isFresh, nFresh, freshOf, mkR, hole, evL, evH, opd, get, putD, ofVal, cellOf, loadE, behind, lenE, idxAddrE, idxE, lookE, lookM, addPtr, intE, strE, unE, convE, AV.int, AV.bool, AV.str, ivs, take, frameOf, firstRegion, refsA, refsL, one, cellsA, floatOk, apartT, List.map, if_true, if_false, E_P, E_glob0, E_glob1, reduceCtorEq, beq_self_eq_true, ↓reduceIte, Nat.reduceEqDiff, cond_true, cond_false, Nat.reduceAdd, Nat.reduceSub, Nat.reduceMul, Nat.reduceLT, Nat.reduceLeDiff, Int.reduceToNat, Int.reduceLT, Int.reduceLE, Option.getD, Int.reduceMul, Int.reduceAdd, List.drop, List.take, Nat.reduceBEq, List.isEmpty, Int.reduceEq, Int.reduceNe, Int.reduceNeg, Int.reduceGT, Int.reduceGE, beq_true, beq_false, UInt8.reduceToNat, eqE, eq_self, foldE, maxE, minE, fillA, over, chop, List.replicate, leavesOk, leafOk, cellsEq, cellEq, E_byref, en13, bs22, rowsI_len, i64, hr1, hpk, z0, z17, o18, mcK_cn, mcK_refs, mcK_ren, h22, show ∀ B fr H, execT E B 13 (Code.loop _) fr H = rlG E B 13 (loopAt Tryd.f13 0) (gcn B (norm [0, 4, 8, 10, 12, 13, 14] fr) H) from fun B fr H => rl_intro rfl mt13_8 mb13_8 zf13_8 hd13_8 fr H]
            exact ⟨_, _, _, rfl, .inr ⟨(by decide : (13 : Int) ≠ 0), rfl, rfl, _, _, rfl⟩⟩
      · have hff : (doC row g op arg c w k).2.2.f = false := by simpa using hff
        rw [runC_step hp hff]
        have hj0 : 0 ≤ nextC op arg i l.length k ∧ nextC op arg i l.length k ≤ l.length := by
          unfold nextC
          split
          · omega
          · split
            · omega
            · split
              · omega
              · omega
        obtain ⟨j, hj⟩ := Int.eq_ofNat_of_zero_le hj0.1
        simp only
        rw [hj, Int.toNat_natCast]
        obtain ⟨fr, ex, H', e, hh⟩ := ih j (s + 1) _ _ _ (by omega) (by omega) d1 hff d2 d3
        refine ⟨fr, ex, H', Eq.trans ?_ e, hh⟩
        clear e hh ih
        rw [rl_step (fn := Tryd.f13) (k := 0) rfl]
        by_cases o0 : op = 0
        · have hd : doC row g op arg c w k = (c, w, k) := by unfold doC; rw [if_pos (.inl o0)]
          rw [hd] at d1 d2 d3 hff ⊢
          have h22 := mcK_22 (row := row) (g := .sl 3 (rowsG g) false) (c := c) (w := w) (r := r) hk
          rw [hf] at h22
          have hj1 : (l.length : Int) = j := by rw [← hj, nextC, if_pos o0]
          subst o0
          rw [← hj1]
          simp (disch := first | omega | (simp only [vlen, rowsI_len]; omega)) only [vall, List.take_of_length_le, gB, gcW, gcR, posIn, renA, renL, Chunk.ren, Chunk.refs, evOpD, touchD, stepC, isFresh, nFresh, freshOf, mkR, hole, evL, evH, opd, get, putD, ofVal, cellOf, loadE, behind, lenE, idxAddrE, idxE, lookE, lookM, addPtr, intE, strE, unE, convE, AV.int, AV.bool, AV.str, ivs, take, frameOf, firstRegion, refsA, refsL, one, cellsA, floatOk, apartT, List.map, if_true, if_false, E_P, E_glob0, E_glob1, reduceCtorEq, beq_self_eq_true, ↓reduceIte, Nat.reduceEqDiff, cond_true, cond_false, Nat.reduceAdd, Nat.reduceSub, Nat.reduceMul, Nat.reduceLT, Nat.reduceLeDiff, Int.reduceToNat, Int.reduceLT, Int.reduceLE, Option.getD, Int.reduceMul, Int.reduceAdd, List.drop, List.take, Nat.reduceBEq, List.isEmpty, Int.reduceEq, Int.reduceNe, Int.reduceNeg, Int.reduceGT, Int.reduceGE, beq_true, beq_false, UInt8.reduceToNat, eqE, eq_self, foldE, maxE, minE, fillA, over, chop, List.replicate, leavesOk, leafOk, cellsEq, cellEq, E_byref, en13, bs22, rowsI_len, i64, hr1, mcK_cn, mcK_refs, mcK_ren, h22, show ∀ B fr H, execT E B 13 (Code.loop _) fr H = rlG E B 13 (loopAt Tryd.f13 0) (gcn B (norm [0, 4, 8, 10, 12, 13, 14] fr) H) from fun B fr H => rl_intro rfl mt13_8 mb13_8 zf13_8 hd13_8 fr H]
        · by_cases o17 : op = 17
          · have hd : doC row g op arg c w k = (c, w, k) := by unfold doC; rw [if_pos (.inr o17)]
            rw [hd] at d1 d2 d3 hff ⊢
            have h22 := mcK_22 (row := row) (g := .sl 3 (rowsG g) false) (c := c) (w := w) (r := r) hk
            rw [hf] at h22
            have hj1 : arg = j := by rw [← hj, nextC, if_neg o0, if_pos o17]
            subst o17
            rw [← hj1]
            simp (disch := first | omega | (simp only [vlen, rowsI_len]; omega)) only [vall, List.take_of_length_le, gB, gcW, gcR, posIn, renA, renL, Chunk.ren, Chunk.refs, evOpD, touchD, stepC, isFresh, nFresh, freshOf, mkR, hole, evL, evH, opd, get, putD, ofVal, cellOf, loadE, behind, lenE, idxAddrE, idxE, lookE, lookM, addPtr, intE, strE, unE, convE, AV.int, AV.bool, AV.str, ivs, take, frameOf, firstRegion, refsA, refsL, one, cellsA, floatOk, apartT, List.map, if_true, if_false, E_P, E_glob0, E_glob1, reduceCtorEq, beq_self_eq_true, ↓reduceIte, Nat.reduceEqDiff, cond_true, cond_false, Nat.reduceAdd, Nat.reduceSub, Nat.reduceMul, Nat.reduceLT, Nat.reduceLeDiff, Int.reduceToNat, Int.reduceLT, Int.reduceLE, Option.getD, Int.reduceMul, Int.reduceAdd, List.drop, List.take, Nat.reduceBEq, List.isEmpty, Int.reduceEq, Int.reduceNe, Int.reduceNeg, Int.reduceGT, Int.reduceGE, beq_true, beq_false, UInt8.reduceToNat, eqE, eq_self, foldE, maxE, minE, fillA, over, chop, List.replicate, leavesOk, leafOk, cellsEq, cellEq, E_byref, en13, bs22, rowsI_len, i64, hr1, mcK_cn, mcK_refs, mcK_ren, h22, show ∀ B fr H, execT E B 13 (Code.loop _) fr H = rlG E B 13 (loopAt Tryd.f13 0) (gcn B (norm [0, 4, 8, 10, 12, 13, 14] fr) H) from fun B fr H => rl_intro rfl mt13_8 mb13_8 zf13_8 hd13_8 fr H]
          · by_cases o18 : op = 18
            · have hd : doC row g op arg c w k = (c, w, popK k) := by unfold doC; rw [if_neg (by omega), if_pos o18]
              rw [hd] at d1 d2 d3 hff ⊢
              try simp only at d1 hff
              have h22 := mcK_22 (row := row) (g := .sl 3 (rowsG g) false) (c := c) (w := w) (r := r) d1
              rw [hff] at h22
              have hpk := fun A B T => ik24_2 row (.sl 3 (rowsG g) false) c w r k hk A B T
              by_cases hz : popV k = 0
              · have hj1 : arg = j := by rw [← hj, nextC, if_neg o0, if_neg o17, if_pos ⟨o18, hz⟩]
                subst o18
                rw [← hj1]
                rw [hz] at hpk
                simp (disch := first | omega | (simp only [vlen, rowsI_len]; omega)) only [vall, List.take_of_length_le, gB, gcW, gcR, posIn, renA, renL, Chunk.ren, Chunk.refs, evOpD, touchD, stepC, isFresh, nFresh, freshOf, mkR, hole, evL, evH, opd, get, putD, ofVal, cellOf, loadE, behind, lenE, idxAddrE, idxE, lookE, lookM, addPtr, intE, strE, unE, convE, AV.int, AV.bool, AV.str, ivs, take, frameOf, firstRegion, refsA, refsL, one, cellsA, floatOk, apartT, List.map, if_true, if_false, E_P, E_glob0, E_glob1, reduceCtorEq, beq_self_eq_true, ↓reduceIte, Nat.reduceEqDiff, cond_true, cond_false, Nat.reduceAdd, Nat.reduceSub, Nat.reduceMul, Nat.reduceLT, Nat.reduceLeDiff, Int.reduceToNat, Int.reduceLT, Int.reduceLE, Option.getD, Int.reduceMul, Int.reduceAdd, List.drop, List.take, Nat.reduceBEq, List.isEmpty, Int.reduceEq, Int.reduceNe, Int.reduceNeg, Int.reduceGT, Int.reduceGE, beq_true, beq_false, UInt8.reduceToNat, eqE, eq_self, foldE, maxE, minE, fillA, over, chop, List.replicate, leavesOk, leafOk, cellsEq, cellEq, E_byref, en13, bs22, rowsI_len, i64, hr1, hpk, mcK_cn, mcK_refs, mcK_ren, h22, show ∀ B fr H, execT E B 13 (Code.loop _) fr H = rlG E B 13 (loopAt Tryd.f13 0) (gcn B (norm [0, 4, 8, 10, 12, 13, 14] fr) H) from fun B fr H => rl_intro rfl mt13_8 mb13_8 zf13_8 hd13_8 fr H]
              · have hj1 : (i : Int) + 1 = j := by rw [← hj, nextC, if_neg o0, if_neg o17, if_neg (fun h => hz h.2)]
                subst o18
                rw [← hj1]
                clear hj hj0
                generalize popV k = pv at *
                simp (disch := first | omega | (simp only [vlen, rowsI_len]; omega)) only [vall, List.take_of_length_le, gB, gcW, gcR, posIn, renA, renL, Chunk.ren, Chunk.refs, evOpD, touchD, stepC, isFresh, nFresh, freshOf, mkR, hole, evL, evH, opd, get, putD, ofVal, cellOf, loadE, behind, lenE, idxAddrE, idxE, lookE, lookM, addPtr, intE, strE, unE, convE, AV.int, AV.bool, AV.str, ivs, take, frameOf, firstRegion, refsA, refsL, one, cellsA, floatOk, apartT, List.map, if_true, if_false, E_P, E_glob0, E_glob1, reduceCtorEq, beq_self_eq_true, ↓reduceIte, Nat.reduceEqDiff, cond_true, cond_false, Nat.reduceAdd, Nat.reduceSub, Nat.reduceMul, Nat.reduceLT, Nat.reduceLeDiff, Int.reduceToNat, Int.reduceLT, Int.reduceLE, Option.getD, Int.reduceMul, Int.reduceAdd, List.drop, List.take, Nat.reduceBEq, List.isEmpty, Int.reduceEq, Int.reduceNe, Int.reduceNeg, Int.reduceGT, Int.reduceGE, beq_true, beq_false, UInt8.reduceToNat, eqE, eq_self, foldE, maxE, minE, fillA, over, chop, List.replicate, leavesOk, leafOk, cellsEq, cellEq, E_byref, en13, bs22, rowsI_len, i64, hr1, hpk, hz, mcK_cn, mcK_refs, mcK_ren, h22, show ∀ B fr H, execT E B 13 (Code.loop _) fr H = rlG E B 13 (loopAt Tryd.f13 0) (gcn B (norm [0, 4, 8, 10, 12, 13, 14] fr) H) from fun B fr H => rl_intro rfl mt13_8 mb13_8 zf13_8 hd13_8 fr H]
            · have hd : doC row g op arg c w k = simK row g c w k op arg := by unfold doC; rw [if_neg (by omega), if_neg o18]
              rw [hd] at d1 d2 d3 hff ⊢
              have hpk := fun A B T => ik25_2 op (by omega) row g hg c w r k arg hk ⟨by unfold bI; omega, hrow, hc, hw⟩ A B T
              have hj1 : (i : Int) + 1 = j := by rw [← hj, nextC, if_neg o0, if_neg o17, if_neg (fun h => o18 h.1)]
              clear hd
              generalize simK row g c w k op arg = q at *
              have h22 := mcK_22 (row := row) (g := .sl 3 (rowsG g) false) (c := q.1) (w := q.2.1) (r := r) d1
              rw [hff] at h22
              rw [← hj1]
              simp (disch := first | omega | (simp only [vlen, rowsI_len]; omega)) only [vall, List.take_of_length_le, gB, gcW, gcR, posIn, renA, renL, Chunk.ren, Chunk.refs, evOpD, touchD, stepC, isFresh, nFresh, freshOf, mkR, hole, evL, evH, opd, get, putD, ofVal, cellOf, loadE, behind, lenE, idxAddrE, idxE, lookE, lookM, addPtr, intE, strE, unE, convE, AV.int, AV.bool, AV.str, ivs, take, frameOf, firstRegion, refsA, refsL, one, cellsA, floatOk, apartT, List.map, if_true, if_false, E_P, E_glob0, E_glob1, reduceCtorEq, beq_self_eq_true, ↓reduceIte, Nat.reduceEqDiff, cond_true, cond_false, Nat.reduceAdd, Nat.reduceSub, Nat.reduceMul, Nat.reduceLT, Nat.reduceLeDiff, Int.reduceToNat, Int.reduceLT, Int.reduceLE, Option.getD, Int.reduceMul, Int.reduceAdd, List.drop, List.take, Nat.reduceBEq, List.isEmpty, Int.reduceEq, Int.reduceNe, Int.reduceNeg, Int.reduceGT, Int.reduceGE, beq_true, beq_false, UInt8.reduceToNat, eqE, eq_self, foldE, maxE, minE, fillA, over, chop, List.replicate, leavesOk, leafOk, cellsEq, cellEq, E_byref, en13, bs22, rowsI_len, i64, hr1, hpk, o0, o17, o18, mcK_cn, mcK_refs, mcK_ren, h22, show ∀ B fr H, execT E B 13 (Code.loop _) fr H = rlG E B 13 (loopAt Tryd.f13 0) (gcn B (norm [0, 4, 8, 10, 12, 13, 14] fr) H) from fun B fr H => rl_intro rfl mt13_8 mb13_8 zf13_8 hd13_8 fr H]
    · rw [runC_none (List.getElem?_eq_none (by omega))]
      rw [rl_step (fn := Tryd.f13) (k := 0) rfl]
      simp (disch := first | omega | (simp only [vlen, rowsI_len]; omega)) only [vall, List.take_of_length_le, gB, gcW, gcR, posIn, renA, renL, Chunk.ren, Chunk.refs, evOpD, touchD, stepC, isFresh, nFresh, freshOf, mkR, hole, evL, evH, opd, get, putD, ofVal, cellOf, loadE, behind, lenE, idxAddrE, idxE, lookE, lookM, addPtr, intE, strE, unE, convE, AV.int, AV.bool, AV.str, ivs, take, frameOf, firstRegion, refsA, refsL, one, cellsA, floatOk, apartT, List.map, if_true, if_false, E_P, E_glob0, E_glob1, reduceCtorEq, beq_self_eq_true, ↓reduceIte, Nat.reduceEqDiff, cond_true, cond_false, Nat.reduceAdd, Nat.reduceSub, Nat.reduceMul, Nat.reduceLT, Nat.reduceLeDiff, Int.reduceToNat, Int.reduceLT, Int.reduceLE, Option.getD, Int.reduceMul, Int.reduceAdd, List.drop, List.take, Nat.reduceBEq, List.isEmpty, Int.reduceEq, Int.reduceNe, Int.reduceNeg, Int.reduceGT, Int.reduceGE, beq_true, beq_false, UInt8.reduceToNat, eqE, eq_self, foldE, maxE, minE, fillA, over, chop, List.replicate, leavesOk, leafOk, cellsEq, cellEq, E_byref, en13, bs22, rowsI_len, i64, mcK_cn, mcK_refs, mcK_ren, show ∀ B fr H, execT E B 13 (Code.loop _) fr H = rlG E B 13 (loopAt Tryd.f13 0) (gcn B (norm [0, 4, 8, 10, 12, 13, 14] fr) H) from fun B fr H => rl_intro rfl mt13_8 mb13_8 zf13_8 hd13_8 fr H]
      exact ⟨_, _, _, rfl, .inl ⟨rfl, rfl, k, i, hk, rfl, rfl⟩⟩
end Go.VI

namespace Go.VI
open Go.Proofs
set_option maxRecDepth 100000
set_option linter.unusedSimpArgs false
set_option linter.unusedVariables false
set_option maxHeartbeats 4000000
def k0 : Kk := ⟨List.replicate 16 0, 0, false⟩
theorem k0_ok : okK k0 := ⟨rfl, by decide, by intro x hx; rw [List.eq_of_mem_replicate hx]; decide⟩
def limI (fuel : Int) : Nat := (max 0 (min fuel 5000)).toNat
structure Oc where
  (c w r s e : Int)
def ocA (q : Oc) : AV := .agg [.i (.v (.int .i64 q.c)), .i (.v (.int .i64 q.w)), .i (.v (.int .i64 q.r)), .i (.v (.int .i64 q.s)), .i (.v (.int .i64 q.e))]
def runS (l : List Ins) (row : Int) (g : List Gl) (c w r fuel : Int) : Oc :=
  if checkI l = 0 then ⟨(runC l row g c w (limI fuel) 0 0 c w k0).1, (runC l row g c w (limI fuel) 0 0 c w k0).2.1, r, (runC l row g c w (limI fuel) 0 0 c w k0).2.2.1, (runC l row g c w (limI fuel) 0 0 c w k0).2.2.2⟩ else ⟨c, w, r, 0, checkI l⟩
theorem mcK_v {row : Int} {g : IV} {c w r : Int} {k : Kk} : List.take 3 (List.drop 2 (mcK row g c w r k)) = [.i (.v (.int .i64 c)), .i (.v (.int .i64 w)), .i (.v (.int .i64 r))] := rfl
theorem c13 (l : List Ins) (hl : (l.length : Int) < 9223372036854775808) (row : Int) (hrow : bI row) (g : List Gl) (hg : okG g) (c w r fuel : Int) (hv : bI c ∧ bI w ∧ bI r) (hf : bI fuel) :
    ∃ L, callT E 13 [.i (.sl 2 (rowsI l) false), .i (.v (.int .i64 row)), .i (.sl 3 (rowsG g) false), .agg [.i (.v (.int .i64 c)), .i (.v (.int .i64 w)), .i (.v (.int .i64 r))], .i (.v (.int .i64 fuel))] [] = some (ocA (runS l row g c w r fuel), L) := by
  have hck := fun H => ik23 l hl H
  unfold runS
  by_cases h0 : checkI l = 0
  · rw [if_pos h0]
    rw [h0] at hck
    obtain ⟨lim, hlim⟩ : ∃ lim : Nat, lim = limI fuel := ⟨_, rfl⟩
    rw [← hlim]
    have hlim2 : max 0 (min fuel 5000) = (lim : Int) := by rw [hlim, limI]; omega
    obtain ⟨fr, ex, H', e, hh⟩ := l13 l h0 row hrow g hg c w r lim (by omega) lim 0 0 c w k0 (Nat.zero_le _) (by omega) k0_ok rfl hv.1 hv.2.1
    have e' : rl E 0 13 (loopAt Tryd.f13 0) [(0, .i (.sl 2 (rowsI l) false)), (4, .i (.v (.int .i64 lim))), (8, .ptr 0 0 0 0), (10, .ptr 1 0 0 0), (12, .ptr 2 0 0 0), (13, .i (.v (.int .i64 0))), (14, .i (.v (.int .i64 0)))] [.box [.i (.v (.int .i64 c)), .i (.v (.int .i64 w)), .i (.v (.int .i64 r))], .box [.i (.v (.int .i64 0)), .i (.v (.int .i64 0)), .i (.v (.int .i64 0)), .i (.v (.int .i64 0)), .i (.v (.int .i64 0))], .box [.i (.v (.int .i64 row)), .i (.sl 3 (rowsG g) false), .i (.v (.int .i64 c)), .i (.v (.int .i64 w)), .i (.v (.int .i64 r)), .i (.v (.int .i64 0)), .i (.v (.int .i64 0)), .i (.v (.int .i64 0)), .i (.v (.int .i64 0)), .i (.v (.int .i64 0)), .i (.v (.int .i64 0)), .i (.v (.int .i64 0)), .i (.v (.int .i64 0)), .i (.v (.int .i64 0)), .i (.v (.int .i64 0)), .i (.v (.int .i64 0)), .i (.v (.int .i64 0)), .i (.v (.int .i64 0)), .i (.v (.int .i64 0)), .i (.v (.int .i64 0)), .i (.v (.int .i64 0)), .i (.v (.int .i64 0)), .i (.v (.bool false))]] = _ := e
    clear e
    rcases hh with ⟨hz, rfl, k, i, hk, rfl, rfl⟩ | ⟨hz, rfl, hg10, A, L, rfl⟩
    · rw [hz]
      have hlen := mcK_len (row := row) (g := .sl 3 (rowsG g) false) (c := (runC l row g c w lim 0 0 c w k0).1) (w := (runC l row g c w lim 0 0 c w k0).2.1) (r := r) hk
      generalize runC l row g c w lim 0 0 c w k0 = q at *
      obtain ⟨q1, q2, q3, q4⟩ := q
      simp only [i64] at e' hlen ⊢
      unfold ocA
      simp only
      rw [callT_eq Tryd.func13 rfl fok13 (by simp [Tryd.ntmps13])]
      simp (disch := first | omega | (simp only [vlen, rowsI_len, hlen]; omega)) only [vall, List.take_of_length_le, gB, gcW, gcR, posIn, renA, renL, Chunk.ren, Chunk.refs, evOpD, touchD, stepC, isFresh, nFresh, freshOf, mkR, hole, evL, evH, opd, get, putD, ofVal, cellOf, loadE, behind, lenE, idxAddrE, idxE, lookE, lookM, addPtr, intE, strE, unE, convE, AV.int, AV.bool, AV.str, ivs, take, frameOf, firstRegion, refsA, refsL, one, cellsA, floatOk, apartT, List.map, if_true, if_false, E_P, E_glob0, E_glob1, reduceCtorEq, beq_self_eq_true, ↓reduceIte, Nat.reduceEqDiff, cond_true, cond_false, Nat.reduceAdd, Nat.reduceSub, Nat.reduceMul, Nat.reduceLT, Nat.reduceLeDiff, Int.reduceToNat, Int.reduceLT, Int.reduceLE, Option.getD, Int.reduceMul, Int.reduceAdd, List.drop, List.take, Nat.reduceBEq, List.isEmpty, Int.reduceEq, Int.reduceNe, Int.reduceNeg, Int.reduceGT, Int.reduceGE, beq_true, beq_false, UInt8.reduceToNat, eqE, eq_self, foldE, maxE, minE, fillA, over, chop, List.replicate, leavesOk, leafOk, cellsEq, cellEq, E_byref, en13, bs22, rowsI_len, hck, hlim2, e', mcK_v, hlen, mcK_cn, mcK_refs, mcK_ren, show ∀ B fr H, execT E B 13 (Code.loop _) fr H = rlG E B 13 (loopAt Tryd.f13 0) (gcn B (norm [0, 4, 8, 10, 12, 13, 14] fr) H) from fun B fr H => rl_intro rfl mt13_8 mb13_8 zf13_8 hd13_8 fr H]
      exact ⟨_, rfl⟩
    · generalize runC l row g c w lim 0 0 c w k0 = q at *
      obtain ⟨q1, q2, q3, q4⟩ := q
      simp only [i64] at e' ⊢
      unfold ocA
      simp only
      rw [callT_eq Tryd.func13 rfl fok13 (by simp [Tryd.ntmps13])]
      simp (disch := first | omega | (simp only [vlen, rowsI_len]; omega)) only [vall, List.take_of_length_le, gB, gcW, gcR, posIn, renA, renL, Chunk.ren, Chunk.refs, evOpD, touchD, stepC, isFresh, nFresh, freshOf, mkR, hole, evL, evH, opd, get, putD, ofVal, cellOf, loadE, behind, lenE, idxAddrE, idxE, lookE, lookM, addPtr, intE, strE, unE, convE, AV.int, AV.bool, AV.str, ivs, take, frameOf, firstRegion, refsA, refsL, one, cellsA, floatOk, apartT, List.map, if_true, if_false, E_P, E_glob0, E_glob1, reduceCtorEq, beq_self_eq_true, ↓reduceIte, Nat.reduceEqDiff, cond_true, cond_false, Nat.reduceAdd, Nat.reduceSub, Nat.reduceMul, Nat.reduceLT, Nat.reduceLeDiff, Int.reduceToNat, Int.reduceLT, Int.reduceLE, Option.getD, Int.reduceMul, Int.reduceAdd, List.drop, List.take, Nat.reduceBEq, List.isEmpty, Int.reduceEq, Int.reduceNe, Int.reduceNeg, Int.reduceGT, Int.reduceGE, beq_true, beq_false, UInt8.reduceToNat, eqE, eq_self, foldE, maxE, minE, fillA, over, chop, List.replicate, leavesOk, leafOk, cellsEq, cellEq, E_byref, en13, bs22, rowsI_len, hck, hlim2, e', hg10, show ∀ B fr H, execT E B 13 (Code.loop _) fr H = rlG E B 13 (loopAt Tryd.f13 0) (gcn B (norm [0, 4, 8, 10, 12, 13, 14] fr) H) from fun B fr H => rl_intro rfl mt13_8 mb13_8 zf13_8 hd13_8 fr H]
      exact ⟨_, rfl⟩
  · rw [if_neg h0]
    generalize checkI l = q at *
    unfold ocA
    simp only
    rw [callT_eq Tryd.func13 rfl fok13 (by simp [Tryd.ntmps13])]
    simp (disch := first | omega | (simp only [vlen, rowsI_len]; omega)) only [vall, List.take_of_length_le, gB, gcW, gcR, posIn, renA, renL, Chunk.ren, Chunk.refs, evOpD, touchD, stepC, isFresh, nFresh, freshOf, mkR, hole, evL, evH, opd, get, putD, ofVal, cellOf, loadE, behind, lenE, idxAddrE, idxE, lookE, lookM, addPtr, intE, strE, unE, convE, AV.int, AV.bool, AV.str, ivs, take, frameOf, firstRegion, refsA, refsL, one, cellsA, floatOk, apartT, List.map, if_true, if_false, E_P, E_glob0, E_glob1, reduceCtorEq, beq_self_eq_true, ↓reduceIte, Nat.reduceEqDiff, cond_true, cond_false, Nat.reduceAdd, Nat.reduceSub, Nat.reduceMul, Nat.reduceLT, Nat.reduceLeDiff, Int.reduceToNat, Int.reduceLT, Int.reduceLE, Option.getD, Int.reduceMul, Int.reduceAdd, List.drop, List.take, Nat.reduceBEq, List.isEmpty, Int.reduceEq, Int.reduceNe, Int.reduceNeg, Int.reduceGT, Int.reduceGE, beq_true, beq_false, UInt8.reduceToNat, eqE, eq_self, foldE, maxE, minE, fillA, over, chop, List.replicate, leavesOk, leafOk, cellsEq, cellEq, E_byref, en13, bs22, rowsI_len, hck, h0]
    exact ⟨_, rfl⟩
theorem ik13 (l : List Ins) (hl : (l.length : Int) < 9223372036854775808) (row : Int) (hrow : bI row) (g : List Gl) (hg : okG g) (c w r fuel : Int) (hv : bI c ∧ bI w ∧ bI r) (hf : bI fuel) (H : Hp) :
    isoK E (callT E) 13 [.i (.sl 2 (rowsI l) false), .i (.v (.int .i64 row)), .i (.sl 3 (rowsG g) false), .agg [.i (.v (.int .i64 c)), .i (.v (.int .i64 w)), .i (.v (.int .i64 r))], .i (.v (.int .i64 fuel))] H = some (ocA (runS l row g c w r fuel), H) := isoK_val rfl rfl rfl (c13 l hl row hrow g hg c w r fuel hv hf)
end Go.VI

namespace Go.VI
open Go.Proofs
set_option maxRecDepth 100000
set_option linter.unusedSimpArgs false
set_option linter.unusedVariables false
set_option maxHeartbeats 4000000
theorem ik30 (n : Int) (h : bI n) (H : Hp) : isoK E (callT E) 30 [.i (.v (.int .i64 n))] H = some (.i (.v (.int .i64 (limS n))), H) := isoK_val rfl rfl rfl (by
  unfold limS
  unfold bI at h
  rw [callT_eq Tryd.func30 rfl fok30 (by simp [Tryd.ntmps30])]
  simp (disch := first | omega | (simp only [vlen]; omega)) only [vall, List.take_of_length_le, gB, gcW, gcR, posIn, renA, renL, Chunk.ren, Chunk.refs, evOpD, touchD, stepC, isFresh, nFresh, freshOf, mkR, hole, evL, evH, opd, get, putD, ofVal, cellOf, loadE, behind, lenE, idxAddrE, idxE, lookE, lookM, addPtr, intE, strE, unE, convE, AV.int, AV.bool, AV.str, ivs, take, frameOf, firstRegion, refsA, refsL, one, cellsA, floatOk, apartT, List.map, if_true, if_false, E_P, E_glob0, E_glob1, reduceCtorEq, beq_self_eq_true, ↓reduceIte, Nat.reduceEqDiff, cond_true, cond_false, Nat.reduceAdd, Nat.reduceSub, Nat.reduceMul, Nat.reduceLT, Nat.reduceLeDiff, Int.reduceToNat, Int.reduceLT, Int.reduceLE, Option.getD, Int.reduceMul, Int.reduceAdd, List.drop, List.take, Nat.reduceBEq, List.isEmpty, Int.reduceEq, Int.reduceNe, Int.reduceNeg, Int.reduceGT, Int.reduceGE, beq_true, beq_false, UInt8.reduceToNat, eqE, eq_self, foldE, maxE, minE, fillA, over, chop, List.replicate, leavesOk, leafOk, cellsEq, cellEq, E_byref, en30]
  exact ⟨_, rfl⟩)
theorem ik47 (b : Bool) (H : Hp) : isoK E (callT E) 47 [.i (.v (.bool b))] H = some (.i (.v (.int .i64 (if b = true then 1 else 0))), H) := isoK_val rfl rfl rfl (by
  cases b
  · rw [callT_eq Tryd.func47 rfl fok47 (by simp [Tryd.ntmps47])]
    simp (disch := first | omega | (simp only [vlen]; omega)) only [vall, List.take_of_length_le, gB, gcW, gcR, posIn, renA, renL, Chunk.ren, Chunk.refs, evOpD, touchD, stepC, isFresh, nFresh, freshOf, mkR, hole, evL, evH, opd, get, putD, ofVal, cellOf, loadE, behind, lenE, idxAddrE, idxE, lookE, lookM, addPtr, intE, strE, unE, convE, AV.int, AV.bool, AV.str, ivs, take, frameOf, firstRegion, refsA, refsL, one, cellsA, floatOk, apartT, List.map, if_true, if_false, E_P, E_glob0, E_glob1, reduceCtorEq, beq_self_eq_true, ↓reduceIte, Nat.reduceEqDiff, cond_true, cond_false, Nat.reduceAdd, Nat.reduceSub, Nat.reduceMul, Nat.reduceLT, Nat.reduceLeDiff, Int.reduceToNat, Int.reduceLT, Int.reduceLE, Option.getD, Int.reduceMul, Int.reduceAdd, List.drop, List.take, Nat.reduceBEq, List.isEmpty, Int.reduceEq, Int.reduceNe, Int.reduceNeg, Int.reduceGT, Int.reduceGE, beq_true, beq_false, UInt8.reduceToNat, eqE, eq_self, foldE, maxE, minE, fillA, over, chop, List.replicate, leavesOk, leafOk, cellsEq, cellEq, E_byref, en47]
    exact ⟨_, rfl⟩
  · rw [callT_eq Tryd.func47 rfl fok47 (by simp [Tryd.ntmps47])]
    simp (disch := first | omega | (simp only [vlen]; omega)) only [vall, List.take_of_length_le, gB, gcW, gcR, posIn, renA, renL, Chunk.ren, Chunk.refs, evOpD, touchD, stepC, isFresh, nFresh, freshOf, mkR, hole, evL, evH, opd, get, putD, ofVal, cellOf, loadE, behind, lenE, idxAddrE, idxE, lookE, lookM, addPtr, intE, strE, unE, convE, AV.int, AV.bool, AV.str, ivs, take, frameOf, firstRegion, refsA, refsL, one, cellsA, floatOk, apartT, List.map, if_true, if_false, E_P, E_glob0, E_glob1, reduceCtorEq, beq_self_eq_true, ↓reduceIte, Nat.reduceEqDiff, cond_true, cond_false, Nat.reduceAdd, Nat.reduceSub, Nat.reduceMul, Nat.reduceLT, Nat.reduceLeDiff, Int.reduceToNat, Int.reduceLT, Int.reduceLE, Option.getD, Int.reduceMul, Int.reduceAdd, List.drop, List.take, Nat.reduceBEq, List.isEmpty, Int.reduceEq, Int.reduceNe, Int.reduceNeg, Int.reduceGT, Int.reduceGE, beq_true, beq_false, UInt8.reduceToNat, eqE, eq_self, foldE, maxE, minE, fillA, over, chop, List.replicate, leavesOk, leafOk, cellsEq, cellEq, E_byref, en47]
    exact ⟨_, rfl⟩)
theorem c46 (op a b : Int) (ho : 8 ≤ op ∧ op ≤ 12) (ha : -999999999 ≤ a ∧ a ≤ 999999999) (hb : -999999999 ≤ b ∧ b ≤ 999999999) : ∃ L, callT E 46 [.i (.v (.int .i64 op)), .i (.v (.int .i64 a)), .i (.v (.int .i64 b))] [] = some (.i (.v (.int .i64 (twoS op a b))), L) := by
  have hm := mul_b ha hb
  have ht1 := fun H => ik47 true H
  have ht0 := fun H => ik47 false H
  rw [if_pos rfl] at ht1
  rw [if_neg (by decide)] at ht0
  unfold twoS
  by_cases h8 : op = 8
  · rw [if_pos h8]; subst h8
    rw [callT_eq Tryd.func46 rfl fok46 (by simp [Tryd.ntmps46])]
    simp (disch := first | omega | (simp only [vlen]; omega)) only [vall, List.take_of_length_le, gB, gcW, gcR, posIn, renA, renL, Chunk.ren, Chunk.refs, evOpD, touchD, stepC, isFresh, nFresh, freshOf, mkR, hole, evL, evH, opd, get, putD, ofVal, cellOf, loadE, behind, lenE, idxAddrE, idxE, lookE, lookM, addPtr, intE, strE, unE, convE, AV.int, AV.bool, AV.str, ivs, take, frameOf, firstRegion, refsA, refsL, one, cellsA, floatOk, apartT, List.map, if_true, if_false, E_P, E_glob0, E_glob1, reduceCtorEq, beq_self_eq_true, ↓reduceIte, Nat.reduceEqDiff, cond_true, cond_false, Nat.reduceAdd, Nat.reduceSub, Nat.reduceMul, Nat.reduceLT, Nat.reduceLeDiff, Int.reduceToNat, Int.reduceLT, Int.reduceLE, Option.getD, Int.reduceMul, Int.reduceAdd, List.drop, List.take, Nat.reduceBEq, List.isEmpty, Int.reduceEq, Int.reduceNe, Int.reduceNeg, Int.reduceGT, Int.reduceGE, beq_true, beq_false, UInt8.reduceToNat, eqE, eq_self, foldE, maxE, minE, fillA, over, chop, List.replicate, leavesOk, leafOk, cellsEq, cellEq, E_byref, en46]
    exact ⟨_, rfl⟩
  · by_cases h9 : op = 9
    · rw [if_neg h8, if_pos h9]; subst h9
      rw [callT_eq Tryd.func46 rfl fok46 (by simp [Tryd.ntmps46])]
      simp (disch := first | omega | (simp only [vlen]; omega)) only [vall, List.take_of_length_le, gB, gcW, gcR, posIn, renA, renL, Chunk.ren, Chunk.refs, evOpD, touchD, stepC, isFresh, nFresh, freshOf, mkR, hole, evL, evH, opd, get, putD, ofVal, cellOf, loadE, behind, lenE, idxAddrE, idxE, lookE, lookM, addPtr, intE, strE, unE, convE, AV.int, AV.bool, AV.str, ivs, take, frameOf, firstRegion, refsA, refsL, one, cellsA, floatOk, apartT, List.map, if_true, if_false, E_P, E_glob0, E_glob1, reduceCtorEq, beq_self_eq_true, ↓reduceIte, Nat.reduceEqDiff, cond_true, cond_false, Nat.reduceAdd, Nat.reduceSub, Nat.reduceMul, Nat.reduceLT, Nat.reduceLeDiff, Int.reduceToNat, Int.reduceLT, Int.reduceLE, Option.getD, Int.reduceMul, Int.reduceAdd, List.drop, List.take, Nat.reduceBEq, List.isEmpty, Int.reduceEq, Int.reduceNe, Int.reduceNeg, Int.reduceGT, Int.reduceGE, beq_true, beq_false, UInt8.reduceToNat, eqE, eq_self, foldE, maxE, minE, fillA, over, chop, List.replicate, leavesOk, leafOk, cellsEq, cellEq, E_byref, en46]
      exact ⟨_, rfl⟩
    · by_cases h10 : op = 10
      · rw [if_neg h8, if_neg h9, if_pos h10]; subst h10
        generalize hx : a * b = x at *
        rw [callT_eq Tryd.func46 rfl fok46 (by simp [Tryd.ntmps46])]
        simp (disch := first | omega | (simp only [vlen]; omega)) only [vall, List.take_of_length_le, gB, gcW, gcR, posIn, renA, renL, Chunk.ren, Chunk.refs, evOpD, touchD, stepC, isFresh, nFresh, freshOf, mkR, hole, evL, evH, opd, get, putD, ofVal, cellOf, loadE, behind, lenE, idxAddrE, idxE, lookE, lookM, addPtr, intE, strE, unE, convE, AV.int, AV.bool, AV.str, ivs, take, frameOf, firstRegion, refsA, refsL, one, cellsA, floatOk, apartT, List.map, if_true, if_false, E_P, E_glob0, E_glob1, reduceCtorEq, beq_self_eq_true, ↓reduceIte, Nat.reduceEqDiff, cond_true, cond_false, Nat.reduceAdd, Nat.reduceSub, Nat.reduceMul, Nat.reduceLT, Nat.reduceLeDiff, Int.reduceToNat, Int.reduceLT, Int.reduceLE, Option.getD, Int.reduceMul, Int.reduceAdd, List.drop, List.take, Nat.reduceBEq, List.isEmpty, Int.reduceEq, Int.reduceNe, Int.reduceNeg, Int.reduceGT, Int.reduceGE, beq_true, beq_false, UInt8.reduceToNat, eqE, eq_self, foldE, maxE, minE, fillA, over, chop, List.replicate, leavesOk, leafOk, cellsEq, cellEq, E_byref, en46, hx]
        exact ⟨_, rfl⟩
      · by_cases h11 : op = 11
        · rw [if_neg h8, if_neg h9, if_neg h10, if_pos h11]; subst h11
          clear hm
          by_cases e : a = b
          · rw [if_pos e]; subst e
            rw [callT_eq Tryd.func46 rfl fok46 (by simp [Tryd.ntmps46])]
            simp (disch := first | omega | (simp only [vlen]; omega)) only [vall, List.take_of_length_le, gB, gcW, gcR, posIn, renA, renL, Chunk.ren, Chunk.refs, evOpD, touchD, stepC, isFresh, nFresh, freshOf, mkR, hole, evL, evH, opd, get, putD, ofVal, cellOf, loadE, behind, lenE, idxAddrE, idxE, lookE, lookM, addPtr, intE, strE, unE, convE, AV.int, AV.bool, AV.str, ivs, take, frameOf, firstRegion, refsA, refsL, one, cellsA, floatOk, apartT, List.map, if_true, if_false, E_P, E_glob0, E_glob1, reduceCtorEq, beq_self_eq_true, ↓reduceIte, Nat.reduceEqDiff, cond_true, cond_false, Nat.reduceAdd, Nat.reduceSub, Nat.reduceMul, Nat.reduceLT, Nat.reduceLeDiff, Int.reduceToNat, Int.reduceLT, Int.reduceLE, Option.getD, Int.reduceMul, Int.reduceAdd, List.drop, List.take, Nat.reduceBEq, List.isEmpty, Int.reduceEq, Int.reduceNe, Int.reduceNeg, Int.reduceGT, Int.reduceGE, beq_true, beq_false, UInt8.reduceToNat, eqE, eq_self, foldE, maxE, minE, fillA, over, chop, List.replicate, leavesOk, leafOk, cellsEq, cellEq, E_byref, en46, ht1]
            exact ⟨_, rfl⟩
          · rw [if_neg e]
            rw [callT_eq Tryd.func46 rfl fok46 (by simp [Tryd.ntmps46])]
            simp (disch := first | omega | (simp only [vlen]; omega)) only [vall, List.take_of_length_le, gB, gcW, gcR, posIn, renA, renL, Chunk.ren, Chunk.refs, evOpD, touchD, stepC, isFresh, nFresh, freshOf, mkR, hole, evL, evH, opd, get, putD, ofVal, cellOf, loadE, behind, lenE, idxAddrE, idxE, lookE, lookM, addPtr, intE, strE, unE, convE, AV.int, AV.bool, AV.str, ivs, take, frameOf, firstRegion, refsA, refsL, one, cellsA, floatOk, apartT, List.map, if_true, if_false, E_P, E_glob0, E_glob1, reduceCtorEq, beq_self_eq_true, ↓reduceIte, Nat.reduceEqDiff, cond_true, cond_false, Nat.reduceAdd, Nat.reduceSub, Nat.reduceMul, Nat.reduceLT, Nat.reduceLeDiff, Int.reduceToNat, Int.reduceLT, Int.reduceLE, Option.getD, Int.reduceMul, Int.reduceAdd, List.drop, List.take, Nat.reduceBEq, List.isEmpty, Int.reduceEq, Int.reduceNe, Int.reduceNeg, Int.reduceGT, Int.reduceGE, beq_true, beq_false, UInt8.reduceToNat, eqE, eq_self, foldE, maxE, minE, fillA, over, chop, List.replicate, leavesOk, leafOk, cellsEq, cellEq, E_byref, en46, ht0, e]
            exact ⟨_, rfl⟩
        · rw [if_neg h8, if_neg h9, if_neg h10, if_neg h11]
          clear hm
          by_cases e : a < b
          · rw [if_pos e]
            rw [callT_eq Tryd.func46 rfl fok46 (by simp [Tryd.ntmps46])]
            simp (disch := first | omega | (simp only [vlen]; omega)) only [vall, List.take_of_length_le, gB, gcW, gcR, posIn, renA, renL, Chunk.ren, Chunk.refs, evOpD, touchD, stepC, isFresh, nFresh, freshOf, mkR, hole, evL, evH, opd, get, putD, ofVal, cellOf, loadE, behind, lenE, idxAddrE, idxE, lookE, lookM, addPtr, intE, strE, unE, convE, AV.int, AV.bool, AV.str, ivs, take, frameOf, firstRegion, refsA, refsL, one, cellsA, floatOk, apartT, List.map, if_true, if_false, E_P, E_glob0, E_glob1, reduceCtorEq, beq_self_eq_true, ↓reduceIte, Nat.reduceEqDiff, cond_true, cond_false, Nat.reduceAdd, Nat.reduceSub, Nat.reduceMul, Nat.reduceLT, Nat.reduceLeDiff, Int.reduceToNat, Int.reduceLT, Int.reduceLE, Option.getD, Int.reduceMul, Int.reduceAdd, List.drop, List.take, Nat.reduceBEq, List.isEmpty, Int.reduceEq, Int.reduceNe, Int.reduceNeg, Int.reduceGT, Int.reduceGE, beq_true, beq_false, UInt8.reduceToNat, eqE, eq_self, foldE, maxE, minE, fillA, over, chop, List.replicate, leavesOk, leafOk, cellsEq, cellEq, E_byref, en46, ht1, e, h8, h9, h10, h11]
            exact ⟨_, rfl⟩
          · rw [if_neg e]
            rw [callT_eq Tryd.func46 rfl fok46 (by simp [Tryd.ntmps46])]
            simp (disch := first | omega | (simp only [vlen]; omega)) only [vall, List.take_of_length_le, gB, gcW, gcR, posIn, renA, renL, Chunk.ren, Chunk.refs, evOpD, touchD, stepC, isFresh, nFresh, freshOf, mkR, hole, evL, evH, opd, get, putD, ofVal, cellOf, loadE, behind, lenE, idxAddrE, idxE, lookE, lookM, addPtr, intE, strE, unE, convE, AV.int, AV.bool, AV.str, ivs, take, frameOf, firstRegion, refsA, refsL, one, cellsA, floatOk, apartT, List.map, if_true, if_false, E_P, E_glob0, E_glob1, reduceCtorEq, beq_self_eq_true, ↓reduceIte, Nat.reduceEqDiff, cond_true, cond_false, Nat.reduceAdd, Nat.reduceSub, Nat.reduceMul, Nat.reduceLT, Nat.reduceLeDiff, Int.reduceToNat, Int.reduceLT, Int.reduceLE, Option.getD, Int.reduceMul, Int.reduceAdd, List.drop, List.take, Nat.reduceBEq, List.isEmpty, Int.reduceEq, Int.reduceNe, Int.reduceNeg, Int.reduceGT, Int.reduceGE, beq_true, beq_false, UInt8.reduceToNat, eqE, eq_self, foldE, maxE, minE, fillA, over, chop, List.replicate, leavesOk, leafOk, cellsEq, cellEq, E_byref, en46, ht0, e, h8, h9, h10, h11]
            exact ⟨_, rfl⟩
theorem ik46 (op a b : Int) (ho : 8 ≤ op ∧ op ≤ 12) (ha : -999999999 ≤ a ∧ a ≤ 999999999) (hb : -999999999 ≤ b ∧ b ≤ 999999999) (H : Hp) : isoK E (callT E) 46 [.i (.v (.int .i64 op)), .i (.v (.int .i64 a)), .i (.v (.int .i64 b))] H = some (.i (.v (.int .i64 (twoS op a b))), H) := isoK_val rfl rfl rfl (c46 op a b ho ha hb)
def pushedR (row : Int) (g : List Gl) (c w op arg : Int) (p : List Int) : List Int :=
  if isV op then [valK row c w g.length op arg]
  else if op = 4 then [charS g (p.getD 0 0)]
  else if op = 5 then [styleV g (p.getD 0 0)]
  else if 8 ≤ op ∧ op ≤ 12 then [twoS op (p.getD 0 0) (p.getD 1 0)]
  else if op = 13 then [if p.getD 0 0 = 0 then 1 else 0]
  else if op = 14 then [p.getD 0 0, p.getD 0 0]
  else if op = 16 then [p.getD 1 0, p.getD 0 0]
  else []
theorem rows64_0 {p : List Int} (h : 0 < p.length) : (rows64 p)[0]? = some [.v (.int .i64 (p.getD 0 0))] := rows64_get h
theorem rows64_1 {p : List Int} (h : 1 < p.length) : (rows64 p)[1]? = some [.v (.int .i64 (p.getD 1 0))] := rows64_get h
theorem pd_1 (row : Int) (g : List Gl) (hg : okG g) (c w r arg : Int) (p : List Int) (hp : ∀ x ∈ p, -999999999 ≤ x ∧ x ≤ 999999999) (hl : popS (1) ≤ p.length) (hl2 : p.length ≤ 16) (hb : bI arg ∧ bI row ∧ bI c ∧ bI w) : ∃ L, callT E 29 [.agg [.i (.v (.int .i64 (1))), .i (.v (.int .i64 arg))], .i (.sl 1 (rows64 p) false), .i (.v (.int .i64 row)), .i (.sl 3 (rowsG g) false), .agg [.i (.v (.int .i64 c)), .i (.v (.int .i64 w)), .i (.v (.int .i64 r))]] [] = some (.i (.sl 1 (rows64 (pushedR row g c w (1) arg p)) false), L) := by
  have hg1 := hg.1
  rw [show pushedR row g c w 1 arg p = [arg] from rfl]
  rw [show rows64 [arg] = [[.v (.int .i64 (arg))]] from rfl]
  rw [callT_eq Tryd.func29 rfl fok29 (by simp [Tryd.ntmps29])]
  simp (disch := first | omega | (simp only [vlen, rowsG_len]; omega)) only [vall, List.take_of_length_le, gB, gcW, gcR, posIn, renA, renL, Chunk.ren, Chunk.refs, evOpD, touchD, stepC, isFresh, nFresh, freshOf, mkR, hole, evL, evH, opd, get, putD, ofVal, cellOf, loadE, behind, lenE, idxAddrE, idxE, lookE, lookM, addPtr, intE, strE, unE, convE, AV.int, AV.bool, AV.str, ivs, take, frameOf, firstRegion, refsA, refsL, one, cellsA, floatOk, apartT, List.map, if_true, if_false, E_P, E_glob0, E_glob1, reduceCtorEq, beq_self_eq_true, ↓reduceIte, Nat.reduceEqDiff, cond_true, cond_false, Nat.reduceAdd, Nat.reduceSub, Nat.reduceMul, Nat.reduceLT, Nat.reduceLeDiff, Int.reduceToNat, Int.reduceLT, Int.reduceLE, Option.getD, Int.reduceMul, Int.reduceAdd, List.drop, List.take, Nat.reduceBEq, List.isEmpty, Int.reduceEq, Int.reduceNe, Int.reduceNeg, Int.reduceGT, Int.reduceGE, beq_true, beq_false, UInt8.reduceToNat, eqE, eq_self, foldE, maxE, minE, fillA, over, chop, List.replicate, leavesOk, leafOk, cellsEq, cellEq, E_byref, en29, bs23, bs46, rowsG_len]
  exact ⟨_, rfl⟩
theorem pd_2 (row : Int) (g : List Gl) (hg : okG g) (c w r arg : Int) (p : List Int) (hp : ∀ x ∈ p, -999999999 ≤ x ∧ x ≤ 999999999) (hl : popS (2) ≤ p.length) (hl2 : p.length ≤ 16) (hb : bI arg ∧ bI row ∧ bI c ∧ bI w) : ∃ L, callT E 29 [.agg [.i (.v (.int .i64 (2))), .i (.v (.int .i64 arg))], .i (.sl 1 (rows64 p) false), .i (.v (.int .i64 row)), .i (.sl 3 (rowsG g) false), .agg [.i (.v (.int .i64 c)), .i (.v (.int .i64 w)), .i (.v (.int .i64 r))]] [] = some (.i (.sl 1 (rows64 (pushedR row g c w (2) arg p)) false), L) := by
  have hg1 := hg.1
  rw [show pushedR row g c w 2 arg p = [row] from rfl]
  rw [show rows64 [row] = [[.v (.int .i64 (row))]] from rfl]
  rw [callT_eq Tryd.func29 rfl fok29 (by simp [Tryd.ntmps29])]
  simp (disch := first | omega | (simp only [vlen, rowsG_len]; omega)) only [vall, List.take_of_length_le, gB, gcW, gcR, posIn, renA, renL, Chunk.ren, Chunk.refs, evOpD, touchD, stepC, isFresh, nFresh, freshOf, mkR, hole, evL, evH, opd, get, putD, ofVal, cellOf, loadE, behind, lenE, idxAddrE, idxE, lookE, lookM, addPtr, intE, strE, unE, convE, AV.int, AV.bool, AV.str, ivs, take, frameOf, firstRegion, refsA, refsL, one, cellsA, floatOk, apartT, List.map, if_true, if_false, E_P, E_glob0, E_glob1, reduceCtorEq, beq_self_eq_true, ↓reduceIte, Nat.reduceEqDiff, cond_true, cond_false, Nat.reduceAdd, Nat.reduceSub, Nat.reduceMul, Nat.reduceLT, Nat.reduceLeDiff, Int.reduceToNat, Int.reduceLT, Int.reduceLE, Option.getD, Int.reduceMul, Int.reduceAdd, List.drop, List.take, Nat.reduceBEq, List.isEmpty, Int.reduceEq, Int.reduceNe, Int.reduceNeg, Int.reduceGT, Int.reduceGE, beq_true, beq_false, UInt8.reduceToNat, eqE, eq_self, foldE, maxE, minE, fillA, over, chop, List.replicate, leavesOk, leafOk, cellsEq, cellEq, E_byref, en29, bs23, bs46, rowsG_len]
  exact ⟨_, rfl⟩
theorem pd_3 (row : Int) (g : List Gl) (hg : okG g) (c w r arg : Int) (p : List Int) (hp : ∀ x ∈ p, -999999999 ≤ x ∧ x ≤ 999999999) (hl : popS (3) ≤ p.length) (hl2 : p.length ≤ 16) (hb : bI arg ∧ bI row ∧ bI c ∧ bI w) : ∃ L, callT E 29 [.agg [.i (.v (.int .i64 (3))), .i (.v (.int .i64 arg))], .i (.sl 1 (rows64 p) false), .i (.v (.int .i64 row)), .i (.sl 3 (rowsG g) false), .agg [.i (.v (.int .i64 c)), .i (.v (.int .i64 w)), .i (.v (.int .i64 r))]] [] = some (.i (.sl 1 (rows64 (pushedR row g c w (3) arg p)) false), L) := by
  have hg1 := hg.1
  rw [show pushedR row g c w 3 arg p = [(g.length : Int)] from rfl]
  rw [show rows64 [(g.length : Int)] = [[.v (.int .i64 ((g.length : Int)))]] from rfl]
  rw [callT_eq Tryd.func29 rfl fok29 (by simp [Tryd.ntmps29])]
  simp (disch := first | omega | (simp only [vlen, rowsG_len]; omega)) only [vall, List.take_of_length_le, gB, gcW, gcR, posIn, renA, renL, Chunk.ren, Chunk.refs, evOpD, touchD, stepC, isFresh, nFresh, freshOf, mkR, hole, evL, evH, opd, get, putD, ofVal, cellOf, loadE, behind, lenE, idxAddrE, idxE, lookE, lookM, addPtr, intE, strE, unE, convE, AV.int, AV.bool, AV.str, ivs, take, frameOf, firstRegion, refsA, refsL, one, cellsA, floatOk, apartT, List.map, if_true, if_false, E_P, E_glob0, E_glob1, reduceCtorEq, beq_self_eq_true, ↓reduceIte, Nat.reduceEqDiff, cond_true, cond_false, Nat.reduceAdd, Nat.reduceSub, Nat.reduceMul, Nat.reduceLT, Nat.reduceLeDiff, Int.reduceToNat, Int.reduceLT, Int.reduceLE, Option.getD, Int.reduceMul, Int.reduceAdd, List.drop, List.take, Nat.reduceBEq, List.isEmpty, Int.reduceEq, Int.reduceNe, Int.reduceNeg, Int.reduceGT, Int.reduceGE, beq_true, beq_false, UInt8.reduceToNat, eqE, eq_self, foldE, maxE, minE, fillA, over, chop, List.replicate, leavesOk, leafOk, cellsEq, cellEq, E_byref, en29, bs23, bs46, rowsG_len]
  exact ⟨_, rfl⟩
theorem pd_6 (row : Int) (g : List Gl) (hg : okG g) (c w r arg : Int) (p : List Int) (hp : ∀ x ∈ p, -999999999 ≤ x ∧ x ≤ 999999999) (hl : popS (6) ≤ p.length) (hl2 : p.length ≤ 16) (hb : bI arg ∧ bI row ∧ bI c ∧ bI w) : ∃ L, callT E 29 [.agg [.i (.v (.int .i64 (6))), .i (.v (.int .i64 arg))], .i (.sl 1 (rows64 p) false), .i (.v (.int .i64 row)), .i (.sl 3 (rowsG g) false), .agg [.i (.v (.int .i64 c)), .i (.v (.int .i64 w)), .i (.v (.int .i64 r))]] [] = some (.i (.sl 1 (rows64 (pushedR row g c w (6) arg p)) false), L) := by
  have hg1 := hg.1
  rw [show pushedR row g c w 6 arg p = [c] from rfl]
  rw [show rows64 [c] = [[.v (.int .i64 (c))]] from rfl]
  rw [callT_eq Tryd.func29 rfl fok29 (by simp [Tryd.ntmps29])]
  simp (disch := first | omega | (simp only [vlen, rowsG_len]; omega)) only [vall, List.take_of_length_le, gB, gcW, gcR, posIn, renA, renL, Chunk.ren, Chunk.refs, evOpD, touchD, stepC, isFresh, nFresh, freshOf, mkR, hole, evL, evH, opd, get, putD, ofVal, cellOf, loadE, behind, lenE, idxAddrE, idxE, lookE, lookM, addPtr, intE, strE, unE, convE, AV.int, AV.bool, AV.str, ivs, take, frameOf, firstRegion, refsA, refsL, one, cellsA, floatOk, apartT, List.map, if_true, if_false, E_P, E_glob0, E_glob1, reduceCtorEq, beq_self_eq_true, ↓reduceIte, Nat.reduceEqDiff, cond_true, cond_false, Nat.reduceAdd, Nat.reduceSub, Nat.reduceMul, Nat.reduceLT, Nat.reduceLeDiff, Int.reduceToNat, Int.reduceLT, Int.reduceLE, Option.getD, Int.reduceMul, Int.reduceAdd, List.drop, List.take, Nat.reduceBEq, List.isEmpty, Int.reduceEq, Int.reduceNe, Int.reduceNeg, Int.reduceGT, Int.reduceGE, beq_true, beq_false, UInt8.reduceToNat, eqE, eq_self, foldE, maxE, minE, fillA, over, chop, List.replicate, leavesOk, leafOk, cellsEq, cellEq, E_byref, en29, bs23, bs46, rowsG_len]
  exact ⟨_, rfl⟩
theorem pd_7 (row : Int) (g : List Gl) (hg : okG g) (c w r arg : Int) (p : List Int) (hp : ∀ x ∈ p, -999999999 ≤ x ∧ x ≤ 999999999) (hl : popS (7) ≤ p.length) (hl2 : p.length ≤ 16) (hb : bI arg ∧ bI row ∧ bI c ∧ bI w) : ∃ L, callT E 29 [.agg [.i (.v (.int .i64 (7))), .i (.v (.int .i64 arg))], .i (.sl 1 (rows64 p) false), .i (.v (.int .i64 row)), .i (.sl 3 (rowsG g) false), .agg [.i (.v (.int .i64 c)), .i (.v (.int .i64 w)), .i (.v (.int .i64 r))]] [] = some (.i (.sl 1 (rows64 (pushedR row g c w (7) arg p)) false), L) := by
  have hg1 := hg.1
  rw [show pushedR row g c w 7 arg p = [w] from rfl]
  rw [show rows64 [w] = [[.v (.int .i64 (w))]] from rfl]
  rw [callT_eq Tryd.func29 rfl fok29 (by simp [Tryd.ntmps29])]
  simp (disch := first | omega | (simp only [vlen, rowsG_len]; omega)) only [vall, List.take_of_length_le, gB, gcW, gcR, posIn, renA, renL, Chunk.ren, Chunk.refs, evOpD, touchD, stepC, isFresh, nFresh, freshOf, mkR, hole, evL, evH, opd, get, putD, ofVal, cellOf, loadE, behind, lenE, idxAddrE, idxE, lookE, lookM, addPtr, intE, strE, unE, convE, AV.int, AV.bool, AV.str, ivs, take, frameOf, firstRegion, refsA, refsL, one, cellsA, floatOk, apartT, List.map, if_true, if_false, E_P, E_glob0, E_glob1, reduceCtorEq, beq_self_eq_true, ↓reduceIte, Nat.reduceEqDiff, cond_true, cond_false, Nat.reduceAdd, Nat.reduceSub, Nat.reduceMul, Nat.reduceLT, Nat.reduceLeDiff, Int.reduceToNat, Int.reduceLT, Int.reduceLE, Option.getD, Int.reduceMul, Int.reduceAdd, List.drop, List.take, Nat.reduceBEq, List.isEmpty, Int.reduceEq, Int.reduceNe, Int.reduceNeg, Int.reduceGT, Int.reduceGE, beq_true, beq_false, UInt8.reduceToNat, eqE, eq_self, foldE, maxE, minE, fillA, over, chop, List.replicate, leavesOk, leafOk, cellsEq, cellEq, E_byref, en29, bs23, bs46, rowsG_len]
  exact ⟨_, rfl⟩
theorem pd_4 (row : Int) (g : List Gl) (hg : okG g) (c w r arg : Int) (p : List Int) (hp : ∀ x ∈ p, -999999999 ≤ x ∧ x ≤ 999999999) (hl : popS (4) ≤ p.length) (hl2 : p.length ≤ 16) (hb : bI arg ∧ bI row ∧ bI c ∧ bI w) : ∃ L, callT E 29 [.agg [.i (.v (.int .i64 (4))), .i (.v (.int .i64 arg))], .i (.sl 1 (rows64 p) false), .i (.v (.int .i64 row)), .i (.sl 3 (rowsG g) false), .agg [.i (.v (.int .i64 c)), .i (.v (.int .i64 w)), .i (.v (.int .i64 r))]] [] = some (.i (.sl 1 (rows64 (pushedR row g c w (4) arg p)) false), L) := by
  have hg1 := hg.1
  have hlp : 0 < p.length := by have : popS 4 = 1 := rfl; omega
  have h0 := rows64_0 hlp
  rw [show pushedR row g c w 4 arg p = [charS g (p.getD 0 0)] from rfl]
  rw [show rows64 [charS g (p.getD 0 0)] = [[.v (.int .i64 (charS g (p.getD 0 0)))]] from rfl]
  generalize p.getD 0 0 = a at *
  have hk := fun H => ik44 g hg a H
  rw [callT_eq Tryd.func29 rfl fok29 (by simp [Tryd.ntmps29])]
  simp (disch := first | omega | (simp only [vlen, rowsG_len, rows64_len]; omega)) only [vall, List.take_of_length_le, gB, gcW, gcR, posIn, renA, renL, Chunk.ren, Chunk.refs, evOpD, touchD, stepC, isFresh, nFresh, freshOf, mkR, hole, evL, evH, opd, get, putD, ofVal, cellOf, loadE, behind, lenE, idxAddrE, idxE, lookE, lookM, addPtr, intE, strE, unE, convE, AV.int, AV.bool, AV.str, ivs, take, frameOf, firstRegion, refsA, refsL, one, cellsA, floatOk, apartT, List.map, if_true, if_false, E_P, E_glob0, E_glob1, reduceCtorEq, beq_self_eq_true, ↓reduceIte, Nat.reduceEqDiff, cond_true, cond_false, Nat.reduceAdd, Nat.reduceSub, Nat.reduceMul, Nat.reduceLT, Nat.reduceLeDiff, Int.reduceToNat, Int.reduceLT, Int.reduceLE, Option.getD, Int.reduceMul, Int.reduceAdd, List.drop, List.take, Nat.reduceBEq, List.isEmpty, Int.reduceEq, Int.reduceNe, Int.reduceNeg, Int.reduceGT, Int.reduceGE, beq_true, beq_false, UInt8.reduceToNat, eqE, eq_self, foldE, maxE, minE, fillA, over, chop, List.replicate, leavesOk, leafOk, cellsEq, cellEq, E_byref, en29, bs23, bs46, hk, h0, rowsG_len, rows64_len]
  exact ⟨_, rfl⟩
theorem pd_5 (row : Int) (g : List Gl) (hg : okG g) (c w r arg : Int) (p : List Int) (hp : ∀ x ∈ p, -999999999 ≤ x ∧ x ≤ 999999999) (hl : popS (5) ≤ p.length) (hl2 : p.length ≤ 16) (hb : bI arg ∧ bI row ∧ bI c ∧ bI w) : ∃ L, callT E 29 [.agg [.i (.v (.int .i64 (5))), .i (.v (.int .i64 arg))], .i (.sl 1 (rows64 p) false), .i (.v (.int .i64 row)), .i (.sl 3 (rowsG g) false), .agg [.i (.v (.int .i64 c)), .i (.v (.int .i64 w)), .i (.v (.int .i64 r))]] [] = some (.i (.sl 1 (rows64 (pushedR row g c w (5) arg p)) false), L) := by
  have hg1 := hg.1
  have hlp : 0 < p.length := by have : popS 5 = 1 := rfl; omega
  have h0 := rows64_0 hlp
  rw [show pushedR row g c w 5 arg p = [styleV g (p.getD 0 0)] from rfl]
  rw [show rows64 [styleV g (p.getD 0 0)] = [[.v (.int .i64 (styleV g (p.getD 0 0)))]] from rfl]
  generalize p.getD 0 0 = a at *
  have hk := fun H => ik45 g hg a H
  rw [callT_eq Tryd.func29 rfl fok29 (by simp [Tryd.ntmps29])]
  simp (disch := first | omega | (simp only [vlen, rowsG_len, rows64_len]; omega)) only [vall, List.take_of_length_le, gB, gcW, gcR, posIn, renA, renL, Chunk.ren, Chunk.refs, evOpD, touchD, stepC, isFresh, nFresh, freshOf, mkR, hole, evL, evH, opd, get, putD, ofVal, cellOf, loadE, behind, lenE, idxAddrE, idxE, lookE, lookM, addPtr, intE, strE, unE, convE, AV.int, AV.bool, AV.str, ivs, take, frameOf, firstRegion, refsA, refsL, one, cellsA, floatOk, apartT, List.map, if_true, if_false, E_P, E_glob0, E_glob1, reduceCtorEq, beq_self_eq_true, ↓reduceIte, Nat.reduceEqDiff, cond_true, cond_false, Nat.reduceAdd, Nat.reduceSub, Nat.reduceMul, Nat.reduceLT, Nat.reduceLeDiff, Int.reduceToNat, Int.reduceLT, Int.reduceLE, Option.getD, Int.reduceMul, Int.reduceAdd, List.drop, List.take, Nat.reduceBEq, List.isEmpty, Int.reduceEq, Int.reduceNe, Int.reduceNeg, Int.reduceGT, Int.reduceGE, beq_true, beq_false, UInt8.reduceToNat, eqE, eq_self, foldE, maxE, minE, fillA, over, chop, List.replicate, leavesOk, leafOk, cellsEq, cellEq, E_byref, en29, bs23, bs46, hk, h0, rowsG_len, rows64_len]
  exact ⟨_, rfl⟩
theorem pd_two (op : Int) (ho : 8 ≤ op ∧ op ≤ 12) (row : Int) (g : List Gl) (hg : okG g) (c w r arg : Int) (p : List Int) (hp : ∀ x ∈ p, -999999999 ≤ x ∧ x ≤ 999999999) (hl : popS (op) ≤ p.length) (hl2 : p.length ≤ 16) (hb : bI arg ∧ bI row ∧ bI c ∧ bI w) : ∃ L, callT E 29 [.agg [.i (.v (.int .i64 (op))), .i (.v (.int .i64 arg))], .i (.sl 1 (rows64 p) false), .i (.v (.int .i64 row)), .i (.sl 3 (rowsG g) false), .agg [.i (.v (.int .i64 c)), .i (.v (.int .i64 w)), .i (.v (.int .i64 r))]] [] = some (.i (.sl 1 (rows64 (pushedR row g c w (op) arg p)) false), L) := by
  have hg1 := hg.1
  have hlp : 1 < p.length := by
    have : popS op = 2 := by
      obtain ⟨n, rfl⟩ := Int.eq_ofNat_of_zero_le (show 0 ≤ op by omega)
      have : n = 8 ∨ n = 9 ∨ n = 10 ∨ n = 11 ∨ n = 12 := by omega
      rcases this with rfl | rfl | rfl | rfl | rfl <;> rfl
    omega
  have h0 := rows64_0 (p := p) (by omega)
  have h1 := rows64_1 hlp
  have hb0 := getD_b hp 0
  have hb1 := getD_b hp 1
  have hv : ¬ isV op := by unfold isV; omega
  rw [show pushedR row g c w op arg p = [twoS op (p.getD 0 0) (p.getD 1 0)] from by
    unfold pushedR; rw [if_neg hv, if_neg (by omega), if_neg (by omega), if_pos ho]]
  rw [show rows64 [twoS op (p.getD 0 0) (p.getD 1 0)] = [[.v (.int .i64 (twoS op (p.getD 0 0) (p.getD 1 0)))]] from rfl]
  generalize p.getD 0 0 = a at *
  generalize p.getD 1 0 = b at *
  have hk := fun H => ik46 op a b ho hb0 hb1 H
  generalize twoS op a b = y at *
  clear hv
  obtain ⟨n, rfl⟩ := Int.eq_ofNat_of_zero_le (show 0 ≤ op by omega)
  have hc : n = 8 ∨ n = 9 ∨ n = 10 ∨ n = 11 ∨ n = 12 := by omega
  rcases hc with rfl | rfl | rfl | rfl | rfl
  · rw [show (((8 : Nat)) : Int) = 8 from rfl] at *
    rw [callT_eq Tryd.func29 rfl fok29 (by simp [Tryd.ntmps29])]
    simp (disch := first | omega | (simp only [vlen, rowsG_len, rows64_len]; omega)) only [vall, List.take_of_length_le, gB, gcW, gcR, posIn, renA, renL, Chunk.ren, Chunk.refs, evOpD, touchD, stepC, isFresh, nFresh, freshOf, mkR, hole, evL, evH, opd, get, putD, ofVal, cellOf, loadE, behind, lenE, idxAddrE, idxE, lookE, lookM, addPtr, intE, strE, unE, convE, AV.int, AV.bool, AV.str, ivs, take, frameOf, firstRegion, refsA, refsL, one, cellsA, floatOk, apartT, List.map, if_true, if_false, E_P, E_glob0, E_glob1, reduceCtorEq, beq_self_eq_true, ↓reduceIte, Nat.reduceEqDiff, cond_true, cond_false, Nat.reduceAdd, Nat.reduceSub, Nat.reduceMul, Nat.reduceLT, Nat.reduceLeDiff, Int.reduceToNat, Int.reduceLT, Int.reduceLE, Option.getD, Int.reduceMul, Int.reduceAdd, List.drop, List.take, Nat.reduceBEq, List.isEmpty, Int.reduceEq, Int.reduceNe, Int.reduceNeg, Int.reduceGT, Int.reduceGE, beq_true, beq_false, UInt8.reduceToNat, eqE, eq_self, foldE, maxE, minE, fillA, over, chop, List.replicate, leavesOk, leafOk, cellsEq, cellEq, E_byref, en29, bs23, bs46, hk, h0, h1, rowsG_len, rows64_len]
    exact ⟨_, rfl⟩
  · rw [show (((9 : Nat)) : Int) = 9 from rfl] at *
    rw [callT_eq Tryd.func29 rfl fok29 (by simp [Tryd.ntmps29])]
    simp (disch := first | omega | (simp only [vlen, rowsG_len, rows64_len]; omega)) only [vall, List.take_of_length_le, gB, gcW, gcR, posIn, renA, renL, Chunk.ren, Chunk.refs, evOpD, touchD, stepC, isFresh, nFresh, freshOf, mkR, hole, evL, evH, opd, get, putD, ofVal, cellOf, loadE, behind, lenE, idxAddrE, idxE, lookE, lookM, addPtr, intE, strE, unE, convE, AV.int, AV.bool, AV.str, ivs, take, frameOf, firstRegion, refsA, refsL, one, cellsA, floatOk, apartT, List.map, if_true, if_false, E_P, E_glob0, E_glob1, reduceCtorEq, beq_self_eq_true, ↓reduceIte, Nat.reduceEqDiff, cond_true, cond_false, Nat.reduceAdd, Nat.reduceSub, Nat.reduceMul, Nat.reduceLT, Nat.reduceLeDiff, Int.reduceToNat, Int.reduceLT, Int.reduceLE, Option.getD, Int.reduceMul, Int.reduceAdd, List.drop, List.take, Nat.reduceBEq, List.isEmpty, Int.reduceEq, Int.reduceNe, Int.reduceNeg, Int.reduceGT, Int.reduceGE, beq_true, beq_false, UInt8.reduceToNat, eqE, eq_self, foldE, maxE, minE, fillA, over, chop, List.replicate, leavesOk, leafOk, cellsEq, cellEq, E_byref, en29, bs23, bs46, hk, h0, h1, rowsG_len, rows64_len]
    exact ⟨_, rfl⟩
  · rw [show (((10 : Nat)) : Int) = 10 from rfl] at *
    rw [callT_eq Tryd.func29 rfl fok29 (by simp [Tryd.ntmps29])]
    simp (disch := first | omega | (simp only [vlen, rowsG_len, rows64_len]; omega)) only [vall, List.take_of_length_le, gB, gcW, gcR, posIn, renA, renL, Chunk.ren, Chunk.refs, evOpD, touchD, stepC, isFresh, nFresh, freshOf, mkR, hole, evL, evH, opd, get, putD, ofVal, cellOf, loadE, behind, lenE, idxAddrE, idxE, lookE, lookM, addPtr, intE, strE, unE, convE, AV.int, AV.bool, AV.str, ivs, take, frameOf, firstRegion, refsA, refsL, one, cellsA, floatOk, apartT, List.map, if_true, if_false, E_P, E_glob0, E_glob1, reduceCtorEq, beq_self_eq_true, ↓reduceIte, Nat.reduceEqDiff, cond_true, cond_false, Nat.reduceAdd, Nat.reduceSub, Nat.reduceMul, Nat.reduceLT, Nat.reduceLeDiff, Int.reduceToNat, Int.reduceLT, Int.reduceLE, Option.getD, Int.reduceMul, Int.reduceAdd, List.drop, List.take, Nat.reduceBEq, List.isEmpty, Int.reduceEq, Int.reduceNe, Int.reduceNeg, Int.reduceGT, Int.reduceGE, beq_true, beq_false, UInt8.reduceToNat, eqE, eq_self, foldE, maxE, minE, fillA, over, chop, List.replicate, leavesOk, leafOk, cellsEq, cellEq, E_byref, en29, bs23, bs46, hk, h0, h1, rowsG_len, rows64_len]
    exact ⟨_, rfl⟩
  · rw [show (((11 : Nat)) : Int) = 11 from rfl] at *
    rw [callT_eq Tryd.func29 rfl fok29 (by simp [Tryd.ntmps29])]
    simp (disch := first | omega | (simp only [vlen, rowsG_len, rows64_len]; omega)) only [vall, List.take_of_length_le, gB, gcW, gcR, posIn, renA, renL, Chunk.ren, Chunk.refs, evOpD, touchD, stepC, isFresh, nFresh, freshOf, mkR, hole, evL, evH, opd, get, putD, ofVal, cellOf, loadE, behind, lenE, idxAddrE, idxE, lookE, lookM, addPtr, intE, strE, unE, convE, AV.int, AV.bool, AV.str, ivs, take, frameOf, firstRegion, refsA, refsL, one, cellsA, floatOk, apartT, List.map, if_true, if_false, E_P, E_glob0, E_glob1, reduceCtorEq, beq_self_eq_true, ↓reduceIte, Nat.reduceEqDiff, cond_true, cond_false, Nat.reduceAdd, Nat.reduceSub, Nat.reduceMul, Nat.reduceLT, Nat.reduceLeDiff, Int.reduceToNat, Int.reduceLT, Int.reduceLE, Option.getD, Int.reduceMul, Int.reduceAdd, List.drop, List.take, Nat.reduceBEq, List.isEmpty, Int.reduceEq, Int.reduceNe, Int.reduceNeg, Int.reduceGT, Int.reduceGE, beq_true, beq_false, UInt8.reduceToNat, eqE, eq_self, foldE, maxE, minE, fillA, over, chop, List.replicate, leavesOk, leafOk, cellsEq, cellEq, E_byref, en29, bs23, bs46, hk, h0, h1, rowsG_len, rows64_len]
    exact ⟨_, rfl⟩
  · rw [show (((12 : Nat)) : Int) = 12 from rfl] at *
    rw [callT_eq Tryd.func29 rfl fok29 (by simp [Tryd.ntmps29])]
    simp (disch := first | omega | (simp only [vlen, rowsG_len, rows64_len]; omega)) only [vall, List.take_of_length_le, gB, gcW, gcR, posIn, renA, renL, Chunk.ren, Chunk.refs, evOpD, touchD, stepC, isFresh, nFresh, freshOf, mkR, hole, evL, evH, opd, get, putD, ofVal, cellOf, loadE, behind, lenE, idxAddrE, idxE, lookE, lookM, addPtr, intE, strE, unE, convE, AV.int, AV.bool, AV.str, ivs, take, frameOf, firstRegion, refsA, refsL, one, cellsA, floatOk, apartT, List.map, if_true, if_false, E_P, E_glob0, E_glob1, reduceCtorEq, beq_self_eq_true, ↓reduceIte, Nat.reduceEqDiff, cond_true, cond_false, Nat.reduceAdd, Nat.reduceSub, Nat.reduceMul, Nat.reduceLT, Nat.reduceLeDiff, Int.reduceToNat, Int.reduceLT, Int.reduceLE, Option.getD, Int.reduceMul, Int.reduceAdd, List.drop, List.take, Nat.reduceBEq, List.isEmpty, Int.reduceEq, Int.reduceNe, Int.reduceNeg, Int.reduceGT, Int.reduceGE, beq_true, beq_false, UInt8.reduceToNat, eqE, eq_self, foldE, maxE, minE, fillA, over, chop, List.replicate, leavesOk, leafOk, cellsEq, cellEq, E_byref, en29, bs23, bs46, hk, h0, h1, rowsG_len, rows64_len]
    exact ⟨_, rfl⟩
theorem pd_13 (row : Int) (g : List Gl) (hg : okG g) (c w r arg : Int) (p : List Int) (hp : ∀ x ∈ p, -999999999 ≤ x ∧ x ≤ 999999999) (hl : popS (13) ≤ p.length) (hl2 : p.length ≤ 16) (hb : bI arg ∧ bI row ∧ bI c ∧ bI w) : ∃ L, callT E 29 [.agg [.i (.v (.int .i64 (13))), .i (.v (.int .i64 arg))], .i (.sl 1 (rows64 p) false), .i (.v (.int .i64 row)), .i (.sl 3 (rowsG g) false), .agg [.i (.v (.int .i64 c)), .i (.v (.int .i64 w)), .i (.v (.int .i64 r))]] [] = some (.i (.sl 1 (rows64 (pushedR row g c w (13) arg p)) false), L) := by
  have hlp : 0 < p.length := by have : popS 13 = 1 := rfl; omega
  have h0 := rows64_0 hlp
  rw [show pushedR row g c w 13 arg p = [if p.getD 0 0 = 0 then 1 else 0] from rfl]
  by_cases e : p.getD 0 0 = 0
  · have ht1 := fun H => ik47 true H
    rw [if_pos rfl] at ht1
    rw [if_pos e]
    rw [e] at h0
    rw [show rows64 [1] = [[.v (.int .i64 1)]] from rfl]
    rw [callT_eq Tryd.func29 rfl fok29 (by simp [Tryd.ntmps29])]
    simp (disch := first | omega | (simp only [vlen, rows64_len]; omega)) only [vall, List.take_of_length_le, gB, gcW, gcR, posIn, renA, renL, Chunk.ren, Chunk.refs, evOpD, touchD, stepC, isFresh, nFresh, freshOf, mkR, hole, evL, evH, opd, get, putD, ofVal, cellOf, loadE, behind, lenE, idxAddrE, idxE, lookE, lookM, addPtr, intE, strE, unE, convE, AV.int, AV.bool, AV.str, ivs, take, frameOf, firstRegion, refsA, refsL, one, cellsA, floatOk, apartT, List.map, if_true, if_false, E_P, E_glob0, E_glob1, reduceCtorEq, beq_self_eq_true, ↓reduceIte, Nat.reduceEqDiff, cond_true, cond_false, Nat.reduceAdd, Nat.reduceSub, Nat.reduceMul, Nat.reduceLT, Nat.reduceLeDiff, Int.reduceToNat, Int.reduceLT, Int.reduceLE, Option.getD, Int.reduceMul, Int.reduceAdd, List.drop, List.take, Nat.reduceBEq, List.isEmpty, Int.reduceEq, Int.reduceNe, Int.reduceNeg, Int.reduceGT, Int.reduceGE, beq_true, beq_false, UInt8.reduceToNat, eqE, eq_self, foldE, maxE, minE, fillA, over, chop, List.replicate, leavesOk, leafOk, cellsEq, cellEq, E_byref, en29, bs23, bs46, ht1, h0, rows64_len]
    exact ⟨_, rfl⟩
  · have ht0 := fun H => ik47 false H
    rw [if_neg (by decide)] at ht0
    rw [if_neg e]
    rw [show rows64 [0] = [[.v (.int .i64 0)]] from rfl]
    generalize p.getD 0 0 = a at *
    rw [callT_eq Tryd.func29 rfl fok29 (by simp [Tryd.ntmps29])]
    simp (disch := first | omega | (simp only [vlen, rows64_len]; omega)) only [vall, List.take_of_length_le, gB, gcW, gcR, posIn, renA, renL, Chunk.ren, Chunk.refs, evOpD, touchD, stepC, isFresh, nFresh, freshOf, mkR, hole, evL, evH, opd, get, putD, ofVal, cellOf, loadE, behind, lenE, idxAddrE, idxE, lookE, lookM, addPtr, intE, strE, unE, convE, AV.int, AV.bool, AV.str, ivs, take, frameOf, firstRegion, refsA, refsL, one, cellsA, floatOk, apartT, List.map, if_true, if_false, E_P, E_glob0, E_glob1, reduceCtorEq, beq_self_eq_true, ↓reduceIte, Nat.reduceEqDiff, cond_true, cond_false, Nat.reduceAdd, Nat.reduceSub, Nat.reduceMul, Nat.reduceLT, Nat.reduceLeDiff, Int.reduceToNat, Int.reduceLT, Int.reduceLE, Option.getD, Int.reduceMul, Int.reduceAdd, List.drop, List.take, Nat.reduceBEq, List.isEmpty, Int.reduceEq, Int.reduceNe, Int.reduceNeg, Int.reduceGT, Int.reduceGE, beq_true, beq_false, UInt8.reduceToNat, eqE, eq_self, foldE, maxE, minE, fillA, over, chop, List.replicate, leavesOk, leafOk, cellsEq, cellEq, E_byref, en29, bs23, bs46, ht0, e, h0, rows64_len]
    exact ⟨_, rfl⟩
theorem pd_14 (row : Int) (g : List Gl) (hg : okG g) (c w r arg : Int) (p : List Int) (hp : ∀ x ∈ p, -999999999 ≤ x ∧ x ≤ 999999999) (hl : popS (14) ≤ p.length) (hl2 : p.length ≤ 16) (hb : bI arg ∧ bI row ∧ bI c ∧ bI w) : ∃ L, callT E 29 [.agg [.i (.v (.int .i64 (14))), .i (.v (.int .i64 arg))], .i (.sl 1 (rows64 p) false), .i (.v (.int .i64 row)), .i (.sl 3 (rowsG g) false), .agg [.i (.v (.int .i64 c)), .i (.v (.int .i64 w)), .i (.v (.int .i64 r))]] [] = some (.i (.sl 1 (rows64 (pushedR row g c w (14) arg p)) false), L) := by
  have hlp : 0 < p.length := by have : popS 14 = 1 := rfl; omega
  have h0 := rows64_0 hlp
  rw [show pushedR row g c w 14 arg p = [p.getD 0 0, p.getD 0 0] from rfl]
  rw [show rows64 [p.getD 0 0, p.getD 0 0] = [[.v (.int .i64 (p.getD 0 0))], [.v (.int .i64 (p.getD 0 0))]] from rfl]
  generalize p.getD 0 0 = a at *
  rw [callT_eq Tryd.func29 rfl fok29 (by simp [Tryd.ntmps29])]
  simp (disch := first | omega | (simp only [vlen, rows64_len]; omega)) only [vall, List.take_of_length_le, gB, gcW, gcR, posIn, renA, renL, Chunk.ren, Chunk.refs, evOpD, touchD, stepC, isFresh, nFresh, freshOf, mkR, hole, evL, evH, opd, get, putD, ofVal, cellOf, loadE, behind, lenE, idxAddrE, idxE, lookE, lookM, addPtr, intE, strE, unE, convE, AV.int, AV.bool, AV.str, ivs, take, frameOf, firstRegion, refsA, refsL, one, cellsA, floatOk, apartT, List.map, if_true, if_false, E_P, E_glob0, E_glob1, reduceCtorEq, beq_self_eq_true, ↓reduceIte, Nat.reduceEqDiff, cond_true, cond_false, Nat.reduceAdd, Nat.reduceSub, Nat.reduceMul, Nat.reduceLT, Nat.reduceLeDiff, Int.reduceToNat, Int.reduceLT, Int.reduceLE, Option.getD, Int.reduceMul, Int.reduceAdd, List.drop, List.take, Nat.reduceBEq, List.isEmpty, Int.reduceEq, Int.reduceNe, Int.reduceNeg, Int.reduceGT, Int.reduceGE, beq_true, beq_false, UInt8.reduceToNat, eqE, eq_self, foldE, maxE, minE, fillA, over, chop, List.replicate, leavesOk, leafOk, cellsEq, cellEq, E_byref, en29, bs23, bs46, h0, rows64_len]
  exact ⟨_, rfl⟩
theorem pd_16 (row : Int) (g : List Gl) (hg : okG g) (c w r arg : Int) (p : List Int) (hp : ∀ x ∈ p, -999999999 ≤ x ∧ x ≤ 999999999) (hl : popS (16) ≤ p.length) (hl2 : p.length ≤ 16) (hb : bI arg ∧ bI row ∧ bI c ∧ bI w) : ∃ L, callT E 29 [.agg [.i (.v (.int .i64 (16))), .i (.v (.int .i64 arg))], .i (.sl 1 (rows64 p) false), .i (.v (.int .i64 row)), .i (.sl 3 (rowsG g) false), .agg [.i (.v (.int .i64 c)), .i (.v (.int .i64 w)), .i (.v (.int .i64 r))]] [] = some (.i (.sl 1 (rows64 (pushedR row g c w (16) arg p)) false), L) := by
  have hlp : 1 < p.length := by have : popS 16 = 2 := rfl; omega
  have h0 := rows64_0 (p := p) (by omega)
  have h1 := rows64_1 hlp
  rw [show pushedR row g c w 16 arg p = [p.getD 1 0, p.getD 0 0] from rfl]
  rw [show rows64 [p.getD 1 0, p.getD 0 0] = [[.v (.int .i64 (p.getD 1 0))], [.v (.int .i64 (p.getD 0 0))]] from rfl]
  generalize p.getD 0 0 = a at *
  generalize p.getD 1 0 = b at *
  rw [callT_eq Tryd.func29 rfl fok29 (by simp [Tryd.ntmps29])]
  simp (disch := first | omega | (simp only [vlen, rows64_len]; omega)) only [vall, List.take_of_length_le, gB, gcW, gcR, posIn, renA, renL, Chunk.ren, Chunk.refs, evOpD, touchD, stepC, isFresh, nFresh, freshOf, mkR, hole, evL, evH, opd, get, putD, ofVal, cellOf, loadE, behind, lenE, idxAddrE, idxE, lookE, lookM, addPtr, intE, strE, unE, convE, AV.int, AV.bool, AV.str, ivs, take, frameOf, firstRegion, refsA, refsL, one, cellsA, floatOk, apartT, List.map, if_true, if_false, E_P, E_glob0, E_glob1, reduceCtorEq, beq_self_eq_true, ↓reduceIte, Nat.reduceEqDiff, cond_true, cond_false, Nat.reduceAdd, Nat.reduceSub, Nat.reduceMul, Nat.reduceLT, Nat.reduceLeDiff, Int.reduceToNat, Int.reduceLT, Int.reduceLE, Option.getD, Int.reduceMul, Int.reduceAdd, List.drop, List.take, Nat.reduceBEq, List.isEmpty, Int.reduceEq, Int.reduceNe, Int.reduceNeg, Int.reduceGT, Int.reduceGE, beq_true, beq_false, UInt8.reduceToNat, eqE, eq_self, foldE, maxE, minE, fillA, over, chop, List.replicate, leavesOk, leafOk, cellsEq, cellEq, E_byref, en29, bs23, bs46, h0, h1, rows64_len]
  exact ⟨_, rfl⟩
theorem pd_0 (row : Int) (g : List Gl) (hg : okG g) (c w r arg : Int) (p : List Int) (hp : ∀ x ∈ p, -999999999 ≤ x ∧ x ≤ 999999999) (hl : popS (0) ≤ p.length) (hl2 : p.length ≤ 16) (hb : bI arg ∧ bI row ∧ bI c ∧ bI w) : ∃ L, callT E 29 [.agg [.i (.v (.int .i64 (0))), .i (.v (.int .i64 arg))], .i (.sl 1 (rows64 p) false), .i (.v (.int .i64 row)), .i (.sl 3 (rowsG g) false), .agg [.i (.v (.int .i64 c)), .i (.v (.int .i64 w)), .i (.v (.int .i64 r))]] [] = some (.i (.sl 1 (rows64 (pushedR row g c w (0) arg p)) false), L) := by
  rw [show pushedR row g c w 0 arg p = [] from rfl]
  rw [show rows64 [] = [] from rfl]
  rw [callT_eq Tryd.func29 rfl fok29 (by simp [Tryd.ntmps29])]
  simp (disch := first | omega | (simp only [vlen, rows64_len]; omega)) only [vall, List.take_of_length_le, gB, gcW, gcR, posIn, renA, renL, Chunk.ren, Chunk.refs, evOpD, touchD, stepC, isFresh, nFresh, freshOf, mkR, hole, evL, evH, opd, get, putD, ofVal, cellOf, loadE, behind, lenE, idxAddrE, idxE, lookE, lookM, addPtr, intE, strE, unE, convE, AV.int, AV.bool, AV.str, ivs, take, frameOf, firstRegion, refsA, refsL, one, cellsA, floatOk, apartT, List.map, if_true, if_false, E_P, E_glob0, E_glob1, reduceCtorEq, beq_self_eq_true, ↓reduceIte, Nat.reduceEqDiff, cond_true, cond_false, Nat.reduceAdd, Nat.reduceSub, Nat.reduceMul, Nat.reduceLT, Nat.reduceLeDiff, Int.reduceToNat, Int.reduceLT, Int.reduceLE, Option.getD, Int.reduceMul, Int.reduceAdd, List.drop, List.take, Nat.reduceBEq, List.isEmpty, Int.reduceEq, Int.reduceNe, Int.reduceNeg, Int.reduceGT, Int.reduceGE, beq_true, beq_false, UInt8.reduceToNat, eqE, eq_self, foldE, maxE, minE, fillA, over, chop, List.replicate, leavesOk, leafOk, cellsEq, cellEq, E_byref, en29, bs23, bs46, rows64_len]
  exact ⟨_, rfl⟩
theorem pd_15 (row : Int) (g : List Gl) (hg : okG g) (c w r arg : Int) (p : List Int) (hp : ∀ x ∈ p, -999999999 ≤ x ∧ x ≤ 999999999) (hl : popS (15) ≤ p.length) (hl2 : p.length ≤ 16) (hb : bI arg ∧ bI row ∧ bI c ∧ bI w) : ∃ L, callT E 29 [.agg [.i (.v (.int .i64 (15))), .i (.v (.int .i64 arg))], .i (.sl 1 (rows64 p) false), .i (.v (.int .i64 row)), .i (.sl 3 (rowsG g) false), .agg [.i (.v (.int .i64 c)), .i (.v (.int .i64 w)), .i (.v (.int .i64 r))]] [] = some (.i (.sl 1 (rows64 (pushedR row g c w (15) arg p)) false), L) := by
  rw [show pushedR row g c w 15 arg p = [] from rfl]
  rw [show rows64 [] = [] from rfl]
  rw [callT_eq Tryd.func29 rfl fok29 (by simp [Tryd.ntmps29])]
  simp (disch := first | omega | (simp only [vlen, rows64_len]; omega)) only [vall, List.take_of_length_le, gB, gcW, gcR, posIn, renA, renL, Chunk.ren, Chunk.refs, evOpD, touchD, stepC, isFresh, nFresh, freshOf, mkR, hole, evL, evH, opd, get, putD, ofVal, cellOf, loadE, behind, lenE, idxAddrE, idxE, lookE, lookM, addPtr, intE, strE, unE, convE, AV.int, AV.bool, AV.str, ivs, take, frameOf, firstRegion, refsA, refsL, one, cellsA, floatOk, apartT, List.map, if_true, if_false, E_P, E_glob0, E_glob1, reduceCtorEq, beq_self_eq_true, ↓reduceIte, Nat.reduceEqDiff, cond_true, cond_false, Nat.reduceAdd, Nat.reduceSub, Nat.reduceMul, Nat.reduceLT, Nat.reduceLeDiff, Int.reduceToNat, Int.reduceLT, Int.reduceLE, Option.getD, Int.reduceMul, Int.reduceAdd, List.drop, List.take, Nat.reduceBEq, List.isEmpty, Int.reduceEq, Int.reduceNe, Int.reduceNeg, Int.reduceGT, Int.reduceGE, beq_true, beq_false, UInt8.reduceToNat, eqE, eq_self, foldE, maxE, minE, fillA, over, chop, List.replicate, leavesOk, leafOk, cellsEq, cellEq, E_byref, en29, bs23, bs46, rows64_len]
  exact ⟨_, rfl⟩
theorem pd_17 (row : Int) (g : List Gl) (hg : okG g) (c w r arg : Int) (p : List Int) (hp : ∀ x ∈ p, -999999999 ≤ x ∧ x ≤ 999999999) (hl : popS (17) ≤ p.length) (hl2 : p.length ≤ 16) (hb : bI arg ∧ bI row ∧ bI c ∧ bI w) : ∃ L, callT E 29 [.agg [.i (.v (.int .i64 (17))), .i (.v (.int .i64 arg))], .i (.sl 1 (rows64 p) false), .i (.v (.int .i64 row)), .i (.sl 3 (rowsG g) false), .agg [.i (.v (.int .i64 c)), .i (.v (.int .i64 w)), .i (.v (.int .i64 r))]] [] = some (.i (.sl 1 (rows64 (pushedR row g c w (17) arg p)) false), L) := by
  rw [show pushedR row g c w 17 arg p = [] from rfl]
  rw [show rows64 [] = [] from rfl]
  rw [callT_eq Tryd.func29 rfl fok29 (by simp [Tryd.ntmps29])]
  simp (disch := first | omega | (simp only [vlen, rows64_len]; omega)) only [vall, List.take_of_length_le, gB, gcW, gcR, posIn, renA, renL, Chunk.ren, Chunk.refs, evOpD, touchD, stepC, isFresh, nFresh, freshOf, mkR, hole, evL, evH, opd, get, putD, ofVal, cellOf, loadE, behind, lenE, idxAddrE, idxE, lookE, lookM, addPtr, intE, strE, unE, convE, AV.int, AV.bool, AV.str, ivs, take, frameOf, firstRegion, refsA, refsL, one, cellsA, floatOk, apartT, List.map, if_true, if_false, E_P, E_glob0, E_glob1, reduceCtorEq, beq_self_eq_true, ↓reduceIte, Nat.reduceEqDiff, cond_true, cond_false, Nat.reduceAdd, Nat.reduceSub, Nat.reduceMul, Nat.reduceLT, Nat.reduceLeDiff, Int.reduceToNat, Int.reduceLT, Int.reduceLE, Option.getD, Int.reduceMul, Int.reduceAdd, List.drop, List.take, Nat.reduceBEq, List.isEmpty, Int.reduceEq, Int.reduceNe, Int.reduceNeg, Int.reduceGT, Int.reduceGE, beq_true, beq_false, UInt8.reduceToNat, eqE, eq_self, foldE, maxE, minE, fillA, over, chop, List.replicate, leavesOk, leafOk, cellsEq, cellEq, E_byref, en29, bs23, bs46, rows64_len]
  exact ⟨_, rfl⟩
theorem pd_18 (row : Int) (g : List Gl) (hg : okG g) (c w r arg : Int) (p : List Int) (hp : ∀ x ∈ p, -999999999 ≤ x ∧ x ≤ 999999999) (hl : popS (18) ≤ p.length) (hl2 : p.length ≤ 16) (hb : bI arg ∧ bI row ∧ bI c ∧ bI w) : ∃ L, callT E 29 [.agg [.i (.v (.int .i64 (18))), .i (.v (.int .i64 arg))], .i (.sl 1 (rows64 p) false), .i (.v (.int .i64 row)), .i (.sl 3 (rowsG g) false), .agg [.i (.v (.int .i64 c)), .i (.v (.int .i64 w)), .i (.v (.int .i64 r))]] [] = some (.i (.sl 1 (rows64 (pushedR row g c w (18) arg p)) false), L) := by
  rw [show pushedR row g c w 18 arg p = [] from rfl]
  rw [show rows64 [] = [] from rfl]
  rw [callT_eq Tryd.func29 rfl fok29 (by simp [Tryd.ntmps29])]
  simp (disch := first | omega | (simp only [vlen, rows64_len]; omega)) only [vall, List.take_of_length_le, gB, gcW, gcR, posIn, renA, renL, Chunk.ren, Chunk.refs, evOpD, touchD, stepC, isFresh, nFresh, freshOf, mkR, hole, evL, evH, opd, get, putD, ofVal, cellOf, loadE, behind, lenE, idxAddrE, idxE, lookE, lookM, addPtr, intE, strE, unE, convE, AV.int, AV.bool, AV.str, ivs, take, frameOf, firstRegion, refsA, refsL, one, cellsA, floatOk, apartT, List.map, if_true, if_false, E_P, E_glob0, E_glob1, reduceCtorEq, beq_self_eq_true, ↓reduceIte, Nat.reduceEqDiff, cond_true, cond_false, Nat.reduceAdd, Nat.reduceSub, Nat.reduceMul, Nat.reduceLT, Nat.reduceLeDiff, Int.reduceToNat, Int.reduceLT, Int.reduceLE, Option.getD, Int.reduceMul, Int.reduceAdd, List.drop, List.take, Nat.reduceBEq, List.isEmpty, Int.reduceEq, Int.reduceNe, Int.reduceNeg, Int.reduceGT, Int.reduceGE, beq_true, beq_false, UInt8.reduceToNat, eqE, eq_self, foldE, maxE, minE, fillA, over, chop, List.replicate, leavesOk, leafOk, cellsEq, cellEq, E_byref, en29, bs23, bs46, rows64_len]
  exact ⟨_, rfl⟩
theorem pd_19 (row : Int) (g : List Gl) (hg : okG g) (c w r arg : Int) (p : List Int) (hp : ∀ x ∈ p, -999999999 ≤ x ∧ x ≤ 999999999) (hl : popS (19) ≤ p.length) (hl2 : p.length ≤ 16) (hb : bI arg ∧ bI row ∧ bI c ∧ bI w) : ∃ L, callT E 29 [.agg [.i (.v (.int .i64 (19))), .i (.v (.int .i64 arg))], .i (.sl 1 (rows64 p) false), .i (.v (.int .i64 row)), .i (.sl 3 (rowsG g) false), .agg [.i (.v (.int .i64 c)), .i (.v (.int .i64 w)), .i (.v (.int .i64 r))]] [] = some (.i (.sl 1 (rows64 (pushedR row g c w (19) arg p)) false), L) := by
  rw [show pushedR row g c w 19 arg p = [] from rfl]
  rw [show rows64 [] = [] from rfl]
  rw [callT_eq Tryd.func29 rfl fok29 (by simp [Tryd.ntmps29])]
  simp (disch := first | omega | (simp only [vlen, rows64_len]; omega)) only [vall, List.take_of_length_le, gB, gcW, gcR, posIn, renA, renL, Chunk.ren, Chunk.refs, evOpD, touchD, stepC, isFresh, nFresh, freshOf, mkR, hole, evL, evH, opd, get, putD, ofVal, cellOf, loadE, behind, lenE, idxAddrE, idxE, lookE, lookM, addPtr, intE, strE, unE, convE, AV.int, AV.bool, AV.str, ivs, take, frameOf, firstRegion, refsA, refsL, one, cellsA, floatOk, apartT, List.map, if_true, if_false, E_P, E_glob0, E_glob1, reduceCtorEq, beq_self_eq_true, ↓reduceIte, Nat.reduceEqDiff, cond_true, cond_false, Nat.reduceAdd, Nat.reduceSub, Nat.reduceMul, Nat.reduceLT, Nat.reduceLeDiff, Int.reduceToNat, Int.reduceLT, Int.reduceLE, Option.getD, Int.reduceMul, Int.reduceAdd, List.drop, List.take, Nat.reduceBEq, List.isEmpty, Int.reduceEq, Int.reduceNe, Int.reduceNeg, Int.reduceGT, Int.reduceGE, beq_true, beq_false, UInt8.reduceToNat, eqE, eq_self, foldE, maxE, minE, fillA, over, chop, List.replicate, leavesOk, leafOk, cellsEq, cellEq, E_byref, en29, bs23, bs46, rows64_len]
  exact ⟨_, rfl⟩
theorem pd_20 (row : Int) (g : List Gl) (hg : okG g) (c w r arg : Int) (p : List Int) (hp : ∀ x ∈ p, -999999999 ≤ x ∧ x ≤ 999999999) (hl : popS (20) ≤ p.length) (hl2 : p.length ≤ 16) (hb : bI arg ∧ bI row ∧ bI c ∧ bI w) : ∃ L, callT E 29 [.agg [.i (.v (.int .i64 (20))), .i (.v (.int .i64 arg))], .i (.sl 1 (rows64 p) false), .i (.v (.int .i64 row)), .i (.sl 3 (rowsG g) false), .agg [.i (.v (.int .i64 c)), .i (.v (.int .i64 w)), .i (.v (.int .i64 r))]] [] = some (.i (.sl 1 (rows64 (pushedR row g c w (20) arg p)) false), L) := by
  rw [show pushedR row g c w 20 arg p = [] from rfl]
  rw [show rows64 [] = [] from rfl]
  rw [callT_eq Tryd.func29 rfl fok29 (by simp [Tryd.ntmps29])]
  simp (disch := first | omega | (simp only [vlen, rows64_len]; omega)) only [vall, List.take_of_length_le, gB, gcW, gcR, posIn, renA, renL, Chunk.ren, Chunk.refs, evOpD, touchD, stepC, isFresh, nFresh, freshOf, mkR, hole, evL, evH, opd, get, putD, ofVal, cellOf, loadE, behind, lenE, idxAddrE, idxE, lookE, lookM, addPtr, intE, strE, unE, convE, AV.int, AV.bool, AV.str, ivs, take, frameOf, firstRegion, refsA, refsL, one, cellsA, floatOk, apartT, List.map, if_true, if_false, E_P, E_glob0, E_glob1, reduceCtorEq, beq_self_eq_true, ↓reduceIte, Nat.reduceEqDiff, cond_true, cond_false, Nat.reduceAdd, Nat.reduceSub, Nat.reduceMul, Nat.reduceLT, Nat.reduceLeDiff, Int.reduceToNat, Int.reduceLT, Int.reduceLE, Option.getD, Int.reduceMul, Int.reduceAdd, List.drop, List.take, Nat.reduceBEq, List.isEmpty, Int.reduceEq, Int.reduceNe, Int.reduceNeg, Int.reduceGT, Int.reduceGE, beq_true, beq_false, UInt8.reduceToNat, eqE, eq_self, foldE, maxE, minE, fillA, over, chop, List.replicate, leavesOk, leafOk, cellsEq, cellEq, E_byref, en29, bs23, bs46, rows64_len]
  exact ⟨_, rfl⟩
theorem c29 (op : Int) (ho : 0 ≤ op ∧ op ≤ 20) (row : Int) (g : List Gl) (hg : okG g) (c w r arg : Int) (p : List Int) (hp : ∀ x ∈ p, -999999999 ≤ x ∧ x ≤ 999999999) (hl : popS (op) ≤ p.length) (hl2 : p.length ≤ 16) (hb : bI arg ∧ bI row ∧ bI c ∧ bI w) : ∃ L, callT E 29 [.agg [.i (.v (.int .i64 (op))), .i (.v (.int .i64 arg))], .i (.sl 1 (rows64 p) false), .i (.v (.int .i64 row)), .i (.sl 3 (rowsG g) false), .agg [.i (.v (.int .i64 c)), .i (.v (.int .i64 w)), .i (.v (.int .i64 r))]] [] = some (.i (.sl 1 (rows64 (pushedR row g c w (op) arg p)) false), L) := by
  by_cases h2 : 8 ≤ op ∧ op ≤ 12
  · exact pd_two op h2 row g hg c w r arg p hp hl hl2 hb
  obtain ⟨n, rfl⟩ := Int.eq_ofNat_of_zero_le ho.1
  have hc : n = 0 ∨ n = 1 ∨ n = 2 ∨ n = 3 ∨ n = 4 ∨ n = 5 ∨ n = 6 ∨ n = 7 ∨ n = 13 ∨ n = 14 ∨ n = 15 ∨ n = 16 ∨ n = 17 ∨ n = 18 ∨ n = 19 ∨ n = 20 := by omega
  rcases hc with rfl | rfl | rfl | rfl | rfl | rfl | rfl | rfl | rfl | rfl | rfl | rfl | rfl | rfl | rfl | rfl
  · exact pd_0 row g hg c w r arg p hp hl hl2 hb
  · exact pd_1 row g hg c w r arg p hp hl hl2 hb
  · exact pd_2 row g hg c w r arg p hp hl hl2 hb
  · exact pd_3 row g hg c w r arg p hp hl hl2 hb
  · exact pd_4 row g hg c w r arg p hp hl hl2 hb
  · exact pd_5 row g hg c w r arg p hp hl hl2 hb
  · exact pd_6 row g hg c w r arg p hp hl hl2 hb
  · exact pd_7 row g hg c w r arg p hp hl hl2 hb
  · exact pd_13 row g hg c w r arg p hp hl hl2 hb
  · exact pd_14 row g hg c w r arg p hp hl hl2 hb
  · exact pd_15 row g hg c w r arg p hp hl hl2 hb
  · exact pd_16 row g hg c w r arg p hp hl hl2 hb
  · exact pd_17 row g hg c w r arg p hp hl hl2 hb
  · exact pd_18 row g hg c w r arg p hp hl hl2 hb
  · exact pd_19 row g hg c w r arg p hp hl hl2 hb
  · exact pd_20 row g hg c w r arg p hp hl hl2 hb
theorem ik29 (op : Int) (ho : 0 ≤ op ∧ op ≤ 20) (row : Int) (g : List Gl) (hg : okG g) (c w r arg : Int) (p : List Int) (hp : ∀ x ∈ p, -999999999 ≤ x ∧ x ≤ 999999999) (hl : popS op ≤ p.length) (hl2 : p.length ≤ 16) (hb : bI arg ∧ bI row ∧ bI c ∧ bI w) (H : Hp) : isoK E (callT E) 29 [.agg [.i (.v (.int .i64 op)), .i (.v (.int .i64 arg))], .i (.sl 1 (rows64 p) false), .i (.v (.int .i64 row)), .i (.sl 3 (rowsG g) false), .agg [.i (.v (.int .i64 c)), .i (.v (.int .i64 w)), .i (.v (.int .i64 r))]] H = some (.i (.sl 1 (rows64 (pushedR row g c w op arg p)) false), H) :=
  isoK_val rfl rfl rfl (c29 op ho row g hg c w r arg p hp hl hl2 hb)
end Go.VI

namespace Go.VI
open Go.Proofs
set_option maxRecDepth 100000
set_option linter.unusedSimpArgs false
set_option linter.unusedVariables false
set_option maxHeartbeats 4000000
theorem pushedR_b {row : Int} {g : List Gl} (hg : okG g) {c w op arg : Int} {p : List Int} (hp : ∀ x ∈ p, -999999999 ≤ x ∧ x ≤ 999999999) (hb : bI arg ∧ bI row ∧ bI c ∧ bI w) : (∀ x ∈ pushedR row g c w op arg p, bI x) ∧ (pushedR row g c w op arg p).length ≤ 2 := by
  have hb0 := getD_b hp 0
  have hb1 := getD_b hp 1
  have hg1 := hg.1
  obtain ⟨z1, z2, z3, z4⟩ := hb
  have n0 : bI (p.getD 0 0) := by unfold bI; omega
  have n1 : bI (p.getD 1 0) := by unfold bI; omega
  have one : ∀ y : Int, bI y → (∀ x ∈ [y], bI x) ∧ [y].length ≤ 2 := fun y h => ⟨by intro x hx; rw [List.mem_singleton.1 hx]; exact h, by simp⟩
  have two : ∀ y z : Int, bI y → bI z → (∀ x ∈ [y, z], bI x) ∧ [y, z].length ≤ 2 := fun y z h h2 => ⟨by intro x hx; rcases List.mem_cons.1 hx with rfl | hx; exact h; rw [List.mem_singleton.1 hx]; exact h2, by simp⟩
  unfold pushedR
  repeat' split
  · refine one _ ?_
    unfold valK; repeat' split
    · exact z1
    · exact z2
    · unfold bI; omega
    · exact z3
    · exact z4
  · exact one _ (charS_b _ _)
  · exact one _ (styleV_b hg _)
  · exact one _ (twoS_b _ hb0 hb1)
  · exact one _ (by unfold bI; omega)
  · exact one _ (by unfold bI; omega)
  · exact two _ _ n0 n0
  · exact two _ _ n1 n0
  · exact ⟨by simp, by simp⟩
theorem l14_i (l : List Ins) (row : Int) (g : List Gl) (lim s i : Int) (pr : List (List IV)) (bb : Bool) (more : List Int) (hm : ∀ x ∈ more, bI x) (hm2 : more.length ≤ 2) (A B C D : Chunk) (a0 b0 c0 d0 : List AV) (hA : A = .box a0) (hB : B = .box b0) (hC : C = .box c0) (hD : D = .box d0) (hcn : (∀ B H, cnL B H a0 = a0) ∧ (∀ B H, cnL B H b0 = b0) ∧ (∀ B H, cnL B H c0 = c0) ∧ ∀ B H, cnL B H d0 = d0) (hrf : refsL a0 = [] ∧ refsL b0 = [] ∧ refsL c0 = [] ∧ refsL d0 = []) :
    ∀ (n k : Nat) (a : List Int), k + n = more.length → a.length + n ≤ 1000 →
    rl E 0 14 (loopAt Tryd.f14 1) [(0, .i (.sl 2 (rowsI l) false)), (1, .i (.v (.int .i64 row))), (2, .i (.sl 3 (rowsG g) false)), (8, .ptr 0 0 0 0), (10, .ptr 1 0 0 0), (12, .i (.v (.int .i64 lim))), (13, .ptr 2 0 0 0), (14, .ref 3 0 0 (a.length)), (15, .i (.v (.int .i64 s))), (16, .i (.v (.int .i64 i))), (17, .ptr 4 0 0 0), (19, .i (.sl 1 pr bb)), (20, .i (.sl 1 (rows64 more) false)), (21, .i (.v (.int .i64 (k))))] [A, B, C, .sl 1 0 (rows64 (a)) false, D] = some (.exit 2, [(0, .i (.sl 2 (rowsI l) false)), (1, .i (.v (.int .i64 row))), (2, .i (.sl 3 (rowsG g) false)), (8, .ptr 0 0 0 0), (10, .ptr 1 0 0 0), (12, .i (.v (.int .i64 lim))), (13, .ptr 2 0 0 0), (14, .ref 3 0 0 (a.length + n)), (15, .i (.v (.int .i64 s))), (16, .i (.v (.int .i64 i))), (17, .ptr 4 0 0 0), (19, .i (.sl 1 pr bb)), (20, .i (.sl 1 (rows64 more) false)), (21, .i (.v (.int .i64 (more.length))))] ++ [(88, .i (.v (.bool false)))], [A, B, C, .sl 1 0 (rows64 (a ++ (more.drop k).map limS)) false, D]) := by
  obtain ⟨x1, x2, x3, x4⟩ := hcn
  obtain ⟨y1, y2, y3, y4⟩ := hrf
  have ren : ∀ (c : List AV), refsL c = [] → ∀ ρ, renL ρ c = c := fun c h ρ => (refs_ren ρ).2 c h
  have w1 := ren a0 y1
  have w2 := ren b0 y2
  have w3 := ren c0 y3
  have w4 := ren d0 y4
  subst hA hB hC hD
  intro n
  induction n with
  | zero =>
    intro k a hk ha
    obtain rfl : k = more.length := by omega
    rw [List.drop_length, List.map_nil, List.append_nil, Nat.add_zero]
    rw [rl_step (fn := Tryd.f14) (k := 1) rfl]
    simp (disch := first | omega | (simp only [vlen, rows64_len]; omega)) only [vall, List.take_of_length_le, gB, gcW, gcR, posIn, renA, renL, Chunk.ren, Chunk.refs, evOpD, touchD, stepC, isFresh, nFresh, freshOf, mkR, hole, evL, evH, opd, get, putD, ofVal, cellOf, loadE, behind, lenE, idxAddrE, idxE, lookE, lookM, addPtr, intE, strE, unE, convE, AV.int, AV.bool, AV.str, ivs, take, frameOf, firstRegion, refsA, refsL, one, cellsA, floatOk, apartT, List.map, if_true, if_false, E_P, E_glob0, E_glob1, reduceCtorEq, beq_self_eq_true, ↓reduceIte, Nat.reduceEqDiff, cond_true, cond_false, Nat.reduceAdd, Nat.reduceSub, Nat.reduceMul, Nat.reduceLT, Nat.reduceLeDiff, Int.reduceToNat, Int.reduceLT, Int.reduceLE, Option.getD, Int.reduceMul, Int.reduceAdd, List.drop, List.take, Nat.reduceBEq, List.isEmpty, Int.reduceEq, Int.reduceNe, Int.reduceNeg, Int.reduceGT, Int.reduceGE, beq_true, beq_false, UInt8.reduceToNat, eqE, eq_self, foldE, maxE, minE, fillA, over, chop, List.replicate, leavesOk, leafOk, cellsEq, cellEq, E_byref, en14, bs22, bs23, bs46, rows64_len, x1, x2, x3, x4, y1, y2, y3, y4, w1, w2, w3, w4, show ∀ B fr H, execT E B 14 (Code.loop _) fr H = rlM E B 14 (loopAt Tryd.f14 1) [0, 1, 2, 8, 10, 12, 13, 14, 15, 16, 17, 19, 20, 21] [] (matF [(14, 1)] fr H).1 (matB [] (matF [(14, 1)] fr H).1 (matF [(14, 1)] fr H).2) from fun B fr H => rl_introM rfl mt14_19 mb14_19 zf14_19 hd14_19 fr H]
  | succ n ih =>
    intro k a hk ha
    have hlt : k < more.length := by omega
    have hrow := rows64_at hlt
    have hx := hm _ (List.getElem_mem hlt)
    rw [List.drop_eq_getElem_cons hlt, List.map_cons]
    generalize more[k] = x at *
    have hlm := fun H => ik30 x hx H
    have hsn := rows64_snoc a (limS x)
    have e := ih (k + 1) (a ++ [limS x]) (by omega) (by simp; omega)
    rw [List.length_append, List.length_singleton, List.append_assoc, List.singleton_append, show a.length + 1 + n = a.length + (n + 1) from by omega] at e
    refine Eq.trans ?_ e
    clear e ih
    rw [rl_step (fn := Tryd.f14) (k := 1) rfl]
    have htk : List.take a.length (rows64 a) = rows64 a := List.take_of_length_le (by rw [rows64_len]; exact Nat.le_refl _)
    simp (disch := first | omega | (simp only [vlen, rows64_len]; omega)) only [vall, List.take_of_length_le, gB, gcW, gcR, posIn, renA, renL, Chunk.ren, Chunk.refs, evOpD, touchD, stepC, isFresh, nFresh, freshOf, mkR, hole, evL, evH, opd, get, putD, ofVal, cellOf, loadE, behind, lenE, idxAddrE, idxE, lookE, lookM, addPtr, intE, strE, unE, convE, AV.int, AV.bool, AV.str, ivs, take, frameOf, firstRegion, refsA, refsL, one, cellsA, floatOk, apartT, List.map, if_true, if_false, E_P, E_glob0, E_glob1, reduceCtorEq, beq_self_eq_true, ↓reduceIte, Nat.reduceEqDiff, cond_true, cond_false, Nat.reduceAdd, Nat.reduceSub, Nat.reduceMul, Nat.reduceLT, Nat.reduceLeDiff, Int.reduceToNat, Int.reduceLT, Int.reduceLE, Option.getD, Int.reduceMul, Int.reduceAdd, List.drop, List.take, Nat.reduceBEq, List.isEmpty, Int.reduceEq, Int.reduceNe, Int.reduceNeg, Int.reduceGT, Int.reduceGE, beq_true, beq_false, UInt8.reduceToNat, eqE, eq_self, foldE, maxE, minE, fillA, over, chop, List.replicate, leavesOk, leafOk, cellsEq, cellEq, E_byref, en14, bs22, bs23, bs46, rows64_len, hrow, hlm, hsn, htk, x1, x2, x3, x4, y1, y2, y3, y4, w1, w2, w3, w4, show ∀ B fr H, execT E B 14 (Code.loop _) fr H = rlM E B 14 (loopAt Tryd.f14 1) [0, 1, 2, 8, 10, 12, 13, 14, 15, 16, 17, 19, 20, 21] [] (matF [(14, 1)] fr H).1 (matB [] (matF [(14, 1)] fr H).1 (matF [(14, 1)] fr H).2) from fun B fr H => rl_introM rfl mt14_19 mb14_19 zf14_19 hd14_19 fr H]
end Go.VI

namespace Go.VI
open Go.Proofs
set_option maxRecDepth 100000
set_option linter.unusedSimpArgs false
set_option linter.unusedVariables false
set_option maxHeartbeats 4000000
def nextR (op arg i n p0 : Int) : Int := if op = 0 then n else if op = 17 then arg else if op = 18 ∧ p0 = 0 then arg else i + 1
def clsR (op c p0 : Int) : Int := if op = 19 ∧ 1 ≤ p0 ∧ p0 ≤ 3 then p0 else c
def waiR (op w p0 : Int) : Int := if op = 20 ∧ 0 ≤ p0 ∧ p0 ≤ 60000 then p0 else w
def rstK (stk : List Int) (op : Int) : Nat := stk.length - (popS op).toNat
def failR (stk : List Int) (op : Int) : Prop := (stk.length : Int) - popS op < 0 ∨ 16 < (stk.length : Int) - popS op + pushS op
instance (stk : List Int) (op : Int) : Decidable (failR stk op) := by unfold failR; infer_instance
def runR (l : List Ins) (row : Int) (g : List Gl) (c0 w0 : Int) : Nat → Nat → Nat → Int → Int → List Int → Int × Int × Nat × Int
  | 0, i, s, c, w, stk => match l[i]? with
    | none => (c, w, s, 0)
    | some _ => (c0, w0, s, 14)
  | n + 1, i, s, c, w, stk => match l[i]? with
    | none => (c, w, s, 0)
    | some p => if failR stk p.1 then (c0, w0, s + 1, 13)
      else runR l row g c0 w0 n (nextR p.1 p.2 i l.length ((stk.drop (rstK stk p.1)).getD 0 0)).toNat (s + 1) (clsR p.1 c ((stk.drop (rstK stk p.1)).getD 0 0)) (waiR p.1 w ((stk.drop (rstK stk p.1)).getD 0 0))
        (stk.take (rstK stk p.1) ++ (pushedR row g c w p.1 p.2 (stk.drop (rstK stk p.1))).map limS)
theorem runR_none {l : List Ins} {row : Int} {g : List Gl} {c0 w0 : Int} {n i s : Nat} {c w : Int} {k : List Int} (h : l[i]? = none) : runR l row g c0 w0 n i s c w k = (c, w, s, 0) := by
  cases n <;> simp only [runR, h]
theorem runR_fuel {l : List Ins} {row : Int} {g : List Gl} {c0 w0 : Int} {i s : Nat} {c w : Int} {k : List Int} {p : Ins} (h : l[i]? = some p) : runR l row g c0 w0 0 i s c w k = (c0, w0, s, 14) := by
  simp only [runR, h]
theorem runR_fail {l : List Ins} {row : Int} {g : List Gl} {c0 w0 : Int} {n i s : Nat} {c w : Int} {k : List Int} {p : Ins} (h : l[i]? = some p) (hf : failR k p.1) : runR l row g c0 w0 (n + 1) i s c w k = (c0, w0, s + 1, 13) := by
  simp only [runR, h, if_pos hf]
theorem runR_step {l : List Ins} {row : Int} {g : List Gl} {c0 w0 : Int} {n i s : Nat} {c w : Int} {a pp : List Int} {p : Ins} (h : l[i]? = some p) (hf : ¬ failR (a ++ pp) p.1) (hr : rstK (a ++ pp) p.1 = a.length) :
    runR l row g c0 w0 (n + 1) i s c w (a ++ pp) = runR l row g c0 w0 n (nextR p.1 p.2 i l.length (pp.getD 0 0)).toNat (s + 1) (clsR p.1 c (pp.getD 0 0)) (waiR p.1 w (pp.getD 0 0)) (a ++ (pushedR row g c w p.1 p.2 pp).map limS) := by
  simp only [runR, h, if_neg hf, hr, List.drop_left, List.take_left]
theorem op_all {P : Int → Prop} (h : ∀ n : Nat, n < 21 → P n) {op : Int} (h0 : 0 ≤ op) (h1 : op ≤ 20) : P op := by
  obtain ⟨n, rfl⟩ := Int.eq_ofNat_of_zero_le h0
  exact h n (by omega)
theorem pp_all : ∀ n : Nat, n < 21 → 0 ≤ popS n ∧ popS n ≤ 2 ∧ 0 ≤ pushS n ∧ pushS n ≤ 2 := by decide
theorem pp_b {op : Int} (h0 : 0 ≤ op) (h1 : op ≤ 20) : 0 ≤ popS op ∧ popS op ≤ 2 ∧ 0 ≤ pushS op ∧ pushS op ≤ 2 := op_all (P := fun op => 0 ≤ popS op ∧ popS op ≤ 2 ∧ 0 ≤ pushS op ∧ pushS op ≤ 2) pp_all h0 h1
theorem pushedR_len (row : Int) (g : List Gl) (c w : Int) {op : Int} (arg : Int) (p : List Int) (h0 : 0 ≤ op) (h1 : op ≤ 20) : ((pushedR row g c w op arg p).length : Int) = pushS op := by
  obtain ⟨n, rfl⟩ := Int.eq_ofNat_of_zero_le h0
  have : n = 0 ∨ n = 1 ∨ n = 2 ∨ n = 3 ∨ n = 4 ∨ n = 5 ∨ n = 6 ∨ n = 7 ∨ n = 8 ∨ n = 9 ∨ n = 10 ∨ n = 11 ∨ n = 12 ∨ n = 13 ∨ n = 14 ∨ n = 15 ∨ n = 16 ∨ n = 17 ∨ n = 18 ∨ n = 19 ∨ n = 20 := by omega
  rcases this with rfl | rfl | rfl | rfl | rfl | rfl | rfl | rfl | rfl | rfl | rfl | rfl | rfl | rfl | rfl | rfl | rfl | rfl | rfl | rfl | rfl <;> rfl
def okS (s : List Int) : Prop := s.length ≤ 16 ∧ ∀ x ∈ s, -999999999 ≤ x ∧ x ≤ 999999999
theorem okS_split {s : List Int} (h : okS s) {op : Int} (h0 : 0 ≤ op) (h1 : op ≤ 20) (hf : ¬ failR s op) : ∃ a pp, s = a ++ pp ∧ rstK s op = a.length ∧ (pp.length : Int) = popS op := by
  have hb := pp_b h0 h1
  unfold failR at hf
  refine ⟨s.take (rstK s op), s.drop (rstK s op), (List.take_append_drop _ _).symm, ?_, ?_⟩
  · rw [List.length_take]; unfold rstK; omega
  · rw [List.length_drop]; unfold rstK; omega
theorem okS_next {row : Int} {g : List Gl} {c w : Int} {op arg : Int} {a pp : List Int} (h : okS (a ++ pp)) (h0 : 0 ≤ op) (h1 : op ≤ 20) (hf : ¬ failR (a ++ pp) op) (hp : (pp.length : Int) = popS op) : okS (a ++ (pushedR row g c w op arg pp).map limS) := by
  have hl := pushedR_len row g c w arg pp h0 h1
  refine ⟨?_, ?_⟩
  · unfold failR at hf
    rw [List.length_append] at hf
    rw [List.length_append, List.length_map]
    omega
  · intro x hx
    rcases List.mem_append.1 hx with hx | hx
    · exact h.2 x (List.mem_append_left _ hx)
    · obtain ⟨y, _, rfl⟩ := List.mem_map.1 hx
      exact limS_b y
def runQ (V : Chunk) (row : Int) (g : IV) (r : Int) (R : List (List IV)) (lim : Nat) (q : Int × Int × Nat × Int) (fr : Fr) (ex : Ex) (H : Hp) : Prop :=
  (q.2.2.2 = 0 ∧ ex = .exit 0 ∧ ∃ (k : List Int) (i : Int), fr = [(0, .i (.sl 2 R false)), (1, .i (.v (.int .i64 row))), (2, .i g), (8, .ptr 0 0 0 0), (10, .ptr 1 0 0 0), (12, .i (.v (.int .i64 lim))), (13, .ptr 2 0 0 0), (14, .ref 3 0 0 k.length), (15, .i (.v (.int .i64 q.2.2.1))), (16, .i (.v (.int .i64 i))), (37, .i (.v (.bool false)))] ∧ H = [V, .box [i64 0, i64 0, i64 0, i64 0, i64 0], .box [i64 q.1, i64 q.2.1, i64 r], .sl 1 0 (rows64 k) false]) ∨
  (q.2.2.2 ≠ 0 ∧ ex = .ret ∧ get 10 fr = .ptr 1 0 0 0 ∧ ∃ A L, H = A :: .box [i64 q.1, i64 q.2.1, i64 r, i64 q.2.2.1, i64 q.2.2.2] :: L)
theorem rows64_tk (a p : List Int) : List.take a.length (rows64 (a ++ p)) = rows64 a := by rw [rows64_take, List.take_left]
theorem rows64_dr (a p : List Int) : List.drop a.length (rows64 (a ++ p)) = rows64 p := by simp [rows64]
theorem rows64_all (a : List Int) {n : Nat} (h : n = a.length) : List.take n (rows64 a) = rows64 a := List.take_of_length_le (by rw [rows64_len, h]; exact Nat.le_refl _)
theorem l14 (l : List Ins) (hl : checkI l = 0) (row : Int) (hrow : bI row) (g : List Gl) (hg : okG g) (c0 w0 r : Int) (lim : Nat) (hlim : lim ≤ 5000) : ∀ (n i s : Nat) (c w : Int) (k : List Int), i ≤ l.length → s + n = lim → okS k → bI c → bI w →
    ∃ fr ex H', rl E 0 14 (loopAt Tryd.f14 0) [(0, .i (.sl 2 (rowsI l) false)), (1, .i (.v (.int .i64 row))), (2, .i (.sl 3 (rowsG g) false)), (8, .ptr 0 0 0 0), (10, .ptr 1 0 0 0), (12, .i (.v (.int .i64 lim))), (13, .ptr 2 0 0 0), (14, .ref 3 0 0 (k.length)), (15, .i (.v (.int .i64 (s)))), (16, .i (.v (.int .i64 (i))))] [.box [.i (.v (.int .i64 c0)), .i (.v (.int .i64 w0)), .i (.v (.int .i64 r))], .box [.i (.v (.int .i64 0)), .i (.v (.int .i64 0)), .i (.v (.int .i64 0)), .i (.v (.int .i64 0)), .i (.v (.int .i64 0))], .box [.i (.v (.int .i64 (c))), .i (.v (.int .i64 (w))), .i (.v (.int .i64 r))], .sl 1 0 (rows64 (k)) false] = some (ex, fr, H') ∧ runQ (.box [i64 c0, i64 w0, i64 r]) row (.sl 3 (rowsG g) false) r (rowsI l) lim (runR l row g c0 w0 n i s c w k) fr ex H' := by
  intro n
  induction n with
  | zero =>
    intro i s c w k hi hs hk hc hw
    have hll := check_len hl
    have hkl := hk.1
    rw [rl_step (fn := Tryd.f14) (k := 0) rfl]
    by_cases hlt : i < l.length
    · obtain ⟨p, hp⟩ : ∃ p, l[i]? = some p := ⟨_, List.getElem?_eq_getElem hlt⟩
      rw [runR_fuel hp]
      obtain rfl : s = lim := by omega
      simp (disch := first | omega | (simp only [vlen, rowsI_len, rows64_len]; omega)) only [vall, List.take_of_length_le, gB, gcW, gcR, posIn, renA, renL, Chunk.ren, Chunk.refs, evOpD, touchD, stepC, isFresh, nFresh, freshOf, mkR, hole, evL, evH, opd, get, putD, ofVal, cellOf, loadE, behind, lenE, idxAddrE, idxE, lookE, lookM, addPtr, intE, strE, unE, convE, AV.int, AV.bool, AV.str, ivs, take, frameOf, firstRegion, refsA, refsL, one, cellsA, floatOk, apartT, List.map, if_true, if_false, E_P, E_glob0, E_glob1, reduceCtorEq, beq_self_eq_true, ↓reduceIte, Nat.reduceEqDiff, cond_true, cond_false, Nat.reduceAdd, Nat.reduceSub, Nat.reduceMul, Nat.reduceLT, Nat.reduceLeDiff, Int.reduceToNat, Int.reduceLT, Int.reduceLE, Option.getD, Int.reduceMul, Int.reduceAdd, List.drop, List.take, Nat.reduceBEq, List.isEmpty, Int.reduceEq, Int.reduceNe, Int.reduceNeg, Int.reduceGT, Int.reduceGE, beq_true, beq_false, UInt8.reduceToNat, eqE, eq_self, foldE, maxE, minE, fillA, over, chop, List.replicate, leavesOk, leafOk, cellsEq, cellEq, E_byref, en14, bs22, bs23, bs46, rowsI_len, rows64_len, show ∀ B fr H, execT E B 14 (Code.loop _) fr H = rlM E B 14 (loopAt Tryd.f14 0) [0, 1, 2, 8, 10, 12, 13, 14, 15, 16] [] (matF [(14, 1)] fr H).1 (matB [] (matF [(14, 1)] fr H).1 (matF [(14, 1)] fr H).2) from fun B fr H => rl_introM rfl mt14_7 mb14_7 zf14_7 hd14_7 fr H]
      exact ⟨_, _, _, rfl, .inr ⟨(by decide : (14 : Int) ≠ 0), rfl, rfl, _, _, rfl⟩⟩
    · rw [runR_none (List.getElem?_eq_none (by omega))]
      simp (disch := first | omega | (simp only [vlen, rowsI_len, rows64_len]; omega)) only [vall, List.take_of_length_le, gB, gcW, gcR, posIn, renA, renL, Chunk.ren, Chunk.refs, evOpD, touchD, stepC, isFresh, nFresh, freshOf, mkR, hole, evL, evH, opd, get, putD, ofVal, cellOf, loadE, behind, lenE, idxAddrE, idxE, lookE, lookM, addPtr, intE, strE, unE, convE, AV.int, AV.bool, AV.str, ivs, take, frameOf, firstRegion, refsA, refsL, one, cellsA, floatOk, apartT, List.map, if_true, if_false, E_P, E_glob0, E_glob1, reduceCtorEq, beq_self_eq_true, ↓reduceIte, Nat.reduceEqDiff, cond_true, cond_false, Nat.reduceAdd, Nat.reduceSub, Nat.reduceMul, Nat.reduceLT, Nat.reduceLeDiff, Int.reduceToNat, Int.reduceLT, Int.reduceLE, Option.getD, Int.reduceMul, Int.reduceAdd, List.drop, List.take, Nat.reduceBEq, List.isEmpty, Int.reduceEq, Int.reduceNe, Int.reduceNeg, Int.reduceGT, Int.reduceGE, beq_true, beq_false, UInt8.reduceToNat, eqE, eq_self, foldE, maxE, minE, fillA, over, chop, List.replicate, leavesOk, leafOk, cellsEq, cellEq, E_byref, en14, bs22, bs23, bs46, rowsI_len, rows64_len, show ∀ B fr H, execT E B 14 (Code.loop _) fr H = rlM E B 14 (loopAt Tryd.f14 0) [0, 1, 2, 8, 10, 12, 13, 14, 15, 16] [] (matF [(14, 1)] fr H).1 (matB [] (matF [(14, 1)] fr H).1 (matF [(14, 1)] fr H).2) from fun B fr H => rl_introM rfl mt14_7 mb14_7 zf14_7 hd14_7 fr H]
      exact ⟨_, _, _, rfl, .inl ⟨rfl, rfl, k, i, rfl, rfl⟩⟩
  | succ n ih =>
    intro i s c w k hi hs hk hc hw
    have hll := check_len hl
    have hkl := hk.1
    by_cases hlt : i < l.length
    · obtain ⟨p, hp⟩ : ∃ p, l[i]? = some p := ⟨_, List.getElem?_eq_getElem hlt⟩
      obtain ⟨a1, a2, a3, a4, a5⟩ := chk_at hl hp
      have hr1 : (rowsI l)[i]? = some [.v (.int .i64 p.1), .v (.int .i64 p.2)] := by simp [rowsI, insC, hp]
      obtain ⟨op, arg⟩ := p
      simp only at a1 a2 a3 a4 a5 hr1
      have hsl : (s : Int) ≠ lim := by omega
      have hpo := fun H => ik27 op a1 a2 H
      have hpu := fun H => ik28 op a1 a2 H
      have hpb := pp_b a1 a2
      by_cases hff : failR k op
      · rw [runR_fail hp hff]
        unfold failR at hff
        clear ih
        generalize popS op = po at *
        generalize pushS op = pu at *
        rw [rl_step (fn := Tryd.f14) (k := 0) rfl]
        by_cases hf1 : (k.length : Int) - po < 0
        · simp (disch := first | omega | (simp only [vlen, rowsI_len, rows64_len]; omega)) only [vall, List.take_of_length_le, gB, gcW, gcR, posIn, renA, renL, Chunk.ren, Chunk.refs, evOpD, touchD, stepC, isFresh, nFresh, freshOf, mkR, hole, evL, evH, opd, get, putD, ofVal, cellOf, loadE, behind, lenE, idxAddrE, idxE, lookE, lookM, addPtr, intE, strE, unE, convE, AV.int, AV.bool, AV.str, ivs, take, frameOf, firstRegion, refsA, refsL, one, cellsA, floatOk, apartT, List.map, if_true, if_false, E_P, E_glob0, E_glob1, reduceCtorEq, beq_self_eq_true, ↓reduceIte, Nat.reduceEqDiff, cond_true, cond_false, Nat.reduceAdd, Nat.reduceSub, Nat.reduceMul, Nat.reduceLT, Nat.reduceLeDiff, Int.reduceToNat, Int.reduceLT, Int.reduceLE, Option.getD, Int.reduceMul, Int.reduceAdd, List.drop, List.take, Nat.reduceBEq, List.isEmpty, Int.reduceEq, Int.reduceNe, Int.reduceNeg, Int.reduceGT, Int.reduceGE, beq_true, beq_false, UInt8.reduceToNat, eqE, eq_self, foldE, maxE, minE, fillA, over, chop, List.replicate, leavesOk, leafOk, cellsEq, cellEq, E_byref, en14, bs22, bs23, bs46, rowsI_len, rows64_len, hr1, hpo, hpu, hf1, hsl, show ∀ B fr H, execT E B 14 (Code.loop _) fr H = rlM E B 14 (loopAt Tryd.f14 0) [0, 1, 2, 8, 10, 12, 13, 14, 15, 16] [] (matF [(14, 1)] fr H).1 (matB [] (matF [(14, 1)] fr H).1 (matF [(14, 1)] fr H).2) from fun B fr H => rl_introM rfl mt14_7 mb14_7 zf14_7 hd14_7 fr H]
          exact ⟨_, _, _, rfl, .inr ⟨(by decide : (13 : Int) ≠ 0), rfl, rfl, _, _, rfl⟩⟩
        · simp (disch := first | omega | (simp only [vlen, rowsI_len, rows64_len]; omega)) only [vall, List.take_of_length_le, gB, gcW, gcR, posIn, renA, renL, Chunk.ren, Chunk.refs, evOpD, touchD, stepC, isFresh, nFresh, freshOf, mkR, hole, evL, evH, opd, get, putD, ofVal, cellOf, loadE, behind, lenE, idxAddrE, idxE, lookE, lookM, addPtr, intE, strE, unE, convE, AV.int, AV.bool, AV.str, ivs, take, frameOf, firstRegion, refsA, refsL, one, cellsA, floatOk, apartT, List.map, if_true, if_false, E_P, E_glob0, E_glob1, reduceCtorEq, beq_self_eq_true, ↓reduceIte, Nat.reduceEqDiff, cond_true, cond_false, Nat.reduceAdd, Nat.reduceSub, Nat.reduceMul, Nat.reduceLT, Nat.reduceLeDiff, Int.reduceToNat, Int.reduceLT, Int.reduceLE, Option.getD, Int.reduceMul, Int.reduceAdd, List.drop, List.take, Nat.reduceBEq, List.isEmpty, Int.reduceEq, Int.reduceNe, Int.reduceNeg, Int.reduceGT, Int.reduceGE, beq_true, beq_false, UInt8.reduceToNat, eqE, eq_self, foldE, maxE, minE, fillA, over, chop, List.replicate, leavesOk, leafOk, cellsEq, cellEq, E_byref, en14, bs22, bs23, bs46, rowsI_len, rows64_len, hr1, hpo, hpu, hf1, hsl, show ∀ B fr H, execT E B 14 (Code.loop _) fr H = rlM E B 14 (loopAt Tryd.f14 0) [0, 1, 2, 8, 10, 12, 13, 14, 15, 16] [] (matF [(14, 1)] fr H).1 (matB [] (matF [(14, 1)] fr H).1 (matF [(14, 1)] fr H).2) from fun B fr H => rl_introM rfl mt14_7 mb14_7 zf14_7 hd14_7 fr H]
          exact ⟨_, _, _, rfl, .inr ⟨(by decide : (13 : Int) ≠ 0), rfl, rfl, _, _, rfl⟩⟩
      · obtain ⟨a, pp, rfl, hrs, hpl⟩ := okS_split hk a1 a2 hff
        rw [runR_step hp hff hrs]
        have hb : bI arg ∧ bI row ∧ bI c ∧ bI w := ⟨by unfold bI; omega, hrow, hc, hw⟩
        have hppb : ∀ x ∈ pp, -999999999 ≤ x ∧ x ≤ 999999999 := fun x hx => hk.2 x (List.mem_append_right _ hx)
        have hpp0 := getD_b hppb 0
        have hkn := okS_next (row := row) (g := g) (c := c) (w := w) (arg := arg) hk a1 a2 hff hpl
        have hp16 : pp.length ≤ 16 := by rw [List.length_append] at hkl; omega
        have ha16 : a.length ≤ 16 := by rw [List.length_append] at hkl; omega
        have hpd := fun H => ik29 op ⟨a1, a2⟩ row g hg c w r arg pp hppb (by omega) hp16 hb H
        have hmb := pushedR_b (op := op) hg hppb hb
        have hml := pushedR_len row g c w arg pp a1 a2
        have hjb : 0 ≤ nextR op arg i l.length (pp.getD 0 0) ∧ nextR op arg i l.length (pp.getD 0 0) ≤ l.length := by
          unfold nextR
          split
          · omega
          · split
            · omega
            · split
              · omega
              · omega
        have hcb : bI (clsR op c (pp.getD 0 0)) := by
          unfold clsR; split
          · unfold bI; omega
          · exact hc
        have hwb : bI (waiR op w (pp.getD 0 0)) := by
          unfold waiR; split
          · unfold bI; omega
          · exact hw
        have hj0 : pp.length ≠ 0 → (rows64 pp)[0]? = some [.v (.int .i64 (pp.getD 0 0))] := fun h => rows64_0 (by omega)
        have hpo1 : op = 18 ∨ op = 19 ∨ op = 20 → pp.length = 1 := by
          intro h
          have : popS op = 1 := by rcases h with rfl | rfl | rfl <;> rfl
          omega
        have hpu0 : op = 0 ∨ op = 17 ∨ op = 18 ∨ op = 19 ∨ op = 20 → pushedR row g c w op arg pp = [] := by
          intro h
          rcases h with rfl | rfl | rfl | rfl | rfl <;> rfl
        generalize pp.getD 0 0 = p0 at *
        generalize hmore : pushedR row g c w op arg pp = more at *
        simp only
        obtain ⟨j, hj⟩ := Int.eq_ofNat_of_zero_le hjb.1
        rw [hj, Int.toNat_natCast]
        obtain ⟨fr, ex, H', e, hh⟩ := ih j (s + 1) _ _ _ (by omega) (by omega) hkn hcb hwb
        refine ⟨fr, ex, H', Eq.trans ?_ e, hh⟩
        clear e hh ih
        have htk := rows64_tk a pp
        have hdr := rows64_dr a pp
        have htp := rows64_all pp rfl
        have hta := rows64_all a rfl
        have hni : more.length = more.length ∧ List.drop 0 more = more := ⟨rfl, rfl⟩
        have hun : ¬ ((a.length : Int) < 0) ∧ (a.length : Int) + pushS op ≤ 16 := by
          unfold failR at hff
          rw [List.length_append] at hff
          omega
        have hsub : (((a.length + pp.length : Nat)) : Int) - popS op = (a.length : Nat) := by omega
        have e1 : ∀ bb : Bool, rl E 0 14 (loopAt Tryd.f14 1) [(0, .i (.sl 2 (rowsI l) false)), (1, .i (.v (.int .i64 row))), (2, .i (.sl 3 (rowsG g) false)), (8, .ptr 0 0 0 0), (10, .ptr 1 0 0 0), (12, .i (.v (.int .i64 lim))), (13, .ptr 2 0 0 0), (14, .ref 3 0 0 (a.length)), (15, .i (.v (.int .i64 ((s + 1 : Nat) : Int)))), (16, .i (.v (.int .i64 i))), (17, .ptr 4 0 0 0), (19, .i (.sl 1 (rows64 pp) bb)), (20, .i (.sl 1 (rows64 more) false)), (21, .i (.v (.int .i64 (0))))] [.box [.i (.v (.int .i64 (c0))), .i (.v (.int .i64 (w0))), .i (.v (.int .i64 (r)))], .box [.i (.v (.int .i64 (0))), .i (.v (.int .i64 (0))), .i (.v (.int .i64 (0))), .i (.v (.int .i64 (0))), .i (.v (.int .i64 (0)))], .box [.i (.v (.int .i64 (c))), .i (.v (.int .i64 (w))), .i (.v (.int .i64 (r)))], .sl 1 0 (rows64 (a)) false, .box [.i (.v (.int .i64 (op))), .i (.v (.int .i64 (arg)))]] =
            some (.exit 2, [(0, .i (.sl 2 (rowsI l) false)), (1, .i (.v (.int .i64 row))), (2, .i (.sl 3 (rowsG g) false)), (8, .ptr 0 0 0 0), (10, .ptr 1 0 0 0), (12, .i (.v (.int .i64 lim))), (13, .ptr 2 0 0 0), (14, .ref 3 0 0 (a.length + more.length)), (15, .i (.v (.int .i64 ((s + 1 : Nat) : Int)))), (16, .i (.v (.int .i64 i))), (17, .ptr 4 0 0 0), (19, .i (.sl 1 (rows64 pp) bb)), (20, .i (.sl 1 (rows64 more) false)), (21, .i (.v (.int .i64 (more.length)))), (88, .i (.v (.bool false)))], [.box [.i (.v (.int .i64 (c0))), .i (.v (.int .i64 (w0))), .i (.v (.int .i64 (r)))], .box [.i (.v (.int .i64 (0))), .i (.v (.int .i64 (0))), .i (.v (.int .i64 (0))), .i (.v (.int .i64 (0))), .i (.v (.int .i64 (0)))], .box [.i (.v (.int .i64 (c))), .i (.v (.int .i64 (w))), .i (.v (.int .i64 (r)))], .sl 1 0 (rows64 (a ++ more.map limS)) false, .box [.i (.v (.int .i64 (op))), .i (.v (.int .i64 (arg)))]]) := by
          intro bb
          have := l14_i l row g lim ((s + 1 : Nat) : Int) i (rows64 pp) bb more hmb.1 hmb.2 _ _ _ _ _ _ _ _ (rfl : Chunk.box [.i (.v (.int .i64 (c0))), .i (.v (.int .i64 (w0))), .i (.v (.int .i64 (r)))] = _) (rfl : Chunk.box [.i (.v (.int .i64 (0))), .i (.v (.int .i64 (0))), .i (.v (.int .i64 (0))), .i (.v (.int .i64 (0))), .i (.v (.int .i64 (0)))] = _) (rfl : Chunk.box [.i (.v (.int .i64 (c))), .i (.v (.int .i64 (w))), .i (.v (.int .i64 (r)))] = _) (rfl : Chunk.box [.i (.v (.int .i64 (op))), .i (.v (.int .i64 (arg)))] = _) ⟨fun _ _ => rfl, fun _ _ => rfl, fun _ _ => rfl, fun _ _ => rfl⟩ ⟨rfl, rfl, rfl, rfl⟩ more.length 0 a (by omega) (by omega)
          exact this
        have hun1 := hun.1
        have ecl : op ≠ 19 → clsR op c p0 = c := fun h => by unfold clsR; rw [if_neg (fun h2 => h h2.1)]
        have ewa : op ≠ 20 → waiR op w p0 = w := fun h => by unfold waiR; rw [if_neg (fun h2 => h h2.1)]
        clear hcb hwb hkn hjb hni hff hrs hpu0
        by_cases o0 : op = 0
        · have hj1 : (l.length : Int) = j := by rw [← hj, nextR, if_pos o0]
          rw [ecl (by omega), ewa (by omega), ← hj1]
          clear ecl ewa hj
          rw [rl_step (fn := Tryd.f14) (k := 0) rfl]
          simp (disch := first | omega | (simp only [vlen, rowsI_len, rows64_len, List.length_append, List.length_map]; omega)) only [vall, List.take_of_length_le, gB, gcW, gcR, posIn, renA, renL, Chunk.ren, Chunk.refs, evOpD, touchD, stepC, isFresh, nFresh, freshOf, mkR, hole, evL, evH, opd, get, putD, ofVal, cellOf, loadE, behind, lenE, idxAddrE, idxE, lookE, lookM, addPtr, intE, strE, unE, convE, AV.int, AV.bool, AV.str, ivs, take, frameOf, firstRegion, refsA, refsL, one, cellsA, floatOk, apartT, List.map, if_true, if_false, E_P, E_glob0, E_glob1, reduceCtorEq, beq_self_eq_true, ↓reduceIte, Nat.reduceEqDiff, cond_true, cond_false, Nat.reduceAdd, Nat.reduceSub, Nat.reduceMul, Nat.reduceLT, Nat.reduceLeDiff, Int.reduceToNat, Int.reduceLT, Int.reduceLE, Option.getD, Int.reduceMul, Int.reduceAdd, List.drop, List.take, Nat.reduceBEq, List.isEmpty, Int.reduceEq, Int.reduceNe, Int.reduceNeg, Int.reduceGT, Int.reduceGE, beq_true, beq_false, UInt8.reduceToNat, eqE, eq_self, foldE, maxE, minE, fillA, over, chop, List.replicate, leavesOk, leafOk, cellsEq, cellEq, E_byref, en14, bs22, bs23, bs46, rowsI_len, rows64_len, List.length_append, List.length_map, hr1, hpo, hpu, hun1, hsub, hsl, hpd, htk, hdr, htp, hta, Int.toNat_natCast, Nat.sub_zero, Nat.add_sub_cancel_left, e1, show ∀ B fr H, execT E B 14 (Code.loop _) fr H = rlM E B 14 (loopAt Tryd.f14 0) [0, 1, 2, 8, 10, 12, 13, 14, 15, 16] [] (matF [(14, 1)] fr H).1 (matB [] (matF [(14, 1)] fr H).1 (matF [(14, 1)] fr H).2) from fun B fr H => rl_introM rfl mt14_7 mb14_7 zf14_7 hd14_7 fr H, show ∀ B fr H, execT E B 14 (Code.loop _) fr H = rlM E B 14 (loopAt Tryd.f14 1) [0, 1, 2, 8, 10, 12, 13, 14, 15, 16, 17, 19, 20, 21] [] (matF [(14, 1)] fr H).1 (matB [] (matF [(14, 1)] fr H).1 (matF [(14, 1)] fr H).2) from fun B fr H => rl_introM rfl mt14_19 mb14_19 zf14_19 hd14_19 fr H]
        · by_cases o17 : op = 17
          · have hj1 : arg = j := by rw [← hj, nextR, if_neg o0, if_pos o17]
            rw [ecl (by omega), ewa (by omega), ← hj1]
            clear ecl ewa hj
            rw [rl_step (fn := Tryd.f14) (k := 0) rfl]
            simp (disch := first | omega | (simp only [vlen, rowsI_len, rows64_len, List.length_append, List.length_map]; omega)) only [vall, List.take_of_length_le, gB, gcW, gcR, posIn, renA, renL, Chunk.ren, Chunk.refs, evOpD, touchD, stepC, isFresh, nFresh, freshOf, mkR, hole, evL, evH, opd, get, putD, ofVal, cellOf, loadE, behind, lenE, idxAddrE, idxE, lookE, lookM, addPtr, intE, strE, unE, convE, AV.int, AV.bool, AV.str, ivs, take, frameOf, firstRegion, refsA, refsL, one, cellsA, floatOk, apartT, List.map, if_true, if_false, E_P, E_glob0, E_glob1, reduceCtorEq, beq_self_eq_true, ↓reduceIte, Nat.reduceEqDiff, cond_true, cond_false, Nat.reduceAdd, Nat.reduceSub, Nat.reduceMul, Nat.reduceLT, Nat.reduceLeDiff, Int.reduceToNat, Int.reduceLT, Int.reduceLE, Option.getD, Int.reduceMul, Int.reduceAdd, List.drop, List.take, Nat.reduceBEq, List.isEmpty, Int.reduceEq, Int.reduceNe, Int.reduceNeg, Int.reduceGT, Int.reduceGE, beq_true, beq_false, UInt8.reduceToNat, eqE, eq_self, foldE, maxE, minE, fillA, over, chop, List.replicate, leavesOk, leafOk, cellsEq, cellEq, E_byref, en14, bs22, bs23, bs46, rowsI_len, rows64_len, List.length_append, List.length_map, hr1, hpo, hpu, hun1, hsub, hsl, hpd, htk, hdr, htp, hta, Int.toNat_natCast, Nat.sub_zero, Nat.add_sub_cancel_left, e1, o0, show ∀ B fr H, execT E B 14 (Code.loop _) fr H = rlM E B 14 (loopAt Tryd.f14 0) [0, 1, 2, 8, 10, 12, 13, 14, 15, 16] [] (matF [(14, 1)] fr H).1 (matB [] (matF [(14, 1)] fr H).1 (matF [(14, 1)] fr H).2) from fun B fr H => rl_introM rfl mt14_7 mb14_7 zf14_7 hd14_7 fr H, show ∀ B fr H, execT E B 14 (Code.loop _) fr H = rlM E B 14 (loopAt Tryd.f14 1) [0, 1, 2, 8, 10, 12, 13, 14, 15, 16, 17, 19, 20, 21] [] (matF [(14, 1)] fr H).1 (matB [] (matF [(14, 1)] fr H).1 (matF [(14, 1)] fr H).2) from fun B fr H => rl_introM rfl mt14_19 mb14_19 zf14_19 hd14_19 fr H]
          · by_cases o18 : op = 18
            · have h1 := hj0 (by have := hpo1 (.inl o18); omega)
              have hpo1' := hpo1 (.inl o18)
              rw [ecl (by omega), ewa (by omega)]
              clear ecl ewa hj0 hpo1
              by_cases hz : p0 = 0
              · have hj1 : arg = j := by rw [← hj, nextR, if_neg o0, if_neg o17, if_pos ⟨o18, hz⟩]
                rw [← hj1]
                rw [hz] at h1
                clear hj
                rw [rl_step (fn := Tryd.f14) (k := 0) rfl]
                simp (disch := first | omega | (simp only [vlen, rowsI_len, rows64_len, List.length_append, List.length_map]; omega)) only [vall, List.take_of_length_le, gB, gcW, gcR, posIn, renA, renL, Chunk.ren, Chunk.refs, evOpD, touchD, stepC, isFresh, nFresh, freshOf, mkR, hole, evL, evH, opd, get, putD, ofVal, cellOf, loadE, behind, lenE, idxAddrE, idxE, lookE, lookM, addPtr, intE, strE, unE, convE, AV.int, AV.bool, AV.str, ivs, take, frameOf, firstRegion, refsA, refsL, one, cellsA, floatOk, apartT, List.map, if_true, if_false, E_P, E_glob0, E_glob1, reduceCtorEq, beq_self_eq_true, ↓reduceIte, Nat.reduceEqDiff, cond_true, cond_false, Nat.reduceAdd, Nat.reduceSub, Nat.reduceMul, Nat.reduceLT, Nat.reduceLeDiff, Int.reduceToNat, Int.reduceLT, Int.reduceLE, Option.getD, Int.reduceMul, Int.reduceAdd, List.drop, List.take, Nat.reduceBEq, List.isEmpty, Int.reduceEq, Int.reduceNe, Int.reduceNeg, Int.reduceGT, Int.reduceGE, beq_true, beq_false, UInt8.reduceToNat, eqE, eq_self, foldE, maxE, minE, fillA, over, chop, List.replicate, leavesOk, leafOk, cellsEq, cellEq, E_byref, en14, bs22, bs23, bs46, rowsI_len, rows64_len, List.length_append, List.length_map, hr1, hpo, hpu, hun1, hsub, hsl, hpd, htk, hdr, htp, hta, Int.toNat_natCast, Nat.sub_zero, Nat.add_sub_cancel_left, e1, o0, o17, h1, show ∀ B fr H, execT E B 14 (Code.loop _) fr H = rlM E B 14 (loopAt Tryd.f14 0) [0, 1, 2, 8, 10, 12, 13, 14, 15, 16] [] (matF [(14, 1)] fr H).1 (matB [] (matF [(14, 1)] fr H).1 (matF [(14, 1)] fr H).2) from fun B fr H => rl_introM rfl mt14_7 mb14_7 zf14_7 hd14_7 fr H, show ∀ B fr H, execT E B 14 (Code.loop _) fr H = rlM E B 14 (loopAt Tryd.f14 1) [0, 1, 2, 8, 10, 12, 13, 14, 15, 16, 17, 19, 20, 21] [] (matF [(14, 1)] fr H).1 (matB [] (matF [(14, 1)] fr H).1 (matF [(14, 1)] fr H).2) from fun B fr H => rl_introM rfl mt14_19 mb14_19 zf14_19 hd14_19 fr H]
              · have hj1 : (i : Int) + 1 = j := by rw [← hj, nextR, if_neg o0, if_neg o17, if_neg (fun h => hz h.2)]
                rw [← hj1]
                clear hj
                rw [rl_step (fn := Tryd.f14) (k := 0) rfl]
                simp (disch := first | omega | (simp only [vlen, rowsI_len, rows64_len, List.length_append, List.length_map]; omega)) only [vall, List.take_of_length_le, gB, gcW, gcR, posIn, renA, renL, Chunk.ren, Chunk.refs, evOpD, touchD, stepC, isFresh, nFresh, freshOf, mkR, hole, evL, evH, opd, get, putD, ofVal, cellOf, loadE, behind, lenE, idxAddrE, idxE, lookE, lookM, addPtr, intE, strE, unE, convE, AV.int, AV.bool, AV.str, ivs, take, frameOf, firstRegion, refsA, refsL, one, cellsA, floatOk, apartT, List.map, if_true, if_false, E_P, E_glob0, E_glob1, reduceCtorEq, beq_self_eq_true, ↓reduceIte, Nat.reduceEqDiff, cond_true, cond_false, Nat.reduceAdd, Nat.reduceSub, Nat.reduceMul, Nat.reduceLT, Nat.reduceLeDiff, Int.reduceToNat, Int.reduceLT, Int.reduceLE, Option.getD, Int.reduceMul, Int.reduceAdd, List.drop, List.take, Nat.reduceBEq, List.isEmpty, Int.reduceEq, Int.reduceNe, Int.reduceNeg, Int.reduceGT, Int.reduceGE, beq_true, beq_false, UInt8.reduceToNat, eqE, eq_self, foldE, maxE, minE, fillA, over, chop, List.replicate, leavesOk, leafOk, cellsEq, cellEq, E_byref, en14, bs22, bs23, bs46, rowsI_len, rows64_len, List.length_append, List.length_map, hr1, hpo, hpu, hun1, hsub, hsl, hpd, htk, hdr, htp, hta, Int.toNat_natCast, Nat.sub_zero, Nat.add_sub_cancel_left, e1, o0, o17, hz, h1, show ∀ B fr H, execT E B 14 (Code.loop _) fr H = rlM E B 14 (loopAt Tryd.f14 0) [0, 1, 2, 8, 10, 12, 13, 14, 15, 16] [] (matF [(14, 1)] fr H).1 (matB [] (matF [(14, 1)] fr H).1 (matF [(14, 1)] fr H).2) from fun B fr H => rl_introM rfl mt14_7 mb14_7 zf14_7 hd14_7 fr H, show ∀ B fr H, execT E B 14 (Code.loop _) fr H = rlM E B 14 (loopAt Tryd.f14 1) [0, 1, 2, 8, 10, 12, 13, 14, 15, 16, 17, 19, 20, 21] [] (matF [(14, 1)] fr H).1 (matB [] (matF [(14, 1)] fr H).1 (matF [(14, 1)] fr H).2) from fun B fr H => rl_introM rfl mt14_19 mb14_19 zf14_19 hd14_19 fr H]
            · by_cases o19 : op = 19
              · have hj1 : (i : Int) + 1 = j := by rw [← hj, nextR, if_neg o0, if_neg o17, if_neg (fun h => o18 h.1)]
                have h1 := hj0 (by have := hpo1 (.inr (.inl o19)); omega)
                have hpo1' := hpo1 (.inr (.inl o19))
                rw [ewa (by omega), ← hj1]
                clear ecl ewa hj hj0 hpo1
                by_cases r1 : 1 ≤ p0
                · by_cases r2 : p0 ≤ 3
                  · rw [show clsR op c p0 = p0 from by unfold clsR; rw [if_pos ⟨o19, r1, r2⟩]]
                    rw [rl_step (fn := Tryd.f14) (k := 0) rfl]
                    simp (disch := first | omega | (simp only [vlen, rowsI_len, rows64_len, List.length_append, List.length_map]; omega)) only [vall, List.take_of_length_le, gB, gcW, gcR, posIn, renA, renL, Chunk.ren, Chunk.refs, evOpD, touchD, stepC, isFresh, nFresh, freshOf, mkR, hole, evL, evH, opd, get, putD, ofVal, cellOf, loadE, behind, lenE, idxAddrE, idxE, lookE, lookM, addPtr, intE, strE, unE, convE, AV.int, AV.bool, AV.str, ivs, take, frameOf, firstRegion, refsA, refsL, one, cellsA, floatOk, apartT, List.map, if_true, if_false, E_P, E_glob0, E_glob1, reduceCtorEq, beq_self_eq_true, ↓reduceIte, Nat.reduceEqDiff, cond_true, cond_false, Nat.reduceAdd, Nat.reduceSub, Nat.reduceMul, Nat.reduceLT, Nat.reduceLeDiff, Int.reduceToNat, Int.reduceLT, Int.reduceLE, Option.getD, Int.reduceMul, Int.reduceAdd, List.drop, List.take, Nat.reduceBEq, List.isEmpty, Int.reduceEq, Int.reduceNe, Int.reduceNeg, Int.reduceGT, Int.reduceGE, beq_true, beq_false, UInt8.reduceToNat, eqE, eq_self, foldE, maxE, minE, fillA, over, chop, List.replicate, leavesOk, leafOk, cellsEq, cellEq, E_byref, en14, bs22, bs23, bs46, rowsI_len, rows64_len, List.length_append, List.length_map, hr1, hpo, hpu, hun1, hsub, hsl, hpd, htk, hdr, htp, hta, Int.toNat_natCast, Nat.sub_zero, Nat.add_sub_cancel_left, e1, o0, o17, o18, h1, r1, r2, show ∀ B fr H, execT E B 14 (Code.loop _) fr H = rlM E B 14 (loopAt Tryd.f14 0) [0, 1, 2, 8, 10, 12, 13, 14, 15, 16] [] (matF [(14, 1)] fr H).1 (matB [] (matF [(14, 1)] fr H).1 (matF [(14, 1)] fr H).2) from fun B fr H => rl_introM rfl mt14_7 mb14_7 zf14_7 hd14_7 fr H, show ∀ B fr H, execT E B 14 (Code.loop _) fr H = rlM E B 14 (loopAt Tryd.f14 1) [0, 1, 2, 8, 10, 12, 13, 14, 15, 16, 17, 19, 20, 21] [] (matF [(14, 1)] fr H).1 (matB [] (matF [(14, 1)] fr H).1 (matF [(14, 1)] fr H).2) from fun B fr H => rl_introM rfl mt14_19 mb14_19 zf14_19 hd14_19 fr H]
                  · rw [show clsR op c p0 = c from by unfold clsR; rw [if_neg (fun h => r2 h.2.2)]]
                    rw [rl_step (fn := Tryd.f14) (k := 0) rfl]
                    simp (disch := first | omega | (simp only [vlen, rowsI_len, rows64_len, List.length_append, List.length_map]; omega)) only [vall, List.take_of_length_le, gB, gcW, gcR, posIn, renA, renL, Chunk.ren, Chunk.refs, evOpD, touchD, stepC, isFresh, nFresh, freshOf, mkR, hole, evL, evH, opd, get, putD, ofVal, cellOf, loadE, behind, lenE, idxAddrE, idxE, lookE, lookM, addPtr, intE, strE, unE, convE, AV.int, AV.bool, AV.str, ivs, take, frameOf, firstRegion, refsA, refsL, one, cellsA, floatOk, apartT, List.map, if_true, if_false, E_P, E_glob0, E_glob1, reduceCtorEq, beq_self_eq_true, ↓reduceIte, Nat.reduceEqDiff, cond_true, cond_false, Nat.reduceAdd, Nat.reduceSub, Nat.reduceMul, Nat.reduceLT, Nat.reduceLeDiff, Int.reduceToNat, Int.reduceLT, Int.reduceLE, Option.getD, Int.reduceMul, Int.reduceAdd, List.drop, List.take, Nat.reduceBEq, List.isEmpty, Int.reduceEq, Int.reduceNe, Int.reduceNeg, Int.reduceGT, Int.reduceGE, beq_true, beq_false, UInt8.reduceToNat, eqE, eq_self, foldE, maxE, minE, fillA, over, chop, List.replicate, leavesOk, leafOk, cellsEq, cellEq, E_byref, en14, bs22, bs23, bs46, rowsI_len, rows64_len, List.length_append, List.length_map, hr1, hpo, hpu, hun1, hsub, hsl, hpd, htk, hdr, htp, hta, Int.toNat_natCast, Nat.sub_zero, Nat.add_sub_cancel_left, e1, o0, o17, o18, h1, r1, r2, show ∀ B fr H, execT E B 14 (Code.loop _) fr H = rlM E B 14 (loopAt Tryd.f14 0) [0, 1, 2, 8, 10, 12, 13, 14, 15, 16] [] (matF [(14, 1)] fr H).1 (matB [] (matF [(14, 1)] fr H).1 (matF [(14, 1)] fr H).2) from fun B fr H => rl_introM rfl mt14_7 mb14_7 zf14_7 hd14_7 fr H, show ∀ B fr H, execT E B 14 (Code.loop _) fr H = rlM E B 14 (loopAt Tryd.f14 1) [0, 1, 2, 8, 10, 12, 13, 14, 15, 16, 17, 19, 20, 21] [] (matF [(14, 1)] fr H).1 (matB [] (matF [(14, 1)] fr H).1 (matF [(14, 1)] fr H).2) from fun B fr H => rl_introM rfl mt14_19 mb14_19 zf14_19 hd14_19 fr H]
                · rw [show clsR op c p0 = c from by unfold clsR; rw [if_neg (fun h => r1 h.2.1)]]
                  rw [rl_step (fn := Tryd.f14) (k := 0) rfl]
                  simp (disch := first | omega | (simp only [vlen, rowsI_len, rows64_len, List.length_append, List.length_map]; omega)) only [vall, List.take_of_length_le, gB, gcW, gcR, posIn, renA, renL, Chunk.ren, Chunk.refs, evOpD, touchD, stepC, isFresh, nFresh, freshOf, mkR, hole, evL, evH, opd, get, putD, ofVal, cellOf, loadE, behind, lenE, idxAddrE, idxE, lookE, lookM, addPtr, intE, strE, unE, convE, AV.int, AV.bool, AV.str, ivs, take, frameOf, firstRegion, refsA, refsL, one, cellsA, floatOk, apartT, List.map, if_true, if_false, E_P, E_glob0, E_glob1, reduceCtorEq, beq_self_eq_true, ↓reduceIte, Nat.reduceEqDiff, cond_true, cond_false, Nat.reduceAdd, Nat.reduceSub, Nat.reduceMul, Nat.reduceLT, Nat.reduceLeDiff, Int.reduceToNat, Int.reduceLT, Int.reduceLE, Option.getD, Int.reduceMul, Int.reduceAdd, List.drop, List.take, Nat.reduceBEq, List.isEmpty, Int.reduceEq, Int.reduceNe, Int.reduceNeg, Int.reduceGT, Int.reduceGE, beq_true, beq_false, UInt8.reduceToNat, eqE, eq_self, foldE, maxE, minE, fillA, over, chop, List.replicate, leavesOk, leafOk, cellsEq, cellEq, E_byref, en14, bs22, bs23, bs46, rowsI_len, rows64_len, List.length_append, List.length_map, hr1, hpo, hpu, hun1, hsub, hsl, hpd, htk, hdr, htp, hta, Int.toNat_natCast, Nat.sub_zero, Nat.add_sub_cancel_left, e1, o0, o17, o18, h1, r1, show ∀ B fr H, execT E B 14 (Code.loop _) fr H = rlM E B 14 (loopAt Tryd.f14 0) [0, 1, 2, 8, 10, 12, 13, 14, 15, 16] [] (matF [(14, 1)] fr H).1 (matB [] (matF [(14, 1)] fr H).1 (matF [(14, 1)] fr H).2) from fun B fr H => rl_introM rfl mt14_7 mb14_7 zf14_7 hd14_7 fr H, show ∀ B fr H, execT E B 14 (Code.loop _) fr H = rlM E B 14 (loopAt Tryd.f14 1) [0, 1, 2, 8, 10, 12, 13, 14, 15, 16, 17, 19, 20, 21] [] (matF [(14, 1)] fr H).1 (matB [] (matF [(14, 1)] fr H).1 (matF [(14, 1)] fr H).2) from fun B fr H => rl_introM rfl mt14_19 mb14_19 zf14_19 hd14_19 fr H]
              · by_cases o20 : op = 20
                · have hj1 : (i : Int) + 1 = j := by rw [← hj, nextR, if_neg o0, if_neg o17, if_neg (fun h => o18 h.1)]
                  have h1 := hj0 (by have := hpo1 (.inr (.inr o20)); omega)
                  have hpo1' := hpo1 (.inr (.inr o20))
                  rw [ecl (by omega), ← hj1]
                  clear ecl ewa hj hj0 hpo1
                  by_cases r1 : 0 ≤ p0
                  · by_cases r2 : p0 ≤ 60000
                    · rw [show waiR op w p0 = p0 from by unfold waiR; rw [if_pos ⟨o20, r1, r2⟩]]
                      rw [rl_step (fn := Tryd.f14) (k := 0) rfl]
                      simp (disch := first | omega | (simp only [vlen, rowsI_len, rows64_len, List.length_append, List.length_map]; omega)) only [vall, List.take_of_length_le, gB, gcW, gcR, posIn, renA, renL, Chunk.ren, Chunk.refs, evOpD, touchD, stepC, isFresh, nFresh, freshOf, mkR, hole, evL, evH, opd, get, putD, ofVal, cellOf, loadE, behind, lenE, idxAddrE, idxE, lookE, lookM, addPtr, intE, strE, unE, convE, AV.int, AV.bool, AV.str, ivs, take, frameOf, firstRegion, refsA, refsL, one, cellsA, floatOk, apartT, List.map, if_true, if_false, E_P, E_glob0, E_glob1, reduceCtorEq, beq_self_eq_true, ↓reduceIte, Nat.reduceEqDiff, cond_true, cond_false, Nat.reduceAdd, Nat.reduceSub, Nat.reduceMul, Nat.reduceLT, Nat.reduceLeDiff, Int.reduceToNat, Int.reduceLT, Int.reduceLE, Option.getD, Int.reduceMul, Int.reduceAdd, List.drop, List.take, Nat.reduceBEq, List.isEmpty, Int.reduceEq, Int.reduceNe, Int.reduceNeg, Int.reduceGT, Int.reduceGE, beq_true, beq_false, UInt8.reduceToNat, eqE, eq_self, foldE, maxE, minE, fillA, over, chop, List.replicate, leavesOk, leafOk, cellsEq, cellEq, E_byref, en14, bs22, bs23, bs46, rowsI_len, rows64_len, List.length_append, List.length_map, hr1, hpo, hpu, hun1, hsub, hsl, hpd, htk, hdr, htp, hta, Int.toNat_natCast, Nat.sub_zero, Nat.add_sub_cancel_left, e1, o0, o17, o18, o19, h1, r1, r2, show ∀ B fr H, execT E B 14 (Code.loop _) fr H = rlM E B 14 (loopAt Tryd.f14 0) [0, 1, 2, 8, 10, 12, 13, 14, 15, 16] [] (matF [(14, 1)] fr H).1 (matB [] (matF [(14, 1)] fr H).1 (matF [(14, 1)] fr H).2) from fun B fr H => rl_introM rfl mt14_7 mb14_7 zf14_7 hd14_7 fr H, show ∀ B fr H, execT E B 14 (Code.loop _) fr H = rlM E B 14 (loopAt Tryd.f14 1) [0, 1, 2, 8, 10, 12, 13, 14, 15, 16, 17, 19, 20, 21] [] (matF [(14, 1)] fr H).1 (matB [] (matF [(14, 1)] fr H).1 (matF [(14, 1)] fr H).2) from fun B fr H => rl_introM rfl mt14_19 mb14_19 zf14_19 hd14_19 fr H]
                    · rw [show waiR op w p0 = w from by unfold waiR; rw [if_neg (fun h => r2 h.2.2)]]
                      rw [rl_step (fn := Tryd.f14) (k := 0) rfl]
                      simp (disch := first | omega | (simp only [vlen, rowsI_len, rows64_len, List.length_append, List.length_map]; omega)) only [vall, List.take_of_length_le, gB, gcW, gcR, posIn, renA, renL, Chunk.ren, Chunk.refs, evOpD, touchD, stepC, isFresh, nFresh, freshOf, mkR, hole, evL, evH, opd, get, putD, ofVal, cellOf, loadE, behind, lenE, idxAddrE, idxE, lookE, lookM, addPtr, intE, strE, unE, convE, AV.int, AV.bool, AV.str, ivs, take, frameOf, firstRegion, refsA, refsL, one, cellsA, floatOk, apartT, List.map, if_true, if_false, E_P, E_glob0, E_glob1, reduceCtorEq, beq_self_eq_true, ↓reduceIte, Nat.reduceEqDiff, cond_true, cond_false, Nat.reduceAdd, Nat.reduceSub, Nat.reduceMul, Nat.reduceLT, Nat.reduceLeDiff, Int.reduceToNat, Int.reduceLT, Int.reduceLE, Option.getD, Int.reduceMul, Int.reduceAdd, List.drop, List.take, Nat.reduceBEq, List.isEmpty, Int.reduceEq, Int.reduceNe, Int.reduceNeg, Int.reduceGT, Int.reduceGE, beq_true, beq_false, UInt8.reduceToNat, eqE, eq_self, foldE, maxE, minE, fillA, over, chop, List.replicate, leavesOk, leafOk, cellsEq, cellEq, E_byref, en14, bs22, bs23, bs46, rowsI_len, rows64_len, List.length_append, List.length_map, hr1, hpo, hpu, hun1, hsub, hsl, hpd, htk, hdr, htp, hta, Int.toNat_natCast, Nat.sub_zero, Nat.add_sub_cancel_left, e1, o0, o17, o18, o19, h1, r1, r2, show ∀ B fr H, execT E B 14 (Code.loop _) fr H = rlM E B 14 (loopAt Tryd.f14 0) [0, 1, 2, 8, 10, 12, 13, 14, 15, 16] [] (matF [(14, 1)] fr H).1 (matB [] (matF [(14, 1)] fr H).1 (matF [(14, 1)] fr H).2) from fun B fr H => rl_introM rfl mt14_7 mb14_7 zf14_7 hd14_7 fr H, show ∀ B fr H, execT E B 14 (Code.loop _) fr H = rlM E B 14 (loopAt Tryd.f14 1) [0, 1, 2, 8, 10, 12, 13, 14, 15, 16, 17, 19, 20, 21] [] (matF [(14, 1)] fr H).1 (matB [] (matF [(14, 1)] fr H).1 (matF [(14, 1)] fr H).2) from fun B fr H => rl_introM rfl mt14_19 mb14_19 zf14_19 hd14_19 fr H]
                  · rw [show waiR op w p0 = w from by unfold waiR; rw [if_neg (fun h => r1 h.2.1)]]
                    rw [rl_step (fn := Tryd.f14) (k := 0) rfl]
                    simp (disch := first | omega | (simp only [vlen, rowsI_len, rows64_len, List.length_append, List.length_map]; omega)) only [vall, List.take_of_length_le, gB, gcW, gcR, posIn, renA, renL, Chunk.ren, Chunk.refs, evOpD, touchD, stepC, isFresh, nFresh, freshOf, mkR, hole, evL, evH, opd, get, putD, ofVal, cellOf, loadE, behind, lenE, idxAddrE, idxE, lookE, lookM, addPtr, intE, strE, unE, convE, AV.int, AV.bool, AV.str, ivs, take, frameOf, firstRegion, refsA, refsL, one, cellsA, floatOk, apartT, List.map, if_true, if_false, E_P, E_glob0, E_glob1, reduceCtorEq, beq_self_eq_true, ↓reduceIte, Nat.reduceEqDiff, cond_true, cond_false, Nat.reduceAdd, Nat.reduceSub, Nat.reduceMul, Nat.reduceLT, Nat.reduceLeDiff, Int.reduceToNat, Int.reduceLT, Int.reduceLE, Option.getD, Int.reduceMul, Int.reduceAdd, List.drop, List.take, Nat.reduceBEq, List.isEmpty, Int.reduceEq, Int.reduceNe, Int.reduceNeg, Int.reduceGT, Int.reduceGE, beq_true, beq_false, UInt8.reduceToNat, eqE, eq_self, foldE, maxE, minE, fillA, over, chop, List.replicate, leavesOk, leafOk, cellsEq, cellEq, E_byref, en14, bs22, bs23, bs46, rowsI_len, rows64_len, List.length_append, List.length_map, hr1, hpo, hpu, hun1, hsub, hsl, hpd, htk, hdr, htp, hta, Int.toNat_natCast, Nat.sub_zero, Nat.add_sub_cancel_left, e1, o0, o17, o18, o19, h1, r1, show ∀ B fr H, execT E B 14 (Code.loop _) fr H = rlM E B 14 (loopAt Tryd.f14 0) [0, 1, 2, 8, 10, 12, 13, 14, 15, 16] [] (matF [(14, 1)] fr H).1 (matB [] (matF [(14, 1)] fr H).1 (matF [(14, 1)] fr H).2) from fun B fr H => rl_introM rfl mt14_7 mb14_7 zf14_7 hd14_7 fr H, show ∀ B fr H, execT E B 14 (Code.loop _) fr H = rlM E B 14 (loopAt Tryd.f14 1) [0, 1, 2, 8, 10, 12, 13, 14, 15, 16, 17, 19, 20, 21] [] (matF [(14, 1)] fr H).1 (matB [] (matF [(14, 1)] fr H).1 (matF [(14, 1)] fr H).2) from fun B fr H => rl_introM rfl mt14_19 mb14_19 zf14_19 hd14_19 fr H]
                · have hj1 : (i : Int) + 1 = j := by rw [← hj, nextR, if_neg o0, if_neg o17, if_neg (fun h => o18 h.1)]
                  rw [ecl o19, ewa o20, ← hj1]
                  clear ecl ewa hj hj0 hpo1
                  rw [rl_step (fn := Tryd.f14) (k := 0) rfl]
                  simp (disch := first | omega | (simp only [vlen, rowsI_len, rows64_len, List.length_append, List.length_map]; omega)) only [vall, List.take_of_length_le, gB, gcW, gcR, posIn, renA, renL, Chunk.ren, Chunk.refs, evOpD, touchD, stepC, isFresh, nFresh, freshOf, mkR, hole, evL, evH, opd, get, putD, ofVal, cellOf, loadE, behind, lenE, idxAddrE, idxE, lookE, lookM, addPtr, intE, strE, unE, convE, AV.int, AV.bool, AV.str, ivs, take, frameOf, firstRegion, refsA, refsL, one, cellsA, floatOk, apartT, List.map, if_true, if_false, E_P, E_glob0, E_glob1, reduceCtorEq, beq_self_eq_true, ↓reduceIte, Nat.reduceEqDiff, cond_true, cond_false, Nat.reduceAdd, Nat.reduceSub, Nat.reduceMul, Nat.reduceLT, Nat.reduceLeDiff, Int.reduceToNat, Int.reduceLT, Int.reduceLE, Option.getD, Int.reduceMul, Int.reduceAdd, List.drop, List.take, Nat.reduceBEq, List.isEmpty, Int.reduceEq, Int.reduceNe, Int.reduceNeg, Int.reduceGT, Int.reduceGE, beq_true, beq_false, UInt8.reduceToNat, eqE, eq_self, foldE, maxE, minE, fillA, over, chop, List.replicate, leavesOk, leafOk, cellsEq, cellEq, E_byref, en14, bs22, bs23, bs46, rowsI_len, rows64_len, List.length_append, List.length_map, hr1, hpo, hpu, hun1, hsub, hsl, hpd, htk, hdr, htp, hta, Int.toNat_natCast, Nat.sub_zero, Nat.add_sub_cancel_left, e1, o0, o17, o18, o19, o20, show ∀ B fr H, execT E B 14 (Code.loop _) fr H = rlM E B 14 (loopAt Tryd.f14 0) [0, 1, 2, 8, 10, 12, 13, 14, 15, 16] [] (matF [(14, 1)] fr H).1 (matB [] (matF [(14, 1)] fr H).1 (matF [(14, 1)] fr H).2) from fun B fr H => rl_introM rfl mt14_7 mb14_7 zf14_7 hd14_7 fr H, show ∀ B fr H, execT E B 14 (Code.loop _) fr H = rlM E B 14 (loopAt Tryd.f14 1) [0, 1, 2, 8, 10, 12, 13, 14, 15, 16, 17, 19, 20, 21] [] (matF [(14, 1)] fr H).1 (matB [] (matF [(14, 1)] fr H).1 (matF [(14, 1)] fr H).2) from fun B fr H => rl_introM rfl mt14_19 mb14_19 zf14_19 hd14_19 fr H]
    · rw [runR_none (List.getElem?_eq_none (by omega))]
      rw [rl_step (fn := Tryd.f14) (k := 0) rfl]
      simp (disch := first | omega | (simp only [vlen, rowsI_len, rows64_len]; omega)) only [vall, List.take_of_length_le, gB, gcW, gcR, posIn, renA, renL, Chunk.ren, Chunk.refs, evOpD, touchD, stepC, isFresh, nFresh, freshOf, mkR, hole, evL, evH, opd, get, putD, ofVal, cellOf, loadE, behind, lenE, idxAddrE, idxE, lookE, lookM, addPtr, intE, strE, unE, convE, AV.int, AV.bool, AV.str, ivs, take, frameOf, firstRegion, refsA, refsL, one, cellsA, floatOk, apartT, List.map, if_true, if_false, E_P, E_glob0, E_glob1, reduceCtorEq, beq_self_eq_true, ↓reduceIte, Nat.reduceEqDiff, cond_true, cond_false, Nat.reduceAdd, Nat.reduceSub, Nat.reduceMul, Nat.reduceLT, Nat.reduceLeDiff, Int.reduceToNat, Int.reduceLT, Int.reduceLE, Option.getD, Int.reduceMul, Int.reduceAdd, List.drop, List.take, Nat.reduceBEq, List.isEmpty, Int.reduceEq, Int.reduceNe, Int.reduceNeg, Int.reduceGT, Int.reduceGE, beq_true, beq_false, UInt8.reduceToNat, eqE, eq_self, foldE, maxE, minE, fillA, over, chop, List.replicate, leavesOk, leafOk, cellsEq, cellEq, E_byref, en14, bs22, bs23, bs46, rowsI_len, rows64_len, show ∀ B fr H, execT E B 14 (Code.loop _) fr H = rlM E B 14 (loopAt Tryd.f14 0) [0, 1, 2, 8, 10, 12, 13, 14, 15, 16] [] (matF [(14, 1)] fr H).1 (matB [] (matF [(14, 1)] fr H).1 (matF [(14, 1)] fr H).2) from fun B fr H => rl_introM rfl mt14_7 mb14_7 zf14_7 hd14_7 fr H]
      exact ⟨_, _, _, rfl, .inl ⟨rfl, rfl, k, i, rfl, rfl⟩⟩
end Go.VI

namespace Go.VI
open Go.Proofs
set_option maxRecDepth 100000
set_option linter.unusedSimpArgs false
set_option linter.unusedVariables false
set_option maxHeartbeats 4000000
def runT (l : List Ins) (row : Int) (g : List Gl) (c w r fuel : Int) : Oc :=
  if checkI l = 0 then ⟨(runR l row g c w (limI fuel) 0 0 c w []).1, (runR l row g c w (limI fuel) 0 0 c w []).2.1, r, (runR l row g c w (limI fuel) 0 0 c w []).2.2.1, (runR l row g c w (limI fuel) 0 0 c w []).2.2.2⟩ else ⟨c, w, r, 0, checkI l⟩
theorem c14 (l : List Ins) (hl : (l.length : Int) < 9223372036854775808) (row : Int) (hrow : bI row) (g : List Gl) (hg : okG g) (c w r fuel : Int) (hv : bI c ∧ bI w ∧ bI r) (hf : bI fuel) :
    ∃ L, callT E 14 [.i (.sl 2 (rowsI l) false), .i (.v (.int .i64 row)), .i (.sl 3 (rowsG g) false), .agg [.i (.v (.int .i64 c)), .i (.v (.int .i64 w)), .i (.v (.int .i64 r))], .i (.v (.int .i64 fuel))] [] = some (ocA (runT l row g c w r fuel), L) := by
  have hck := fun H => ik26 l hl H
  unfold runT
  by_cases h0 : checkI l = 0
  · rw [if_pos h0]
    rw [h0] at hck
    obtain ⟨lim, hlim⟩ : ∃ lim : Nat, lim = limI fuel := ⟨_, rfl⟩
    rw [← hlim]
    have hlim2 : max 0 (min fuel 5000) = (lim : Int) := by rw [hlim, limI]; omega
    obtain ⟨fr, ex, H', e, hh⟩ := l14 l h0 row hrow g hg c w r lim (by omega) lim 0 0 c w [] (Nat.zero_le _) (by omega) ⟨by decide, by simp⟩ hv.1 hv.2.1
    have e' : rl E 0 14 (loopAt Tryd.f14 0) [(0, .i (.sl 2 (rowsI l) false)), (1, .i (.v (.int .i64 row))), (2, .i (.sl 3 (rowsG g) false)), (8, .ptr 0 0 0 0), (10, .ptr 1 0 0 0), (12, .i (.v (.int .i64 lim))), (13, .ptr 2 0 0 0), (14, .ref 3 0 0 0), (15, .i (.v (.int .i64 0))), (16, .i (.v (.int .i64 0)))] [.box [.i (.v (.int .i64 c)), .i (.v (.int .i64 w)), .i (.v (.int .i64 r))], .box [.i (.v (.int .i64 0)), .i (.v (.int .i64 0)), .i (.v (.int .i64 0)), .i (.v (.int .i64 0)), .i (.v (.int .i64 0))], .box [.i (.v (.int .i64 c)), .i (.v (.int .i64 w)), .i (.v (.int .i64 r))], .sl 1 0 [] false] = _ := e
    clear e
    rcases hh with ⟨hz, rfl, k, i, rfl, rfl⟩ | ⟨hz, rfl, hg10, A, L, rfl⟩
    · rw [hz]
      generalize runR l row g c w lim 0 0 c w [] = q at *
      obtain ⟨q1, q2, q3, q4⟩ := q
      simp only [i64] at e' ⊢
      unfold ocA
      simp only
      rw [callT_eq Tryd.func14 rfl fok14 (by simp [Tryd.ntmps14])]
      simp (disch := first | omega | (simp only [vlen, rowsI_len, rows64_len]; omega)) only [vall, List.take_of_length_le, gB, gcW, gcR, posIn, renA, renL, Chunk.ren, Chunk.refs, evOpD, touchD, stepC, isFresh, nFresh, freshOf, mkR, hole, evL, evH, opd, get, putD, ofVal, cellOf, loadE, behind, lenE, idxAddrE, idxE, lookE, lookM, addPtr, intE, strE, unE, convE, AV.int, AV.bool, AV.str, ivs, take, frameOf, firstRegion, refsA, refsL, one, cellsA, floatOk, apartT, List.map, if_true, if_false, E_P, E_glob0, E_glob1, reduceCtorEq, beq_self_eq_true, ↓reduceIte, Nat.reduceEqDiff, cond_true, cond_false, Nat.reduceAdd, Nat.reduceSub, Nat.reduceMul, Nat.reduceLT, Nat.reduceLeDiff, Int.reduceToNat, Int.reduceLT, Int.reduceLE, Option.getD, Int.reduceMul, Int.reduceAdd, List.drop, List.take, Nat.reduceBEq, List.isEmpty, Int.reduceEq, Int.reduceNe, Int.reduceNeg, Int.reduceGT, Int.reduceGE, beq_true, beq_false, UInt8.reduceToNat, eqE, eq_self, foldE, maxE, minE, fillA, over, chop, List.replicate, leavesOk, leafOk, cellsEq, cellEq, E_byref, en14, bs22, bs23, bs46, rowsI_len, rows64_len, hck, hlim2, e', show ∀ B fr H, execT E B 14 (Code.loop _) fr H = rlM E B 14 (loopAt Tryd.f14 0) [0, 1, 2, 8, 10, 12, 13, 14, 15, 16] [] (matF [(14, 1)] fr H).1 (matB [] (matF [(14, 1)] fr H).1 (matF [(14, 1)] fr H).2) from fun B fr H => rl_introM rfl mt14_7 mb14_7 zf14_7 hd14_7 fr H]
      exact ⟨_, rfl⟩
    · generalize runR l row g c w lim 0 0 c w [] = q at *
      obtain ⟨q1, q2, q3, q4⟩ := q
      simp only [i64] at e' ⊢
      unfold ocA
      simp only
      rw [callT_eq Tryd.func14 rfl fok14 (by simp [Tryd.ntmps14])]
      simp (disch := first | omega | (simp only [vlen, rowsI_len]; omega)) only [vall, List.take_of_length_le, gB, gcW, gcR, posIn, renA, renL, Chunk.ren, Chunk.refs, evOpD, touchD, stepC, isFresh, nFresh, freshOf, mkR, hole, evL, evH, opd, get, putD, ofVal, cellOf, loadE, behind, lenE, idxAddrE, idxE, lookE, lookM, addPtr, intE, strE, unE, convE, AV.int, AV.bool, AV.str, ivs, take, frameOf, firstRegion, refsA, refsL, one, cellsA, floatOk, apartT, List.map, if_true, if_false, E_P, E_glob0, E_glob1, reduceCtorEq, beq_self_eq_true, ↓reduceIte, Nat.reduceEqDiff, cond_true, cond_false, Nat.reduceAdd, Nat.reduceSub, Nat.reduceMul, Nat.reduceLT, Nat.reduceLeDiff, Int.reduceToNat, Int.reduceLT, Int.reduceLE, Option.getD, Int.reduceMul, Int.reduceAdd, List.drop, List.take, Nat.reduceBEq, List.isEmpty, Int.reduceEq, Int.reduceNe, Int.reduceNeg, Int.reduceGT, Int.reduceGE, beq_true, beq_false, UInt8.reduceToNat, eqE, eq_self, foldE, maxE, minE, fillA, over, chop, List.replicate, leavesOk, leafOk, cellsEq, cellEq, E_byref, en14, bs22, bs23, bs46, rowsI_len, hck, hlim2, e', hg10, show ∀ B fr H, execT E B 14 (Code.loop _) fr H = rlM E B 14 (loopAt Tryd.f14 0) [0, 1, 2, 8, 10, 12, 13, 14, 15, 16] [] (matF [(14, 1)] fr H).1 (matB [] (matF [(14, 1)] fr H).1 (matF [(14, 1)] fr H).2) from fun B fr H => rl_introM rfl mt14_7 mb14_7 zf14_7 hd14_7 fr H]
      exact ⟨_, rfl⟩
  · rw [if_neg h0]
    generalize checkI l = q at *
    unfold ocA
    simp only
    rw [callT_eq Tryd.func14 rfl fok14 (by simp [Tryd.ntmps14])]
    simp (disch := first | omega | (simp only [vlen, rowsI_len]; omega)) only [vall, List.take_of_length_le, gB, gcW, gcR, posIn, renA, renL, Chunk.ren, Chunk.refs, evOpD, touchD, stepC, isFresh, nFresh, freshOf, mkR, hole, evL, evH, opd, get, putD, ofVal, cellOf, loadE, behind, lenE, idxAddrE, idxE, lookE, lookM, addPtr, intE, strE, unE, convE, AV.int, AV.bool, AV.str, ivs, take, frameOf, firstRegion, refsA, refsL, one, cellsA, floatOk, apartT, List.map, if_true, if_false, E_P, E_glob0, E_glob1, reduceCtorEq, beq_self_eq_true, ↓reduceIte, Nat.reduceEqDiff, cond_true, cond_false, Nat.reduceAdd, Nat.reduceSub, Nat.reduceMul, Nat.reduceLT, Nat.reduceLeDiff, Int.reduceToNat, Int.reduceLT, Int.reduceLE, Option.getD, Int.reduceMul, Int.reduceAdd, List.drop, List.take, Nat.reduceBEq, List.isEmpty, Int.reduceEq, Int.reduceNe, Int.reduceNeg, Int.reduceGT, Int.reduceGE, beq_true, beq_false, UInt8.reduceToNat, eqE, eq_self, foldE, maxE, minE, fillA, over, chop, List.replicate, leavesOk, leafOk, cellsEq, cellEq, E_byref, en14, bs22, bs23, bs46, rowsI_len, hck, h0]
    exact ⟨_, rfl⟩
theorem ik14 (l : List Ins) (hl : (l.length : Int) < 9223372036854775808) (row : Int) (hrow : bI row) (g : List Gl) (hg : okG g) (c w r fuel : Int) (hv : bI c ∧ bI w ∧ bI r) (hf : bI fuel) (H : Hp) :
    isoK E (callT E) 14 [.i (.sl 2 (rowsI l) false), .i (.v (.int .i64 row)), .i (.sl 3 (rowsG g) false), .agg [.i (.v (.int .i64 c)), .i (.v (.int .i64 w)), .i (.v (.int .i64 r))], .i (.v (.int .i64 fuel))] H = some (ocA (runT l row g c w r fuel), H) := isoK_val rfl rfl rfl (c14 l hl row hrow g hg c w r fuel hv hf)
theorem fld_v {a b c d e : AV} : fieldE E 30 (.agg [a, b, c, d, e]) 0 = some (.agg [a, b, c]) := by kernel_rfl
structure Vd where
  (c w r : Int)
def vdA (v : Vd) : AV := .agg [.i (.v (.int .i64 v.c)), .i (.v (.int .i64 v.w)), .i (.v (.int .i64 v.r))]
def fixV (o : Oc) : Vd := ⟨o.c, if o.c = 3 then o.w else 0, o.r⟩
def decS (l : List Ins) (row : Int) (g : List Gl) (c w r : Int) : Vd := if c = 1 ∨ (l.length : Int) = 0 ∨ (depthsS l).2 ≠ 0 then ⟨c, w, r⟩ else fixV (runS l row g c w r 5000)
def decT (l : List Ins) (row : Int) (g : List Gl) (c w r : Int) : Vd := if c = 1 ∨ (l.length : Int) = 0 ∨ (depthsS l).2 ≠ 0 then ⟨c, w, r⟩ else fixV (runT l row g c w r 5000)
theorem c15 (l : List Ins) (hl : (l.length : Int) < 9223372036854775808) (row : Int) (hrow : bI row) (g : List Gl) (hg : okG g) (c w r : Int) (hv : bI c ∧ bI w ∧ bI r) :
    ∃ L, callT E 15 [.i (.sl 2 (rowsI l) false), .i (.v (.int .i64 row)), .i (.sl 3 (rowsG g) false), .agg [.i (.v (.int .i64 c)), .i (.v (.int .i64 w)), .i (.v (.int .i64 r))]] [] = some (vdA (decS l row g c w r), L) := by
  have hve := fun H => ik19 l hl H
  have hrn := fun H => ik13 l hl row hrow g hg c w r 5000 hv (by unfold bI; omega) H
  unfold decS
  by_cases h1 : c = 1 
  · rw [if_pos (.inl h1)] 
    subst h1 
    unfold vdA 
    rw [callT_eq Tryd.func15 rfl fok15 (by simp [Tryd.ntmps15])] 
    simp (disch := first | omega | (simp only [vlen, rowsI_len]; omega)) only [vall, List.take_of_length_le, gB, gcW, gcR, posIn, renA, renL, Chunk.ren, Chunk.refs, evOpD, touchD, stepC, isFresh, nFresh, freshOf, mkR, hole, evL, evH, opd, get, putD, ofVal, cellOf, loadE, behind, lenE, idxAddrE, idxE, lookE, lookM, addPtr, intE, strE, unE, convE, AV.int, AV.bool, AV.str, ivs, take, frameOf, firstRegion, refsA, refsL, one, cellsA, floatOk, apartT, List.map, if_true, if_false, E_P, E_glob0, E_glob1, reduceCtorEq, beq_self_eq_true, ↓reduceIte, Nat.reduceEqDiff, cond_true, cond_false, Nat.reduceAdd, Nat.reduceSub, Nat.reduceMul, Nat.reduceLT, Nat.reduceLeDiff, Int.reduceToNat, Int.reduceLT, Int.reduceLE, Option.getD, Int.reduceMul, Int.reduceAdd, List.drop, List.take, Nat.reduceBEq, List.isEmpty, Int.reduceEq, Int.reduceNe, Int.reduceNeg, Int.reduceGT, Int.reduceGE, beq_true, beq_false, UInt8.reduceToNat, eqE, eq_self, foldE, maxE, minE, fillA, over, chop, List.replicate, leavesOk, leafOk, cellsEq, cellEq, E_byref, en15, bs22, bs23, rowsI_len, hve, hrn] 
    exact ⟨_, rfl⟩ 
  · by_cases h2 : (l.length : Int) = 0 
    · rw [if_pos (.inr (.inl h2))] 
      unfold vdA 
      rw [callT_eq Tryd.func15 rfl fok15 (by simp [Tryd.ntmps15])] 
      simp (disch := first | omega | (simp only [vlen, rowsI_len]; omega)) only [vall, List.take_of_length_le, gB, gcW, gcR, posIn, renA, renL, Chunk.ren, Chunk.refs, evOpD, touchD, stepC, isFresh, nFresh, freshOf, mkR, hole, evL, evH, opd, get, putD, ofVal, cellOf, loadE, behind, lenE, idxAddrE, idxE, lookE, lookM, addPtr, intE, strE, unE, convE, AV.int, AV.bool, AV.str, ivs, take, frameOf, firstRegion, refsA, refsL, one, cellsA, floatOk, apartT, List.map, if_true, if_false, E_P, E_glob0, E_glob1, reduceCtorEq, beq_self_eq_true, ↓reduceIte, Nat.reduceEqDiff, cond_true, cond_false, Nat.reduceAdd, Nat.reduceSub, Nat.reduceMul, Nat.reduceLT, Nat.reduceLeDiff, Int.reduceToNat, Int.reduceLT, Int.reduceLE, Option.getD, Int.reduceMul, Int.reduceAdd, List.drop, List.take, Nat.reduceBEq, List.isEmpty, Int.reduceEq, Int.reduceNe, Int.reduceNeg, Int.reduceGT, Int.reduceGE, beq_true, beq_false, UInt8.reduceToNat, eqE, eq_self, foldE, maxE, minE, fillA, over, chop, List.replicate, leavesOk, leafOk, cellsEq, cellEq, E_byref, en15, bs22, bs23, rowsI_len, hve, hrn, h1, h2] 
      exact ⟨_, rfl⟩ 
    · by_cases h3 : (depthsS l).2 = 0 
      · rw [if_neg (fun h => h.elim h1 (fun h => h.elim h2 (fun h => h h3)))] 
        rw [h3] at hve 
        generalize runS l row g c w r 5000 = o at * 
        obtain ⟨o1, o2, o3, o4, o5⟩ := o 
        unfold ocA at hrn 
        unfold vdA fixV 
        simp only at hrn ⊢ 
        by_cases h4 : o1 = 3 
        · rw [if_pos h4] 
          subst h4 
          rw [callT_eq Tryd.func15 rfl fok15 (by simp [Tryd.ntmps15])] 
          simp (disch := first | omega | (simp only [vlen, rowsI_len]; omega)) only [vall, List.take_of_length_le, gB, gcW, gcR, posIn, renA, renL, Chunk.ren, Chunk.refs, evOpD, touchD, stepC, isFresh, nFresh, freshOf, mkR, hole, evL, evH, opd, get, putD, ofVal, cellOf, loadE, behind, lenE, idxAddrE, idxE, lookE, lookM, addPtr, intE, strE, unE, convE, AV.int, AV.bool, AV.str, ivs, take, frameOf, firstRegion, refsA, refsL, one, cellsA, floatOk, apartT, List.map, if_true, if_false, E_P, E_glob0, E_glob1, reduceCtorEq, beq_self_eq_true, ↓reduceIte, Nat.reduceEqDiff, cond_true, cond_false, Nat.reduceAdd, Nat.reduceSub, Nat.reduceMul, Nat.reduceLT, Nat.reduceLeDiff, Int.reduceToNat, Int.reduceLT, Int.reduceLE, Option.getD, Int.reduceMul, Int.reduceAdd, List.drop, List.take, Nat.reduceBEq, List.isEmpty, Int.reduceEq, Int.reduceNe, Int.reduceNeg, Int.reduceGT, Int.reduceGE, beq_true, beq_false, UInt8.reduceToNat, eqE, eq_self, foldE, maxE, minE, fillA, over, chop, List.replicate, leavesOk, leafOk, cellsEq, cellEq, E_byref, en15, bs22, bs23, rowsI_len, hve, hrn, h1, h2, fld_v] 
          exact ⟨_, rfl⟩ 
        · rw [if_neg h4] 
          rw [callT_eq Tryd.func15 rfl fok15 (by simp [Tryd.ntmps15])] 
          simp (disch := first | omega | (simp only [vlen, rowsI_len]; omega)) only [vall, List.take_of_length_le, gB, gcW, gcR, posIn, renA, renL, Chunk.ren, Chunk.refs, evOpD, touchD, stepC, isFresh, nFresh, freshOf, mkR, hole, evL, evH, opd, get, putD, ofVal, cellOf, loadE, behind, lenE, idxAddrE, idxE, lookE, lookM, addPtr, intE, strE, unE, convE, AV.int, AV.bool, AV.str, ivs, take, frameOf, firstRegion, refsA, refsL, one, cellsA, floatOk, apartT, List.map, if_true, if_false, E_P, E_glob0, E_glob1, reduceCtorEq, beq_self_eq_true, ↓reduceIte, Nat.reduceEqDiff, cond_true, cond_false, Nat.reduceAdd, Nat.reduceSub, Nat.reduceMul, Nat.reduceLT, Nat.reduceLeDiff, Int.reduceToNat, Int.reduceLT, Int.reduceLE, Option.getD, Int.reduceMul, Int.reduceAdd, List.drop, List.take, Nat.reduceBEq, List.isEmpty, Int.reduceEq, Int.reduceNe, Int.reduceNeg, Int.reduceGT, Int.reduceGE, beq_true, beq_false, UInt8.reduceToNat, eqE, eq_self, foldE, maxE, minE, fillA, over, chop, List.replicate, leavesOk, leafOk, cellsEq, cellEq, E_byref, en15, bs22, bs23, rowsI_len, hve, hrn, h1, h2, h4, fld_v] 
          exact ⟨_, rfl⟩ 
      · rw [if_pos (.inr (.inr h3))] 
        generalize (depthsS l).2 = d at * 
        unfold vdA 
        rw [callT_eq Tryd.func15 rfl fok15 (by simp [Tryd.ntmps15])] 
        simp (disch := first | omega | (simp only [vlen, rowsI_len]; omega)) only [vall, List.take_of_length_le, gB, gcW, gcR, posIn, renA, renL, Chunk.ren, Chunk.refs, evOpD, touchD, stepC, isFresh, nFresh, freshOf, mkR, hole, evL, evH, opd, get, putD, ofVal, cellOf, loadE, behind, lenE, idxAddrE, idxE, lookE, lookM, addPtr, intE, strE, unE, convE, AV.int, AV.bool, AV.str, ivs, take, frameOf, firstRegion, refsA, refsL, one, cellsA, floatOk, apartT, List.map, if_true, if_false, E_P, E_glob0, E_glob1, reduceCtorEq, beq_self_eq_true, ↓reduceIte, Nat.reduceEqDiff, cond_true, cond_false, Nat.reduceAdd, Nat.reduceSub, Nat.reduceMul, Nat.reduceLT, Nat.reduceLeDiff, Int.reduceToNat, Int.reduceLT, Int.reduceLE, Option.getD, Int.reduceMul, Int.reduceAdd, List.drop, List.take, Nat.reduceBEq, List.isEmpty, Int.reduceEq, Int.reduceNe, Int.reduceNeg, Int.reduceGT, Int.reduceGE, beq_true, beq_false, UInt8.reduceToNat, eqE, eq_self, foldE, maxE, minE, fillA, over, chop, List.replicate, leavesOk, leafOk, cellsEq, cellEq, E_byref, en15, bs22, bs23, rowsI_len, hve, hrn, h1, h2, h3] 
        exact ⟨_, rfl⟩
theorem ik15 (l : List Ins) (hl : (l.length : Int) < 9223372036854775808) (row : Int) (hrow : bI row) (g : List Gl) (hg : okG g) (c w r : Int) (hv : bI c ∧ bI w ∧ bI r) (H : Hp) :
    isoK E (callT E) 15 [.i (.sl 2 (rowsI l) false), .i (.v (.int .i64 row)), .i (.sl 3 (rowsG g) false), .agg [.i (.v (.int .i64 c)), .i (.v (.int .i64 w)), .i (.v (.int .i64 r))]] H = some (vdA (decS l row g c w r), H) := isoK_val rfl rfl rfl (c15 l hl row hrow g hg c w r hv)
theorem c16 (l : List Ins) (hl : (l.length : Int) < 9223372036854775808) (row : Int) (hrow : bI row) (g : List Gl) (hg : okG g) (c w r : Int) (hv : bI c ∧ bI w ∧ bI r) :
    ∃ L, callT E 16 [.i (.sl 2 (rowsI l) false), .i (.v (.int .i64 row)), .i (.sl 3 (rowsG g) false), .agg [.i (.v (.int .i64 c)), .i (.v (.int .i64 w)), .i (.v (.int .i64 r))]] [] = some (vdA (decT l row g c w r), L) := by
  have hve := fun H => ik31 l hl H
  have hrn := fun H => ik14 l hl row hrow g hg c w r 5000 hv (by unfold bI; omega) H
  unfold decT
  generalize (depthsS l).1 = ds at hve
  by_cases h1 : c = 1 
  · rw [if_pos (.inl h1)] 
    subst h1 
    unfold vdA 
    rw [callT_eq Tryd.func16 rfl fok16 (by simp [Tryd.ntmps16])] 
    simp (disch := first | omega | (simp only [vlen, rowsI_len]; omega)) only [vall, List.take_of_length_le, gB, gcW, gcR, posIn, renA, renL, Chunk.ren, Chunk.refs, evOpD, touchD, stepC, isFresh, nFresh, freshOf, mkR, hole, evL, evH, opd, get, putD, ofVal, cellOf, loadE, behind, lenE, idxAddrE, idxE, lookE, lookM, addPtr, intE, strE, unE, convE, AV.int, AV.bool, AV.str, ivs, take, frameOf, firstRegion, refsA, refsL, one, cellsA, floatOk, apartT, List.map, if_true, if_false, E_P, E_glob0, E_glob1, reduceCtorEq, beq_self_eq_true, ↓reduceIte, Nat.reduceEqDiff, cond_true, cond_false, Nat.reduceAdd, Nat.reduceSub, Nat.reduceMul, Nat.reduceLT, Nat.reduceLeDiff, Int.reduceToNat, Int.reduceLT, Int.reduceLE, Option.getD, Int.reduceMul, Int.reduceAdd, List.drop, List.take, Nat.reduceBEq, List.isEmpty, Int.reduceEq, Int.reduceNe, Int.reduceNeg, Int.reduceGT, Int.reduceGE, beq_true, beq_false, UInt8.reduceToNat, eqE, eq_self, foldE, maxE, minE, fillA, over, chop, List.replicate, leavesOk, leafOk, cellsEq, cellEq, E_byref, en16, bs22, bs23, rowsI_len, hve, hrn] 
    exact ⟨_, rfl⟩ 
  · by_cases h2 : (l.length : Int) = 0 
    · rw [if_pos (.inr (.inl h2))] 
      unfold vdA 
      rw [callT_eq Tryd.func16 rfl fok16 (by simp [Tryd.ntmps16])] 
      simp (disch := first | omega | (simp only [vlen, rowsI_len]; omega)) only [vall, List.take_of_length_le, gB, gcW, gcR, posIn, renA, renL, Chunk.ren, Chunk.refs, evOpD, touchD, stepC, isFresh, nFresh, freshOf, mkR, hole, evL, evH, opd, get, putD, ofVal, cellOf, loadE, behind, lenE, idxAddrE, idxE, lookE, lookM, addPtr, intE, strE, unE, convE, AV.int, AV.bool, AV.str, ivs, take, frameOf, firstRegion, refsA, refsL, one, cellsA, floatOk, apartT, List.map, if_true, if_false, E_P, E_glob0, E_glob1, reduceCtorEq, beq_self_eq_true, ↓reduceIte, Nat.reduceEqDiff, cond_true, cond_false, Nat.reduceAdd, Nat.reduceSub, Nat.reduceMul, Nat.reduceLT, Nat.reduceLeDiff, Int.reduceToNat, Int.reduceLT, Int.reduceLE, Option.getD, Int.reduceMul, Int.reduceAdd, List.drop, List.take, Nat.reduceBEq, List.isEmpty, Int.reduceEq, Int.reduceNe, Int.reduceNeg, Int.reduceGT, Int.reduceGE, beq_true, beq_false, UInt8.reduceToNat, eqE, eq_self, foldE, maxE, minE, fillA, over, chop, List.replicate, leavesOk, leafOk, cellsEq, cellEq, E_byref, en16, bs22, bs23, rowsI_len, hve, hrn, h1, h2] 
      exact ⟨_, rfl⟩ 
    · by_cases h3 : (depthsS l).2 = 0 
      · rw [if_neg (fun h => h.elim h1 (fun h => h.elim h2 (fun h => h h3)))] 
        rw [h3] at hve 
        generalize runT l row g c w r 5000 = o at * 
        obtain ⟨o1, o2, o3, o4, o5⟩ := o 
        unfold ocA at hrn 
        unfold vdA fixV 
        simp only at hrn ⊢ 
        by_cases h4 : o1 = 3 
        · rw [if_pos h4] 
          subst h4 
          rw [callT_eq Tryd.func16 rfl fok16 (by simp [Tryd.ntmps16])] 
          simp (disch := first | omega | (simp only [vlen, rowsI_len]; omega)) only [vall, List.take_of_length_le, gB, gcW, gcR, posIn, renA, renL, Chunk.ren, Chunk.refs, evOpD, touchD, stepC, isFresh, nFresh, freshOf, mkR, hole, evL, evH, opd, get, putD, ofVal, cellOf, loadE, behind, lenE, idxAddrE, idxE, lookE, lookM, addPtr, intE, strE, unE, convE, AV.int, AV.bool, AV.str, ivs, take, frameOf, firstRegion, refsA, refsL, one, cellsA, floatOk, apartT, List.map, if_true, if_false, E_P, E_glob0, E_glob1, reduceCtorEq, beq_self_eq_true, ↓reduceIte, Nat.reduceEqDiff, cond_true, cond_false, Nat.reduceAdd, Nat.reduceSub, Nat.reduceMul, Nat.reduceLT, Nat.reduceLeDiff, Int.reduceToNat, Int.reduceLT, Int.reduceLE, Option.getD, Int.reduceMul, Int.reduceAdd, List.drop, List.take, Nat.reduceBEq, List.isEmpty, Int.reduceEq, Int.reduceNe, Int.reduceNeg, Int.reduceGT, Int.reduceGE, beq_true, beq_false, UInt8.reduceToNat, eqE, eq_self, foldE, maxE, minE, fillA, over, chop, List.replicate, leavesOk, leafOk, cellsEq, cellEq, E_byref, en16, bs22, bs23, rowsI_len, hve, hrn, h1, h2, fld_v] 
          exact ⟨_, rfl⟩ 
        · rw [if_neg h4] 
          rw [callT_eq Tryd.func16 rfl fok16 (by simp [Tryd.ntmps16])] 
          simp (disch := first | omega | (simp only [vlen, rowsI_len]; omega)) only [vall, List.take_of_length_le, gB, gcW, gcR, posIn, renA, renL, Chunk.ren, Chunk.refs, evOpD, touchD, stepC, isFresh, nFresh, freshOf, mkR, hole, evL, evH, opd, get, putD, ofVal, cellOf, loadE, behind, lenE, idxAddrE, idxE, lookE, lookM, addPtr, intE, strE, unE, convE, AV.int, AV.bool, AV.str, ivs, take, frameOf, firstRegion, refsA, refsL, one, cellsA, floatOk, apartT, List.map, if_true, if_false, E_P, E_glob0, E_glob1, reduceCtorEq, beq_self_eq_true, ↓reduceIte, Nat.reduceEqDiff, cond_true, cond_false, Nat.reduceAdd, Nat.reduceSub, Nat.reduceMul, Nat.reduceLT, Nat.reduceLeDiff, Int.reduceToNat, Int.reduceLT, Int.reduceLE, Option.getD, Int.reduceMul, Int.reduceAdd, List.drop, List.take, Nat.reduceBEq, List.isEmpty, Int.reduceEq, Int.reduceNe, Int.reduceNeg, Int.reduceGT, Int.reduceGE, beq_true, beq_false, UInt8.reduceToNat, eqE, eq_self, foldE, maxE, minE, fillA, over, chop, List.replicate, leavesOk, leafOk, cellsEq, cellEq, E_byref, en16, bs22, bs23, rowsI_len, hve, hrn, h1, h2, h4, fld_v] 
          exact ⟨_, rfl⟩ 
      · rw [if_pos (.inr (.inr h3))] 
        generalize (depthsS l).2 = d at * 
        unfold vdA 
        rw [callT_eq Tryd.func16 rfl fok16 (by simp [Tryd.ntmps16])] 
        simp (disch := first | omega | (simp only [vlen, rowsI_len]; omega)) only [vall, List.take_of_length_le, gB, gcW, gcR, posIn, renA, renL, Chunk.ren, Chunk.refs, evOpD, touchD, stepC, isFresh, nFresh, freshOf, mkR, hole, evL, evH, opd, get, putD, ofVal, cellOf, loadE, behind, lenE, idxAddrE, idxE, lookE, lookM, addPtr, intE, strE, unE, convE, AV.int, AV.bool, AV.str, ivs, take, frameOf, firstRegion, refsA, refsL, one, cellsA, floatOk, apartT, List.map, if_true, if_false, E_P, E_glob0, E_glob1, reduceCtorEq, beq_self_eq_true, ↓reduceIte, Nat.reduceEqDiff, cond_true, cond_false, Nat.reduceAdd, Nat.reduceSub, Nat.reduceMul, Nat.reduceLT, Nat.reduceLeDiff, Int.reduceToNat, Int.reduceLT, Int.reduceLE, Option.getD, Int.reduceMul, Int.reduceAdd, List.drop, List.take, Nat.reduceBEq, List.isEmpty, Int.reduceEq, Int.reduceNe, Int.reduceNeg, Int.reduceGT, Int.reduceGE, beq_true, beq_false, UInt8.reduceToNat, eqE, eq_self, foldE, maxE, minE, fillA, over, chop, List.replicate, leavesOk, leafOk, cellsEq, cellEq, E_byref, en16, bs22, bs23, rowsI_len, hve, hrn, h1, h2, h3] 
        exact ⟨_, rfl⟩
theorem ik16 (l : List Ins) (hl : (l.length : Int) < 9223372036854775808) (row : Int) (hrow : bI row) (g : List Gl) (hg : okG g) (c w r : Int) (hv : bI c ∧ bI w ∧ bI r) (H : Hp) :
    isoK E (callT E) 16 [.i (.sl 2 (rowsI l) false), .i (.v (.int .i64 row)), .i (.sl 3 (rowsG g) false), .agg [.i (.v (.int .i64 c)), .i (.v (.int .i64 w)), .i (.v (.int .i64 r))]] H = some (vdA (decT l row g c w r), H) := isoK_val rfl rfl rfl (c16 l hl row hrow g hg c w r hv)
end Go.VI

namespace Go.VI
open Go.Proofs
set_option maxRecDepth 100000
set_option linter.unusedSimpArgs false
set_option linter.unusedVariables false
def Rk (k : Kk) (s : List Int) : Prop := okK k ∧ k.f = false ∧ k.st.take k.d = s
theorem Rk_len {k : Kk} {s : List Int} (h : Rk k s) : s.length = k.d := by
  obtain ⟨⟨h1, h2, h3⟩, _, h4⟩ := h
  rw [← h4, List.length_take]; omega
theorem Rk_le {k : Kk} {s : List Int} (h : Rk k s) : s.length ≤ 16 := by rw [Rk_len h]; exact h.1.2.1
theorem R_pop0 {k : Kk} (h : Rk k []) : (popK k).f = true := by
  have : k.d = 0 := (Rk_len h).symm
  simp [popK, this]
theorem R_pop1 {k : Kk} {s : List Int} {x : Int} (h : Rk k (s ++ [x])) : popV k = x ∧ Rk (popK k) s := by
  have hl := Rk_len h
  rw [List.length_append, List.length_singleton] at hl
  obtain ⟨h1, h2, h3⟩ := h
  have hd : k.d = s.length + 1 := by omega
  have hne : k.d ≠ 0 := by omega
  have hx : k.st[s.length]? = some x := by
    have : (k.st.take k.d)[s.length]? = some x := by rw [h3]; simp
    rwa [List.getElem?_take_of_lt (by omega)] at this
  refine ⟨?_, popK_ok h1, ?_, ?_⟩
  · unfold popV
    rw [if_neg hne, hd, Nat.add_sub_cancel, List.getD_eq_getElem?_getD, hx]; rfl
  · simp only [popK, h2, Bool.false_or]
    exact decide_eq_false hne
  · show k.st.take (k.d - 1) = s
    rw [hd, Nat.add_sub_cancel]
    have : (k.st.take k.d).take s.length = s := by rw [h3]; simp
    rwa [List.take_take, Nat.min_eq_left (by omega)] at this
theorem R_push {k : Kk} {s : List Int} (h : Rk k s) (hs : s.length < 16) (n : Int) : Rk (pushK k n) (s ++ [limS n]) := by
  have hl := Rk_len h
  obtain ⟨h1, h2, h3⟩ := h
  refine ⟨pushK_ok h1 n, ?_, ?_⟩
  · unfold pushK; rw [if_neg (by omega)]; exact h2
  · unfold pushK
    rw [if_neg (by omega)]
    show (k.st.set k.d (limS n)).take (k.d + 1) = s ++ [limS n]
    have hlt : k.d < k.st.length := by have := h1.1; omega
    have hlt2 : k.d < (k.st.set k.d (limS n)).length := by rw [List.length_set]; exact hlt
    rw [List.take_succ_eq_append_getElem hlt2, List.getElem_set_self, List.take_set_of_le (Nat.le_refl _), h3]
theorem R_push16 {k : Kk} {s : List Int} (h : Rk k s) (hs : s.length = 16) (n : Int) : (pushK k n).f = true := by
  have hl := Rk_len h
  unfold pushK; rw [if_pos (by omega)]
theorem popf {k : Kk} (h : k.f = true) : (popK k).f = true := by simp [popK, h]
theorem pushf {k : Kk} (h : k.f = true) (n : Int) : (pushK k n).f = true := by
  unfold pushK; split
  · rfl
  · exact h
theorem snoc_cases (s : List Int) : s = [] ∨ ∃ a x, s = a ++ [x] := by
  rcases List.eq_nil_or_concat s with h | ⟨a, x, h⟩
  · exact .inl h
  · exact .inr ⟨a, x, by rw [h, List.concat_eq_append]⟩
theorem stp_0 (row : Int) (g : List Gl) (arg c w : Int) (i n : Int) {k : Kk} {stk : List Int} (h : Rk k stk) : (failR stk (0) ∧ (doC row g (0) arg c w k).2.2.f = true) ∨ (¬ failR stk (0) ∧ ∃ a pp, stk = a ++ pp ∧ rstK stk (0) = a.length ∧ Rk (doC row g (0) arg c w k).2.2 (a ++ (pushedR row g c w (0) arg pp).map limS) ∧ (doC row g (0) arg c w k).1 = clsR (0) c (pp.getD 0 0) ∧ (doC row g (0) arg c w k).2.1 = waiR (0) w (pp.getD 0 0) ∧ nextC (0) arg i n k = nextR (0) arg i n (pp.getD 0 0)) := by
  have hl := Rk_le h
  have hp : popS 0 = 0 := rfl
  have hq : pushS 0 = 0 := rfl
  have hd : doC row g 0 arg c w k = (c, w, k) := rfl
  rw [hd]
  unfold failR rstK
  rw [hp, hq]
  exact .inr ⟨by omega, stk, [], by simp, by simp, by rw [show pushedR row g c w 0 arg [] = [] from rfl, List.map_nil, List.append_nil]; exact h, rfl, rfl, rfl⟩
theorem stp_17 (row : Int) (g : List Gl) (arg c w : Int) (i n : Int) {k : Kk} {stk : List Int} (h : Rk k stk) : (failR stk (17) ∧ (doC row g (17) arg c w k).2.2.f = true) ∨ (¬ failR stk (17) ∧ ∃ a pp, stk = a ++ pp ∧ rstK stk (17) = a.length ∧ Rk (doC row g (17) arg c w k).2.2 (a ++ (pushedR row g c w (17) arg pp).map limS) ∧ (doC row g (17) arg c w k).1 = clsR (17) c (pp.getD 0 0) ∧ (doC row g (17) arg c w k).2.1 = waiR (17) w (pp.getD 0 0) ∧ nextC (17) arg i n k = nextR (17) arg i n (pp.getD 0 0)) := by
  have hl := Rk_le h
  have hp : popS 17 = 0 := rfl
  have hq : pushS 17 = 0 := rfl
  have hd : doC row g 17 arg c w k = (c, w, k) := rfl
  rw [hd]
  unfold failR rstK
  rw [hp, hq]
  exact .inr ⟨by omega, stk, [], by simp, by simp, by rw [show pushedR row g c w 17 arg [] = [] from rfl, List.map_nil, List.append_nil]; exact h, rfl, rfl, rfl⟩
theorem stp_1 (row : Int) (g : List Gl) (arg c w : Int) (i n : Int) {k : Kk} {stk : List Int} (h : Rk k stk) : (failR stk (1) ∧ (doC row g (1) arg c w k).2.2.f = true) ∨ (¬ failR stk (1) ∧ ∃ a pp, stk = a ++ pp ∧ rstK stk (1) = a.length ∧ Rk (doC row g (1) arg c w k).2.2 (a ++ (pushedR row g c w (1) arg pp).map limS) ∧ (doC row g (1) arg c w k).1 = clsR (1) c (pp.getD 0 0) ∧ (doC row g (1) arg c w k).2.1 = waiR (1) w (pp.getD 0 0) ∧ nextC (1) arg i n k = nextR (1) arg i n (pp.getD 0 0)) := by
  have hl := Rk_le h
  have hp : popS 1 = 0 := rfl
  have hq : pushS 1 = 1 := rfl
  have hd : doC row g 1 arg c w k = (c, w, pushK k (arg)) := rfl
  rw [hd]
  unfold failR rstK
  rw [hp, hq]
  by_cases h16 : stk.length = 16
  · exact .inl ⟨by omega, R_push16 h h16 _⟩
  · exact .inr ⟨by omega, stk, [], by simp, by simp, by rw [show pushedR row g c w 1 arg [] = [arg] from rfl]; exact R_push h (by omega) _, rfl, rfl, rfl⟩
theorem stp_2 (row : Int) (g : List Gl) (arg c w : Int) (i n : Int) {k : Kk} {stk : List Int} (h : Rk k stk) : (failR stk (2) ∧ (doC row g (2) arg c w k).2.2.f = true) ∨ (¬ failR stk (2) ∧ ∃ a pp, stk = a ++ pp ∧ rstK stk (2) = a.length ∧ Rk (doC row g (2) arg c w k).2.2 (a ++ (pushedR row g c w (2) arg pp).map limS) ∧ (doC row g (2) arg c w k).1 = clsR (2) c (pp.getD 0 0) ∧ (doC row g (2) arg c w k).2.1 = waiR (2) w (pp.getD 0 0) ∧ nextC (2) arg i n k = nextR (2) arg i n (pp.getD 0 0)) := by
  have hl := Rk_le h
  have hp : popS 2 = 0 := rfl
  have hq : pushS 2 = 1 := rfl
  have hd : doC row g 2 arg c w k = (c, w, pushK k (row)) := rfl
  rw [hd]
  unfold failR rstK
  rw [hp, hq]
  by_cases h16 : stk.length = 16
  · exact .inl ⟨by omega, R_push16 h h16 _⟩
  · exact .inr ⟨by omega, stk, [], by simp, by simp, by rw [show pushedR row g c w 2 arg [] = [row] from rfl]; exact R_push h (by omega) _, rfl, rfl, rfl⟩
theorem stp_3 (row : Int) (g : List Gl) (arg c w : Int) (i n : Int) {k : Kk} {stk : List Int} (h : Rk k stk) : (failR stk (3) ∧ (doC row g (3) arg c w k).2.2.f = true) ∨ (¬ failR stk (3) ∧ ∃ a pp, stk = a ++ pp ∧ rstK stk (3) = a.length ∧ Rk (doC row g (3) arg c w k).2.2 (a ++ (pushedR row g c w (3) arg pp).map limS) ∧ (doC row g (3) arg c w k).1 = clsR (3) c (pp.getD 0 0) ∧ (doC row g (3) arg c w k).2.1 = waiR (3) w (pp.getD 0 0) ∧ nextC (3) arg i n k = nextR (3) arg i n (pp.getD 0 0)) := by
  have hl := Rk_le h
  have hp : popS 3 = 0 := rfl
  have hq : pushS 3 = 1 := rfl
  have hd : doC row g 3 arg c w k = (c, w, pushK k ((g.length : Int))) := rfl
  rw [hd]
  unfold failR rstK
  rw [hp, hq]
  by_cases h16 : stk.length = 16
  · exact .inl ⟨by omega, R_push16 h h16 _⟩
  · exact .inr ⟨by omega, stk, [], by simp, by simp, by rw [show pushedR row g c w 3 arg [] = [(g.length : Int)] from rfl]; exact R_push h (by omega) _, rfl, rfl, rfl⟩
theorem stp_6 (row : Int) (g : List Gl) (arg c w : Int) (i n : Int) {k : Kk} {stk : List Int} (h : Rk k stk) : (failR stk (6) ∧ (doC row g (6) arg c w k).2.2.f = true) ∨ (¬ failR stk (6) ∧ ∃ a pp, stk = a ++ pp ∧ rstK stk (6) = a.length ∧ Rk (doC row g (6) arg c w k).2.2 (a ++ (pushedR row g c w (6) arg pp).map limS) ∧ (doC row g (6) arg c w k).1 = clsR (6) c (pp.getD 0 0) ∧ (doC row g (6) arg c w k).2.1 = waiR (6) w (pp.getD 0 0) ∧ nextC (6) arg i n k = nextR (6) arg i n (pp.getD 0 0)) := by
  have hl := Rk_le h
  have hp : popS 6 = 0 := rfl
  have hq : pushS 6 = 1 := rfl
  have hd : doC row g 6 arg c w k = (c, w, pushK k (c)) := rfl
  rw [hd]
  unfold failR rstK
  rw [hp, hq]
  by_cases h16 : stk.length = 16
  · exact .inl ⟨by omega, R_push16 h h16 _⟩
  · exact .inr ⟨by omega, stk, [], by simp, by simp, by rw [show pushedR row g c w 6 arg [] = [c] from rfl]; exact R_push h (by omega) _, rfl, rfl, rfl⟩
theorem stp_7 (row : Int) (g : List Gl) (arg c w : Int) (i n : Int) {k : Kk} {stk : List Int} (h : Rk k stk) : (failR stk (7) ∧ (doC row g (7) arg c w k).2.2.f = true) ∨ (¬ failR stk (7) ∧ ∃ a pp, stk = a ++ pp ∧ rstK stk (7) = a.length ∧ Rk (doC row g (7) arg c w k).2.2 (a ++ (pushedR row g c w (7) arg pp).map limS) ∧ (doC row g (7) arg c w k).1 = clsR (7) c (pp.getD 0 0) ∧ (doC row g (7) arg c w k).2.1 = waiR (7) w (pp.getD 0 0) ∧ nextC (7) arg i n k = nextR (7) arg i n (pp.getD 0 0)) := by
  have hl := Rk_le h
  have hp : popS 7 = 0 := rfl
  have hq : pushS 7 = 1 := rfl
  have hd : doC row g 7 arg c w k = (c, w, pushK k (w)) := rfl
  rw [hd]
  unfold failR rstK
  rw [hp, hq]
  by_cases h16 : stk.length = 16
  · exact .inl ⟨by omega, R_push16 h h16 _⟩
  · exact .inr ⟨by omega, stk, [], by simp, by simp, by rw [show pushedR row g c w 7 arg [] = [w] from rfl]; exact R_push h (by omega) _, rfl, rfl, rfl⟩
theorem stp_15 (row : Int) (g : List Gl) (arg c w : Int) (i n : Int) {k : Kk} {stk : List Int} (h : Rk k stk) : (failR stk (15) ∧ (doC row g (15) arg c w k).2.2.f = true) ∨ (¬ failR stk (15) ∧ ∃ a pp, stk = a ++ pp ∧ rstK stk (15) = a.length ∧ Rk (doC row g (15) arg c w k).2.2 (a ++ (pushedR row g c w (15) arg pp).map limS) ∧ (doC row g (15) arg c w k).1 = clsR (15) c (pp.getD 0 0) ∧ (doC row g (15) arg c w k).2.1 = waiR (15) w (pp.getD 0 0) ∧ nextC (15) arg i n k = nextR (15) arg i n (pp.getD 0 0)) := by
  have hl := Rk_le h
  have hp : popS 15 = 1 := rfl
  have hq : pushS 15 = 0 := rfl
  have hd : doC row g 15 arg c w k = (c, w, popK k) := rfl
  rw [hd]
  unfold failR rstK
  rw [hp, hq]
  rcases snoc_cases stk with rfl | ⟨a, x, rfl⟩
  · exact .inl ⟨by simp, R_pop0 h⟩
  · obtain ⟨e1, e2⟩ := R_pop1 h
    exact .inr ⟨by simp only [List.length_append, List.length_singleton] at *; omega, a, [x], rfl, by simp, by rw [show pushedR row g c w 15 arg [x] = [] from rfl, List.map_nil, List.append_nil]; exact e2, rfl, rfl, rfl⟩
theorem stp_18 (row : Int) (g : List Gl) (arg c w : Int) (i n : Int) {k : Kk} {stk : List Int} (h : Rk k stk) : (failR stk (18) ∧ (doC row g (18) arg c w k).2.2.f = true) ∨ (¬ failR stk (18) ∧ ∃ a pp, stk = a ++ pp ∧ rstK stk (18) = a.length ∧ Rk (doC row g (18) arg c w k).2.2 (a ++ (pushedR row g c w (18) arg pp).map limS) ∧ (doC row g (18) arg c w k).1 = clsR (18) c (pp.getD 0 0) ∧ (doC row g (18) arg c w k).2.1 = waiR (18) w (pp.getD 0 0) ∧ nextC (18) arg i n k = nextR (18) arg i n (pp.getD 0 0)) := by
  have hl := Rk_le h
  have hp : popS 18 = 1 := rfl
  have hq : pushS 18 = 0 := rfl
  have hd : doC row g 18 arg c w k = (c, w, popK k) := rfl
  rw [hd]
  unfold failR rstK
  rw [hp, hq]
  rcases snoc_cases stk with rfl | ⟨a, x, rfl⟩
  · exact .inl ⟨by simp, R_pop0 h⟩
  · obtain ⟨e1, e2⟩ := R_pop1 h
    exact .inr ⟨by simp only [List.length_append, List.length_singleton] at *; omega, a, [x], rfl, by simp, by rw [show pushedR row g c w 18 arg [x] = [] from rfl, List.map_nil, List.append_nil]; exact e2, rfl, rfl, by unfold nextC nextR; rw [e1]; rfl⟩
theorem stp_19 (row : Int) (g : List Gl) (arg c w : Int) (i n : Int) {k : Kk} {stk : List Int} (h : Rk k stk) : (failR stk (19) ∧ (doC row g (19) arg c w k).2.2.f = true) ∨ (¬ failR stk (19) ∧ ∃ a pp, stk = a ++ pp ∧ rstK stk (19) = a.length ∧ Rk (doC row g (19) arg c w k).2.2 (a ++ (pushedR row g c w (19) arg pp).map limS) ∧ (doC row g (19) arg c w k).1 = clsR (19) c (pp.getD 0 0) ∧ (doC row g (19) arg c w k).2.1 = waiR (19) w (pp.getD 0 0) ∧ nextC (19) arg i n k = nextR (19) arg i n (pp.getD 0 0)) := by
  have hl := Rk_le h
  have hp : popS 19 = 1 := rfl
  have hq : pushS 19 = 0 := rfl
  have hd : doC row g 19 arg c w k = (if 1 ≤ popV k ∧ popV k ≤ 3 then popV k else c, w, popK k) := rfl
  rw [hd]
  unfold failR rstK
  rw [hp, hq]
  rcases snoc_cases stk with rfl | ⟨a, x, rfl⟩
  · exact .inl ⟨by simp, R_pop0 h⟩
  · obtain ⟨e1, e2⟩ := R_pop1 h
    exact .inr ⟨by simp only [List.length_append, List.length_singleton] at *; omega, a, [x], rfl, by simp, by rw [show pushedR row g c w 19 arg [x] = [] from rfl, List.map_nil, List.append_nil]; exact e2, by simp only [clsR, e1]; simp, rfl, rfl⟩
theorem stp_20 (row : Int) (g : List Gl) (arg c w : Int) (i n : Int) {k : Kk} {stk : List Int} (h : Rk k stk) : (failR stk (20) ∧ (doC row g (20) arg c w k).2.2.f = true) ∨ (¬ failR stk (20) ∧ ∃ a pp, stk = a ++ pp ∧ rstK stk (20) = a.length ∧ Rk (doC row g (20) arg c w k).2.2 (a ++ (pushedR row g c w (20) arg pp).map limS) ∧ (doC row g (20) arg c w k).1 = clsR (20) c (pp.getD 0 0) ∧ (doC row g (20) arg c w k).2.1 = waiR (20) w (pp.getD 0 0) ∧ nextC (20) arg i n k = nextR (20) arg i n (pp.getD 0 0)) := by
  have hl := Rk_le h
  have hp : popS 20 = 1 := rfl
  have hq : pushS 20 = 0 := rfl
  have hd : doC row g 20 arg c w k = (c, if 0 ≤ popV k ∧ popV k ≤ 60000 then popV k else w, popK k) := rfl
  rw [hd]
  unfold failR rstK
  rw [hp, hq]
  rcases snoc_cases stk with rfl | ⟨a, x, rfl⟩
  · exact .inl ⟨by simp, R_pop0 h⟩
  · obtain ⟨e1, e2⟩ := R_pop1 h
    exact .inr ⟨by simp only [List.length_append, List.length_singleton] at *; omega, a, [x], rfl, by simp, by rw [show pushedR row g c w 20 arg [x] = [] from rfl, List.map_nil, List.append_nil]; exact e2, rfl, by simp only [waiR, e1]; simp, rfl⟩
theorem stp_4 (row : Int) (g : List Gl) (arg c w : Int) (i n : Int) {k : Kk} {stk : List Int} (h : Rk k stk) : (failR stk (4) ∧ (doC row g (4) arg c w k).2.2.f = true) ∨ (¬ failR stk (4) ∧ ∃ a pp, stk = a ++ pp ∧ rstK stk (4) = a.length ∧ Rk (doC row g (4) arg c w k).2.2 (a ++ (pushedR row g c w (4) arg pp).map limS) ∧ (doC row g (4) arg c w k).1 = clsR (4) c (pp.getD 0 0) ∧ (doC row g (4) arg c w k).2.1 = waiR (4) w (pp.getD 0 0) ∧ nextC (4) arg i n k = nextR (4) arg i n (pp.getD 0 0)) := by
  have hl := Rk_le h
  have hp : popS 4 = 1 := rfl
  have hq : pushS 4 = 1 := rfl
  have hd : doC row g 4 arg c w k = (c, w, pushK (popK k) (charS g (popV k))) := rfl
  rw [hd]
  unfold failR rstK
  rw [hp, hq]
  rcases snoc_cases stk with rfl | ⟨a, x, rfl⟩
  · exact .inl ⟨by simp, pushf (R_pop0 h) _⟩
  · obtain ⟨e1, e2⟩ := R_pop1 h
    have hl2 : a.length < 16 := by simp only [List.length_append, List.length_singleton] at hl; omega
    exact .inr ⟨by simp only [List.length_append, List.length_singleton] at *; omega, a, [x], rfl, by simp, by rw [show pushedR row g c w 4 arg [x] = [charS g (x)] from rfl, e1]; exact R_push e2 hl2 _, rfl, rfl, rfl⟩
theorem stp_5 (row : Int) (g : List Gl) (arg c w : Int) (i n : Int) {k : Kk} {stk : List Int} (h : Rk k stk) : (failR stk (5) ∧ (doC row g (5) arg c w k).2.2.f = true) ∨ (¬ failR stk (5) ∧ ∃ a pp, stk = a ++ pp ∧ rstK stk (5) = a.length ∧ Rk (doC row g (5) arg c w k).2.2 (a ++ (pushedR row g c w (5) arg pp).map limS) ∧ (doC row g (5) arg c w k).1 = clsR (5) c (pp.getD 0 0) ∧ (doC row g (5) arg c w k).2.1 = waiR (5) w (pp.getD 0 0) ∧ nextC (5) arg i n k = nextR (5) arg i n (pp.getD 0 0)) := by
  have hl := Rk_le h
  have hp : popS 5 = 1 := rfl
  have hq : pushS 5 = 1 := rfl
  have hd : doC row g 5 arg c w k = (c, w, pushK (popK k) (styleV g (popV k))) := rfl
  rw [hd]
  unfold failR rstK
  rw [hp, hq]
  rcases snoc_cases stk with rfl | ⟨a, x, rfl⟩
  · exact .inl ⟨by simp, pushf (R_pop0 h) _⟩
  · obtain ⟨e1, e2⟩ := R_pop1 h
    have hl2 : a.length < 16 := by simp only [List.length_append, List.length_singleton] at hl; omega
    exact .inr ⟨by simp only [List.length_append, List.length_singleton] at *; omega, a, [x], rfl, by simp, by rw [show pushedR row g c w 5 arg [x] = [styleV g (x)] from rfl, e1]; exact R_push e2 hl2 _, rfl, rfl, rfl⟩
theorem stp_13 (row : Int) (g : List Gl) (arg c w : Int) (i n : Int) {k : Kk} {stk : List Int} (h : Rk k stk) : (failR stk (13) ∧ (doC row g (13) arg c w k).2.2.f = true) ∨ (¬ failR stk (13) ∧ ∃ a pp, stk = a ++ pp ∧ rstK stk (13) = a.length ∧ Rk (doC row g (13) arg c w k).2.2 (a ++ (pushedR row g c w (13) arg pp).map limS) ∧ (doC row g (13) arg c w k).1 = clsR (13) c (pp.getD 0 0) ∧ (doC row g (13) arg c w k).2.1 = waiR (13) w (pp.getD 0 0) ∧ nextC (13) arg i n k = nextR (13) arg i n (pp.getD 0 0)) := by
  have hl := Rk_le h
  have hp : popS 13 = 1 := rfl
  have hq : pushS 13 = 1 := rfl
  have hd : doC row g 13 arg c w k = (c, w, pushK (popK k) (if popV k = 0 then 1 else 0)) := rfl
  rw [hd]
  unfold failR rstK
  rw [hp, hq]
  rcases snoc_cases stk with rfl | ⟨a, x, rfl⟩
  · exact .inl ⟨by simp, pushf (R_pop0 h) _⟩
  · obtain ⟨e1, e2⟩ := R_pop1 h
    have hl2 : a.length < 16 := by simp only [List.length_append, List.length_singleton] at hl; omega
    exact .inr ⟨by simp only [List.length_append, List.length_singleton] at *; omega, a, [x], rfl, by simp, by rw [show pushedR row g c w 13 arg [x] = [if x = 0 then 1 else 0] from rfl, e1]; exact R_push e2 hl2 _, rfl, rfl, rfl⟩
theorem stp_8 (row : Int) (g : List Gl) (arg c w : Int) (i n : Int) {k : Kk} {stk : List Int} (h : Rk k stk) : (failR stk (8) ∧ (doC row g (8) arg c w k).2.2.f = true) ∨ (¬ failR stk (8) ∧ ∃ a pp, stk = a ++ pp ∧ rstK stk (8) = a.length ∧ Rk (doC row g (8) arg c w k).2.2 (a ++ (pushedR row g c w (8) arg pp).map limS) ∧ (doC row g (8) arg c w k).1 = clsR (8) c (pp.getD 0 0) ∧ (doC row g (8) arg c w k).2.1 = waiR (8) w (pp.getD 0 0) ∧ nextC (8) arg i n k = nextR (8) arg i n (pp.getD 0 0)) := by
  have hl := Rk_le h
  have hp : popS 8 = 2 := rfl
  have hq : pushS 8 = 1 := rfl
  have hd : doC row g 8 arg c w k = (c, w, pushK (popK (popK k)) (popV (popK k) + popV k)) := rfl
  rw [hd]
  unfold failR rstK
  rw [hp, hq]
  rcases snoc_cases stk with rfl | ⟨a, x, rfl⟩
  · exact .inl ⟨by simp, pushf (popf (R_pop0 h)) _⟩
  · obtain ⟨e1, e2⟩ := R_pop1 h
    rcases snoc_cases a with rfl | ⟨a, y, rfl⟩
    · exact .inl ⟨by simp, pushf (R_pop0 e2) _⟩
    · obtain ⟨e3, e4⟩ := R_pop1 e2
      have hl2 : a.length < 16 := by simp only [List.length_append, List.length_singleton] at hl; omega
      exact .inr ⟨by simp only [List.length_append, List.length_singleton] at *; omega, a, [y, x], by simp, by simp, by rw [show pushedR row g c w 8 arg [y, x] = [y + x] from rfl, e1, e3]; exact R_push e4 hl2 _, rfl, rfl, rfl⟩
theorem stp_9 (row : Int) (g : List Gl) (arg c w : Int) (i n : Int) {k : Kk} {stk : List Int} (h : Rk k stk) : (failR stk (9) ∧ (doC row g (9) arg c w k).2.2.f = true) ∨ (¬ failR stk (9) ∧ ∃ a pp, stk = a ++ pp ∧ rstK stk (9) = a.length ∧ Rk (doC row g (9) arg c w k).2.2 (a ++ (pushedR row g c w (9) arg pp).map limS) ∧ (doC row g (9) arg c w k).1 = clsR (9) c (pp.getD 0 0) ∧ (doC row g (9) arg c w k).2.1 = waiR (9) w (pp.getD 0 0) ∧ nextC (9) arg i n k = nextR (9) arg i n (pp.getD 0 0)) := by
  have hl := Rk_le h
  have hp : popS 9 = 2 := rfl
  have hq : pushS 9 = 1 := rfl
  have hd : doC row g 9 arg c w k = (c, w, pushK (popK (popK k)) (popV (popK k) - popV k)) := rfl
  rw [hd]
  unfold failR rstK
  rw [hp, hq]
  rcases snoc_cases stk with rfl | ⟨a, x, rfl⟩
  · exact .inl ⟨by simp, pushf (popf (R_pop0 h)) _⟩
  · obtain ⟨e1, e2⟩ := R_pop1 h
    rcases snoc_cases a with rfl | ⟨a, y, rfl⟩
    · exact .inl ⟨by simp, pushf (R_pop0 e2) _⟩
    · obtain ⟨e3, e4⟩ := R_pop1 e2
      have hl2 : a.length < 16 := by simp only [List.length_append, List.length_singleton] at hl; omega
      exact .inr ⟨by simp only [List.length_append, List.length_singleton] at *; omega, a, [y, x], by simp, by simp, by rw [show pushedR row g c w 9 arg [y, x] = [y - x] from rfl, e1, e3]; exact R_push e4 hl2 _, rfl, rfl, rfl⟩
theorem stp_10 (row : Int) (g : List Gl) (arg c w : Int) (i n : Int) {k : Kk} {stk : List Int} (h : Rk k stk) : (failR stk (10) ∧ (doC row g (10) arg c w k).2.2.f = true) ∨ (¬ failR stk (10) ∧ ∃ a pp, stk = a ++ pp ∧ rstK stk (10) = a.length ∧ Rk (doC row g (10) arg c w k).2.2 (a ++ (pushedR row g c w (10) arg pp).map limS) ∧ (doC row g (10) arg c w k).1 = clsR (10) c (pp.getD 0 0) ∧ (doC row g (10) arg c w k).2.1 = waiR (10) w (pp.getD 0 0) ∧ nextC (10) arg i n k = nextR (10) arg i n (pp.getD 0 0)) := by
  have hl := Rk_le h
  have hp : popS 10 = 2 := rfl
  have hq : pushS 10 = 1 := rfl
  have hd : doC row g 10 arg c w k = (c, w, pushK (popK (popK k)) (popV (popK k) * popV k)) := rfl
  rw [hd]
  unfold failR rstK
  rw [hp, hq]
  rcases snoc_cases stk with rfl | ⟨a, x, rfl⟩
  · exact .inl ⟨by simp, pushf (popf (R_pop0 h)) _⟩
  · obtain ⟨e1, e2⟩ := R_pop1 h
    rcases snoc_cases a with rfl | ⟨a, y, rfl⟩
    · exact .inl ⟨by simp, pushf (R_pop0 e2) _⟩
    · obtain ⟨e3, e4⟩ := R_pop1 e2
      have hl2 : a.length < 16 := by simp only [List.length_append, List.length_singleton] at hl; omega
      exact .inr ⟨by simp only [List.length_append, List.length_singleton] at *; omega, a, [y, x], by simp, by simp, by rw [show pushedR row g c w 10 arg [y, x] = [y * x] from rfl, e1, e3]; exact R_push e4 hl2 _, rfl, rfl, rfl⟩
theorem stp_11 (row : Int) (g : List Gl) (arg c w : Int) (i n : Int) {k : Kk} {stk : List Int} (h : Rk k stk) : (failR stk (11) ∧ (doC row g (11) arg c w k).2.2.f = true) ∨ (¬ failR stk (11) ∧ ∃ a pp, stk = a ++ pp ∧ rstK stk (11) = a.length ∧ Rk (doC row g (11) arg c w k).2.2 (a ++ (pushedR row g c w (11) arg pp).map limS) ∧ (doC row g (11) arg c w k).1 = clsR (11) c (pp.getD 0 0) ∧ (doC row g (11) arg c w k).2.1 = waiR (11) w (pp.getD 0 0) ∧ nextC (11) arg i n k = nextR (11) arg i n (pp.getD 0 0)) := by
  have hl := Rk_le h
  have hp : popS 11 = 2 := rfl
  have hq : pushS 11 = 1 := rfl
  have hd : doC row g 11 arg c w k = (c, w, pushK (popK (popK k)) (if popV (popK k) = popV k then 1 else 0)) := rfl
  rw [hd]
  unfold failR rstK
  rw [hp, hq]
  rcases snoc_cases stk with rfl | ⟨a, x, rfl⟩
  · exact .inl ⟨by simp, pushf (popf (R_pop0 h)) _⟩
  · obtain ⟨e1, e2⟩ := R_pop1 h
    rcases snoc_cases a with rfl | ⟨a, y, rfl⟩
    · exact .inl ⟨by simp, pushf (R_pop0 e2) _⟩
    · obtain ⟨e3, e4⟩ := R_pop1 e2
      have hl2 : a.length < 16 := by simp only [List.length_append, List.length_singleton] at hl; omega
      exact .inr ⟨by simp only [List.length_append, List.length_singleton] at *; omega, a, [y, x], by simp, by simp, by rw [show pushedR row g c w 11 arg [y, x] = [if y = x then 1 else 0] from rfl, e1, e3]; exact R_push e4 hl2 _, rfl, rfl, rfl⟩
theorem stp_12 (row : Int) (g : List Gl) (arg c w : Int) (i n : Int) {k : Kk} {stk : List Int} (h : Rk k stk) : (failR stk (12) ∧ (doC row g (12) arg c w k).2.2.f = true) ∨ (¬ failR stk (12) ∧ ∃ a pp, stk = a ++ pp ∧ rstK stk (12) = a.length ∧ Rk (doC row g (12) arg c w k).2.2 (a ++ (pushedR row g c w (12) arg pp).map limS) ∧ (doC row g (12) arg c w k).1 = clsR (12) c (pp.getD 0 0) ∧ (doC row g (12) arg c w k).2.1 = waiR (12) w (pp.getD 0 0) ∧ nextC (12) arg i n k = nextR (12) arg i n (pp.getD 0 0)) := by
  have hl := Rk_le h
  have hp : popS 12 = 2 := rfl
  have hq : pushS 12 = 1 := rfl
  have hd : doC row g 12 arg c w k = (c, w, pushK (popK (popK k)) (if popV (popK k) < popV k then 1 else 0)) := rfl
  rw [hd]
  unfold failR rstK
  rw [hp, hq]
  rcases snoc_cases stk with rfl | ⟨a, x, rfl⟩
  · exact .inl ⟨by simp, pushf (popf (R_pop0 h)) _⟩
  · obtain ⟨e1, e2⟩ := R_pop1 h
    rcases snoc_cases a with rfl | ⟨a, y, rfl⟩
    · exact .inl ⟨by simp, pushf (R_pop0 e2) _⟩
    · obtain ⟨e3, e4⟩ := R_pop1 e2
      have hl2 : a.length < 16 := by simp only [List.length_append, List.length_singleton] at hl; omega
      exact .inr ⟨by simp only [List.length_append, List.length_singleton] at *; omega, a, [y, x], by simp, by simp, by rw [show pushedR row g c w 12 arg [y, x] = [if y < x then 1 else 0] from rfl, e1, e3]; exact R_push e4 hl2 _, rfl, rfl, rfl⟩
theorem stp_14 (row : Int) (g : List Gl) (arg c w : Int) (i n : Int) {k : Kk} {stk : List Int} (h : Rk k stk) : (failR stk (14) ∧ (doC row g (14) arg c w k).2.2.f = true) ∨ (¬ failR stk (14) ∧ ∃ a pp, stk = a ++ pp ∧ rstK stk (14) = a.length ∧ Rk (doC row g (14) arg c w k).2.2 (a ++ (pushedR row g c w (14) arg pp).map limS) ∧ (doC row g (14) arg c w k).1 = clsR (14) c (pp.getD 0 0) ∧ (doC row g (14) arg c w k).2.1 = waiR (14) w (pp.getD 0 0) ∧ nextC (14) arg i n k = nextR (14) arg i n (pp.getD 0 0)) := by
  have hl := Rk_le h
  have hp : popS 14 = 1 := rfl
  have hq : pushS 14 = 2 := rfl
  have hd : doC row g 14 arg c w k = (c, w, pushK (pushK (popK k) (popV k)) (popV k)) := rfl
  rw [hd]
  unfold failR rstK
  rw [hp, hq]
  rcases snoc_cases stk with rfl | ⟨a, x, rfl⟩
  · exact .inl ⟨by simp, pushf (pushf (R_pop0 h) _) _⟩
  · obtain ⟨e1, e2⟩ := R_pop1 h
    have hl2 : a.length < 16 := by simp only [List.length_append, List.length_singleton] at hl; omega
    have e5 := R_push e2 hl2 (popV k)
    by_cases h15 : a.length = 15
    · exact .inl ⟨by simp only [List.length_append, List.length_singleton] at *; omega, R_push16 e5 (by simp only [List.length_append, List.length_singleton]; omega) _⟩
    · exact .inr ⟨by simp only [List.length_append, List.length_singleton] at *; omega, a, [x], rfl, by simp, by
        rw [show pushedR row g c w 14 arg [x] = [x, x] from rfl]
        have e6 := R_push e5 (by simp only [List.length_append, List.length_singleton]; omega) (popV k)
        rw [e1] at e6 ⊢
        simpa using e6, rfl, rfl, rfl⟩
theorem stp_16 (row : Int) (g : List Gl) (arg c w : Int) (i n : Int) {k : Kk} {stk : List Int} (h : Rk k stk) : (failR stk (16) ∧ (doC row g (16) arg c w k).2.2.f = true) ∨ (¬ failR stk (16) ∧ ∃ a pp, stk = a ++ pp ∧ rstK stk (16) = a.length ∧ Rk (doC row g (16) arg c w k).2.2 (a ++ (pushedR row g c w (16) arg pp).map limS) ∧ (doC row g (16) arg c w k).1 = clsR (16) c (pp.getD 0 0) ∧ (doC row g (16) arg c w k).2.1 = waiR (16) w (pp.getD 0 0) ∧ nextC (16) arg i n k = nextR (16) arg i n (pp.getD 0 0)) := by
  have hl := Rk_le h
  have hp : popS 16 = 2 := rfl
  have hq : pushS 16 = 2 := rfl
  have hd : doC row g 16 arg c w k = (c, w, pushK (pushK (popK (popK k)) (popV k)) (popV (popK k))) := rfl
  rw [hd]
  unfold failR rstK
  rw [hp, hq]
  rcases snoc_cases stk with rfl | ⟨a, x, rfl⟩
  · exact .inl ⟨by simp, pushf (pushf (popf (R_pop0 h)) _) _⟩
  · obtain ⟨e1, e2⟩ := R_pop1 h
    rcases snoc_cases a with rfl | ⟨a, y, rfl⟩
    · exact .inl ⟨by simp, pushf (pushf (R_pop0 e2) _) _⟩
    · obtain ⟨e3, e4⟩ := R_pop1 e2
      have hl2 : a.length < 15 := by simp only [List.length_append, List.length_singleton] at hl; omega
      have e5 := R_push e4 (by omega) (popV k)
      have e6 := R_push e5 (by simp only [List.length_append, List.length_singleton]; omega) (popV (popK k))
      exact .inr ⟨by simp only [List.length_append, List.length_singleton] at *; omega, a, [y, x], by simp, by simp, by
        rw [show pushedR row g c w 16 arg [y, x] = [x, y] from rfl]
        rw [e1, e3] at e6 ⊢
        simpa using e6, rfl, rfl, rfl⟩
theorem stpM (op : Int) (h0 : 0 ≤ op) (h1 : op ≤ 20) (row : Int) (g : List Gl) (arg c w : Int) (i n : Int) {k : Kk} {stk : List Int} (h : Rk k stk) : (failR stk (op) ∧ (doC row g (op) arg c w k).2.2.f = true) ∨ (¬ failR stk (op) ∧ ∃ a pp, stk = a ++ pp ∧ rstK stk (op) = a.length ∧ Rk (doC row g (op) arg c w k).2.2 (a ++ (pushedR row g c w (op) arg pp).map limS) ∧ (doC row g (op) arg c w k).1 = clsR (op) c (pp.getD 0 0) ∧ (doC row g (op) arg c w k).2.1 = waiR (op) w (pp.getD 0 0) ∧ nextC (op) arg i n k = nextR (op) arg i n (pp.getD 0 0)) := by
  obtain ⟨m, rfl⟩ := Int.eq_ofNat_of_zero_le h0
  have : m = 0 ∨ m = 1 ∨ m = 2 ∨ m = 3 ∨ m = 4 ∨ m = 5 ∨ m = 6 ∨ m = 7 ∨ m = 8 ∨ m = 9 ∨ m = 10 ∨ m = 11 ∨ m = 12 ∨ m = 13 ∨ m = 14 ∨ m = 15 ∨ m = 16 ∨ m = 17 ∨ m = 18 ∨ m = 19 ∨ m = 20 := by omega
  rcases this with rfl | rfl | rfl | rfl | rfl | rfl | rfl | rfl | rfl | rfl | rfl | rfl | rfl | rfl | rfl | rfl | rfl | rfl | rfl | rfl | rfl
  · exact stp_0 row g arg c w i n h
  · exact stp_1 row g arg c w i n h
  · exact stp_2 row g arg c w i n h
  · exact stp_3 row g arg c w i n h
  · exact stp_4 row g arg c w i n h
  · exact stp_5 row g arg c w i n h
  · exact stp_6 row g arg c w i n h
  · exact stp_7 row g arg c w i n h
  · exact stp_8 row g arg c w i n h
  · exact stp_9 row g arg c w i n h
  · exact stp_10 row g arg c w i n h
  · exact stp_11 row g arg c w i n h
  · exact stp_12 row g arg c w i n h
  · exact stp_13 row g arg c w i n h
  · exact stp_14 row g arg c w i n h
  · exact stp_15 row g arg c w i n h
  · exact stp_16 row g arg c w i n h
  · exact stp_17 row g arg c w i n h
  · exact stp_18 row g arg c w i n h
  · exact stp_19 row g arg c w i n h
  · exact stp_20 row g arg c w i n h
theorem runCR_eq {l : List Ins} (hl : checkI l = 0) (row : Int) (g : List Gl) (c0 w0 : Int) : ∀ (n i s : Nat) (c w : Int) (k : Kk) (stk : List Int), Rk k stk → runC l row g c0 w0 n i s c w k = runR l row g c0 w0 n i s c w stk := by
  intro n
  induction n with
  | zero =>
    intro i s c w k stk h
    cases e : l[i]? with
    | none => rw [runC_none e, runR_none e]
    | some p => rw [runC_fuel e, runR_fuel e]
  | succ n ih =>
    intro i s c w k stk h
    cases e : l[i]? with
    | none => rw [runC_none e, runR_none e]
    | some p =>
      obtain ⟨a1, a2, _⟩ := chk_at hl e
      rcases stpM p.1 a1 a2 row g p.2 c w i l.length h with ⟨f1, f2⟩ | ⟨f1, a, pp, rfl, f3, f4, f5, f6, f7⟩
      · rw [runC_fail e f2, runR_fail e f1]
      · rw [runC_step e f4.2.1, runR_step e f1 f3, f5, f6, f7]
        exact ih _ _ _ _ _ _ f4
theorem Rk_0 : Rk k0 [] := ⟨k0_ok, rfl, rfl⟩
theorem run_eqS (l : List Ins) (row : Int) (g : List Gl) (c w r fuel : Int) : runS l row g c w r fuel = runT l row g c w r fuel := by
  unfold runS runT
  split
  · rename_i h
    rw [runCR_eq h row g c w _ 0 0 c w k0 [] Rk_0]
  · rfl
theorem dec_eqS (l : List Ins) (row : Int) (g : List Gl) (c w r : Int) : decS l row g c w r = decT l row g c w r := by
  unfold decS decT
  rw [run_eqS]
end Go.VI

namespace Go.VI
open Go.Proofs
set_option maxRecDepth 100000
set_option linter.unusedSimpArgs false
set_option linter.unusedVariables false
set_option maxHeartbeats 4000000
def longG (g : List Gl) : Bool := g.any fun x => decide (40 < (x.1.length : Int))
def greatB (n : Nat) (g : List Gl) : Bool := decide (520 < (n : Int)) || decide (100 < (g.length : Int)) || longG g
def grP (b : Bool) (fr : Fr) (ex : Ex) : Prop := (b = false ∧ ex = .exit 0) ∨ (b = true ∧ ex = .ret ∧ get 4 fr = .i (.v (.int .i64 1)))
theorem l11 (g : List Gl) (hg : g.length ≤ 100) (k : Nat) (hk : k ≤ g.length) :
    ∃ fr ex H', rl E 0 11 (loopAt Tryd.f11 0) [(1, .i (.sl 3 (rowsG g) false)), (5, .i (.v (.int .i64 k)))] [] = some (ex, fr, H') ∧ grP (longG (g.drop k)) fr ex := by
  by_cases hlt : k < g.length
  · have hrow := rowsG_at hlt
    rw [List.drop_eq_getElem_cons hlt]
    obtain ⟨fr, ex, H', e, hh⟩ := l11 g hg (k + 1) hlt
    generalize g[k] = a at *
    obtain ⟨t, cc, s⟩ := a
    have hq : longG ((t, cc, s) :: g.drop (k + 1)) = (decide (40 < (t.length : Int)) || longG (g.drop (k + 1))) := by simp only [longG, List.any_cons]
    rw [hq]
    simp only at hrow
    rw [rl_step (fn := Tryd.f11) (k := 0) rfl]
    by_cases h4 : 40 < (t.length : Int)
    · rw [decide_eq_true h4, Bool.true_or]
      clear e hh
      simp (disch := first | omega | (simp only [vlen, rowsG_len]; omega)) only [vall, List.take_of_length_le, gB, gcW, gcR, posIn, renA, renL, Chunk.ren, Chunk.refs, evOpD, touchD, stepC, isFresh, nFresh, freshOf, mkR, hole, evL, evH, opd, get, putD, ofVal, cellOf, loadE, behind, lenE, idxAddrE, idxE, lookE, lookM, addPtr, intE, strE, unE, convE, AV.int, AV.bool, AV.str, ivs, take, frameOf, firstRegion, refsA, refsL, one, cellsA, floatOk, apartT, List.map, if_true, if_false, E_P, E_glob0, E_glob1, reduceCtorEq, beq_self_eq_true, ↓reduceIte, Nat.reduceEqDiff, cond_true, cond_false, Nat.reduceAdd, Nat.reduceSub, Nat.reduceMul, Nat.reduceLT, Nat.reduceLeDiff, Int.reduceToNat, Int.reduceLT, Int.reduceLE, Option.getD, Int.reduceMul, Int.reduceAdd, List.drop, List.take, Nat.reduceBEq, List.isEmpty, Int.reduceEq, Int.reduceNe, Int.reduceNeg, Int.reduceGT, Int.reduceGE, beq_true, beq_false, UInt8.reduceToNat, eqE, eq_self, foldE, maxE, minE, fillA, over, chop, List.replicate, leavesOk, leafOk, cellsEq, cellEq, E_byref, en11, bs22, bs23, hrow, rowsG_len, h4, show ∀ B fr H, execT E B 11 (Code.loop _) fr H = rlG E B 11 (loopAt Tryd.f11 0) (gcn B (norm [1, 5] fr) H) from fun B fr H => rl_intro rfl mt11_4 mb11_4 zf11_4 hd11_4 fr H]
      exact ⟨_, _, _, rfl, .inr ⟨rfl, rfl, rfl⟩⟩
    · rw [decide_eq_false h4, Bool.false_or]
      refine ⟨fr, ex, H', Eq.trans ?_ e, hh⟩
      clear e hh
      simp (disch := first | omega | (simp only [vlen, rowsG_len]; omega)) only [vall, List.take_of_length_le, gB, gcW, gcR, posIn, renA, renL, Chunk.ren, Chunk.refs, evOpD, touchD, stepC, isFresh, nFresh, freshOf, mkR, hole, evL, evH, opd, get, putD, ofVal, cellOf, loadE, behind, lenE, idxAddrE, idxE, lookE, lookM, addPtr, intE, strE, unE, convE, AV.int, AV.bool, AV.str, ivs, take, frameOf, firstRegion, refsA, refsL, one, cellsA, floatOk, apartT, List.map, if_true, if_false, E_P, E_glob0, E_glob1, reduceCtorEq, beq_self_eq_true, ↓reduceIte, Nat.reduceEqDiff, cond_true, cond_false, Nat.reduceAdd, Nat.reduceSub, Nat.reduceMul, Nat.reduceLT, Nat.reduceLeDiff, Int.reduceToNat, Int.reduceLT, Int.reduceLE, Option.getD, Int.reduceMul, Int.reduceAdd, List.drop, List.take, Nat.reduceBEq, List.isEmpty, Int.reduceEq, Int.reduceNe, Int.reduceNeg, Int.reduceGT, Int.reduceGE, beq_true, beq_false, UInt8.reduceToNat, eqE, eq_self, foldE, maxE, minE, fillA, over, chop, List.replicate, leavesOk, leafOk, cellsEq, cellEq, E_byref, en11, bs22, bs23, hrow, rowsG_len, h4, show ∀ B fr H, execT E B 11 (Code.loop _) fr H = rlG E B 11 (loopAt Tryd.f11 0) (gcn B (norm [1, 5] fr) H) from fun B fr H => rl_intro rfl mt11_4 mb11_4 zf11_4 hd11_4 fr H]
  · obtain rfl : k = g.length := by omega
    rw [List.drop_length]
    rw [rl_step (fn := Tryd.f11) (k := 0) rfl]
    simp (disch := first | omega | (simp only [vlen, rowsG_len]; omega)) only [vall, List.take_of_length_le, gB, gcW, gcR, posIn, renA, renL, Chunk.ren, Chunk.refs, evOpD, touchD, stepC, isFresh, nFresh, freshOf, mkR, hole, evL, evH, opd, get, putD, ofVal, cellOf, loadE, behind, lenE, idxAddrE, idxE, lookE, lookM, addPtr, intE, strE, unE, convE, AV.int, AV.bool, AV.str, ivs, take, frameOf, firstRegion, refsA, refsL, one, cellsA, floatOk, apartT, List.map, if_true, if_false, E_P, E_glob0, E_glob1, reduceCtorEq, beq_self_eq_true, ↓reduceIte, Nat.reduceEqDiff, cond_true, cond_false, Nat.reduceAdd, Nat.reduceSub, Nat.reduceMul, Nat.reduceLT, Nat.reduceLeDiff, Int.reduceToNat, Int.reduceLT, Int.reduceLE, Option.getD, Int.reduceMul, Int.reduceAdd, List.drop, List.take, Nat.reduceBEq, List.isEmpty, Int.reduceEq, Int.reduceNe, Int.reduceNeg, Int.reduceGT, Int.reduceGE, beq_true, beq_false, UInt8.reduceToNat, eqE, eq_self, foldE, maxE, minE, fillA, over, chop, List.replicate, leavesOk, leafOk, cellsEq, cellEq, E_byref, en11, bs22, bs23, rowsG_len, show ∀ B fr H, execT E B 11 (Code.loop _) fr H = rlG E B 11 (loopAt Tryd.f11 0) (gcn B (norm [1, 5] fr) H) from fun B fr H => rl_intro rfl mt11_4 mb11_4 zf11_4 hd11_4 fr H]
    exact ⟨_, _, _, rfl, .inl ⟨rfl, rfl⟩⟩
termination_by g.length - k
theorem c11 (l : List Ins) (g : List Gl) (hl : (l.length : Int) < 9223372036854775808) (hg : (g.length : Int) < 9223372036854775808) : ∃ L, callT E 11 [.i (.sl 2 (rowsI l) false), .i (.sl 3 (rowsG g) false)] [] = some (.i (.v (.int .i64 (if greatB l.length g = true then 1 else 0))), L) := by
  unfold greatB
  by_cases h1 : 520 < (l.length : Int)
  · rw [decide_eq_true h1, Bool.true_or, Bool.true_or, if_pos rfl]
    rw [callT_eq Tryd.func11 rfl fok11 (by simp [Tryd.ntmps11])]
    simp (disch := first | omega | (simp only [vlen, rowsI_len, rowsG_len]; omega)) only [vall, List.take_of_length_le, gB, gcW, gcR, posIn, renA, renL, Chunk.ren, Chunk.refs, evOpD, touchD, stepC, isFresh, nFresh, freshOf, mkR, hole, evL, evH, opd, get, putD, ofVal, cellOf, loadE, behind, lenE, idxAddrE, idxE, lookE, lookM, addPtr, intE, strE, unE, convE, AV.int, AV.bool, AV.str, ivs, take, frameOf, firstRegion, refsA, refsL, one, cellsA, floatOk, apartT, List.map, if_true, if_false, E_P, E_glob0, E_glob1, reduceCtorEq, beq_self_eq_true, ↓reduceIte, Nat.reduceEqDiff, cond_true, cond_false, Nat.reduceAdd, Nat.reduceSub, Nat.reduceMul, Nat.reduceLT, Nat.reduceLeDiff, Int.reduceToNat, Int.reduceLT, Int.reduceLE, Option.getD, Int.reduceMul, Int.reduceAdd, List.drop, List.take, Nat.reduceBEq, List.isEmpty, Int.reduceEq, Int.reduceNe, Int.reduceNeg, Int.reduceGT, Int.reduceGE, beq_true, beq_false, UInt8.reduceToNat, eqE, eq_self, foldE, maxE, minE, fillA, over, chop, List.replicate, leavesOk, leafOk, cellsEq, cellEq, E_byref, en11, bs22, bs23, rowsI_len, rowsG_len, h1]
    exact ⟨_, rfl⟩
  · by_cases h2 : 100 < (g.length : Int)
    · rw [decide_eq_true h2, Bool.or_true, Bool.true_or, if_pos rfl]
      rw [callT_eq Tryd.func11 rfl fok11 (by simp [Tryd.ntmps11])]
      simp (disch := first | omega | (simp only [vlen, rowsI_len, rowsG_len]; omega)) only [vall, List.take_of_length_le, gB, gcW, gcR, posIn, renA, renL, Chunk.ren, Chunk.refs, evOpD, touchD, stepC, isFresh, nFresh, freshOf, mkR, hole, evL, evH, opd, get, putD, ofVal, cellOf, loadE, behind, lenE, idxAddrE, idxE, lookE, lookM, addPtr, intE, strE, unE, convE, AV.int, AV.bool, AV.str, ivs, take, frameOf, firstRegion, refsA, refsL, one, cellsA, floatOk, apartT, List.map, if_true, if_false, E_P, E_glob0, E_glob1, reduceCtorEq, beq_self_eq_true, ↓reduceIte, Nat.reduceEqDiff, cond_true, cond_false, Nat.reduceAdd, Nat.reduceSub, Nat.reduceMul, Nat.reduceLT, Nat.reduceLeDiff, Int.reduceToNat, Int.reduceLT, Int.reduceLE, Option.getD, Int.reduceMul, Int.reduceAdd, List.drop, List.take, Nat.reduceBEq, List.isEmpty, Int.reduceEq, Int.reduceNe, Int.reduceNeg, Int.reduceGT, Int.reduceGE, beq_true, beq_false, UInt8.reduceToNat, eqE, eq_self, foldE, maxE, minE, fillA, over, chop, List.replicate, leavesOk, leafOk, cellsEq, cellEq, E_byref, en11, bs22, bs23, rowsI_len, rowsG_len, h1, h2]
      exact ⟨_, rfl⟩
    · rw [decide_eq_false h1, decide_eq_false h2, Bool.false_or, Bool.false_or]
      obtain ⟨fr, ex, H', e, hh⟩ := l11 g (by omega) 0 (Nat.zero_le _)
      rw [List.drop_zero] at hh
      have e' : rl E 0 11 (loopAt Tryd.f11 0) [(1, .i (.sl 3 (rowsG g) false)), (5, .i (.v (.int .i64 0)))] [] = _ := e
      clear e
      rcases hh with ⟨hz, rfl⟩ | ⟨hz, rfl, h4⟩
      · rw [hz, if_neg (by decide)]
        rw [callT_eq Tryd.func11 rfl fok11 (by simp [Tryd.ntmps11])]
        simp (disch := first | omega | (simp only [vlen, rowsI_len, rowsG_len]; omega)) only [vall, List.take_of_length_le, gB, gcW, gcR, posIn, renA, renL, Chunk.ren, Chunk.refs, evOpD, touchD, stepC, isFresh, nFresh, freshOf, mkR, hole, evL, evH, opd, get, putD, ofVal, cellOf, loadE, behind, lenE, idxAddrE, idxE, lookE, lookM, addPtr, intE, strE, unE, convE, AV.int, AV.bool, AV.str, ivs, take, frameOf, firstRegion, refsA, refsL, one, cellsA, floatOk, apartT, List.map, if_true, if_false, E_P, E_glob0, E_glob1, reduceCtorEq, beq_self_eq_true, ↓reduceIte, Nat.reduceEqDiff, cond_true, cond_false, Nat.reduceAdd, Nat.reduceSub, Nat.reduceMul, Nat.reduceLT, Nat.reduceLeDiff, Int.reduceToNat, Int.reduceLT, Int.reduceLE, Option.getD, Int.reduceMul, Int.reduceAdd, List.drop, List.take, Nat.reduceBEq, List.isEmpty, Int.reduceEq, Int.reduceNe, Int.reduceNeg, Int.reduceGT, Int.reduceGE, beq_true, beq_false, UInt8.reduceToNat, eqE, eq_self, foldE, maxE, minE, fillA, over, chop, List.replicate, leavesOk, leafOk, cellsEq, cellEq, E_byref, en11, bs22, bs23, rowsI_len, rowsG_len, h1, h2, e', show ∀ B fr H, execT E B 11 (Code.loop _) fr H = rlG E B 11 (loopAt Tryd.f11 0) (gcn B (norm [1, 5] fr) H) from fun B fr H => rl_intro rfl mt11_4 mb11_4 zf11_4 hd11_4 fr H]
        exact ⟨_, rfl⟩
      · rw [hz, if_pos rfl]
        rw [callT_eq Tryd.func11 rfl fok11 (by simp [Tryd.ntmps11])]
        simp (disch := first | omega | (simp only [vlen, rowsI_len, rowsG_len]; omega)) only [vall, List.take_of_length_le, gB, gcW, gcR, posIn, renA, renL, Chunk.ren, Chunk.refs, evOpD, touchD, stepC, isFresh, nFresh, freshOf, mkR, hole, evL, evH, opd, get, putD, ofVal, cellOf, loadE, behind, lenE, idxAddrE, idxE, lookE, lookM, addPtr, intE, strE, unE, convE, AV.int, AV.bool, AV.str, ivs, take, frameOf, firstRegion, refsA, refsL, one, cellsA, floatOk, apartT, List.map, if_true, if_false, E_P, E_glob0, E_glob1, reduceCtorEq, beq_self_eq_true, ↓reduceIte, Nat.reduceEqDiff, cond_true, cond_false, Nat.reduceAdd, Nat.reduceSub, Nat.reduceMul, Nat.reduceLT, Nat.reduceLeDiff, Int.reduceToNat, Int.reduceLT, Int.reduceLE, Option.getD, Int.reduceMul, Int.reduceAdd, List.drop, List.take, Nat.reduceBEq, List.isEmpty, Int.reduceEq, Int.reduceNe, Int.reduceNeg, Int.reduceGT, Int.reduceGE, beq_true, beq_false, UInt8.reduceToNat, eqE, eq_self, foldE, maxE, minE, fillA, over, chop, List.replicate, leavesOk, leafOk, cellsEq, cellEq, E_byref, en11, bs22, bs23, rowsI_len, rowsG_len, h1, h2, h4, e', show ∀ B fr H, execT E B 11 (Code.loop _) fr H = rlG E B 11 (loopAt Tryd.f11 0) (gcn B (norm [1, 5] fr) H) from fun B fr H => rl_intro rfl mt11_4 mb11_4 zf11_4 hd11_4 fr H]
        exact ⟨_, rfl⟩
theorem ik11 (l : List Ins) (g : List Gl) (hl : (l.length : Int) < 9223372036854775808) (hg : (g.length : Int) < 9223372036854775808) (H : Hp) : isoK E (callT E) 11 [.i (.sl 2 (rowsI l) false), .i (.sl 3 (rowsG g) false)] H = some (.i (.v (.int .i64 (if greatB l.length g = true then 1 else 0))), H) := isoK_val rfl rfl rfl (c11 l g hl hg)
theorem ik12 (H : Hp) : isoK E (callT E) 12 [] H = some (.i (.v (.bool true)), H) := isoK_val rfl rfl rfl (ran_true (n := 200) (by kernel_rfl))
def bG (g : List Gl) : Prop := ∀ a ∈ g, a.1.length ≤ maxLen ∧ -9223372036854775808 ≤ a.2.2 ∧ a.2.2 ≤ 9223372036854775807
theorem okG_of {n : Nat} {g : List Gl} (h : greatB n g = false) (hb : bG g) : n ≤ 520 ∧ okG g := by
  unfold greatB at h
  rw [Bool.or_eq_false_iff, Bool.or_eq_false_iff] at h
  obtain ⟨⟨h1, h2⟩, h3⟩ := h
  have h1 := of_decide_eq_false h1
  have h2 := of_decide_eq_false h2
  refine ⟨by omega, by omega, fun a ha => ⟨?_, (hb a ha).2⟩⟩
  have := List.any_eq_false.1 h3 a ha
  have := of_decide_eq_false (Bool.eq_false_iff.2 this)
  omega
theorem eq_oc (a1 a2 a3 a4 a5 b1 b2 b3 b4 b5 : Int) : binE Tryd.prog .eql 30 (.agg [.i (.v (.int .i64 a1)), .i (.v (.int .i64 a2)), .i (.v (.int .i64 a3)), .i (.v (.int .i64 a4)), .i (.v (.int .i64 a5))]) (.agg [.i (.v (.int .i64 b1)), .i (.v (.int .i64 b2)), .i (.v (.int .i64 b3)), .i (.v (.int .i64 b4)), .i (.v (.int .i64 b5))]) = some (.i (.v (.bool (decide (a1 = b1) && (decide (a2 = b2) && (decide (a3 = b3) && (decide (a4 = b4) && (decide (a5 = b5) && true)))))))) := by
  rw [be_aa]
  unfold eqE
  simp only
  rw [if_neg (by rw [eqg30]; decide), agg30, lv30]
  rfl
theorem eq_vd (a1 a2 a3 b1 b2 b3 : Int) : binE Tryd.prog .eql 25 (.agg [.i (.v (.int .i64 a1)), .i (.v (.int .i64 a2)), .i (.v (.int .i64 a3))]) (.agg [.i (.v (.int .i64 b1)), .i (.v (.int .i64 b2)), .i (.v (.int .i64 b3))]) = some (.i (.v (.bool (decide (a1 = b1) && (decide (a2 = b2) && (decide (a3 = b3) && true)))))) := by
  rw [be_aa]
  unfold eqE
  simp only
  rw [if_neg (by rw [eqg25]; decide), agg25, lv25]
  rfl
theorem law3 (l : List Ins) (hl : l.length ≤ 9223372036854775807) (row : Int) (hrow : bI row) (g : List Gl) (hgl : g.length ≤ 9223372036854775807) (hg : bG g) (c w r fuel : Int) (hv : bI c ∧ bI w ∧ bI r) (hf : bI fuel) :
    ∃ L, callT E 3 [.i (.sl 2 (rowsI l) false), .i (.v (.int .i64 row)), .i (.sl 3 (rowsG g) false), .agg [.i (.v (.int .i64 c)), .i (.v (.int .i64 w)), .i (.v (.int .i64 r))], .i (.v (.int .i64 fuel))] [] = some (.i (.v (.bool true)), L) := by
  have hgr := fun H => ik11 l g (by omega) (by omega) H
  cases hb : greatB l.length g with
  | true =>
    rw [hb, if_pos rfl] at hgr
    rw [callT_eq Tryd.func3 rfl fok3 (by simp [Tryd.ntmps3])]
    simp (disch := first | omega | (simp only [vlen]; omega)) only [vall, List.take_of_length_le, gB, gcW, gcR, posIn, renA, renL, Chunk.ren, Chunk.refs, evOpD, touchD, stepC, isFresh, nFresh, freshOf, mkR, hole, evL, evH, opd, get, putD, ofVal, cellOf, loadE, behind, lenE, idxAddrE, idxE, lookE, lookM, addPtr, intE, strE, unE, convE, AV.int, AV.bool, AV.str, ivs, take, frameOf, firstRegion, refsA, refsL, one, cellsA, floatOk, apartT, List.map, if_true, if_false, E_P, E_glob0, E_glob1, reduceCtorEq, beq_self_eq_true, ↓reduceIte, Nat.reduceEqDiff, cond_true, cond_false, Nat.reduceAdd, Nat.reduceSub, Nat.reduceMul, Nat.reduceLT, Nat.reduceLeDiff, Int.reduceToNat, Int.reduceLT, Int.reduceLE, Option.getD, Int.reduceMul, Int.reduceAdd, List.drop, List.take, Nat.reduceBEq, List.isEmpty, Int.reduceEq, Int.reduceNe, Int.reduceNeg, Int.reduceGT, Int.reduceGE, beq_true, beq_false, UInt8.reduceToNat, eqE, eq_self, foldE, maxE, minE, fillA, over, chop, List.replicate, leavesOk, leafOk, cellsEq, cellEq, E_byref, en3, bs22, bs23, hgr, ik12]
    exact ⟨_, rfl⟩
  | false =>
    rw [hb, if_neg (by decide)] at hgr
    obtain ⟨h5, hok⟩ := okG_of hb hg
    have h1 := fun H => ik13 l (by omega) row hrow g hok c w r fuel hv hf H
    have h2 := fun H => ik14 l (by omega) row hrow g hok c w r fuel hv hf H
    rw [run_eqS] at h1
    generalize runT l row g c w r fuel = o at *
    obtain ⟨o1, o2, o3, o4, o5⟩ := o
    unfold ocA at h1 h2
    simp only at h1 h2
    rw [callT_eq Tryd.func3 rfl fok3 (by simp [Tryd.ntmps3])]
    simp (disch := first | omega | (simp only [vlen]; omega)) only [vall, List.take_of_length_le, gB, gcW, gcR, posIn, renA, renL, Chunk.ren, Chunk.refs, evOpD, touchD, stepC, isFresh, nFresh, freshOf, mkR, hole, evL, evH, opd, get, putD, ofVal, cellOf, loadE, behind, lenE, idxAddrE, idxE, lookE, lookM, addPtr, intE, strE, unE, convE, AV.int, AV.bool, AV.str, ivs, take, frameOf, firstRegion, refsA, refsL, one, cellsA, floatOk, apartT, List.map, if_true, if_false, E_P, E_glob0, E_glob1, reduceCtorEq, beq_self_eq_true, ↓reduceIte, Nat.reduceEqDiff, cond_true, cond_false, Nat.reduceAdd, Nat.reduceSub, Nat.reduceMul, Nat.reduceLT, Nat.reduceLeDiff, Int.reduceToNat, Int.reduceLT, Int.reduceLE, Option.getD, Int.reduceMul, Int.reduceAdd, List.drop, List.take, Nat.reduceBEq, List.isEmpty, Int.reduceEq, Int.reduceNe, Int.reduceNeg, Int.reduceGT, Int.reduceGE, beq_true, beq_false, UInt8.reduceToNat, eqE, eq_self, foldE, maxE, minE, fillA, over, chop, List.replicate, leavesOk, leafOk, cellsEq, cellEq, E_byref, en3, bs22, bs23, hgr, h1, h2, eq_oc, eq_vd, decide_true, Bool.and_true, ik12]
    exact ⟨_, rfl⟩
theorem dec_keep (l : List Ins) (row : Int) (g : List Gl) (c w r : Int) : (decT l row g c w r).r = r ∧ (c = 1 → decT l row g c w r = ⟨c, w, r⟩) := by
  unfold decT
  refine ⟨?_, fun h => by rw [if_pos (.inl h)]⟩
  split
  · rfl
  · unfold fixV runT
    simp only
    split <;> rfl
theorem law4 (l : List Ins) (hl : l.length ≤ 9223372036854775807) (row : Int) (hrow : bI row) (g : List Gl) (hgl : g.length ≤ 9223372036854775807) (hg : bG g) (c w r : Int) (hv : bI c ∧ bI w ∧ bI r) :
    ∃ L, callT E 4 [.i (.sl 2 (rowsI l) false), .i (.v (.int .i64 row)), .i (.sl 3 (rowsG g) false), .agg [.i (.v (.int .i64 c)), .i (.v (.int .i64 w)), .i (.v (.int .i64 r))]] [] = some (.i (.v (.bool true)), L) := by
  have hgr := fun H => ik11 l g (by omega) (by omega) H
  cases hb : greatB l.length g with
  | true =>
    rw [hb, if_pos rfl] at hgr
    rw [callT_eq Tryd.func4 rfl fok4 (by simp [Tryd.ntmps4])]
    simp (disch := first | omega | (simp only [vlen]; omega)) only [vall, List.take_of_length_le, gB, gcW, gcR, posIn, renA, renL, Chunk.ren, Chunk.refs, evOpD, touchD, stepC, isFresh, nFresh, freshOf, mkR, hole, evL, evH, opd, get, putD, ofVal, cellOf, loadE, behind, lenE, idxAddrE, idxE, lookE, lookM, addPtr, intE, strE, unE, convE, AV.int, AV.bool, AV.str, ivs, take, frameOf, firstRegion, refsA, refsL, one, cellsA, floatOk, apartT, List.map, if_true, if_false, E_P, E_glob0, E_glob1, reduceCtorEq, beq_self_eq_true, ↓reduceIte, Nat.reduceEqDiff, cond_true, cond_false, Nat.reduceAdd, Nat.reduceSub, Nat.reduceMul, Nat.reduceLT, Nat.reduceLeDiff, Int.reduceToNat, Int.reduceLT, Int.reduceLE, Option.getD, Int.reduceMul, Int.reduceAdd, List.drop, List.take, Nat.reduceBEq, List.isEmpty, Int.reduceEq, Int.reduceNe, Int.reduceNeg, Int.reduceGT, Int.reduceGE, beq_true, beq_false, UInt8.reduceToNat, eqE, eq_self, foldE, maxE, minE, fillA, over, chop, List.replicate, leavesOk, leafOk, cellsEq, cellEq, E_byref, en4, bs22, bs23, hgr, ik12]
    exact ⟨_, rfl⟩
  | false =>
    rw [hb, if_neg (by decide)] at hgr
    obtain ⟨h5, hok⟩ := okG_of hb hg
    have h1 := fun H => ik15 l (by omega) row hrow g hok c w r hv H
    have h2 := fun H => ik16 l (by omega) row hrow g hok c w r hv H
    rw [dec_eqS] at h1
    obtain ⟨k1, k2⟩ := dec_keep l row g c w r
    generalize decT l row g c w r = o at *
    obtain ⟨o1, o2, o3⟩ := o
    simp only at k1
    subst k1
    unfold vdA at h1 h2
    simp only at h1 h2
    by_cases hc1 : c = 1
    · have k2 := k2 hc1
      simp only [Vd.mk.injEq] at k2
      obtain ⟨k3, k4, _⟩ := k2
      subst k3 k4 hc1
      rw [callT_eq Tryd.func4 rfl fok4 (by simp [Tryd.ntmps4])]
      simp (disch := first | omega | (simp only [vlen]; omega)) only [vall, List.take_of_length_le, gB, gcW, gcR, posIn, renA, renL, Chunk.ren, Chunk.refs, evOpD, touchD, stepC, isFresh, nFresh, freshOf, mkR, hole, evL, evH, opd, get, putD, ofVal, cellOf, loadE, behind, lenE, idxAddrE, idxE, lookE, lookM, addPtr, intE, strE, unE, convE, AV.int, AV.bool, AV.str, ivs, take, frameOf, firstRegion, refsA, refsL, one, cellsA, floatOk, apartT, List.map, if_true, if_false, E_P, E_glob0, E_glob1, reduceCtorEq, beq_self_eq_true, ↓reduceIte, Nat.reduceEqDiff, cond_true, cond_false, Nat.reduceAdd, Nat.reduceSub, Nat.reduceMul, Nat.reduceLT, Nat.reduceLeDiff, Int.reduceToNat, Int.reduceLT, Int.reduceLE, Option.getD, Int.reduceMul, Int.reduceAdd, List.drop, List.take, Nat.reduceBEq, List.isEmpty, Int.reduceEq, Int.reduceNe, Int.reduceNeg, Int.reduceGT, Int.reduceGE, beq_true, beq_false, UInt8.reduceToNat, eqE, eq_self, foldE, maxE, minE, fillA, over, chop, List.replicate, leavesOk, leafOk, cellsEq, cellEq, E_byref, en4, bs22, bs23, hgr, h1, h2, eq_oc, eq_vd, decide_true, Bool.and_true, ik12]
      exact ⟨_, rfl⟩
    · clear k2
      rw [callT_eq Tryd.func4 rfl fok4 (by simp [Tryd.ntmps4])]
      simp (disch := first | omega | (simp only [vlen]; omega)) only [vall, List.take_of_length_le, gB, gcW, gcR, posIn, renA, renL, Chunk.ren, Chunk.refs, evOpD, touchD, stepC, isFresh, nFresh, freshOf, mkR, hole, evL, evH, opd, get, putD, ofVal, cellOf, loadE, behind, lenE, idxAddrE, idxE, lookE, lookM, addPtr, intE, strE, unE, convE, AV.int, AV.bool, AV.str, ivs, take, frameOf, firstRegion, refsA, refsL, one, cellsA, floatOk, apartT, List.map, if_true, if_false, E_P, E_glob0, E_glob1, reduceCtorEq, beq_self_eq_true, ↓reduceIte, Nat.reduceEqDiff, cond_true, cond_false, Nat.reduceAdd, Nat.reduceSub, Nat.reduceMul, Nat.reduceLT, Nat.reduceLeDiff, Int.reduceToNat, Int.reduceLT, Int.reduceLE, Option.getD, Int.reduceMul, Int.reduceAdd, List.drop, List.take, Nat.reduceBEq, List.isEmpty, Int.reduceEq, Int.reduceNe, Int.reduceNeg, Int.reduceGT, Int.reduceGE, beq_true, beq_false, UInt8.reduceToNat, eqE, eq_self, foldE, maxE, minE, fillA, over, chop, List.replicate, leavesOk, leafOk, cellsEq, cellEq, E_byref, en4, bs22, bs23, hgr, h1, h2, eq_oc, eq_vd, decide_true, Bool.and_true, hc1, ik12]
      exact ⟨_, rfl⟩
theorem c3 (l : List Ins) (hl : l.length ≤ 9223372036854775807) (row : Int) (hrow : bI row) (g : List Gl) (hgl : g.length ≤ 9223372036854775807) (hg : bG g) (c w r : Int) (hv : bI c ∧ bI w ∧ bI r) (fuel : Int) (hf : bI fuel) :
    ∃ L, callT E 3 [.i (.sl 2 (l.map fun a => insC a) false), .i (.v (.int .i64 row)), .i (.sl 3 (g.map fun a => [.str a.1, .v (.bool a.2.1), .v (.int .i64 a.2.2)]) false), .agg [.i (.v (.int .i64 c)), .i (.v (.int .i64 w)), .i (.v (.int .i64 r))], .i (.v (.int .i64 fuel))] [] = some (.i (.v (.bool true)), L) := law3 l hl row hrow g hgl hg c w r fuel hv hf
theorem c4 (l : List Ins) (hl : l.length ≤ 9223372036854775807) (row : Int) (hrow : bI row) (g : List Gl) (hgl : g.length ≤ 9223372036854775807) (hg : bG g) (c w r : Int) (hv : bI c ∧ bI w ∧ bI r) :
    ∃ L, callT E 4 [.i (.sl 2 (l.map fun a => insC a) false), .i (.v (.int .i64 row)), .i (.sl 3 (g.map fun a => [.str a.1, .v (.bool a.2.1), .v (.int .i64 a.2.2)]) false), .agg [.i (.v (.int .i64 c)), .i (.v (.int .i64 w)), .i (.v (.int .i64 r))]] [] = some (.i (.v (.bool true)), L) := law4 l hl row hrow g hgl hg c w r hv
end Go.VI

