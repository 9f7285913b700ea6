import Derived.Test.YtijkhfgkcndnpaaDoorL7
namespace Go.VI
open Go.Proofs
set_option maxRecDepth 100000
set_option linter.unusedSimpArgs false
set_option linter.unusedVariables false
set_option maxHeartbeats 8000000
/-! CsiparamMarkers -/
theorem parse_dig' {a : List UInt8} (h : a.all pB = true) : parseS a = if limB (if a = [] then [] else plS a) [] = false then (0, [], [], 5) else (0, if a = [] then [] else plS a, [], 0) := by
  rw [parse_dig h]
  by_cases h0 : a = []
  · subst h0; rfl
  · simp only [if_neg h0]
theorem parse_mk {a : List UInt8} (h : a.all pB = true) {m i : UInt8} (hm : privB m.toNat = true) (hi : badB i = false) :
    parseS (m :: (a ++ [i])) = if limB (if a = [] then [] else plS a) [] = false then (0, [], [], 5) else ((m.toNat : Int), if a = [] then [] else plS a, [i], 0) := by
  have hti : trailB [i] = true := by simp [trailB, hi]
  have h1 := parse_all (i := [i]) h hti
  unfold parseS
  have hmk : markP (m :: (a ++ [i])) = ((m.toNat : Int), a ++ [i]) := by simp [markP, hm]
  rw [hmk]
  simp only [h1, hti]
  rw [if_neg (by decide)]
  have hl : ∀ l : List Int, limB l [i] = limB l [] := fun l => by simp [limB]
  rw [hl]
theorem c10 (s : List UInt8) (n1 n2 : Int) (hs : s.length ≤ 0x7ffffffff000) (w1 : 0 ≤ n1 ∧ n1 ≤ 255) (w2 : 0 ≤ n2 ∧ n2 ≤ 255) :
    ∃ L, callT E 10 [.i (.str s), .i (.v (.int .u8 n1)), .i (.v (.int .u8 n2))] [] = some (.i (.v (.bool true)), L) := by
  have hds := ik19 s hs
  by_cases h : 200 < s.length
  · rw [callT_eq Tryd.func10 rfl fok10 (by simp [Tryd.ntmps10])]
    simp (disch := first | omega | (simp only [List.length_append, List.length_map, List.length_set, List.length_cons, List.length_nil, List.length_take, List.length_drop]; omega)) only [va0, va1, va2, va3, va4, va5, va6, va7, va8, va9, va10, va11, va12, va13, va14, vb0, vb1, vb2, vb3, w_i8, w_u8, w_i16, w_u16, w_i32, w_u32, w_i64, w_u64, lt_T, lt_F, le_T, le_F, nlt_T, nlt_F, nle_T, nle_F, List.take_of_length_le, gB, gcW, gcR, posIn, renA, renL, Chunk.ren, Chunk.refs, evOpD, touchD, stepC, isFresh, nFresh, freshOf, mkR, hole, evL, evH, opd, get, putD, ofVal, cellOf, loadE, behind, lenE, idxAddrE, idxE, addPtr, intE, strE, unE, convE, AV.int, AV.bool, AV.str, ivs, take, frameOf, firstRegion, refsA, refsL, one, cellsA, floatOk, apartT, List.map, if_true, if_false, E_P, E_glob0, reduceCtorEq, beq_self_eq_true, decide_true, decide_false, ↓reduceIte, Nat.reduceEqDiff, cond_true, cond_false, or_true, true_or, or_false, false_or, and_true, true_and, and_self, false_and, and_false, not_true, not_false_iff, Nat.reduceAdd, Nat.reduceSub, Nat.reduceMul, Nat.reduceLT, Nat.reduceLeDiff, Int.reduceToNat, Int.reduceLT, Int.reduceLE, Option.getD, Int.reduceMul, Int.reduceAdd, List.drop, List.take, Nat.reduceBEq, List.isEmpty, Int.reduceEq, Int.reduceNe, Int.reduceNeg, Int.reduceGT, Int.reduceGE, beq_true, beq_false, UInt8.reduceToNat, eqE, eq_self, foldE, maxE, minE, eq_T, eq_F, ndec, odec, adec, sdec, fillA, over, chop, List.replicate, leavesOk, leafOk, cellsEq, cellEq, E_byref, en10, bs23, bs32, ik11]
    exact ⟨_, rfl⟩
  by_cases hb0 : s ≠ [] ∧ s.all pB = false
  · obtain ⟨p1, p2⟩ := hb0
    have hpe : (s == []) = false := by cases s with | nil => exact absurd rfl p1 | cons _ _ => rfl
    rw [show digB s = false by simp [digB, p2]] at hds
    rw [callT_eq Tryd.func10 rfl fok10 (by simp [Tryd.ntmps10])]
    simp (disch := first | omega | (simp only [List.length_append, List.length_map, List.length_set, List.length_cons, List.length_nil, List.length_take, List.length_drop]; omega)) only [va0, va1, va2, va3, va4, va5, va6, va7, va8, va9, va10, va11, va12, va13, va14, vb0, vb1, vb2, vb3, w_i8, w_u8, w_i16, w_u16, w_i32, w_u32, w_i64, w_u64, lt_T, lt_F, le_T, le_F, nlt_T, nlt_F, nle_T, nle_F, List.take_of_length_le, gB, gcW, gcR, posIn, renA, renL, Chunk.ren, Chunk.refs, evOpD, touchD, stepC, isFresh, nFresh, freshOf, mkR, hole, evL, evH, opd, get, putD, ofVal, cellOf, loadE, behind, lenE, idxAddrE, idxE, addPtr, intE, strE, unE, convE, AV.int, AV.bool, AV.str, ivs, take, frameOf, firstRegion, refsA, refsL, one, cellsA, floatOk, apartT, List.map, if_true, if_false, E_P, E_glob0, reduceCtorEq, beq_self_eq_true, decide_true, decide_false, ↓reduceIte, Nat.reduceEqDiff, cond_true, cond_false, or_true, true_or, or_false, false_or, and_true, true_and, and_self, false_and, and_false, not_true, not_false_iff, Nat.reduceAdd, Nat.reduceSub, Nat.reduceMul, Nat.reduceLT, Nat.reduceLeDiff, Int.reduceToNat, Int.reduceLT, Int.reduceLE, Option.getD, Int.reduceMul, Int.reduceAdd, List.drop, List.take, Nat.reduceBEq, List.isEmpty, Int.reduceEq, Int.reduceNe, Int.reduceNeg, Int.reduceGT, Int.reduceGE, beq_true, beq_false, UInt8.reduceToNat, eqE, eq_self, foldE, maxE, minE, eq_T, eq_F, ndec, odec, adec, sdec, fillA, over, chop, List.replicate, leavesOk, leafOk, cellsEq, cellEq, E_byref, en10, bs23, bs32, hpe, hds, ik11]
    exact ⟨_, rfl⟩
  have ps : s.all pB = true := by
    by_cases h0 : s = []
    · subst h0; rfl
    · cases h9 : s.all pB with | true => rfl | false => exact absurd ⟨h0, h9⟩ hb0
  have hq : n2.tmod 16 = n2 % 16 := Int.tmod_eq_emod_of_nonneg w2.1
  have hr : n1.tmod 4 = n1 % 4 := Int.tmod_eq_emod_of_nonneg w1.1
  have hi : badB (UInt8.ofNat (32 + n2 % 16).toNat) = false := by
    have : (UInt8.ofNat (32 + n2 % 16).toNat).toNat = (32 + n2 % 16).toNat := by rw [UInt8.toNat_ofNat', Nat.mod_eq_of_lt (by omega)]
    simp only [badB, this, Bool.or_eq_false_iff, decide_eq_false_iff_not]
    omega
  have hw : IntKind.u8.wrap (32 + n2 % 16) = 32 + n2 % 16 := by rw [IntKind.wrap_u8']; omega
  have qa := ik12 s (by omega)
  rw [parse_dig' ps] at qa
  have key : ∀ m : UInt8, privB m.toNat = true → ∀ H, isoK E (callT E) 12 [.i (.str (m :: (s ++ [UInt8.ofNat (32 + n2 % 16).toNat])))] H = some (parseA (if limB (if s = [] then [] else plS s) [] = false then (0, [], [], 5) else ((m.toNat : Int), if s = [] then [] else plS s, [UInt8.ofNat (32 + n2 % 16).toNat], 0)), H) := fun m hm H => by
    have := ik12 (m :: (s ++ [UInt8.ofNat (32 + n2 % 16).toNat])) (by simp only [List.length_cons, List.length_append, List.length_nil]; omega) H
    rwa [parse_mk ps hm hi] at this
  generalize hit : UInt8.ofNat (32 + n2 % 16).toNat = it at *
  have hl16 : limB (if s = [] then [] else plS s) [] = true → (if s = [] then [] else plS s).length ≤ 16 := fun h => by
    simp only [limB, Bool.and_eq_true, decide_eq_true_eq] at h
    exact h.1.1
  generalize (if s = [] then [] else plS s) = l at *
  have k0 := key 60 (by decide)
  have k1 := key 61 (by decide)
  have k2 := key 62 (by decide)
  have k3 := key 63 (by decide)
  clear key hb0
  have hx : (s = [] ∨ (s == []) = false ∧ digB s = true) := by
    cases s with
    | nil => exact .inl rfl
    | cons _ _ => exact .inr ⟨rfl, by simp only [digB, ps]; rfl⟩
  have hcut : n1 % 4 = 0 ∨ n1 % 4 = 1 ∨ n1 % 4 = 2 ∨ n1 % 4 = 3 := by omega
  have c0 : ((60 : UInt8).toNat : Int) = 60 := rfl
  have c1 : ((61 : UInt8).toNat : Int) = 61 := rfl
  have c2 : ((62 : UInt8).toNat : Int) = 62 := rfl
  have c3 : ((63 : UInt8).toNat : Int) = 63 := rfl
  rw [c0] at k0
  rw [c1] at k1
  rw [c2] at k2
  rw [c3] at k3
  have hl17 : limB l [] = true → (l.length : Int) ≤ 16 := fun h => by have := hl16 h; omega
  have u0 : UInt8.ofNat 60 = 60 := rfl
  have u1 : UInt8.ofNat 61 = 61 := rfl
  have u2 : UInt8.ofNat 62 = 62 := rfl
  have u3 : UInt8.ofNat 63 = 63 := rfl
  cases he : limB l []
  all_goals (try have hl := hl17 he)
  all_goals simp only [he, if_true, if_false, reduceCtorEq] at qa k0 k1 k2 k3
  all_goals unfold parseA at qa k0 k1 k2 k3
  all_goals dsimp only at qa k0 k1 k2 k3
  all_goals clear ps he hl16 hl17
  all_goals rcases hx with hx | ⟨hpe, hd⟩
  all_goals (try subst hx)
  all_goals (try simp only [List.nil_append] at k0 k1 k2 k3)
  all_goals (try rw [hd] at hds)
  all_goals rcases hcut with hj | hj | hj | hj
  all_goals rw [hj] at hr
  all_goals rw [callT_eq Tryd.func10 rfl fok10 (by simp [Tryd.ntmps10])]
  all_goals first | (simp (disch := first | omega | (simp only [List.length_append, List.length_map, List.length_set, List.length_cons, List.length_nil, List.length_take, List.length_drop]; omega)) only [va0, va1, va2, va3, va4, va5, va6, va7, va8, va9, va10, va11, va12, va13, va14, vb0, vb1, vb2, vb3, w_i8, w_u8, w_i16, w_u16, w_i32, w_u32, w_i64, w_u64, lt_T, lt_F, le_T, le_F, nlt_T, nlt_F, nle_T, nle_F, List.take_of_length_le, gB, gcW, gcR, posIn, renA, renL, Chunk.ren, Chunk.refs, evOpD, touchD, stepC, isFresh, nFresh, freshOf, mkR, hole, evL, evH, opd, get, putD, ofVal, cellOf, loadE, behind, lenE, idxAddrE, idxE, addPtr, intE, strE, unE, convE, AV.int, AV.bool, AV.str, ivs, take, frameOf, firstRegion, refsA, refsL, one, cellsA, floatOk, apartT, List.map, if_true, if_false, E_P, E_glob0, reduceCtorEq, beq_self_eq_true, decide_true, decide_false, ↓reduceIte, Nat.reduceEqDiff, cond_true, cond_false, or_true, true_or, or_false, false_or, and_true, true_and, and_self, false_and, and_false, not_true, not_false_iff, Nat.reduceAdd, Nat.reduceSub, Nat.reduceMul, Nat.reduceLT, Nat.reduceLeDiff, Int.reduceToNat, Int.reduceLT, Int.reduceLE, Option.getD, Int.reduceMul, Int.reduceAdd, List.drop, List.take, Nat.reduceBEq, List.isEmpty, Int.reduceEq, Int.reduceNe, Int.reduceNeg, Int.reduceGT, Int.reduceGE, beq_true, beq_false, UInt8.reduceToNat, eqE, eq_self, foldE, maxE, minE, eq_T, eq_F, ndec, odec, adec, sdec, fillA, over, chop, List.replicate, leavesOk, leafOk, cellsEq, cellEq, E_byref, en10, bs23, bs32, hpe, hds, hq, hw, hr, hit, qa, u0, u1, u2, u3, k0, k1, k2, k3, List.append_assoc, List.cons_append, List.nil_append, List.append_nil, ik14, ik11]) | (simp (disch := first | omega | (simp only [List.length_append, List.length_map, List.length_set, List.length_cons, List.length_nil, List.length_take, List.length_drop]; omega)) only [va0, va1, va2, va3, va4, va5, va6, va7, va8, va9, va10, va11, va12, va13, va14, vb0, vb1, vb2, vb3, w_i8, w_u8, w_i16, w_u16, w_i32, w_u32, w_i64, w_u64, lt_T, lt_F, le_T, le_F, nlt_T, nlt_F, nle_T, nle_F, List.take_of_length_le, gB, gcW, gcR, posIn, renA, renL, Chunk.ren, Chunk.refs, evOpD, touchD, stepC, isFresh, nFresh, freshOf, mkR, hole, evL, evH, opd, get, putD, ofVal, cellOf, loadE, behind, lenE, idxAddrE, idxE, addPtr, intE, strE, unE, convE, AV.int, AV.bool, AV.str, ivs, take, frameOf, firstRegion, refsA, refsL, one, cellsA, floatOk, apartT, List.map, if_true, if_false, E_P, E_glob0, reduceCtorEq, beq_self_eq_true, decide_true, decide_false, ↓reduceIte, Nat.reduceEqDiff, cond_true, cond_false, or_true, true_or, or_false, false_or, and_true, true_and, and_self, false_and, and_false, not_true, not_false_iff, Nat.reduceAdd, Nat.reduceSub, Nat.reduceMul, Nat.reduceLT, Nat.reduceLeDiff, Int.reduceToNat, Int.reduceLT, Int.reduceLE, Option.getD, Int.reduceMul, Int.reduceAdd, List.drop, List.take, Nat.reduceBEq, List.isEmpty, Int.reduceEq, Int.reduceNe, Int.reduceNeg, Int.reduceGT, Int.reduceGE, beq_true, beq_false, UInt8.reduceToNat, eqE, eq_self, foldE, maxE, minE, eq_T, eq_F, ndec, odec, adec, sdec, fillA, over, chop, List.replicate, leavesOk, leafOk, cellsEq, cellEq, E_byref, en10, bs23, bs32, hds, hq, hw, hr, hit, qa, u0, u1, u2, u3, k0, k1, k2, k3, List.append_assoc, List.cons_append, List.nil_append, List.append_nil, ik14, ik11])
  all_goals exact ⟨_, rfl⟩
end Go.VI
