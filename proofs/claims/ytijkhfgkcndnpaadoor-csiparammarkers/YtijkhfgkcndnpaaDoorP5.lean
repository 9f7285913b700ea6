import Derived.Test.YtijkhfgkcndnpaaDoorP4
namespace Go.VI
open Go.Proofs
set_option maxRecDepth 100000
set_option linter.unusedSimpArgs false
set_option linter.unusedVariables false
set_option maxHeartbeats 4000000
theorem tw_take (P : UInt8 → Bool) : ∀ t : List UInt8, t.take (t.takeWhile P).length = t.takeWhile P ∧ t.drop (t.takeWhile P).length = t.dropWhile P
  | [] => by simp
  | b :: r => by
    have ih := tw_take P r
    by_cases h : P b = true
    · simp [List.takeWhile_cons_of_pos h, List.dropWhile_cons_of_pos h, ih]
    · simp [List.takeWhile_cons_of_neg h, List.dropWhile_cons_of_neg h]
theorem tw_all (P : UInt8 → Bool) : ∀ t : List UInt8, (t.takeWhile P).all P = true
  | [] => rfl
  | b :: r => by
    by_cases h : P b = true
    · rw [List.takeWhile_cons_of_pos h, List.all_cons, h, tw_all P r]; rfl
    · rw [List.takeWhile_cons_of_neg h]; rfl
theorem mn_id {l : List Int} (h : l.any over9999 = false) : l.map mn = l := by
  conv => rhs; rw [← List.map_id l]
  refine List.map_congr_left fun n hn => ?_
  have := List.any_eq_false.1 h n hn
  simp only [over9999, decide_eq_true_eq] at this
  simp only [mn, id]; omega
/-- what the parts of a body come to -/
theorem parR_split {t : List UInt8} {l : List Int} {n : Int} (h : runP (t.takeWhile pB) [] (-1) = (l, n, [])) :
    parR t = (if t.takeWhile pB = [] then [] else l ++ [n], t.dropWhile pB) := by
  obtain ⟨h1, _⟩ := runP_split t [] (-1)
  rw [h] at h1
  obtain ⟨h2, h3⟩ := tw_take pB t
  have hl : t.length = (t.takeWhile pB).length + (t.dropWhile pB).length := by rw [← List.length_append, List.takeWhile_append_dropWhile]
  unfold parR
  rw [h1]
  simp only
  by_cases hp : t.takeWhile pB = []
  · rw [if_pos hp, if_neg (by rw [hl, hp]; simp)]
    rw [hp] at h
    simp only [runP, Prod.mk.injEq] at h
    rw [← h.1]
  · rw [if_neg hp, if_pos (by rw [hl]; have := List.length_pos_iff.2 hp; omega)]
theorem l13_2e (q : List UInt8) (m : Int) : rl E 0 13 (loopAt Tryd.f13 2) [(6, .i (.v (.int .u8 m))), (9, .i (.str [])), (10, .i (.str q)), (12, .ref 0 0 0 0), (13, .i (.v (.bool false))), (14, .i (.v (.int .i64 0)))] [.sl 1 0 [] false] =
    some (.exit 4, [(6, .i (.v (.int .u8 m))), (9, .i (.str [])), (10, .i (.str q)), (12, .ref 0 0 0 0), (13, .i (.v (.bool false))), (14, .i (.v (.int .i64 0))), (79, .i (.v (.bool false)))], [.sl 1 0 [] false]) := by
  rw [rl_step (fn := Tryd.f13) (k := 2) rfl]
  simp (disch := first | omega | (simp only [List.length_append, List.length_map, List.length_set, List.length_cons, List.length_nil, List.length_take, List.length_drop]; omega)) only [va0, va1, va2, va3, va4, va5, va6, va7, va8, va9, va10, va11, va12, va13, va14, vb0, vb1, vb2, vb3, w_i8, w_u8, w_i16, w_u16, w_i32, w_u32, w_i64, w_u64, lt_T, lt_F, le_T, le_F, nlt_T, nlt_F, nle_T, nle_F, List.take_of_length_le, gB, gcW, gcR, posIn, renA, renL, Chunk.ren, Chunk.refs, evOpD, touchD, stepC, isFresh, nFresh, freshOf, mkR, hole, evL, evH, opd, get, putD, ofVal, cellOf, loadE, behind, lenE, idxAddrE, idxE, addPtr, intE, strE, unE, convE, AV.int, AV.bool, AV.str, ivs, take, frameOf, firstRegion, refsA, refsL, one, cellsA, floatOk, apartT, List.map, if_true, if_false, E_P, E_glob0, reduceCtorEq, beq_self_eq_true, decide_true, decide_false, ↓reduceIte, Nat.reduceEqDiff, cond_true, cond_false, or_true, true_or, or_false, false_or, and_true, true_and, and_self, false_and, and_false, not_true, not_false_iff, Nat.reduceAdd, Nat.reduceSub, Nat.reduceMul, Nat.reduceLT, Nat.reduceLeDiff, Int.reduceToNat, Int.reduceLT, Int.reduceLE, Option.getD, Int.reduceMul, Int.reduceAdd, List.drop, List.take, Nat.reduceBEq, List.isEmpty, Int.reduceEq, Int.reduceNe, Int.reduceNeg, Int.reduceGT, Int.reduceGE, beq_true, beq_false, UInt8.reduceToNat, eqE, eq_self, foldE, maxE, minE, eq_T, eq_F, ndec, odec, adec, sdec, fillA, over, chop, List.replicate, leavesOk, leafOk, cellsEq, cellEq, E_byref, en13, bs23, Int.natCast_zero, Int.lt_irrefl]
theorem c13 (s : List UInt8) (hs : (s.length : Int) < 50000) : ∃ L, callT E 13 [.i (.str s)] [] = some (parseA (parseS s), L) := by
  have hp : ∃ (m : Int) (i0 : Nat), i0 ≤ s.length ∧ markP s = (m, s.drop i0) ∧ (s = [] ∧ m = 0 ∧ i0 = 0 ∨ ∃ b r, s = b :: r ∧ (privB b.toNat = true ∧ m = b.toNat ∧ i0 = 1 ∨ privB b.toNat = false ∧ m = 0 ∧ i0 = 0)) := by
    cases s with
    | nil => exact ⟨0, 0, by simp, rfl, .inl ⟨rfl, rfl, rfl⟩⟩
    | cons b r =>
      by_cases h : privB b.toNat = true
      · exact ⟨b.toNat, 1, by simp, by simp [markP, h], .inr ⟨b, r, rfl, .inl ⟨h, rfl, rfl⟩⟩⟩
      · exact ⟨0, 0, by simp, by simp [markP, h], .inr ⟨b, r, rfl, .inr ⟨by simpa using h, rfl, rfl⟩⟩⟩
  obtain ⟨m, i0, hi0, hm, hcase⟩ := hp
  obtain ⟨fr, e, f0, f6, f7, f8⟩ := l13_0 s (by omega) m i0 i0 hi0
  obtain ⟨t1, t2⟩ := tw_take pB (s.drop i0)
  have tall := tw_all pB (s.drop i0)
  have tl : (s.drop i0).length = ((s.drop i0).takeWhile pB).length + ((s.drop i0).dropWhile pB).length := by rw [← List.length_append, List.takeWhile_append_dropWhile]
  rw [List.length_drop] at tl
  rw [List.drop_drop] at t2
  have hsplit := @parR_split (s.drop i0)
  unfold parseS
  rw [hm]
  simp only
  generalize hP : (s.drop i0).takeWhile pB = p at *
  generalize hQ : (s.drop i0).dropWhile pB = q at *
  obtain ⟨fr2, ex2, H2, e2, hh2⟩ := l13_1 p q (by omega) m 0 (Nat.zero_le _)
  obtain ⟨fr3, l, n, hrun, e3, g6, g10, g12, g13, gl⟩ := l13_2 p q (by omega) m 0 (Nat.zero_le _) tall [] (-1) (by simp) (by omega)
  rw [List.drop_zero] at hrun hh2
  rw [hsplit hrun]
  have e2' : rl E 0 13 (loopAt Tryd.f13 1) [(6, .i (.v (.int .u8 m))), (9, .i (.str p)), (10, .i (.str q)), (11, .i (.v (.int .i64 0)))] [] = some (ex2, fr2, H2) := e2
  have e3' : rl E 0 13 (loopAt Tryd.f13 2) [(6, .i (.v (.int .u8 m))), (9, .i (.str p)), (10, .i (.str q)), (12, .ref 0 0 0 1), (13, .i (.v (.bool false))), (14, .i (.v (.int .i64 0)))] [.sl 1 0 [[.v (.int .i64 (-1))]] false] = some (.exit 4, fr3, [.sl 1 0 (rows64 (l.map mn ++ [mn n])) false]) := e3
  have hr1 := rows64_len (l.map mn ++ [mn n])
  rw [List.length_append, List.length_map, List.length_cons, List.length_nil] at hr1
  have hik3 := l13_2e q m
  clear e2 e3 hsplit hrun tall
  simp only
  have hlimE : limB (l ++ [n]) q = (decide (l.length + 1 ≤ 16) && decide (q.length ≤ 2) && !anyO l n) := by simp [limB, anyO]
  have hlim0 : limB [] q = decide (q.length ≤ 2) := by simp [limB]
  have hq0 : (s.drop (i0 + p.length)).length = q.length := by rw [t2]
  have hslice : ((s.drop i0).take (i0 + p.length - i0)) = p := by rw [Nat.add_sub_cancel_left, t1]
  clear t1
  have hmn : anyO l n = false → l.map mn ++ [mn n] = l ++ [n] := fun h => by
    have := mn_id h
    simpa using this
  have htr : trailB q = !q.any badB := rfl
  rw [htr]
  clear htr hm hP hQ
  by_cases hne : s = []
  · subst hne
    obtain ⟨rfl, rfl⟩ : m = 0 ∧ i0 = 0 := by
      rcases hcase with ⟨_, h, h'⟩ | ⟨b, r, h, _⟩
      · exact ⟨h, h'⟩
      · cases h
    have p0 : p = [] := List.length_eq_zero_iff.1 (by simp at tl; omega)
    have q0 : q = [] := List.length_eq_zero_iff.1 (by simp at tl; omega)
    subst p0 q0
    rcases hh2 with ⟨h1, _⟩ | ⟨h1, rfl, rfl, k6, k9, k10⟩
    · cases h1
    have hb := trivial
    have hs1 := trivial
    have ht2 := trivial
    simp only [List.length_nil, Nat.add_zero, Int.natCast_zero] at f7
    (try simp only [Int.natCast_zero, Int.natCast_one, Nat.zero_add] at e f7 f8); rw [callT_eq Tryd.func13 rfl fok13 (by simp [Tryd.ntmps13])]
    simp (disch := first | omega | (simp only [List.length_append, List.length_map, List.length_set, List.length_cons, List.length_nil, List.length_take, List.length_drop, rows64_len]; omega)) only [va0, va1, va2, va3, va4, va5, va6, va7, va8, va9, va10, va11, va12, va13, va14, vb0, vb1, vb2, vb3, w_i8, w_u8, w_i16, w_u16, w_i32, w_u32, w_i64, w_u64, lt_T, lt_F, le_T, le_F, nlt_T, nlt_F, nle_T, nle_F, List.take_of_length_le, gB, gcW, gcR, posIn, renA, renL, Chunk.ren, Chunk.refs, evOpD, touchD, stepC, isFresh, nFresh, freshOf, mkR, hole, evL, evH, opd, get, putD, ofVal, cellOf, loadE, behind, lenE, idxAddrE, idxE, addPtr, intE, strE, unE, convE, AV.int, AV.bool, AV.str, ivs, take, frameOf, firstRegion, refsA, refsL, one, cellsA, floatOk, apartT, List.map, if_true, if_false, E_P, E_glob0, reduceCtorEq, beq_self_eq_true, decide_true, decide_false, ↓reduceIte, Nat.reduceEqDiff, cond_true, cond_false, or_true, true_or, or_false, false_or, and_true, true_and, and_self, false_and, and_false, not_true, not_false_iff, Nat.reduceAdd, Nat.reduceSub, Nat.reduceMul, Nat.reduceLT, Nat.reduceLeDiff, Int.reduceToNat, Int.reduceLT, Int.reduceLE, Option.getD, Int.reduceMul, Int.reduceAdd, List.drop, List.take, Nat.reduceBEq, List.isEmpty, Int.reduceEq, Int.reduceNe, Int.reduceNeg, Int.reduceGT, Int.reduceGE, beq_true, beq_false, UInt8.reduceToNat, eqE, eq_self, foldE, maxE, minE, eq_T, eq_F, ndec, odec, adec, sdec, fillA, over, chop, List.replicate, leavesOk, leafOk, cellsEq, cellEq, E_byref, en13, bs23, e, f0, f6, f7, f8, hb, hs1, ik24, t2, ht2, e2', e3', k6, k9, k10, hik3, List.length_nil, List.drop_nil, List.take_nil, Nat.sub_zero, List.length_cons, List.take_of_length_le, rows64_len, show ∀ B fr H, execT E B 13 (Code.loop _) fr H = rlG E B 13 (loopAt Tryd.f13 0) (gcn B (norm [0, 6, 7, 8] fr) H) from fun B fr H => rl_intro rfl mt13_7 mb13_7 zf13_7 hd13_7 fr H, show ∀ B fr H, execT E B 13 (Code.loop _) fr H = rlG E B 13 (loopAt Tryd.f13 1) (gcn B (norm [6, 9, 10, 11] fr) H) from fun B fr H => rl_intro rfl mt13_11 mb13_11 zf13_11 hd13_11 fr H, show ∀ B fr H, execT E B 13 (Code.loop _) fr H = rlM E B 13 (loopAt Tryd.f13 2) [6, 9, 10, 12, 13, 14] [] (matF [(12, 1)] fr H).1 (matB [] (matF [(12, 1)] fr H).1 (matF [(12, 1)] fr H).2) from fun B fr H => rl_introM rfl mt13_20 mb13_20 zf13_20 hd13_20 fr H]
    exact ⟨_, rfl⟩
  · obtain ⟨b, r, rfl, hbc⟩ : ∃ b r, s = b :: r ∧ (privB b.toNat = true ∧ m = b.toNat ∧ i0 = 1 ∨ privB b.toNat = false ∧ m = 0 ∧ i0 = 0) := by
      rcases hcase with ⟨h, _⟩ | h
      · exact absurd h hne
      · exact h
    clear hcase hne
    rcases hbc with ⟨hb, rfl, rfl⟩ | ⟨hb, rfl, rfl⟩
    · simp only [List.length_cons] at tl hs hi0 
      have hs1 : r.take (1 + p.length - 1) = p := by simpa using hslice 
      have ht2 := t2 
      (try simp only [Nat.zero_add] at ht2) 
      (try simp only [Int.natCast_zero, Int.natCast_one, Nat.zero_add] at e f7 f8); rw [callT_eq Tryd.func13 rfl fok13 (by simp [Tryd.ntmps13])] 
      rcases hh2 with ⟨h1, rfl, rfl, k2, k3, k4, k5⟩ | ⟨h1, rfl, rfl, k6, k9, k10⟩ 
      · rw [h1] 
        simp only [Bool.not_true, if_true] 
        simp (disch := first | omega | (simp only [List.length_append, List.length_map, List.length_set, List.length_cons, List.length_nil, List.length_take, List.length_drop, rows64_len]; omega)) only [va0, va1, va2, va3, va4, va5, va6, va7, va8, va9, va10, va11, va12, va13, va14, vb0, vb1, vb2, vb3, w_i8, w_u8, w_i16, w_u16, w_i32, w_u32, w_i64, w_u64, lt_T, lt_F, le_T, le_F, nlt_T, nlt_F, nle_T, nle_F, List.take_of_length_le, gB, gcW, gcR, posIn, renA, renL, Chunk.ren, Chunk.refs, evOpD, touchD, stepC, isFresh, nFresh, freshOf, mkR, hole, evL, evH, opd, get, putD, ofVal, cellOf, loadE, behind, lenE, idxAddrE, idxE, addPtr, intE, strE, unE, convE, AV.int, AV.bool, AV.str, ivs, take, frameOf, firstRegion, refsA, refsL, one, cellsA, floatOk, apartT, List.map, if_true, if_false, E_P, E_glob0, reduceCtorEq, beq_self_eq_true, decide_true, decide_false, ↓reduceIte, Nat.reduceEqDiff, cond_true, cond_false, or_true, true_or, or_false, false_or, and_true, true_and, and_self, false_and, and_false, not_true, not_false_iff, Nat.reduceAdd, Nat.reduceSub, Nat.reduceMul, Nat.reduceLT, Nat.reduceLeDiff, Int.reduceToNat, Int.reduceLT, Int.reduceLE, Option.getD, Int.reduceMul, Int.reduceAdd, List.drop, List.take, Nat.reduceBEq, List.isEmpty, Int.reduceEq, Int.reduceNe, Int.reduceNeg, Int.reduceGT, Int.reduceGE, beq_true, beq_false, UInt8.reduceToNat, eqE, eq_self, foldE, maxE, minE, eq_T, eq_F, ndec, odec, adec, sdec, fillA, over, chop, List.replicate, leavesOk, leafOk, cellsEq, cellEq, E_byref, en13, bs23, e, f0, f6, f7, f8, hb, hs1, ik24, t2, ht2, e2', e3', k2, k3, k4, k5, Nat.sub_zero, List.length_cons, List.take_of_length_le, rows64_len, show ∀ B fr H, execT E B 13 (Code.loop _) fr H = rlG E B 13 (loopAt Tryd.f13 0) (gcn B (norm [0, 6, 7, 8] fr) H) from fun B fr H => rl_intro rfl mt13_7 mb13_7 zf13_7 hd13_7 fr H, show ∀ B fr H, execT E B 13 (Code.loop _) fr H = rlG E B 13 (loopAt Tryd.f13 1) (gcn B (norm [6, 9, 10, 11] fr) H) from fun B fr H => rl_intro rfl mt13_11 mb13_11 zf13_11 hd13_11 fr H, show ∀ B fr H, execT E B 13 (Code.loop _) fr H = rlM E B 13 (loopAt Tryd.f13 2) [6, 9, 10, 12, 13, 14] [] (matF [(12, 1)] fr H).1 (matB [] (matF [(12, 1)] fr H).1 (matF [(12, 1)] fr H).2) from fun B fr H => rl_introM rfl mt13_20 mb13_20 zf13_20 hd13_20 fr H] 
        exact ⟨_, rfl⟩ 
      · rw [h1] 
        simp only [Bool.not_false, reduceCtorEq, if_false] 
        by_cases hp0 : p = [] 
        · rw [if_pos hp0, hlim0] 
          by_cases h2 : q.length ≤ 2 
          all_goals simp only [h2, decide_true, decide_false, reduceCtorEq, if_true, if_false] 
          all_goals subst hp0 
          all_goals (try simp only [List.length_nil, Nat.add_zero, List.drop_succ_cons, List.drop_zero] at ht2) 
          all_goals subst ht2 
          all_goals have ht2 := trivial 
          all_goals (try simp only [List.length_cons] at h2) 
          all_goals simp (disch := first | omega | (simp only [List.length_append, List.length_map, List.length_set, List.length_cons, List.length_nil, List.length_take, List.length_drop, rows64_len]; omega)) only [va0, va1, va2, va3, va4, va5, va6, va7, va8, va9, va10, va11, va12, va13, va14, vb0, vb1, vb2, vb3, w_i8, w_u8, w_i16, w_u16, w_i32, w_u32, w_i64, w_u64, lt_T, lt_F, le_T, le_F, nlt_T, nlt_F, nle_T, nle_F, List.take_of_length_le, gB, gcW, gcR, posIn, renA, renL, Chunk.ren, Chunk.refs, evOpD, touchD, stepC, isFresh, nFresh, freshOf, mkR, hole, evL, evH, opd, get, putD, ofVal, cellOf, loadE, behind, lenE, idxAddrE, idxE, addPtr, intE, strE, unE, convE, AV.int, AV.bool, AV.str, ivs, take, frameOf, firstRegion, refsA, refsL, one, cellsA, floatOk, apartT, List.map, if_true, if_false, E_P, E_glob0, reduceCtorEq, beq_self_eq_true, decide_true, decide_false, ↓reduceIte, Nat.reduceEqDiff, cond_true, cond_false, or_true, true_or, or_false, false_or, and_true, true_and, and_self, false_and, and_false, not_true, not_false_iff, Nat.reduceAdd, Nat.reduceSub, Nat.reduceMul, Nat.reduceLT, Nat.reduceLeDiff, Int.reduceToNat, Int.reduceLT, Int.reduceLE, Option.getD, Int.reduceMul, Int.reduceAdd, List.drop, List.take, Nat.reduceBEq, List.isEmpty, Int.reduceEq, Int.reduceNe, Int.reduceNeg, Int.reduceGT, Int.reduceGE, beq_true, beq_false, UInt8.reduceToNat, eqE, eq_self, foldE, maxE, minE, eq_T, eq_F, ndec, odec, adec, sdec, fillA, over, chop, List.replicate, leavesOk, leafOk, cellsEq, cellEq, E_byref, en13, bs23, e, f0, f6, f7, f8, hb, hs1, ik24, t2, ht2, e2', e3', k6, k9, k10, hik3, h2, List.length_nil, Nat.sub_zero, List.length_cons, List.take_of_length_le, rows64_len, show ∀ B fr H, execT E B 13 (Code.loop _) fr H = rlG E B 13 (loopAt Tryd.f13 0) (gcn B (norm [0, 6, 7, 8] fr) H) from fun B fr H => rl_intro rfl mt13_7 mb13_7 zf13_7 hd13_7 fr H, show ∀ B fr H, execT E B 13 (Code.loop _) fr H = rlG E B 13 (loopAt Tryd.f13 1) (gcn B (norm [6, 9, 10, 11] fr) H) from fun B fr H => rl_intro rfl mt13_11 mb13_11 zf13_11 hd13_11 fr H, show ∀ B fr H, execT E B 13 (Code.loop _) fr H = rlM E B 13 (loopAt Tryd.f13 2) [6, 9, 10, 12, 13, 14] [] (matF [(12, 1)] fr H).1 (matB [] (matF [(12, 1)] fr H).1 (matF [(12, 1)] fr H).2) from fun B fr H => rl_introM rfl mt13_20 mb13_20 zf13_20 hd13_20 fr H] 
          all_goals exact ⟨_, rfl⟩ 
        · rw [if_neg hp0, hlimE] 
          have hpe : (p == []) = false := by cases p with | nil => exact absurd rfl hp0 | cons _ _ => rfl 
          by_cases h2 : q.length ≤ 2 
          all_goals cases hbg : anyO l n <;> by_cases h3 : l.length + 1 ≤ 16 
          all_goals (try have hmn' := hmn hbg) 
          all_goals simp only [h2, h3, decide_true, decide_false, Bool.not_true, Bool.not_false, Bool.and_true, Bool.true_and, Bool.and_false, Bool.false_and, if_true, if_false, reduceCtorEq] 
          all_goals simp (disch := first | omega | (simp only [List.length_append, List.length_map, List.length_set, List.length_cons, List.length_nil, List.length_take, List.length_drop, rows64_len]; omega)) only [va0, va1, va2, va3, va4, va5, va6, va7, va8, va9, va10, va11, va12, va13, va14, vb0, vb1, vb2, vb3, w_i8, w_u8, w_i16, w_u16, w_i32, w_u32, w_i64, w_u64, lt_T, lt_F, le_T, le_F, nlt_T, nlt_F, nle_T, nle_F, List.take_of_length_le, gB, gcW, gcR, posIn, renA, renL, Chunk.ren, Chunk.refs, evOpD, touchD, stepC, isFresh, nFresh, freshOf, mkR, hole, evL, evH, opd, get, putD, ofVal, cellOf, loadE, behind, lenE, idxAddrE, idxE, addPtr, intE, strE, unE, convE, AV.int, AV.bool, AV.str, ivs, take, frameOf, firstRegion, refsA, refsL, one, cellsA, floatOk, apartT, List.map, if_true, if_false, E_P, E_glob0, reduceCtorEq, beq_self_eq_true, decide_true, decide_false, ↓reduceIte, Nat.reduceEqDiff, cond_true, cond_false, or_true, true_or, or_false, false_or, and_true, true_and, and_self, false_and, and_false, not_true, not_false_iff, Nat.reduceAdd, Nat.reduceSub, Nat.reduceMul, Nat.reduceLT, Nat.reduceLeDiff, Int.reduceToNat, Int.reduceLT, Int.reduceLE, Option.getD, Int.reduceMul, Int.reduceAdd, List.drop, List.take, Nat.reduceBEq, List.isEmpty, Int.reduceEq, Int.reduceNe, Int.reduceNeg, Int.reduceGT, Int.reduceGE, beq_true, beq_false, UInt8.reduceToNat, eqE, eq_self, foldE, maxE, minE, eq_T, eq_F, ndec, odec, adec, sdec, fillA, over, chop, List.replicate, leavesOk, leafOk, cellsEq, cellEq, E_byref, en13, bs23, e, f0, f6, f7, f8, hb, hs1, ik24, t2, ht2, e2', e3', k6, k9, k10, g6, g10, g12, g13, hbg, hpe, h2, h3, hr1, Nat.sub_zero, List.length_cons, List.take_of_length_le, rows64_len, show ∀ B fr H, execT E B 13 (Code.loop _) fr H = rlG E B 13 (loopAt Tryd.f13 0) (gcn B (norm [0, 6, 7, 8] fr) H) from fun B fr H => rl_intro rfl mt13_7 mb13_7 zf13_7 hd13_7 fr H, show ∀ B fr H, execT E B 13 (Code.loop _) fr H = rlG E B 13 (loopAt Tryd.f13 1) (gcn B (norm [6, 9, 10, 11] fr) H) from fun B fr H => rl_intro rfl mt13_11 mb13_11 zf13_11 hd13_11 fr H, show ∀ B fr H, execT E B 13 (Code.loop _) fr H = rlM E B 13 (loopAt Tryd.f13 2) [6, 9, 10, 12, 13, 14] [] (matF [(12, 1)] fr H).1 (matB [] (matF [(12, 1)] fr H).1 (matF [(12, 1)] fr H).2) from fun B fr H => rl_introM rfl mt13_20 mb13_20 zf13_20 hd13_20 fr H] 
          all_goals (try rw [hmn']) 
          all_goals exact ⟨_, rfl⟩
    · simp only [List.length_cons] at tl hs hi0 
      have hs1 : (b :: r).take p.length = p := by simpa using hslice 
      have ht2 := t2 
      (try simp only [Nat.zero_add] at ht2) 
      (try simp only [Int.natCast_zero, Int.natCast_one, Nat.zero_add] at e f7 f8); rw [callT_eq Tryd.func13 rfl fok13 (by simp [Tryd.ntmps13])] 
      rcases hh2 with ⟨h1, rfl, rfl, k2, k3, k4, k5⟩ | ⟨h1, rfl, rfl, k6, k9, k10⟩ 
      · rw [h1] 
        simp only [Bool.not_true, if_true] 
        simp (disch := first | omega | (simp only [List.length_append, List.length_map, List.length_set, List.length_cons, List.length_nil, List.length_take, List.length_drop, rows64_len]; omega)) only [va0, va1, va2, va3, va4, va5, va6, va7, va8, va9, va10, va11, va12, va13, va14, vb0, vb1, vb2, vb3, w_i8, w_u8, w_i16, w_u16, w_i32, w_u32, w_i64, w_u64, lt_T, lt_F, le_T, le_F, nlt_T, nlt_F, nle_T, nle_F, List.take_of_length_le, gB, gcW, gcR, posIn, renA, renL, Chunk.ren, Chunk.refs, evOpD, touchD, stepC, isFresh, nFresh, freshOf, mkR, hole, evL, evH, opd, get, putD, ofVal, cellOf, loadE, behind, lenE, idxAddrE, idxE, addPtr, intE, strE, unE, convE, AV.int, AV.bool, AV.str, ivs, take, frameOf, firstRegion, refsA, refsL, one, cellsA, floatOk, apartT, List.map, if_true, if_false, E_P, E_glob0, reduceCtorEq, beq_self_eq_true, decide_true, decide_false, ↓reduceIte, Nat.reduceEqDiff, cond_true, cond_false, or_true, true_or, or_false, false_or, and_true, true_and, and_self, false_and, and_false, not_true, not_false_iff, Nat.reduceAdd, Nat.reduceSub, Nat.reduceMul, Nat.reduceLT, Nat.reduceLeDiff, Int.reduceToNat, Int.reduceLT, Int.reduceLE, Option.getD, Int.reduceMul, Int.reduceAdd, List.drop, List.take, Nat.reduceBEq, List.isEmpty, Int.reduceEq, Int.reduceNe, Int.reduceNeg, Int.reduceGT, Int.reduceGE, beq_true, beq_false, UInt8.reduceToNat, eqE, eq_self, foldE, maxE, minE, eq_T, eq_F, ndec, odec, adec, sdec, fillA, over, chop, List.replicate, leavesOk, leafOk, cellsEq, cellEq, E_byref, en13, bs23, e, f0, f6, f7, f8, hb, hs1, ik24, t2, ht2, e2', e3', k2, k3, k4, k5, Nat.sub_zero, List.length_cons, List.take_of_length_le, rows64_len, show ∀ B fr H, execT E B 13 (Code.loop _) fr H = rlG E B 13 (loopAt Tryd.f13 0) (gcn B (norm [0, 6, 7, 8] fr) H) from fun B fr H => rl_intro rfl mt13_7 mb13_7 zf13_7 hd13_7 fr H, show ∀ B fr H, execT E B 13 (Code.loop _) fr H = rlG E B 13 (loopAt Tryd.f13 1) (gcn B (norm [6, 9, 10, 11] fr) H) from fun B fr H => rl_intro rfl mt13_11 mb13_11 zf13_11 hd13_11 fr H, show ∀ B fr H, execT E B 13 (Code.loop _) fr H = rlM E B 13 (loopAt Tryd.f13 2) [6, 9, 10, 12, 13, 14] [] (matF [(12, 1)] fr H).1 (matB [] (matF [(12, 1)] fr H).1 (matF [(12, 1)] fr H).2) from fun B fr H => rl_introM rfl mt13_20 mb13_20 zf13_20 hd13_20 fr H] 
        exact ⟨_, rfl⟩ 
      · rw [h1] 
        simp only [Bool.not_false, reduceCtorEq, if_false] 
        by_cases hp0 : p = [] 
        · rw [if_pos hp0, hlim0] 
          by_cases h2 : q.length ≤ 2 
          all_goals simp only [h2, decide_true, decide_false, reduceCtorEq, if_true, if_false] 
          all_goals subst hp0 
          all_goals (try simp only [List.length_nil, Nat.add_zero, List.drop_succ_cons, List.drop_zero] at ht2) 
          all_goals subst ht2 
          all_goals have ht2 := trivial 
          all_goals (try simp only [List.length_cons] at h2) 
          all_goals simp (disch := first | omega | (simp only [List.length_append, List.length_map, List.length_set, List.length_cons, List.length_nil, List.length_take, List.length_drop, rows64_len]; omega)) only [va0, va1, va2, va3, va4, va5, va6, va7, va8, va9, va10, va11, va12, va13, va14, vb0, vb1, vb2, vb3, w_i8, w_u8, w_i16, w_u16, w_i32, w_u32, w_i64, w_u64, lt_T, lt_F, le_T, le_F, nlt_T, nlt_F, nle_T, nle_F, List.take_of_length_le, gB, gcW, gcR, posIn, renA, renL, Chunk.ren, Chunk.refs, evOpD, touchD, stepC, isFresh, nFresh, freshOf, mkR, hole, evL, evH, opd, get, putD, ofVal, cellOf, loadE, behind, lenE, idxAddrE, idxE, addPtr, intE, strE, unE, convE, AV.int, AV.bool, AV.str, ivs, take, frameOf, firstRegion, refsA, refsL, one, cellsA, floatOk, apartT, List.map, if_true, if_false, E_P, E_glob0, reduceCtorEq, beq_self_eq_true, decide_true, decide_false, ↓reduceIte, Nat.reduceEqDiff, cond_true, cond_false, or_true, true_or, or_false, false_or, and_true, true_and, and_self, false_and, and_false, not_true, not_false_iff, Nat.reduceAdd, Nat.reduceSub, Nat.reduceMul, Nat.reduceLT, Nat.reduceLeDiff, Int.reduceToNat, Int.reduceLT, Int.reduceLE, Option.getD, Int.reduceMul, Int.reduceAdd, List.drop, List.take, Nat.reduceBEq, List.isEmpty, Int.reduceEq, Int.reduceNe, Int.reduceNeg, Int.reduceGT, Int.reduceGE, beq_true, beq_false, UInt8.reduceToNat, eqE, eq_self, foldE, maxE, minE, eq_T, eq_F, ndec, odec, adec, sdec, fillA, over, chop, List.replicate, leavesOk, leafOk, cellsEq, cellEq, E_byref, en13, bs23, e, f0, f6, f7, f8, hb, hs1, ik24, t2, ht2, e2', e3', k6, k9, k10, hik3, h2, List.length_nil, Nat.sub_zero, List.length_cons, List.take_of_length_le, rows64_len, show ∀ B fr H, execT E B 13 (Code.loop _) fr H = rlG E B 13 (loopAt Tryd.f13 0) (gcn B (norm [0, 6, 7, 8] fr) H) from fun B fr H => rl_intro rfl mt13_7 mb13_7 zf13_7 hd13_7 fr H, show ∀ B fr H, execT E B 13 (Code.loop _) fr H = rlG E B 13 (loopAt Tryd.f13 1) (gcn B (norm [6, 9, 10, 11] fr) H) from fun B fr H => rl_intro rfl mt13_11 mb13_11 zf13_11 hd13_11 fr H, show ∀ B fr H, execT E B 13 (Code.loop _) fr H = rlM E B 13 (loopAt Tryd.f13 2) [6, 9, 10, 12, 13, 14] [] (matF [(12, 1)] fr H).1 (matB [] (matF [(12, 1)] fr H).1 (matF [(12, 1)] fr H).2) from fun B fr H => rl_introM rfl mt13_20 mb13_20 zf13_20 hd13_20 fr H] 
          all_goals exact ⟨_, rfl⟩ 
        · rw [if_neg hp0, hlimE] 
          have hpe : (p == []) = false := by cases p with | nil => exact absurd rfl hp0 | cons _ _ => rfl 
          by_cases h2 : q.length ≤ 2 
          all_goals cases hbg : anyO l n <;> by_cases h3 : l.length + 1 ≤ 16 
          all_goals (try have hmn' := hmn hbg) 
          all_goals simp only [h2, h3, decide_true, decide_false, Bool.not_true, Bool.not_false, Bool.and_true, Bool.true_and, Bool.and_false, Bool.false_and, if_true, if_false, reduceCtorEq] 
          all_goals simp (disch := first | omega | (simp only [List.length_append, List.length_map, List.length_set, List.length_cons, List.length_nil, List.length_take, List.length_drop, rows64_len]; omega)) only [va0, va1, va2, va3, va4, va5, va6, va7, va8, va9, va10, va11, va12, va13, va14, vb0, vb1, vb2, vb3, w_i8, w_u8, w_i16, w_u16, w_i32, w_u32, w_i64, w_u64, lt_T, lt_F, le_T, le_F, nlt_T, nlt_F, nle_T, nle_F, List.take_of_length_le, gB, gcW, gcR, posIn, renA, renL, Chunk.ren, Chunk.refs, evOpD, touchD, stepC, isFresh, nFresh, freshOf, mkR, hole, evL, evH, opd, get, putD, ofVal, cellOf, loadE, behind, lenE, idxAddrE, idxE, addPtr, intE, strE, unE, convE, AV.int, AV.bool, AV.str, ivs, take, frameOf, firstRegion, refsA, refsL, one, cellsA, floatOk, apartT, List.map, if_true, if_false, E_P, E_glob0, reduceCtorEq, beq_self_eq_true, decide_true, decide_false, ↓reduceIte, Nat.reduceEqDiff, cond_true, cond_false, or_true, true_or, or_false, false_or, and_true, true_and, and_self, false_and, and_false, not_true, not_false_iff, Nat.reduceAdd, Nat.reduceSub, Nat.reduceMul, Nat.reduceLT, Nat.reduceLeDiff, Int.reduceToNat, Int.reduceLT, Int.reduceLE, Option.getD, Int.reduceMul, Int.reduceAdd, List.drop, List.take, Nat.reduceBEq, List.isEmpty, Int.reduceEq, Int.reduceNe, Int.reduceNeg, Int.reduceGT, Int.reduceGE, beq_true, beq_false, UInt8.reduceToNat, eqE, eq_self, foldE, maxE, minE, eq_T, eq_F, ndec, odec, adec, sdec, fillA, over, chop, List.replicate, leavesOk, leafOk, cellsEq, cellEq, E_byref, en13, bs23, e, f0, f6, f7, f8, hb, hs1, ik24, t2, ht2, e2', e3', k6, k9, k10, g6, g10, g12, g13, hbg, hpe, h2, h3, hr1, Nat.sub_zero, List.length_cons, List.take_of_length_le, rows64_len, show ∀ B fr H, execT E B 13 (Code.loop _) fr H = rlG E B 13 (loopAt Tryd.f13 0) (gcn B (norm [0, 6, 7, 8] fr) H) from fun B fr H => rl_intro rfl mt13_7 mb13_7 zf13_7 hd13_7 fr H, show ∀ B fr H, execT E B 13 (Code.loop _) fr H = rlG E B 13 (loopAt Tryd.f13 1) (gcn B (norm [6, 9, 10, 11] fr) H) from fun B fr H => rl_intro rfl mt13_11 mb13_11 zf13_11 hd13_11 fr H, show ∀ B fr H, execT E B 13 (Code.loop _) fr H = rlM E B 13 (loopAt Tryd.f13 2) [6, 9, 10, 12, 13, 14] [] (matF [(12, 1)] fr H).1 (matB [] (matF [(12, 1)] fr H).1 (matF [(12, 1)] fr H).2) from fun B fr H => rl_introM rfl mt13_20 mb13_20 zf13_20 hd13_20 fr H] 
          all_goals (try rw [hmn']) 
          all_goals exact ⟨_, rfl⟩
theorem ik13 (s : List UInt8) (hs : (s.length : Int) < 50000) (H : Hp) : isoK E (callT E) 13 [.i (.str s)] H = some (parseA (parseS s), H) := isoK_val rfl rfl rfl (c13 s hs)
end Go.VI
