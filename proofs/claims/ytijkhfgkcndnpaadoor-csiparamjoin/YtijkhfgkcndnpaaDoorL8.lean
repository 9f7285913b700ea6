import Derived.Test.YtijkhfgkcndnpaaDoorL7
namespace Go.VI
open Go.Proofs
set_option maxRecDepth 100000
set_option linter.unusedSimpArgs false
set_option linter.unusedVariables false
set_option maxHeartbeats 8000000
/-! CsiparamJoin -/
theorem rows64_cons (n : Int) (l : List Int) : [IV.v (.int .i64 n)] :: rows64 l = rows64 (n :: l) := rfl
theorem rows64_nil : rows64 [] = [] := rfl
theorem lim_m1 : limB [-1] [] = true := rfl
theorem plS_nil : plS [] = [-1] := rfl
theorem join_main (A B : List UInt8) (hpa : A.all pB = true) (hpb : B.all pB = true) (hlen : (A.length : Int) + B.length ≤ 200) (e1 e2 : Bool) (h1 : limB (plS A) [] = e1) (h2 : limB (plS B) [] = e2) :
    (∀ H, isoK E (callT E) 12 [.i (.str (A ++ 59 :: B))] H = some (.tup [.i (.v (.int .u8 0)), .i (.sl 1 (if (e1 && e2 && decide ((plS A).length + (plS B).length ≤ 16)) = true then rows64 (plS A ++ plS B) else []) false), .i (.str []), .i (.v (.int .i64 (if (e1 && e2 && decide ((plS A).length + (plS B).length ≤ 16)) = true then 0 else 5)))], H)) ∧
    (∀ H, isoK E (callT E) 12 [.i (.str A)] H = some (.tup [.i (.v (.int .u8 0)), .i (.sl 1 (if e1 = true then (if A = [] then [] else rows64 (plS A)) else []) false), .i (.str []), .i (.v (.int .i64 (if e1 = true then 0 else 5)))], H)) ∧
    (∀ H, isoK E (callT E) 12 [.i (.str B)] H = some (.tup [.i (.v (.int .u8 0)), .i (.sl 1 (if e2 = true then (if B = [] then [] else rows64 (plS B)) else []) false), .i (.str []), .i (.v (.int .i64 (if e2 = true then 0 else 5)))], H)) := by
  have qc := ik12 (A ++ 59 :: B) (by simp only [List.length_append, List.length_cons]; omega) 
  have hne : A ++ 59 :: B ≠ [] := by simp 
  rw [parse_dig (by simp only [List.all_append, List.all_cons, hpa, hpb]; decide), plS_join hpa hpb, lim_app, if_neg hne] at qc 
  have qa := ik12 A (by omega) 
  have qb := ik12 B (by omega) 
  rw [parse_dig hpa] at qa 
  rw [parse_dig hpb] at qb
  rw [h1, h2] at qc
  rw [h1] at qa
  rw [h2] at qb
  refine ⟨fun H => ?_, fun H => ?_, fun H => ?_⟩
  · rw [qc]
    generalize (e1 && e2 && decide ((plS A).length + (plS B).length ≤ 16)) = z
    cases z <;> rfl
  · rw [qa]
    cases e1
    · rfl
    · by_cases h : A = []
      · subst h; rfl
      · simp only [if_neg h]; rfl
  · rw [qb]
    cases e2
    · rfl
    · by_cases h : B = []
      · subst h; rfl
      · simp only [if_neg h]; rfl
theorem plS_len (A : List UInt8) : (plS A).length ≤ A.length + 1 := by
  unfold plS
  have := (runP_len A [] (-1)).1
  simp at this ⊢
  omega
theorem c9 (a b : List UInt8) (ha : a.length ≤ 0x7ffffffff000) (hb : b.length ≤ 0x7ffffffff000) :
    ∃ L, callT E 9 [.i (.str a), .i (.str b)] [] = some (.i (.v (.bool true)), L) := by
  have hw : IntKind.i64.wrap ((a.length : Int) + b.length) = a.length + b.length := by rw [IntKind.wrap_i64]; omega
  have hda := ik19 a ha
  have hdb := ik19 b hb
  by_cases h : 200 < (a.length : Int) + b.length
  · rw [callT_eq Tryd.func9 rfl fok9 (by simp [Tryd.ntmps9])]
    simp (disch := first | omega | (simp only [List.length_append, List.length_map, List.length_set, List.length_cons, List.length_nil, List.length_take, List.length_drop]; omega)) only [va0, va1, va2, va3, va4, va5, va6, va7, va8, va9, va10, va11, va12, va13, va14, vb0, vb1, vb2, vb3, w_i8, w_u8, w_i16, w_u16, w_i32, w_u32, w_i64, w_u64, lt_T, lt_F, le_T, le_F, nlt_T, nlt_F, nle_T, nle_F, List.take_of_length_le, gB, gcW, gcR, posIn, renA, renL, Chunk.ren, Chunk.refs, evOpD, touchD, stepC, isFresh, nFresh, freshOf, mkR, hole, evL, evH, opd, get, putD, ofVal, cellOf, loadE, behind, lenE, idxAddrE, idxE, addPtr, intE, strE, unE, convE, AV.int, AV.bool, AV.str, ivs, take, frameOf, firstRegion, refsA, refsL, one, cellsA, floatOk, apartT, List.map, if_true, if_false, E_P, E_glob0, reduceCtorEq, beq_self_eq_true, decide_true, decide_false, ↓reduceIte, Nat.reduceEqDiff, cond_true, cond_false, or_true, true_or, or_false, false_or, and_true, true_and, and_self, false_and, and_false, not_true, not_false_iff, Nat.reduceAdd, Nat.reduceSub, Nat.reduceMul, Nat.reduceLT, Nat.reduceLeDiff, Int.reduceToNat, Int.reduceLT, Int.reduceLE, Option.getD, Int.reduceMul, Int.reduceAdd, List.drop, List.take, Nat.reduceBEq, List.isEmpty, Int.reduceEq, Int.reduceNe, Int.reduceNeg, Int.reduceGT, Int.reduceGE, beq_true, beq_false, UInt8.reduceToNat, eqE, eq_self, foldE, maxE, minE, eq_T, eq_F, ndec, odec, adec, sdec, fillA, over, chop, List.replicate, leavesOk, leafOk, cellsEq, cellEq, E_byref, en9, bs23, hw, ik11]
    exact ⟨_, rfl⟩
  · have hla := plS_len a
    have hlb := plS_len b
    by_cases ha0 : a ≠ [] ∧ a.all pB = false
    · obtain ⟨p1, p2⟩ := ha0
      have hpe : (a == []) = false := by cases a with | nil => exact absurd rfl p1 | cons _ _ => rfl
      rw [show digB a = false by simp [digB, p2]] at hda
      rw [callT_eq Tryd.func9 rfl fok9 (by simp [Tryd.ntmps9])]
      simp (disch := first | omega | (simp only [List.length_append, List.length_map, List.length_set, List.length_cons, List.length_nil, List.length_take, List.length_drop]; omega)) only [va0, va1, va2, va3, va4, va5, va6, va7, va8, va9, va10, va11, va12, va13, va14, vb0, vb1, vb2, vb3, w_i8, w_u8, w_i16, w_u16, w_i32, w_u32, w_i64, w_u64, lt_T, lt_F, le_T, le_F, nlt_T, nlt_F, nle_T, nle_F, List.take_of_length_le, gB, gcW, gcR, posIn, renA, renL, Chunk.ren, Chunk.refs, evOpD, touchD, stepC, isFresh, nFresh, freshOf, mkR, hole, evL, evH, opd, get, putD, ofVal, cellOf, loadE, behind, lenE, idxAddrE, idxE, addPtr, intE, strE, unE, convE, AV.int, AV.bool, AV.str, ivs, take, frameOf, firstRegion, refsA, refsL, one, cellsA, floatOk, apartT, List.map, if_true, if_false, E_P, E_glob0, reduceCtorEq, beq_self_eq_true, decide_true, decide_false, ↓reduceIte, Nat.reduceEqDiff, cond_true, cond_false, or_true, true_or, or_false, false_or, and_true, true_and, and_self, false_and, and_false, not_true, not_false_iff, Nat.reduceAdd, Nat.reduceSub, Nat.reduceMul, Nat.reduceLT, Nat.reduceLeDiff, Int.reduceToNat, Int.reduceLT, Int.reduceLE, Option.getD, Int.reduceMul, Int.reduceAdd, List.drop, List.take, Nat.reduceBEq, List.isEmpty, Int.reduceEq, Int.reduceNe, Int.reduceNeg, Int.reduceGT, Int.reduceGE, beq_true, beq_false, UInt8.reduceToNat, eqE, eq_self, foldE, maxE, minE, eq_T, eq_F, ndec, odec, adec, sdec, fillA, over, chop, List.replicate, leavesOk, leafOk, cellsEq, cellEq, E_byref, en9, bs23, hw, hpe, hda, ik11]
      exact ⟨_, rfl⟩
    by_cases hb0 : b ≠ [] ∧ b.all pB = false
    · obtain ⟨p1, p2⟩ := hb0
      have hpe : (b == []) = false := by cases b with | nil => exact absurd rfl p1 | cons _ _ => rfl
      rw [show digB b = false by simp [digB, p2]] at hdb
      by_cases ha1 : a = []
      · subst ha1
        rw [callT_eq Tryd.func9 rfl fok9 (by simp [Tryd.ntmps9])]
        simp (disch := first | omega | (simp only [List.length_append, List.length_map, List.length_set, List.length_cons, List.length_nil, List.length_take, List.length_drop]; omega)) only [va0, va1, va2, va3, va4, va5, va6, va7, va8, va9, va10, va11, va12, va13, va14, vb0, vb1, vb2, vb3, w_i8, w_u8, w_i16, w_u16, w_i32, w_u32, w_i64, w_u64, lt_T, lt_F, le_T, le_F, nlt_T, nlt_F, nle_T, nle_F, List.take_of_length_le, gB, gcW, gcR, posIn, renA, renL, Chunk.ren, Chunk.refs, evOpD, touchD, stepC, isFresh, nFresh, freshOf, mkR, hole, evL, evH, opd, get, putD, ofVal, cellOf, loadE, behind, lenE, idxAddrE, idxE, addPtr, intE, strE, unE, convE, AV.int, AV.bool, AV.str, ivs, take, frameOf, firstRegion, refsA, refsL, one, cellsA, floatOk, apartT, List.map, if_true, if_false, E_P, E_glob0, reduceCtorEq, beq_self_eq_true, decide_true, decide_false, ↓reduceIte, Nat.reduceEqDiff, cond_true, cond_false, or_true, true_or, or_false, false_or, and_true, true_and, and_self, false_and, and_false, not_true, not_false_iff, Nat.reduceAdd, Nat.reduceSub, Nat.reduceMul, Nat.reduceLT, Nat.reduceLeDiff, Int.reduceToNat, Int.reduceLT, Int.reduceLE, Option.getD, Int.reduceMul, Int.reduceAdd, List.drop, List.take, Nat.reduceBEq, List.isEmpty, Int.reduceEq, Int.reduceNe, Int.reduceNeg, Int.reduceGT, Int.reduceGE, beq_true, beq_false, UInt8.reduceToNat, eqE, eq_self, foldE, maxE, minE, eq_T, eq_F, ndec, odec, adec, sdec, fillA, over, chop, List.replicate, leavesOk, leafOk, cellsEq, cellEq, E_byref, en9, bs23, hw, hpe, hda, hdb, ik11]
        exact ⟨_, rfl⟩
      · have hpa : (a == []) = false := by cases a with | nil => exact absurd rfl ha1 | cons _ _ => rfl
        have hall : a.all pB = true := by cases h9 : a.all pB with | true => rfl | false => exact absurd ⟨ha1, h9⟩ ha0
        rw [show digB a = true by cases a with | nil => exact absurd rfl ha1 | cons _ _ => simp only [digB, hall]; rfl] at hda
        rw [callT_eq Tryd.func9 rfl fok9 (by simp [Tryd.ntmps9])]
        simp (disch := first | omega | (simp only [List.length_append, List.length_map, List.length_set, List.length_cons, List.length_nil, List.length_take, List.length_drop]; omega)) only [va0, va1, va2, va3, va4, va5, va6, va7, va8, va9, va10, va11, va12, va13, va14, vb0, vb1, vb2, vb3, w_i8, w_u8, w_i16, w_u16, w_i32, w_u32, w_i64, w_u64, lt_T, lt_F, le_T, le_F, nlt_T, nlt_F, nle_T, nle_F, List.take_of_length_le, gB, gcW, gcR, posIn, renA, renL, Chunk.ren, Chunk.refs, evOpD, touchD, stepC, isFresh, nFresh, freshOf, mkR, hole, evL, evH, opd, get, putD, ofVal, cellOf, loadE, behind, lenE, idxAddrE, idxE, addPtr, intE, strE, unE, convE, AV.int, AV.bool, AV.str, ivs, take, frameOf, firstRegion, refsA, refsL, one, cellsA, floatOk, apartT, List.map, if_true, if_false, E_P, E_glob0, reduceCtorEq, beq_self_eq_true, decide_true, decide_false, ↓reduceIte, Nat.reduceEqDiff, cond_true, cond_false, or_true, true_or, or_false, false_or, and_true, true_and, and_self, false_and, and_false, not_true, not_false_iff, Nat.reduceAdd, Nat.reduceSub, Nat.reduceMul, Nat.reduceLT, Nat.reduceLeDiff, Int.reduceToNat, Int.reduceLT, Int.reduceLE, Option.getD, Int.reduceMul, Int.reduceAdd, List.drop, List.take, Nat.reduceBEq, List.isEmpty, Int.reduceEq, Int.reduceNe, Int.reduceNeg, Int.reduceGT, Int.reduceGE, beq_true, beq_false, UInt8.reduceToNat, eqE, eq_self, foldE, maxE, minE, eq_T, eq_F, ndec, odec, adec, sdec, fillA, over, chop, List.replicate, leavesOk, leafOk, cellsEq, cellEq, E_byref, en9, bs23, hw, hpe, hpa, hda, hdb, ik11]
        exact ⟨_, rfl⟩
    have pa : a.all pB = true := by
      by_cases h0 : a = []
      · subst h0; rfl
      · cases h9 : a.all pB with | true => rfl | false => exact absurd ⟨h0, h9⟩ ha0
    have pb : b.all pB = true := by
      by_cases h0 : b = []
      · subst h0; rfl
      · cases h9 : b.all pB with | true => rfl | false => exact absurd ⟨h0, h9⟩ hb0
    obtain ⟨qc, qa, qb⟩ := join_main a b pa pb (by omega) _ _ rfl rfl
    by_cases ha1 : a = []
    · subst ha1
      rw [plS_nil, lim_m1] at qa qc
      simp only [List.nil_append] at qc
      by_cases hb1 : b = []
      · subst hb1
        rw [plS_nil, lim_m1] at qb qc
        have hl := trivial
        have qc : ∀ H, isoK E (callT E) 12 [.i (.str [59])] H = some (.tup [.i (.v (.int .u8 0)), .i (.sl 1 [[.v (.int .i64 (-1))], [.v (.int .i64 (-1))]] false), .i (.str []), .i (.v (.int .i64 0))], H) := qc
        have qa : ∀ H, isoK E (callT E) 12 [.i (.str [])] H = some (.tup [.i (.v (.int .u8 0)), .i (.sl 1 [] false), .i (.str []), .i (.v (.int .i64 0))], H) := qa
        have qs : ∀ H, isoK E (callT E) 14 [.i (.sl 1 [[.v (.int .i64 (-1))], [.v (.int .i64 (-1))]] false), .i (.sl 1 [[.v (.int .i64 (-1))], [.v (.int .i64 (-1))]] false)] H = some (.i (.v (.bool true)), H) := ik14 [-1, -1] (by decide)
        clear qb
        rw [callT_eq Tryd.func9 rfl fok9 (by simp [Tryd.ntmps9])]
        simp (disch := first | omega | (simp only [List.length_append, List.length_map, List.length_set, List.length_cons, List.length_nil, List.length_take, List.length_drop]; omega)) only [va0, va1, va2, va3, va4, va5, va6, va7, va8, va9, va10, va11, va12, va13, va14, vb0, vb1, vb2, vb3, w_i8, w_u8, w_i16, w_u16, w_i32, w_u32, w_i64, w_u64, lt_T, lt_F, le_T, le_F, nlt_T, nlt_F, nle_T, nle_F, List.take_of_length_le, gB, gcW, gcR, posIn, renA, renL, Chunk.ren, Chunk.refs, evOpD, touchD, stepC, isFresh, nFresh, freshOf, mkR, hole, evL, evH, opd, get, putD, ofVal, cellOf, loadE, behind, lenE, idxAddrE, idxE, addPtr, intE, strE, unE, convE, AV.int, AV.bool, AV.str, ivs, take, frameOf, firstRegion, refsA, refsL, one, cellsA, floatOk, apartT, List.map, if_true, if_false, E_P, E_glob0, reduceCtorEq, beq_self_eq_true, decide_true, decide_false, ↓reduceIte, Nat.reduceEqDiff, cond_true, cond_false, or_true, true_or, or_false, false_or, and_true, true_and, and_self, false_and, and_false, not_true, not_false_iff, Nat.reduceAdd, Nat.reduceSub, Nat.reduceMul, Nat.reduceLT, Nat.reduceLeDiff, Int.reduceToNat, Int.reduceLT, Int.reduceLE, Option.getD, Int.reduceMul, Int.reduceAdd, List.drop, List.take, Nat.reduceBEq, List.isEmpty, Int.reduceEq, Int.reduceNe, Int.reduceNeg, Int.reduceGT, Int.reduceGE, beq_true, beq_false, UInt8.reduceToNat, eqE, eq_self, foldE, maxE, minE, eq_T, eq_F, ndec, odec, adec, sdec, fillA, over, chop, List.replicate, leavesOk, leafOk, cellsEq, cellEq, E_byref, en9, bs23, hw, qa, qc, qs, List.append_assoc, List.cons_append, List.nil_append, List.append_nil, List.take_of_length_le, List.length_cons, List.length_nil, hda, ik11]
        exact ⟨_, rfl⟩
      · have hpb : (b == []) = false := by cases b with | nil => exact absurd rfl hb1 | cons _ _ => rfl
        rw [show digB b = true by cases b with | nil => exact absurd rfl hb1 | cons _ _ => simp only [digB, pb]; rfl] at hdb
        simp only [if_neg hb1] at qb
        generalize limB (plS b) [] = e2 at *
        generalize plS b = lb at *
        clear ha0 hb0 pa pb hb1
        simp only [List.length_cons, List.length_nil, List.cons_append, List.nil_append, if_true] at qa qc
        have hpa := trivial
        by_cases hl : 0 + 1 + lb.length ≤ 16 <;> cases e2
        
        all_goals (try simp only [Bool.and_self, Bool.true_and, Bool.false_and, Bool.and_false, Bool.and_true, decide_true, decide_false, hl, reduceCtorEq, if_true, if_false] at qa qb qc) 
        all_goals rw [callT_eq Tryd.func9 rfl fok9 (by simp [Tryd.ntmps9])] 
        all_goals simp (disch := first | omega | (simp only [List.length_append, List.length_map, List.length_set, List.length_cons, List.length_nil, List.length_take, List.length_drop, rows64_len]; omega)) only [va0, va1, va2, va3, va4, va5, va6, va7, va8, va9, va10, va11, va12, va13, va14, vb0, vb1, vb2, vb3, w_i8, w_u8, w_i16, w_u16, w_i32, w_u32, w_i64, w_u64, lt_T, lt_F, le_T, le_F, nlt_T, nlt_F, nle_T, nle_F, List.take_of_length_le, gB, gcW, gcR, posIn, renA, renL, Chunk.ren, Chunk.refs, evOpD, touchD, stepC, isFresh, nFresh, freshOf, mkR, hole, evL, evH, opd, get, putD, ofVal, cellOf, loadE, behind, lenE, idxAddrE, idxE, addPtr, intE, strE, unE, convE, AV.int, AV.bool, AV.str, ivs, take, frameOf, firstRegion, refsA, refsL, one, cellsA, floatOk, apartT, List.map, if_true, if_false, E_P, E_glob0, reduceCtorEq, beq_self_eq_true, decide_true, decide_false, ↓reduceIte, Nat.reduceEqDiff, cond_true, cond_false, or_true, true_or, or_false, false_or, and_true, true_and, and_self, false_and, and_false, not_true, not_false_iff, Nat.reduceAdd, Nat.reduceSub, Nat.reduceMul, Nat.reduceLT, Nat.reduceLeDiff, Int.reduceToNat, Int.reduceLT, Int.reduceLE, Option.getD, Int.reduceMul, Int.reduceAdd, List.drop, List.take, Nat.reduceBEq, List.isEmpty, Int.reduceEq, Int.reduceNe, Int.reduceNeg, Int.reduceGT, Int.reduceGE, beq_true, beq_false, UInt8.reduceToNat, eqE, eq_self, foldE, maxE, minE, eq_T, eq_F, ndec, odec, adec, sdec, fillA, over, chop, List.replicate, leavesOk, leafOk, cellsEq, cellEq, E_byref, en9, bs23, hw, qa, qb, qc, hpa, hpb, hl, rows64_len, rows64_app, rows64_snoc, rows64_cons, List.append_assoc, List.cons_append, List.nil_append, List.append_nil, List.take_of_length_le, List.length_cons, List.length_nil, hda, hdb, ik11, ik14] 
        all_goals exact ⟨_, rfl⟩
    · have hpa : (a == []) = false := by cases a with | nil => exact absurd rfl ha1 | cons _ _ => rfl
      rw [show digB a = true by cases a with | nil => exact absurd rfl ha1 | cons _ _ => simp only [digB, pa]; rfl] at hda
      simp only [if_neg ha1] at qa
      by_cases hb1 : b = []
      · subst hb1
        rw [plS_nil, lim_m1] at qb qc
        generalize limB (plS a) [] = e1 at *
        generalize plS a = la at *
        clear ha0 hb0 pa pb ha1
        simp only [List.length_cons, List.length_nil, if_true] at qb qc
        have hpb := trivial
        by_cases hl : la.length + (0 + 1) ≤ 16 <;> cases e1
        
        all_goals (try simp only [Bool.and_self, Bool.true_and, Bool.false_and, Bool.and_false, Bool.and_true, decide_true, decide_false, hl, reduceCtorEq, if_true, if_false] at qa qb qc) 
        all_goals rw [callT_eq Tryd.func9 rfl fok9 (by simp [Tryd.ntmps9])] 
        all_goals simp (disch := first | omega | (simp only [List.length_append, List.length_map, List.length_set, List.length_cons, List.length_nil, List.length_take, List.length_drop, rows64_len]; omega)) only [va0, va1, va2, va3, va4, va5, va6, va7, va8, va9, va10, va11, va12, va13, va14, vb0, vb1, vb2, vb3, w_i8, w_u8, w_i16, w_u16, w_i32, w_u32, w_i64, w_u64, lt_T, lt_F, le_T, le_F, nlt_T, nlt_F, nle_T, nle_F, List.take_of_length_le, gB, gcW, gcR, posIn, renA, renL, Chunk.ren, Chunk.refs, evOpD, touchD, stepC, isFresh, nFresh, freshOf, mkR, hole, evL, evH, opd, get, putD, ofVal, cellOf, loadE, behind, lenE, idxAddrE, idxE, addPtr, intE, strE, unE, convE, AV.int, AV.bool, AV.str, ivs, take, frameOf, firstRegion, refsA, refsL, one, cellsA, floatOk, apartT, List.map, if_true, if_false, E_P, E_glob0, reduceCtorEq, beq_self_eq_true, decide_true, decide_false, ↓reduceIte, Nat.reduceEqDiff, cond_true, cond_false, or_true, true_or, or_false, false_or, and_true, true_and, and_self, false_and, and_false, not_true, not_false_iff, Nat.reduceAdd, Nat.reduceSub, Nat.reduceMul, Nat.reduceLT, Nat.reduceLeDiff, Int.reduceToNat, Int.reduceLT, Int.reduceLE, Option.getD, Int.reduceMul, Int.reduceAdd, List.drop, List.take, Nat.reduceBEq, List.isEmpty, Int.reduceEq, Int.reduceNe, Int.reduceNeg, Int.reduceGT, Int.reduceGE, beq_true, beq_false, UInt8.reduceToNat, eqE, eq_self, foldE, maxE, minE, eq_T, eq_F, ndec, odec, adec, sdec, fillA, over, chop, List.replicate, leavesOk, leafOk, cellsEq, cellEq, E_byref, en9, bs23, hw, qa, qb, qc, hpa, hpb, hl, rows64_len, rows64_app, rows64_snoc, rows64_cons, List.append_assoc, List.cons_append, List.nil_append, List.append_nil, List.take_of_length_le, List.length_cons, List.length_nil, hda, hdb, ik11, ik14] 
        all_goals exact ⟨_, rfl⟩
      · have hpb : (b == []) = false := by cases b with | nil => exact absurd rfl hb1 | cons _ _ => rfl
        rw [show digB b = true by cases b with | nil => exact absurd rfl hb1 | cons _ _ => simp only [digB, pb]; rfl] at hdb
        simp only [if_neg hb1] at qb
        generalize limB (plS a) [] = e1 at *
        generalize limB (plS b) [] = e2 at *
        generalize plS a = la at *
        generalize plS b = lb at *
        clear ha0 hb0 pa pb ha1 hb1
        by_cases hl : la.length + lb.length ≤ 16 <;> cases e1 <;> cases e2
        
        all_goals (try simp only [Bool.and_self, Bool.true_and, Bool.false_and, Bool.and_false, Bool.and_true, decide_true, decide_false, hl, reduceCtorEq, if_true, if_false] at qa qb qc) 
        all_goals rw [callT_eq Tryd.func9 rfl fok9 (by simp [Tryd.ntmps9])] 
        all_goals simp (disch := first | omega | (simp only [List.length_append, List.length_map, List.length_set, List.length_cons, List.length_nil, List.length_take, List.length_drop, rows64_len]; omega)) only [va0, va1, va2, va3, va4, va5, va6, va7, va8, va9, va10, va11, va12, va13, va14, vb0, vb1, vb2, vb3, w_i8, w_u8, w_i16, w_u16, w_i32, w_u32, w_i64, w_u64, lt_T, lt_F, le_T, le_F, nlt_T, nlt_F, nle_T, nle_F, List.take_of_length_le, gB, gcW, gcR, posIn, renA, renL, Chunk.ren, Chunk.refs, evOpD, touchD, stepC, isFresh, nFresh, freshOf, mkR, hole, evL, evH, opd, get, putD, ofVal, cellOf, loadE, behind, lenE, idxAddrE, idxE, addPtr, intE, strE, unE, convE, AV.int, AV.bool, AV.str, ivs, take, frameOf, firstRegion, refsA, refsL, one, cellsA, floatOk, apartT, List.map, if_true, if_false, E_P, E_glob0, reduceCtorEq, beq_self_eq_true, decide_true, decide_false, ↓reduceIte, Nat.reduceEqDiff, cond_true, cond_false, or_true, true_or, or_false, false_or, and_true, true_and, and_self, false_and, and_false, not_true, not_false_iff, Nat.reduceAdd, Nat.reduceSub, Nat.reduceMul, Nat.reduceLT, Nat.reduceLeDiff, Int.reduceToNat, Int.reduceLT, Int.reduceLE, Option.getD, Int.reduceMul, Int.reduceAdd, List.drop, List.take, Nat.reduceBEq, List.isEmpty, Int.reduceEq, Int.reduceNe, Int.reduceNeg, Int.reduceGT, Int.reduceGE, beq_true, beq_false, UInt8.reduceToNat, eqE, eq_self, foldE, maxE, minE, eq_T, eq_F, ndec, odec, adec, sdec, fillA, over, chop, List.replicate, leavesOk, leafOk, cellsEq, cellEq, E_byref, en9, bs23, hw, qa, qb, qc, hpa, hpb, hl, rows64_len, rows64_app, rows64_snoc, rows64_cons, List.append_assoc, List.cons_append, List.nil_append, List.append_nil, List.take_of_length_le, List.length_cons, List.length_nil, hda, hdb, ik11, ik14] 
        all_goals exact ⟨_, rfl⟩
end Go.VI
