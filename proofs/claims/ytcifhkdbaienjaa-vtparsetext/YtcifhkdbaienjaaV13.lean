import Derived.Test.YtcifhkdbaienjaaV12
namespace Go.VI
open Go.Proofs
set_option maxRecDepth 100000
set_option linter.unusedSimpArgs false
set_option linter.unusedVariables false
set_option maxHeartbeats 4000000
/-! few parameters -/
theorem parse_few (s : List UInt8) : (parseS s).2.1.length ≤ 16 := by
  unfold parseS
  split
  · simp
  · split
    · simp
    · rename_i h
      simp only [Bool.not_eq_false] at h
      unfold limB at h
      simp only [Bool.and_eq_true, decide_eq_true_eq] at h
      exact h.1.1
def evS (l : List Ev) : Prop := ∀ e ∈ l, e.ps.length ≤ 16
theorem evS_nil : evS [] := fun e h => by cases h
theorem evS_one {e : Ev} (h : e.ps.length ≤ 16) : evS [e] := fun x hx => by rw [List.mem_singleton.1 hx]; exact h
theorem evS_app {a b : List Ev} (h : evS a) (k : evS b) : evS (a ++ b) := fun e he => by
  rcases List.mem_append.1 he with h1 | h1
  · exact h e h1
  · exact k e h1
theorem evS_prints (l : List Int) : evS (prints l) := fun e he => by
  unfold prints at he
  obtain ⟨x, _, rfl⟩ := List.mem_map.1 he
  simp [prEv]
theorem evS_lost (pe : List UInt8) : evS (lostS pe) := by
  unfold lostS; split
  · exact evS_nil
  · exact evS_one (by simp [prEv])
theorem evS_plain (p : Ps) (b : UInt8) : evS (plainS p b).2 := by
  unfold plainS
  repeat' split
  · exact evS_prints _
  · exact evS_lost _
  · exact evS_lost _
  · exact evS_app (evS_lost _) (evS_one (by simp [ctEv]))
theorem evS_common {p : Ps} {b : UInt8} {q : Ps × List Ev} (hq : commonS p b = some q) : evS q.2 := by
  unfold commonS at hq
  repeat' split at hq
  all_goals first | cases hq | skip
  all_goals first | exact evS_nil | exact evS_one (by simp [ctEv]) | exact evS_plain _ _
theorem evS_escaped (p : Ps) (b : UInt8) : evS (escapedS p b).2 := by
  unfold escapedS
  cases hq : commonS p b with
  | some q => exact evS_common hq
  | none =>
    simp only
    repeat' split
    all_goals first | exact evS_nil | exact evS_one (by simp [escEv])
theorem evS_sequenced (p : Ps) (b : UInt8) : evS (sequencedS p b).2 := by
  unfold sequencedS
  cases hq : commonS p b with
  | some q => exact evS_common hq
  | none =>
    simp only
    repeat' split
    all_goals first | exact evS_nil | exact evS_one (parse_few _)
theorem evS_read (p : Ps) (b : UInt8) : evS (readS p b).2 := by
  unfold readS
  split
  · exact evS_plain _ _
  · split
    · split
      · exact evS_one (by simp [cmdEv])
      · exact evS_escaped _ _
    · split
      · exact evS_escaped _ _
      · split
        · exact evS_sequenced _ _
        · unfold commandedS
          repeat' split
          all_goals first | exact evS_nil | exact evS_one (by simp [cmdEv])
theorem evS_run : ∀ (s : List UInt8) (p : Ps), evS (runF s p).2
  | [], p => evS_nil
  | b :: r, p => evS_app (evS_read p b) (evS_run r _)
theorem few_of {l : List Ev} (h : evS l) : evFew l := fun e he => by have := h e he; omega
/-! parsers compared -/
theorem eqP (a a' : Int) (b b' c c' : List UInt8) : binE Try.prog .eql 23 (.agg [.i (.v (.int .i64 a)), .i (.str b), .i (.str c)]) (.agg [.i (.v (.int .i64 a')), .i (.str b'), .i (.str c')]) = some (.i (.v (.bool (decide (a = a') && ((b == b') && (c == c')))))) := by
  simp (disch := first | omega | (simp only [List.length_append, List.length_map, List.length_set, List.length_cons, List.length_nil, List.length_take, List.length_drop]; omega)) only [va0, va1, va2, va3, va4, va5, va6, va7, va8, va9, va10, va11, va12, va13, va14, vb0, vb1, vb2, vb3, w_i8, w_u8, w_i16, w_u16, w_i32, w_u32, w_i64, w_u64, lt_T, lt_F, le_T, le_F, nlt_T, nlt_F, nle_T, nle_F, List.take_of_length_le, gB, gcW, gcR, posIn, renA, renL, Chunk.ren, Chunk.refs, evOpD, touchD, stepC, isFresh, nFresh, freshOf, mkR, hole, evL, evH, opd, get, putD, ofVal, cellOf, loadE, behind, lenE, idxAddrE, idxE, addPtr, intE, strE, unE, convE, AV.int, AV.bool, AV.str, ivs, take, frameOf, firstRegion, refsA, refsL, one, cellsA, floatOk, apartT, List.map, if_true, if_false, E_P, E_glob, reduceCtorEq, beq_self_eq_true, decide_true, decide_false, ↓reduceIte, Nat.reduceEqDiff, cond_true, cond_false, or_true, true_or, or_false, false_or, and_true, true_and, and_self, false_and, and_false, not_true, not_false_iff, Nat.reduceAdd, Nat.reduceSub, Nat.reduceMul, Nat.reduceLT, Nat.reduceLeDiff, Int.reduceToNat, Int.reduceLT, Int.reduceLE, Option.getD, Int.reduceMul, Int.reduceAdd, List.drop, List.take, Nat.reduceBEq, List.isEmpty, Int.reduceEq, Int.reduceNe, Int.reduceNeg, Int.reduceGT, Int.reduceGE, beq_true, beq_false, UInt8.reduceToNat, eqE, eq_self, foldE, maxE, minE, eq_T, eq_F, ndec, sdec, fillA, over, chop, List.replicate, leavesOk, leafOk, cellsEq, cellEq, E_ext, E_byref, tyaa, tyab, tyac, tyad, tyae, tyaf, tyag, tyah, tyai, bs27, bs33, bs36, bs45, be_aa]
def isZ (p : Ps) : Bool := decide (p.st = 0) && ((p.pe == []) && (p.bu == []))
def idleS (p : Ps) : Bool := !properS p || isZ p
theorem c13 (p : Ps) (hp : p.pe.length < 40000) (hb : p.bu.length < 100000) : ∃ L, callT E 13 [.agg (psC p)] [] = some (.i (.v (.bool (idleS p))), L) := by
  have hik := fun H => ik15 p hp hb H
  have hz : isZ p = (decide (p.st = 0) && ((p.pe == []) && (p.bu == []))) := rfl
  have he := eqP p.st 0 p.pe [] p.bu []
  rw [← hz] at he
  unfold idleS psC at *
  rw [callT_eq Try.func13 rfl fok13 (by simp [Try.ntmps13])]
  cases hpr : properS p <;> cases hzz : isZ p <;> rw [hpr] at hik <;> rw [hzz] at he
  all_goals simp (disch := first | omega | (simp only [List.length_append, List.length_map, List.length_set, List.length_cons, List.length_nil, List.length_take, List.length_drop]; omega)) only [va0, va1, va2, va3, va4, va5, va6, va7, va8, va9, va10, va11, va12, va13, va14, vb0, vb1, vb2, vb3, w_i8, w_u8, w_i16, w_u16, w_i32, w_u32, w_i64, w_u64, lt_T, lt_F, le_T, le_F, nlt_T, nlt_F, nle_T, nle_F, List.take_of_length_le, gB, gcW, gcR, posIn, renA, renL, Chunk.ren, Chunk.refs, evOpD, touchD, stepC, isFresh, nFresh, freshOf, mkR, hole, evL, evH, opd, get, putD, ofVal, cellOf, loadE, behind, lenE, idxAddrE, idxE, addPtr, intE, strE, unE, convE, AV.int, AV.bool, AV.str, ivs, take, frameOf, firstRegion, refsA, refsL, one, cellsA, floatOk, apartT, List.map, if_true, if_false, E_P, E_glob, reduceCtorEq, beq_self_eq_true, decide_true, decide_false, ↓reduceIte, Nat.reduceEqDiff, cond_true, cond_false, or_true, true_or, or_false, false_or, and_true, true_and, and_self, false_and, and_false, not_true, not_false_iff, Nat.reduceAdd, Nat.reduceSub, Nat.reduceMul, Nat.reduceLT, Nat.reduceLeDiff, Int.reduceToNat, Int.reduceLT, Int.reduceLE, Option.getD, Int.reduceMul, Int.reduceAdd, List.drop, List.take, Nat.reduceBEq, List.isEmpty, Int.reduceEq, Int.reduceNe, Int.reduceNeg, Int.reduceGT, Int.reduceGE, beq_true, beq_false, UInt8.reduceToNat, eqE, eq_self, foldE, maxE, minE, eq_T, eq_F, ndec, odec, adec, sdec, fillA, over, chop, List.replicate, leavesOk, leafOk, cellsEq, cellEq, E_ext, E_byref, en13, hik, he, Bool.not_true, Bool.not_false, Bool.or_true, Bool.or_false]
  all_goals exact ⟨_, rfl⟩
theorem ik13 (p : Ps) (hp : p.pe.length < 40000) (hb : p.bu.length < 100000) (H : Hp) : isoK E (callT E) 13 [.agg (psC p)] H = some (.i (.v (.bool (idleS p))), H) := isoK_val rfl rfl rfl (c13 p hp hb)
theorem c14 (p : Ps) (hp : p.pe.length < 40000) (hb : p.bu.length < 100000) : ∃ L, callT E 14 [.agg (psC p)] [] = some (.i (.v (.bool (idleS p))), L) := by
  have hik := fun H => ik19 p hp hb H
  have hz : isZ p = (decide (p.st = 0) && ((p.pe == []) && (p.bu == []))) := rfl
  have he := eqP p.st 0 p.pe [] p.bu []
  rw [← hz] at he
  unfold idleS psC at *
  rw [callT_eq Try.func14 rfl fok14 (by simp [Try.ntmps14])]
  cases hpr : properS p <;> cases hzz : isZ p <;> rw [hpr] at hik <;> rw [hzz] at he
  all_goals simp (disch := first | omega | (simp only [List.length_append, List.length_map, List.length_set, List.length_cons, List.length_nil, List.length_take, List.length_drop]; omega)) only [va0, va1, va2, va3, va4, va5, va6, va7, va8, va9, va10, va11, va12, va13, va14, vb0, vb1, vb2, vb3, w_i8, w_u8, w_i16, w_u16, w_i32, w_u32, w_i64, w_u64, lt_T, lt_F, le_T, le_F, nlt_T, nlt_F, nle_T, nle_F, List.take_of_length_le, gB, gcW, gcR, posIn, renA, renL, Chunk.ren, Chunk.refs, evOpD, touchD, stepC, isFresh, nFresh, freshOf, mkR, hole, evL, evH, opd, get, putD, ofVal, cellOf, loadE, behind, lenE, idxAddrE, idxE, addPtr, intE, strE, unE, convE, AV.int, AV.bool, AV.str, ivs, take, frameOf, firstRegion, refsA, refsL, one, cellsA, floatOk, apartT, List.map, if_true, if_false, E_P, E_glob, reduceCtorEq, beq_self_eq_true, decide_true, decide_false, ↓reduceIte, Nat.reduceEqDiff, cond_true, cond_false, or_true, true_or, or_false, false_or, and_true, true_and, and_self, false_and, and_false, not_true, not_false_iff, Nat.reduceAdd, Nat.reduceSub, Nat.reduceMul, Nat.reduceLT, Nat.reduceLeDiff, Int.reduceToNat, Int.reduceLT, Int.reduceLE, Option.getD, Int.reduceMul, Int.reduceAdd, List.drop, List.take, Nat.reduceBEq, List.isEmpty, Int.reduceEq, Int.reduceNe, Int.reduceNeg, Int.reduceGT, Int.reduceGE, beq_true, beq_false, UInt8.reduceToNat, eqE, eq_self, foldE, maxE, minE, eq_T, eq_F, ndec, odec, adec, sdec, fillA, over, chop, List.replicate, leavesOk, leafOk, cellsEq, cellEq, E_ext, E_byref, en14, hik, he, Bool.not_true, Bool.not_false, Bool.or_true, Bool.or_false]
  all_goals exact ⟨_, rfl⟩
theorem ik14 (p : Ps) (hp : p.pe.length < 40000) (hb : p.bu.length < 100000) (H : Hp) : isoK E (callT E) 14 [.agg (psC p)] H = some (.i (.v (.bool (idleS p))), H) := isoK_val rfl rfl rfl (c14 p hp hb)
/-! the laws' own functions -/
def largeB (p : Ps) (s : List UInt8) : Bool := decide (400 < (p.pe.length : Int)) || decide (400 < (p.bu.length : Int)) || decide (400 < (s.length : Int))
theorem c7 (p : Ps) (s : List UInt8) : ∃ L, callT E 7 [.agg (psC p), .i (.str s)] [] = some (.i (.v (.bool (largeB p s))), L) := by
  unfold psC largeB
  rw [callT_eq Try.func7 rfl fok7 (by simp [Try.ntmps7])]
  by_cases h1 : 400 < (p.pe.length : Int) <;> by_cases h2 : 400 < (p.bu.length : Int) <;> by_cases h3 : 400 < (s.length : Int) <;> simp only [h1, h2, h3, decide_true, decide_false, Bool.or_true, Bool.true_or, Bool.or_false] <;> simp (disch := first | omega | (simp only [List.length_append, List.length_map, List.length_set, List.length_cons, List.length_nil, List.length_take, List.length_drop]; omega)) only [va0, va1, va2, va3, va4, va5, va6, va7, va8, va9, va10, va11, va12, va13, va14, vb0, vb1, vb2, vb3, w_i8, w_u8, w_i16, w_u16, w_i32, w_u32, w_i64, w_u64, lt_T, lt_F, le_T, le_F, nlt_T, nlt_F, nle_T, nle_F, List.take_of_length_le, gB, gcW, gcR, posIn, renA, renL, Chunk.ren, Chunk.refs, evOpD, touchD, stepC, isFresh, nFresh, freshOf, mkR, hole, evL, evH, opd, get, putD, ofVal, cellOf, loadE, behind, lenE, idxAddrE, idxE, addPtr, intE, strE, unE, convE, AV.int, AV.bool, AV.str, ivs, take, frameOf, firstRegion, refsA, refsL, one, cellsA, floatOk, apartT, List.map, if_true, if_false, E_P, E_glob, reduceCtorEq, beq_self_eq_true, decide_true, decide_false, ↓reduceIte, Nat.reduceEqDiff, cond_true, cond_false, or_true, true_or, or_false, false_or, and_true, true_and, and_self, false_and, and_false, not_true, not_false_iff, Nat.reduceAdd, Nat.reduceSub, Nat.reduceMul, Nat.reduceLT, Nat.reduceLeDiff, Int.reduceToNat, Int.reduceLT, Int.reduceLE, Option.getD, Int.reduceMul, Int.reduceAdd, List.drop, List.take, Nat.reduceBEq, List.isEmpty, Int.reduceEq, Int.reduceNe, Int.reduceNeg, Int.reduceGT, Int.reduceGE, beq_true, beq_false, UInt8.reduceToNat, eqE, eq_self, foldE, maxE, minE, eq_T, eq_F, ndec, odec, adec, sdec, fillA, over, chop, List.replicate, leavesOk, leafOk, cellsEq, cellEq, E_ext, E_byref, en7, h1, h2, h3] <;> exact ⟨_, rfl⟩
theorem ik7 (p : Ps) (s : List UInt8) (H : Hp) : isoK E (callT E) 7 [.agg (psC p), .i (.str s)] H = some (.i (.v (.bool (largeB p s))), H) := isoK_val rfl rfl rfl (c7 p s)
theorem ran_true {f n : Nat} (h : (match call E n f [] [] with | some (.i (.v (.bool true)), _) => true | _ => false) = true) : ∃ L, callT E f [] [] = some (.i (.v (.bool true)), L) := by
  split at h
  · rename_i L hL; exact ⟨L, callT_of hL⟩
  · cases h
theorem ik8 (H : Hp) : isoK E (callT E) 8 [] H = some (.i (.v (.bool true)), H) := isoK_val rfl rfl rfl (ran_true (n := 200) (by kernel_rfl))
theorem small_of {p : Ps} {s : List UInt8} (h : largeB p s = false) : p.pe.length ≤ 400 ∧ p.bu.length ≤ 400 ∧ s.length ≤ 400 := by
  unfold largeB at h
  simp only [Bool.or_eq_false_iff, decide_eq_false_iff_not] at h
  omega
theorem law6 (a : Int) (b c s : List UInt8) : ∃ L, callT E 6 [.agg (psC ⟨a, b, c⟩), .i (.str s)] [] = some (.i (.v (.bool true)), L) := by
  have hlg := fun H => ik7 ⟨a, b, c⟩ s H
  cases hl : largeB ⟨a, b, c⟩ s with
  | true =>
    rw [hl] at hlg
    unfold psC at *
    rw [callT_eq Try.func6 rfl fok6 (by simp [Try.ntmps6])]
    simp (disch := first | omega | (simp only [List.length_append, List.length_map, List.length_set, List.length_cons, List.length_nil, List.length_take, List.length_drop]; omega)) only [va0, va1, va2, va3, va4, va5, va6, va7, va8, va9, va10, va11, va12, va13, va14, vb0, vb1, vb2, vb3, w_i8, w_u8, w_i16, w_u16, w_i32, w_u32, w_i64, w_u64, lt_T, lt_F, le_T, le_F, nlt_T, nlt_F, nle_T, nle_F, List.take_of_length_le, gB, gcW, gcR, posIn, renA, renL, Chunk.ren, Chunk.refs, evOpD, touchD, stepC, isFresh, nFresh, freshOf, mkR, hole, evL, evH, opd, get, putD, ofVal, cellOf, loadE, behind, lenE, idxAddrE, idxE, addPtr, intE, strE, unE, convE, AV.int, AV.bool, AV.str, ivs, take, frameOf, firstRegion, refsA, refsL, one, cellsA, floatOk, apartT, List.map, if_true, if_false, E_P, E_glob, reduceCtorEq, beq_self_eq_true, decide_true, decide_false, ↓reduceIte, Nat.reduceEqDiff, cond_true, cond_false, or_true, true_or, or_false, false_or, and_true, true_and, and_self, false_and, and_false, not_true, not_false_iff, Nat.reduceAdd, Nat.reduceSub, Nat.reduceMul, Nat.reduceLT, Nat.reduceLeDiff, Int.reduceToNat, Int.reduceLT, Int.reduceLE, Option.getD, Int.reduceMul, Int.reduceAdd, List.drop, List.take, Nat.reduceBEq, List.isEmpty, Int.reduceEq, Int.reduceNe, Int.reduceNeg, Int.reduceGT, Int.reduceGE, beq_true, beq_false, UInt8.reduceToNat, eqE, eq_self, foldE, maxE, minE, eq_T, eq_F, ndec, odec, adec, sdec, fillA, over, chop, List.replicate, leavesOk, leafOk, cellsEq, cellEq, E_ext, E_byref, en6, bs27, hlg, ik8]
    exact ⟨_, rfl⟩
  | false =>
    rw [hl] at hlg
    obtain ⟨h1, h2, h3⟩ := small_of hl
    dsimp only at h1 h2
    have k1 := fun H => ik9 ⟨a, b, c⟩ (by simp only; omega) (by simp only; omega) s (by omega) H
    have k2 := fun H => ik12 ⟨a, b, c⟩ (by simp only; omega) (by simp only; omega) s (by omega) H
    have k3 := fun H => ik13 ⟨a, b, c⟩ (by simp only; omega) (by simp only; omega) H
    have k4 := fun H => ik14 ⟨a, b, c⟩ (by simp only; omega) (by simp only; omega) H
    have hlen := (runF_len s (start_ok ⟨a, b, c⟩)).2
    have hfew := few_of (evS_run s (startS ⟨a, b, c⟩))
    have k5 := fun H => ik10 _ (by omega) hfew H
    unfold feedS at *
    generalize runF s (startS ⟨a, b, c⟩) = q at *
    generalize idleS ⟨a, b, c⟩ = i at *
    unfold psC feedA at *
    dsimp only at *
    simp only [psC] at k1 k2
    have he := eqP q.1.st q.1.st q.1.pe q.1.pe q.1.bu q.1.bu
    simp only [decide_true, beq_self_eq_true, Bool.and_self] at he
    rw [callT_eq Try.func6 rfl fok6 (by simp [Try.ntmps6])]
    cases i <;> simp (disch := first | omega | (simp only [List.length_append, List.length_map, List.length_set, List.length_cons, List.length_nil, List.length_take, List.length_drop]; omega)) only [va0, va1, va2, va3, va4, va5, va6, va7, va8, va9, va10, va11, va12, va13, va14, vb0, vb1, vb2, vb3, w_i8, w_u8, w_i16, w_u16, w_i32, w_u32, w_i64, w_u64, lt_T, lt_F, le_T, le_F, nlt_T, nlt_F, nle_T, nle_F, List.take_of_length_le, gB, gcW, gcR, posIn, renA, renL, Chunk.ren, Chunk.refs, evOpD, touchD, stepC, isFresh, nFresh, freshOf, mkR, hole, evL, evH, opd, get, putD, ofVal, cellOf, loadE, behind, lenE, idxAddrE, idxE, addPtr, intE, strE, unE, convE, AV.int, AV.bool, AV.str, ivs, take, frameOf, firstRegion, refsA, refsL, one, cellsA, floatOk, apartT, List.map, if_true, if_false, E_P, E_glob, reduceCtorEq, beq_self_eq_true, decide_true, decide_false, ↓reduceIte, Nat.reduceEqDiff, cond_true, cond_false, or_true, true_or, or_false, false_or, and_true, true_and, and_self, false_and, and_false, not_true, not_false_iff, Nat.reduceAdd, Nat.reduceSub, Nat.reduceMul, Nat.reduceLT, Nat.reduceLeDiff, Int.reduceToNat, Int.reduceLT, Int.reduceLE, Option.getD, Int.reduceMul, Int.reduceAdd, List.drop, List.take, Nat.reduceBEq, List.isEmpty, Int.reduceEq, Int.reduceNe, Int.reduceNeg, Int.reduceGT, Int.reduceGE, beq_true, beq_false, UInt8.reduceToNat, eqE, eq_self, foldE, maxE, minE, eq_T, eq_F, ndec, odec, adec, sdec, fillA, over, chop, List.replicate, leavesOk, leafOk, cellsEq, cellEq, E_ext, E_byref, en6, bs27, hlg, k1, k2, k3, k4, k5, he, ik8]
    all_goals exact ⟨_, rfl⟩
end Go.VI
