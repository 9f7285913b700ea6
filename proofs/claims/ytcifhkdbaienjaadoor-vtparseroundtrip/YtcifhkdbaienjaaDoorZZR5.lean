import Derived.Shelf.Strconv.AppendUint10
import Derived.Test.YtcifhkdbaienjaaDoorZZR4
namespace Go.VI
open Go.Proofs
set_option maxRecDepth 100000
set_option linter.unusedSimpArgs false
set_option linter.unusedVariables false
set_option maxHeartbeats 4000000
structure Ev where
  (k r c v : Int) (i : List UInt8) (ps : List Int) (t : List UInt8)
def evC (e : Ev) : List IV := [.v (.int .i64 e.k), .v (.int .i32 e.r), .v (.int .u8 e.c), .v (.int .u8 e.v), .str e.i, .sl 1 (rows64 e.ps) false, .str e.t]
def rowsEv (l : List Ev) : List (List IV) := l.map evC
theorem rowsEv_len (l : List Ev) : (rowsEv l).length = l.length := by simp [rowsEv]
theorem rowsEv_snoc (l : List Ev) (k r c v : Int) (i : List UInt8) (ps : List Int) (t : List UInt8) : rowsEv l ++ [[.v (.int .i64 k), .v (.int .i32 r), .v (.int .u8 c), .v (.int .u8 v), .str i, .sl 1 (rows64 ps) false, .str t]] = rowsEv (l ++ [⟨k, r, c, v, i, ps, t⟩]) := by simp [rowsEv, evC]
theorem isoK_rd {f : Nat} {x y z x' y' z' : IV} {args : List AV} {r : AV} {g g' n n' : Nat} {R R' : List (List IV)} {ex ex' : Bool} (he : E.ext f = none) (ha : refsL args = []) (hr : refsA r = [])
    (h : ∃ L, callT E f (.ptr 0 0 0 0 :: args) [.box [.i x, .i y, .i z, .ref 1 g 0 n], .sl 7 g R ex] = some (r, .box [.i x', .i y', .i z', .ref 1 g' 0 n'] :: .sl 7 g' R' ex' :: L)) (T : Hp) :
    isoK E (callT E) f (.ptr 0 0 0 0 :: args) (.box [.i x, .i y, .i z, .ref 1 g 0 n] :: .sl 7 g R ex :: T) = some (r, .box [.i x', .i y', .i z', .ref 1 g' 0 n'] :: .sl 7 g' R' ex' :: T) := by
  obtain ⟨L, h⟩ := h
  have ha2 : ∀ ρ, renL ρ args = args := fun ρ => (refs_ren ρ).2 args ha
  have hr2 : ∀ ρ, renA ρ r = r := fun ρ => (refs_ren ρ).1 r hr
  rw [isoK_R he]
  simp (disch := first | omega | (simp only [List.length_append, List.length_map, List.length_set, List.length_cons, List.length_nil, List.length_take, List.length_drop]; omega)) only [va0, va1, va2, va3, va4, va5, va6, va7, va8, va9, va10, va11, va12, va13, va14, va15, vb0, vb1, vb2, vb3, w_i8, w_u8, w_i16, w_u16, w_i32, w_u32, w_i64, w_u64, lt_T, lt_F, le_T, le_F, nlt_T, nlt_F, nle_T, nle_F, List.take_of_length_le, gB, gcW, gcR, posIn, renA, renL, Chunk.ren, Chunk.refs, evOpD, touchD, stepC, isFresh, nFresh, freshOf, mkR, hole, evL, evH, opd, get, putD, ofVal, cellOf, loadE, behind, lenE, idxAddrE, idxE, addPtr, intE, strE, unE, convE, AV.int, AV.bool, AV.str, ivs, take, frameOf, firstRegion, refsA, refsL, one, cellsA, floatOk, apartT, List.map, if_true, if_false, E_P, E_glob0, reduceCtorEq, beq_self_eq_true, decide_true, decide_false, ↓reduceIte, Nat.reduceEqDiff, cond_true, cond_false, or_true, true_or, or_false, false_or, and_true, true_and, and_self, false_and, and_false, not_true, not_false_iff, Nat.reduceAdd, Nat.reduceSub, Nat.reduceMul, Nat.reduceLT, Nat.reduceLeDiff, Int.reduceToNat, Int.reduceLT, Int.reduceLE, Option.getD, Int.reduceMul, Int.reduceAdd, List.drop, List.take, Nat.reduceBEq, List.isEmpty, Int.reduceEq, Int.reduceNe, Int.reduceNeg, Int.reduceGT, Int.reduceGE, beq_true, beq_false, UInt8.reduceToNat, eqE, eq_self, foldE, maxE, minE, eq_T, eq_F, ndec, odec, adec, sdec, fillA, over, chop, List.replicate, leavesOk, leafOk, cellsEq, cellEq, E_byref, tyaa, tyab, tyac, tyad, tyae, tyaf, tyag, tyah, tyai, tyaj, tyak, tyal, tyam, bs26, bs29, bs47, bs49, isoL, h, isoB_some, isoF, backRen, setAll, List.take_succ_cons, List.take_zero, ha, ha2, hr, hr2]
theorem c19 (a : Int) (b c : List UInt8) (g n : Nat) (l : List Ev) (k r cd v : Int) (i : List UInt8) (ps : List Int) (t : List UInt8) (hn : n = l.length) (hl : n < 1000000) :
    ∃ L, callT E 19 [.ptr 0 0 0 0, .agg [.i (.v (.int .i64 k)), .i (.v (.int .i32 r)), .i (.v (.int .u8 cd)), .i (.v (.int .u8 v)), .i (.str i), .i (.sl 1 (rows64 ps) false), .i (.str t)]] (.box [.i (.v (.int .i64 (a))), .i (.str (b)), .i (.str (c)), .ref 1 (g) 0 (n)] :: .sl 7 (g) (rowsEv l) false :: []) =
      some (.tup [], .box [.i (.v (.int .i64 (a))), .i (.str (b)), .i (.str (c)), .ref 1 (g + 1) 0 (n + 1)] :: .sl 7 (g + 1) (rowsEv (l ++ [⟨k, r, cd, v, i, ps, t⟩])) false :: L) := by
  have hr := rowsEv_len l
  rw [callT_eq Tryd.func19 rfl fok19 (by simp [Tryd.ntmps19])]
  simp (disch := first | omega | (simp only [List.length_append, List.length_map, List.length_set, List.length_cons, List.length_nil, List.length_take, List.length_drop, rowsEv_len]; omega)) only [va0, va1, va2, va3, va4, va5, va6, va7, va8, va9, va10, va11, va12, va13, va14, va15, vb0, vb1, vb2, vb3, w_i8, w_u8, w_i16, w_u16, w_i32, w_u32, w_i64, w_u64, lt_T, lt_F, le_T, le_F, nlt_T, nlt_F, nle_T, nle_F, List.take_of_length_le, gB, gcW, gcR, posIn, renA, renL, Chunk.ren, Chunk.refs, evOpD, touchD, stepC, isFresh, nFresh, freshOf, mkR, hole, evL, evH, opd, get, putD, ofVal, cellOf, loadE, behind, lenE, idxAddrE, idxE, addPtr, intE, strE, unE, convE, AV.int, AV.bool, AV.str, ivs, take, frameOf, firstRegion, refsA, refsL, one, cellsA, floatOk, apartT, List.map, if_true, if_false, E_P, E_glob0, reduceCtorEq, beq_self_eq_true, decide_true, decide_false, ↓reduceIte, Nat.reduceEqDiff, cond_true, cond_false, or_true, true_or, or_false, false_or, and_true, true_and, and_self, false_and, and_false, not_true, not_false_iff, Nat.reduceAdd, Nat.reduceSub, Nat.reduceMul, Nat.reduceLT, Nat.reduceLeDiff, Int.reduceToNat, Int.reduceLT, Int.reduceLE, Option.getD, Int.reduceMul, Int.reduceAdd, List.drop, List.take, Nat.reduceBEq, List.isEmpty, Int.reduceEq, Int.reduceNe, Int.reduceNeg, Int.reduceGT, Int.reduceGE, beq_true, beq_false, UInt8.reduceToNat, eqE, eq_self, foldE, maxE, minE, eq_T, eq_F, ndec, odec, adec, sdec, fillA, over, chop, List.replicate, leavesOk, leafOk, cellsEq, cellEq, E_byref, en19, bs26, rowsEv_len, rowsEv_snoc, List.take_of_length_le]
  exact ⟨_, rfl⟩
theorem ik19 (a : Int) (b c : List UInt8) (g n : Nat) (l : List Ev) (k r cd v : Int) (i : List UInt8) (ps : List Int) (t : List UInt8) (hn : n = l.length) (hl : n < 1000000) (T : Hp) :
    isoK E (callT E) 19 [.ptr 0 0 0 0, .agg [.i (.v (.int .i64 k)), .i (.v (.int .i32 r)), .i (.v (.int .u8 cd)), .i (.v (.int .u8 v)), .i (.str i), .i (.sl 1 (rows64 ps) false), .i (.str t)]] (.box [.i (.v (.int .i64 (a))), .i (.str (b)), .i (.str (c)), .ref 1 (g) 0 (n)] :: .sl 7 (g) (rowsEv l) false :: T) =
      some (.tup [], .box [.i (.v (.int .i64 (a))), .i (.str (b)), .i (.str (c)), .ref 1 (g + 1) 0 (n + 1)] :: .sl 7 (g + 1) (rowsEv (l ++ [⟨k, r, cd, v, i, ps, t⟩])) false :: T) := isoK_rd rfl rfl rfl (c19 a b c g n l k r cd v i ps t hn hl) T
theorem ik19_e (a : Int) (b c : List UInt8) (g n : Nat) (l : List Ev) (k r cd v : Int) (i : List UInt8) (t : List UInt8) (hn : n = l.length) (hl : n < 1000000) (T : Hp) :
    isoK E (callT E) 19 [.ptr 0 0 0 0, .agg [.i (.v (.int .i64 k)), .i (.v (.int .i32 r)), .i (.v (.int .u8 cd)), .i (.v (.int .u8 v)), .i (.str i), .i (.sl 1 [] false), .i (.str t)]] (.box [.i (.v (.int .i64 (a))), .i (.str (b)), .i (.str (c)), .ref 1 (g) 0 (n)] :: .sl 7 (g) (rowsEv l) false :: T) =
      some (.tup [], .box [.i (.v (.int .i64 (a))), .i (.str (b)), .i (.str (c)), .ref 1 (g + 1) 0 (n + 1)] :: .sl 7 (g + 1) (rowsEv (l ++ [⟨k, r, cd, v, i, [], t⟩])) false :: T) := ik19 a b c g n l k r cd v i [] t hn hl T
theorem c32 (a : Int) (b c : List UInt8) (g n : Nat) (R : List (List IV)) (st : Int) :
    ∃ L, callT E 32 [.ptr 0 0 0 0, .i (.v (.int .i64 st))] (.box [.i (.v (.int .i64 (a))), .i (.str (b)), .i (.str (c)), .ref 1 (g) 0 (n)] :: .sl 7 (g) (R) false :: []) = some (.tup [], .box [.i (.v (.int .i64 (st))), .i (.str ([])), .i (.str ([])), .ref 1 (g) 0 (n)] :: .sl 7 (g) (R) false :: L) := by
  rw [callT_eq Tryd.func32 rfl fok32 (by simp [Tryd.ntmps32])]
  simp (disch := first | omega | (simp only [List.length_append, List.length_map, List.length_set, List.length_cons, List.length_nil, List.length_take, List.length_drop]; omega)) only [va0, va1, va2, va3, va4, va5, va6, va7, va8, va9, va10, va11, va12, va13, va14, va15, vb0, vb1, vb2, vb3, w_i8, w_u8, w_i16, w_u16, w_i32, w_u32, w_i64, w_u64, lt_T, lt_F, le_T, le_F, nlt_T, nlt_F, nle_T, nle_F, List.take_of_length_le, gB, gcW, gcR, posIn, renA, renL, Chunk.ren, Chunk.refs, evOpD, touchD, stepC, isFresh, nFresh, freshOf, mkR, hole, evL, evH, opd, get, putD, ofVal, cellOf, loadE, behind, lenE, idxAddrE, idxE, addPtr, intE, strE, unE, convE, AV.int, AV.bool, AV.str, ivs, take, frameOf, firstRegion, refsA, refsL, one, cellsA, floatOk, apartT, List.map, if_true, if_false, E_P, E_glob0, reduceCtorEq, beq_self_eq_true, decide_true, decide_false, ↓reduceIte, Nat.reduceEqDiff, cond_true, cond_false, or_true, true_or, or_false, false_or, and_true, true_and, and_self, false_and, and_false, not_true, not_false_iff, Nat.reduceAdd, Nat.reduceSub, Nat.reduceMul, Nat.reduceLT, Nat.reduceLeDiff, Int.reduceToNat, Int.reduceLT, Int.reduceLE, Option.getD, Int.reduceMul, Int.reduceAdd, List.drop, List.take, Nat.reduceBEq, List.isEmpty, Int.reduceEq, Int.reduceNe, Int.reduceNeg, Int.reduceGT, Int.reduceGE, beq_true, beq_false, UInt8.reduceToNat, eqE, eq_self, foldE, maxE, minE, eq_T, eq_F, ndec, odec, adec, sdec, fillA, over, chop, List.replicate, leavesOk, leafOk, cellsEq, cellEq, E_byref, en32]
  exact ⟨_, rfl⟩
theorem ik32 (a : Int) (b c : List UInt8) (g n : Nat) (R : List (List IV)) (st : Int) (T : Hp) :
    isoK E (callT E) 32 [.ptr 0 0 0 0, .i (.v (.int .i64 st))] (.box [.i (.v (.int .i64 (a))), .i (.str (b)), .i (.str (c)), .ref 1 (g) 0 (n)] :: .sl 7 (g) (R) false :: T) = some (.tup [], .box [.i (.v (.int .i64 (st))), .i (.str ([])), .i (.str ([])), .ref 1 (g) 0 (n)] :: .sl 7 (g) (R) false :: T) := isoK_rd rfl rfl rfl (c32 a b c g n R st) T
theorem c52 (a : Int) (b c : List UInt8) (g n : Nat) (R : List (List IV)) (x : UInt8) (m : Int) (hc : c.length < 1000000) :
    ∃ L, callT E 52 [.ptr 0 0 0 0, .i (.v (.int .u8 x.toNat)), .i (.v (.int .i64 m))] (.box [.i (.v (.int .i64 (a))), .i (.str (b)), .i (.str (c)), .ref 1 (g) 0 (n)] :: .sl 7 (g) (R) false :: []) = some (.tup [], .box [.i (.v (.int .i64 (a))), .i (.str (b)), .i (.str (if (c.length : Int) < m then c ++ [x] else c)), .ref 1 (g) 0 (n)] :: .sl 7 (g) (R) false :: L) := by
  rw [callT_eq Tryd.func52 rfl fok52 (by simp [Tryd.ntmps52])]
  by_cases h : (c.length : Int) < m
  · rw [if_pos h]
    simp (disch := first | omega | (simp only [List.length_append, List.length_map, List.length_set, List.length_cons, List.length_nil, List.length_take, List.length_drop]; omega)) only [va0, va1, va2, va3, va4, va5, va6, va7, va8, va9, va10, va11, va12, va13, va14, va15, vb0, vb1, vb2, vb3, w_i8, w_u8, w_i16, w_u16, w_i32, w_u32, w_i64, w_u64, lt_T, lt_F, le_T, le_F, nlt_T, nlt_F, nle_T, nle_F, List.take_of_length_le, gB, gcW, gcR, posIn, renA, renL, Chunk.ren, Chunk.refs, evOpD, touchD, stepC, isFresh, nFresh, freshOf, mkR, hole, evL, evH, opd, get, putD, ofVal, cellOf, loadE, behind, lenE, idxAddrE, idxE, addPtr, intE, strE, unE, convE, AV.int, AV.bool, AV.str, ivs, take, frameOf, firstRegion, refsA, refsL, one, cellsA, floatOk, apartT, List.map, if_true, if_false, E_P, E_glob0, reduceCtorEq, beq_self_eq_true, decide_true, decide_false, ↓reduceIte, Nat.reduceEqDiff, cond_true, cond_false, or_true, true_or, or_false, false_or, and_true, true_and, and_self, false_and, and_false, not_true, not_false_iff, Nat.reduceAdd, Nat.reduceSub, Nat.reduceMul, Nat.reduceLT, Nat.reduceLeDiff, Int.reduceToNat, Int.reduceLT, Int.reduceLE, Option.getD, Int.reduceMul, Int.reduceAdd, List.drop, List.take, Nat.reduceBEq, List.isEmpty, Int.reduceEq, Int.reduceNe, Int.reduceNeg, Int.reduceGT, Int.reduceGE, beq_true, beq_false, UInt8.reduceToNat, eqE, eq_self, foldE, maxE, minE, eq_T, eq_F, ndec, odec, adec, sdec, fillA, over, chop, List.replicate, leavesOk, leafOk, cellsEq, cellEq, E_byref, en52, bs47, h]
    exact ⟨_, rfl⟩
  · rw [if_neg h]
    simp (disch := first | omega | (simp only [List.length_append, List.length_map, List.length_set, List.length_cons, List.length_nil, List.length_take, List.length_drop]; omega)) only [va0, va1, va2, va3, va4, va5, va6, va7, va8, va9, va10, va11, va12, va13, va14, va15, vb0, vb1, vb2, vb3, w_i8, w_u8, w_i16, w_u16, w_i32, w_u32, w_i64, w_u64, lt_T, lt_F, le_T, le_F, nlt_T, nlt_F, nle_T, nle_F, List.take_of_length_le, gB, gcW, gcR, posIn, renA, renL, Chunk.ren, Chunk.refs, evOpD, touchD, stepC, isFresh, nFresh, freshOf, mkR, hole, evL, evH, opd, get, putD, ofVal, cellOf, loadE, behind, lenE, idxAddrE, idxE, addPtr, intE, strE, unE, convE, AV.int, AV.bool, AV.str, ivs, take, frameOf, firstRegion, refsA, refsL, one, cellsA, floatOk, apartT, List.map, if_true, if_false, E_P, E_glob0, reduceCtorEq, beq_self_eq_true, decide_true, decide_false, ↓reduceIte, Nat.reduceEqDiff, cond_true, cond_false, or_true, true_or, or_false, false_or, and_true, true_and, and_self, false_and, and_false, not_true, not_false_iff, Nat.reduceAdd, Nat.reduceSub, Nat.reduceMul, Nat.reduceLT, Nat.reduceLeDiff, Int.reduceToNat, Int.reduceLT, Int.reduceLE, Option.getD, Int.reduceMul, Int.reduceAdd, List.drop, List.take, Nat.reduceBEq, List.isEmpty, Int.reduceEq, Int.reduceNe, Int.reduceNeg, Int.reduceGT, Int.reduceGE, beq_true, beq_false, UInt8.reduceToNat, eqE, eq_self, foldE, maxE, minE, eq_T, eq_F, ndec, odec, adec, sdec, fillA, over, chop, List.replicate, leavesOk, leafOk, cellsEq, cellEq, E_byref, en52, bs47, h]
    exact ⟨_, rfl⟩
theorem ik52 (a : Int) (b c : List UInt8) (g n : Nat) (R : List (List IV)) (x : UInt8) (m : Int) (hc : c.length < 1000000) (T : Hp) :
    isoK E (callT E) 52 [.ptr 0 0 0 0, .i (.v (.int .u8 x.toNat)), .i (.v (.int .i64 m))] (.box [.i (.v (.int .i64 (a))), .i (.str (b)), .i (.str (c)), .ref 1 (g) 0 (n)] :: .sl 7 (g) (R) false :: T) = some (.tup [], .box [.i (.v (.int .i64 (a))), .i (.str (b)), .i (.str (if (c.length : Int) < m then c ++ [x] else c)), .ref 1 (g) 0 (n)] :: .sl 7 (g) (R) false :: T) := isoK_rd rfl rfl rfl (c52 a b c g n R x m hc) T
theorem c31 (a : Int) (b c : List UInt8) (g n : Nat) (l : List Ev) (hn : n = l.length) (hl : n < 1000000) :
    ∃ L, callT E 31 [.ptr 0 0 0 0] (.box [.i (.v (.int .i64 (a))), .i (.str (b)), .i (.str (c)), .ref 1 (g) 0 (n)] :: .sl 7 (g) (rowsEv l) false :: []) = some (.tup [], .box [.i (.v (.int .i64 (0))), .i (.str ([])), .i (.str ([])), .ref 1 (g + 1) 0 (n + 1)] :: .sl 7 (g + 1) (rowsEv (l ++ [⟨5, 0, 0, 0, [], [], c⟩])) false :: L) := by
  rw [callT_eq Tryd.func31 rfl fok31 (by simp [Tryd.ntmps31])]
  simp (disch := first | omega | (simp only [List.length_append, List.length_map, List.length_set, List.length_cons, List.length_nil, List.length_take, List.length_drop]; omega)) only [va0, va1, va2, va3, va4, va5, va6, va7, va8, va9, va10, va11, va12, va13, va14, va15, vb0, vb1, vb2, vb3, w_i8, w_u8, w_i16, w_u16, w_i32, w_u32, w_i64, w_u64, lt_T, lt_F, le_T, le_F, nlt_T, nlt_F, nle_T, nle_F, List.take_of_length_le, gB, gcW, gcR, posIn, renA, renL, Chunk.ren, Chunk.refs, evOpD, touchD, stepC, isFresh, nFresh, freshOf, mkR, hole, evL, evH, opd, get, putD, ofVal, cellOf, loadE, behind, lenE, idxAddrE, idxE, addPtr, intE, strE, unE, convE, AV.int, AV.bool, AV.str, ivs, take, frameOf, firstRegion, refsA, refsL, one, cellsA, floatOk, apartT, List.map, if_true, if_false, E_P, E_glob0, reduceCtorEq, beq_self_eq_true, decide_true, decide_false, ↓reduceIte, Nat.reduceEqDiff, cond_true, cond_false, or_true, true_or, or_false, false_or, and_true, true_and, and_self, false_and, and_false, not_true, not_false_iff, Nat.reduceAdd, Nat.reduceSub, Nat.reduceMul, Nat.reduceLT, Nat.reduceLeDiff, Int.reduceToNat, Int.reduceLT, Int.reduceLE, Option.getD, Int.reduceMul, Int.reduceAdd, List.drop, List.take, Nat.reduceBEq, List.isEmpty, Int.reduceEq, Int.reduceNe, Int.reduceNeg, Int.reduceGT, Int.reduceGE, beq_true, beq_false, UInt8.reduceToNat, eqE, eq_self, foldE, maxE, minE, eq_T, eq_F, ndec, odec, adec, sdec, fillA, over, chop, List.replicate, leavesOk, leafOk, cellsEq, cellEq, E_byref, en31, ik32, ik19_e]
  exact ⟨_, rfl⟩
theorem ik31 (a : Int) (b c : List UInt8) (g n : Nat) (l : List Ev) (hn : n = l.length) (hl : n < 1000000) (T : Hp) :
    isoK E (callT E) 31 [.ptr 0 0 0 0] (.box [.i (.v (.int .i64 (a))), .i (.str (b)), .i (.str (c)), .ref 1 (g) 0 (n)] :: .sl 7 (g) (rowsEv l) false :: T) = some (.tup [], .box [.i (.v (.int .i64 (0))), .i (.str ([])), .i (.str ([])), .ref 1 (g + 1) 0 (n + 1)] :: .sl 7 (g + 1) (rowsEv (l ++ [⟨5, 0, 0, 0, [], [], c⟩])) false :: T) := isoK_rd rfl rfl rfl (c31 a b c g n l hn hl) T
def prEv (c : Int) : Ev := ⟨1, c, 0, 0, [], [], []⟩
def okR (c : Int) : Bool := decide (c < 128) || decide (159 < c)
def prints (l : List Int) : List Ev := (l.filter okR).map prEv
theorem rows32_at {l : List Int} {k : Nat} (h : k < l.length) : (rows32 l)[k]? = some [.v (.int .i32 l[k])] := by simp [rows32, h]
theorem prints_t {c : Int} {l : List Int} (h : okR c = true) : prints (c :: l) = prEv c :: prints l := by simp [prints, h]
theorem prints_f {c : Int} {l : List Int} (h : okR c = false) : prints (c :: l) = prints l := by simp [prints, h]
theorem prints_len (l : List Int) : (prints l).length ≤ l.length := by simp only [prints, List.length_map]; exact List.length_filter_le _ _
theorem l50 (a : Int) (b c : List UInt8) (l : List Int) (hl : l.length < 100000) (k : Nat) (hk : k ≤ l.length) (g n : Nat) (ev : List Ev) (hn : n = ev.length) (hb : n + (l.length - k) < 1000000) :
    ∃ fr, rl E 2 50 (loopAt Tryd.f50 0) [(0, .ptr 0 0 0 0), (6, .i (.sl 1 (rows32 l) false)), (7, .i (.v (.int .i64 l.length))), (8, .i (.v (.int .i64 k)))] (.box [.i (.v (.int .i64 (a))), .i (.str (b)), .i (.str (c)), .ref 1 (g) 0 (n)] :: .sl 7 (g) (rowsEv ev) false :: []) =
      some (.exit 0, fr, .box [.i (.v (.int .i64 (a))), .i (.str (b)), .i (.str (c)), .ref 1 (g + (prints (l.drop k)).length) 0 (n + (prints (l.drop k)).length)] :: .sl 7 (g + (prints (l.drop k)).length) (rowsEv (ev ++ prints (l.drop k))) false :: []) := by
  rw [rl_step (fn := Tryd.f50) (k := 0) rfl]
  by_cases hlt : k < l.length
  · have hrow := rows32_at hlt
    rw [List.drop_eq_getElem_cons hlt]
    cases hok : okR l[k] with
    | true =>
      rw [prints_t hok]
      obtain ⟨fr, e⟩ := l50 a b c l hl (k + 1) hlt (g + 1) (n + 1) (ev ++ [prEv l[k]]) (by simp; omega) (by omega)
      refine ⟨fr, Eq.trans ?_ (e.trans ?_)⟩
      rotate_left
      · simp only [List.length_cons, List.append_assoc, List.cons_append, List.nil_append]
        rw [show g + 1 + (prints (l.drop (k + 1))).length = g + ((prints (l.drop (k + 1))).length + 1) by omega, show n + 1 + (prints (l.drop (k + 1))).length = n + ((prints (l.drop (k + 1))).length + 1) by omega]
      clear e
      generalize l[k] = x at *
      unfold okR at hok
      by_cases h1 : x < 128
      · simp (disch := first | omega | (simp only [List.length_append, List.length_map, List.length_set, List.length_cons, List.length_nil, List.length_take, List.length_drop, rows32_len]; omega)) only [va0, va1, va2, va3, va4, va5, va6, va7, va8, va9, va10, va11, va12, va13, va14, va15, vb0, vb1, vb2, vb3, w_i8, w_u8, w_i16, w_u16, w_i32, w_u32, w_i64, w_u64, lt_T, lt_F, le_T, le_F, nlt_T, nlt_F, nle_T, nle_F, List.take_of_length_le, gB, gcW, gcR, posIn, renA, renL, Chunk.ren, Chunk.refs, evOpD, touchD, stepC, isFresh, nFresh, freshOf, mkR, hole, evL, evH, opd, get, putD, ofVal, cellOf, loadE, behind, lenE, idxAddrE, idxE, addPtr, intE, strE, unE, convE, AV.int, AV.bool, AV.str, ivs, take, frameOf, firstRegion, refsA, refsL, one, cellsA, floatOk, apartT, List.map, if_true, if_false, E_P, E_glob0, reduceCtorEq, beq_self_eq_true, decide_true, decide_false, ↓reduceIte, Nat.reduceEqDiff, cond_true, cond_false, or_true, true_or, or_false, false_or, and_true, true_and, and_self, false_and, and_false, not_true, not_false_iff, Nat.reduceAdd, Nat.reduceSub, Nat.reduceMul, Nat.reduceLT, Nat.reduceLeDiff, Int.reduceToNat, Int.reduceLT, Int.reduceLE, Option.getD, Int.reduceMul, Int.reduceAdd, List.drop, List.take, Nat.reduceBEq, List.isEmpty, Int.reduceEq, Int.reduceNe, Int.reduceNeg, Int.reduceGT, Int.reduceGE, beq_true, beq_false, UInt8.reduceToNat, eqE, eq_self, foldE, maxE, minE, eq_T, eq_F, ndec, odec, adec, sdec, fillA, over, chop, List.replicate, leavesOk, leafOk, cellsEq, cellEq, E_byref, en50, bs49, hrow, h1, rows32_len, ik19_e, show ∀ B fr H, execT E B 50 (Code.loop _) fr H = rlG E B 50 (loopAt Tryd.f50 0) (gcn B (norm [0, 6, 7, 8] fr) H) from fun B fr H => rl_intro rfl mt50_1 mb50_1 zf50_1 hd50_1 fr H]
        rfl
      · have h2 : 159 < x := by simpa [h1] using hok
        simp (disch := first | omega | (simp only [List.length_append, List.length_map, List.length_set, List.length_cons, List.length_nil, List.length_take, List.length_drop, rows32_len]; omega)) only [va0, va1, va2, va3, va4, va5, va6, va7, va8, va9, va10, va11, va12, va13, va14, va15, vb0, vb1, vb2, vb3, w_i8, w_u8, w_i16, w_u16, w_i32, w_u32, w_i64, w_u64, lt_T, lt_F, le_T, le_F, nlt_T, nlt_F, nle_T, nle_F, List.take_of_length_le, gB, gcW, gcR, posIn, renA, renL, Chunk.ren, Chunk.refs, evOpD, touchD, stepC, isFresh, nFresh, freshOf, mkR, hole, evL, evH, opd, get, putD, ofVal, cellOf, loadE, behind, lenE, idxAddrE, idxE, addPtr, intE, strE, unE, convE, AV.int, AV.bool, AV.str, ivs, take, frameOf, firstRegion, refsA, refsL, one, cellsA, floatOk, apartT, List.map, if_true, if_false, E_P, E_glob0, reduceCtorEq, beq_self_eq_true, decide_true, decide_false, ↓reduceIte, Nat.reduceEqDiff, cond_true, cond_false, or_true, true_or, or_false, false_or, and_true, true_and, and_self, false_and, and_false, not_true, not_false_iff, Nat.reduceAdd, Nat.reduceSub, Nat.reduceMul, Nat.reduceLT, Nat.reduceLeDiff, Int.reduceToNat, Int.reduceLT, Int.reduceLE, Option.getD, Int.reduceMul, Int.reduceAdd, List.drop, List.take, Nat.reduceBEq, List.isEmpty, Int.reduceEq, Int.reduceNe, Int.reduceNeg, Int.reduceGT, Int.reduceGE, beq_true, beq_false, UInt8.reduceToNat, eqE, eq_self, foldE, maxE, minE, eq_T, eq_F, ndec, odec, adec, sdec, fillA, over, chop, List.replicate, leavesOk, leafOk, cellsEq, cellEq, E_byref, en50, bs49, hrow, h1, h2, rows32_len, ik19_e, show ∀ B fr H, execT E B 50 (Code.loop _) fr H = rlG E B 50 (loopAt Tryd.f50 0) (gcn B (norm [0, 6, 7, 8] fr) H) from fun B fr H => rl_intro rfl mt50_1 mb50_1 zf50_1 hd50_1 fr H]
        rfl
    | false =>
      rw [prints_f hok]
      obtain ⟨fr, e⟩ := l50 a b c l hl (k + 1) hlt g n ev hn (by omega)
      refine ⟨fr, Eq.trans ?_ e⟩
      clear e
      generalize l[k] = x at *
      unfold okR at hok
      have h1 : ¬ x < 128 := fun h => by simp [h] at hok
      have h2 : ¬ 159 < x := fun h => by simp [h] at hok
      simp (disch := first | omega | (simp only [List.length_append, List.length_map, List.length_set, List.length_cons, List.length_nil, List.length_take, List.length_drop, rows32_len]; omega)) only [va0, va1, va2, va3, va4, va5, va6, va7, va8, va9, va10, va11, va12, va13, va14, va15, vb0, vb1, vb2, vb3, w_i8, w_u8, w_i16, w_u16, w_i32, w_u32, w_i64, w_u64, lt_T, lt_F, le_T, le_F, nlt_T, nlt_F, nle_T, nle_F, List.take_of_length_le, gB, gcW, gcR, posIn, renA, renL, Chunk.ren, Chunk.refs, evOpD, touchD, stepC, isFresh, nFresh, freshOf, mkR, hole, evL, evH, opd, get, putD, ofVal, cellOf, loadE, behind, lenE, idxAddrE, idxE, addPtr, intE, strE, unE, convE, AV.int, AV.bool, AV.str, ivs, take, frameOf, firstRegion, refsA, refsL, one, cellsA, floatOk, apartT, List.map, if_true, if_false, E_P, E_glob0, reduceCtorEq, beq_self_eq_true, decide_true, decide_false, ↓reduceIte, Nat.reduceEqDiff, cond_true, cond_false, or_true, true_or, or_false, false_or, and_true, true_and, and_self, false_and, and_false, not_true, not_false_iff, Nat.reduceAdd, Nat.reduceSub, Nat.reduceMul, Nat.reduceLT, Nat.reduceLeDiff, Int.reduceToNat, Int.reduceLT, Int.reduceLE, Option.getD, Int.reduceMul, Int.reduceAdd, List.drop, List.take, Nat.reduceBEq, List.isEmpty, Int.reduceEq, Int.reduceNe, Int.reduceNeg, Int.reduceGT, Int.reduceGE, beq_true, beq_false, UInt8.reduceToNat, eqE, eq_self, foldE, maxE, minE, eq_T, eq_F, ndec, odec, adec, sdec, fillA, over, chop, List.replicate, leavesOk, leafOk, cellsEq, cellEq, E_byref, en50, bs49, hrow, h1, h2, rows32_len, show ∀ B fr H, execT E B 50 (Code.loop _) fr H = rlG E B 50 (loopAt Tryd.f50 0) (gcn B (norm [0, 6, 7, 8] fr) H) from fun B fr H => rl_intro rfl mt50_1 mb50_1 zf50_1 hd50_1 fr H]
  · obtain rfl : k = l.length := by omega
    rw [List.drop_length]
    simp (disch := first | omega | (simp only [List.length_append, List.length_map, List.length_set, List.length_cons, List.length_nil, List.length_take, List.length_drop]; omega)) only [va0, va1, va2, va3, va4, va5, va6, va7, va8, va9, va10, va11, va12, va13, va14, va15, vb0, vb1, vb2, vb3, w_i8, w_u8, w_i16, w_u16, w_i32, w_u32, w_i64, w_u64, lt_T, lt_F, le_T, le_F, nlt_T, nlt_F, nle_T, nle_F, List.take_of_length_le, gB, gcW, gcR, posIn, renA, renL, Chunk.ren, Chunk.refs, evOpD, touchD, stepC, isFresh, nFresh, freshOf, mkR, hole, evL, evH, opd, get, putD, ofVal, cellOf, loadE, behind, lenE, idxAddrE, idxE, addPtr, intE, strE, unE, convE, AV.int, AV.bool, AV.str, ivs, take, frameOf, firstRegion, refsA, refsL, one, cellsA, floatOk, apartT, List.map, if_true, if_false, E_P, E_glob0, reduceCtorEq, beq_self_eq_true, decide_true, decide_false, ↓reduceIte, Nat.reduceEqDiff, cond_true, cond_false, or_true, true_or, or_false, false_or, and_true, true_and, and_self, false_and, and_false, not_true, not_false_iff, Nat.reduceAdd, Nat.reduceSub, Nat.reduceMul, Nat.reduceLT, Nat.reduceLeDiff, Int.reduceToNat, Int.reduceLT, Int.reduceLE, Option.getD, Int.reduceMul, Int.reduceAdd, List.drop, List.take, Nat.reduceBEq, List.isEmpty, Int.reduceEq, Int.reduceNe, Int.reduceNeg, Int.reduceGT, Int.reduceGE, beq_true, beq_false, UInt8.reduceToNat, eqE, eq_self, foldE, maxE, minE, eq_T, eq_F, ndec, odec, adec, sdec, fillA, over, chop, List.replicate, leavesOk, leafOk, cellsEq, cellEq, E_byref, en50, bs49, prints, List.filter_nil, List.map_nil, List.length_nil, Nat.add_zero, List.append_nil, show ∀ B fr H, execT E B 50 (Code.loop _) fr H = rlG E B 50 (loopAt Tryd.f50 0) (gcn B (norm [0, 6, 7, 8] fr) H) from fun B fr H => rl_intro rfl mt50_1 mb50_1 zf50_1 hd50_1 fr H]
    exact ⟨_, rfl⟩
termination_by l.length - k
theorem c50 (a : Int) (b c : List UInt8) (l : List Int) (hl : (l.length : Int) < 100000) (g n : Nat) (ev : List Ev) (hn : n = ev.length) (hb : n < 800000) :
    ∃ L, callT E 50 [.ptr 0 0 0 0, .i (.sl 1 (rows32 l) false)] (.box [.i (.v (.int .i64 (a))), .i (.str (b)), .i (.str (c)), .ref 1 (g) 0 (n)] :: .sl 7 (g) (rowsEv ev) false :: []) = some (.tup [], .box [.i (.v (.int .i64 (a))), .i (.str (b)), .i (.str (c)), .ref 1 (g + (prints l).length) 0 (n + (prints l).length)] :: .sl 7 (g + (prints l).length) (rowsEv (ev ++ prints l)) false :: L) := by
  obtain ⟨fr, e⟩ := l50 a b c l (by omega) 0 (Nat.zero_le _) g n ev hn (by omega)
  rw [List.drop_zero] at e
  have e' : rl E 2 50 (loopAt Tryd.f50 0) [(0, .ptr 0 0 0 0), (6, .i (.sl 1 (rows32 l) false)), (7, .i (.v (.int .i64 l.length))), (8, .i (.v (.int .i64 0)))] (.box [.i (.v (.int .i64 (a))), .i (.str (b)), .i (.str (c)), .ref 1 (g) 0 (n)] :: .sl 7 (g) (rowsEv ev) false :: []) = _ := e
  rw [callT_eq Tryd.func50 rfl fok50 (by simp [Tryd.ntmps50])]
  simp (disch := first | omega | (simp only [List.length_append, List.length_map, List.length_set, List.length_cons, List.length_nil, List.length_take, List.length_drop, rows32_len]; omega)) only [va0, va1, va2, va3, va4, va5, va6, va7, va8, va9, va10, va11, va12, va13, va14, va15, vb0, vb1, vb2, vb3, w_i8, w_u8, w_i16, w_u16, w_i32, w_u32, w_i64, w_u64, lt_T, lt_F, le_T, le_F, nlt_T, nlt_F, nle_T, nle_F, List.take_of_length_le, gB, gcW, gcR, posIn, renA, renL, Chunk.ren, Chunk.refs, evOpD, touchD, stepC, isFresh, nFresh, freshOf, mkR, hole, evL, evH, opd, get, putD, ofVal, cellOf, loadE, behind, lenE, idxAddrE, idxE, addPtr, intE, strE, unE, convE, AV.int, AV.bool, AV.str, ivs, take, frameOf, firstRegion, refsA, refsL, one, cellsA, floatOk, apartT, List.map, if_true, if_false, E_P, E_glob0, reduceCtorEq, beq_self_eq_true, decide_true, decide_false, ↓reduceIte, Nat.reduceEqDiff, cond_true, cond_false, or_true, true_or, or_false, false_or, and_true, true_and, and_self, false_and, and_false, not_true, not_false_iff, Nat.reduceAdd, Nat.reduceSub, Nat.reduceMul, Nat.reduceLT, Nat.reduceLeDiff, Int.reduceToNat, Int.reduceLT, Int.reduceLE, Option.getD, Int.reduceMul, Int.reduceAdd, List.drop, List.take, Nat.reduceBEq, List.isEmpty, Int.reduceEq, Int.reduceNe, Int.reduceNeg, Int.reduceGT, Int.reduceGE, beq_true, beq_false, UInt8.reduceToNat, eqE, eq_self, foldE, maxE, minE, eq_T, eq_F, ndec, odec, adec, sdec, fillA, over, chop, List.replicate, leavesOk, leafOk, cellsEq, cellEq, E_byref, en50, bs49, e', rows32_len, show ∀ B fr H, execT E B 50 (Code.loop _) fr H = rlG E B 50 (loopAt Tryd.f50 0) (gcn B (norm [0, 6, 7, 8] fr) H) from fun B fr H => rl_intro rfl mt50_1 mb50_1 zf50_1 hd50_1 fr H]
  exact ⟨_, rfl⟩
theorem ik50 (a : Int) (b c : List UInt8) (l : List Int) (hl : (l.length : Int) < 100000) (g n : Nat) (ev : List Ev) (hn : n = ev.length) (hb : n < 800000) (T : Hp) :
    isoK E (callT E) 50 [.ptr 0 0 0 0, .i (.sl 1 (rows32 l) false)] (.box [.i (.v (.int .i64 (a))), .i (.str (b)), .i (.str (c)), .ref 1 (g) 0 (n)] :: .sl 7 (g) (rowsEv ev) false :: T) = some (.tup [], .box [.i (.v (.int .i64 (a))), .i (.str (b)), .i (.str (c)), .ref 1 (g + (prints l).length) 0 (n + (prints l).length)] :: .sl 7 (g + (prints l).length) (rowsEv (ev ++ prints l)) false :: T) := isoK_rd rfl rfl rfl (c50 a b c l hl g n ev hn hb) T
end Go.VI

namespace Go.VI
open Go.Proofs
set_option maxRecDepth 100000
set_option linter.unusedSimpArgs false
set_option linter.unusedVariables false
set_option maxHeartbeats 4000000
structure Ps where
  (st : Int) (pe bu : List UInt8)
def ctEv (b : UInt8) : Ev := ⟨2, 0, b.toNat, 0, [], [], []⟩
def lostS (pe : List UInt8) : List Ev := if pe = [] then [] else [prEv 65533]
def plainS (p : Ps) (b : UInt8) : Ps × List Ev :=
  if 32 ≤ (b.toNat : Int) ∧ ¬ (b.toNat : Int) = 127 then (⟨p.st, decRest (p.pe ++ [b]), p.bu⟩, prints (decOut (p.pe ++ [b])))
  else if (b.toNat : Int) = 27 then (⟨1, [], []⟩, lostS p.pe)
  else if (b.toNat : Int) = 24 ∨ (b.toNat : Int) = 26 ∨ (b.toNat : Int) = 127 then (⟨p.st, [], p.bu⟩, lostS p.pe)
  else (⟨p.st, [], p.bu⟩, lostS p.pe ++ [ctEv b])
theorem decOut_len (t : List UInt8) : (decOut t).length ≤ 2 * t.length := by
  have key : ∀ (l : List UInt8) (i : Nat) (d : Dec), (runD l i d).out.length ≤ d.out.length + 2 * l.length := by
    intro l
    induction l with
    | nil => intro i d; simp [runD]
    | cons b l ih =>
      intro i d
      have h1 := ih (i + 1) (stepD d i b.toNat)
      have h2 := stepD_len d i b.toNat
      simp only [runD, List.length_cons]; omega
  have := key t 0 ⟨sq0, [], 0⟩
  simpa [decOut, decD] using this
theorem c30 (p : Ps) (b : UInt8) (g n : Nat) (l : List Ev) (hp : p.pe.length < 40000) (hn : n = l.length) (hl : n < 700000) :
    ∃ L, callT E 30 [.ptr 0 0 0 0, .i (.v (.int .u8 b.toNat))] (.box [.i (.v (.int .i64 (p.st))), .i (.str (p.pe)), .i (.str (p.bu)), .ref 1 (g) 0 (n)] :: .sl 7 (g) (rowsEv l) false :: []) = some (.tup [], .box [.i (.v (.int .i64 ((plainS p b).1.st))), .i (.str ((plainS p b).1.pe)), .i (.str ((plainS p b).1.bu)), .ref 1 (g + (plainS p b).2.length) 0 (n + (plainS p b).2.length)] :: .sl 7 (g + (plainS p b).2.length) (rowsEv (l ++ (plainS p b).2)) false :: L) := by
  obtain ⟨st, pe, bu⟩ := p
  simp only at hp
  have hlen := decOut_len (pe ++ [b])
  simp only [List.length_append, List.length_cons, List.length_nil] at hlen
  by_cases h1 : 32 ≤ (b.toNat : Int) ∧ ¬ (b.toNat : Int) = 127
  · simp only [plainS, if_pos h1]
    obtain ⟨h1, h2⟩ := h1
    rw [callT_eq Tryd.func30 rfl fok30 (by simp [Tryd.ntmps30])]
    simp (disch := first | omega | (simp only [List.length_append, List.length_map, List.length_set, List.length_cons, List.length_nil, List.length_take, List.length_drop]; omega)) only [va0, va1, va2, va3, va4, va5, va6, va7, va8, va9, va10, va11, va12, va13, va14, va15, vb0, vb1, vb2, vb3, w_i8, w_u8, w_i16, w_u16, w_i32, w_u32, w_i64, w_u64, lt_T, lt_F, le_T, le_F, nlt_T, nlt_F, nle_T, nle_F, List.take_of_length_le, gB, gcW, gcR, posIn, renA, renL, Chunk.ren, Chunk.refs, evOpD, touchD, stepC, isFresh, nFresh, freshOf, mkR, hole, evL, evH, opd, get, putD, ofVal, cellOf, loadE, behind, lenE, idxAddrE, idxE, addPtr, intE, strE, unE, convE, AV.int, AV.bool, AV.str, ivs, take, frameOf, firstRegion, refsA, refsL, one, cellsA, floatOk, apartT, List.map, if_true, if_false, E_P, E_glob0, reduceCtorEq, beq_self_eq_true, decide_true, decide_false, ↓reduceIte, Nat.reduceEqDiff, cond_true, cond_false, or_true, true_or, or_false, false_or, and_true, true_and, and_self, false_and, and_false, not_true, not_false_iff, Nat.reduceAdd, Nat.reduceSub, Nat.reduceMul, Nat.reduceLT, Nat.reduceLeDiff, Int.reduceToNat, Int.reduceLT, Int.reduceLE, Option.getD, Int.reduceMul, Int.reduceAdd, List.drop, List.take, Nat.reduceBEq, List.isEmpty, Int.reduceEq, Int.reduceNe, Int.reduceNeg, Int.reduceGT, Int.reduceGE, beq_true, beq_false, UInt8.reduceToNat, eqE, eq_self, foldE, maxE, minE, eq_T, eq_F, ndec, odec, adec, sdec, fillA, over, chop, List.replicate, leavesOk, leafOk, cellsEq, cellEq, E_byref, en30, bs47, bs49, h1, h2, ik28, ik50]
    exact ⟨_, rfl⟩
  · simp only [plainS, if_neg h1]
    have hx : ¬ 32 ≤ (b.toNat : Int) ∨ (b.toNat : Int) = 127 := by omega
    clear h1 hlen
    by_cases c1 : (b.toNat : Int) = 27
    · rw [if_pos c1]
      cases pe with
      | nil => (rw [callT_eq Tryd.func30 rfl fok30 (by simp [Tryd.ntmps30])]; simp (disch := first | omega | (simp only [List.length_append, List.length_map, List.length_set, List.length_cons, List.length_nil, List.length_take, List.length_drop]; omega)) only [va0, va1, va2, va3, va4, va5, va6, va7, va8, va9, va10, va11, va12, va13, va14, va15, vb0, vb1, vb2, vb3, w_i8, w_u8, w_i16, w_u16, w_i32, w_u32, w_i64, w_u64, lt_T, lt_F, le_T, le_F, nlt_T, nlt_F, nle_T, nle_F, List.take_of_length_le, gB, gcW, gcR, posIn, renA, renL, Chunk.ren, Chunk.refs, evOpD, touchD, stepC, isFresh, nFresh, freshOf, mkR, hole, evL, evH, opd, get, putD, ofVal, cellOf, loadE, behind, lenE, idxAddrE, idxE, addPtr, intE, strE, unE, convE, AV.int, AV.bool, AV.str, ivs, take, frameOf, firstRegion, refsA, refsL, one, cellsA, floatOk, apartT, List.map, if_true, if_false, E_P, E_glob0, reduceCtorEq, beq_self_eq_true, decide_true, decide_false, ↓reduceIte, Nat.reduceEqDiff, cond_true, cond_false, or_true, true_or, or_false, false_or, and_true, true_and, and_self, false_and, and_false, not_true, not_false_iff, Nat.reduceAdd, Nat.reduceSub, Nat.reduceMul, Nat.reduceLT, Nat.reduceLeDiff, Int.reduceToNat, Int.reduceLT, Int.reduceLE, Option.getD, Int.reduceMul, Int.reduceAdd, List.drop, List.take, Nat.reduceBEq, List.isEmpty, Int.reduceEq, Int.reduceNe, Int.reduceNeg, Int.reduceGT, Int.reduceGE, beq_true, beq_false, UInt8.reduceToNat, eqE, eq_self, foldE, maxE, minE, eq_T, eq_F, ndec, odec, adec, sdec, fillA, over, chop, List.replicate, leavesOk, leafOk, cellsEq, cellEq, E_byref, en30, bs47, bs49, c1, lostS, ik32, ik19_e]; (try simp only [List.append_assoc, List.cons_append, List.nil_append]); exact ⟨_, rfl⟩)
      | cons y pe => (rw [callT_eq Tryd.func30 rfl fok30 (by simp [Tryd.ntmps30])]; simp (disch := first | omega | (simp only [List.length_append, List.length_map, List.length_set, List.length_cons, List.length_nil, List.length_take, List.length_drop]; omega)) only [va0, va1, va2, va3, va4, va5, va6, va7, va8, va9, va10, va11, va12, va13, va14, va15, vb0, vb1, vb2, vb3, w_i8, w_u8, w_i16, w_u16, w_i32, w_u32, w_i64, w_u64, lt_T, lt_F, le_T, le_F, nlt_T, nlt_F, nle_T, nle_F, List.take_of_length_le, gB, gcW, gcR, posIn, renA, renL, Chunk.ren, Chunk.refs, evOpD, touchD, stepC, isFresh, nFresh, freshOf, mkR, hole, evL, evH, opd, get, putD, ofVal, cellOf, loadE, behind, lenE, idxAddrE, idxE, addPtr, intE, strE, unE, convE, AV.int, AV.bool, AV.str, ivs, take, frameOf, firstRegion, refsA, refsL, one, cellsA, floatOk, apartT, List.map, if_true, if_false, E_P, E_glob0, reduceCtorEq, beq_self_eq_true, decide_true, decide_false, ↓reduceIte, Nat.reduceEqDiff, cond_true, cond_false, or_true, true_or, or_false, false_or, and_true, true_and, and_self, false_and, and_false, not_true, not_false_iff, Nat.reduceAdd, Nat.reduceSub, Nat.reduceMul, Nat.reduceLT, Nat.reduceLeDiff, Int.reduceToNat, Int.reduceLT, Int.reduceLE, Option.getD, Int.reduceMul, Int.reduceAdd, List.drop, List.take, Nat.reduceBEq, List.isEmpty, Int.reduceEq, Int.reduceNe, Int.reduceNeg, Int.reduceGT, Int.reduceGE, beq_true, beq_false, UInt8.reduceToNat, eqE, eq_self, foldE, maxE, minE, eq_T, eq_F, ndec, odec, adec, sdec, fillA, over, chop, List.replicate, leavesOk, leafOk, cellsEq, cellEq, E_byref, en30, bs47, bs49, c1, lostS, ik32, ik19_e]; (try simp only [List.append_assoc, List.cons_append, List.nil_append]); exact ⟨_, rfl⟩)
    · rw [if_neg c1]
      by_cases c2 : (b.toNat : Int) = 24
      · rw [if_pos (.inl c2)]
        cases pe with
        | nil => (rw [callT_eq Tryd.func30 rfl fok30 (by simp [Tryd.ntmps30])]; simp (disch := first | omega | (simp only [List.length_append, List.length_map, List.length_set, List.length_cons, List.length_nil, List.length_take, List.length_drop]; omega)) only [va0, va1, va2, va3, va4, va5, va6, va7, va8, va9, va10, va11, va12, va13, va14, va15, vb0, vb1, vb2, vb3, w_i8, w_u8, w_i16, w_u16, w_i32, w_u32, w_i64, w_u64, lt_T, lt_F, le_T, le_F, nlt_T, nlt_F, nle_T, nle_F, List.take_of_length_le, gB, gcW, gcR, posIn, renA, renL, Chunk.ren, Chunk.refs, evOpD, touchD, stepC, isFresh, nFresh, freshOf, mkR, hole, evL, evH, opd, get, putD, ofVal, cellOf, loadE, behind, lenE, idxAddrE, idxE, addPtr, intE, strE, unE, convE, AV.int, AV.bool, AV.str, ivs, take, frameOf, firstRegion, refsA, refsL, one, cellsA, floatOk, apartT, List.map, if_true, if_false, E_P, E_glob0, reduceCtorEq, beq_self_eq_true, decide_true, decide_false, ↓reduceIte, Nat.reduceEqDiff, cond_true, cond_false, or_true, true_or, or_false, false_or, and_true, true_and, and_self, false_and, and_false, not_true, not_false_iff, Nat.reduceAdd, Nat.reduceSub, Nat.reduceMul, Nat.reduceLT, Nat.reduceLeDiff, Int.reduceToNat, Int.reduceLT, Int.reduceLE, Option.getD, Int.reduceMul, Int.reduceAdd, List.drop, List.take, Nat.reduceBEq, List.isEmpty, Int.reduceEq, Int.reduceNe, Int.reduceNeg, Int.reduceGT, Int.reduceGE, beq_true, beq_false, UInt8.reduceToNat, eqE, eq_self, foldE, maxE, minE, eq_T, eq_F, ndec, odec, adec, sdec, fillA, over, chop, List.replicate, leavesOk, leafOk, cellsEq, cellEq, E_byref, en30, bs47, bs49, c2, lostS, ik32, ik19_e]; (try simp only [List.append_assoc, List.cons_append, List.nil_append]); exact ⟨_, rfl⟩)
        | cons y pe => (rw [callT_eq Tryd.func30 rfl fok30 (by simp [Tryd.ntmps30])]; simp (disch := first | omega | (simp only [List.length_append, List.length_map, List.length_set, List.length_cons, List.length_nil, List.length_take, List.length_drop]; omega)) only [va0, va1, va2, va3, va4, va5, va6, va7, va8, va9, va10, va11, va12, va13, va14, va15, vb0, vb1, vb2, vb3, w_i8, w_u8, w_i16, w_u16, w_i32, w_u32, w_i64, w_u64, lt_T, lt_F, le_T, le_F, nlt_T, nlt_F, nle_T, nle_F, List.take_of_length_le, gB, gcW, gcR, posIn, renA, renL, Chunk.ren, Chunk.refs, evOpD, touchD, stepC, isFresh, nFresh, freshOf, mkR, hole, evL, evH, opd, get, putD, ofVal, cellOf, loadE, behind, lenE, idxAddrE, idxE, addPtr, intE, strE, unE, convE, AV.int, AV.bool, AV.str, ivs, take, frameOf, firstRegion, refsA, refsL, one, cellsA, floatOk, apartT, List.map, if_true, if_false, E_P, E_glob0, reduceCtorEq, beq_self_eq_true, decide_true, decide_false, ↓reduceIte, Nat.reduceEqDiff, cond_true, cond_false, or_true, true_or, or_false, false_or, and_true, true_and, and_self, false_and, and_false, not_true, not_false_iff, Nat.reduceAdd, Nat.reduceSub, Nat.reduceMul, Nat.reduceLT, Nat.reduceLeDiff, Int.reduceToNat, Int.reduceLT, Int.reduceLE, Option.getD, Int.reduceMul, Int.reduceAdd, List.drop, List.take, Nat.reduceBEq, List.isEmpty, Int.reduceEq, Int.reduceNe, Int.reduceNeg, Int.reduceGT, Int.reduceGE, beq_true, beq_false, UInt8.reduceToNat, eqE, eq_self, foldE, maxE, minE, eq_T, eq_F, ndec, odec, adec, sdec, fillA, over, chop, List.replicate, leavesOk, leafOk, cellsEq, cellEq, E_byref, en30, bs47, bs49, c2, lostS, ik32, ik19_e]; (try simp only [List.append_assoc, List.cons_append, List.nil_append]); exact ⟨_, rfl⟩)
      · by_cases c3 : (b.toNat : Int) = 26
        · rw [if_pos (.inr (.inl c3))]
          cases pe with
          | nil => (rw [callT_eq Tryd.func30 rfl fok30 (by simp [Tryd.ntmps30])]; simp (disch := first | omega | (simp only [List.length_append, List.length_map, List.length_set, List.length_cons, List.length_nil, List.length_take, List.length_drop]; omega)) only [va0, va1, va2, va3, va4, va5, va6, va7, va8, va9, va10, va11, va12, va13, va14, va15, vb0, vb1, vb2, vb3, w_i8, w_u8, w_i16, w_u16, w_i32, w_u32, w_i64, w_u64, lt_T, lt_F, le_T, le_F, nlt_T, nlt_F, nle_T, nle_F, List.take_of_length_le, gB, gcW, gcR, posIn, renA, renL, Chunk.ren, Chunk.refs, evOpD, touchD, stepC, isFresh, nFresh, freshOf, mkR, hole, evL, evH, opd, get, putD, ofVal, cellOf, loadE, behind, lenE, idxAddrE, idxE, addPtr, intE, strE, unE, convE, AV.int, AV.bool, AV.str, ivs, take, frameOf, firstRegion, refsA, refsL, one, cellsA, floatOk, apartT, List.map, if_true, if_false, E_P, E_glob0, reduceCtorEq, beq_self_eq_true, decide_true, decide_false, ↓reduceIte, Nat.reduceEqDiff, cond_true, cond_false, or_true, true_or, or_false, false_or, and_true, true_and, and_self, false_and, and_false, not_true, not_false_iff, Nat.reduceAdd, Nat.reduceSub, Nat.reduceMul, Nat.reduceLT, Nat.reduceLeDiff, Int.reduceToNat, Int.reduceLT, Int.reduceLE, Option.getD, Int.reduceMul, Int.reduceAdd, List.drop, List.take, Nat.reduceBEq, List.isEmpty, Int.reduceEq, Int.reduceNe, Int.reduceNeg, Int.reduceGT, Int.reduceGE, beq_true, beq_false, UInt8.reduceToNat, eqE, eq_self, foldE, maxE, minE, eq_T, eq_F, ndec, odec, adec, sdec, fillA, over, chop, List.replicate, leavesOk, leafOk, cellsEq, cellEq, E_byref, en30, bs47, bs49, c3, lostS, ik32, ik19_e]; (try simp only [List.append_assoc, List.cons_append, List.nil_append]); exact ⟨_, rfl⟩)
          | cons y pe => (rw [callT_eq Tryd.func30 rfl fok30 (by simp [Tryd.ntmps30])]; simp (disch := first | omega | (simp only [List.length_append, List.length_map, List.length_set, List.length_cons, List.length_nil, List.length_take, List.length_drop]; omega)) only [va0, va1, va2, va3, va4, va5, va6, va7, va8, va9, va10, va11, va12, va13, va14, va15, vb0, vb1, vb2, vb3, w_i8, w_u8, w_i16, w_u16, w_i32, w_u32, w_i64, w_u64, lt_T, lt_F, le_T, le_F, nlt_T, nlt_F, nle_T, nle_F, List.take_of_length_le, gB, gcW, gcR, posIn, renA, renL, Chunk.ren, Chunk.refs, evOpD, touchD, stepC, isFresh, nFresh, freshOf, mkR, hole, evL, evH, opd, get, putD, ofVal, cellOf, loadE, behind, lenE, idxAddrE, idxE, addPtr, intE, strE, unE, convE, AV.int, AV.bool, AV.str, ivs, take, frameOf, firstRegion, refsA, refsL, one, cellsA, floatOk, apartT, List.map, if_true, if_false, E_P, E_glob0, reduceCtorEq, beq_self_eq_true, decide_true, decide_false, ↓reduceIte, Nat.reduceEqDiff, cond_true, cond_false, or_true, true_or, or_false, false_or, and_true, true_and, and_self, false_and, and_false, not_true, not_false_iff, Nat.reduceAdd, Nat.reduceSub, Nat.reduceMul, Nat.reduceLT, Nat.reduceLeDiff, Int.reduceToNat, Int.reduceLT, Int.reduceLE, Option.getD, Int.reduceMul, Int.reduceAdd, List.drop, List.take, Nat.reduceBEq, List.isEmpty, Int.reduceEq, Int.reduceNe, Int.reduceNeg, Int.reduceGT, Int.reduceGE, beq_true, beq_false, UInt8.reduceToNat, eqE, eq_self, foldE, maxE, minE, eq_T, eq_F, ndec, odec, adec, sdec, fillA, over, chop, List.replicate, leavesOk, leafOk, cellsEq, cellEq, E_byref, en30, bs47, bs49, c3, lostS, ik32, ik19_e]; (try simp only [List.append_assoc, List.cons_append, List.nil_append]); exact ⟨_, rfl⟩)
        · by_cases c4 : (b.toNat : Int) = 127
          · rw [if_pos (.inr (.inr c4))]
            cases pe with
            | nil => (rw [callT_eq Tryd.func30 rfl fok30 (by simp [Tryd.ntmps30])]; simp (disch := first | omega | (simp only [List.length_append, List.length_map, List.length_set, List.length_cons, List.length_nil, List.length_take, List.length_drop]; omega)) only [va0, va1, va2, va3, va4, va5, va6, va7, va8, va9, va10, va11, va12, va13, va14, va15, vb0, vb1, vb2, vb3, w_i8, w_u8, w_i16, w_u16, w_i32, w_u32, w_i64, w_u64, lt_T, lt_F, le_T, le_F, nlt_T, nlt_F, nle_T, nle_F, List.take_of_length_le, gB, gcW, gcR, posIn, renA, renL, Chunk.ren, Chunk.refs, evOpD, touchD, stepC, isFresh, nFresh, freshOf, mkR, hole, evL, evH, opd, get, putD, ofVal, cellOf, loadE, behind, lenE, idxAddrE, idxE, addPtr, intE, strE, unE, convE, AV.int, AV.bool, AV.str, ivs, take, frameOf, firstRegion, refsA, refsL, one, cellsA, floatOk, apartT, List.map, if_true, if_false, E_P, E_glob0, reduceCtorEq, beq_self_eq_true, decide_true, decide_false, ↓reduceIte, Nat.reduceEqDiff, cond_true, cond_false, or_true, true_or, or_false, false_or, and_true, true_and, and_self, false_and, and_false, not_true, not_false_iff, Nat.reduceAdd, Nat.reduceSub, Nat.reduceMul, Nat.reduceLT, Nat.reduceLeDiff, Int.reduceToNat, Int.reduceLT, Int.reduceLE, Option.getD, Int.reduceMul, Int.reduceAdd, List.drop, List.take, Nat.reduceBEq, List.isEmpty, Int.reduceEq, Int.reduceNe, Int.reduceNeg, Int.reduceGT, Int.reduceGE, beq_true, beq_false, UInt8.reduceToNat, eqE, eq_self, foldE, maxE, minE, eq_T, eq_F, ndec, odec, adec, sdec, fillA, over, chop, List.replicate, leavesOk, leafOk, cellsEq, cellEq, E_byref, en30, bs47, bs49, c4, lostS, ik32, ik19_e]; (try simp only [List.append_assoc, List.cons_append, List.nil_append]); exact ⟨_, rfl⟩)
            | cons y pe => (rw [callT_eq Tryd.func30 rfl fok30 (by simp [Tryd.ntmps30])]; simp (disch := first | omega | (simp only [List.length_append, List.length_map, List.length_set, List.length_cons, List.length_nil, List.length_take, List.length_drop]; omega)) only [va0, va1, va2, va3, va4, va5, va6, va7, va8, va9, va10, va11, va12, va13, va14, va15, vb0, vb1, vb2, vb3, w_i8, w_u8, w_i16, w_u16, w_i32, w_u32, w_i64, w_u64, lt_T, lt_F, le_T, le_F, nlt_T, nlt_F, nle_T, nle_F, List.take_of_length_le, gB, gcW, gcR, posIn, renA, renL, Chunk.ren, Chunk.refs, evOpD, touchD, stepC, isFresh, nFresh, freshOf, mkR, hole, evL, evH, opd, get, putD, ofVal, cellOf, loadE, behind, lenE, idxAddrE, idxE, addPtr, intE, strE, unE, convE, AV.int, AV.bool, AV.str, ivs, take, frameOf, firstRegion, refsA, refsL, one, cellsA, floatOk, apartT, List.map, if_true, if_false, E_P, E_glob0, reduceCtorEq, beq_self_eq_true, decide_true, decide_false, ↓reduceIte, Nat.reduceEqDiff, cond_true, cond_false, or_true, true_or, or_false, false_or, and_true, true_and, and_self, false_and, and_false, not_true, not_false_iff, Nat.reduceAdd, Nat.reduceSub, Nat.reduceMul, Nat.reduceLT, Nat.reduceLeDiff, Int.reduceToNat, Int.reduceLT, Int.reduceLE, Option.getD, Int.reduceMul, Int.reduceAdd, List.drop, List.take, Nat.reduceBEq, List.isEmpty, Int.reduceEq, Int.reduceNe, Int.reduceNeg, Int.reduceGT, Int.reduceGE, beq_true, beq_false, UInt8.reduceToNat, eqE, eq_self, foldE, maxE, minE, eq_T, eq_F, ndec, odec, adec, sdec, fillA, over, chop, List.replicate, leavesOk, leafOk, cellsEq, cellEq, E_byref, en30, bs47, bs49, c4, lostS, ik32, ik19_e]; (try simp only [List.append_assoc, List.cons_append, List.nil_append]); exact ⟨_, rfl⟩)
          · rw [if_neg (by omega)]
            have c5 : ¬ 32 ≤ (b.toNat : Int) := by omega
            cases pe with
            | nil => (rw [callT_eq Tryd.func30 rfl fok30 (by simp [Tryd.ntmps30])]; simp (disch := first | omega | (simp only [List.length_append, List.length_map, List.length_set, List.length_cons, List.length_nil, List.length_take, List.length_drop]; omega)) only [va0, va1, va2, va3, va4, va5, va6, va7, va8, va9, va10, va11, va12, va13, va14, va15, vb0, vb1, vb2, vb3, w_i8, w_u8, w_i16, w_u16, w_i32, w_u32, w_i64, w_u64, lt_T, lt_F, le_T, le_F, nlt_T, nlt_F, nle_T, nle_F, List.take_of_length_le, gB, gcW, gcR, posIn, renA, renL, Chunk.ren, Chunk.refs, evOpD, touchD, stepC, isFresh, nFresh, freshOf, mkR, hole, evL, evH, opd, get, putD, ofVal, cellOf, loadE, behind, lenE, idxAddrE, idxE, addPtr, intE, strE, unE, convE, AV.int, AV.bool, AV.str, ivs, take, frameOf, firstRegion, refsA, refsL, one, cellsA, floatOk, apartT, List.map, if_true, if_false, E_P, E_glob0, reduceCtorEq, beq_self_eq_true, decide_true, decide_false, ↓reduceIte, Nat.reduceEqDiff, cond_true, cond_false, or_true, true_or, or_false, false_or, and_true, true_and, and_self, false_and, and_false, not_true, not_false_iff, Nat.reduceAdd, Nat.reduceSub, Nat.reduceMul, Nat.reduceLT, Nat.reduceLeDiff, Int.reduceToNat, Int.reduceLT, Int.reduceLE, Option.getD, Int.reduceMul, Int.reduceAdd, List.drop, List.take, Nat.reduceBEq, List.isEmpty, Int.reduceEq, Int.reduceNe, Int.reduceNeg, Int.reduceGT, Int.reduceGE, beq_true, beq_false, UInt8.reduceToNat, eqE, eq_self, foldE, maxE, minE, eq_T, eq_F, ndec, odec, adec, sdec, fillA, over, chop, List.replicate, leavesOk, leafOk, cellsEq, cellEq, E_byref, en30, bs47, bs49, c1, c2, c3, c4, c5, lostS, ik32, ik19_e]; (try simp only [List.append_assoc, List.cons_append, List.nil_append]); exact ⟨_, rfl⟩)
            | cons y pe => (rw [callT_eq Tryd.func30 rfl fok30 (by simp [Tryd.ntmps30])]; simp (disch := first | omega | (simp only [List.length_append, List.length_map, List.length_set, List.length_cons, List.length_nil, List.length_take, List.length_drop]; omega)) only [va0, va1, va2, va3, va4, va5, va6, va7, va8, va9, va10, va11, va12, va13, va14, va15, vb0, vb1, vb2, vb3, w_i8, w_u8, w_i16, w_u16, w_i32, w_u32, w_i64, w_u64, lt_T, lt_F, le_T, le_F, nlt_T, nlt_F, nle_T, nle_F, List.take_of_length_le, gB, gcW, gcR, posIn, renA, renL, Chunk.ren, Chunk.refs, evOpD, touchD, stepC, isFresh, nFresh, freshOf, mkR, hole, evL, evH, opd, get, putD, ofVal, cellOf, loadE, behind, lenE, idxAddrE, idxE, addPtr, intE, strE, unE, convE, AV.int, AV.bool, AV.str, ivs, take, frameOf, firstRegion, refsA, refsL, one, cellsA, floatOk, apartT, List.map, if_true, if_false, E_P, E_glob0, reduceCtorEq, beq_self_eq_true, decide_true, decide_false, ↓reduceIte, Nat.reduceEqDiff, cond_true, cond_false, or_true, true_or, or_false, false_or, and_true, true_and, and_self, false_and, and_false, not_true, not_false_iff, Nat.reduceAdd, Nat.reduceSub, Nat.reduceMul, Nat.reduceLT, Nat.reduceLeDiff, Int.reduceToNat, Int.reduceLT, Int.reduceLE, Option.getD, Int.reduceMul, Int.reduceAdd, List.drop, List.take, Nat.reduceBEq, List.isEmpty, Int.reduceEq, Int.reduceNe, Int.reduceNeg, Int.reduceGT, Int.reduceGE, beq_true, beq_false, UInt8.reduceToNat, eqE, eq_self, foldE, maxE, minE, eq_T, eq_F, ndec, odec, adec, sdec, fillA, over, chop, List.replicate, leavesOk, leafOk, cellsEq, cellEq, E_byref, en30, bs47, bs49, c1, c2, c3, c4, c5, lostS, ik32, ik19_e]; (try simp only [List.append_assoc, List.cons_append, List.nil_append]); exact ⟨_, rfl⟩)
theorem ik30 (p : Ps) (b : UInt8) (g n : Nat) (l : List Ev) (hp : p.pe.length < 40000) (hn : n = l.length) (hl : n < 700000) (T : Hp) :
    isoK E (callT E) 30 [.ptr 0 0 0 0, .i (.v (.int .u8 b.toNat))] (.box [.i (.v (.int .i64 (p.st))), .i (.str (p.pe)), .i (.str (p.bu)), .ref 1 (g) 0 (n)] :: .sl 7 (g) (rowsEv l) false :: T) = some (.tup [], .box [.i (.v (.int .i64 ((plainS p b).1.st))), .i (.str ((plainS p b).1.pe)), .i (.str ((plainS p b).1.bu)), .ref 1 (g + (plainS p b).2.length) 0 (n + (plainS p b).2.length)] :: .sl 7 (g + (plainS p b).2.length) (rowsEv (l ++ (plainS p b).2)) false :: T) := isoK_rd rfl rfl rfl (c30 p b g n l hp hn hl) T
end Go.VI

namespace Go.VI
open Go.Proofs
set_option maxRecDepth 100000
set_option linter.unusedSimpArgs false
set_option linter.unusedVariables false
set_option maxHeartbeats 4000000
def commonS (p : Ps) (b : UInt8) : Option (Ps × List Ev) :=
  if (b.toNat : Int) = 27 then some (⟨1, [], []⟩, [])
  else if (b.toNat : Int) = 24 ∨ (b.toNat : Int) = 26 then some (⟨0, [], []⟩, [])
  else if (b.toNat : Int) < 32 then some (p, [ctEv b])
  else if (b.toNat : Int) = 127 then some (p, [])
  else if 128 ≤ (b.toNat : Int) then some (plainS ⟨0, [], []⟩ b)
  else none
theorem c51 (p : Ps) (b : UInt8) (g n : Nat) (l : List Ev) (hn : n = l.length) (hl : n < 700000) :
    ∃ L, callT E 51 [.ptr 0 0 0 0, .i (.v (.int .u8 b.toNat))] (.box [.i (.v (.int .i64 (p.st))), .i (.str (p.pe)), .i (.str (p.bu)), .ref 1 (g) 0 (n)] :: .sl 7 (g) (rowsEv l) false :: []) = match commonS p b with
      | some q => some (.i (.v (.bool true)), .box [.i (.v (.int .i64 ((q).1.st))), .i (.str ((q).1.pe)), .i (.str ((q).1.bu)), .ref 1 (g + (q).2.length) 0 (n + (q).2.length)] :: .sl 7 (g + (q).2.length) (rowsEv (l ++ (q).2)) false :: L)
      | none => some (.i (.v (.bool false)), .box [.i (.v (.int .i64 (p.st))), .i (.str (p.pe)), .i (.str (p.bu)), .ref 1 (g) 0 (n)] :: .sl 7 (g) (rowsEv l) false :: L) := by
  obtain ⟨st, pe, bu⟩ := p
  have hik := fun T => ik30 ⟨0, [], []⟩ b g n l (by simp) hn hl T
  simp only at hik
  have hb := b.toNat_lt
  unfold commonS
  by_cases c1 : (b.toNat : Int) = 27
  · rw [if_pos c1]
    rw [callT_eq Tryd.func51 rfl fok51 (by simp [Tryd.ntmps51])]; simp (disch := first | omega | (simp only [List.length_append, List.length_map, List.length_set, List.length_cons, List.length_nil, List.length_take, List.length_drop]; omega)) only [va0, va1, va2, va3, va4, va5, va6, va7, va8, va9, va10, va11, va12, va13, va14, va15, vb0, vb1, vb2, vb3, w_i8, w_u8, w_i16, w_u16, w_i32, w_u32, w_i64, w_u64, lt_T, lt_F, le_T, le_F, nlt_T, nlt_F, nle_T, nle_F, List.take_of_length_le, gB, gcW, gcR, posIn, renA, renL, Chunk.ren, Chunk.refs, evOpD, touchD, stepC, isFresh, nFresh, freshOf, mkR, hole, evL, evH, opd, get, putD, ofVal, cellOf, loadE, behind, lenE, idxAddrE, idxE, addPtr, intE, strE, unE, convE, AV.int, AV.bool, AV.str, ivs, take, frameOf, firstRegion, refsA, refsL, one, cellsA, floatOk, apartT, List.map, if_true, if_false, E_P, E_glob0, reduceCtorEq, beq_self_eq_true, decide_true, decide_false, ↓reduceIte, Nat.reduceEqDiff, cond_true, cond_false, or_true, true_or, or_false, false_or, and_true, true_and, and_self, false_and, and_false, not_true, not_false_iff, Nat.reduceAdd, Nat.reduceSub, Nat.reduceMul, Nat.reduceLT, Nat.reduceLeDiff, Int.reduceToNat, Int.reduceLT, Int.reduceLE, Option.getD, Int.reduceMul, Int.reduceAdd, List.drop, List.take, Nat.reduceBEq, List.isEmpty, Int.reduceEq, Int.reduceNe, Int.reduceNeg, Int.reduceGT, Int.reduceGE, beq_true, beq_false, UInt8.reduceToNat, eqE, eq_self, foldE, maxE, minE, eq_T, eq_F, ndec, odec, adec, sdec, fillA, over, chop, List.replicate, leavesOk, leafOk, cellsEq, cellEq, E_byref, en51, c1, ik32, ik19_e, ik31, ik52, List.append_nil, List.length_nil, List.length_cons]; (try simp only [List.append_assoc, List.cons_append, List.nil_append])
    exact ⟨_, rfl⟩
  · rw [if_neg c1]
    by_cases c2 : (b.toNat : Int) = 24
    · rw [if_pos (.inl c2)]
      rw [callT_eq Tryd.func51 rfl fok51 (by simp [Tryd.ntmps51])]; simp (disch := first | omega | (simp only [List.length_append, List.length_map, List.length_set, List.length_cons, List.length_nil, List.length_take, List.length_drop]; omega)) only [va0, va1, va2, va3, va4, va5, va6, va7, va8, va9, va10, va11, va12, va13, va14, va15, vb0, vb1, vb2, vb3, w_i8, w_u8, w_i16, w_u16, w_i32, w_u32, w_i64, w_u64, lt_T, lt_F, le_T, le_F, nlt_T, nlt_F, nle_T, nle_F, List.take_of_length_le, gB, gcW, gcR, posIn, renA, renL, Chunk.ren, Chunk.refs, evOpD, touchD, stepC, isFresh, nFresh, freshOf, mkR, hole, evL, evH, opd, get, putD, ofVal, cellOf, loadE, behind, lenE, idxAddrE, idxE, addPtr, intE, strE, unE, convE, AV.int, AV.bool, AV.str, ivs, take, frameOf, firstRegion, refsA, refsL, one, cellsA, floatOk, apartT, List.map, if_true, if_false, E_P, E_glob0, reduceCtorEq, beq_self_eq_true, decide_true, decide_false, ↓reduceIte, Nat.reduceEqDiff, cond_true, cond_false, or_true, true_or, or_false, false_or, and_true, true_and, and_self, false_and, and_false, not_true, not_false_iff, Nat.reduceAdd, Nat.reduceSub, Nat.reduceMul, Nat.reduceLT, Nat.reduceLeDiff, Int.reduceToNat, Int.reduceLT, Int.reduceLE, Option.getD, Int.reduceMul, Int.reduceAdd, List.drop, List.take, Nat.reduceBEq, List.isEmpty, Int.reduceEq, Int.reduceNe, Int.reduceNeg, Int.reduceGT, Int.reduceGE, beq_true, beq_false, UInt8.reduceToNat, eqE, eq_self, foldE, maxE, minE, eq_T, eq_F, ndec, odec, adec, sdec, fillA, over, chop, List.replicate, leavesOk, leafOk, cellsEq, cellEq, E_byref, en51, c2, ik32, ik19_e, ik31, ik52, List.append_nil, List.length_nil, List.length_cons]; (try simp only [List.append_assoc, List.cons_append, List.nil_append])
      exact ⟨_, rfl⟩
    · by_cases c3 : (b.toNat : Int) = 26
      · rw [if_pos (.inr c3)]
        rw [callT_eq Tryd.func51 rfl fok51 (by simp [Tryd.ntmps51])]; simp (disch := first | omega | (simp only [List.length_append, List.length_map, List.length_set, List.length_cons, List.length_nil, List.length_take, List.length_drop]; omega)) only [va0, va1, va2, va3, va4, va5, va6, va7, va8, va9, va10, va11, va12, va13, va14, va15, vb0, vb1, vb2, vb3, w_i8, w_u8, w_i16, w_u16, w_i32, w_u32, w_i64, w_u64, lt_T, lt_F, le_T, le_F, nlt_T, nlt_F, nle_T, nle_F, List.take_of_length_le, gB, gcW, gcR, posIn, renA, renL, Chunk.ren, Chunk.refs, evOpD, touchD, stepC, isFresh, nFresh, freshOf, mkR, hole, evL, evH, opd, get, putD, ofVal, cellOf, loadE, behind, lenE, idxAddrE, idxE, addPtr, intE, strE, unE, convE, AV.int, AV.bool, AV.str, ivs, take, frameOf, firstRegion, refsA, refsL, one, cellsA, floatOk, apartT, List.map, if_true, if_false, E_P, E_glob0, reduceCtorEq, beq_self_eq_true, decide_true, decide_false, ↓reduceIte, Nat.reduceEqDiff, cond_true, cond_false, or_true, true_or, or_false, false_or, and_true, true_and, and_self, false_and, and_false, not_true, not_false_iff, Nat.reduceAdd, Nat.reduceSub, Nat.reduceMul, Nat.reduceLT, Nat.reduceLeDiff, Int.reduceToNat, Int.reduceLT, Int.reduceLE, Option.getD, Int.reduceMul, Int.reduceAdd, List.drop, List.take, Nat.reduceBEq, List.isEmpty, Int.reduceEq, Int.reduceNe, Int.reduceNeg, Int.reduceGT, Int.reduceGE, beq_true, beq_false, UInt8.reduceToNat, eqE, eq_self, foldE, maxE, minE, eq_T, eq_F, ndec, odec, adec, sdec, fillA, over, chop, List.replicate, leavesOk, leafOk, cellsEq, cellEq, E_byref, en51, c3, ik32, ik19_e, ik31, ik52, List.append_nil, List.length_nil, List.length_cons]; (try simp only [List.append_assoc, List.cons_append, List.nil_append])
        exact ⟨_, rfl⟩
      · rw [if_neg (by omega)]
        by_cases c4 : (b.toNat : Int) < 32
        · rw [if_pos c4]
          rw [callT_eq Tryd.func51 rfl fok51 (by simp [Tryd.ntmps51])]; simp (disch := first | omega | (simp only [List.length_append, List.length_map, List.length_set, List.length_cons, List.length_nil, List.length_take, List.length_drop]; omega)) only [va0, va1, va2, va3, va4, va5, va6, va7, va8, va9, va10, va11, va12, va13, va14, va15, vb0, vb1, vb2, vb3, w_i8, w_u8, w_i16, w_u16, w_i32, w_u32, w_i64, w_u64, lt_T, lt_F, le_T, le_F, nlt_T, nlt_F, nle_T, nle_F, List.take_of_length_le, gB, gcW, gcR, posIn, renA, renL, Chunk.ren, Chunk.refs, evOpD, touchD, stepC, isFresh, nFresh, freshOf, mkR, hole, evL, evH, opd, get, putD, ofVal, cellOf, loadE, behind, lenE, idxAddrE, idxE, addPtr, intE, strE, unE, convE, AV.int, AV.bool, AV.str, ivs, take, frameOf, firstRegion, refsA, refsL, one, cellsA, floatOk, apartT, List.map, if_true, if_false, E_P, E_glob0, reduceCtorEq, beq_self_eq_true, decide_true, decide_false, ↓reduceIte, Nat.reduceEqDiff, cond_true, cond_false, or_true, true_or, or_false, false_or, and_true, true_and, and_self, false_and, and_false, not_true, not_false_iff, Nat.reduceAdd, Nat.reduceSub, Nat.reduceMul, Nat.reduceLT, Nat.reduceLeDiff, Int.reduceToNat, Int.reduceLT, Int.reduceLE, Option.getD, Int.reduceMul, Int.reduceAdd, List.drop, List.take, Nat.reduceBEq, List.isEmpty, Int.reduceEq, Int.reduceNe, Int.reduceNeg, Int.reduceGT, Int.reduceGE, beq_true, beq_false, UInt8.reduceToNat, eqE, eq_self, foldE, maxE, minE, eq_T, eq_F, ndec, odec, adec, sdec, fillA, over, chop, List.replicate, leavesOk, leafOk, cellsEq, cellEq, E_byref, en51, c1, c2, c3, c4, ik32, ik19_e, ik31, ik52, List.append_nil, List.length_nil, List.length_cons]; (try simp only [List.append_assoc, List.cons_append, List.nil_append])
          exact ⟨_, rfl⟩
        · rw [if_neg c4]
          by_cases c5 : (b.toNat : Int) = 127
          · rw [if_pos c5]
            rw [callT_eq Tryd.func51 rfl fok51 (by simp [Tryd.ntmps51])]; simp (disch := first | omega | (simp only [List.length_append, List.length_map, List.length_set, List.length_cons, List.length_nil, List.length_take, List.length_drop]; omega)) only [va0, va1, va2, va3, va4, va5, va6, va7, va8, va9, va10, va11, va12, va13, va14, va15, vb0, vb1, vb2, vb3, w_i8, w_u8, w_i16, w_u16, w_i32, w_u32, w_i64, w_u64, lt_T, lt_F, le_T, le_F, nlt_T, nlt_F, nle_T, nle_F, List.take_of_length_le, gB, gcW, gcR, posIn, renA, renL, Chunk.ren, Chunk.refs, evOpD, touchD, stepC, isFresh, nFresh, freshOf, mkR, hole, evL, evH, opd, get, putD, ofVal, cellOf, loadE, behind, lenE, idxAddrE, idxE, addPtr, intE, strE, unE, convE, AV.int, AV.bool, AV.str, ivs, take, frameOf, firstRegion, refsA, refsL, one, cellsA, floatOk, apartT, List.map, if_true, if_false, E_P, E_glob0, reduceCtorEq, beq_self_eq_true, decide_true, decide_false, ↓reduceIte, Nat.reduceEqDiff, cond_true, cond_false, or_true, true_or, or_false, false_or, and_true, true_and, and_self, false_and, and_false, not_true, not_false_iff, Nat.reduceAdd, Nat.reduceSub, Nat.reduceMul, Nat.reduceLT, Nat.reduceLeDiff, Int.reduceToNat, Int.reduceLT, Int.reduceLE, Option.getD, Int.reduceMul, Int.reduceAdd, List.drop, List.take, Nat.reduceBEq, List.isEmpty, Int.reduceEq, Int.reduceNe, Int.reduceNeg, Int.reduceGT, Int.reduceGE, beq_true, beq_false, UInt8.reduceToNat, eqE, eq_self, foldE, maxE, minE, eq_T, eq_F, ndec, odec, adec, sdec, fillA, over, chop, List.replicate, leavesOk, leafOk, cellsEq, cellEq, E_byref, en51, c5, ik32, ik19_e, ik31, ik52, List.append_nil, List.length_nil, List.length_cons]; (try simp only [List.append_assoc, List.cons_append, List.nil_append])
            exact ⟨_, rfl⟩
          · rw [if_neg c5]
            by_cases c6 : 128 ≤ (b.toNat : Int)
            · rw [if_pos c6]
              rw [callT_eq Tryd.func51 rfl fok51 (by simp [Tryd.ntmps51])]; simp (disch := first | omega | (simp only [List.length_append, List.length_map, List.length_set, List.length_cons, List.length_nil, List.length_take, List.length_drop]; omega)) only [va0, va1, va2, va3, va4, va5, va6, va7, va8, va9, va10, va11, va12, va13, va14, va15, vb0, vb1, vb2, vb3, w_i8, w_u8, w_i16, w_u16, w_i32, w_u32, w_i64, w_u64, lt_T, lt_F, le_T, le_F, nlt_T, nlt_F, nle_T, nle_F, List.take_of_length_le, gB, gcW, gcR, posIn, renA, renL, Chunk.ren, Chunk.refs, evOpD, touchD, stepC, isFresh, nFresh, freshOf, mkR, hole, evL, evH, opd, get, putD, ofVal, cellOf, loadE, behind, lenE, idxAddrE, idxE, addPtr, intE, strE, unE, convE, AV.int, AV.bool, AV.str, ivs, take, frameOf, firstRegion, refsA, refsL, one, cellsA, floatOk, apartT, List.map, if_true, if_false, E_P, E_glob0, reduceCtorEq, beq_self_eq_true, decide_true, decide_false, ↓reduceIte, Nat.reduceEqDiff, cond_true, cond_false, or_true, true_or, or_false, false_or, and_true, true_and, and_self, false_and, and_false, not_true, not_false_iff, Nat.reduceAdd, Nat.reduceSub, Nat.reduceMul, Nat.reduceLT, Nat.reduceLeDiff, Int.reduceToNat, Int.reduceLT, Int.reduceLE, Option.getD, Int.reduceMul, Int.reduceAdd, List.drop, List.take, Nat.reduceBEq, List.isEmpty, Int.reduceEq, Int.reduceNe, Int.reduceNeg, Int.reduceGT, Int.reduceGE, beq_true, beq_false, UInt8.reduceToNat, eqE, eq_self, foldE, maxE, minE, eq_T, eq_F, ndec, odec, adec, sdec, fillA, over, chop, List.replicate, leavesOk, leafOk, cellsEq, cellEq, E_byref, en51, c1, c2, c3, c4, c5, c6, hik, ik32, ik19_e, ik31, ik52, List.append_nil, List.length_nil, List.length_cons]; (try simp only [List.append_assoc, List.cons_append, List.nil_append])
              exact ⟨_, rfl⟩
            · rw [if_neg c6]
              rw [callT_eq Tryd.func51 rfl fok51 (by simp [Tryd.ntmps51])]; simp (disch := first | omega | (simp only [List.length_append, List.length_map, List.length_set, List.length_cons, List.length_nil, List.length_take, List.length_drop]; omega)) only [va0, va1, va2, va3, va4, va5, va6, va7, va8, va9, va10, va11, va12, va13, va14, va15, vb0, vb1, vb2, vb3, w_i8, w_u8, w_i16, w_u16, w_i32, w_u32, w_i64, w_u64, lt_T, lt_F, le_T, le_F, nlt_T, nlt_F, nle_T, nle_F, List.take_of_length_le, gB, gcW, gcR, posIn, renA, renL, Chunk.ren, Chunk.refs, evOpD, touchD, stepC, isFresh, nFresh, freshOf, mkR, hole, evL, evH, opd, get, putD, ofVal, cellOf, loadE, behind, lenE, idxAddrE, idxE, addPtr, intE, strE, unE, convE, AV.int, AV.bool, AV.str, ivs, take, frameOf, firstRegion, refsA, refsL, one, cellsA, floatOk, apartT, List.map, if_true, if_false, E_P, E_glob0, reduceCtorEq, beq_self_eq_true, decide_true, decide_false, ↓reduceIte, Nat.reduceEqDiff, cond_true, cond_false, or_true, true_or, or_false, false_or, and_true, true_and, and_self, false_and, and_false, not_true, not_false_iff, Nat.reduceAdd, Nat.reduceSub, Nat.reduceMul, Nat.reduceLT, Nat.reduceLeDiff, Int.reduceToNat, Int.reduceLT, Int.reduceLE, Option.getD, Int.reduceMul, Int.reduceAdd, List.drop, List.take, Nat.reduceBEq, List.isEmpty, Int.reduceEq, Int.reduceNe, Int.reduceNeg, Int.reduceGT, Int.reduceGE, beq_true, beq_false, UInt8.reduceToNat, eqE, eq_self, foldE, maxE, minE, eq_T, eq_F, ndec, odec, adec, sdec, fillA, over, chop, List.replicate, leavesOk, leafOk, cellsEq, cellEq, E_byref, en51, c1, c2, c3, c4, c5, c6, ik32, ik19_e, ik31, ik52, List.append_nil, List.length_nil, List.length_cons]; (try simp only [List.append_assoc, List.cons_append, List.nil_append])
              exact ⟨_, rfl⟩
theorem ik51_t (p : Ps) (b : UInt8) (q : Ps × List Ev) (hq : commonS p b = some q) (g n : Nat) (l : List Ev) (hn : n = l.length) (hl : n < 700000) (T : Hp) :
    isoK E (callT E) 51 [.ptr 0 0 0 0, .i (.v (.int .u8 b.toNat))] (.box [.i (.v (.int .i64 (p.st))), .i (.str (p.pe)), .i (.str (p.bu)), .ref 1 (g) 0 (n)] :: .sl 7 (g) (rowsEv l) false :: T) = some (.i (.v (.bool true)), .box [.i (.v (.int .i64 ((q).1.st))), .i (.str ((q).1.pe)), .i (.str ((q).1.bu)), .ref 1 (g + (q).2.length) 0 (n + (q).2.length)] :: .sl 7 (g + (q).2.length) (rowsEv (l ++ (q).2)) false :: T) :=
  isoK_rd rfl rfl rfl (by have := c51 p b g n l hn hl; rw [hq] at this; exact this) T
theorem ik51_f (p : Ps) (b : UInt8) (hq : commonS p b = none) (g n : Nat) (l : List Ev) (hn : n = l.length) (hl : n < 700000) (T : Hp) :
    isoK E (callT E) 51 [.ptr 0 0 0 0, .i (.v (.int .u8 b.toNat))] (.box [.i (.v (.int .i64 (p.st))), .i (.str (p.pe)), .i (.str (p.bu)), .ref 1 (g) 0 (n)] :: .sl 7 (g) (rowsEv l) false :: T) = some (.i (.v (.bool false)), .box [.i (.v (.int .i64 (p.st))), .i (.str (p.pe)), .i (.str (p.bu)), .ref 1 (g) 0 (n)] :: .sl 7 (g) (rowsEv l) false :: T) :=
  isoK_rd rfl rfl rfl (by have := c51 p b g n l hn hl; rw [hq] at this; exact this) T
end Go.VI

namespace Go.VI
open Go.Proofs
set_option maxRecDepth 100000
set_option linter.unusedSimpArgs false
set_option linter.unusedVariables false
set_option maxHeartbeats 4000000
def appS (p : Ps) (b : UInt8) (m : Int) : Ps := ⟨p.st, p.pe, if (p.bu.length : Int) < m then p.bu ++ [b] else p.bu⟩
def escEv (i : List UInt8) (b : UInt8) : Ev := ⟨3, 0, b.toNat, 0, i, [], []⟩
def cmdEv (t : List UInt8) : Ev := ⟨5, 0, 0, 0, [], [], t⟩
def seqEv (r : Int × List Int × List UInt8 × Int) (b : UInt8) : Ev := ⟨4, 0, b.toNat, r.1, r.2.2.1, r.2.1, []⟩
def escapedS (p : Ps) (b : UInt8) : Ps × List Ev :=
  match commonS p b with
  | some q => q
  | none => if (b.toNat : Int) ≤ 47 then (appS p b 3, [])
    else if p.bu = [] ∧ (b.toNat : Int) = 91 then (⟨2, [], []⟩, [])
    else if p.bu = [] ∧ (b.toNat : Int) = 93 then (⟨3, [], []⟩, [])
    else (⟨0, [], []⟩, if (p.bu.length : Int) < 3 then [escEv p.bu b] else [])
def sequencedS (p : Ps) (b : UInt8) : Ps × List Ev :=
  match commonS p b with
  | some q => q
  | none => if (b.toNat : Int) ≤ 63 then (appS p b 257, [])
    else (⟨0, [], []⟩, if (p.bu.length : Int) = 257 then [] else if (parseS p.bu).2.2.2 = 0 then [seqEv (parseS p.bu) b] else [])
def commandedS (p : Ps) (b : UInt8) : Ps × List Ev :=
  if (b.toNat : Int) = 7 then (⟨0, [], []⟩, [cmdEv p.bu])
  else if (b.toNat : Int) = 27 then (⟨4, p.pe, p.bu⟩, [])
  else if (b.toNat : Int) = 24 ∨ (b.toNat : Int) = 26 then (⟨0, [], []⟩, [])
  else if 32 ≤ (b.toNat : Int) then (appS p b 256, []) else (p, [])
theorem c33 (p : Ps) (b : UInt8) (g n : Nat) (l : List Ev) (hp : p.bu.length < 10000) (hn : n = l.length) (hl : n < 700000) :
    ∃ L, callT E 33 [.ptr 0 0 0 0, .i (.v (.int .u8 b.toNat))] (.box [.i (.v (.int .i64 (p.st))), .i (.str (p.pe)), .i (.str (p.bu)), .ref 1 (g) 0 (n)] :: .sl 7 (g) (rowsEv l) false :: []) = some (.tup [], .box [.i (.v (.int .i64 ((escapedS p b).1.st))), .i (.str ((escapedS p b).1.pe)), .i (.str ((escapedS p b).1.bu)), .ref 1 (g + (escapedS p b).2.length) 0 (n + (escapedS p b).2.length)] :: .sl 7 (g + (escapedS p b).2.length) (rowsEv (l ++ (escapedS p b).2)) false :: L) := by
  obtain ⟨st, pe, bu⟩ := p
  simp only at hp
  unfold escapedS
  have hc := fun q hq T => ik51_t ⟨st, pe, bu⟩ b q hq g n l hn hl T 
  have hc0 := fun hq T => ik51_f ⟨st, pe, bu⟩ b hq g n l hn hl T 
  simp only at hc hc0 
  cases hq : commonS ⟨st, pe, bu⟩ b with 
  | some q => 
    clear hc0 
    have hc := hc q hq 
    rw [callT_eq Tryd.func33 rfl fok33 (by simp [Tryd.ntmps33])]; simp (disch := first | omega | (simp only [List.length_append, List.length_map, List.length_set, List.length_cons, List.length_nil, List.length_take, List.length_drop]; omega)) only [va0, va1, va2, va3, va4, va5, va6, va7, va8, va9, va10, va11, va12, va13, va14, va15, vb0, vb1, vb2, vb3, w_i8, w_u8, w_i16, w_u16, w_i32, w_u32, w_i64, w_u64, lt_T, lt_F, le_T, le_F, nlt_T, nlt_F, nle_T, nle_F, List.take_of_length_le, gB, gcW, gcR, posIn, renA, renL, Chunk.ren, Chunk.refs, evOpD, touchD, stepC, isFresh, nFresh, freshOf, mkR, hole, evL, evH, opd, get, putD, ofVal, cellOf, loadE, behind, lenE, idxAddrE, idxE, addPtr, intE, strE, unE, convE, AV.int, AV.bool, AV.str, ivs, take, frameOf, firstRegion, refsA, refsL, one, cellsA, floatOk, apartT, List.map, if_true, if_false, E_P, E_glob0, reduceCtorEq, beq_self_eq_true, decide_true, decide_false, ↓reduceIte, Nat.reduceEqDiff, cond_true, cond_false, or_true, true_or, or_false, false_or, and_true, true_and, and_self, false_and, and_false, not_true, not_false_iff, Nat.reduceAdd, Nat.reduceSub, Nat.reduceMul, Nat.reduceLT, Nat.reduceLeDiff, Int.reduceToNat, Int.reduceLT, Int.reduceLE, Option.getD, Int.reduceMul, Int.reduceAdd, List.drop, List.take, Nat.reduceBEq, List.isEmpty, Int.reduceEq, Int.reduceNe, Int.reduceNeg, Int.reduceGT, Int.reduceGE, beq_true, beq_false, UInt8.reduceToNat, eqE, eq_self, foldE, maxE, minE, eq_T, eq_F, ndec, odec, adec, sdec, fillA, over, chop, List.replicate, leavesOk, leafOk, cellsEq, cellEq, E_byref, en33, hc, ik32, ik19, ik19_e, ik31, ik52, ik53, parseA, List.append_nil, List.length_nil, List.length_cons]; (try simp only [List.append_assoc, List.cons_append, List.nil_append, Nat.add_zero]) 
    exact ⟨_, rfl⟩ 
  | none => 
    clear hc 
    have hc := hc0 hq 
    clear hc0
    by_cases c1 : (b.toNat : Int) ≤ 47
    · simp only [if_pos c1, appS]
      rw [callT_eq Tryd.func33 rfl fok33 (by simp [Tryd.ntmps33])]; simp (disch := first | omega | (simp only [List.length_append, List.length_map, List.length_set, List.length_cons, List.length_nil, List.length_take, List.length_drop]; omega)) only [va0, va1, va2, va3, va4, va5, va6, va7, va8, va9, va10, va11, va12, va13, va14, va15, vb0, vb1, vb2, vb3, w_i8, w_u8, w_i16, w_u16, w_i32, w_u32, w_i64, w_u64, lt_T, lt_F, le_T, le_F, nlt_T, nlt_F, nle_T, nle_F, List.take_of_length_le, gB, gcW, gcR, posIn, renA, renL, Chunk.ren, Chunk.refs, evOpD, touchD, stepC, isFresh, nFresh, freshOf, mkR, hole, evL, evH, opd, get, putD, ofVal, cellOf, loadE, behind, lenE, idxAddrE, idxE, addPtr, intE, strE, unE, convE, AV.int, AV.bool, AV.str, ivs, take, frameOf, firstRegion, refsA, refsL, one, cellsA, floatOk, apartT, List.map, if_true, if_false, E_P, E_glob0, reduceCtorEq, beq_self_eq_true, decide_true, decide_false, ↓reduceIte, Nat.reduceEqDiff, cond_true, cond_false, or_true, true_or, or_false, false_or, and_true, true_and, and_self, false_and, and_false, not_true, not_false_iff, Nat.reduceAdd, Nat.reduceSub, Nat.reduceMul, Nat.reduceLT, Nat.reduceLeDiff, Int.reduceToNat, Int.reduceLT, Int.reduceLE, Option.getD, Int.reduceMul, Int.reduceAdd, List.drop, List.take, Nat.reduceBEq, List.isEmpty, Int.reduceEq, Int.reduceNe, Int.reduceNeg, Int.reduceGT, Int.reduceGE, beq_true, beq_false, UInt8.reduceToNat, eqE, eq_self, foldE, maxE, minE, eq_T, eq_F, ndec, odec, adec, sdec, fillA, over, chop, List.replicate, leavesOk, leafOk, cellsEq, cellEq, E_byref, en33, hc, c1, ik32, ik19, ik19_e, ik31, ik52, ik53, parseA, List.append_nil, List.length_nil, List.length_cons]; (try simp only [List.append_assoc, List.cons_append, List.nil_append, Nat.add_zero])
      exact ⟨_, rfl⟩
    · simp only [if_neg c1]
      cases bu with
      | nil =>
        by_cases c2 : (b.toNat : Int) = 91
        · rw [if_pos ⟨rfl, c2⟩]
          simp only [c2] at hc
          rw [callT_eq Tryd.func33 rfl fok33 (by simp [Tryd.ntmps33])]; simp (disch := first | omega | (simp only [List.length_append, List.length_map, List.length_set, List.length_cons, List.length_nil, List.length_take, List.length_drop]; omega)) only [va0, va1, va2, va3, va4, va5, va6, va7, va8, va9, va10, va11, va12, va13, va14, va15, vb0, vb1, vb2, vb3, w_i8, w_u8, w_i16, w_u16, w_i32, w_u32, w_i64, w_u64, lt_T, lt_F, le_T, le_F, nlt_T, nlt_F, nle_T, nle_F, List.take_of_length_le, gB, gcW, gcR, posIn, renA, renL, Chunk.ren, Chunk.refs, evOpD, touchD, stepC, isFresh, nFresh, freshOf, mkR, hole, evL, evH, opd, get, putD, ofVal, cellOf, loadE, behind, lenE, idxAddrE, idxE, addPtr, intE, strE, unE, convE, AV.int, AV.bool, AV.str, ivs, take, frameOf, firstRegion, refsA, refsL, one, cellsA, floatOk, apartT, List.map, if_true, if_false, E_P, E_glob0, reduceCtorEq, beq_self_eq_true, decide_true, decide_false, ↓reduceIte, Nat.reduceEqDiff, cond_true, cond_false, or_true, true_or, or_false, false_or, and_true, true_and, and_self, false_and, and_false, not_true, not_false_iff, Nat.reduceAdd, Nat.reduceSub, Nat.reduceMul, Nat.reduceLT, Nat.reduceLeDiff, Int.reduceToNat, Int.reduceLT, Int.reduceLE, Option.getD, Int.reduceMul, Int.reduceAdd, List.drop, List.take, Nat.reduceBEq, List.isEmpty, Int.reduceEq, Int.reduceNe, Int.reduceNeg, Int.reduceGT, Int.reduceGE, beq_true, beq_false, UInt8.reduceToNat, eqE, eq_self, foldE, maxE, minE, eq_T, eq_F, ndec, odec, adec, sdec, fillA, over, chop, List.replicate, leavesOk, leafOk, cellsEq, cellEq, E_byref, en33, hc, c1, c2, ik32, ik19, ik19_e, ik31, ik52, ik53, parseA, List.append_nil, List.length_nil, List.length_cons]; (try simp only [List.append_assoc, List.cons_append, List.nil_append, Nat.add_zero])
          exact ⟨_, rfl⟩
        · rw [if_neg (fun h => c2 h.2)]
          by_cases c3 : (b.toNat : Int) = 93
          · rw [if_pos ⟨rfl, c3⟩]
            simp only [c3] at hc
            rw [callT_eq Tryd.func33 rfl fok33 (by simp [Tryd.ntmps33])]; simp (disch := first | omega | (simp only [List.length_append, List.length_map, List.length_set, List.length_cons, List.length_nil, List.length_take, List.length_drop]; omega)) only [va0, va1, va2, va3, va4, va5, va6, va7, va8, va9, va10, va11, va12, va13, va14, va15, vb0, vb1, vb2, vb3, w_i8, w_u8, w_i16, w_u16, w_i32, w_u32, w_i64, w_u64, lt_T, lt_F, le_T, le_F, nlt_T, nlt_F, nle_T, nle_F, List.take_of_length_le, gB, gcW, gcR, posIn, renA, renL, Chunk.ren, Chunk.refs, evOpD, touchD, stepC, isFresh, nFresh, freshOf, mkR, hole, evL, evH, opd, get, putD, ofVal, cellOf, loadE, behind, lenE, idxAddrE, idxE, addPtr, intE, strE, unE, convE, AV.int, AV.bool, AV.str, ivs, take, frameOf, firstRegion, refsA, refsL, one, cellsA, floatOk, apartT, List.map, if_true, if_false, E_P, E_glob0, reduceCtorEq, beq_self_eq_true, decide_true, decide_false, ↓reduceIte, Nat.reduceEqDiff, cond_true, cond_false, or_true, true_or, or_false, false_or, and_true, true_and, and_self, false_and, and_false, not_true, not_false_iff, Nat.reduceAdd, Nat.reduceSub, Nat.reduceMul, Nat.reduceLT, Nat.reduceLeDiff, Int.reduceToNat, Int.reduceLT, Int.reduceLE, Option.getD, Int.reduceMul, Int.reduceAdd, List.drop, List.take, Nat.reduceBEq, List.isEmpty, Int.reduceEq, Int.reduceNe, Int.reduceNeg, Int.reduceGT, Int.reduceGE, beq_true, beq_false, UInt8.reduceToNat, eqE, eq_self, foldE, maxE, minE, eq_T, eq_F, ndec, odec, adec, sdec, fillA, over, chop, List.replicate, leavesOk, leafOk, cellsEq, cellEq, E_byref, en33, hc, c1, c2, c3, ik32, ik19, ik19_e, ik31, ik52, ik53, parseA, List.append_nil, List.length_nil, List.length_cons]; (try simp only [List.append_assoc, List.cons_append, List.nil_append, Nat.add_zero])
            exact ⟨_, rfl⟩
          · rw [if_neg (fun h => c3 h.2)]
            rw [callT_eq Tryd.func33 rfl fok33 (by simp [Tryd.ntmps33])]; simp (disch := first | omega | (simp only [List.length_append, List.length_map, List.length_set, List.length_cons, List.length_nil, List.length_take, List.length_drop]; omega)) only [va0, va1, va2, va3, va4, va5, va6, va7, va8, va9, va10, va11, va12, va13, va14, va15, vb0, vb1, vb2, vb3, w_i8, w_u8, w_i16, w_u16, w_i32, w_u32, w_i64, w_u64, lt_T, lt_F, le_T, le_F, nlt_T, nlt_F, nle_T, nle_F, List.take_of_length_le, gB, gcW, gcR, posIn, renA, renL, Chunk.ren, Chunk.refs, evOpD, touchD, stepC, isFresh, nFresh, freshOf, mkR, hole, evL, evH, opd, get, putD, ofVal, cellOf, loadE, behind, lenE, idxAddrE, idxE, addPtr, intE, strE, unE, convE, AV.int, AV.bool, AV.str, ivs, take, frameOf, firstRegion, refsA, refsL, one, cellsA, floatOk, apartT, List.map, if_true, if_false, E_P, E_glob0, reduceCtorEq, beq_self_eq_true, decide_true, decide_false, ↓reduceIte, Nat.reduceEqDiff, cond_true, cond_false, or_true, true_or, or_false, false_or, and_true, true_and, and_self, false_and, and_false, not_true, not_false_iff, Nat.reduceAdd, Nat.reduceSub, Nat.reduceMul, Nat.reduceLT, Nat.reduceLeDiff, Int.reduceToNat, Int.reduceLT, Int.reduceLE, Option.getD, Int.reduceMul, Int.reduceAdd, List.drop, List.take, Nat.reduceBEq, List.isEmpty, Int.reduceEq, Int.reduceNe, Int.reduceNeg, Int.reduceGT, Int.reduceGE, beq_true, beq_false, UInt8.reduceToNat, eqE, eq_self, foldE, maxE, minE, eq_T, eq_F, ndec, odec, adec, sdec, fillA, over, chop, List.replicate, leavesOk, leafOk, cellsEq, cellEq, E_byref, en33, hc, c1, c2, c3, Int.natCast_zero, ik32, ik19, ik19_e, ik31, ik52, ik53, parseA, List.append_nil, List.length_nil, List.length_cons]; (try simp only [List.append_assoc, List.cons_append, List.nil_append, Nat.add_zero])
            exact ⟨_, rfl⟩
      | cons y bu =>
        rw [if_neg (fun h => by cases h.1), if_neg (fun h => by cases h.1)]
        by_cases c2 : ((y :: bu).length : Int) < 3
        · rw [if_pos c2]
          simp only [List.length_cons] at c2
          rw [callT_eq Tryd.func33 rfl fok33 (by simp [Tryd.ntmps33])]; simp (disch := first | omega | (simp only [List.length_append, List.length_map, List.length_set, List.length_cons, List.length_nil, List.length_take, List.length_drop]; omega)) only [va0, va1, va2, va3, va4, va5, va6, va7, va8, va9, va10, va11, va12, va13, va14, va15, vb0, vb1, vb2, vb3, w_i8, w_u8, w_i16, w_u16, w_i32, w_u32, w_i64, w_u64, lt_T, lt_F, le_T, le_F, nlt_T, nlt_F, nle_T, nle_F, List.take_of_length_le, gB, gcW, gcR, posIn, renA, renL, Chunk.ren, Chunk.refs, evOpD, touchD, stepC, isFresh, nFresh, freshOf, mkR, hole, evL, evH, opd, get, putD, ofVal, cellOf, loadE, behind, lenE, idxAddrE, idxE, addPtr, intE, strE, unE, convE, AV.int, AV.bool, AV.str, ivs, take, frameOf, firstRegion, refsA, refsL, one, cellsA, floatOk, apartT, List.map, if_true, if_false, E_P, E_glob0, reduceCtorEq, beq_self_eq_true, decide_true, decide_false, ↓reduceIte, Nat.reduceEqDiff, cond_true, cond_false, or_true, true_or, or_false, false_or, and_true, true_and, and_self, false_and, and_false, not_true, not_false_iff, Nat.reduceAdd, Nat.reduceSub, Nat.reduceMul, Nat.reduceLT, Nat.reduceLeDiff, Int.reduceToNat, Int.reduceLT, Int.reduceLE, Option.getD, Int.reduceMul, Int.reduceAdd, List.drop, List.take, Nat.reduceBEq, List.isEmpty, Int.reduceEq, Int.reduceNe, Int.reduceNeg, Int.reduceGT, Int.reduceGE, beq_true, beq_false, UInt8.reduceToNat, eqE, eq_self, foldE, maxE, minE, eq_T, eq_F, ndec, odec, adec, sdec, fillA, over, chop, List.replicate, leavesOk, leafOk, cellsEq, cellEq, E_byref, en33, hc, c1, c2, ik32, ik19, ik19_e, ik31, ik52, ik53, parseA, List.append_nil, List.length_nil, List.length_cons]; (try simp only [List.append_assoc, List.cons_append, List.nil_append, Nat.add_zero])
          exact ⟨_, rfl⟩
        · rw [if_neg c2]
          simp only [List.length_cons] at c2
          rw [callT_eq Tryd.func33 rfl fok33 (by simp [Tryd.ntmps33])]; simp (disch := first | omega | (simp only [List.length_append, List.length_map, List.length_set, List.length_cons, List.length_nil, List.length_take, List.length_drop]; omega)) only [va0, va1, va2, va3, va4, va5, va6, va7, va8, va9, va10, va11, va12, va13, va14, va15, vb0, vb1, vb2, vb3, w_i8, w_u8, w_i16, w_u16, w_i32, w_u32, w_i64, w_u64, lt_T, lt_F, le_T, le_F, nlt_T, nlt_F, nle_T, nle_F, List.take_of_length_le, gB, gcW, gcR, posIn, renA, renL, Chunk.ren, Chunk.refs, evOpD, touchD, stepC, isFresh, nFresh, freshOf, mkR, hole, evL, evH, opd, get, putD, ofVal, cellOf, loadE, behind, lenE, idxAddrE, idxE, addPtr, intE, strE, unE, convE, AV.int, AV.bool, AV.str, ivs, take, frameOf, firstRegion, refsA, refsL, one, cellsA, floatOk, apartT, List.map, if_true, if_false, E_P, E_glob0, reduceCtorEq, beq_self_eq_true, decide_true, decide_false, ↓reduceIte, Nat.reduceEqDiff, cond_true, cond_false, or_true, true_or, or_false, false_or, and_true, true_and, and_self, false_and, and_false, not_true, not_false_iff, Nat.reduceAdd, Nat.reduceSub, Nat.reduceMul, Nat.reduceLT, Nat.reduceLeDiff, Int.reduceToNat, Int.reduceLT, Int.reduceLE, Option.getD, Int.reduceMul, Int.reduceAdd, List.drop, List.take, Nat.reduceBEq, List.isEmpty, Int.reduceEq, Int.reduceNe, Int.reduceNeg, Int.reduceGT, Int.reduceGE, beq_true, beq_false, UInt8.reduceToNat, eqE, eq_self, foldE, maxE, minE, eq_T, eq_F, ndec, odec, adec, sdec, fillA, over, chop, List.replicate, leavesOk, leafOk, cellsEq, cellEq, E_byref, en33, hc, c1, c2, ik32, ik19, ik19_e, ik31, ik52, ik53, parseA, List.append_nil, List.length_nil, List.length_cons]; (try simp only [List.append_assoc, List.cons_append, List.nil_append, Nat.add_zero])
          exact ⟨_, rfl⟩
theorem ik33 (p : Ps) (b : UInt8) (g n : Nat) (l : List Ev) (hp : p.bu.length < 10000) (hn : n = l.length) (hl : n < 700000) (T : Hp) :
    isoK E (callT E) 33 [.ptr 0 0 0 0, .i (.v (.int .u8 b.toNat))] (.box [.i (.v (.int .i64 (p.st))), .i (.str (p.pe)), .i (.str (p.bu)), .ref 1 (g) 0 (n)] :: .sl 7 (g) (rowsEv l) false :: T) = some (.tup [], .box [.i (.v (.int .i64 ((escapedS p b).1.st))), .i (.str ((escapedS p b).1.pe)), .i (.str ((escapedS p b).1.bu)), .ref 1 (g + (escapedS p b).2.length) 0 (n + (escapedS p b).2.length)] :: .sl 7 (g + (escapedS p b).2.length) (rowsEv (l ++ (escapedS p b).2)) false :: T) := isoK_rd rfl rfl rfl (c33 p b g n l hp hn hl) T
theorem c34 (p : Ps) (b : UInt8) (g n : Nat) (l : List Ev) (hp : p.bu.length < 10000) (hn : n = l.length) (hl : n < 700000) :
    ∃ L, callT E 34 [.ptr 0 0 0 0, .i (.v (.int .u8 b.toNat))] (.box [.i (.v (.int .i64 (p.st))), .i (.str (p.pe)), .i (.str (p.bu)), .ref 1 (g) 0 (n)] :: .sl 7 (g) (rowsEv l) false :: []) = some (.tup [], .box [.i (.v (.int .i64 ((sequencedS p b).1.st))), .i (.str ((sequencedS p b).1.pe)), .i (.str ((sequencedS p b).1.bu)), .ref 1 (g + (sequencedS p b).2.length) 0 (n + (sequencedS p b).2.length)] :: .sl 7 (g + (sequencedS p b).2.length) (rowsEv (l ++ (sequencedS p b).2)) false :: L) := by
  obtain ⟨st, pe, bu⟩ := p
  simp only at hp
  unfold sequencedS
  have hc := fun q hq T => ik51_t ⟨st, pe, bu⟩ b q hq g n l hn hl T 
  have hc0 := fun hq T => ik51_f ⟨st, pe, bu⟩ b hq g n l hn hl T 
  simp only at hc hc0 
  cases hq : commonS ⟨st, pe, bu⟩ b with 
  | some q => 
    clear hc0 
    have hc := hc q hq 
    rw [callT_eq Tryd.func34 rfl fok34 (by simp [Tryd.ntmps34])]; simp (disch := first | omega | (simp only [List.length_append, List.length_map, List.length_set, List.length_cons, List.length_nil, List.length_take, List.length_drop]; omega)) only [va0, va1, va2, va3, va4, va5, va6, va7, va8, va9, va10, va11, va12, va13, va14, va15, vb0, vb1, vb2, vb3, w_i8, w_u8, w_i16, w_u16, w_i32, w_u32, w_i64, w_u64, lt_T, lt_F, le_T, le_F, nlt_T, nlt_F, nle_T, nle_F, List.take_of_length_le, gB, gcW, gcR, posIn, renA, renL, Chunk.ren, Chunk.refs, evOpD, touchD, stepC, isFresh, nFresh, freshOf, mkR, hole, evL, evH, opd, get, putD, ofVal, cellOf, loadE, behind, lenE, idxAddrE, idxE, addPtr, intE, strE, unE, convE, AV.int, AV.bool, AV.str, ivs, take, frameOf, firstRegion, refsA, refsL, one, cellsA, floatOk, apartT, List.map, if_true, if_false, E_P, E_glob0, reduceCtorEq, beq_self_eq_true, decide_true, decide_false, ↓reduceIte, Nat.reduceEqDiff, cond_true, cond_false, or_true, true_or, or_false, false_or, and_true, true_and, and_self, false_and, and_false, not_true, not_false_iff, Nat.reduceAdd, Nat.reduceSub, Nat.reduceMul, Nat.reduceLT, Nat.reduceLeDiff, Int.reduceToNat, Int.reduceLT, Int.reduceLE, Option.getD, Int.reduceMul, Int.reduceAdd, List.drop, List.take, Nat.reduceBEq, List.isEmpty, Int.reduceEq, Int.reduceNe, Int.reduceNeg, Int.reduceGT, Int.reduceGE, beq_true, beq_false, UInt8.reduceToNat, eqE, eq_self, foldE, maxE, minE, eq_T, eq_F, ndec, odec, adec, sdec, fillA, over, chop, List.replicate, leavesOk, leafOk, cellsEq, cellEq, E_byref, en34, hc, ik32, ik19, ik19_e, ik31, ik52, ik53, parseA, List.append_nil, List.length_nil, List.length_cons]; (try simp only [List.append_assoc, List.cons_append, List.nil_append, Nat.add_zero]) 
    exact ⟨_, rfl⟩ 
  | none => 
    clear hc 
    have hc := hc0 hq 
    clear hc0
    by_cases c1 : (b.toNat : Int) ≤ 63
    · simp only [if_pos c1, appS]
      rw [callT_eq Tryd.func34 rfl fok34 (by simp [Tryd.ntmps34])]; simp (disch := first | omega | (simp only [List.length_append, List.length_map, List.length_set, List.length_cons, List.length_nil, List.length_take, List.length_drop]; omega)) only [va0, va1, va2, va3, va4, va5, va6, va7, va8, va9, va10, va11, va12, va13, va14, va15, vb0, vb1, vb2, vb3, w_i8, w_u8, w_i16, w_u16, w_i32, w_u32, w_i64, w_u64, lt_T, lt_F, le_T, le_F, nlt_T, nlt_F, nle_T, nle_F, List.take_of_length_le, gB, gcW, gcR, posIn, renA, renL, Chunk.ren, Chunk.refs, evOpD, touchD, stepC, isFresh, nFresh, freshOf, mkR, hole, evL, evH, opd, get, putD, ofVal, cellOf, loadE, behind, lenE, idxAddrE, idxE, addPtr, intE, strE, unE, convE, AV.int, AV.bool, AV.str, ivs, take, frameOf, firstRegion, refsA, refsL, one, cellsA, floatOk, apartT, List.map, if_true, if_false, E_P, E_glob0, reduceCtorEq, beq_self_eq_true, decide_true, decide_false, ↓reduceIte, Nat.reduceEqDiff, cond_true, cond_false, or_true, true_or, or_false, false_or, and_true, true_and, and_self, false_and, and_false, not_true, not_false_iff, Nat.reduceAdd, Nat.reduceSub, Nat.reduceMul, Nat.reduceLT, Nat.reduceLeDiff, Int.reduceToNat, Int.reduceLT, Int.reduceLE, Option.getD, Int.reduceMul, Int.reduceAdd, List.drop, List.take, Nat.reduceBEq, List.isEmpty, Int.reduceEq, Int.reduceNe, Int.reduceNeg, Int.reduceGT, Int.reduceGE, beq_true, beq_false, UInt8.reduceToNat, eqE, eq_self, foldE, maxE, minE, eq_T, eq_F, ndec, odec, adec, sdec, fillA, over, chop, List.replicate, leavesOk, leafOk, cellsEq, cellEq, E_byref, en34, hc, c1, ik32, ik19, ik19_e, ik31, ik52, ik53, parseA, List.append_nil, List.length_nil, List.length_cons]; (try simp only [List.append_assoc, List.cons_append, List.nil_append, Nat.add_zero])
      exact ⟨_, rfl⟩
    · simp only [if_neg c1]
      by_cases c2 : (bu.length : Int) = 257
      · rw [if_pos c2]
        rw [callT_eq Tryd.func34 rfl fok34 (by simp [Tryd.ntmps34])]; simp (disch := first | omega | (simp only [List.length_append, List.length_map, List.length_set, List.length_cons, List.length_nil, List.length_take, List.length_drop]; omega)) only [va0, va1, va2, va3, va4, va5, va6, va7, va8, va9, va10, va11, va12, va13, va14, va15, vb0, vb1, vb2, vb3, w_i8, w_u8, w_i16, w_u16, w_i32, w_u32, w_i64, w_u64, lt_T, lt_F, le_T, le_F, nlt_T, nlt_F, nle_T, nle_F, List.take_of_length_le, gB, gcW, gcR, posIn, renA, renL, Chunk.ren, Chunk.refs, evOpD, touchD, stepC, isFresh, nFresh, freshOf, mkR, hole, evL, evH, opd, get, putD, ofVal, cellOf, loadE, behind, lenE, idxAddrE, idxE, addPtr, intE, strE, unE, convE, AV.int, AV.bool, AV.str, ivs, take, frameOf, firstRegion, refsA, refsL, one, cellsA, floatOk, apartT, List.map, if_true, if_false, E_P, E_glob0, reduceCtorEq, beq_self_eq_true, decide_true, decide_false, ↓reduceIte, Nat.reduceEqDiff, cond_true, cond_false, or_true, true_or, or_false, false_or, and_true, true_and, and_self, false_and, and_false, not_true, not_false_iff, Nat.reduceAdd, Nat.reduceSub, Nat.reduceMul, Nat.reduceLT, Nat.reduceLeDiff, Int.reduceToNat, Int.reduceLT, Int.reduceLE, Option.getD, Int.reduceMul, Int.reduceAdd, List.drop, List.take, Nat.reduceBEq, List.isEmpty, Int.reduceEq, Int.reduceNe, Int.reduceNeg, Int.reduceGT, Int.reduceGE, beq_true, beq_false, UInt8.reduceToNat, eqE, eq_self, foldE, maxE, minE, eq_T, eq_F, ndec, odec, adec, sdec, fillA, over, chop, List.replicate, leavesOk, leafOk, cellsEq, cellEq, E_byref, en34, hc, c1, c2, ik32, ik19, ik19_e, ik31, ik52, ik53, parseA, List.append_nil, List.length_nil, List.length_cons]; (try simp only [List.append_assoc, List.cons_append, List.nil_append, Nat.add_zero])
        exact ⟨_, rfl⟩
      · rw [if_neg c2]
        by_cases c3 : (parseS bu).2.2.2 = 0
        · rw [if_pos c3]
          rw [callT_eq Tryd.func34 rfl fok34 (by simp [Tryd.ntmps34])]; simp (disch := first | omega | (simp only [List.length_append, List.length_map, List.length_set, List.length_cons, List.length_nil, List.length_take, List.length_drop]; omega)) only [va0, va1, va2, va3, va4, va5, va6, va7, va8, va9, va10, va11, va12, va13, va14, va15, vb0, vb1, vb2, vb3, w_i8, w_u8, w_i16, w_u16, w_i32, w_u32, w_i64, w_u64, lt_T, lt_F, le_T, le_F, nlt_T, nlt_F, nle_T, nle_F, List.take_of_length_le, gB, gcW, gcR, posIn, renA, renL, Chunk.ren, Chunk.refs, evOpD, touchD, stepC, isFresh, nFresh, freshOf, mkR, hole, evL, evH, opd, get, putD, ofVal, cellOf, loadE, behind, lenE, idxAddrE, idxE, addPtr, intE, strE, unE, convE, AV.int, AV.bool, AV.str, ivs, take, frameOf, firstRegion, refsA, refsL, one, cellsA, floatOk, apartT, List.map, if_true, if_false, E_P, E_glob0, reduceCtorEq, beq_self_eq_true, decide_true, decide_false, ↓reduceIte, Nat.reduceEqDiff, cond_true, cond_false, or_true, true_or, or_false, false_or, and_true, true_and, and_self, false_and, and_false, not_true, not_false_iff, Nat.reduceAdd, Nat.reduceSub, Nat.reduceMul, Nat.reduceLT, Nat.reduceLeDiff, Int.reduceToNat, Int.reduceLT, Int.reduceLE, Option.getD, Int.reduceMul, Int.reduceAdd, List.drop, List.take, Nat.reduceBEq, List.isEmpty, Int.reduceEq, Int.reduceNe, Int.reduceNeg, Int.reduceGT, Int.reduceGE, beq_true, beq_false, UInt8.reduceToNat, eqE, eq_self, foldE, maxE, minE, eq_T, eq_F, ndec, odec, adec, sdec, fillA, over, chop, List.replicate, leavesOk, leafOk, cellsEq, cellEq, E_byref, en34, hc, c1, c2, c3, ik32, ik19, ik19_e, ik31, ik52, ik53, parseA, List.append_nil, List.length_nil, List.length_cons]; (try simp only [List.append_assoc, List.cons_append, List.nil_append, Nat.add_zero])
          exact ⟨_, rfl⟩
        · rw [if_neg c3]
          rw [callT_eq Tryd.func34 rfl fok34 (by simp [Tryd.ntmps34])]; simp (disch := first | omega | (simp only [List.length_append, List.length_map, List.length_set, List.length_cons, List.length_nil, List.length_take, List.length_drop]; omega)) only [va0, va1, va2, va3, va4, va5, va6, va7, va8, va9, va10, va11, va12, va13, va14, va15, vb0, vb1, vb2, vb3, w_i8, w_u8, w_i16, w_u16, w_i32, w_u32, w_i64, w_u64, lt_T, lt_F, le_T, le_F, nlt_T, nlt_F, nle_T, nle_F, List.take_of_length_le, gB, gcW, gcR, posIn, renA, renL, Chunk.ren, Chunk.refs, evOpD, touchD, stepC, isFresh, nFresh, freshOf, mkR, hole, evL, evH, opd, get, putD, ofVal, cellOf, loadE, behind, lenE, idxAddrE, idxE, addPtr, intE, strE, unE, convE, AV.int, AV.bool, AV.str, ivs, take, frameOf, firstRegion, refsA, refsL, one, cellsA, floatOk, apartT, List.map, if_true, if_false, E_P, E_glob0, reduceCtorEq, beq_self_eq_true, decide_true, decide_false, ↓reduceIte, Nat.reduceEqDiff, cond_true, cond_false, or_true, true_or, or_false, false_or, and_true, true_and, and_self, false_and, and_false, not_true, not_false_iff, Nat.reduceAdd, Nat.reduceSub, Nat.reduceMul, Nat.reduceLT, Nat.reduceLeDiff, Int.reduceToNat, Int.reduceLT, Int.reduceLE, Option.getD, Int.reduceMul, Int.reduceAdd, List.drop, List.take, Nat.reduceBEq, List.isEmpty, Int.reduceEq, Int.reduceNe, Int.reduceNeg, Int.reduceGT, Int.reduceGE, beq_true, beq_false, UInt8.reduceToNat, eqE, eq_self, foldE, maxE, minE, eq_T, eq_F, ndec, odec, adec, sdec, fillA, over, chop, List.replicate, leavesOk, leafOk, cellsEq, cellEq, E_byref, en34, hc, c1, c2, c3, ik32, ik19, ik19_e, ik31, ik52, ik53, parseA, List.append_nil, List.length_nil, List.length_cons]; (try simp only [List.append_assoc, List.cons_append, List.nil_append, Nat.add_zero])
          exact ⟨_, rfl⟩
theorem ik34 (p : Ps) (b : UInt8) (g n : Nat) (l : List Ev) (hp : p.bu.length < 10000) (hn : n = l.length) (hl : n < 700000) (T : Hp) :
    isoK E (callT E) 34 [.ptr 0 0 0 0, .i (.v (.int .u8 b.toNat))] (.box [.i (.v (.int .i64 (p.st))), .i (.str (p.pe)), .i (.str (p.bu)), .ref 1 (g) 0 (n)] :: .sl 7 (g) (rowsEv l) false :: T) = some (.tup [], .box [.i (.v (.int .i64 ((sequencedS p b).1.st))), .i (.str ((sequencedS p b).1.pe)), .i (.str ((sequencedS p b).1.bu)), .ref 1 (g + (sequencedS p b).2.length) 0 (n + (sequencedS p b).2.length)] :: .sl 7 (g + (sequencedS p b).2.length) (rowsEv (l ++ (sequencedS p b).2)) false :: T) := isoK_rd rfl rfl rfl (c34 p b g n l hp hn hl) T
theorem c35 (p : Ps) (b : UInt8) (g n : Nat) (l : List Ev) (hp : p.bu.length < 10000) (hn : n = l.length) (hl : n < 700000) :
    ∃ L, callT E 35 [.ptr 0 0 0 0, .i (.v (.int .u8 b.toNat))] (.box [.i (.v (.int .i64 (p.st))), .i (.str (p.pe)), .i (.str (p.bu)), .ref 1 (g) 0 (n)] :: .sl 7 (g) (rowsEv l) false :: []) = some (.tup [], .box [.i (.v (.int .i64 ((commandedS p b).1.st))), .i (.str ((commandedS p b).1.pe)), .i (.str ((commandedS p b).1.bu)), .ref 1 (g + (commandedS p b).2.length) 0 (n + (commandedS p b).2.length)] :: .sl 7 (g + (commandedS p b).2.length) (rowsEv (l ++ (commandedS p b).2)) false :: L) := by
  obtain ⟨st, pe, bu⟩ := p
  simp only at hp
  unfold commandedS
  by_cases c1 : (b.toNat : Int) = 7
  · rw [if_pos c1]
    rw [callT_eq Tryd.func35 rfl fok35 (by simp [Tryd.ntmps35])]; simp (disch := first | omega | (simp only [List.length_append, List.length_map, List.length_set, List.length_cons, List.length_nil, List.length_take, List.length_drop]; omega)) only [va0, va1, va2, va3, va4, va5, va6, va7, va8, va9, va10, va11, va12, va13, va14, va15, vb0, vb1, vb2, vb3, w_i8, w_u8, w_i16, w_u16, w_i32, w_u32, w_i64, w_u64, lt_T, lt_F, le_T, le_F, nlt_T, nlt_F, nle_T, nle_F, List.take_of_length_le, gB, gcW, gcR, posIn, renA, renL, Chunk.ren, Chunk.refs, evOpD, touchD, stepC, isFresh, nFresh, freshOf, mkR, hole, evL, evH, opd, get, putD, ofVal, cellOf, loadE, behind, lenE, idxAddrE, idxE, addPtr, intE, strE, unE, convE, AV.int, AV.bool, AV.str, ivs, take, frameOf, firstRegion, refsA, refsL, one, cellsA, floatOk, apartT, List.map, if_true, if_false, E_P, E_glob0, reduceCtorEq, beq_self_eq_true, decide_true, decide_false, ↓reduceIte, Nat.reduceEqDiff, cond_true, cond_false, or_true, true_or, or_false, false_or, and_true, true_and, and_self, false_and, and_false, not_true, not_false_iff, Nat.reduceAdd, Nat.reduceSub, Nat.reduceMul, Nat.reduceLT, Nat.reduceLeDiff, Int.reduceToNat, Int.reduceLT, Int.reduceLE, Option.getD, Int.reduceMul, Int.reduceAdd, List.drop, List.take, Nat.reduceBEq, List.isEmpty, Int.reduceEq, Int.reduceNe, Int.reduceNeg, Int.reduceGT, Int.reduceGE, beq_true, beq_false, UInt8.reduceToNat, eqE, eq_self, foldE, maxE, minE, eq_T, eq_F, ndec, odec, adec, sdec, fillA, over, chop, List.replicate, leavesOk, leafOk, cellsEq, cellEq, E_byref, en35, c1, ik32, ik19, ik19_e, ik31, ik52, ik53, parseA, List.append_nil, List.length_nil, List.length_cons]; (try simp only [List.append_assoc, List.cons_append, List.nil_append, Nat.add_zero])
    exact ⟨_, rfl⟩
  · rw [if_neg c1]
    by_cases c2 : (b.toNat : Int) = 27
    · rw [if_pos c2]
      rw [callT_eq Tryd.func35 rfl fok35 (by simp [Tryd.ntmps35])]; simp (disch := first | omega | (simp only [List.length_append, List.length_map, List.length_set, List.length_cons, List.length_nil, List.length_take, List.length_drop]; omega)) only [va0, va1, va2, va3, va4, va5, va6, va7, va8, va9, va10, va11, va12, va13, va14, va15, vb0, vb1, vb2, vb3, w_i8, w_u8, w_i16, w_u16, w_i32, w_u32, w_i64, w_u64, lt_T, lt_F, le_T, le_F, nlt_T, nlt_F, nle_T, nle_F, List.take_of_length_le, gB, gcW, gcR, posIn, renA, renL, Chunk.ren, Chunk.refs, evOpD, touchD, stepC, isFresh, nFresh, freshOf, mkR, hole, evL, evH, opd, get, putD, ofVal, cellOf, loadE, behind, lenE, idxAddrE, idxE, addPtr, intE, strE, unE, convE, AV.int, AV.bool, AV.str, ivs, take, frameOf, firstRegion, refsA, refsL, one, cellsA, floatOk, apartT, List.map, if_true, if_false, E_P, E_glob0, reduceCtorEq, beq_self_eq_true, decide_true, decide_false, ↓reduceIte, Nat.reduceEqDiff, cond_true, cond_false, or_true, true_or, or_false, false_or, and_true, true_and, and_self, false_and, and_false, not_true, not_false_iff, Nat.reduceAdd, Nat.reduceSub, Nat.reduceMul, Nat.reduceLT, Nat.reduceLeDiff, Int.reduceToNat, Int.reduceLT, Int.reduceLE, Option.getD, Int.reduceMul, Int.reduceAdd, List.drop, List.take, Nat.reduceBEq, List.isEmpty, Int.reduceEq, Int.reduceNe, Int.reduceNeg, Int.reduceGT, Int.reduceGE, beq_true, beq_false, UInt8.reduceToNat, eqE, eq_self, foldE, maxE, minE, eq_T, eq_F, ndec, odec, adec, sdec, fillA, over, chop, List.replicate, leavesOk, leafOk, cellsEq, cellEq, E_byref, en35, c2, ik32, ik19, ik19_e, ik31, ik52, ik53, parseA, List.append_nil, List.length_nil, List.length_cons]; (try simp only [List.append_assoc, List.cons_append, List.nil_append, Nat.add_zero])
      exact ⟨_, rfl⟩
    · rw [if_neg c2]
      by_cases c3 : (b.toNat : Int) = 24
      · rw [if_pos (.inl c3)]
        rw [callT_eq Tryd.func35 rfl fok35 (by simp [Tryd.ntmps35])]; simp (disch := first | omega | (simp only [List.length_append, List.length_map, List.length_set, List.length_cons, List.length_nil, List.length_take, List.length_drop]; omega)) only [va0, va1, va2, va3, va4, va5, va6, va7, va8, va9, va10, va11, va12, va13, va14, va15, vb0, vb1, vb2, vb3, w_i8, w_u8, w_i16, w_u16, w_i32, w_u32, w_i64, w_u64, lt_T, lt_F, le_T, le_F, nlt_T, nlt_F, nle_T, nle_F, List.take_of_length_le, gB, gcW, gcR, posIn, renA, renL, Chunk.ren, Chunk.refs, evOpD, touchD, stepC, isFresh, nFresh, freshOf, mkR, hole, evL, evH, opd, get, putD, ofVal, cellOf, loadE, behind, lenE, idxAddrE, idxE, addPtr, intE, strE, unE, convE, AV.int, AV.bool, AV.str, ivs, take, frameOf, firstRegion, refsA, refsL, one, cellsA, floatOk, apartT, List.map, if_true, if_false, E_P, E_glob0, reduceCtorEq, beq_self_eq_true, decide_true, decide_false, ↓reduceIte, Nat.reduceEqDiff, cond_true, cond_false, or_true, true_or, or_false, false_or, and_true, true_and, and_self, false_and, and_false, not_true, not_false_iff, Nat.reduceAdd, Nat.reduceSub, Nat.reduceMul, Nat.reduceLT, Nat.reduceLeDiff, Int.reduceToNat, Int.reduceLT, Int.reduceLE, Option.getD, Int.reduceMul, Int.reduceAdd, List.drop, List.take, Nat.reduceBEq, List.isEmpty, Int.reduceEq, Int.reduceNe, Int.reduceNeg, Int.reduceGT, Int.reduceGE, beq_true, beq_false, UInt8.reduceToNat, eqE, eq_self, foldE, maxE, minE, eq_T, eq_F, ndec, odec, adec, sdec, fillA, over, chop, List.replicate, leavesOk, leafOk, cellsEq, cellEq, E_byref, en35, c3, ik32, ik19, ik19_e, ik31, ik52, ik53, parseA, List.append_nil, List.length_nil, List.length_cons]; (try simp only [List.append_assoc, List.cons_append, List.nil_append, Nat.add_zero])
        exact ⟨_, rfl⟩
      · by_cases c4 : (b.toNat : Int) = 26
        · rw [if_pos (.inr c4)]
          rw [callT_eq Tryd.func35 rfl fok35 (by simp [Tryd.ntmps35])]; simp (disch := first | omega | (simp only [List.length_append, List.length_map, List.length_set, List.length_cons, List.length_nil, List.length_take, List.length_drop]; omega)) only [va0, va1, va2, va3, va4, va5, va6, va7, va8, va9, va10, va11, va12, va13, va14, va15, vb0, vb1, vb2, vb3, w_i8, w_u8, w_i16, w_u16, w_i32, w_u32, w_i64, w_u64, lt_T, lt_F, le_T, le_F, nlt_T, nlt_F, nle_T, nle_F, List.take_of_length_le, gB, gcW, gcR, posIn, renA, renL, Chunk.ren, Chunk.refs, evOpD, touchD, stepC, isFresh, nFresh, freshOf, mkR, hole, evL, evH, opd, get, putD, ofVal, cellOf, loadE, behind, lenE, idxAddrE, idxE, addPtr, intE, strE, unE, convE, AV.int, AV.bool, AV.str, ivs, take, frameOf, firstRegion, refsA, refsL, one, cellsA, floatOk, apartT, List.map, if_true, if_false, E_P, E_glob0, reduceCtorEq, beq_self_eq_true, decide_true, decide_false, ↓reduceIte, Nat.reduceEqDiff, cond_true, cond_false, or_true, true_or, or_false, false_or, and_true, true_and, and_self, false_and, and_false, not_true, not_false_iff, Nat.reduceAdd, Nat.reduceSub, Nat.reduceMul, Nat.reduceLT, Nat.reduceLeDiff, Int.reduceToNat, Int.reduceLT, Int.reduceLE, Option.getD, Int.reduceMul, Int.reduceAdd, List.drop, List.take, Nat.reduceBEq, List.isEmpty, Int.reduceEq, Int.reduceNe, Int.reduceNeg, Int.reduceGT, Int.reduceGE, beq_true, beq_false, UInt8.reduceToNat, eqE, eq_self, foldE, maxE, minE, eq_T, eq_F, ndec, odec, adec, sdec, fillA, over, chop, List.replicate, leavesOk, leafOk, cellsEq, cellEq, E_byref, en35, c4, ik32, ik19, ik19_e, ik31, ik52, ik53, parseA, List.append_nil, List.length_nil, List.length_cons]; (try simp only [List.append_assoc, List.cons_append, List.nil_append, Nat.add_zero])
          exact ⟨_, rfl⟩
        · rw [if_neg (by omega)]
          by_cases c5 : 32 ≤ (b.toNat : Int)
          · simp only [if_pos c5, appS]
            rw [callT_eq Tryd.func35 rfl fok35 (by simp [Tryd.ntmps35])]; simp (disch := first | omega | (simp only [List.length_append, List.length_map, List.length_set, List.length_cons, List.length_nil, List.length_take, List.length_drop]; omega)) only [va0, va1, va2, va3, va4, va5, va6, va7, va8, va9, va10, va11, va12, va13, va14, va15, vb0, vb1, vb2, vb3, w_i8, w_u8, w_i16, w_u16, w_i32, w_u32, w_i64, w_u64, lt_T, lt_F, le_T, le_F, nlt_T, nlt_F, nle_T, nle_F, List.take_of_length_le, gB, gcW, gcR, posIn, renA, renL, Chunk.ren, Chunk.refs, evOpD, touchD, stepC, isFresh, nFresh, freshOf, mkR, hole, evL, evH, opd, get, putD, ofVal, cellOf, loadE, behind, lenE, idxAddrE, idxE, addPtr, intE, strE, unE, convE, AV.int, AV.bool, AV.str, ivs, take, frameOf, firstRegion, refsA, refsL, one, cellsA, floatOk, apartT, List.map, if_true, if_false, E_P, E_glob0, reduceCtorEq, beq_self_eq_true, decide_true, decide_false, ↓reduceIte, Nat.reduceEqDiff, cond_true, cond_false, or_true, true_or, or_false, false_or, and_true, true_and, and_self, false_and, and_false, not_true, not_false_iff, Nat.reduceAdd, Nat.reduceSub, Nat.reduceMul, Nat.reduceLT, Nat.reduceLeDiff, Int.reduceToNat, Int.reduceLT, Int.reduceLE, Option.getD, Int.reduceMul, Int.reduceAdd, List.drop, List.take, Nat.reduceBEq, List.isEmpty, Int.reduceEq, Int.reduceNe, Int.reduceNeg, Int.reduceGT, Int.reduceGE, beq_true, beq_false, UInt8.reduceToNat, eqE, eq_self, foldE, maxE, minE, eq_T, eq_F, ndec, odec, adec, sdec, fillA, over, chop, List.replicate, leavesOk, leafOk, cellsEq, cellEq, E_byref, en35, c1, c2, c3, c4, c5, ik32, ik19, ik19_e, ik31, ik52, ik53, parseA, List.append_nil, List.length_nil, List.length_cons]; (try simp only [List.append_assoc, List.cons_append, List.nil_append, Nat.add_zero])
            exact ⟨_, rfl⟩
          · rw [if_neg c5]
            rw [callT_eq Tryd.func35 rfl fok35 (by simp [Tryd.ntmps35])]; simp (disch := first | omega | (simp only [List.length_append, List.length_map, List.length_set, List.length_cons, List.length_nil, List.length_take, List.length_drop]; omega)) only [va0, va1, va2, va3, va4, va5, va6, va7, va8, va9, va10, va11, va12, va13, va14, va15, vb0, vb1, vb2, vb3, w_i8, w_u8, w_i16, w_u16, w_i32, w_u32, w_i64, w_u64, lt_T, lt_F, le_T, le_F, nlt_T, nlt_F, nle_T, nle_F, List.take_of_length_le, gB, gcW, gcR, posIn, renA, renL, Chunk.ren, Chunk.refs, evOpD, touchD, stepC, isFresh, nFresh, freshOf, mkR, hole, evL, evH, opd, get, putD, ofVal, cellOf, loadE, behind, lenE, idxAddrE, idxE, addPtr, intE, strE, unE, convE, AV.int, AV.bool, AV.str, ivs, take, frameOf, firstRegion, refsA, refsL, one, cellsA, floatOk, apartT, List.map, if_true, if_false, E_P, E_glob0, reduceCtorEq, beq_self_eq_true, decide_true, decide_false, ↓reduceIte, Nat.reduceEqDiff, cond_true, cond_false, or_true, true_or, or_false, false_or, and_true, true_and, and_self, false_and, and_false, not_true, not_false_iff, Nat.reduceAdd, Nat.reduceSub, Nat.reduceMul, Nat.reduceLT, Nat.reduceLeDiff, Int.reduceToNat, Int.reduceLT, Int.reduceLE, Option.getD, Int.reduceMul, Int.reduceAdd, List.drop, List.take, Nat.reduceBEq, List.isEmpty, Int.reduceEq, Int.reduceNe, Int.reduceNeg, Int.reduceGT, Int.reduceGE, beq_true, beq_false, UInt8.reduceToNat, eqE, eq_self, foldE, maxE, minE, eq_T, eq_F, ndec, odec, adec, sdec, fillA, over, chop, List.replicate, leavesOk, leafOk, cellsEq, cellEq, E_byref, en35, c1, c2, c3, c4, c5, ik32, ik19, ik19_e, ik31, ik52, ik53, parseA, List.append_nil, List.length_nil, List.length_cons]; (try simp only [List.append_assoc, List.cons_append, List.nil_append, Nat.add_zero])
            exact ⟨_, rfl⟩
theorem ik35 (p : Ps) (b : UInt8) (g n : Nat) (l : List Ev) (hp : p.bu.length < 10000) (hn : n = l.length) (hl : n < 700000) (T : Hp) :
    isoK E (callT E) 35 [.ptr 0 0 0 0, .i (.v (.int .u8 b.toNat))] (.box [.i (.v (.int .i64 (p.st))), .i (.str (p.pe)), .i (.str (p.bu)), .ref 1 (g) 0 (n)] :: .sl 7 (g) (rowsEv l) false :: T) = some (.tup [], .box [.i (.v (.int .i64 ((commandedS p b).1.st))), .i (.str ((commandedS p b).1.pe)), .i (.str ((commandedS p b).1.bu)), .ref 1 (g + (commandedS p b).2.length) 0 (n + (commandedS p b).2.length)] :: .sl 7 (g + (commandedS p b).2.length) (rowsEv (l ++ (commandedS p b).2)) false :: T) := isoK_rd rfl rfl rfl (c35 p b g n l hp hn hl) T
def readS (p : Ps) (b : UInt8) : Ps × List Ev :=
  if p.st = 0 then plainS p b
  else if p.st = 4 then (if (b.toNat : Int) = 92 then (⟨0, [], []⟩, [cmdEv p.bu]) else escapedS ⟨1, [], []⟩ b)
  else if p.st = 1 then escapedS p b
  else if p.st = 2 then sequencedS p b
  else commandedS p b
theorem c20 (p : Ps) (b : UInt8) (g n : Nat) (l : List Ev) (hpe : p.pe.length < 40000) (hp : p.bu.length < 10000) (hn : n = l.length) (hl : n < 700000) :
    ∃ L, callT E 20 [.ptr 0 0 0 0, .i (.v (.int .u8 b.toNat))] (.box [.i (.v (.int .i64 (p.st))), .i (.str (p.pe)), .i (.str (p.bu)), .ref 1 (g) 0 (n)] :: .sl 7 (g) (rowsEv l) false :: []) = some (.tup [], .box [.i (.v (.int .i64 ((readS p b).1.st))), .i (.str ((readS p b).1.pe)), .i (.str ((readS p b).1.bu)), .ref 1 (g + (readS p b).2.length) 0 (n + (readS p b).2.length)] :: .sl 7 (g + (readS p b).2.length) (rowsEv (l ++ (readS p b).2)) false :: L) := by
  have h1 := fun T => ik30 p b g n l hpe hn hl T
  have h2 := fun T => ik33 p b g n l hp hn hl T
  have h3 := fun T => ik33 ⟨1, [], []⟩ b g n l (by simp) hn hl T
  have h4 := fun T => ik34 p b g n l hp hn hl T
  have h5 := fun T => ik35 p b g n l hp hn hl T
  obtain ⟨st, pe, bu⟩ := p
  simp only at hp hpe h1 h2 h3 h4 h5
  simp only [readS]
  by_cases c1 : st = 0
  · rw [if_pos c1]
    subst c1
    rw [callT_eq Tryd.func20 rfl fok20 (by simp [Tryd.ntmps20])]; simp (disch := first | omega | (simp only [List.length_append, List.length_map, List.length_set, List.length_cons, List.length_nil, List.length_take, List.length_drop]; omega)) only [va0, va1, va2, va3, va4, va5, va6, va7, va8, va9, va10, va11, va12, va13, va14, va15, vb0, vb1, vb2, vb3, w_i8, w_u8, w_i16, w_u16, w_i32, w_u32, w_i64, w_u64, lt_T, lt_F, le_T, le_F, nlt_T, nlt_F, nle_T, nle_F, List.take_of_length_le, gB, gcW, gcR, posIn, renA, renL, Chunk.ren, Chunk.refs, evOpD, touchD, stepC, isFresh, nFresh, freshOf, mkR, hole, evL, evH, opd, get, putD, ofVal, cellOf, loadE, behind, lenE, idxAddrE, idxE, addPtr, intE, strE, unE, convE, AV.int, AV.bool, AV.str, ivs, take, frameOf, firstRegion, refsA, refsL, one, cellsA, floatOk, apartT, List.map, if_true, if_false, E_P, E_glob0, reduceCtorEq, beq_self_eq_true, decide_true, decide_false, ↓reduceIte, Nat.reduceEqDiff, cond_true, cond_false, or_true, true_or, or_false, false_or, and_true, true_and, and_self, false_and, and_false, not_true, not_false_iff, Nat.reduceAdd, Nat.reduceSub, Nat.reduceMul, Nat.reduceLT, Nat.reduceLeDiff, Int.reduceToNat, Int.reduceLT, Int.reduceLE, Option.getD, Int.reduceMul, Int.reduceAdd, List.drop, List.take, Nat.reduceBEq, List.isEmpty, Int.reduceEq, Int.reduceNe, Int.reduceNeg, Int.reduceGT, Int.reduceGE, beq_true, beq_false, UInt8.reduceToNat, eqE, eq_self, foldE, maxE, minE, eq_T, eq_F, ndec, odec, adec, sdec, fillA, over, chop, List.replicate, leavesOk, leafOk, cellsEq, cellEq, E_byref, en20, h1, ik32, ik19, ik19_e, ik31, ik52, ik53, parseA, List.append_nil, List.length_nil, List.length_cons]; (try simp only [List.append_assoc, List.cons_append, List.nil_append, Nat.add_zero])
    exact ⟨_, rfl⟩
  · rw [if_neg c1]
    by_cases c2 : st = 4
    · rw [if_pos c2]
      subst c2
      by_cases c3 : (b.toNat : Int) = 92
      · rw [if_pos c3]
        rw [callT_eq Tryd.func20 rfl fok20 (by simp [Tryd.ntmps20])]; simp (disch := first | omega | (simp only [List.length_append, List.length_map, List.length_set, List.length_cons, List.length_nil, List.length_take, List.length_drop]; omega)) only [va0, va1, va2, va3, va4, va5, va6, va7, va8, va9, va10, va11, va12, va13, va14, va15, vb0, vb1, vb2, vb3, w_i8, w_u8, w_i16, w_u16, w_i32, w_u32, w_i64, w_u64, lt_T, lt_F, le_T, le_F, nlt_T, nlt_F, nle_T, nle_F, List.take_of_length_le, gB, gcW, gcR, posIn, renA, renL, Chunk.ren, Chunk.refs, evOpD, touchD, stepC, isFresh, nFresh, freshOf, mkR, hole, evL, evH, opd, get, putD, ofVal, cellOf, loadE, behind, lenE, idxAddrE, idxE, addPtr, intE, strE, unE, convE, AV.int, AV.bool, AV.str, ivs, take, frameOf, firstRegion, refsA, refsL, one, cellsA, floatOk, apartT, List.map, if_true, if_false, E_P, E_glob0, reduceCtorEq, beq_self_eq_true, decide_true, decide_false, ↓reduceIte, Nat.reduceEqDiff, cond_true, cond_false, or_true, true_or, or_false, false_or, and_true, true_and, and_self, false_and, and_false, not_true, not_false_iff, Nat.reduceAdd, Nat.reduceSub, Nat.reduceMul, Nat.reduceLT, Nat.reduceLeDiff, Int.reduceToNat, Int.reduceLT, Int.reduceLE, Option.getD, Int.reduceMul, Int.reduceAdd, List.drop, List.take, Nat.reduceBEq, List.isEmpty, Int.reduceEq, Int.reduceNe, Int.reduceNeg, Int.reduceGT, Int.reduceGE, beq_true, beq_false, UInt8.reduceToNat, eqE, eq_self, foldE, maxE, minE, eq_T, eq_F, ndec, odec, adec, sdec, fillA, over, chop, List.replicate, leavesOk, leafOk, cellsEq, cellEq, E_byref, en20, c3, ik32, ik19, ik19_e, ik31, ik52, ik53, parseA, List.append_nil, List.length_nil, List.length_cons]; (try simp only [List.append_assoc, List.cons_append, List.nil_append, Nat.add_zero])
        exact ⟨_, rfl⟩
      · rw [if_neg c3]
        rw [callT_eq Tryd.func20 rfl fok20 (by simp [Tryd.ntmps20])]; simp (disch := first | omega | (simp only [List.length_append, List.length_map, List.length_set, List.length_cons, List.length_nil, List.length_take, List.length_drop]; omega)) only [va0, va1, va2, va3, va4, va5, va6, va7, va8, va9, va10, va11, va12, va13, va14, va15, vb0, vb1, vb2, vb3, w_i8, w_u8, w_i16, w_u16, w_i32, w_u32, w_i64, w_u64, lt_T, lt_F, le_T, le_F, nlt_T, nlt_F, nle_T, nle_F, List.take_of_length_le, gB, gcW, gcR, posIn, renA, renL, Chunk.ren, Chunk.refs, evOpD, touchD, stepC, isFresh, nFresh, freshOf, mkR, hole, evL, evH, opd, get, putD, ofVal, cellOf, loadE, behind, lenE, idxAddrE, idxE, addPtr, intE, strE, unE, convE, AV.int, AV.bool, AV.str, ivs, take, frameOf, firstRegion, refsA, refsL, one, cellsA, floatOk, apartT, List.map, if_true, if_false, E_P, E_glob0, reduceCtorEq, beq_self_eq_true, decide_true, decide_false, ↓reduceIte, Nat.reduceEqDiff, cond_true, cond_false, or_true, true_or, or_false, false_or, and_true, true_and, and_self, false_and, and_false, not_true, not_false_iff, Nat.reduceAdd, Nat.reduceSub, Nat.reduceMul, Nat.reduceLT, Nat.reduceLeDiff, Int.reduceToNat, Int.reduceLT, Int.reduceLE, Option.getD, Int.reduceMul, Int.reduceAdd, List.drop, List.take, Nat.reduceBEq, List.isEmpty, Int.reduceEq, Int.reduceNe, Int.reduceNeg, Int.reduceGT, Int.reduceGE, beq_true, beq_false, UInt8.reduceToNat, eqE, eq_self, foldE, maxE, minE, eq_T, eq_F, ndec, odec, adec, sdec, fillA, over, chop, List.replicate, leavesOk, leafOk, cellsEq, cellEq, E_byref, en20, c3, h3, ik32, ik19, ik19_e, ik31, ik52, ik53, parseA, List.append_nil, List.length_nil, List.length_cons]; (try simp only [List.append_assoc, List.cons_append, List.nil_append, Nat.add_zero])
        exact ⟨_, rfl⟩
    · rw [if_neg c2]
      by_cases c3 : st = 1
      · rw [if_pos c3]
        subst c3
        rw [callT_eq Tryd.func20 rfl fok20 (by simp [Tryd.ntmps20])]; simp (disch := first | omega | (simp only [List.length_append, List.length_map, List.length_set, List.length_cons, List.length_nil, List.length_take, List.length_drop]; omega)) only [va0, va1, va2, va3, va4, va5, va6, va7, va8, va9, va10, va11, va12, va13, va14, va15, vb0, vb1, vb2, vb3, w_i8, w_u8, w_i16, w_u16, w_i32, w_u32, w_i64, w_u64, lt_T, lt_F, le_T, le_F, nlt_T, nlt_F, nle_T, nle_F, List.take_of_length_le, gB, gcW, gcR, posIn, renA, renL, Chunk.ren, Chunk.refs, evOpD, touchD, stepC, isFresh, nFresh, freshOf, mkR, hole, evL, evH, opd, get, putD, ofVal, cellOf, loadE, behind, lenE, idxAddrE, idxE, addPtr, intE, strE, unE, convE, AV.int, AV.bool, AV.str, ivs, take, frameOf, firstRegion, refsA, refsL, one, cellsA, floatOk, apartT, List.map, if_true, if_false, E_P, E_glob0, reduceCtorEq, beq_self_eq_true, decide_true, decide_false, ↓reduceIte, Nat.reduceEqDiff, cond_true, cond_false, or_true, true_or, or_false, false_or, and_true, true_and, and_self, false_and, and_false, not_true, not_false_iff, Nat.reduceAdd, Nat.reduceSub, Nat.reduceMul, Nat.reduceLT, Nat.reduceLeDiff, Int.reduceToNat, Int.reduceLT, Int.reduceLE, Option.getD, Int.reduceMul, Int.reduceAdd, List.drop, List.take, Nat.reduceBEq, List.isEmpty, Int.reduceEq, Int.reduceNe, Int.reduceNeg, Int.reduceGT, Int.reduceGE, beq_true, beq_false, UInt8.reduceToNat, eqE, eq_self, foldE, maxE, minE, eq_T, eq_F, ndec, odec, adec, sdec, fillA, over, chop, List.replicate, leavesOk, leafOk, cellsEq, cellEq, E_byref, en20, h2, ik32, ik19, ik19_e, ik31, ik52, ik53, parseA, List.append_nil, List.length_nil, List.length_cons]; (try simp only [List.append_assoc, List.cons_append, List.nil_append, Nat.add_zero])
        exact ⟨_, rfl⟩
      · rw [if_neg c3]
        by_cases c4 : st = 2
        · rw [if_pos c4]
          subst c4
          rw [callT_eq Tryd.func20 rfl fok20 (by simp [Tryd.ntmps20])]; simp (disch := first | omega | (simp only [List.length_append, List.length_map, List.length_set, List.length_cons, List.length_nil, List.length_take, List.length_drop]; omega)) only [va0, va1, va2, va3, va4, va5, va6, va7, va8, va9, va10, va11, va12, va13, va14, va15, vb0, vb1, vb2, vb3, w_i8, w_u8, w_i16, w_u16, w_i32, w_u32, w_i64, w_u64, lt_T, lt_F, le_T, le_F, nlt_T, nlt_F, nle_T, nle_F, List.take_of_length_le, gB, gcW, gcR, posIn, renA, renL, Chunk.ren, Chunk.refs, evOpD, touchD, stepC, isFresh, nFresh, freshOf, mkR, hole, evL, evH, opd, get, putD, ofVal, cellOf, loadE, behind, lenE, idxAddrE, idxE, addPtr, intE, strE, unE, convE, AV.int, AV.bool, AV.str, ivs, take, frameOf, firstRegion, refsA, refsL, one, cellsA, floatOk, apartT, List.map, if_true, if_false, E_P, E_glob0, reduceCtorEq, beq_self_eq_true, decide_true, decide_false, ↓reduceIte, Nat.reduceEqDiff, cond_true, cond_false, or_true, true_or, or_false, false_or, and_true, true_and, and_self, false_and, and_false, not_true, not_false_iff, Nat.reduceAdd, Nat.reduceSub, Nat.reduceMul, Nat.reduceLT, Nat.reduceLeDiff, Int.reduceToNat, Int.reduceLT, Int.reduceLE, Option.getD, Int.reduceMul, Int.reduceAdd, List.drop, List.take, Nat.reduceBEq, List.isEmpty, Int.reduceEq, Int.reduceNe, Int.reduceNeg, Int.reduceGT, Int.reduceGE, beq_true, beq_false, UInt8.reduceToNat, eqE, eq_self, foldE, maxE, minE, eq_T, eq_F, ndec, odec, adec, sdec, fillA, over, chop, List.replicate, leavesOk, leafOk, cellsEq, cellEq, E_byref, en20, h4, ik32, ik19, ik19_e, ik31, ik52, ik53, parseA, List.append_nil, List.length_nil, List.length_cons]; (try simp only [List.append_assoc, List.cons_append, List.nil_append, Nat.add_zero])
          exact ⟨_, rfl⟩
        · rw [if_neg c4]
          rw [callT_eq Tryd.func20 rfl fok20 (by simp [Tryd.ntmps20])]; simp (disch := first | omega | (simp only [List.length_append, List.length_map, List.length_set, List.length_cons, List.length_nil, List.length_take, List.length_drop]; omega)) only [va0, va1, va2, va3, va4, va5, va6, va7, va8, va9, va10, va11, va12, va13, va14, va15, vb0, vb1, vb2, vb3, w_i8, w_u8, w_i16, w_u16, w_i32, w_u32, w_i64, w_u64, lt_T, lt_F, le_T, le_F, nlt_T, nlt_F, nle_T, nle_F, List.take_of_length_le, gB, gcW, gcR, posIn, renA, renL, Chunk.ren, Chunk.refs, evOpD, touchD, stepC, isFresh, nFresh, freshOf, mkR, hole, evL, evH, opd, get, putD, ofVal, cellOf, loadE, behind, lenE, idxAddrE, idxE, addPtr, intE, strE, unE, convE, AV.int, AV.bool, AV.str, ivs, take, frameOf, firstRegion, refsA, refsL, one, cellsA, floatOk, apartT, List.map, if_true, if_false, E_P, E_glob0, reduceCtorEq, beq_self_eq_true, decide_true, decide_false, ↓reduceIte, Nat.reduceEqDiff, cond_true, cond_false, or_true, true_or, or_false, false_or, and_true, true_and, and_self, false_and, and_false, not_true, not_false_iff, Nat.reduceAdd, Nat.reduceSub, Nat.reduceMul, Nat.reduceLT, Nat.reduceLeDiff, Int.reduceToNat, Int.reduceLT, Int.reduceLE, Option.getD, Int.reduceMul, Int.reduceAdd, List.drop, List.take, Nat.reduceBEq, List.isEmpty, Int.reduceEq, Int.reduceNe, Int.reduceNeg, Int.reduceGT, Int.reduceGE, beq_true, beq_false, UInt8.reduceToNat, eqE, eq_self, foldE, maxE, minE, eq_T, eq_F, ndec, odec, adec, sdec, fillA, over, chop, List.replicate, leavesOk, leafOk, cellsEq, cellEq, E_byref, en20, c1, c2, c3, c4, h5, ik32, ik19, ik19_e, ik31, ik52, ik53, parseA, List.append_nil, List.length_nil, List.length_cons]; (try simp only [List.append_assoc, List.cons_append, List.nil_append, Nat.add_zero])
          exact ⟨_, rfl⟩
end Go.VI

namespace Go.VI
open Go.Proofs
set_option maxRecDepth 100000
set_option linter.unusedSimpArgs false
set_option linter.unusedVariables false
set_option maxHeartbeats 4000000
def rowsB (s : List UInt8) : List (List IV) := s.map fun b => [IV.v (.int .u8 b.toNat)]
theorem rowsB_len (s : List UInt8) : (rowsB s).length = s.length := by simp [rowsB]
theorem rowsB_at {s : List UInt8} {k : Nat} (h : k < s.length) : (rowsB s)[k]? = some [.v (.int .u8 s[k].toNat)] := by simp [rowsB, h]
theorem rowsB_app (a b : List UInt8) : rowsB a ++ rowsB b = rowsB (a ++ b) := by simp [rowsB]
theorem rowsB_snoc (a : List UInt8) (n : Int) (b : UInt8) (h : n = b.toNat) : rowsB a ++ [[.v (.int .u8 n)]] = rowsB (a ++ [b]) := by subst h; simp [rowsB]
theorem rowsB_num (a : List UInt8) : numsOf (rowsB a) = some (a.map fun b => (b.toNat : Int)) := numsOf_bytes a
theorem rowsB_take (a : List UInt8) (n : Nat) (h : a.length ≤ n) : (rowsB a).take n = rowsB a := List.take_of_length_le (by rw [rowsB_len]; exact h)
theorem bytes_map (a : List UInt8) : (a.map fun b => [IV.v (.int .u8 b.toNat)]) = rowsB a := rfl
end Go.VI

namespace Go.VI
open Go.Proofs
set_option maxRecDepth 100000
set_option linter.unusedSimpArgs false
set_option linter.unusedVariables false
set_option maxHeartbeats 4000000
theorem isoK_bb {f : Nat} {x y : IV} {args : List AV} {r : AV} (he : E.ext f = none) (ha : refsL args = [0, 1]) (hren : renL (posIn [0, 1]) args = args) (hr : refsA r = [])
    (h : ∃ L, callT E f args [.box [.i x], .box [.i y]] = some (r, .box [.i x] :: .box [.i y] :: L)) (T : Hp) :
    isoK E (callT E) f args (.box [.i x] :: .box [.i y] :: T) = some (r, .box [.i x] :: .box [.i y] :: T) := by
  obtain ⟨L, h⟩ := h
  have hr2 : ∀ ρ, renA ρ r = r := fun ρ => (refs_ren ρ).1 r hr
  rw [isoK_R he, ha]
  have hR : reach (Chunk.box [.i x] :: .box [.i y] :: T) 64 [0, 1] [] = [0, 1] := by simp (disch := first | omega | (simp only [List.length_append, List.length_map, List.length_set, List.length_cons, List.length_nil, List.length_take, List.length_drop]; omega)) only [va0, va1, va2, va3, va4, va5, va6, va7, va8, va9, va10, va11, va12, va13, va14, va15, vb0, vb1, vb2, vb3, w_i8, w_u8, w_i16, w_u16, w_i32, w_u32, w_i64, w_u64, lt_T, lt_F, le_T, le_F, nlt_T, nlt_F, nle_T, nle_F, List.take_of_length_le, gB, gcW, gcR, posIn, renA, renL, Chunk.ren, Chunk.refs, evOpD, touchD, stepC, isFresh, nFresh, freshOf, mkR, hole, evL, evH, opd, get, putD, ofVal, cellOf, loadE, behind, lenE, idxAddrE, idxE, addPtr, intE, strE, unE, convE, AV.int, AV.bool, AV.str, ivs, take, frameOf, firstRegion, refsA, refsL, one, cellsA, floatOk, apartT, List.map, if_true, if_false, E_P, E_glob0, reduceCtorEq, beq_self_eq_true, decide_true, decide_false, ↓reduceIte, Nat.reduceEqDiff, cond_true, cond_false, or_true, true_or, or_false, false_or, and_true, true_and, and_self, false_and, and_false, not_true, not_false_iff, Nat.reduceAdd, Nat.reduceSub, Nat.reduceMul, Nat.reduceLT, Nat.reduceLeDiff, Int.reduceToNat, Int.reduceLT, Int.reduceLE, Option.getD, Int.reduceMul, Int.reduceAdd, List.drop, List.take, Nat.reduceBEq, List.isEmpty, Int.reduceEq, Int.reduceNe, Int.reduceNeg, Int.reduceGT, Int.reduceGE, beq_true, beq_false, UInt8.reduceToNat, eqE, eq_self, foldE, maxE, minE, eq_T, eq_F, ndec, odec, adec, sdec, fillA, over, chop, List.replicate, leavesOk, leafOk, cellsEq, cellEq, E_byref, tyaa, tyab, tyac, tyad, tyae, tyaf, tyag, tyah, tyai, tyaj, tyak, tyal, tyam, bs26, bs29, bs47, bs49]
  rw [hR]
  unfold isoL
  have hm : ([0, 1].map fun c => (((Chunk.box [.i x] :: .box [.i y] :: T)[c]?).map (Chunk.ren (posIn [0, 1]))).getD (.iter [] 0)) = [Chunk.box [.i x], .box [.i y]] := by simp (disch := first | omega | (simp only [List.length_append, List.length_map, List.length_set, List.length_cons, List.length_nil, List.length_take, List.length_drop]; omega)) only [va0, va1, va2, va3, va4, va5, va6, va7, va8, va9, va10, va11, va12, va13, va14, va15, vb0, vb1, vb2, vb3, w_i8, w_u8, w_i16, w_u16, w_i32, w_u32, w_i64, w_u64, lt_T, lt_F, le_T, le_F, nlt_T, nlt_F, nle_T, nle_F, List.take_of_length_le, gB, gcW, gcR, posIn, renA, renL, Chunk.ren, Chunk.refs, evOpD, touchD, stepC, isFresh, nFresh, freshOf, mkR, hole, evL, evH, opd, get, putD, ofVal, cellOf, loadE, behind, lenE, idxAddrE, idxE, addPtr, intE, strE, unE, convE, AV.int, AV.bool, AV.str, ivs, take, frameOf, firstRegion, refsA, refsL, one, cellsA, floatOk, apartT, List.map, if_true, if_false, E_P, E_glob0, reduceCtorEq, beq_self_eq_true, decide_true, decide_false, ↓reduceIte, Nat.reduceEqDiff, cond_true, cond_false, or_true, true_or, or_false, false_or, and_true, true_and, and_self, false_and, and_false, not_true, not_false_iff, Nat.reduceAdd, Nat.reduceSub, Nat.reduceMul, Nat.reduceLT, Nat.reduceLeDiff, Int.reduceToNat, Int.reduceLT, Int.reduceLE, Option.getD, Int.reduceMul, Int.reduceAdd, List.drop, List.take, Nat.reduceBEq, List.isEmpty, Int.reduceEq, Int.reduceNe, Int.reduceNeg, Int.reduceGT, Int.reduceGE, beq_true, beq_false, UInt8.reduceToNat, eqE, eq_self, foldE, maxE, minE, eq_T, eq_F, ndec, odec, adec, sdec, fillA, over, chop, List.replicate, leavesOk, leafOk, cellsEq, cellEq, E_byref, tyaa, tyab, tyac, tyad, tyae, tyaf, tyag, tyah, tyai, tyaj, tyak, tyal, tyam, bs26, bs29, bs47, bs49]
  rw [hren, hm, h]
  simp (disch := first | omega | (simp only [List.length_append, List.length_map, List.length_set, List.length_cons, List.length_nil, List.length_take, List.length_drop]; omega)) only [va0, va1, va2, va3, va4, va5, va6, va7, va8, va9, va10, va11, va12, va13, va14, va15, vb0, vb1, vb2, vb3, w_i8, w_u8, w_i16, w_u16, w_i32, w_u32, w_i64, w_u64, lt_T, lt_F, le_T, le_F, nlt_T, nlt_F, nle_T, nle_F, List.take_of_length_le, gB, gcW, gcR, posIn, renA, renL, Chunk.ren, Chunk.refs, evOpD, touchD, stepC, isFresh, nFresh, freshOf, mkR, hole, evL, evH, opd, get, putD, ofVal, cellOf, loadE, behind, lenE, idxAddrE, idxE, addPtr, intE, strE, unE, convE, AV.int, AV.bool, AV.str, ivs, take, frameOf, firstRegion, refsA, refsL, one, cellsA, floatOk, apartT, List.map, if_true, if_false, E_P, E_glob0, reduceCtorEq, beq_self_eq_true, decide_true, decide_false, ↓reduceIte, Nat.reduceEqDiff, cond_true, cond_false, or_true, true_or, or_false, false_or, and_true, true_and, and_self, false_and, and_false, not_true, not_false_iff, Nat.reduceAdd, Nat.reduceSub, Nat.reduceMul, Nat.reduceLT, Nat.reduceLeDiff, Int.reduceToNat, Int.reduceLT, Int.reduceLE, Option.getD, Int.reduceMul, Int.reduceAdd, List.drop, List.take, Nat.reduceBEq, List.isEmpty, Int.reduceEq, Int.reduceNe, Int.reduceNeg, Int.reduceGT, Int.reduceGE, beq_true, beq_false, UInt8.reduceToNat, eqE, eq_self, foldE, maxE, minE, eq_T, eq_F, ndec, odec, adec, sdec, fillA, over, chop, List.replicate, leavesOk, leafOk, cellsEq, cellEq, E_byref, tyaa, tyab, tyac, tyad, tyae, tyaf, tyag, tyah, tyai, tyaj, tyak, tyal, tyam, bs26, bs29, bs47, bs49, isoB_some, isoF, backRen, setAll, List.take_succ_cons, List.take_zero, hr, hr2]
def outB (lo hi : Int) (b : UInt8) : Bool := decide ((b.toNat : Int) < lo) || decide (hi < (b.toNat : Int))
theorem c49 (lo hi : Int) (b : UInt8) : ∃ L, callT E 49 [.i (.v (.int .u8 b.toNat)), .ptr 0 0 0 0, .ptr 1 0 0 0] [.box [.i (.v (.int .u8 lo))], .box [.i (.v (.int .u8 hi))]] = some (.i (.v (.bool (outB lo hi b))), .box [.i (.v (.int .u8 lo))] :: .box [.i (.v (.int .u8 hi))] :: L) := by
  unfold outB
  rw [callT_eq Tryd.func49 rfl fok49 (by simp [Tryd.ntmps49])]
  by_cases h1 : (b.toNat : Int) < lo <;> by_cases h2 : hi < (b.toNat : Int) <;> simp only [h1, h2, decide_true, decide_false, Bool.true_or, Bool.or_true, Bool.or_false] <;> simp (disch := first | omega | (simp only [List.length_append, List.length_map, List.length_set, List.length_cons, List.length_nil, List.length_take, List.length_drop]; omega)) only [va0, va1, va2, va3, va4, va5, va6, va7, va8, va9, va10, va11, va12, va13, va14, va15, vb0, vb1, vb2, vb3, w_i8, w_u8, w_i16, w_u16, w_i32, w_u32, w_i64, w_u64, lt_T, lt_F, le_T, le_F, nlt_T, nlt_F, nle_T, nle_F, List.take_of_length_le, gB, gcW, gcR, posIn, renA, renL, Chunk.ren, Chunk.refs, evOpD, touchD, stepC, isFresh, nFresh, freshOf, mkR, hole, evL, evH, opd, get, putD, ofVal, cellOf, loadE, behind, lenE, idxAddrE, idxE, addPtr, intE, strE, unE, convE, AV.int, AV.bool, AV.str, ivs, take, frameOf, firstRegion, refsA, refsL, one, cellsA, floatOk, apartT, List.map, if_true, if_false, E_P, E_glob0, reduceCtorEq, beq_self_eq_true, decide_true, decide_false, ↓reduceIte, Nat.reduceEqDiff, cond_true, cond_false, or_true, true_or, or_false, false_or, and_true, true_and, and_self, false_and, and_false, not_true, not_false_iff, Nat.reduceAdd, Nat.reduceSub, Nat.reduceMul, Nat.reduceLT, Nat.reduceLeDiff, Int.reduceToNat, Int.reduceLT, Int.reduceLE, Option.getD, Int.reduceMul, Int.reduceAdd, List.drop, List.take, Nat.reduceBEq, List.isEmpty, Int.reduceEq, Int.reduceNe, Int.reduceNeg, Int.reduceGT, Int.reduceGE, beq_true, beq_false, UInt8.reduceToNat, eqE, eq_self, foldE, maxE, minE, eq_T, eq_F, ndec, odec, adec, sdec, fillA, over, chop, List.replicate, leavesOk, leafOk, cellsEq, cellEq, E_byref, en49, h1, h2] <;> exact ⟨_, rfl⟩
theorem ik49 (lo hi : Int) (b : UInt8) (T : Hp) : isoK E (callT E) 49 [.i (.v (.int .u8 b.toNat)), .ptr 0 0 0 0, .ptr 1 0 0 0] (.box [.i (.v (.int .u8 lo))] :: .box [.i (.v (.int .u8 hi))] :: T) = some (.i (.v (.bool (outB lo hi b))), .box [.i (.v (.int .u8 lo))] :: .box [.i (.v (.int .u8 hi))] :: T) := isoK_bb rfl rfl rfl rfl (c49 lo hi b) T
theorem l60 (lo hi : Int) (s : List UInt8) (hl : s.length < 100000) (k : Nat) (hk : k ≤ s.length) : rl E 2 60 (loopAt Tryd.f60 0) [(0, .i (.sl 1 (rowsB s) false)), (1, .clo (.func 49) [] [.ptr 0 0 0 0, .ptr 1 0 0 0]), (7, .i (.v (.int .i64 s.length))), (8, .i (.v (.int .i64 k)))] [.box [.i (.v (.int .u8 lo))], .box [.i (.v (.int .u8 hi))]] =
    match ixF (outB lo hi) (s.drop k) k with
    | some i => some (.ret, [(4, .i (.v (.int .i64 i)))], [.box [.i (.v (.int .u8 lo))], .box [.i (.v (.int .u8 hi))]])
    | none => some (.exit 0, [(0, .i (.sl 1 (rowsB s) false)), (1, .clo (.func 49) [] [.ptr 0 0 0 0, .ptr 1 0 0 0]), (7, .i (.v (.int .i64 s.length))), (8, .i (.v (.int .i64 s.length))), (9, .i (.v (.bool false)))], [.box [.i (.v (.int .u8 lo))], .box [.i (.v (.int .u8 hi))]]) := by
  rw [rl_step (fn := Tryd.f60) (k := 0) rfl]
  by_cases hlt : k < s.length
  · have hrow := rowsB_at hlt
    have ih := l60 lo hi s hl (k + 1) hlt
    rw [List.drop_eq_getElem_cons hlt, ixF]
    generalize s[k] = a at *
    by_cases hp : outB lo hi a = true
    · rw [if_pos hp]
      clear ih
      simp (disch := first | omega | (simp only [List.length_append, List.length_map, List.length_set, List.length_cons, List.length_nil, List.length_take, List.length_drop, rowsB_len]; omega)) only [va0, va1, va2, va3, va4, va5, va6, va7, va8, va9, va10, va11, va12, va13, va14, va15, vb0, vb1, vb2, vb3, w_i8, w_u8, w_i16, w_u16, w_i32, w_u32, w_i64, w_u64, lt_T, lt_F, le_T, le_F, nlt_T, nlt_F, nle_T, nle_F, List.take_of_length_le, gB, gcW, gcR, posIn, renA, renL, Chunk.ren, Chunk.refs, evOpD, touchD, stepC, isFresh, nFresh, freshOf, mkR, hole, evL, evH, opd, get, putD, ofVal, cellOf, loadE, behind, lenE, idxAddrE, idxE, addPtr, intE, strE, unE, convE, AV.int, AV.bool, AV.str, ivs, take, frameOf, firstRegion, refsA, refsL, one, cellsA, floatOk, apartT, List.map, if_true, if_false, E_P, E_glob0, reduceCtorEq, beq_self_eq_true, decide_true, decide_false, ↓reduceIte, Nat.reduceEqDiff, cond_true, cond_false, or_true, true_or, or_false, false_or, and_true, true_and, and_self, false_and, and_false, not_true, not_false_iff, Nat.reduceAdd, Nat.reduceSub, Nat.reduceMul, Nat.reduceLT, Nat.reduceLeDiff, Int.reduceToNat, Int.reduceLT, Int.reduceLE, Option.getD, Int.reduceMul, Int.reduceAdd, List.drop, List.take, Nat.reduceBEq, List.isEmpty, Int.reduceEq, Int.reduceNe, Int.reduceNeg, Int.reduceGT, Int.reduceGE, beq_true, beq_false, UInt8.reduceToNat, eqE, eq_self, foldE, maxE, minE, eq_T, eq_F, ndec, odec, adec, sdec, fillA, over, chop, List.replicate, leavesOk, leafOk, cellsEq, cellEq, E_byref, en60, bs47, hrow, rowsB_len, ik49, hp, show ∀ B fr H, execT E B 60 (Code.loop _) fr H = rlG E B 60 (loopAt Tryd.f60 0) (gcn B (norm [0, 1, 7, 8] fr) H) from fun B fr H => rl_intro rfl mt60_2 mb60_2 zf60_2 hd60_2 fr H, ca49]
    · rw [if_neg hp, ← ih]
      clear ih
      rw [Bool.not_eq_true] at hp
      simp (disch := first | omega | (simp only [List.length_append, List.length_map, List.length_set, List.length_cons, List.length_nil, List.length_take, List.length_drop, rowsB_len]; omega)) only [va0, va1, va2, va3, va4, va5, va6, va7, va8, va9, va10, va11, va12, va13, va14, va15, vb0, vb1, vb2, vb3, w_i8, w_u8, w_i16, w_u16, w_i32, w_u32, w_i64, w_u64, lt_T, lt_F, le_T, le_F, nlt_T, nlt_F, nle_T, nle_F, List.take_of_length_le, gB, gcW, gcR, posIn, renA, renL, Chunk.ren, Chunk.refs, evOpD, touchD, stepC, isFresh, nFresh, freshOf, mkR, hole, evL, evH, opd, get, putD, ofVal, cellOf, loadE, behind, lenE, idxAddrE, idxE, addPtr, intE, strE, unE, convE, AV.int, AV.bool, AV.str, ivs, take, frameOf, firstRegion, refsA, refsL, one, cellsA, floatOk, apartT, List.map, if_true, if_false, E_P, E_glob0, reduceCtorEq, beq_self_eq_true, decide_true, decide_false, ↓reduceIte, Nat.reduceEqDiff, cond_true, cond_false, or_true, true_or, or_false, false_or, and_true, true_and, and_self, false_and, and_false, not_true, not_false_iff, Nat.reduceAdd, Nat.reduceSub, Nat.reduceMul, Nat.reduceLT, Nat.reduceLeDiff, Int.reduceToNat, Int.reduceLT, Int.reduceLE, Option.getD, Int.reduceMul, Int.reduceAdd, List.drop, List.take, Nat.reduceBEq, List.isEmpty, Int.reduceEq, Int.reduceNe, Int.reduceNeg, Int.reduceGT, Int.reduceGE, beq_true, beq_false, UInt8.reduceToNat, eqE, eq_self, foldE, maxE, minE, eq_T, eq_F, ndec, odec, adec, sdec, fillA, over, chop, List.replicate, leavesOk, leafOk, cellsEq, cellEq, E_byref, en60, bs47, hrow, rowsB_len, ik49, hp, show ∀ B fr H, execT E B 60 (Code.loop _) fr H = rlG E B 60 (loopAt Tryd.f60 0) (gcn B (norm [0, 1, 7, 8] fr) H) from fun B fr H => rl_intro rfl mt60_2 mb60_2 zf60_2 hd60_2 fr H, ca49]
  · obtain rfl : k = s.length := by omega
    rw [List.drop_length, ixF]
    simp (disch := first | omega | (simp only [List.length_append, List.length_map, List.length_set, List.length_cons, List.length_nil, List.length_take, List.length_drop]; omega)) only [va0, va1, va2, va3, va4, va5, va6, va7, va8, va9, va10, va11, va12, va13, va14, va15, vb0, vb1, vb2, vb3, w_i8, w_u8, w_i16, w_u16, w_i32, w_u32, w_i64, w_u64, lt_T, lt_F, le_T, le_F, nlt_T, nlt_F, nle_T, nle_F, List.take_of_length_le, gB, gcW, gcR, posIn, renA, renL, Chunk.ren, Chunk.refs, evOpD, touchD, stepC, isFresh, nFresh, freshOf, mkR, hole, evL, evH, opd, get, putD, ofVal, cellOf, loadE, behind, lenE, idxAddrE, idxE, addPtr, intE, strE, unE, convE, AV.int, AV.bool, AV.str, ivs, take, frameOf, firstRegion, refsA, refsL, one, cellsA, floatOk, apartT, List.map, if_true, if_false, E_P, E_glob0, reduceCtorEq, beq_self_eq_true, decide_true, decide_false, ↓reduceIte, Nat.reduceEqDiff, cond_true, cond_false, or_true, true_or, or_false, false_or, and_true, true_and, and_self, false_and, and_false, not_true, not_false_iff, Nat.reduceAdd, Nat.reduceSub, Nat.reduceMul, Nat.reduceLT, Nat.reduceLeDiff, Int.reduceToNat, Int.reduceLT, Int.reduceLE, Option.getD, Int.reduceMul, Int.reduceAdd, List.drop, List.take, Nat.reduceBEq, List.isEmpty, Int.reduceEq, Int.reduceNe, Int.reduceNeg, Int.reduceGT, Int.reduceGE, beq_true, beq_false, UInt8.reduceToNat, eqE, eq_self, foldE, maxE, minE, eq_T, eq_F, ndec, odec, adec, sdec, fillA, over, chop, List.replicate, leavesOk, leafOk, cellsEq, cellEq, E_byref, en60, bs47]
termination_by s.length - k
theorem c60 (lo hi : Int) (s : List UInt8) (hl : (s.length : Int) < 100000) : ∃ L, callT E 60 [.i (.sl 1 (rowsB s) false), .clo (.func 49) [] [.ptr 0 0 0 0, .ptr 1 0 0 0]] [.box [.i (.v (.int .u8 lo))], .box [.i (.v (.int .u8 hi))]] = some (.i (.v (.int .i64 (ixN (ixF (outB lo hi) s 0)))), .box [.i (.v (.int .u8 lo))] :: .box [.i (.v (.int .u8 hi))] :: L) := by
  have h : rl E 2 60 (loopAt Tryd.f60 0) [(0, .i (.sl 1 (rowsB s) false)), (1, .clo (.func 49) [] [.ptr 0 0 0 0, .ptr 1 0 0 0]), (7, .i (.v (.int .i64 s.length))), (8, .i (.v (.int .i64 0)))] [.box [.i (.v (.int .u8 lo))], .box [.i (.v (.int .u8 hi))]] = _ := l60 lo hi s (by omega) 0 (Nat.zero_le _)
  rw [List.drop_zero] at h
  rw [callT_eq Tryd.func60 rfl fok60 (by simp [Tryd.ntmps60])]
  cases hx : ixF (outB lo hi) s 0 with
  | some i =>
    simp only [hx] at h
    simp (disch := first | omega | (simp only [List.length_append, List.length_map, List.length_set, List.length_cons, List.length_nil, List.length_take, List.length_drop, rowsB_len]; omega)) only [va0, va1, va2, va3, va4, va5, va6, va7, va8, va9, va10, va11, va12, va13, va14, va15, vb0, vb1, vb2, vb3, w_i8, w_u8, w_i16, w_u16, w_i32, w_u32, w_i64, w_u64, lt_T, lt_F, le_T, le_F, nlt_T, nlt_F, nle_T, nle_F, List.take_of_length_le, gB, gcW, gcR, posIn, renA, renL, Chunk.ren, Chunk.refs, evOpD, touchD, stepC, isFresh, nFresh, freshOf, mkR, hole, evL, evH, opd, get, putD, ofVal, cellOf, loadE, behind, lenE, idxAddrE, idxE, addPtr, intE, strE, unE, convE, AV.int, AV.bool, AV.str, ivs, take, frameOf, firstRegion, refsA, refsL, one, cellsA, floatOk, apartT, List.map, if_true, if_false, E_P, E_glob0, reduceCtorEq, beq_self_eq_true, decide_true, decide_false, ↓reduceIte, Nat.reduceEqDiff, cond_true, cond_false, or_true, true_or, or_false, false_or, and_true, true_and, and_self, false_and, and_false, not_true, not_false_iff, Nat.reduceAdd, Nat.reduceSub, Nat.reduceMul, Nat.reduceLT, Nat.reduceLeDiff, Int.reduceToNat, Int.reduceLT, Int.reduceLE, Option.getD, Int.reduceMul, Int.reduceAdd, List.drop, List.take, Nat.reduceBEq, List.isEmpty, Int.reduceEq, Int.reduceNe, Int.reduceNeg, Int.reduceGT, Int.reduceGE, beq_true, beq_false, UInt8.reduceToNat, eqE, eq_self, foldE, maxE, minE, eq_T, eq_F, ndec, odec, adec, sdec, fillA, over, chop, List.replicate, leavesOk, leafOk, cellsEq, cellEq, E_byref, en60, bs47, h, rowsB_len, show ∀ B fr H, execT E B 60 (Code.loop _) fr H = rlG E B 60 (loopAt Tryd.f60 0) (gcn B (norm [0, 1, 7, 8] fr) H) from fun B fr H => rl_intro rfl mt60_2 mb60_2 zf60_2 hd60_2 fr H, ixN]
    exact ⟨_, rfl⟩
  | none =>
    simp only [hx] at h
    simp (disch := first | omega | (simp only [List.length_append, List.length_map, List.length_set, List.length_cons, List.length_nil, List.length_take, List.length_drop, rowsB_len]; omega)) only [va0, va1, va2, va3, va4, va5, va6, va7, va8, va9, va10, va11, va12, va13, va14, va15, vb0, vb1, vb2, vb3, w_i8, w_u8, w_i16, w_u16, w_i32, w_u32, w_i64, w_u64, lt_T, lt_F, le_T, le_F, nlt_T, nlt_F, nle_T, nle_F, List.take_of_length_le, gB, gcW, gcR, posIn, renA, renL, Chunk.ren, Chunk.refs, evOpD, touchD, stepC, isFresh, nFresh, freshOf, mkR, hole, evL, evH, opd, get, putD, ofVal, cellOf, loadE, behind, lenE, idxAddrE, idxE, addPtr, intE, strE, unE, convE, AV.int, AV.bool, AV.str, ivs, take, frameOf, firstRegion, refsA, refsL, one, cellsA, floatOk, apartT, List.map, if_true, if_false, E_P, E_glob0, reduceCtorEq, beq_self_eq_true, decide_true, decide_false, ↓reduceIte, Nat.reduceEqDiff, cond_true, cond_false, or_true, true_or, or_false, false_or, and_true, true_and, and_self, false_and, and_false, not_true, not_false_iff, Nat.reduceAdd, Nat.reduceSub, Nat.reduceMul, Nat.reduceLT, Nat.reduceLeDiff, Int.reduceToNat, Int.reduceLT, Int.reduceLE, Option.getD, Int.reduceMul, Int.reduceAdd, List.drop, List.take, Nat.reduceBEq, List.isEmpty, Int.reduceEq, Int.reduceNe, Int.reduceNeg, Int.reduceGT, Int.reduceGE, beq_true, beq_false, UInt8.reduceToNat, eqE, eq_self, foldE, maxE, minE, eq_T, eq_F, ndec, odec, adec, sdec, fillA, over, chop, List.replicate, leavesOk, leafOk, cellsEq, cellEq, E_byref, en60, bs47, h, rowsB_len, show ∀ B fr H, execT E B 60 (Code.loop _) fr H = rlG E B 60 (loopAt Tryd.f60 0) (gcn B (norm [0, 1, 7, 8] fr) H) from fun B fr H => rl_intro rfl mt60_2 mb60_2 zf60_2 hd60_2 fr H, ixN]
    exact ⟨_, rfl⟩
theorem ik60 (lo hi : Int) (s : List UInt8) (hl : (s.length : Int) < 100000) (T : Hp) : isoK E (callT E) 60 [.i (.sl 1 (rowsB s) false), .clo (.func 49) [] [.ptr 0 0 0 0, .ptr 1 0 0 0]] (.box [.i (.v (.int .u8 lo))] :: .box [.i (.v (.int .u8 hi))] :: T) = some (.i (.v (.int .i64 (ixN (ixF (outB lo hi) s 0)))), .box [.i (.v (.int .u8 lo))] :: .box [.i (.v (.int .u8 hi))] :: T) := isoK_bb rfl rfl rfl rfl (c60 lo hi s hl) T
theorem c48 (lo hi : Int) (s : List UInt8) (hl : (s.length : Int) < 100000) : ∃ L, callT E 48 [.i (.sl 1 (rowsB s) false), .clo (.func 49) [] [.ptr 0 0 0 0, .ptr 1 0 0 0]] [.box [.i (.v (.int .u8 lo))], .box [.i (.v (.int .u8 hi))]] = some (.i (.v (.bool (s.any (outB lo hi)))), .box [.i (.v (.int .u8 lo))] :: .box [.i (.v (.int .u8 hi))] :: L) := by
  have hd := ixF_dec (outB lo hi) s 0
  rw [callT_eq Tryd.func48 rfl fok48 (by simp [Tryd.ntmps48])]
  simp (disch := first | omega | (simp only [List.length_append, List.length_map, List.length_set, List.length_cons, List.length_nil, List.length_take, List.length_drop]; omega)) only [va0, va1, va2, va3, va4, va5, va6, va7, va8, va9, va10, va11, va12, va13, va14, va15, vb0, vb1, vb2, vb3, w_i8, w_u8, w_i16, w_u16, w_i32, w_u32, w_i64, w_u64, lt_T, lt_F, le_T, le_F, nlt_T, nlt_F, nle_T, nle_F, List.take_of_length_le, gB, gcW, gcR, posIn, renA, renL, Chunk.ren, Chunk.refs, evOpD, touchD, stepC, isFresh, nFresh, freshOf, mkR, hole, evL, evH, opd, get, putD, ofVal, cellOf, loadE, behind, lenE, idxAddrE, idxE, addPtr, intE, strE, unE, convE, AV.int, AV.bool, AV.str, ivs, take, frameOf, firstRegion, refsA, refsL, one, cellsA, floatOk, apartT, List.map, if_true, if_false, E_P, E_glob0, reduceCtorEq, beq_self_eq_true, decide_true, decide_false, ↓reduceIte, Nat.reduceEqDiff, cond_true, cond_false, or_true, true_or, or_false, false_or, and_true, true_and, and_self, false_and, and_false, not_true, not_false_iff, Nat.reduceAdd, Nat.reduceSub, Nat.reduceMul, Nat.reduceLT, Nat.reduceLeDiff, Int.reduceToNat, Int.reduceLT, Int.reduceLE, Option.getD, Int.reduceMul, Int.reduceAdd, List.drop, List.take, Nat.reduceBEq, List.isEmpty, Int.reduceEq, Int.reduceNe, Int.reduceNeg, Int.reduceGT, Int.reduceGE, beq_true, beq_false, UInt8.reduceToNat, eqE, eq_self, foldE, maxE, minE, eq_T, eq_F, ndec, odec, adec, sdec, fillA, over, chop, List.replicate, leavesOk, leafOk, cellsEq, cellEq, E_byref, en48, bs47, ik60, hd]
  exact ⟨_, rfl⟩
theorem ik48 (lo hi : Int) (s : List UInt8) (hl : (s.length : Int) < 100000) (T : Hp) : isoK E (callT E) 48 [.i (.sl 1 (rowsB s) false), .clo (.func 49) [] [.ptr 0 0 0 0, .ptr 1 0 0 0]] (.box [.i (.v (.int .u8 lo))] :: .box [.i (.v (.int .u8 hi))] :: T) = some (.i (.v (.bool (s.any (outB lo hi)))), .box [.i (.v (.int .u8 lo))] :: .box [.i (.v (.int .u8 hi))] :: T) := isoK_bb rfl rfl rfl rfl (c48 lo hi s hl) T
theorem c29 (lo hi : Int) (s : List UInt8) (hl : (s.length : Int) < 100000) : ∃ L, callT E 29 [.i (.str s), .i (.v (.int .u8 lo)), .i (.v (.int .u8 hi))] [] = some (.i (.v (.bool (!s.any (outB lo hi)))), L) := by
  have hrb : (s.map fun b => [IV.v (.int .u8 b.toNat)]) = rowsB s := rfl
  have hlb := rowsB_len s
  rw [callT_eq Tryd.func29 rfl fok29 (by simp [Tryd.ntmps29])]
  simp (disch := first | omega | (simp only [List.length_append, List.length_map, List.length_set, List.length_cons, List.length_nil, List.length_take, List.length_drop, rowsB_len]; omega)) only [va0, va1, va2, va3, va4, va5, va6, va7, va8, va9, va10, va11, va12, va13, va14, va15, vb0, vb1, vb2, vb3, w_i8, w_u8, w_i16, w_u16, w_i32, w_u32, w_i64, w_u64, lt_T, lt_F, le_T, le_F, nlt_T, nlt_F, nle_T, nle_F, List.take_of_length_le, gB, gcW, gcR, posIn, renA, renL, Chunk.ren, Chunk.refs, evOpD, touchD, stepC, isFresh, nFresh, freshOf, mkR, hole, evL, evH, opd, get, putD, ofVal, cellOf, loadE, behind, lenE, idxAddrE, idxE, addPtr, intE, strE, unE, convE, AV.int, AV.bool, AV.str, ivs, take, frameOf, firstRegion, refsA, refsL, one, cellsA, floatOk, apartT, List.map, if_true, if_false, E_P, E_glob0, reduceCtorEq, beq_self_eq_true, decide_true, decide_false, ↓reduceIte, Nat.reduceEqDiff, cond_true, cond_false, or_true, true_or, or_false, false_or, and_true, true_and, and_self, false_and, and_false, not_true, not_false_iff, Nat.reduceAdd, Nat.reduceSub, Nat.reduceMul, Nat.reduceLT, Nat.reduceLeDiff, Int.reduceToNat, Int.reduceLT, Int.reduceLE, Option.getD, Int.reduceMul, Int.reduceAdd, List.drop, List.take, Nat.reduceBEq, List.isEmpty, Int.reduceEq, Int.reduceNe, Int.reduceNeg, Int.reduceGT, Int.reduceGE, beq_true, beq_false, UInt8.reduceToNat, eqE, eq_self, foldE, maxE, minE, eq_T, eq_F, ndec, odec, adec, sdec, fillA, over, chop, List.replicate, leavesOk, leafOk, cellsEq, cellEq, E_byref, en29, bs47, hrb, ik48, List.take_of_length_le]
  exact ⟨_, rfl⟩
theorem ik29 (lo hi : Int) (s : List UInt8) (hl : (s.length : Int) < 100000) (H : Hp) : isoK E (callT E) 29 [.i (.str s), .i (.v (.int .u8 lo)), .i (.v (.int .u8 hi))] H = some (.i (.v (.bool (!s.any (outB lo hi)))), H) := isoK_val rfl rfl rfl (c29 lo hi s hl)
def properS (p : Ps) : Bool :=
  if p.st = 0 then (p.bu == []) && decide ((decOut p.pe).length = 0) && (decRest p.pe == p.pe)
  else if p.pe = [] then
    (if p.st = 1 then decide (p.bu.length ≤ 3) && !p.bu.any (outB 32 47)
    else if p.st = 2 then decide (p.bu.length ≤ 257) && !p.bu.any (outB 32 63)
    else if p.st = 3 ∨ p.st = 4 then decide (p.bu.length ≤ 256) && !p.bu.any (outB 32 255)
    else false)
  else false
def psC (p : Ps) : List AV := [.i (.v (.int .i64 p.st)), .i (.str p.pe), .i (.str p.bu)]
theorem c18 (p : Ps) (hp : p.pe.length < 40000) (hb : p.bu.length < 100000) : ∃ L, callT E 18 [.agg (psC p)] [] = some (.i (.v (.bool (properS p))), L) := by
  obtain ⟨st, pe, bu⟩ := p
  simp only at hp hb
  have h32 := rows32_len (decOut pe)
  have hdl := decOut_len pe
  have hik := fun H => ik28 [] pe (by simp; omega) H
  simp only [List.nil_append] at hik
  unfold properS psC
  by_cases c0 : st = 0
  · subst c0
    simp only [if_true]
    cases bu with
    | nil =>
      have : (([] : List UInt8) == []) = true := rfl
      simp only [this, Bool.true_and]
      by_cases c1 : (decOut pe).length = 0
      · simp only [c1, decide_true, Bool.true_and]
        rw [c1] at h32
        (rw [callT_eq Tryd.func18 rfl fok18 (by simp [Tryd.ntmps18])]; simp (disch := first | omega | (simp only [List.length_append, List.length_map, List.length_set, List.length_cons, List.length_nil, List.length_take, List.length_drop]; omega)) only [va0, va1, va2, va3, va4, va5, va6, va7, va8, va9, va10, va11, va12, va13, va14, va15, vb0, vb1, vb2, vb3, w_i8, w_u8, w_i16, w_u16, w_i32, w_u32, w_i64, w_u64, lt_T, lt_F, le_T, le_F, nlt_T, nlt_F, nle_T, nle_F, List.take_of_length_le, gB, gcW, gcR, posIn, renA, renL, Chunk.ren, Chunk.refs, evOpD, touchD, stepC, isFresh, nFresh, freshOf, mkR, hole, evL, evH, opd, get, putD, ofVal, cellOf, loadE, behind, lenE, idxAddrE, idxE, addPtr, intE, strE, unE, convE, AV.int, AV.bool, AV.str, ivs, take, frameOf, firstRegion, refsA, refsL, one, cellsA, floatOk, apartT, List.map, if_true, if_false, E_P, E_glob0, reduceCtorEq, beq_self_eq_true, decide_true, decide_false, ↓reduceIte, Nat.reduceEqDiff, cond_true, cond_false, or_true, true_or, or_false, false_or, and_true, true_and, and_self, false_and, and_false, not_true, not_false_iff, Nat.reduceAdd, Nat.reduceSub, Nat.reduceMul, Nat.reduceLT, Nat.reduceLeDiff, Int.reduceToNat, Int.reduceLT, Int.reduceLE, Option.getD, Int.reduceMul, Int.reduceAdd, List.drop, List.take, Nat.reduceBEq, List.isEmpty, Int.reduceEq, Int.reduceNe, Int.reduceNeg, Int.reduceGT, Int.reduceGE, beq_true, beq_false, UInt8.reduceToNat, eqE, eq_self, foldE, maxE, minE, eq_T, eq_F, ndec, odec, adec, sdec, fillA, over, chop, List.replicate, leavesOk, leafOk, cellsEq, cellEq, E_byref, en18, bs49, hik, h32, rows32_len, c1, Int.natCast_zero, ik29]; exact ⟨_, rfl⟩)
      · simp only [c1, decide_false, Bool.false_and]
        (rw [callT_eq Tryd.func18 rfl fok18 (by simp [Tryd.ntmps18])]; simp (disch := first | omega | (simp only [List.length_append, List.length_map, List.length_set, List.length_cons, List.length_nil, List.length_take, List.length_drop]; omega)) only [va0, va1, va2, va3, va4, va5, va6, va7, va8, va9, va10, va11, va12, va13, va14, va15, vb0, vb1, vb2, vb3, w_i8, w_u8, w_i16, w_u16, w_i32, w_u32, w_i64, w_u64, lt_T, lt_F, le_T, le_F, nlt_T, nlt_F, nle_T, nle_F, List.take_of_length_le, gB, gcW, gcR, posIn, renA, renL, Chunk.ren, Chunk.refs, evOpD, touchD, stepC, isFresh, nFresh, freshOf, mkR, hole, evL, evH, opd, get, putD, ofVal, cellOf, loadE, behind, lenE, idxAddrE, idxE, addPtr, intE, strE, unE, convE, AV.int, AV.bool, AV.str, ivs, take, frameOf, firstRegion, refsA, refsL, one, cellsA, floatOk, apartT, List.map, if_true, if_false, E_P, E_glob0, reduceCtorEq, beq_self_eq_true, decide_true, decide_false, ↓reduceIte, Nat.reduceEqDiff, cond_true, cond_false, or_true, true_or, or_false, false_or, and_true, true_and, and_self, false_and, and_false, not_true, not_false_iff, Nat.reduceAdd, Nat.reduceSub, Nat.reduceMul, Nat.reduceLT, Nat.reduceLeDiff, Int.reduceToNat, Int.reduceLT, Int.reduceLE, Option.getD, Int.reduceMul, Int.reduceAdd, List.drop, List.take, Nat.reduceBEq, List.isEmpty, Int.reduceEq, Int.reduceNe, Int.reduceNeg, Int.reduceGT, Int.reduceGE, beq_true, beq_false, UInt8.reduceToNat, eqE, eq_self, foldE, maxE, minE, eq_T, eq_F, ndec, odec, adec, sdec, fillA, over, chop, List.replicate, leavesOk, leafOk, cellsEq, cellEq, E_byref, en18, bs49, hik, h32, rows32_len, c1, ik29]; exact ⟨_, rfl⟩)
    | cons y bu =>
      have : ((y :: bu) == []) = false := rfl
      simp only [this, Bool.false_and]
      (rw [callT_eq Tryd.func18 rfl fok18 (by simp [Tryd.ntmps18])]; simp (disch := first | omega | (simp only [List.length_append, List.length_map, List.length_set, List.length_cons, List.length_nil, List.length_take, List.length_drop]; omega)) only [va0, va1, va2, va3, va4, va5, va6, va7, va8, va9, va10, va11, va12, va13, va14, va15, vb0, vb1, vb2, vb3, w_i8, w_u8, w_i16, w_u16, w_i32, w_u32, w_i64, w_u64, lt_T, lt_F, le_T, le_F, nlt_T, nlt_F, nle_T, nle_F, List.take_of_length_le, gB, gcW, gcR, posIn, renA, renL, Chunk.ren, Chunk.refs, evOpD, touchD, stepC, isFresh, nFresh, freshOf, mkR, hole, evL, evH, opd, get, putD, ofVal, cellOf, loadE, behind, lenE, idxAddrE, idxE, addPtr, intE, strE, unE, convE, AV.int, AV.bool, AV.str, ivs, take, frameOf, firstRegion, refsA, refsL, one, cellsA, floatOk, apartT, List.map, if_true, if_false, E_P, E_glob0, reduceCtorEq, beq_self_eq_true, decide_true, decide_false, ↓reduceIte, Nat.reduceEqDiff, cond_true, cond_false, or_true, true_or, or_false, false_or, and_true, true_and, and_self, false_and, and_false, not_true, not_false_iff, Nat.reduceAdd, Nat.reduceSub, Nat.reduceMul, Nat.reduceLT, Nat.reduceLeDiff, Int.reduceToNat, Int.reduceLT, Int.reduceLE, Option.getD, Int.reduceMul, Int.reduceAdd, List.drop, List.take, Nat.reduceBEq, List.isEmpty, Int.reduceEq, Int.reduceNe, Int.reduceNeg, Int.reduceGT, Int.reduceGE, beq_true, beq_false, UInt8.reduceToNat, eqE, eq_self, foldE, maxE, minE, eq_T, eq_F, ndec, odec, adec, sdec, fillA, over, chop, List.replicate, leavesOk, leafOk, cellsEq, cellEq, E_byref, en18, bs49, hik, h32, rows32_len, ik29]; exact ⟨_, rfl⟩)
  · simp only [if_neg c0]
    cases pe with
    | cons y pe =>
      simp only [reduceCtorEq, if_false]
      (rw [callT_eq Tryd.func18 rfl fok18 (by simp [Tryd.ntmps18])]; simp (disch := first | omega | (simp only [List.length_append, List.length_map, List.length_set, List.length_cons, List.length_nil, List.length_take, List.length_drop]; omega)) only [va0, va1, va2, va3, va4, va5, va6, va7, va8, va9, va10, va11, va12, va13, va14, va15, vb0, vb1, vb2, vb3, w_i8, w_u8, w_i16, w_u16, w_i32, w_u32, w_i64, w_u64, lt_T, lt_F, le_T, le_F, nlt_T, nlt_F, nle_T, nle_F, List.take_of_length_le, gB, gcW, gcR, posIn, renA, renL, Chunk.ren, Chunk.refs, evOpD, touchD, stepC, isFresh, nFresh, freshOf, mkR, hole, evL, evH, opd, get, putD, ofVal, cellOf, loadE, behind, lenE, idxAddrE, idxE, addPtr, intE, strE, unE, convE, AV.int, AV.bool, AV.str, ivs, take, frameOf, firstRegion, refsA, refsL, one, cellsA, floatOk, apartT, List.map, if_true, if_false, E_P, E_glob0, reduceCtorEq, beq_self_eq_true, decide_true, decide_false, ↓reduceIte, Nat.reduceEqDiff, cond_true, cond_false, or_true, true_or, or_false, false_or, and_true, true_and, and_self, false_and, and_false, not_true, not_false_iff, Nat.reduceAdd, Nat.reduceSub, Nat.reduceMul, Nat.reduceLT, Nat.reduceLeDiff, Int.reduceToNat, Int.reduceLT, Int.reduceLE, Option.getD, Int.reduceMul, Int.reduceAdd, List.drop, List.take, Nat.reduceBEq, List.isEmpty, Int.reduceEq, Int.reduceNe, Int.reduceNeg, Int.reduceGT, Int.reduceGE, beq_true, beq_false, UInt8.reduceToNat, eqE, eq_self, foldE, maxE, minE, eq_T, eq_F, ndec, odec, adec, sdec, fillA, over, chop, List.replicate, leavesOk, leafOk, cellsEq, cellEq, E_byref, en18, bs49, c0, ik29]; exact ⟨_, rfl⟩)
    | nil =>
      simp only [if_true]
      by_cases c1 : st = 1
      · subst c1
        simp only [if_true]
        by_cases c2 : bu.length ≤ 3 <;> simp only [c2, decide_true, decide_false, Bool.true_and, Bool.false_and] <;> (rw [callT_eq Tryd.func18 rfl fok18 (by simp [Tryd.ntmps18])]; simp (disch := first | omega | (simp only [List.length_append, List.length_map, List.length_set, List.length_cons, List.length_nil, List.length_take, List.length_drop]; omega)) only [va0, va1, va2, va3, va4, va5, va6, va7, va8, va9, va10, va11, va12, va13, va14, va15, vb0, vb1, vb2, vb3, w_i8, w_u8, w_i16, w_u16, w_i32, w_u32, w_i64, w_u64, lt_T, lt_F, le_T, le_F, nlt_T, nlt_F, nle_T, nle_F, List.take_of_length_le, gB, gcW, gcR, posIn, renA, renL, Chunk.ren, Chunk.refs, evOpD, touchD, stepC, isFresh, nFresh, freshOf, mkR, hole, evL, evH, opd, get, putD, ofVal, cellOf, loadE, behind, lenE, idxAddrE, idxE, addPtr, intE, strE, unE, convE, AV.int, AV.bool, AV.str, ivs, take, frameOf, firstRegion, refsA, refsL, one, cellsA, floatOk, apartT, List.map, if_true, if_false, E_P, E_glob0, reduceCtorEq, beq_self_eq_true, decide_true, decide_false, ↓reduceIte, Nat.reduceEqDiff, cond_true, cond_false, or_true, true_or, or_false, false_or, and_true, true_and, and_self, false_and, and_false, not_true, not_false_iff, Nat.reduceAdd, Nat.reduceSub, Nat.reduceMul, Nat.reduceLT, Nat.reduceLeDiff, Int.reduceToNat, Int.reduceLT, Int.reduceLE, Option.getD, Int.reduceMul, Int.reduceAdd, List.drop, List.take, Nat.reduceBEq, List.isEmpty, Int.reduceEq, Int.reduceNe, Int.reduceNeg, Int.reduceGT, Int.reduceGE, beq_true, beq_false, UInt8.reduceToNat, eqE, eq_self, foldE, maxE, minE, eq_T, eq_F, ndec, odec, adec, sdec, fillA, over, chop, List.replicate, leavesOk, leafOk, cellsEq, cellEq, E_byref, en18, bs49, c2, ik29]; exact ⟨_, rfl⟩)
      · simp only [if_neg c1]
        by_cases c2 : st = 2
        · subst c2
          simp only [if_true]
          by_cases c3 : bu.length ≤ 257 <;> simp only [c3, decide_true, decide_false, Bool.true_and, Bool.false_and] <;> (rw [callT_eq Tryd.func18 rfl fok18 (by simp [Tryd.ntmps18])]; simp (disch := first | omega | (simp only [List.length_append, List.length_map, List.length_set, List.length_cons, List.length_nil, List.length_take, List.length_drop]; omega)) only [va0, va1, va2, va3, va4, va5, va6, va7, va8, va9, va10, va11, va12, va13, va14, va15, vb0, vb1, vb2, vb3, w_i8, w_u8, w_i16, w_u16, w_i32, w_u32, w_i64, w_u64, lt_T, lt_F, le_T, le_F, nlt_T, nlt_F, nle_T, nle_F, List.take_of_length_le, gB, gcW, gcR, posIn, renA, renL, Chunk.ren, Chunk.refs, evOpD, touchD, stepC, isFresh, nFresh, freshOf, mkR, hole, evL, evH, opd, get, putD, ofVal, cellOf, loadE, behind, lenE, idxAddrE, idxE, addPtr, intE, strE, unE, convE, AV.int, AV.bool, AV.str, ivs, take, frameOf, firstRegion, refsA, refsL, one, cellsA, floatOk, apartT, List.map, if_true, if_false, E_P, E_glob0, reduceCtorEq, beq_self_eq_true, decide_true, decide_false, ↓reduceIte, Nat.reduceEqDiff, cond_true, cond_false, or_true, true_or, or_false, false_or, and_true, true_and, and_self, false_and, and_false, not_true, not_false_iff, Nat.reduceAdd, Nat.reduceSub, Nat.reduceMul, Nat.reduceLT, Nat.reduceLeDiff, Int.reduceToNat, Int.reduceLT, Int.reduceLE, Option.getD, Int.reduceMul, Int.reduceAdd, List.drop, List.take, Nat.reduceBEq, List.isEmpty, Int.reduceEq, Int.reduceNe, Int.reduceNeg, Int.reduceGT, Int.reduceGE, beq_true, beq_false, UInt8.reduceToNat, eqE, eq_self, foldE, maxE, minE, eq_T, eq_F, ndec, odec, adec, sdec, fillA, over, chop, List.replicate, leavesOk, leafOk, cellsEq, cellEq, E_byref, en18, bs49, c3, ik29]; exact ⟨_, rfl⟩)
        · simp only [if_neg c2]
          by_cases c3 : st = 3
          · subst c3
            simp only [true_or, if_true]
            by_cases c4 : bu.length ≤ 256 <;> simp only [c4, decide_true, decide_false, Bool.true_and, Bool.false_and] <;> (rw [callT_eq Tryd.func18 rfl fok18 (by simp [Tryd.ntmps18])]; simp (disch := first | omega | (simp only [List.length_append, List.length_map, List.length_set, List.length_cons, List.length_nil, List.length_take, List.length_drop]; omega)) only [va0, va1, va2, va3, va4, va5, va6, va7, va8, va9, va10, va11, va12, va13, va14, va15, vb0, vb1, vb2, vb3, w_i8, w_u8, w_i16, w_u16, w_i32, w_u32, w_i64, w_u64, lt_T, lt_F, le_T, le_F, nlt_T, nlt_F, nle_T, nle_F, List.take_of_length_le, gB, gcW, gcR, posIn, renA, renL, Chunk.ren, Chunk.refs, evOpD, touchD, stepC, isFresh, nFresh, freshOf, mkR, hole, evL, evH, opd, get, putD, ofVal, cellOf, loadE, behind, lenE, idxAddrE, idxE, addPtr, intE, strE, unE, convE, AV.int, AV.bool, AV.str, ivs, take, frameOf, firstRegion, refsA, refsL, one, cellsA, floatOk, apartT, List.map, if_true, if_false, E_P, E_glob0, reduceCtorEq, beq_self_eq_true, decide_true, decide_false, ↓reduceIte, Nat.reduceEqDiff, cond_true, cond_false, or_true, true_or, or_false, false_or, and_true, true_and, and_self, false_and, and_false, not_true, not_false_iff, Nat.reduceAdd, Nat.reduceSub, Nat.reduceMul, Nat.reduceLT, Nat.reduceLeDiff, Int.reduceToNat, Int.reduceLT, Int.reduceLE, Option.getD, Int.reduceMul, Int.reduceAdd, List.drop, List.take, Nat.reduceBEq, List.isEmpty, Int.reduceEq, Int.reduceNe, Int.reduceNeg, Int.reduceGT, Int.reduceGE, beq_true, beq_false, UInt8.reduceToNat, eqE, eq_self, foldE, maxE, minE, eq_T, eq_F, ndec, odec, adec, sdec, fillA, over, chop, List.replicate, leavesOk, leafOk, cellsEq, cellEq, E_byref, en18, bs49, c4, ik29]; exact ⟨_, rfl⟩)
          · by_cases c4 : st = 4
            · subst c4
              simp only [or_true, if_true]
              by_cases c4 : bu.length ≤ 256 <;> simp only [c4, decide_true, decide_false, Bool.true_and, Bool.false_and] <;> (rw [callT_eq Tryd.func18 rfl fok18 (by simp [Tryd.ntmps18])]; simp (disch := first | omega | (simp only [List.length_append, List.length_map, List.length_set, List.length_cons, List.length_nil, List.length_take, List.length_drop]; omega)) only [va0, va1, va2, va3, va4, va5, va6, va7, va8, va9, va10, va11, va12, va13, va14, va15, vb0, vb1, vb2, vb3, w_i8, w_u8, w_i16, w_u16, w_i32, w_u32, w_i64, w_u64, lt_T, lt_F, le_T, le_F, nlt_T, nlt_F, nle_T, nle_F, List.take_of_length_le, gB, gcW, gcR, posIn, renA, renL, Chunk.ren, Chunk.refs, evOpD, touchD, stepC, isFresh, nFresh, freshOf, mkR, hole, evL, evH, opd, get, putD, ofVal, cellOf, loadE, behind, lenE, idxAddrE, idxE, addPtr, intE, strE, unE, convE, AV.int, AV.bool, AV.str, ivs, take, frameOf, firstRegion, refsA, refsL, one, cellsA, floatOk, apartT, List.map, if_true, if_false, E_P, E_glob0, reduceCtorEq, beq_self_eq_true, decide_true, decide_false, ↓reduceIte, Nat.reduceEqDiff, cond_true, cond_false, or_true, true_or, or_false, false_or, and_true, true_and, and_self, false_and, and_false, not_true, not_false_iff, Nat.reduceAdd, Nat.reduceSub, Nat.reduceMul, Nat.reduceLT, Nat.reduceLeDiff, Int.reduceToNat, Int.reduceLT, Int.reduceLE, Option.getD, Int.reduceMul, Int.reduceAdd, List.drop, List.take, Nat.reduceBEq, List.isEmpty, Int.reduceEq, Int.reduceNe, Int.reduceNeg, Int.reduceGT, Int.reduceGE, beq_true, beq_false, UInt8.reduceToNat, eqE, eq_self, foldE, maxE, minE, eq_T, eq_F, ndec, odec, adec, sdec, fillA, over, chop, List.replicate, leavesOk, leafOk, cellsEq, cellEq, E_byref, en18, bs49, c4, ik29]; exact ⟨_, rfl⟩)
            · simp only [c3, c4, or_self, if_false]
              (rw [callT_eq Tryd.func18 rfl fok18 (by simp [Tryd.ntmps18])]; simp (disch := first | omega | (simp only [List.length_append, List.length_map, List.length_set, List.length_cons, List.length_nil, List.length_take, List.length_drop]; omega)) only [va0, va1, va2, va3, va4, va5, va6, va7, va8, va9, va10, va11, va12, va13, va14, va15, vb0, vb1, vb2, vb3, w_i8, w_u8, w_i16, w_u16, w_i32, w_u32, w_i64, w_u64, lt_T, lt_F, le_T, le_F, nlt_T, nlt_F, nle_T, nle_F, List.take_of_length_le, gB, gcW, gcR, posIn, renA, renL, Chunk.ren, Chunk.refs, evOpD, touchD, stepC, isFresh, nFresh, freshOf, mkR, hole, evL, evH, opd, get, putD, ofVal, cellOf, loadE, behind, lenE, idxAddrE, idxE, addPtr, intE, strE, unE, convE, AV.int, AV.bool, AV.str, ivs, take, frameOf, firstRegion, refsA, refsL, one, cellsA, floatOk, apartT, List.map, if_true, if_false, E_P, E_glob0, reduceCtorEq, beq_self_eq_true, decide_true, decide_false, ↓reduceIte, Nat.reduceEqDiff, cond_true, cond_false, or_true, true_or, or_false, false_or, and_true, true_and, and_self, false_and, and_false, not_true, not_false_iff, Nat.reduceAdd, Nat.reduceSub, Nat.reduceMul, Nat.reduceLT, Nat.reduceLeDiff, Int.reduceToNat, Int.reduceLT, Int.reduceLE, Option.getD, Int.reduceMul, Int.reduceAdd, List.drop, List.take, Nat.reduceBEq, List.isEmpty, Int.reduceEq, Int.reduceNe, Int.reduceNeg, Int.reduceGT, Int.reduceGE, beq_true, beq_false, UInt8.reduceToNat, eqE, eq_self, foldE, maxE, minE, eq_T, eq_F, ndec, odec, adec, sdec, fillA, over, chop, List.replicate, leavesOk, leafOk, cellsEq, cellEq, E_byref, en18, bs49, c0, c1, c2, c3, c4, ik29]; exact ⟨_, rfl⟩)
theorem ik18 (p : Ps) (hp : p.pe.length < 40000) (hb : p.bu.length < 100000) (H : Hp) : isoK E (callT E) 18 [.agg (psC p)] H = some (.i (.v (.bool (properS p))), H) := isoK_val rfl rfl rfl (c18 p hp hb)
end Go.VI

namespace Go.VI
open Go.Proofs
set_option maxRecDepth 100000
set_option linter.unusedSimpArgs false
set_option linter.unusedVariables false
set_option maxHeartbeats 4000000
theorem beginS_mi : ∀ n : Nat, n < 256 → 0 ≤ (beginS n).mi ∧ (beginS n).mi ≤ 3 := by decide +kernel
theorem runD_gap : ∀ (l : List UInt8) (i : Nat) (d : Dec), (0 ≤ d.s.mi) → (d.s.mi = 0 ∨ (i : Int) - d.st + d.s.mi ≤ 4) →
    0 ≤ (runD l i d).s.mi ∧ ((runD l i d).s.mi = 0 ∨ ((i + l.length : Nat) : Int) - (runD l i d).st + (runD l i d).s.mi ≤ 4)
  | [], i, d, h0, h => by simpa [runD] using ⟨h0, h⟩
  | b :: l, i, d, h0, h => by
    have hb := beginS_mi b.toNat b.toNat_lt
    have key : 0 ≤ (stepD d i b.toNat).s.mi ∧ ((stepD d i b.toNat).s.mi = 0 ∨ ((i + 1 : Nat) : Int) - (stepD d i b.toNat).st + (stepD d i b.toNat).s.mi ≤ 4) := by
      unfold stepD
      split
      · rename_i hc
        obtain ⟨hc1, _, _⟩ := hc
        simp only
        omega
      · simp only; omega
    have ih := runD_gap l (i + 1) (stepD d i b.toNat) key.1 key.2
    simp only [runD, List.length_cons]
    rw [show i + (l.length + 1) = i + 1 + l.length by omega]
    exact ih
theorem decRest_len (t : List UInt8) : (decRest t).length ≤ 3 := by
  obtain ⟨h0, h⟩ := runD_gap t 0 ⟨sq0, [], 0⟩ (Int.le_refl _) (.inl rfl)
  obtain ⟨s0, s1⟩ := runD_st t 0 ⟨sq0, [], 0⟩ (Int.le_refl _) (Int.le_refl _)
  unfold decRest decD
  generalize runD t 0 ⟨sq0, [], 0⟩ = X at *
  split
  · simp
  · rename_i hne
    rw [List.length_drop]
    rcases h with h | h
    · exact absurd h hne
    · omega
def PsOK (p : Ps) : Prop := p.pe.length ≤ 3 ∧ p.bu.length ≤ 257
theorem plain_ok {p : Ps} (h : PsOK p) (b : UInt8) : PsOK (plainS p b).1 ∧ (plainS p b).2.length ≤ 8 := by
  have h1 := decRest_len (p.pe ++ [b])
  have h2 := decOut_len (p.pe ++ [b])
  have h3 := prints_len (decOut (p.pe ++ [b]))
  have h4 : (lostS p.pe).length ≤ 1 := by unfold lostS; split <;> simp
  simp only [List.length_append, List.length_cons, List.length_nil] at h2
  obtain ⟨h5, h6⟩ := h
  unfold plainS PsOK
  split
  · exact ⟨⟨h1, h6⟩, by simp only; omega⟩
  · split
    · exact ⟨by simp, by simp only; omega⟩
    · split
      · exact ⟨⟨by simp, h6⟩, by simp only; omega⟩
      · exact ⟨⟨by simp, h6⟩, by simp only [List.length_append, List.length_cons, List.length_nil]; omega⟩
theorem ok0 (st : Int) : PsOK ⟨st, [], []⟩ := ⟨by simp, by simp⟩
theorem common_ok {p : Ps} (h : PsOK p) (b : UInt8) {q : Ps × List Ev} (hq : commonS p b = some q) : PsOK q.1 ∧ q.2.length ≤ 8 := by
  unfold commonS at hq
  repeat' split at hq
  all_goals first | cases hq | skip
  all_goals first | exact ⟨ok0 _, by simp⟩ | exact ⟨h, by simp⟩ | exact plain_ok (ok0 _) b
theorem app_ok {p : Ps} (h : PsOK p) (b : UInt8) {m : Int} (hm : m ≤ 257) : PsOK (appS p b m) := by
  unfold appS PsOK
  refine ⟨h.1, ?_⟩
  simp only
  split
  · simp only [List.length_append, List.length_cons, List.length_nil]; omega
  · exact h.2
theorem escaped_ok {p : Ps} (h : PsOK p) (b : UInt8) : PsOK (escapedS p b).1 ∧ (escapedS p b).2.length ≤ 8 := by
  unfold escapedS
  cases hq : commonS p b with
  | some q => exact common_ok h b hq
  | none =>
    simp only
    repeat' split
    all_goals first | exact ⟨app_ok h b (by omega), by simp⟩ | exact ⟨ok0 _, by simp⟩
theorem sequenced_ok {p : Ps} (h : PsOK p) (b : UInt8) : PsOK (sequencedS p b).1 ∧ (sequencedS p b).2.length ≤ 8 := by
  unfold sequencedS
  cases hq : commonS p b with
  | some q => exact common_ok h b hq
  | none =>
    simp only
    repeat' split
    all_goals first | exact ⟨app_ok h b (by omega), by simp⟩ | exact ⟨ok0 _, by simp⟩
theorem commanded_ok {p : Ps} (h : PsOK p) (b : UInt8) : PsOK (commandedS p b).1 ∧ (commandedS p b).2.length ≤ 8 := by
  unfold commandedS
  repeat' split
  all_goals first | exact ⟨app_ok h b (by omega), by simp⟩ | exact ⟨ok0 _, by simp⟩ | exact ⟨h, by simp⟩
theorem read_ok {p : Ps} (h : PsOK p) (b : UInt8) : PsOK (readS p b).1 ∧ (readS p b).2.length ≤ 8 := by
  unfold readS
  split
  · exact plain_ok h b
  · split
    · split
      · exact ⟨ok0 _, by simp⟩
      · exact escaped_ok (ok0 _) b
    · split
      · exact escaped_ok h b
      · split
        · exact sequenced_ok h b
        · exact commanded_ok h b
theorem ascii_read (bu : List UInt8) (b : UInt8) (h1 : 32 ≤ (b.toNat : Int)) (h2 : (b.toNat : Int) < 127) : readS ⟨0, [], bu⟩ b = (⟨0, [], bu⟩, [prEv b.toNat]) := by
  have hb : decOut [b] = [(b.toNat : Int)] ∧ decRest [b] = [] := by
    have hm : (beginS b.toNat).mi = 0 := by
      have : ∀ n : Nat, n < 127 → (beginS n).mi = 0 := by decide +kernel
      exact this b.toNat (by omega)
    have : decD [b] = ⟨beginS b.toNat, [(b.toNat : Int)], 0⟩ := by
      have h0 : (⟨sq0, [], 0⟩ : Dec).s.mi = 0 := rfl
      have hA : (b.toNat : Int) < 128 := by omega
      simp only [decD, runD, stepD, h0, Int.lt_irrefl, false_and, if_false, hA, if_true, List.nil_append]
      rfl
    unfold decOut decRest
    rw [this]
    exact ⟨rfl, by rw [if_pos hm]⟩
  simp only [readS, if_true, plainS]
  rw [if_pos ⟨h1, by omega⟩]
  simp only [List.nil_append, hb]
  have : okR b.toNat = true := by simp [okR]; omega
  simp [prints, this]
def runF : List UInt8 → Ps → Ps × List Ev
  | [], p => (p, [])
  | b :: r, p => ((runF r (readS p b).1).1, (readS p b).2 ++ (runF r (readS p b).1).2)
theorem runF_len : ∀ (s : List UInt8) {p : Ps}, PsOK p → PsOK (runF s p).1 ∧ (runF s p).2.length ≤ 8 * s.length
  | [], p, h => ⟨h, by simp [runF]⟩
  | b :: r, p, h => by
    obtain ⟨h1, h2⟩ := read_ok h b
    obtain ⟨i1, i2⟩ := runF_len r h1
    refine ⟨i1, ?_⟩
    simp only [runF, List.length_append, List.length_cons]; omega
theorem isoK_rd1 {f : Nat} {x y z x' y' z' : IV} {args : List AV} {r : AV} {g g' n n' : Nat} {R R' : List (List IV)} {ex ex' : Bool} (he : E.ext f = none) (ha : refsL args = []) (hr : refsA r = [])
    (h : ∃ L, callT E f (.ptr 0 0 0 0 :: args) [.box [.i x, .i y, .i z, .ref 1 g 0 n], .sl 7 g R ex] = some (r, .box [.i x', .i y', .i z', .ref 1 g' 0 n'] :: .sl 7 g' R' ex' :: L)) (b0 : Chunk) (T : Hp) :
    isoK E (callT E) f (.ptr 1 0 0 0 :: args) (b0 :: .box [.i x, .i y, .i z, .ref 2 g 0 n] :: .sl 7 g R ex :: T) = some (r, b0 :: .box [.i x', .i y', .i z', .ref 2 g' 0 n'] :: .sl 7 g' R' ex' :: T) := by
  obtain ⟨L, h⟩ := h
  have ha2 : ∀ ρ, renL ρ args = args := fun ρ => (refs_ren ρ).2 args ha
  have hr2 : ∀ ρ, renA ρ r = r := fun ρ => (refs_ren ρ).1 r hr
  rw [isoK_R he]
  simp (disch := first | omega | (simp only [List.length_append, List.length_map, List.length_set, List.length_cons, List.length_nil, List.length_take, List.length_drop]; omega)) only [va0, va1, va2, va3, va4, va5, va6, va7, va8, va9, va10, va11, va12, va13, va14, va15, vb0, vb1, vb2, vb3, w_i8, w_u8, w_i16, w_u16, w_i32, w_u32, w_i64, w_u64, lt_T, lt_F, le_T, le_F, nlt_T, nlt_F, nle_T, nle_F, List.take_of_length_le, gB, gcW, gcR, posIn, renA, renL, Chunk.ren, Chunk.refs, evOpD, touchD, stepC, isFresh, nFresh, freshOf, mkR, hole, evL, evH, opd, get, putD, ofVal, cellOf, loadE, behind, lenE, idxAddrE, idxE, addPtr, intE, strE, unE, convE, AV.int, AV.bool, AV.str, ivs, take, frameOf, firstRegion, refsA, refsL, one, cellsA, floatOk, apartT, List.map, if_true, if_false, E_P, E_glob0, reduceCtorEq, beq_self_eq_true, decide_true, decide_false, ↓reduceIte, Nat.reduceEqDiff, cond_true, cond_false, or_true, true_or, or_false, false_or, and_true, true_and, and_self, false_and, and_false, not_true, not_false_iff, Nat.reduceAdd, Nat.reduceSub, Nat.reduceMul, Nat.reduceLT, Nat.reduceLeDiff, Int.reduceToNat, Int.reduceLT, Int.reduceLE, Option.getD, Int.reduceMul, Int.reduceAdd, List.drop, List.take, Nat.reduceBEq, List.isEmpty, Int.reduceEq, Int.reduceNe, Int.reduceNeg, Int.reduceGT, Int.reduceGE, beq_true, beq_false, UInt8.reduceToNat, eqE, eq_self, foldE, maxE, minE, eq_T, eq_F, ndec, odec, adec, sdec, fillA, over, chop, List.replicate, leavesOk, leafOk, cellsEq, cellEq, E_byref, tyaa, tyab, tyac, tyad, tyae, tyaf, tyag, tyah, tyai, tyaj, tyak, tyal, tyam, bs26, bs29, bs47, bs49, isoL, h, isoB_some, isoF, backRen, setAll, List.take_succ_cons, List.take_zero, ha, ha2, hr, hr2]
theorem ik19_e1 (a : Int) (b c : List UInt8) (g n : Nat) (l : List Ev) (k r cd v : Int) (i : List UInt8) (t : List UInt8) (hn : n = l.length) (hl : n < 1000000) (b0 : Chunk) (T : Hp) :
    isoK E (callT E) 19 [.ptr 1 0 0 0, .agg [.i (.v (.int .i64 k)), .i (.v (.int .i32 r)), .i (.v (.int .u8 cd)), .i (.v (.int .u8 v)), .i (.str i), .i (.sl 1 [] false), .i (.str t)]] (b0 :: .box [.i (.v (.int .i64 (a))), .i (.str (b)), .i (.str (c)), .ref 2 (g) 0 (n)] :: .sl 7 (g) (rowsEv l) false :: T) =
      some (.tup [], b0 :: .box [.i (.v (.int .i64 (a))), .i (.str (b)), .i (.str (c)), .ref 2 (g + 1) 0 (n + 1)] :: .sl 7 (g + 1) (rowsEv (l ++ [⟨k, r, cd, v, i, [], t⟩])) false :: T) := isoK_rd1 rfl rfl rfl (c19 a b c g n l k r cd v i [] t hn hl) b0 T
theorem ik20_1 (p : Ps) (b : UInt8) (g n : Nat) (l : List Ev) (hpe : p.pe.length < 40000) (hp : p.bu.length < 10000) (hn : n = l.length) (hl : n < 700000) (b0 : Chunk) (T : Hp) :
    isoK E (callT E) 20 [.ptr 1 0 0 0, .i (.v (.int .u8 b.toNat))] (b0 :: .box [.i (.v (.int .i64 (p.st))), .i (.str (p.pe)), .i (.str (p.bu)), .ref 2 (g) 0 (n)] :: .sl 7 (g) (rowsEv l) false :: T) = some (.tup [], b0 :: .box [.i (.v (.int .i64 ((readS p b).1.st))), .i (.str ((readS p b).1.pe)), .i (.str ((readS p b).1.bu)), .ref 2 (g + (readS p b).2.length) 0 (n + (readS p b).2.length)] :: .sl 7 (g + (readS p b).2.length) (rowsEv (l ++ (readS p b).2)) false :: T) := isoK_rd1 rfl rfl rfl (c20 p b g n l hpe hp hn hl) b0 T
theorem l10 (s : List UInt8) (hs : s.length < 5000) (k : Nat) (hk : k ≤ s.length) (p : Ps) (hp : PsOK p) (n : Nat) (l : List Ev) (hn : n = l.length) (hl : n ≤ 8 * k) :
    ∃ fr, rl E 0 10 (loopAt Tryd.f10 0) [(1, .i (.str s)), (4, .ptr 0 0 0 0), (6, .ptr 1 0 0 0), (7, .i (.v (.int .i64 k)))] (.box [.i (.v (.int .i64 0)), .i (.str []), .i (.str [])] :: .box [.i (.v (.int .i64 (p.st))), .i (.str (p.pe)), .i (.str (p.bu)), .ref 2 (0) 0 (n)] :: .sl 7 (0) (rowsEv (l)) false :: []) =
      some (.exit 0, fr, (.box [.i (.v (.int .i64 0)), .i (.str []), .i (.str [])] :: .box [.i (.v (.int .i64 ((runF (s.drop k) p).1.st))), .i (.str ((runF (s.drop k) p).1.pe)), .i (.str ((runF (s.drop k) p).1.bu)), .ref 2 (0) 0 (n + (runF (s.drop k) p).2.length)] :: .sl 7 (0) (rowsEv (l ++ (runF (s.drop k) p).2)) false :: [])) ∧ get 4 fr = .ptr 0 0 0 0 ∧ get 6 fr = .ptr 1 0 0 0 := by
  rw [rl_step (fn := Tryd.f10) (k := 0) rfl]
  by_cases hlt : k < s.length
  · have hb := byte_at hlt
    have b1 := s[k].toNat_lt
    rw [List.drop_eq_getElem_cons hlt, runF]
    obtain ⟨o1, o2⟩ := read_ok hp s[k]
    obtain ⟨fr, e, f4, f6⟩ := l10 s hs (k + 1) hlt (readS p s[k]).1 o1 (n + (readS p s[k]).2.length) (l ++ (readS p s[k]).2) (by simp; omega) (by omega)
    rw [List.append_assoc, Nat.add_assoc, ← List.length_append] at e
    refine ⟨fr, Eq.trans ?_ e, f4, f6⟩
    clear e f4 f6 o1 o2
    have hik := fun b0 T => ik20_1 p s[k] 0 n l (by have := hp.1; omega) (by have := hp.2; omega) hn (by omega) b0 T
    obtain ⟨st, pe, bu⟩ := p
    simp only at hik ⊢
    generalize s[k] = b at *
    by_cases c1 : st = 0
    · subst c1
      cases pe with
      | nil =>
        by_cases c2 : 32 ≤ (b.toNat : Int)
        · by_cases c3 : (b.toNat : Int) < 127
          · rw [ascii_read bu b c2 c3]
            simp only [List.length_cons, List.length_nil]
            simp (disch := first | omega | (simp only [List.length_append, List.length_map, List.length_set, List.length_cons, List.length_nil, List.length_take, List.length_drop]; omega)) only [va0, va1, va2, va3, va4, va5, va6, va7, va8, va9, va10, va11, va12, va13, va14, va15, vb0, vb1, vb2, vb3, w_i8, w_u8, w_i16, w_u16, w_i32, w_u32, w_i64, w_u64, lt_T, lt_F, le_T, le_F, nlt_T, nlt_F, nle_T, nle_F, List.take_of_length_le, gB, gcW, gcR, posIn, renA, renL, Chunk.ren, Chunk.refs, evOpD, touchD, stepC, isFresh, nFresh, freshOf, mkR, hole, evL, evH, opd, get, putD, ofVal, cellOf, loadE, behind, lenE, idxAddrE, idxE, addPtr, intE, strE, unE, convE, AV.int, AV.bool, AV.str, ivs, take, frameOf, firstRegion, refsA, refsL, one, cellsA, floatOk, apartT, List.map, if_true, if_false, E_P, E_glob0, reduceCtorEq, beq_self_eq_true, decide_true, decide_false, ↓reduceIte, Nat.reduceEqDiff, cond_true, cond_false, or_true, true_or, or_false, false_or, and_true, true_and, and_self, false_and, and_false, not_true, not_false_iff, Nat.reduceAdd, Nat.reduceSub, Nat.reduceMul, Nat.reduceLT, Nat.reduceLeDiff, Int.reduceToNat, Int.reduceLT, Int.reduceLE, Option.getD, Int.reduceMul, Int.reduceAdd, List.drop, List.take, Nat.reduceBEq, List.isEmpty, Int.reduceEq, Int.reduceNe, Int.reduceNeg, Int.reduceGT, Int.reduceGE, beq_true, beq_false, UInt8.reduceToNat, eqE, eq_self, foldE, maxE, minE, eq_T, eq_F, ndec, odec, adec, sdec, fillA, over, chop, List.replicate, leavesOk, leafOk, cellsEq, cellEq, E_byref, en10, hb, c2, c3, ik19_e1, show ∀ B fr H, execT E B 10 (Code.loop _) fr H = rlM E B 10 (loopAt Tryd.f10 0) [1, 4, 6, 7] [] (matF [] fr H).1 (matB [(6, 3, 7)] (matF [] fr H).1 (matF [] fr H).2) from fun B fr H => rl_introM rfl mt10_5 mb10_5 zf10_5 hd10_5 fr H]
            all_goals rfl
          · simp (disch := first | omega | (simp only [List.length_append, List.length_map, List.length_set, List.length_cons, List.length_nil, List.length_take, List.length_drop]; omega)) only [va0, va1, va2, va3, va4, va5, va6, va7, va8, va9, va10, va11, va12, va13, va14, va15, vb0, vb1, vb2, vb3, w_i8, w_u8, w_i16, w_u16, w_i32, w_u32, w_i64, w_u64, lt_T, lt_F, le_T, le_F, nlt_T, nlt_F, nle_T, nle_F, List.take_of_length_le, gB, gcW, gcR, posIn, renA, renL, Chunk.ren, Chunk.refs, evOpD, touchD, stepC, isFresh, nFresh, freshOf, mkR, hole, evL, evH, opd, get, putD, ofVal, cellOf, loadE, behind, lenE, idxAddrE, idxE, addPtr, intE, strE, unE, convE, AV.int, AV.bool, AV.str, ivs, take, frameOf, firstRegion, refsA, refsL, one, cellsA, floatOk, apartT, List.map, if_true, if_false, E_P, E_glob0, reduceCtorEq, beq_self_eq_true, decide_true, decide_false, ↓reduceIte, Nat.reduceEqDiff, cond_true, cond_false, or_true, true_or, or_false, false_or, and_true, true_and, and_self, false_and, and_false, not_true, not_false_iff, Nat.reduceAdd, Nat.reduceSub, Nat.reduceMul, Nat.reduceLT, Nat.reduceLeDiff, Int.reduceToNat, Int.reduceLT, Int.reduceLE, Option.getD, Int.reduceMul, Int.reduceAdd, List.drop, List.take, Nat.reduceBEq, List.isEmpty, Int.reduceEq, Int.reduceNe, Int.reduceNeg, Int.reduceGT, Int.reduceGE, beq_true, beq_false, UInt8.reduceToNat, eqE, eq_self, foldE, maxE, minE, eq_T, eq_F, ndec, odec, adec, sdec, fillA, over, chop, List.replicate, leavesOk, leafOk, cellsEq, cellEq, E_byref, en10, hb, c2, c3, hik, show ∀ B fr H, execT E B 10 (Code.loop _) fr H = rlM E B 10 (loopAt Tryd.f10 0) [1, 4, 6, 7] [] (matF [] fr H).1 (matB [(6, 3, 7)] (matF [] fr H).1 (matF [] fr H).2) from fun B fr H => rl_introM rfl mt10_5 mb10_5 zf10_5 hd10_5 fr H]
        · simp (disch := first | omega | (simp only [List.length_append, List.length_map, List.length_set, List.length_cons, List.length_nil, List.length_take, List.length_drop]; omega)) only [va0, va1, va2, va3, va4, va5, va6, va7, va8, va9, va10, va11, va12, va13, va14, va15, vb0, vb1, vb2, vb3, w_i8, w_u8, w_i16, w_u16, w_i32, w_u32, w_i64, w_u64, lt_T, lt_F, le_T, le_F, nlt_T, nlt_F, nle_T, nle_F, List.take_of_length_le, gB, gcW, gcR, posIn, renA, renL, Chunk.ren, Chunk.refs, evOpD, touchD, stepC, isFresh, nFresh, freshOf, mkR, hole, evL, evH, opd, get, putD, ofVal, cellOf, loadE, behind, lenE, idxAddrE, idxE, addPtr, intE, strE, unE, convE, AV.int, AV.bool, AV.str, ivs, take, frameOf, firstRegion, refsA, refsL, one, cellsA, floatOk, apartT, List.map, if_true, if_false, E_P, E_glob0, reduceCtorEq, beq_self_eq_true, decide_true, decide_false, ↓reduceIte, Nat.reduceEqDiff, cond_true, cond_false, or_true, true_or, or_false, false_or, and_true, true_and, and_self, false_and, and_false, not_true, not_false_iff, Nat.reduceAdd, Nat.reduceSub, Nat.reduceMul, Nat.reduceLT, Nat.reduceLeDiff, Int.reduceToNat, Int.reduceLT, Int.reduceLE, Option.getD, Int.reduceMul, Int.reduceAdd, List.drop, List.take, Nat.reduceBEq, List.isEmpty, Int.reduceEq, Int.reduceNe, Int.reduceNeg, Int.reduceGT, Int.reduceGE, beq_true, beq_false, UInt8.reduceToNat, eqE, eq_self, foldE, maxE, minE, eq_T, eq_F, ndec, odec, adec, sdec, fillA, over, chop, List.replicate, leavesOk, leafOk, cellsEq, cellEq, E_byref, en10, hb, c2, hik, show ∀ B fr H, execT E B 10 (Code.loop _) fr H = rlM E B 10 (loopAt Tryd.f10 0) [1, 4, 6, 7] [] (matF [] fr H).1 (matB [(6, 3, 7)] (matF [] fr H).1 (matF [] fr H).2) from fun B fr H => rl_introM rfl mt10_5 mb10_5 zf10_5 hd10_5 fr H]
      | cons y pe => simp (disch := first | omega | (simp only [List.length_append, List.length_map, List.length_set, List.length_cons, List.length_nil, List.length_take, List.length_drop]; omega)) only [va0, va1, va2, va3, va4, va5, va6, va7, va8, va9, va10, va11, va12, va13, va14, va15, vb0, vb1, vb2, vb3, w_i8, w_u8, w_i16, w_u16, w_i32, w_u32, w_i64, w_u64, lt_T, lt_F, le_T, le_F, nlt_T, nlt_F, nle_T, nle_F, List.take_of_length_le, gB, gcW, gcR, posIn, renA, renL, Chunk.ren, Chunk.refs, evOpD, touchD, stepC, isFresh, nFresh, freshOf, mkR, hole, evL, evH, opd, get, putD, ofVal, cellOf, loadE, behind, lenE, idxAddrE, idxE, addPtr, intE, strE, unE, convE, AV.int, AV.bool, AV.str, ivs, take, frameOf, firstRegion, refsA, refsL, one, cellsA, floatOk, apartT, List.map, if_true, if_false, E_P, E_glob0, reduceCtorEq, beq_self_eq_true, decide_true, decide_false, ↓reduceIte, Nat.reduceEqDiff, cond_true, cond_false, or_true, true_or, or_false, false_or, and_true, true_and, and_self, false_and, and_false, not_true, not_false_iff, Nat.reduceAdd, Nat.reduceSub, Nat.reduceMul, Nat.reduceLT, Nat.reduceLeDiff, Int.reduceToNat, Int.reduceLT, Int.reduceLE, Option.getD, Int.reduceMul, Int.reduceAdd, List.drop, List.take, Nat.reduceBEq, List.isEmpty, Int.reduceEq, Int.reduceNe, Int.reduceNeg, Int.reduceGT, Int.reduceGE, beq_true, beq_false, UInt8.reduceToNat, eqE, eq_self, foldE, maxE, minE, eq_T, eq_F, ndec, odec, adec, sdec, fillA, over, chop, List.replicate, leavesOk, leafOk, cellsEq, cellEq, E_byref, en10, hb, hik, show ∀ B fr H, execT E B 10 (Code.loop _) fr H = rlM E B 10 (loopAt Tryd.f10 0) [1, 4, 6, 7] [] (matF [] fr H).1 (matB [(6, 3, 7)] (matF [] fr H).1 (matF [] fr H).2) from fun B fr H => rl_introM rfl mt10_5 mb10_5 zf10_5 hd10_5 fr H]
    · simp (disch := first | omega | (simp only [List.length_append, List.length_map, List.length_set, List.length_cons, List.length_nil, List.length_take, List.length_drop]; omega)) only [va0, va1, va2, va3, va4, va5, va6, va7, va8, va9, va10, va11, va12, va13, va14, va15, vb0, vb1, vb2, vb3, w_i8, w_u8, w_i16, w_u16, w_i32, w_u32, w_i64, w_u64, lt_T, lt_F, le_T, le_F, nlt_T, nlt_F, nle_T, nle_F, List.take_of_length_le, gB, gcW, gcR, posIn, renA, renL, Chunk.ren, Chunk.refs, evOpD, touchD, stepC, isFresh, nFresh, freshOf, mkR, hole, evL, evH, opd, get, putD, ofVal, cellOf, loadE, behind, lenE, idxAddrE, idxE, addPtr, intE, strE, unE, convE, AV.int, AV.bool, AV.str, ivs, take, frameOf, firstRegion, refsA, refsL, one, cellsA, floatOk, apartT, List.map, if_true, if_false, E_P, E_glob0, reduceCtorEq, beq_self_eq_true, decide_true, decide_false, ↓reduceIte, Nat.reduceEqDiff, cond_true, cond_false, or_true, true_or, or_false, false_or, and_true, true_and, and_self, false_and, and_false, not_true, not_false_iff, Nat.reduceAdd, Nat.reduceSub, Nat.reduceMul, Nat.reduceLT, Nat.reduceLeDiff, Int.reduceToNat, Int.reduceLT, Int.reduceLE, Option.getD, Int.reduceMul, Int.reduceAdd, List.drop, List.take, Nat.reduceBEq, List.isEmpty, Int.reduceEq, Int.reduceNe, Int.reduceNeg, Int.reduceGT, Int.reduceGE, beq_true, beq_false, UInt8.reduceToNat, eqE, eq_self, foldE, maxE, minE, eq_T, eq_F, ndec, odec, adec, sdec, fillA, over, chop, List.replicate, leavesOk, leafOk, cellsEq, cellEq, E_byref, en10, hb, c1, hik, show ∀ B fr H, execT E B 10 (Code.loop _) fr H = rlM E B 10 (loopAt Tryd.f10 0) [1, 4, 6, 7] [] (matF [] fr H).1 (matB [(6, 3, 7)] (matF [] fr H).1 (matF [] fr H).2) from fun B fr H => rl_introM rfl mt10_5 mb10_5 zf10_5 hd10_5 fr H]
  · obtain rfl : k = s.length := by omega
    rw [List.drop_length, runF]
    simp (disch := first | omega | (simp only [List.length_append, List.length_map, List.length_set, List.length_cons, List.length_nil, List.length_take, List.length_drop]; omega)) only [va0, va1, va2, va3, va4, va5, va6, va7, va8, va9, va10, va11, va12, va13, va14, va15, vb0, vb1, vb2, vb3, w_i8, w_u8, w_i16, w_u16, w_i32, w_u32, w_i64, w_u64, lt_T, lt_F, le_T, le_F, nlt_T, nlt_F, nle_T, nle_F, List.take_of_length_le, gB, gcW, gcR, posIn, renA, renL, Chunk.ren, Chunk.refs, evOpD, touchD, stepC, isFresh, nFresh, freshOf, mkR, hole, evL, evH, opd, get, putD, ofVal, cellOf, loadE, behind, lenE, idxAddrE, idxE, addPtr, intE, strE, unE, convE, AV.int, AV.bool, AV.str, ivs, take, frameOf, firstRegion, refsA, refsL, one, cellsA, floatOk, apartT, List.map, if_true, if_false, E_P, E_glob0, reduceCtorEq, beq_self_eq_true, decide_true, decide_false, ↓reduceIte, Nat.reduceEqDiff, cond_true, cond_false, or_true, true_or, or_false, false_or, and_true, true_and, and_self, false_and, and_false, not_true, not_false_iff, Nat.reduceAdd, Nat.reduceSub, Nat.reduceMul, Nat.reduceLT, Nat.reduceLeDiff, Int.reduceToNat, Int.reduceLT, Int.reduceLE, Option.getD, Int.reduceMul, Int.reduceAdd, List.drop, List.take, Nat.reduceBEq, List.isEmpty, Int.reduceEq, Int.reduceNe, Int.reduceNeg, Int.reduceGT, Int.reduceGE, beq_true, beq_false, UInt8.reduceToNat, eqE, eq_self, foldE, maxE, minE, eq_T, eq_F, ndec, odec, adec, sdec, fillA, over, chop, List.replicate, leavesOk, leafOk, cellsEq, cellEq, E_byref, en10, List.append_nil, List.length_nil, Nat.add_zero, show ∀ B fr H, execT E B 10 (Code.loop _) fr H = rlM E B 10 (loopAt Tryd.f10 0) [1, 4, 6, 7] [] (matF [] fr H).1 (matB [(6, 3, 7)] (matF [] fr H).1 (matF [] fr H).2) from fun B fr H => rl_introM rfl mt10_5 mb10_5 zf10_5 hd10_5 fr H]
    exact ⟨_, rfl, rfl, rfl⟩
termination_by s.length - k
end Go.VI

namespace Go.VI
open Go.Proofs
set_option maxRecDepth 100000
set_option linter.unusedSimpArgs false
set_option linter.unusedVariables false
set_option maxHeartbeats 4000000
theorem proper_ok {p : Ps} (h : properS p = true) : PsOK p := by
  unfold properS at h
  split at h
  · simp only [Bool.and_eq_true, beq_iff_eq] at h
    obtain ⟨⟨h1, _⟩, h2⟩ := h
    have := decRest_len p.pe
    rw [h2] at this
    exact ⟨this, by rw [h1]; simp⟩
  · split at h
    · rename_i hpe
      refine ⟨by rw [hpe]; simp, ?_⟩
      repeat' split at h
      all_goals simp only [Bool.and_eq_true, decide_eq_true_eq, Bool.false_eq_true] at h
      all_goals omega
    · cases h
def p0 : Ps := ⟨0, [], []⟩
def startS (p : Ps) : Ps := if properS p = true then p else p0
theorem start_ok (p : Ps) : PsOK (startS p) := by
  unfold startS; split
  · rename_i h; exact proper_ok h
  · exact ok0 _
def feedS (p : Ps) (s : List UInt8) : Ps × List Ev := runF s (startS p)
def feedA (q : Ps × List Ev) : AV := .tup [.agg (psC q.1), .i (.sl 7 (rowsEv q.2) false)]
theorem c10 (p : Ps) (hp : p.pe.length < 40000) (hb : p.bu.length < 100000) (s : List UInt8) (hs : (s.length : Int) < 5000) : ∃ L, callT E 10 [.agg (psC p), .i (.str s)] [] = some (feedA (feedS p s), L) := by
  have hik := fun H => ik18 p hp hb H
  obtain ⟨fr, e, f4, f6⟩ := l10 s (by omega) 0 (Nat.zero_le _) (startS p) (start_ok p) 0 [] rfl (Nat.zero_le _)
  have hlen := (runF_len s (start_ok p)).2
  rw [List.drop_zero] at e
  unfold feedS feedA
  unfold startS at *
  have hrl := rowsEv_len (runF s (if properS p = true then p else p0)).2
  obtain ⟨st, pe, bu⟩ := p
  cases hpr : properS ⟨st, pe, bu⟩ with
  | true =>
    rw [hpr] at hik
    simp only [hpr, if_true] at e ⊢ hlen hrl
    simp only [psC, List.nil_append, Nat.zero_add, Int.natCast_zero] at e ⊢ hik
    generalize (runF s ⟨st, pe, bu⟩).1 = q at *
    generalize (runF s ⟨st, pe, bu⟩).2 = ev at *
    have e' : rl E 0 10 (loopAt Tryd.f10 0) [(1, .i (.str s)), (4, .ptr 0 0 0 0), (6, .ptr 1 0 0 0), (7, .i (.v (.int .i64 0)))] (.box [.i (.v (.int .i64 0)), .i (.str []), .i (.str [])] :: .box [.i (.v (.int .i64 ((⟨st, pe, bu⟩ : Ps).st))), .i (.str ((⟨st, pe, bu⟩ : Ps).pe)), .i (.str ((⟨st, pe, bu⟩ : Ps).bu)), .ref 2 (0) 0 (0)] :: .sl 7 (0) (rowsEv ([])) false :: []) = _ := e
    have hz : rowsEv [] = [] := rfl
    simp only [hz] at e'
    rw [callT_eq Tryd.func10 rfl fok10 (by simp [Tryd.ntmps10])]
    simp (disch := first | omega | (simp only [List.length_append, List.length_map, List.length_set, List.length_cons, List.length_nil, List.length_take, List.length_drop, hrl]; omega)) only [va0, va1, va2, va3, va4, va5, va6, va7, va8, va9, va10, va11, va12, va13, va14, va15, vb0, vb1, vb2, vb3, w_i8, w_u8, w_i16, w_u16, w_i32, w_u32, w_i64, w_u64, lt_T, lt_F, le_T, le_F, nlt_T, nlt_F, nle_T, nle_F, List.take_of_length_le, gB, gcW, gcR, posIn, renA, renL, Chunk.ren, Chunk.refs, evOpD, touchD, stepC, isFresh, nFresh, freshOf, mkR, hole, evL, evH, opd, get, putD, ofVal, cellOf, loadE, behind, lenE, idxAddrE, idxE, addPtr, intE, strE, unE, convE, AV.int, AV.bool, AV.str, ivs, take, frameOf, firstRegion, refsA, refsL, one, cellsA, floatOk, apartT, List.map, if_true, if_false, E_P, E_glob0, reduceCtorEq, beq_self_eq_true, decide_true, decide_false, ↓reduceIte, Nat.reduceEqDiff, cond_true, cond_false, or_true, true_or, or_false, false_or, and_true, true_and, and_self, false_and, and_false, not_true, not_false_iff, Nat.reduceAdd, Nat.reduceSub, Nat.reduceMul, Nat.reduceLT, Nat.reduceLeDiff, Int.reduceToNat, Int.reduceLT, Int.reduceLE, Option.getD, Int.reduceMul, Int.reduceAdd, List.drop, List.take, Nat.reduceBEq, List.isEmpty, Int.reduceEq, Int.reduceNe, Int.reduceNeg, Int.reduceGT, Int.reduceGE, beq_true, beq_false, UInt8.reduceToNat, eqE, eq_self, foldE, maxE, minE, eq_T, eq_F, ndec, odec, adec, sdec, fillA, over, chop, List.replicate, leavesOk, leafOk, cellsEq, cellEq, E_byref, en10, hik, e', f4, f6, List.take_of_length_le, show ∀ B fr H, execT E B 10 (Code.loop _) fr H = rlM E B 10 (loopAt Tryd.f10 0) [1, 4, 6, 7] [] (matF [] fr H).1 (matB [(6, 3, 7)] (matF [] fr H).1 (matF [] fr H).2) from fun B fr H => rl_introM rfl mt10_5 mb10_5 zf10_5 hd10_5 fr H]
    exact ⟨_, rfl⟩
  | false =>
    rw [hpr] at hik
    simp only [hpr, Bool.false_eq_true, if_false] at e ⊢ hlen hrl
    simp only [psC, List.nil_append, Nat.zero_add, Int.natCast_zero] at e ⊢ hik
    generalize (runF s p0).1 = q at *
    generalize (runF s p0).2 = ev at *
    have e' : rl E 0 10 (loopAt Tryd.f10 0) [(1, .i (.str s)), (4, .ptr 0 0 0 0), (6, .ptr 1 0 0 0), (7, .i (.v (.int .i64 0)))] (.box [.i (.v (.int .i64 0)), .i (.str []), .i (.str [])] :: .box [.i (.v (.int .i64 ((⟨0, [], []⟩ : Ps).st))), .i (.str ((⟨0, [], []⟩ : Ps).pe)), .i (.str ((⟨0, [], []⟩ : Ps).bu)), .ref 2 (0) 0 (0)] :: .sl 7 (0) (rowsEv ([])) false :: []) = _ := e
    have hz : rowsEv [] = [] := rfl
    simp only [hz] at e'
    rw [callT_eq Tryd.func10 rfl fok10 (by simp [Tryd.ntmps10])]
    simp (disch := first | omega | (simp only [List.length_append, List.length_map, List.length_set, List.length_cons, List.length_nil, List.length_take, List.length_drop, hrl]; omega)) only [va0, va1, va2, va3, va4, va5, va6, va7, va8, va9, va10, va11, va12, va13, va14, va15, vb0, vb1, vb2, vb3, w_i8, w_u8, w_i16, w_u16, w_i32, w_u32, w_i64, w_u64, lt_T, lt_F, le_T, le_F, nlt_T, nlt_F, nle_T, nle_F, List.take_of_length_le, gB, gcW, gcR, posIn, renA, renL, Chunk.ren, Chunk.refs, evOpD, touchD, stepC, isFresh, nFresh, freshOf, mkR, hole, evL, evH, opd, get, putD, ofVal, cellOf, loadE, behind, lenE, idxAddrE, idxE, addPtr, intE, strE, unE, convE, AV.int, AV.bool, AV.str, ivs, take, frameOf, firstRegion, refsA, refsL, one, cellsA, floatOk, apartT, List.map, if_true, if_false, E_P, E_glob0, reduceCtorEq, beq_self_eq_true, decide_true, decide_false, ↓reduceIte, Nat.reduceEqDiff, cond_true, cond_false, or_true, true_or, or_false, false_or, and_true, true_and, and_self, false_and, and_false, not_true, not_false_iff, Nat.reduceAdd, Nat.reduceSub, Nat.reduceMul, Nat.reduceLT, Nat.reduceLeDiff, Int.reduceToNat, Int.reduceLT, Int.reduceLE, Option.getD, Int.reduceMul, Int.reduceAdd, List.drop, List.take, Nat.reduceBEq, List.isEmpty, Int.reduceEq, Int.reduceNe, Int.reduceNeg, Int.reduceGT, Int.reduceGE, beq_true, beq_false, UInt8.reduceToNat, eqE, eq_self, foldE, maxE, minE, eq_T, eq_F, ndec, odec, adec, sdec, fillA, over, chop, List.replicate, leavesOk, leafOk, cellsEq, cellEq, E_byref, en10, hik, e', f4, f6, List.take_of_length_le, show ∀ B fr H, execT E B 10 (Code.loop _) fr H = rlM E B 10 (loopAt Tryd.f10 0) [1, 4, 6, 7] [] (matF [] fr H).1 (matB [(6, 3, 7)] (matF [] fr H).1 (matF [] fr H).2) from fun B fr H => rl_introM rfl mt10_5 mb10_5 zf10_5 hd10_5 fr H]
    exact ⟨_, rfl⟩
theorem ik10 (p : Ps) (hp : p.pe.length < 40000) (hb : p.bu.length < 100000) (s : List UInt8) (hs : (s.length : Int) < 5000) (H : Hp) : isoK E (callT E) 10 [.agg (psC p), .i (.str s)] H = some (feedA (feedS p s), H) := isoK_val rfl rfl rfl (c10 p hp hb s hs)
end Go.VI

namespace Go.VI
open Go.Proofs
set_option maxRecDepth 100000
set_option linter.unusedSimpArgs false
set_option linter.unusedVariables false
set_option maxHeartbeats 4000000
theorem proper_zero (k : Int) (h : 0 ≤ k ∧ k ≤ 3) : properS ⟨k, [], []⟩ = true := by
  have : k = 0 ∨ k = 1 ∨ k = 2 ∨ k = 3 := by omega
  rcases this with rfl | rfl | rfl | rfl <;> simp [properS, decOut, decRest, decD, runD, sq0]
theorem outB_f {lo hi : Int} {b : UInt8} (h1 : lo ≤ b.toNat) (h2 : (b.toNat : Int) ≤ hi) : outB lo hi b = false := by simp [outB]; omega
theorem start_of {p : Ps} (h : properS p = true) : startS p = p := by unfold startS; rw [if_pos h]
theorem runF_app : ∀ (a b : List UInt8) (p : Ps), runF (a ++ b) p = ((runF b (runF a p).1).1, (runF a p).2 ++ (runF b (runF a p).1).2)
  | [], b, p => by simp [runF]
  | x :: a, b, p => by
    have ih := runF_app a b (readS p x).1
    simp only [List.cons_append, runF, ih, List.append_assoc]
end Go.VI

set_option linter.unusedSimpArgs false
set_option linter.unusedVariables false
namespace Go.VI
open Go.Proofs Go.Shelf Go.RowKit Go.Sort Go.Lib
variable {E : Env} {ρ : Ren} {I : Imm} {η : Eta} {H : Hp} {w : World}

theorem wpList_append_vi {ops : Array Oper} {rest : List Oper} {o : Oper} {a : Act} {Q : Exit → Act → World → Prop} (hgd : o.guard = none) (s x : Operand) (t t2 : TypeId)
    (ho : o.op = .call { callee := .builtin .append, args := #[s, x], argTypes := #[t, t2] }) {sa xa v : AV} {H' : Hp} (h : appendE E H t t2 sa xa = some (v, H')) (hC : Conc E I η H w)
    (ys yx : Value) (hs : a.eval s = ys) (hx : a.eval x = yx) (rs : RelA I η H sa ys) (rx : RelA I η H xa yx)
    (k : ∀ u w' I' η', Conc E I' η' H' w' → Trans I η w I' η' w' → Mono I η H I' η' H' → RelA I' η' H' v u → wpList E.P ops Q rest (a.put o.dst u) w') : wpList E.P ops Q (o :: rest) a w :=
  wpList_plain hgd fun _ hK => by
    obtain ⟨u, w', hr, I', η', k1, k2, k3, k4⟩ := append_ok (ty := o.type) hC h rs rx
    unfold Oper.wp execOp
    simp only [ho, resolve, invoke, builtin, Sem.run_bind, Sem.run_pure, Result.andThen_ok, List.map_toArray, List.map_cons, List.map_nil, hs, hx, hr]
    exact hK _ _ (k u w' I' η' k1 k2 k3 k4)

theorem conc_new (hC : Conc E I η H w) {w2 : World} {cs : Array Value} {elem : TypeId} {fz : Nat × Nat} (ho : w2.os = w.os) (ht : w2.tape = w.tape) (hu : w2.output = w.output) (hsz : w.heap.size < w2.heap.size)
    (hold : ∀ b, b < w.heap.size → w2.heap[b]? = w.heap[b]?) (hnew : w2.heap[w.heap.size]? = some (.cells cs elem fz)) :
    ∃ I', Conc E I' η H w2 ∧ Trans I η w I' η w2 ∧ Mono I η H I' η H ∧ I' w.heap.size = some (.cells cs elem fz) := by
  have hI0 : I w.heap.size = none := by
    cases hI : I w.heap.size with
    | none => rfl
    | some o => have := hC.imm _ _ hI; simp at this
  let I' : Imm := fun b => if b = w.heap.size then some (.cells cs elem fz) else I b
  have hle : I.le I' := by
    intro b o hb
    have : b ≠ w.heap.size := fun e => by rw [e, hI0] at hb; cases hb
    simp only [I', if_neg this, hb]
  have hm : Mono I η H I' η H := mono_of hle (Nat.le_refl _) fun c hc => CStep.same rfl rfl
  refine ⟨I', ⟨fun b o hb => ?_, fun c x hx => (hC.ch c x hx).mono rfl hle hm fun b n h => hold b (hC.sep _ _ _ h).2.1, hC.inj, fun c b n h => ?_, fun g cells hg => (hC.glob g cells hg).mono hle⟩,
    ⟨ho, ht, hu, Nat.le_of_lt hsz, fun b hb _ => hold b hb, hle, fun b hb => ?_, fun c b n h => .inr ⟨_, _, h⟩⟩, hm, by simp [I']⟩
  · by_cases e : b = w.heap.size
    · subst e; simp only [I', if_true, Option.some.injEq] at hb; rw [hnew, hb]
    · simp only [I', if_neg e] at hb
      have := hC.imm b o hb
      rw [hold b (Array.getElem?_eq_some_iff.1 this).1]; exact this
  · obtain ⟨h1, h2, h3⟩ := hC.sep _ _ _ h
    exact ⟨by simp only [I', if_neg (show b ≠ w.heap.size by omega), h1], by omega, h3⟩
  · by_cases e : b = w.heap.size
    · exact .inr (.inl (by omega))
    · simp only [I', if_neg e] at hb; exact .inl hb

theorem app_bytes {t t2 : TypeId} {s r : AV} {H' : Hp} {l : List UInt8} {ex : Bool} (ht : ∃ e, slO E.P t = some e) (h : appendE E H t t2 s (.i (.str l)) = some (r, H')) :
    appendE E H t t s (.i (.sl 1 (l.map fun b => [IV.v (.int .u8 b.toNat)]) ex)) = some (r, H') := by
  obtain ⟨e, he⟩ := ht
  unfold appendE at h ⊢
  rw [he] at h ⊢
  simp only [srcE, rowsE] at h ⊢
  simp only [he, Option.isSome_some, true_or, true_and]
  split at h
  · rename_i z b zv z' new ex' h1 h2 h3 h4
    simp only [Option.some.injEq, Prod.mk.injEq] at h4
    obtain ⟨rfl, rfl, rfl⟩ := h4
    simp only [h1, h2, h3]
    split at h
    · rename_i hc
      obtain ⟨c1, c2, c3, c4, c5, c6⟩ := hc
      rw [if_pos ⟨c1, c2, c3, c5, c6⟩]
      exact h
    · cases h
  · cases h

theorem powT_cell {g : Nat} (hC : Conc E I η H w) (hg : E.glob g = some powT) (j : Nat) (hj : j < 20) : w.cell? ⟨g, j, none⟩ = some (.int .u64 (Lib.pow10Tab.getD j 0)) := by
  have h := hC.glob g _ hg
  generalize hc : powT = cells at h
  generalize hp : Value.pointer (some ⟨g, 0, none⟩) = p at h
  cases h with
  | pt _ _ b off cs elem fz cv hI h1 h2 =>
    simp at hp
    obtain ⟨rfl, h0⟩ := hp
    subst hc
    have hjl : powT[j]? = some (.v (.int .u64 (Lib.pow10Tab.getD j 0))) := by
      have : j < Lib.pow10Tab.length := by rw [Lib.pow10Tab_length]; exact hj
      simp [powT, List.getD, this]
    have e1 := h1 j _ hjl
    have e2 := h2 j _ hjl
    generalize cv j = q at e1 e2
    cases e2 with
    | v x hx =>
      have e0 : off = 0 := by omega
      subst e0
      rw [Nat.zero_add] at e1
      simp [World.cell?, hC.imm _ _ hI, e1]
end Go.VI

set_option linter.unusedSimpArgs false
set_option linter.unusedVariables false
namespace Go.VI
open Go.Proofs Go.Shelf Go.RowKit Go.Sort Go.Lib
variable {E : Env} {ρ : Ren} {I : Imm} {η : Eta} {H : Hp} {w : World}

set_option maxHeartbeats 2000000 in
set_option maxRecDepth 100000 in
theorem vi_numDigits {P : Program} (L : LaysM.n284 P ρ) (u : Nat) (h1 : 1 ≤ u) (h2 : u < 18446744073709551616) (w : World)
    (htab : ∀ j, j < 20 → w.cell? ⟨ρ.g 17, j, none⟩ = some (.int .u64 (Lib.pow10Tab.getD j 0))) :
    Calls P (ρ.f 284) #[.int .u64 u] w fun e w' => e = .returned (.int .i64 (Lib.nDigits u)) ∧ w' = w := by
  have mixed := L.mixed
  have t53 := L.t53; have a53 := L.a53; have z53 := L.z53; have v53 := L.v53
  have t3 := L.t3; have a3 := L.a3; have z3 := L.z3; have v3 := L.v3
  have t212 := L.t212; have a212 := L.a212; have z212 := L.z212; have v212 := L.v212
  have t0 := L.t0; have a0 := L.a0; have z0 := L.z0; have v0 := L.v0
  have t4 := L.t4; have a4 := L.a4; have z4 := L.z4; have v4 := L.v4
  have e129 : ∀ args w, (callFunc (ρ.f 129) args).run P w = .ok (.enter (ρ.f 129) args) w := enters_of L.f129 (by kernel_rfl) rfl
  have e317 : ∀ args w, (callFunc (ρ.f 317) args).run P w = .ok (.enter (ρ.f 317) args) w := enters_of L.f317 (by kernel_rfl) rfl
  have e318 : ∀ args w, (callFunc (ρ.f 318) args).run P w = .ok (.enter (ρ.f 318) args) w := enters_of L.f318 (by kernel_rfl) rfl
  obtain ⟨hnd, h19⟩ := Lib.numDigits_eq u h1 h2
  have hL : Lib.bitLen u ≤ 64 := Lib.bitLen_le u 64 (Nat.le_refl _) h2
  have hcell : w.cell? ⟨(ρ.g 17), Lib.l10 (Lib.bitLen u), none⟩ = some (.int .u64 ((10 ^ Lib.l10 (Lib.bitLen u) : Nat) : Int)) := by
    rw [htab _ (by omega), Lib.pow10Tab_at _ (by omega)]
  have hto : ((u : Int)).toNat = u := by omega
  generalize hq : Lib.l10 (Lib.bitLen u) = q at hnd h19 hcell
  generalize hT : 10 ^ q = T at hnd hcell
  have h20 : q < 20 := by omega
  have Hnd := Lib.hid hnd
  clear hnd htab
  go_enter L.f284, Body.n284_ntmps ρ
  go_wp2_with (first
    | (go_at_fn (ρ.f 129); refine (Any.bits_Len64 { L with } _ _ (by omega) (by omega)).mono ?_; rintro e w' ⟨rfl, rfl⟩)
    | (go_at_fn (ρ.f 317); refine (Any.internal_strconv_log10Pow2 { L with } _ (by first | exact hL | (rw [hto]; exact hL)) _).mono ?_; rintro e w' ⟨rfl, rfl⟩)
    | (go_at_fn (ρ.f 318); refine (Any.internal_strconv_bool2_int { L with } _ _).mono ?_; rintro e w' ⟨rfl, rfl⟩))
  all_goals go_ret
  all_goals (
    refine ⟨?_, rfl⟩
    have hnd := Hnd.out
    congr 2
    split at hnd <;> simp_all <;> omega)

set_option maxHeartbeats 6400000 in
set_option maxRecDepth 100000 in
theorem vi_AppendUint_small (L : LaysM.n288 E.P ρ) (u : Nat) (hu : u < 100) (hC : Conc E I η H w) {s r : AV} {H' : Hp} {sv : Value} (rs : RelA I η H s sv)
    (h : appendE E H (ρ.t 37) (ρ.t 9) s (.i (.str (Lib.decDigits u))) = some (r, H')) :
    Calls E.P (ρ.f 288) #[sv, .int .u64 u, .int .i64 10] w fun e w' => ∃ x, e = .returned x ∧ After E I η H w H' w' fun I' η' => RelA I' η' H' r x := by
  have mixed := L.mixed
  have t5 := L.t5; have a5 := L.a5; have z5 := L.z5; have v5 := L.v5
  have t37 := L.t37; have u37 := run_underlying L.t37; have a37 := L.a37; have z37 := L.z37; have v37 := L.v37
  have t53 := L.t53; have a53 := L.a53; have z53 := L.z53; have v53 := L.v53
  have t3 := L.t3; have a3 := L.a3; have z3 := L.z3; have v3 := L.v3
  have t4 := L.t4; have a4 := L.a4; have z4 := L.z4; have v4 := L.v4
  have t9 := L.t9; have a9 := L.a9; have z9 := L.z9; have v9 := L.v9
  have t171 := L.t171; have a171 := L.a171; have z171 := L.z171; have v171 := L.v171
  have t0 := L.t0; have a0 := L.a0; have z0 := L.z0; have v0 := L.v0
  have t173 := L.t173; have a173 := L.a173; have z173 := L.z173; have v173 := L.v173
  have e283 : ∀ args w, (callFunc (ρ.f 283) args).run E.P w = .ok (.enter (ρ.f 283) args) w := enters_of L.f283 (by kernel_rfl) rfl
  go_enter L.f288, Body.n288_ntmps ρ
  go_wp2_with (first
    | (go_at_fn (ρ.f 283); refine (Any.internal_strconv_small { L with } u hu _).mono ?_; rintro e w' ⟨rfl, rfl⟩)
    | (at_builtin; refine wpList_append_vi rfl _ _ (ρ.t 37) (ρ.t 9) rfl h hC _ _ rfl rfl rs (.i _ _ (.str _)) ?_))
  intro x w1 I1 η1 hC1 hT1 hm1 hr1
  go_wp2
  go_ret
  exact ⟨x, rfl, I1, η1, hC1, hT1, hm1, hr1⟩

set_option maxHeartbeats 12800000 in
set_option maxRecDepth 100000 in
theorem vi_AppendUint_big (L : LaysM.n288 E.P ρ) (u : Nat) (hu : 100 ≤ u) (hu64 : u < 18446744073709551616) (hC : Conc E I η H w) {s r : AV} {H' : Hp} {sv : Value} (rs : RelA I η H s sv)
    (htab : ∀ j, j < 20 → w.cell? ⟨ρ.g 17, j, none⟩ = some (.int .u64 (Lib.pow10Tab.getD j 0)))
    (h : appendE E H (ρ.t 37) (ρ.t 9) s (.i (.str (Lib.decDigits u))) = some (r, H')) :
    Calls E.P (ρ.f 288) #[sv, .int .u64 u, .int .i64 10] w fun e w' => ∃ x, e = .returned x ∧ After E I η H w H' w' fun I' η' => RelA I' η' H' r x := by
  have mixed := L.mixed
  have t5 := L.t5; have a5 := L.a5; have z5 := L.z5; have v5 := L.v5
  have t37 := L.t37; have u37 := run_underlying L.t37; have a37 := L.a37; have z37 := L.z37; have v37 := L.v37
  have t53 := L.t53; have a53 := L.a53; have z53 := L.z53; have v53 := L.v53
  have t3 := L.t3; have a3 := L.a3; have z3 := L.z3; have v3 := L.v3
  have t4 := L.t4; have a4 := L.a4; have z4 := L.z4; have v4 := L.v4
  have t9 := L.t9; have a9 := L.a9; have z9 := L.z9; have v9 := L.v9
  have t171 := L.t171; have a171 := L.a171; have z171 := L.z171; have v171 := L.v171
  have t0 := L.t0; have a0 := L.a0; have z0 := L.z0; have v0 := L.v0
  have t173 := L.t173; have a173 := L.a173; have z173 := L.z173; have v173 := L.v173
  have e284 : ∀ args w, (callFunc (ρ.f 284) args).run E.P w = .ok (.enter (ρ.f 284) args) w := enters_of L.f284 (by kernel_rfl) rfl
  have e285 : ∀ args w, (callFunc (ρ.f 285) args).run E.P w = .ok (.enter (ρ.f 285) args) w := enters_of L.f285 (by kernel_rfl) rfl
  have hu1 : 1 ≤ u := by omega
  have hnd20 : Lib.nDigits u ≤ 20 := by have := Lib.numDigits_eq u hu1 hu64; split at this <;> omega
  have hal : E.P.arrayLen (ρ.t 171) = 24 := by simp [Program.arrayLen, L.t171]
  have hsl : ∀ W, (Instr.sliceAt (ρ.t 171) (.pointer (some ⟨w.heap.size, 0, none⟩)) none (some (.int .i64 (Lib.nDigits u : Int))) none).run E.P W = .ok (.slice (some ⟨w.heap.size, 0, none⟩) (Lib.nDigits u) 24) W := fun W => by
    rw [run_sliceAt_array_h W (ρ.t 171) ⟨w.heap.size, 0, none⟩ (by simp [Program.arrayLen, Program.elem, L.t171]) .i64 (Lib.nDigits u : Int) (by omega) (by rw [hal]; omega)]
    go_simp
  have hH0 := Lib.holds_zero0 w (ρ.t 171) (Lib.nDigits u) (by omega)
  have hfmt := Any.internal_strconv_formatBase10 { L with } w.heap.size 0 24 u (Array.replicate (Lib.nDigits u) 0) (w.alloc (.cells Lib.zeros24 (ρ.t 171))) hH0 (by rw [Array.size_replicate]; exact Lib.lt_pow_nDigits u) hu64 (by rw [Array.size_replicate]; omega)
  rw [Array.size_replicate] at hfmt
  have HH0 := Lib.hid hH0
  have iu : (100 : Int) ≤ (u : Int) := by omega
  have htab1 : ∀ o : Obj, ∀ j, j < 20 → (w.alloc o).cell? ⟨ρ.g 17, j, none⟩ = some (.int .u64 (Lib.pow10Tab.getD j 0)) := fun o j hj => by
    have h0 := htab j hj
    have hlt := World.block_lt_of_cell? w _ h0
    rw [World.cell?_of_block (RowKit.Below.heap_alloc w o _ hlt)]
    exact h0
  clear hH0 hal
  go_enter L.f288, Body.n288_ntmps ρ
  go_wp2_with (first
    | (go_at_fn (ρ.f 284); refine (vi_numDigits { L with } u hu1 hu64 _ (htab1 _)).mono ?_; rintro e w' ⟨rfl, rfl⟩))
  go_at_fn (ρ.f 285)
  refine hfmt.mono ?_
  rintro e w' ⟨rfl, k, v', dk, rfl, hF⟩
  have hcells : ∀ j u', (Lib.byteCells (Lib.decDigits u))[j]? = some u' → ((putRow (fun (b : UInt8) => Value.int .u8 (b.toNat : Int)) (w.alloc (.cells Lib.zeros24 (ρ.t 171))) w.heap.size 0 dk).drewN k).cell? ((⟨w.heap.size, 0, none⟩ : Addr).add j) = some u' := by
    intro j u' hj
    have hjl : j < (Lib.decDigits u).length := by
      have h5 := (List.getElem?_eq_some_iff.1 hj).1
      rwa [Lib.byteCells_length] at h5
    have e5 : (Lib.byteCells (Lib.decDigits u))[j]? = some (Value.int .u8 ((Lib.decDigits u)[j].toNat : Int)) := by simp [Lib.byteCells, hjl]
    rw [e5] at hj
    cases hj
    rw [Lib.row_is_numeral hF j hjl, Lib.add_plain, World.cell?_drewN]
    exact cell?_putRow (fun (b : UInt8) => Value.int .u8 (b.toNat : Int)) _ w.heap.size 0 _ dk HH0.out (by rw [hF.size, Array.size_replicate]) j (by rw [hF.size]; rw [Lib.decDigits_length] at hjl; exact hjl)
  obtain ⟨os, eo⟩ := Lib.fin_at w (.cells Lib.zeros24 (ρ.t 171)) dk k 0
  have ho2 : ((putRow (fun (b : UInt8) => Value.int .u8 (b.toNat : Int)) (w.alloc (.cells Lib.zeros24 (ρ.t 171))) w.heap.size 0 dk).drewN k).os = w.os := by rw [eo]; rfl
  have ht2 : ((putRow (fun (b : UInt8) => Value.int .u8 (b.toNat : Int)) (w.alloc (.cells Lib.zeros24 (ρ.t 171))) w.heap.size 0 dk).drewN k).tape = w.tape := by rw [eo]; rfl
  have hu2 : ((putRow (fun (b : UInt8) => Value.int .u8 (b.toNat : Int)) (w.alloc (.cells Lib.zeros24 (ρ.t 171))) w.heap.size 0 dk).drewN k).output = w.output := by rw [eo]; rfl
  have hold2 : ∀ b, b < w.heap.size → ((putRow (fun (b : UInt8) => Value.int .u8 (b.toNat : Int)) (w.alloc (.cells Lib.zeros24 (ρ.t 171))) w.heap.size 0 dk).drewN k).heap[b]? = w.heap[b]? := fun b hb => by rw [eo]; exact Lib.heap_grow_old w k os b hb
  have hlen0 : 0 < (Lib.decDigits u).length := by
    rw [Lib.decDigits_length]
    have h9 := Lib.lt_pow_nDigits u
    rcases Nat.eq_zero_or_pos (Lib.nDigits u) with e | e
    · rw [e] at h9; omega
    · exact e
  generalize (putRow (fun (b : UInt8) => Value.int .u8 (b.toNat : Int)) (w.alloc (.cells Lib.zeros24 (ρ.t 171))) w.heap.size 0 dk).drewN k = W2 at hcells ho2 ht2 hu2 hold2 ⊢
  clear eo HH0 hfmt
  -- the new block holds the digits
  obtain ⟨cs, elem, fz, hnew⟩ : ∃ cs elem fz, W2.heap[w.heap.size]? = some (.cells cs elem fz) := by
    have h0 := hcells 0 (Value.int .u8 ((Lib.decDigits u)[0].toNat : Int)) (by simp [Lib.byteCells, hlen0])
    simp only [World.cell?, Lib.add_plain] at h0
    split at h0
    · rename_i cs elem fz hh; exact ⟨cs, elem, fz, hh⟩
    · cases h0
  have hsz2 : w.heap.size < W2.heap.size := (Array.getElem?_eq_some_iff.1 hnew).1
  obtain ⟨I1, hC1, hT1, hm1, hI1⟩ := conc_new hC ho2 ht2 hu2 hsz2 hold2 hnew
  have hrow : RelI I1 (.sl 1 ((Lib.decDigits u).map fun b => [IV.v (.int .u8 b.toNat)]) false) (.slice (some ⟨w.heap.size, 0, none⟩) (Lib.nDigits u) 24) := by
    have hl : ((Lib.decDigits u).map fun b => [IV.v (.int .u8 b.toNat)]).length = Lib.nDigits u := by rw [List.length_map, Lib.decDigits_length]
    rw [← hl]
    refine .sl 1 _ false w.heap.size 0 24 cs elem fz (fun i _ => .int .u8 ((Lib.decDigits u).getD i 0).toNat) hI1 (by rw [hl]; omega) (fun e => by cases e) (fun i r hi => ?_) (fun i r j a hi ha => ?_) (fun i r j a hi ha => ?_)
    all_goals
      simp only [List.getElem?_map, Option.map_eq_some_iff] at hi
      obtain ⟨b, hb, rfl⟩ := hi
    · rfl
    · have hj : j = 0 := by
        have := (List.getElem?_eq_some_iff.1 ha).1
        simp at this; omega
      subst hj
      have h0 := hcells i (.int .u8 b.toNat) (by simp [Lib.byteCells, hb])
      simp only [World.cell?, Lib.add_plain, hnew] at h0
      simp [List.getD, hb]
      simpa using h0
    · have hj : j = 0 := by
        have := (List.getElem?_eq_some_iff.1 ha).1
        simp at this; omega
      subst hj
      simp at ha; subst ha
      simp [List.getD, hb]
      exact .v _ rfl
  have h' := app_bytes (ex := false) ⟨ρ.t 5, by simp [slO, L.t37]⟩ h
  go_wp2_with (at_builtin; refine wpList_append_vi rfl _ _ (ρ.t 37) (ρ.t 37) rfl h' hC1 _ _ rfl rfl (hm1 _ _ rs) (.i _ _ hrow) ?_)
  intro x w3 I2 η2 hC2 hT2 hm2 hr2
  go_wp2
  go_ret
  exact ⟨x, rfl, I2, η2, hC2, hT1.trans hT2, hm1.trans hm2, hr2⟩
end Go.VI

set_option linter.unusedSimpArgs false
set_option linter.unusedVariables false
namespace Go.VI
open Go.Proofs Go.Shelf Go.RowKit Go.Sort Go.Lib
variable {E : Env} {ρ : Ren} {I : Imm} {η : Eta} {H : Hp} {w : World}

set_option maxHeartbeats 6400000 in
set_option maxRecDepth 100000 in
theorem vi_AppendInt (L : LaysM.n249 E.P ρ) (u : Nat) (hu64 : u ≤ 9223372036854775807) (hC : Conc E I η H w) {s r : AV} {H' : Hp} {sv : Value} (rs : RelA I η H s sv)
    (htab : ∀ j, j < 20 → w.cell? ⟨ρ.g 17, j, none⟩ = some (.int .u64 (Lib.pow10Tab.getD j 0)))
    (h : appendE E H (ρ.t 37) (ρ.t 9) s (.i (.str (Lib.decDigits u))) = some (r, H')) :
    Calls E.P (ρ.f 249) #[sv, .int .i64 u, .int .i64 10] w fun e w' => ∃ x, e = .returned x ∧ After E I η H w H' w' fun I' η' => RelA I' η' H' r x := by
  have mixed := L.mixed
  have t5 := L.t5; have a5 := L.a5; have z5 := L.z5; have v5 := L.v5
  have t37 := L.t37; have u37 := run_underlying L.t37; have a37 := L.a37; have z37 := L.z37; have v37 := L.v37
  have t2 := L.t2; have a2 := L.a2; have z2 := L.z2; have v2 := L.v2
  have t3 := L.t3; have a3 := L.a3; have z3 := L.z3; have v3 := L.v3
  have t53 := L.t53; have a53 := L.a53; have z53 := L.z53; have v53 := L.v53
  have t4 := L.t4; have a4 := L.a4; have z4 := L.z4; have v4 := L.v4
  have e288 : ∀ args w, (callFunc (ρ.f 288) args).run E.P w = .ok (.enter (ρ.f 288) args) w := enters_of L.f288 (by kernel_rfl) rfl
  have hcall : Calls E.P (ρ.f 288) #[sv, .int .u64 u, .int .i64 10] w fun e w' => ∃ x, e = .returned x ∧ After E I η H w H' w' fun I' η' => RelA I' η' H' r x := by
    by_cases h100 : u < 100
    · exact vi_AppendUint_small { L with } u h100 hC rs h
    · exact vi_AppendUint_big { L with } u (by omega) (by omega) hC rs htab h
  have hn : ¬ ((u : Int) < 0) := by omega
  go_enter L.f249, Body.n249_ntmps ρ
  go_wp2_with (go_at_fn (ρ.f 288); refine (hcall).mono ?_; rintro e w2 ⟨v2, rfl, hA⟩)
  go_wp2
  first | go_ret | go_ret2
  exact ⟨v2, rfl, hA⟩

set_option maxRecDepth 100000 in
theorem vi_AppendIntP (L : LaysM.n176 E.P ρ) (u : Nat) (hu64 : u ≤ 9223372036854775807) (hC : Conc E I η H w) {s r : AV} {H' : Hp} {sv : Value} (rs : RelA I η H s sv)
    (htab : ∀ j, j < 20 → w.cell? ⟨ρ.g 17, j, none⟩ = some (.int .u64 (Lib.pow10Tab.getD j 0)))
    (h : appendE E H (ρ.t 37) (ρ.t 9) s (.i (.str (Lib.decDigits u))) = some (r, H')) :
    Calls E.P (ρ.f 176) #[sv, .int .i64 u, .int .i64 10] w fun e w' => ∃ x, e = .returned x ∧ After E I η H w H' w' fun I' η' => RelA I' η' H' r x := by
  have mixed := L.mixed
  have t5 := L.t5; have a5 := L.a5; have z5 := L.z5; have v5 := L.v5
  have t37 := L.t37; have u37 := run_underlying L.t37; have a37 := L.a37; have z37 := L.z37; have v37 := L.v37
  have t2 := L.t2; have a2 := L.a2; have z2 := L.z2; have v2 := L.v2
  have t3 := L.t3; have a3 := L.a3; have z3 := L.z3; have v3 := L.v3
  have e249 : ∀ args w, (callFunc (ρ.f 249) args).run E.P w = .ok (.enter (ρ.f 249) args) w := enters_of L.f249 (by kernel_rfl) rfl
  have hcall := vi_AppendInt { L with } u hu64 hC rs htab h
  go_enter L.f176, Body.n176_ntmps ρ
  go_wp2_with (go_at_fn (ρ.f 249); refine (hcall).mono ?_; rintro e w2 ⟨v2, rfl, hA⟩)
  go_wp2
  go_ret
  exact ⟨v2, rfl, hA⟩

theorem ext_appendInt (L : LaysM.n176 E.P ρ) (hg : E.glob (ρ.g 17) = some powT) : Ext1 E (ρ.f 176) (extAppendInt E.P (ρ.t 37) (ρ.t 9)) := by
  intro args H r H' hr I η w vs hC hA
  unfold extAppendInt at hr
  split at hr
  · rename_i s n b
    split at hr
    · rename_i hc
      obtain ⟨rfl, h0, h1⟩ := hc
      obtain ⟨x, y, z, rfl, r1, r2, r3⟩ := args_three hA
      obtain rfl := relA_v r2
      obtain rfl := relA_v r3
      obtain ⟨u, rfl⟩ : ∃ u : Nat, n = u := ⟨n.toNat, by omega⟩
      rw [appendE_P] at hr
      exact vi_AppendIntP L u (by omega) hC r1 (fun j hj => powT_cell hC hg j hj) hr
    · cases hr
  · cases hr
end Go.VI

namespace Go.VI
open Go.Proofs
set_option maxRecDepth 100000
set_option linter.unusedSimpArgs false
set_option linter.unusedVariables false
set_option maxHeartbeats 4000000
def lowB (n : Int) : Bool := decide (n < -1)
theorem c40 (n : Int) : ∃ L, callT E 40 [.i (.v (.int .i64 n))] [] = some (.i (.v (.bool (lowB n))), L) := by
  rw [callT_eq Tryd.func40 rfl fok40 (by simp [Tryd.ntmps40])]
  simp (disch := first | omega | (simp only [List.length_append, List.length_map, List.length_set, List.length_cons, List.length_nil, List.length_take, List.length_drop]; omega)) only [va0, va1, va2, va3, va4, va5, va6, va7, va8, va9, va10, va11, va12, va13, va14, va15, vb0, vb1, vb2, vb3, w_i8, w_u8, w_i16, w_u16, w_i32, w_u32, w_i64, w_u64, lt_T, lt_F, le_T, le_F, nlt_T, nlt_F, nle_T, nle_F, List.take_of_length_le, gB, gcW, gcR, posIn, renA, renL, Chunk.ren, Chunk.refs, evOpD, touchD, stepC, isFresh, nFresh, freshOf, mkR, hole, evL, evH, opd, get, putD, ofVal, cellOf, loadE, behind, lenE, idxAddrE, idxE, addPtr, intE, strE, unE, convE, AV.int, AV.bool, AV.str, ivs, take, frameOf, firstRegion, refsA, refsL, one, cellsA, floatOk, apartT, List.map, if_true, if_false, E_P, E_glob0, reduceCtorEq, beq_self_eq_true, decide_true, decide_false, ↓reduceIte, Nat.reduceEqDiff, cond_true, cond_false, or_true, true_or, or_false, false_or, and_true, true_and, and_self, false_and, and_false, not_true, not_false_iff, Nat.reduceAdd, Nat.reduceSub, Nat.reduceMul, Nat.reduceLT, Nat.reduceLeDiff, Int.reduceToNat, Int.reduceLT, Int.reduceLE, Option.getD, Int.reduceMul, Int.reduceAdd, List.drop, List.take, Nat.reduceBEq, List.isEmpty, Int.reduceEq, Int.reduceNe, Int.reduceNeg, Int.reduceGT, Int.reduceGE, beq_true, beq_false, UInt8.reduceToNat, eqE, eq_self, foldE, maxE, minE, eq_T, eq_F, ndec, odec, adec, sdec, fillA, over, chop, List.replicate, leavesOk, leafOk, cellsEq, cellEq, E_byref, en40, lowB]
  exact ⟨_, rfl⟩
theorem ik40 (n : Int) (H : Hp) : isoK E (callT E) 40 [.i (.v (.int .i64 n))] H = some (.i (.v (.bool (lowB n))), H) := isoK_val rfl rfl rfl (c40 n)
theorem lf57 (l : List Int) (hl : l.length < 9223372036854775808) (k : Nat) (hk : k ≤ l.length) : rl E 0 57 (loopAt Tryd.f57 0) [(0, .i (.sl 1 (rows64 l) false)), (1, .clo (.func 40) [] []), (7, .i (.v (.int .i64 l.length))), (8, .i (.v (.int .i64 k)))] [] =
    match ixF lowB (l.drop k) k with
    | some i => some (.ret, [(4, .i (.v (.int .i64 i)))], [])
    | none => some (.exit 0, [(0, .i (.sl 1 (rows64 l) false)), (1, .clo (.func 40) [] []), (7, .i (.v (.int .i64 l.length))), (8, .i (.v (.int .i64 l.length))), (9, .i (.v (.bool false)))], []) := by
  rw [rl_step (fn := Tryd.f57) (k := 0) rfl]
  by_cases hlt : k < l.length
  · have hrow := rows64_at hlt
    have ih := lf57 l hl (k + 1) hlt
    rw [List.drop_eq_getElem_cons hlt, ixF]
    generalize l[k] = a at *
    by_cases hp : lowB a = true
    · rw [if_pos hp]
      clear ih
      simp (disch := first | omega | (simp only [List.length_append, List.length_map, List.length_set, List.length_cons, List.length_nil, List.length_take, List.length_drop, rows64_len]; omega)) only [va0, va1, va2, va3, va4, va5, va6, va7, va8, va9, va10, va11, va12, va13, va14, va15, vb0, vb1, vb2, vb3, w_i8, w_u8, w_i16, w_u16, w_i32, w_u32, w_i64, w_u64, lt_T, lt_F, le_T, le_F, nlt_T, nlt_F, nle_T, nle_F, List.take_of_length_le, gB, gcW, gcR, posIn, renA, renL, Chunk.ren, Chunk.refs, evOpD, touchD, stepC, isFresh, nFresh, freshOf, mkR, hole, evL, evH, opd, get, putD, ofVal, cellOf, loadE, behind, lenE, idxAddrE, idxE, addPtr, intE, strE, unE, convE, AV.int, AV.bool, AV.str, ivs, take, frameOf, firstRegion, refsA, refsL, one, cellsA, floatOk, apartT, List.map, if_true, if_false, E_P, E_glob0, reduceCtorEq, beq_self_eq_true, decide_true, decide_false, ↓reduceIte, Nat.reduceEqDiff, cond_true, cond_false, or_true, true_or, or_false, false_or, and_true, true_and, and_self, false_and, and_false, not_true, not_false_iff, Nat.reduceAdd, Nat.reduceSub, Nat.reduceMul, Nat.reduceLT, Nat.reduceLeDiff, Int.reduceToNat, Int.reduceLT, Int.reduceLE, Option.getD, Int.reduceMul, Int.reduceAdd, List.drop, List.take, Nat.reduceBEq, List.isEmpty, Int.reduceEq, Int.reduceNe, Int.reduceNeg, Int.reduceGT, Int.reduceGE, beq_true, beq_false, UInt8.reduceToNat, eqE, eq_self, foldE, maxE, minE, eq_T, eq_F, ndec, odec, adec, sdec, fillA, over, chop, List.replicate, leavesOk, leafOk, cellsEq, cellEq, E_byref, en57, bs29, hrow, rows64_len, ik40, hp, show ∀ B fr H, execT E B 57 (Code.loop _) fr H = rlG E B 57 (loopAt Tryd.f57 0) (gcn B (norm [0, 1, 7, 8] fr) H) from fun B fr H => rl_intro rfl mt57_2 mb57_2 zf57_2 hd57_2 fr H, ca40]
    · rw [if_neg hp, ← ih]
      clear ih
      rw [Bool.not_eq_true] at hp
      simp (disch := first | omega | (simp only [List.length_append, List.length_map, List.length_set, List.length_cons, List.length_nil, List.length_take, List.length_drop, rows64_len]; omega)) only [va0, va1, va2, va3, va4, va5, va6, va7, va8, va9, va10, va11, va12, va13, va14, va15, vb0, vb1, vb2, vb3, w_i8, w_u8, w_i16, w_u16, w_i32, w_u32, w_i64, w_u64, lt_T, lt_F, le_T, le_F, nlt_T, nlt_F, nle_T, nle_F, List.take_of_length_le, gB, gcW, gcR, posIn, renA, renL, Chunk.ren, Chunk.refs, evOpD, touchD, stepC, isFresh, nFresh, freshOf, mkR, hole, evL, evH, opd, get, putD, ofVal, cellOf, loadE, behind, lenE, idxAddrE, idxE, addPtr, intE, strE, unE, convE, AV.int, AV.bool, AV.str, ivs, take, frameOf, firstRegion, refsA, refsL, one, cellsA, floatOk, apartT, List.map, if_true, if_false, E_P, E_glob0, reduceCtorEq, beq_self_eq_true, decide_true, decide_false, ↓reduceIte, Nat.reduceEqDiff, cond_true, cond_false, or_true, true_or, or_false, false_or, and_true, true_and, and_self, false_and, and_false, not_true, not_false_iff, Nat.reduceAdd, Nat.reduceSub, Nat.reduceMul, Nat.reduceLT, Nat.reduceLeDiff, Int.reduceToNat, Int.reduceLT, Int.reduceLE, Option.getD, Int.reduceMul, Int.reduceAdd, List.drop, List.take, Nat.reduceBEq, List.isEmpty, Int.reduceEq, Int.reduceNe, Int.reduceNeg, Int.reduceGT, Int.reduceGE, beq_true, beq_false, UInt8.reduceToNat, eqE, eq_self, foldE, maxE, minE, eq_T, eq_F, ndec, odec, adec, sdec, fillA, over, chop, List.replicate, leavesOk, leafOk, cellsEq, cellEq, E_byref, en57, bs29, hrow, rows64_len, ik40, hp, show ∀ B fr H, execT E B 57 (Code.loop _) fr H = rlG E B 57 (loopAt Tryd.f57 0) (gcn B (norm [0, 1, 7, 8] fr) H) from fun B fr H => rl_intro rfl mt57_2 mb57_2 zf57_2 hd57_2 fr H, ca40]
  · obtain rfl : k = l.length := by omega
    rw [List.drop_length, ixF]
    simp (disch := first | omega | (simp only [List.length_append, List.length_map, List.length_set, List.length_cons, List.length_nil, List.length_take, List.length_drop]; omega)) only [va0, va1, va2, va3, va4, va5, va6, va7, va8, va9, va10, va11, va12, va13, va14, va15, vb0, vb1, vb2, vb3, w_i8, w_u8, w_i16, w_u16, w_i32, w_u32, w_i64, w_u64, lt_T, lt_F, le_T, le_F, nlt_T, nlt_F, nle_T, nle_F, List.take_of_length_le, gB, gcW, gcR, posIn, renA, renL, Chunk.ren, Chunk.refs, evOpD, touchD, stepC, isFresh, nFresh, freshOf, mkR, hole, evL, evH, opd, get, putD, ofVal, cellOf, loadE, behind, lenE, idxAddrE, idxE, addPtr, intE, strE, unE, convE, AV.int, AV.bool, AV.str, ivs, take, frameOf, firstRegion, refsA, refsL, one, cellsA, floatOk, apartT, List.map, if_true, if_false, E_P, E_glob0, reduceCtorEq, beq_self_eq_true, decide_true, decide_false, ↓reduceIte, Nat.reduceEqDiff, cond_true, cond_false, or_true, true_or, or_false, false_or, and_true, true_and, and_self, false_and, and_false, not_true, not_false_iff, Nat.reduceAdd, Nat.reduceSub, Nat.reduceMul, Nat.reduceLT, Nat.reduceLeDiff, Int.reduceToNat, Int.reduceLT, Int.reduceLE, Option.getD, Int.reduceMul, Int.reduceAdd, List.drop, List.take, Nat.reduceBEq, List.isEmpty, Int.reduceEq, Int.reduceNe, Int.reduceNeg, Int.reduceGT, Int.reduceGE, beq_true, beq_false, UInt8.reduceToNat, eqE, eq_self, foldE, maxE, minE, eq_T, eq_F, ndec, odec, adec, sdec, fillA, over, chop, List.replicate, leavesOk, leafOk, cellsEq, cellEq, E_byref, en57, bs29]
termination_by l.length - k
theorem cf57 (l : List Int) (hl : (l.length : Int) < 9223372036854775808) : ∃ L, callT E 57 [.i (.sl 1 (rows64 l) false), .clo (.func 40) [] []] [] = some (.i (.v (.int .i64 (ixN (ixF lowB l 0)))), L) := by
  have h : rl E 0 57 (loopAt Tryd.f57 0) [(0, .i (.sl 1 (rows64 l) false)), (1, .clo (.func 40) [] []), (7, .i (.v (.int .i64 l.length))), (8, .i (.v (.int .i64 0)))] [] = _ := lf57 l (by omega) 0 (Nat.zero_le _)
  rw [List.drop_zero] at h
  rw [callT_eq Tryd.func57 rfl fok57 (by simp [Tryd.ntmps57])]
  cases hx : ixF lowB l 0 with
  | some i =>
    simp only [hx] at h
    simp (disch := first | omega | (simp only [List.length_append, List.length_map, List.length_set, List.length_cons, List.length_nil, List.length_take, List.length_drop, rows64_len]; omega)) only [va0, va1, va2, va3, va4, va5, va6, va7, va8, va9, va10, va11, va12, va13, va14, va15, vb0, vb1, vb2, vb3, w_i8, w_u8, w_i16, w_u16, w_i32, w_u32, w_i64, w_u64, lt_T, lt_F, le_T, le_F, nlt_T, nlt_F, nle_T, nle_F, List.take_of_length_le, gB, gcW, gcR, posIn, renA, renL, Chunk.ren, Chunk.refs, evOpD, touchD, stepC, isFresh, nFresh, freshOf, mkR, hole, evL, evH, opd, get, putD, ofVal, cellOf, loadE, behind, lenE, idxAddrE, idxE, addPtr, intE, strE, unE, convE, AV.int, AV.bool, AV.str, ivs, take, frameOf, firstRegion, refsA, refsL, one, cellsA, floatOk, apartT, List.map, if_true, if_false, E_P, E_glob0, reduceCtorEq, beq_self_eq_true, decide_true, decide_false, ↓reduceIte, Nat.reduceEqDiff, cond_true, cond_false, or_true, true_or, or_false, false_or, and_true, true_and, and_self, false_and, and_false, not_true, not_false_iff, Nat.reduceAdd, Nat.reduceSub, Nat.reduceMul, Nat.reduceLT, Nat.reduceLeDiff, Int.reduceToNat, Int.reduceLT, Int.reduceLE, Option.getD, Int.reduceMul, Int.reduceAdd, List.drop, List.take, Nat.reduceBEq, List.isEmpty, Int.reduceEq, Int.reduceNe, Int.reduceNeg, Int.reduceGT, Int.reduceGE, beq_true, beq_false, UInt8.reduceToNat, eqE, eq_self, foldE, maxE, minE, eq_T, eq_F, ndec, odec, adec, sdec, fillA, over, chop, List.replicate, leavesOk, leafOk, cellsEq, cellEq, E_byref, en57, bs29, h, rows64_len, show ∀ B fr H, execT E B 57 (Code.loop _) fr H = rlG E B 57 (loopAt Tryd.f57 0) (gcn B (norm [0, 1, 7, 8] fr) H) from fun B fr H => rl_intro rfl mt57_2 mb57_2 zf57_2 hd57_2 fr H, ixN]
    exact ⟨_, rfl⟩
  | none =>
    simp only [hx] at h
    simp (disch := first | omega | (simp only [List.length_append, List.length_map, List.length_set, List.length_cons, List.length_nil, List.length_take, List.length_drop, rows64_len]; omega)) only [va0, va1, va2, va3, va4, va5, va6, va7, va8, va9, va10, va11, va12, va13, va14, va15, vb0, vb1, vb2, vb3, w_i8, w_u8, w_i16, w_u16, w_i32, w_u32, w_i64, w_u64, lt_T, lt_F, le_T, le_F, nlt_T, nlt_F, nle_T, nle_F, List.take_of_length_le, gB, gcW, gcR, posIn, renA, renL, Chunk.ren, Chunk.refs, evOpD, touchD, stepC, isFresh, nFresh, freshOf, mkR, hole, evL, evH, opd, get, putD, ofVal, cellOf, loadE, behind, lenE, idxAddrE, idxE, addPtr, intE, strE, unE, convE, AV.int, AV.bool, AV.str, ivs, take, frameOf, firstRegion, refsA, refsL, one, cellsA, floatOk, apartT, List.map, if_true, if_false, E_P, E_glob0, reduceCtorEq, beq_self_eq_true, decide_true, decide_false, ↓reduceIte, Nat.reduceEqDiff, cond_true, cond_false, or_true, true_or, or_false, false_or, and_true, true_and, and_self, false_and, and_false, not_true, not_false_iff, Nat.reduceAdd, Nat.reduceSub, Nat.reduceMul, Nat.reduceLT, Nat.reduceLeDiff, Int.reduceToNat, Int.reduceLT, Int.reduceLE, Option.getD, Int.reduceMul, Int.reduceAdd, List.drop, List.take, Nat.reduceBEq, List.isEmpty, Int.reduceEq, Int.reduceNe, Int.reduceNeg, Int.reduceGT, Int.reduceGE, beq_true, beq_false, UInt8.reduceToNat, eqE, eq_self, foldE, maxE, minE, eq_T, eq_F, ndec, odec, adec, sdec, fillA, over, chop, List.replicate, leavesOk, leafOk, cellsEq, cellEq, E_byref, en57, bs29, h, rows64_len, show ∀ B fr H, execT E B 57 (Code.loop _) fr H = rlG E B 57 (loopAt Tryd.f57 0) (gcn B (norm [0, 1, 7, 8] fr) H) from fun B fr H => rl_intro rfl mt57_2 mb57_2 zf57_2 hd57_2 fr H, ixN]
    exact ⟨_, rfl⟩
theorem ikf57 (l : List Int) (hl : (l.length : Int) < 9223372036854775808) (H : Hp) : isoK E (callT E) 57 [.i (.sl 1 (rows64 l) false), .clo (.func 40) [] []] H = some (.i (.v (.int .i64 (ixN (ixF lowB l 0)))), H) := isoK_val rfl rfl rfl (cf57 l hl)
theorem cf39 (l : List Int) (hl : (l.length : Int) < 9223372036854775808) : ∃ L, callT E 39 [.i (.sl 1 (rows64 l) false), .clo (.func 40) [] []] [] = some (.i (.v (.bool (l.any lowB))), L) := by
  have hd : decide (0 ≤ ixN (ixF lowB l 0)) = l.any lowB := ixF_dec lowB l 0
  rw [callT_eq Tryd.func39 rfl fok39 (by simp [Tryd.ntmps39])]
  simp (disch := first | omega | (simp only [List.length_append, List.length_map, List.length_set, List.length_cons, List.length_nil, List.length_take, List.length_drop]; omega)) only [va0, va1, va2, va3, va4, va5, va6, va7, va8, va9, va10, va11, va12, va13, va14, va15, vb0, vb1, vb2, vb3, w_i8, w_u8, w_i16, w_u16, w_i32, w_u32, w_i64, w_u64, lt_T, lt_F, le_T, le_F, nlt_T, nlt_F, nle_T, nle_F, List.take_of_length_le, gB, gcW, gcR, posIn, renA, renL, Chunk.ren, Chunk.refs, evOpD, touchD, stepC, isFresh, nFresh, freshOf, mkR, hole, evL, evH, opd, get, putD, ofVal, cellOf, loadE, behind, lenE, idxAddrE, idxE, addPtr, intE, strE, unE, convE, AV.int, AV.bool, AV.str, ivs, take, frameOf, firstRegion, refsA, refsL, one, cellsA, floatOk, apartT, List.map, if_true, if_false, E_P, E_glob0, reduceCtorEq, beq_self_eq_true, decide_true, decide_false, ↓reduceIte, Nat.reduceEqDiff, cond_true, cond_false, or_true, true_or, or_false, false_or, and_true, true_and, and_self, false_and, and_false, not_true, not_false_iff, Nat.reduceAdd, Nat.reduceSub, Nat.reduceMul, Nat.reduceLT, Nat.reduceLeDiff, Int.reduceToNat, Int.reduceLT, Int.reduceLE, Option.getD, Int.reduceMul, Int.reduceAdd, List.drop, List.take, Nat.reduceBEq, List.isEmpty, Int.reduceEq, Int.reduceNe, Int.reduceNeg, Int.reduceGT, Int.reduceGE, beq_true, beq_false, UInt8.reduceToNat, eqE, eq_self, foldE, maxE, minE, eq_T, eq_F, ndec, odec, adec, sdec, fillA, over, chop, List.replicate, leavesOk, leafOk, cellsEq, cellEq, E_byref, en39, bs29, ikf57, hd]
  exact ⟨_, rfl⟩
theorem ikf39 (l : List Int) (hl : (l.length : Int) < 9223372036854775808) (H : Hp) : isoK E (callT E) 39 [.i (.sl 1 (rows64 l) false), .clo (.func 40) [] []] H = some (.i (.v (.bool (l.any lowB))), H) := isoK_val rfl rfl rfl (cf39 l hl)
def numB (n : Int) : List UInt8 := if 0 ≤ n then Lib.decDigits n.toNat else []
theorem numB_len (n : Int) (h : n ≤ 9223372036854775807) : (numB n).length ≤ 20 := by
  unfold numB
  split
  · rw [Lib.decDigits_length]
    by_cases h0 : n.toNat = 0
    · rw [h0, Lib.nDigits_small (by decide)]; decide
    · have := Lib.numDigits_eq n.toNat (by omega) (by omega)
      split at this <;> omega
  · simp
theorem ik42 {H : Hp} {c g n : Nat} {a : List UInt8} (x : Int) (h0 : 0 ≤ x) (h1 : x ≤ 9223372036854775807) (hn : n = a.length) (hl : n < 1000000) (hH : H[c]? = some (.sl 1 g (rowsB a) false)) :
    isoK E (callT E) 42 [.ref c g 0 n, .i (.v (.int .i64 x)), .i (.v (.int .i64 10))] H = some (.ref c (g + 1) 0 (n + (numB x).length), H.set c (.sl 1 (g + 1) (rowsB (a ++ numB x)) false)) := by
  have h20 := numB_len x h1
  have hx : Lib.decDigits x.toNat = numB x := by rw [numB, if_pos h0]
  refine isoK_app xk42 hH rfl ?_
  have e1 : (n : Int) = (rowsB a).length := by rw [rowsB_len, hn]
  subst hn
  simp only [extAppendInt]
  rw [if_pos ⟨trivial, h0, h1⟩, show appendE (envP Tryd.prog) = appendE E from appendE_P E, hx]
  generalize numB x = ds at *
  rw [ap_eq (z := 1) (by kernel_rfl)]
  simp only [srcE, bytes_map, apS, apV, apC, List.getElem?_cons_zero, rowsB_len, or_true, true_and, if_true, rowsB_take a _ (Nat.le_refl _), rowsB_app, Bool.false_and]
  rw [if_pos (by omega)]
  rfl
end Go.VI

namespace Go.VI
open Go.Proofs
set_option maxRecDepth 100000
set_option linter.unusedSimpArgs false
set_option linter.unusedVariables false
set_option maxHeartbeats 4000000
theorem fd {r : Int} (k n : Nat) (hk : k ≤ 31) (hn : 2 ^ k = n) (h0 : 0 < n) : r.fdiv (2 ^ min k IntKind.i32.bits) = r / n := by
  have : min k IntKind.i32.bits = k := by show min k 32 = k; omega
  rw [this]
  have h2 : ((2 : Int) ^ k) = (n : Int) := by rw [← hn]; simp
  rw [h2, Int.fdiv_eq_ediv_of_nonneg _ (by omega)]
theorem or_all : ∀ n : Nat, n < 64 → bitsE .or .u8 128 (n : Int) = some (128 + (n : Int)) ∧ (n < 32 → bitsE .or .u8 192 (n : Int) = some (192 + (n : Int))) ∧ (n < 16 → bitsE .or .u8 224 (n : Int) = some (224 + (n : Int))) ∧ (n < 8 → bitsE .or .u8 240 (n : Int) = some (240 + (n : Int))) := by decide +kernel
theorem or128 {v : Int} (h0 : 0 ≤ v) (h1 : v < 64) : bitsE .or .u8 128 v = some (128 + v) := by
  obtain ⟨n, rfl⟩ : ∃ n : Nat, v = n := ⟨v.toNat, by omega⟩
  exact (or_all n (by omega)).1
theorem or192 {v : Int} (h0 : 0 ≤ v) (h1 : v < 32) : bitsE .or .u8 192 v = some (192 + v) := by
  obtain ⟨n, rfl⟩ : ∃ n : Nat, v = n := ⟨v.toNat, by omega⟩
  exact (or_all n (by omega)).2.1 (by omega)
theorem or224 {v : Int} (h0 : 0 ≤ v) (h1 : v < 16) : bitsE .or .u8 224 v = some (224 + v) := by
  obtain ⟨n, rfl⟩ : ∃ n : Nat, v = n := ⟨v.toNat, by omega⟩
  exact (or_all n (by omega)).2.2.1 (by omega)
theorem or240 {v : Int} (h0 : 0 ≤ v) (h1 : v < 8) : bitsE .or .u8 240 v = some (240 + v) := by
  obtain ⟨n, rfl⟩ : ∃ n : Nat, v = n := ⟨v.toNat, by omega⟩
  exact (or_all n (by omega)).2.2.2 (by omega)
end Go.VI

namespace Go.VI
open Go.Proofs
set_option maxRecDepth 100000
set_option linter.unusedSimpArgs false
set_option linter.unusedVariables false
set_option maxHeartbeats 4000000
theorem rowsB_2 (a : List UInt8) (x y : Int) (hx : 0 ≤ x ∧ x < 256) (hy : 0 ≤ y ∧ y < 256) : rowsB a ++ [[.v (.int .u8 x)], [.v (.int .u8 y)]] = rowsB (a ++ [UInt8.ofNat x.toNat, UInt8.ofNat y.toNat]) := by
  have e : ∀ z : Int, 0 ≤ z ∧ z < 256 → ((UInt8.ofNat z.toNat).toNat : Int) = z := fun z h => by rw [UInt8.toNat_ofNat', Nat.mod_eq_of_lt (by omega)]; omega
  simp only [rowsB, List.map_append, List.map_cons, List.map_nil, e x hx, e y hy]
theorem c54_2 (r : Int) (h0 : 128 ≤ r) (h1 : r ≤ 2047) (a : List UInt8) (hl : a.length < 1000000) : ∃ L, callT E 54 [.ref 0 0 0 a.length, .i (.v (.int .i32 r))] [.sl 1 0 (rowsB a) false] =
    some (.ref 0 1 0 (a.length + 2), .sl 1 1 (rowsB (a ++ [UInt8.ofNat (192 + r / 64).toNat, UInt8.ofNat (128 + r % 64).toNat])) false :: L) := by
  have f1 := fd (r := r) 6 64 (by decide) (by decide) (by decide)
  have f2 : IntKind.u8.wrap (r / (64 : Nat)) = r / 64 := by rw [IntKind.wrap_u8']; omega
  have f3 : IntKind.u8.wrap r = r % 256 := by rw [IntKind.wrap_u8']
  have f4 := or192 (v := r / 64) (by omega) (by omega)
  have f5 := and63 (b := r % 256) (by omega) (by omega)
  have f6 : r % 256 % 64 = r % 64 := by omega
  have f7 := or128 (v := r % 64) (by omega) (by omega)
  rw [← rowsB_2 a (192 + r / 64) (128 + r % 64) (by omega) (by omega)]
  rw [callT_eq Tryd.func54 rfl fok54 (by simp [Tryd.ntmps54])]
  simp (disch := first | omega | (simp only [List.length_append, List.length_map, List.length_set, List.length_cons, List.length_nil, List.length_take, List.length_drop, rowsB_len]; omega)) only [va0, va1, va2, va3, va4, va5, va6, va7, va8, va9, va10, va11, va12, va13, va14, va15, vb0, vb1, vb2, vb3, w_i8, w_u8, w_i16, w_u16, w_i32, w_u32, w_i64, w_u64, lt_T, lt_F, le_T, le_F, nlt_T, nlt_F, nle_T, nle_F, List.take_of_length_le, gB, gcW, gcR, posIn, renA, renL, Chunk.ren, Chunk.refs, evOpD, touchD, stepC, isFresh, nFresh, freshOf, mkR, hole, evL, evH, opd, get, putD, ofVal, cellOf, loadE, behind, lenE, idxAddrE, idxE, addPtr, intE, strE, unE, convE, AV.int, AV.bool, AV.str, ivs, take, frameOf, firstRegion, refsA, refsL, one, cellsA, floatOk, apartT, List.map, if_true, if_false, E_P, E_glob0, reduceCtorEq, beq_self_eq_true, decide_true, decide_false, ↓reduceIte, Nat.reduceEqDiff, cond_true, cond_false, or_true, true_or, or_false, false_or, and_true, true_and, and_self, false_and, and_false, not_true, not_false_iff, Nat.reduceAdd, Nat.reduceSub, Nat.reduceMul, Nat.reduceLT, Nat.reduceLeDiff, Int.reduceToNat, Int.reduceLT, Int.reduceLE, Option.getD, Int.reduceMul, Int.reduceAdd, List.drop, List.take, Nat.reduceBEq, List.isEmpty, Int.reduceEq, Int.reduceNe, Int.reduceNeg, Int.reduceGT, Int.reduceGE, beq_true, beq_false, UInt8.reduceToNat, eqE, eq_self, foldE, maxE, minE, eq_T, eq_F, ndec, odec, adec, sdec, fillA, over, chop, List.replicate, leavesOk, leafOk, cellsEq, cellEq, E_byref, en54, bs47, rowsB_len, f1, f2, f3, f4, f5, f6, f7, Option.map_some]
  exact ⟨_, rfl⟩
end Go.VI

namespace Go.VI
open Go.Proofs
set_option maxRecDepth 100000
set_option linter.unusedSimpArgs false
set_option linter.unusedVariables false
set_option maxHeartbeats 4000000
def by8 (l : List Int) : List UInt8 := l.map fun x => UInt8.ofNat x.toNat
theorem rowsB_by8 (a : List UInt8) (l : List Int) (h : ∀ x ∈ l, 0 ≤ x ∧ x < 256) : rowsB a ++ (l.map fun x => [IV.v (.int .u8 x)]) = rowsB (a ++ by8 l) := by
  have e : ∀ z : Int, 0 ≤ z ∧ z < 256 → ((UInt8.ofNat z.toNat).toNat : Int) = z := fun z h => by rw [UInt8.toNat_ofNat', Nat.mod_eq_of_lt (by omega)]; omega
  simp only [rowsB, by8, List.map_append, List.map_map, List.append_cancel_left_eq]
  exact List.map_congr_left fun x hx => by simp only [Function.comp, e x (h x hx)]
theorem c54_3 (r : Int) (h0 : 2048 ≤ r) (h1 : r ≤ 65535) (hs : r < 55296 ∨ 57343 < r) (a : List UInt8) (hl : a.length < 1000000) : ∃ L, callT E 54 [.ref 0 0 0 a.length, .i (.v (.int .i32 r))] [.sl 1 0 (rowsB a) false] =
    some (.ref 0 1 0 (a.length + 3), .sl 1 1 (rowsB (a ++ by8 [224 + r / 4096, 128 + r / 64 % 64, 128 + r % 64])) false :: L) := by
  have f1 : r.fdiv (2 ^ min 6 IntKind.i32.bits) = r / 64 := fd (r := r) 6 64 (by decide) (by decide) (by decide)
  have f0 : r.fdiv (2 ^ min 12 IntKind.i32.bits) = r / 4096 := fd (r := r) 12 4096 (by decide) (by decide) (by decide)
  have f2 : IntKind.u8.wrap (r / 4096) = r / 4096 := by rw [IntKind.wrap_u8']; omega
  have f3 : IntKind.u8.wrap r = r % 256 := by rw [IntKind.wrap_u8']
  have f8 : IntKind.u8.wrap (r / 64) = r / 64 % 256 := by rw [IntKind.wrap_u8']
  have f4 := or224 (v := r / 4096) (by omega) (by omega)
  have f5 := and63 (b := r % 256) (by omega) (by omega)
  have f6 : r % 256 % 64 = r % 64 := by omega
  have f7 := or128 (v := r % 64) (by omega) (by omega)
  have f9 := and63 (b := r / 64 % 256) (by omega) (by omega)
  have f10 : r / 64 % 256 % 64 = r / 64 % 64 := by omega
  have f11 := or128 (v := r / 64 % 64) (by omega) (by omega)
  rw [← rowsB_by8 a [224 + r / 4096, 128 + r / 64 % 64, 128 + r % 64] (by simp only [List.mem_cons, List.not_mem_nil, or_false]; rintro x (rfl | rfl | rfl) <;> omega)]
  by_cases hlo : r < 55296
  · rw [callT_eq Tryd.func54 rfl fok54 (by simp [Tryd.ntmps54])]
    simp (disch := first | omega | (simp only [List.length_append, List.length_map, List.length_set, List.length_cons, List.length_nil, List.length_take, List.length_drop, rowsB_len]; omega)) only [va0, va1, va2, va3, va4, va5, va6, va7, va8, va9, va10, va11, va12, va13, va14, va15, vb0, vb1, vb2, vb3, w_i8, w_u8, w_i16, w_u16, w_i32, w_u32, w_i64, w_u64, lt_T, lt_F, le_T, le_F, nlt_T, nlt_F, nle_T, nle_F, List.take_of_length_le, gB, gcW, gcR, posIn, renA, renL, Chunk.ren, Chunk.refs, evOpD, touchD, stepC, isFresh, nFresh, freshOf, mkR, hole, evL, evH, opd, get, putD, ofVal, cellOf, loadE, behind, lenE, idxAddrE, idxE, addPtr, intE, strE, unE, convE, AV.int, AV.bool, AV.str, ivs, take, frameOf, firstRegion, refsA, refsL, one, cellsA, floatOk, apartT, List.map, if_true, if_false, E_P, E_glob0, reduceCtorEq, beq_self_eq_true, decide_true, decide_false, ↓reduceIte, Nat.reduceEqDiff, cond_true, cond_false, or_true, true_or, or_false, false_or, and_true, true_and, and_self, false_and, and_false, not_true, not_false_iff, Nat.reduceAdd, Nat.reduceSub, Nat.reduceMul, Nat.reduceLT, Nat.reduceLeDiff, Int.reduceToNat, Int.reduceLT, Int.reduceLE, Option.getD, Int.reduceMul, Int.reduceAdd, List.drop, List.take, Nat.reduceBEq, List.isEmpty, Int.reduceEq, Int.reduceNe, Int.reduceNeg, Int.reduceGT, Int.reduceGE, beq_true, beq_false, UInt8.reduceToNat, eqE, eq_self, foldE, maxE, minE, eq_T, eq_F, ndec, odec, adec, sdec, fillA, over, chop, List.replicate, leavesOk, leafOk, cellsEq, cellEq, E_byref, en54, bs47, rowsB_len, f0, f1, f2, f3, f4, f5, f6, f7, f8, f9, f10, f11, Option.map_some]
    exact ⟨_, rfl⟩
  · rw [callT_eq Tryd.func54 rfl fok54 (by simp [Tryd.ntmps54])]
    simp (disch := first | omega | (simp only [List.length_append, List.length_map, List.length_set, List.length_cons, List.length_nil, List.length_take, List.length_drop, rowsB_len]; omega)) only [va0, va1, va2, va3, va4, va5, va6, va7, va8, va9, va10, va11, va12, va13, va14, va15, vb0, vb1, vb2, vb3, w_i8, w_u8, w_i16, w_u16, w_i32, w_u32, w_i64, w_u64, lt_T, lt_F, le_T, le_F, nlt_T, nlt_F, nle_T, nle_F, List.take_of_length_le, gB, gcW, gcR, posIn, renA, renL, Chunk.ren, Chunk.refs, evOpD, touchD, stepC, isFresh, nFresh, freshOf, mkR, hole, evL, evH, opd, get, putD, ofVal, cellOf, loadE, behind, lenE, idxAddrE, idxE, addPtr, intE, strE, unE, convE, AV.int, AV.bool, AV.str, ivs, take, frameOf, firstRegion, refsA, refsL, one, cellsA, floatOk, apartT, List.map, if_true, if_false, E_P, E_glob0, reduceCtorEq, beq_self_eq_true, decide_true, decide_false, ↓reduceIte, Nat.reduceEqDiff, cond_true, cond_false, or_true, true_or, or_false, false_or, and_true, true_and, and_self, false_and, and_false, not_true, not_false_iff, Nat.reduceAdd, Nat.reduceSub, Nat.reduceMul, Nat.reduceLT, Nat.reduceLeDiff, Int.reduceToNat, Int.reduceLT, Int.reduceLE, Option.getD, Int.reduceMul, Int.reduceAdd, List.drop, List.take, Nat.reduceBEq, List.isEmpty, Int.reduceEq, Int.reduceNe, Int.reduceNeg, Int.reduceGT, Int.reduceGE, beq_true, beq_false, UInt8.reduceToNat, eqE, eq_self, foldE, maxE, minE, eq_T, eq_F, ndec, odec, adec, sdec, fillA, over, chop, List.replicate, leavesOk, leafOk, cellsEq, cellEq, E_byref, en54, bs47, rowsB_len, f0, f1, f2, f3, f4, f5, f6, f7, f8, f9, f10, f11, Option.map_some]
    exact ⟨_, rfl⟩
end Go.VI

namespace Go.VI
open Go.Proofs
set_option maxRecDepth 100000
set_option linter.unusedSimpArgs false
set_option linter.unusedVariables false
set_option maxHeartbeats 4000000
theorem c54_4 (r : Int) (h0 : 65536 ≤ r) (h1 : r ≤ 1114111) (a : List UInt8) (hl : a.length < 1000000) : ∃ L, callT E 54 [.ref 0 0 0 a.length, .i (.v (.int .i32 r))] [.sl 1 0 (rowsB a) false] =
    some (.ref 0 1 0 (a.length + 4), .sl 1 1 (rowsB (a ++ by8 [240 + r / 262144, 128 + r / 4096 % 64, 128 + r / 64 % 64, 128 + r % 64])) false :: L) := by
  have f1 : r.fdiv (2 ^ min 6 IntKind.i32.bits) = r / 64 := fd (r := r) 6 64 (by decide) (by decide) (by decide)
  have f0 : r.fdiv (2 ^ min 12 IntKind.i32.bits) = r / 4096 := fd (r := r) 12 4096 (by decide) (by decide) (by decide)
  have f12 : r.fdiv (2 ^ min 18 IntKind.i32.bits) = r / 262144 := fd (r := r) 18 262144 (by decide) (by decide) (by decide)
  have f2 : IntKind.u8.wrap (r / 262144) = r / 262144 := by rw [IntKind.wrap_u8']; omega
  have f3 : IntKind.u8.wrap r = r % 256 := by rw [IntKind.wrap_u8']
  have f8 : IntKind.u8.wrap (r / 64) = r / 64 % 256 := by rw [IntKind.wrap_u8']
  have f13 : IntKind.u8.wrap (r / 4096) = r / 4096 % 256 := by rw [IntKind.wrap_u8']
  have f4 := or240 (v := r / 262144) (by omega) (by omega)
  have f5 := and63 (b := r % 256) (by omega) (by omega)
  have f6 : r % 256 % 64 = r % 64 := by omega
  have f7 := or128 (v := r % 64) (by omega) (by omega)
  have f9 := and63 (b := r / 64 % 256) (by omega) (by omega)
  have f10 : r / 64 % 256 % 64 = r / 64 % 64 := by omega
  have f11 := or128 (v := r / 64 % 64) (by omega) (by omega)
  have f14 := and63 (b := r / 4096 % 256) (by omega) (by omega)
  have f15 : r / 4096 % 256 % 64 = r / 4096 % 64 := by omega
  have f16 := or128 (v := r / 4096 % 64) (by omega) (by omega)
  rw [← rowsB_by8 a [240 + r / 262144, 128 + r / 4096 % 64, 128 + r / 64 % 64, 128 + r % 64] (by simp only [List.mem_cons, List.not_mem_nil, or_false]; rintro x (rfl | rfl | rfl | rfl) <;> omega)]
  rw [callT_eq Tryd.func54 rfl fok54 (by simp [Tryd.ntmps54])]
  simp (disch := first | omega | (simp only [List.length_append, List.length_map, List.length_set, List.length_cons, List.length_nil, List.length_take, List.length_drop, rowsB_len]; omega)) only [va0, va1, va2, va3, va4, va5, va6, va7, va8, va9, va10, va11, va12, va13, va14, va15, vb0, vb1, vb2, vb3, w_i8, w_u8, w_i16, w_u16, w_i32, w_u32, w_i64, w_u64, lt_T, lt_F, le_T, le_F, nlt_T, nlt_F, nle_T, nle_F, List.take_of_length_le, gB, gcW, gcR, posIn, renA, renL, Chunk.ren, Chunk.refs, evOpD, touchD, stepC, isFresh, nFresh, freshOf, mkR, hole, evL, evH, opd, get, putD, ofVal, cellOf, loadE, behind, lenE, idxAddrE, idxE, addPtr, intE, strE, unE, convE, AV.int, AV.bool, AV.str, ivs, take, frameOf, firstRegion, refsA, refsL, one, cellsA, floatOk, apartT, List.map, if_true, if_false, E_P, E_glob0, reduceCtorEq, beq_self_eq_true, decide_true, decide_false, ↓reduceIte, Nat.reduceEqDiff, cond_true, cond_false, or_true, true_or, or_false, false_or, and_true, true_and, and_self, false_and, and_false, not_true, not_false_iff, Nat.reduceAdd, Nat.reduceSub, Nat.reduceMul, Nat.reduceLT, Nat.reduceLeDiff, Int.reduceToNat, Int.reduceLT, Int.reduceLE, Option.getD, Int.reduceMul, Int.reduceAdd, List.drop, List.take, Nat.reduceBEq, List.isEmpty, Int.reduceEq, Int.reduceNe, Int.reduceNeg, Int.reduceGT, Int.reduceGE, beq_true, beq_false, UInt8.reduceToNat, eqE, eq_self, foldE, maxE, minE, eq_T, eq_F, ndec, odec, adec, sdec, fillA, over, chop, List.replicate, leavesOk, leafOk, cellsEq, cellEq, E_byref, en54, bs47, rowsB_len, f0, f1, f2, f3, f4, f5, f6, f7, f8, f9, f10, f11, f12, f13, f14, f15, f16, Option.map_some]
  exact ⟨_, rfl⟩
end Go.VI

namespace Go.VI
open Go.Proofs
set_option maxRecDepth 100000
set_option linter.unusedSimpArgs false
set_option linter.unusedVariables false
set_option maxHeartbeats 4000000
theorem c54_e (r : Int) (hr : -2147483648 ≤ r ∧ r ≤ 2147483647) (h : r < 0 ∨ (55296 ≤ r ∧ r ≤ 57343) ∨ 1114111 < r) (a : List UInt8) (hl : a.length < 1000000) : ∃ L, callT E 54 [.ref 0 0 0 a.length, .i (.v (.int .i32 r))] [.sl 1 0 (rowsB a) false] =
    some (.ref 0 1 0 (a.length + 3), .sl 1 1 (rowsB (a ++ by8 [239, 191, 189])) false :: L) := by
  rw [← rowsB_by8 a [239, 191, 189] (by decide)]
  rcases h with h | h | h
  · have hw : IntKind.u32.wrap r = r + 4294967296 := by simp [IntKind.wrap, IntKind.bits, IntKind.signed]; omega
    rw [callT_eq Tryd.func54 rfl fok54 (by simp [Tryd.ntmps54])]
    simp (disch := first | omega | (simp only [List.length_append, List.length_map, List.length_set, List.length_cons, List.length_nil, List.length_take, List.length_drop, rowsB_len]; omega)) only [va0, va1, va2, va3, va4, va5, va6, va7, va8, va9, va10, va11, va12, va13, va14, va15, vb0, vb1, vb2, vb3, w_i8, w_u8, w_i16, w_u16, w_i32, w_u32, w_i64, w_u64, lt_T, lt_F, le_T, le_F, nlt_T, nlt_F, nle_T, nle_F, List.take_of_length_le, gB, gcW, gcR, posIn, renA, renL, Chunk.ren, Chunk.refs, evOpD, touchD, stepC, isFresh, nFresh, freshOf, mkR, hole, evL, evH, opd, get, putD, ofVal, cellOf, loadE, behind, lenE, idxAddrE, idxE, addPtr, intE, strE, unE, convE, AV.int, AV.bool, AV.str, ivs, take, frameOf, firstRegion, refsA, refsL, one, cellsA, floatOk, apartT, List.map, if_true, if_false, E_P, E_glob0, reduceCtorEq, beq_self_eq_true, decide_true, decide_false, ↓reduceIte, Nat.reduceEqDiff, cond_true, cond_false, or_true, true_or, or_false, false_or, and_true, true_and, and_self, false_and, and_false, not_true, not_false_iff, Nat.reduceAdd, Nat.reduceSub, Nat.reduceMul, Nat.reduceLT, Nat.reduceLeDiff, Int.reduceToNat, Int.reduceLT, Int.reduceLE, Option.getD, Int.reduceMul, Int.reduceAdd, List.drop, List.take, Nat.reduceBEq, List.isEmpty, Int.reduceEq, Int.reduceNe, Int.reduceNeg, Int.reduceGT, Int.reduceGE, beq_true, beq_false, UInt8.reduceToNat, eqE, eq_self, foldE, maxE, minE, eq_T, eq_F, ndec, odec, adec, sdec, fillA, over, chop, List.replicate, leavesOk, leafOk, cellsEq, cellEq, E_byref, en54, bs47, rowsB_len, hw, List.map_cons, List.map_nil]
    exact ⟨_, rfl⟩
  · rw [callT_eq Tryd.func54 rfl fok54 (by simp [Tryd.ntmps54])]
    simp (disch := first | omega | (simp only [List.length_append, List.length_map, List.length_set, List.length_cons, List.length_nil, List.length_take, List.length_drop, rowsB_len]; omega)) only [va0, va1, va2, va3, va4, va5, va6, va7, va8, va9, va10, va11, va12, va13, va14, va15, vb0, vb1, vb2, vb3, w_i8, w_u8, w_i16, w_u16, w_i32, w_u32, w_i64, w_u64, lt_T, lt_F, le_T, le_F, nlt_T, nlt_F, nle_T, nle_F, List.take_of_length_le, gB, gcW, gcR, posIn, renA, renL, Chunk.ren, Chunk.refs, evOpD, touchD, stepC, isFresh, nFresh, freshOf, mkR, hole, evL, evH, opd, get, putD, ofVal, cellOf, loadE, behind, lenE, idxAddrE, idxE, addPtr, intE, strE, unE, convE, AV.int, AV.bool, AV.str, ivs, take, frameOf, firstRegion, refsA, refsL, one, cellsA, floatOk, apartT, List.map, if_true, if_false, E_P, E_glob0, reduceCtorEq, beq_self_eq_true, decide_true, decide_false, ↓reduceIte, Nat.reduceEqDiff, cond_true, cond_false, or_true, true_or, or_false, false_or, and_true, true_and, and_self, false_and, and_false, not_true, not_false_iff, Nat.reduceAdd, Nat.reduceSub, Nat.reduceMul, Nat.reduceLT, Nat.reduceLeDiff, Int.reduceToNat, Int.reduceLT, Int.reduceLE, Option.getD, Int.reduceMul, Int.reduceAdd, List.drop, List.take, Nat.reduceBEq, List.isEmpty, Int.reduceEq, Int.reduceNe, Int.reduceNeg, Int.reduceGT, Int.reduceGE, beq_true, beq_false, UInt8.reduceToNat, eqE, eq_self, foldE, maxE, minE, eq_T, eq_F, ndec, odec, adec, sdec, fillA, over, chop, List.replicate, leavesOk, leafOk, cellsEq, cellEq, E_byref, en54, bs47, rowsB_len, List.map_cons, List.map_nil]
    exact ⟨_, rfl⟩
  · rw [callT_eq Tryd.func54 rfl fok54 (by simp [Tryd.ntmps54])]
    simp (disch := first | omega | (simp only [List.length_append, List.length_map, List.length_set, List.length_cons, List.length_nil, List.length_take, List.length_drop, rowsB_len]; omega)) only [va0, va1, va2, va3, va4, va5, va6, va7, va8, va9, va10, va11, va12, va13, va14, va15, vb0, vb1, vb2, vb3, w_i8, w_u8, w_i16, w_u16, w_i32, w_u32, w_i64, w_u64, lt_T, lt_F, le_T, le_F, nlt_T, nlt_F, nle_T, nle_F, List.take_of_length_le, gB, gcW, gcR, posIn, renA, renL, Chunk.ren, Chunk.refs, evOpD, touchD, stepC, isFresh, nFresh, freshOf, mkR, hole, evL, evH, opd, get, putD, ofVal, cellOf, loadE, behind, lenE, idxAddrE, idxE, addPtr, intE, strE, unE, convE, AV.int, AV.bool, AV.str, ivs, take, frameOf, firstRegion, refsA, refsL, one, cellsA, floatOk, apartT, List.map, if_true, if_false, E_P, E_glob0, reduceCtorEq, beq_self_eq_true, decide_true, decide_false, ↓reduceIte, Nat.reduceEqDiff, cond_true, cond_false, or_true, true_or, or_false, false_or, and_true, true_and, and_self, false_and, and_false, not_true, not_false_iff, Nat.reduceAdd, Nat.reduceSub, Nat.reduceMul, Nat.reduceLT, Nat.reduceLeDiff, Int.reduceToNat, Int.reduceLT, Int.reduceLE, Option.getD, Int.reduceMul, Int.reduceAdd, List.drop, List.take, Nat.reduceBEq, List.isEmpty, Int.reduceEq, Int.reduceNe, Int.reduceNeg, Int.reduceGT, Int.reduceGE, beq_true, beq_false, UInt8.reduceToNat, eqE, eq_self, foldE, maxE, minE, eq_T, eq_F, ndec, odec, adec, sdec, fillA, over, chop, List.replicate, leavesOk, leafOk, cellsEq, cellEq, E_byref, en54, bs47, rowsB_len, List.map_cons, List.map_nil]
    exact ⟨_, rfl⟩
end Go.VI

