import Derived.Test.YtcifhkdbaienjaaU3
namespace Go.VI
open Go.Proofs
set_option maxRecDepth 100000
set_option linter.unusedSimpArgs false
set_option linter.unusedVariables false
set_option maxHeartbeats 4000000
def rows8 (l : List Int) : List (List IV) := l.map fun n => [.v (.int .u8 n)]
theorem rows8_len (l : List Int) : (rows8 l).length = l.length := by simp [rows8]
theorem rows8_snoc (l : List Int) (n : Int) : rows8 l ++ [[.v (.int .u8 n)]] = rows8 (l ++ [n]) := by simp [rows8]
def sizeB (a : Int) : Int := if 194 ≤ a ∧ a ≤ 223 then 2 else if 224 ≤ a ∧ a ≤ 239 then 3 else if 240 ≤ a ∧ a ≤ 244 then 4 else 0
def lowB (a : Int) (n : Nat) : Int := if n = 1 then (if a = 224 then 160 else if a = 240 then 144 else 128) else 128
def highB (a : Int) (n : Nat) : Int := if n = 1 then (if a = 237 then 159 else if a = 244 then 143 else 191) else 191
theorem rows8_0 (a : Int) (l : List Int) : (rows8 (a :: l))[0]? = some [.v (.int .u8 a)] := rfl
theorem c41 (a : Int) (l : List Int) (hl : l.length < 100) (g : Nat) (ex : Bool) : ∃ L, callT E 41 [.ref 0 g 0 (l.length + 1)] [.sl 1 g (rows8 (a :: l)) ex] =
    some (.tup [.i (.v (.int .u8 (lowB a (l.length + 1)))), .i (.v (.int .u8 (highB a (l.length + 1)))), .i (.v (.int .i64 (sizeB a)))], .sl 1 g (rows8 (a :: l)) ex :: L) := by
  rw [callT_eq Try.func41 rfl fok41 (by simp [Try.ntmps41])]
  (try simp (disch := first | omega | (simp only [List.length_append, List.length_map, List.length_set, List.length_cons, List.length_nil, List.length_take, List.length_drop, rows8_len]; omega)) only [va0, va1, va2, va3, va4, va5, va6, va7, va8, va9, va10, va11, va12, va13, va14, vb0, vb1, vb2, vb3, w_i8, w_u8, w_i16, w_u16, w_i32, w_u32, w_i64, w_u64, lt_T, lt_F, le_T, le_F, nlt_T, nlt_F, nle_T, nle_F, List.take_of_length_le, gB, gcW, gcR, posIn, renA, renL, Chunk.ren, Chunk.refs, evOpD, touchD, stepC, isFresh, nFresh, freshOf, mkR, hole, evL, evH, opd, get, putD, ofVal, cellOf, loadE, behind, lenE, idxAddrE, idxE, addPtr, intE, strE, unE, convE, AV.int, AV.bool, AV.str, ivs, take, frameOf, firstRegion, refsA, refsL, one, cellsA, floatOk, apartT, List.map, if_true, if_false, E_P, E_glob, reduceCtorEq, beq_self_eq_true, decide_true, decide_false, ↓reduceIte, Nat.reduceEqDiff, cond_true, cond_false, or_true, true_or, or_false, false_or, and_true, true_and, and_self, false_and, and_false, not_true, not_false_iff, Nat.reduceAdd, Nat.reduceSub, Nat.reduceMul, Nat.reduceLT, Nat.reduceLeDiff, Int.reduceToNat, Int.reduceLT, Int.reduceLE, Option.getD, Int.reduceMul, Int.reduceAdd, List.drop, List.take, Nat.reduceBEq, List.isEmpty, Int.reduceEq, Int.reduceNe, Int.reduceNeg, Int.reduceGT, Int.reduceGE, beq_true, beq_false, UInt8.reduceToNat, eqE, eq_self, foldE, maxE, minE, eq_T, eq_F, ndec, odec, adec, sdec, fillA, over, chop, List.replicate, leavesOk, leafOk, cellsEq, cellEq, E_ext, E_byref, en41, bs36, rows8_len, rows8_0, List.length_cons, res41]) <;> repeat' ((first | rw [condK_ndec] | rw [condK_dec] | rw [condK_b] | rw [guK_ndec] | rw [guK_dec] | rw [guK_b] | rw [guT_ndec] | rw [guT_dec] | rw [guT_b] | rw [guD_dec] | rw [guD_b]) <;> split <;> (try subst_vars) <;> (try simp (disch := first | omega | (simp only [List.length_append, List.length_map, List.length_set, List.length_cons, List.length_nil, List.length_take, List.length_drop, rows8_len]; omega)) only [va0, va1, va2, va3, va4, va5, va6, va7, va8, va9, va10, va11, va12, va13, va14, vb0, vb1, vb2, vb3, w_i8, w_u8, w_i16, w_u16, w_i32, w_u32, w_i64, w_u64, lt_T, lt_F, le_T, le_F, nlt_T, nlt_F, nle_T, nle_F, List.take_of_length_le, gB, gcW, gcR, posIn, renA, renL, Chunk.ren, Chunk.refs, evOpD, touchD, stepC, isFresh, nFresh, freshOf, mkR, hole, evL, evH, opd, get, putD, ofVal, cellOf, loadE, behind, lenE, idxAddrE, idxE, addPtr, intE, strE, unE, convE, AV.int, AV.bool, AV.str, ivs, take, frameOf, firstRegion, refsA, refsL, one, cellsA, floatOk, apartT, List.map, if_true, if_false, E_P, E_glob, reduceCtorEq, beq_self_eq_true, decide_true, decide_false, ↓reduceIte, Nat.reduceEqDiff, cond_true, cond_false, or_true, true_or, or_false, false_or, and_true, true_and, and_self, false_and, and_false, not_true, not_false_iff, Nat.reduceAdd, Nat.reduceSub, Nat.reduceMul, Nat.reduceLT, Nat.reduceLeDiff, Int.reduceToNat, Int.reduceLT, Int.reduceLE, Option.getD, Int.reduceMul, Int.reduceAdd, List.drop, List.take, Nat.reduceBEq, List.isEmpty, Int.reduceEq, Int.reduceNe, Int.reduceNeg, Int.reduceGT, Int.reduceGE, beq_true, beq_false, UInt8.reduceToNat, eqE, eq_self, foldE, maxE, minE, eq_T, eq_F, ndec, odec, adec, sdec, fillA, over, chop, List.replicate, leavesOk, leafOk, cellsEq, cellEq, E_ext, E_byref, en41, bs36, rows8_len, rows8_0, List.length_cons, res41]))
  all_goals unfold lowB highB sizeB
  all_goals (repeat' split) <;> first | (exfalso; omega) | exact ⟨_, rfl⟩
theorem ik41 (a : Int) (l : List Int) (hl : l.length < 100) (c g : Nat) (ex : Bool) (H : Hp) (hH : H[c]? = some (.sl 1 g (rows8 (a :: l)) ex)) : isoK E (callT E) 41 [.ref c g 0 (l.length + 1)] H = some (.tup [.i (.v (.int .u8 (lowB a (l.length + 1)))), .i (.v (.int .u8 (highB a (l.length + 1)))), .i (.v (.int .i64 (sizeB a)))], H) := isoK_ref rfl hH rfl rfl (c41 a l hl g ex)
/-- the character of a sequence of at least two bytes -/
def headV (a : Int) (n : Nat) : Int := if n = 2 then a - 192 else if n = 3 then a - 224 else if n = 4 then a - 240 else 0
def valV (l : List Int) (v : Int) : Int := l.foldl (fun v b => v * 64 + b - 128) v
theorem rows8_at {l : List Int} {k : Nat} (h : k < l.length) : (rows8 l)[k]? = some [.v (.int .u8 l[k])] := by simp [rows8, h]
theorem valV_le {l : List Int} (hb : ∀ b ∈ l, 128 ≤ b ∧ b ≤ 191) {v : Int} (h0 : 0 ≤ v) (h1 : v ≤ 31) (hl : l.length ≤ 3) : ∀ k, k ≤ l.length → 0 ≤ valV (l.take k) v ∧ valV (l.take k) v < 32 * 64 ^ k := by
  intro k
  induction k with
  | zero => intro _; simp [valV]; omega
  | succ k ih =>
    intro hk
    obtain ⟨i1, i2⟩ := ih (by omega)
    have hlt : k < l.length := by omega
    have hbk := hb l[k] (List.getElem_mem _)
    rw [List.take_succ_eq_append_getElem hlt]
    simp only [valV, List.foldl_append, List.foldl_cons, List.foldl_nil] at i1 i2 ⊢
    generalize List.foldl (fun v b => v * 64 + b - 128) v (List.take k l) = q at *
    rw [Int.pow_succ]
    generalize (64 : Int) ^ k = m at *
    omega
end Go.VI
