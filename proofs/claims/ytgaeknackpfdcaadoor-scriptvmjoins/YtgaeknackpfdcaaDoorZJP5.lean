import Derived.RangeFuncNested
import Derived.RangeFuncBound
import Derived.RangeFuncCalls
import Derived.RangeFuncLeaves
import Derived.Shelf.Abstract
import Derived.Shelf.RegionOpen
import Derived.WalkKit
import Derived.OwnWalkIn
import Derived.TacticsInMore
import Derived.LoopNIn
import Derived.LoopIn
import Derived.Test.YtgaeknackpfdcaaDoorZJP4
namespace Go.VI
open Go.Proofs
set_option maxRecDepth 100000
set_option linter.unusedSimpArgs false
set_option linter.unusedVariables false
set_option maxHeartbeats 4000000
def KB (t : List UInt8) (K : List Int) (st : Int) (i : Nat) : Prop := K ≠ [] → st + K.length = i ∧ 0 ≤ st ∧ K = ((t.take i).drop st.toNat).map fun b => (b.toNat : Int)
theorem ik61_1 (a : Int) (g : Nat) (ex : Bool) (x y : Chunk) (R : Hp) : isoK E (callT E) 61 [.ref 2 g 0 1] (x :: y :: .sl 1 g [[.v (.int .u8 a)]] ex :: R) = some (.tup [.i (.v (.int .u8 (lowB a 1))), .i (.v (.int .u8 (highB a 1))), .i (.v (.int .i64 (sizeB a)))], x :: y :: .sl 1 g [[.v (.int .u8 a)]] ex :: R) := ik61 a [] (by simp) 2 g ex _ rfl
theorem ik61_2 (a : Int) (l : List Int) (hl : l.length < 100) (g : Nat) (ex : Bool) (x : Chunk) (R : Hp) : isoK E (callT E) 61 [.ref 1 g 0 (l.length + 1)] (x :: .sl 1 g (rows8 (a :: l)) ex :: R) = some (.tup [.i (.v (.int .u8 (lowB a (l.length + 1)))), .i (.v (.int .u8 (highB a (l.length + 1)))), .i (.v (.int .i64 (sizeB a)))], x :: .sl 1 g (rows8 (a :: l)) ex :: R) := ik61 a l hl 1 g ex _ rfl
theorem l58 (t : List UInt8) (ht : t.length < 100000) (k : Nat) (hk : k ≤ t.length) (K : List Int) (d : Dec) (hK : RelK K d.s) (hl : d.out.length ≤ 2 * k + (if K = [] then 1 else 0)) (hB : KB t K d.st k) :
    ∃ K', rl E 0 58 (loopAt Tryd.f58 0) [(6, .i (.str t)), (7, .ref 0 0 0 d.out.length), (8, .ref 1 0 0 K.length), (9, .i (.v (.int .i64 k)))] [.sl 1 0 (rows32 d.out) false, .sl 1 0 (rows8 K) false] = some (.exit 0, [(6, .i (.str t)), (7, .ref 0 0 0 (runD (t.drop k) k d).out.length), (8, .ref 1 0 0 K'.length), (9, .i (.v (.int .i64 t.length))), (25, .i (.v (.bool false)))], [.sl 1 0 (rows32 (runD (t.drop k) k d).out) false, .sl 1 0 (rows8 K') false]) ∧
      RelK K' (runD (t.drop k) k d).s ∧ KB t K' (runD (t.drop k) k d).st t.length := by
  rw [rl_step (fn := Tryd.f58) (k := 0) rfl]
  by_cases hlt : k < t.length
  · have hb := byte_at hlt
    have b1 := t[k].toNat_lt
    have hr := begin_at (b := t[k].toNat) ⟨by omega, by omega⟩
    rw [List.drop_eq_getElem_cons hlt, runD]
    cases hK with
    | none s h =>
      simp only [if_true] at hl
      by_cases hA : (t[k].toNat : Int) < 128
      · have hst : stepD d k t[k].toNat = ⟨beginS t[k].toNat, d.out ++ [(t[k].toNat : Int)], k⟩ := by
          simp only [stepD, h, Int.lt_irrefl, false_and, if_false, hA, if_true]
        have hm0 : (beginS t[k].toNat).mi = 0 := by
          have := hr.2
          split at this
          · omega
          · exact this
        rw [hst]
        obtain ⟨K', i1, i2, i3⟩ := l58 t ht (k + 1) hlt [] ⟨beginS t[k].toNat, d.out ++ [(t[k].toNat : Int)], k⟩ (.none _ hm0) (by simp; omega) (fun h => absurd rfl h)
        refine ⟨K', Eq.trans ?_ i1, i2, i3⟩
        generalize t[k] = b at *
        simp (disch := first | omega | (simp only [vlen, rows8_len, rows32_len]; omega)) only [vall, List.take_of_length_le, gB, gcW, gcR, posIn, renA, renL, Chunk.ren, Chunk.refs, evOpD, touchD, stepC, isFresh, nFresh, freshOf, mkR, hole, evL, evH, opd, get, putD, ofVal, cellOf, loadE, behind, lenE, idxAddrE, idxE, lookE, lookM, addPtr, intE, strE, unE, convE, AV.int, AV.bool, AV.str, ivs, take, frameOf, firstRegion, refsA, refsL, one, cellsA, floatOk, apartT, List.map, if_true, if_false, E_P, E_glob0, E_glob1, reduceCtorEq, beq_self_eq_true, ↓reduceIte, Nat.reduceEqDiff, cond_true, cond_false, Nat.reduceAdd, Nat.reduceSub, Nat.reduceMul, Nat.reduceLT, Nat.reduceLeDiff, Int.reduceToNat, Int.reduceLT, Int.reduceLE, Option.getD, Int.reduceMul, Int.reduceAdd, List.drop, List.take, Nat.reduceBEq, List.isEmpty, Int.reduceEq, Int.reduceNe, Int.reduceNeg, Int.reduceGT, Int.reduceGE, beq_true, beq_false, UInt8.reduceToNat, eqE, eq_self, foldE, maxE, minE, fillA, over, chop, List.replicate, leavesOk, leafOk, cellsEq, cellEq, E_byref, en58, bs91, bs99, hb, ik61_1, rows8_len, rows8_snoc, rows32_len, rows32_snoc, show ∀ B fr H, execT E B 58 (Code.loop _) fr H = rlM E B 58 (loopAt Tryd.f58 0) [6, 7, 8, 9] [] (matF [(7, 1), (8, 1)] fr H).1 (matB [] (matF [(7, 1), (8, 1)] fr H).1 (matF [(7, 1), (8, 1)] fr H).2) from fun B fr H => rl_introM rfl mt58_5 mb58_5 zf58_5 hd58_5 fr H]
      · by_cases hz : 0 < sizeB t[k].toNat
        · rw [if_pos hz] at hr
          have hst : stepD d k t[k].toNat = ⟨beginS t[k].toNat, d.out, k⟩ := by
            simp only [stepD, h, Int.lt_irrefl, false_and, if_false, hA]
            rw [if_neg (by omega)]
          have hrel := begin_rel (b := t[k].toNat) ⟨by omega, by omega⟩ hz
          rw [hst]
          have hkb : KB t [(t[k].toNat : Int)] (k : Int) (k + 1) := fun _ => ⟨by simp, by omega, by
            rw [List.take_succ_eq_append_getElem hlt, Int.toNat_natCast, List.drop_append_of_le_length (by simp; omega)]
            simp⟩
          obtain ⟨K', i1, i2, i3⟩ := l58 t ht (k + 1) hlt [(t[k].toNat : Int)] ⟨beginS t[k].toNat, d.out, k⟩ hrel (by simp; omega) hkb
          refine ⟨K', Eq.trans ?_ i1, i2, i3⟩
          generalize t[k] = b at *
          simp (disch := first | omega | (simp only [vlen, rows8_len, rows32_len]; omega)) only [vall, List.take_of_length_le, gB, gcW, gcR, posIn, renA, renL, Chunk.ren, Chunk.refs, evOpD, touchD, stepC, isFresh, nFresh, freshOf, mkR, hole, evL, evH, opd, get, putD, ofVal, cellOf, loadE, behind, lenE, idxAddrE, idxE, lookE, lookM, addPtr, intE, strE, unE, convE, AV.int, AV.bool, AV.str, ivs, take, frameOf, firstRegion, refsA, refsL, one, cellsA, floatOk, apartT, List.map, if_true, if_false, E_P, E_glob0, E_glob1, reduceCtorEq, beq_self_eq_true, ↓reduceIte, Nat.reduceEqDiff, cond_true, cond_false, Nat.reduceAdd, Nat.reduceSub, Nat.reduceMul, Nat.reduceLT, Nat.reduceLeDiff, Int.reduceToNat, Int.reduceLT, Int.reduceLE, Option.getD, Int.reduceMul, Int.reduceAdd, List.drop, List.take, Nat.reduceBEq, List.isEmpty, Int.reduceEq, Int.reduceNe, Int.reduceNeg, Int.reduceGT, Int.reduceGE, beq_true, beq_false, UInt8.reduceToNat, eqE, eq_self, foldE, maxE, minE, fillA, over, chop, List.replicate, leavesOk, leafOk, cellsEq, cellEq, E_byref, en58, bs91, bs99, hb, ik61_1, rows8_len, rows8_snoc, rows32_len, rows32_snoc, show ∀ B fr H, execT E B 58 (Code.loop _) fr H = rlM E B 58 (loopAt Tryd.f58 0) [6, 7, 8, 9] [] (matF [(7, 1), (8, 1)] fr H).1 (matB [] (matF [(7, 1), (8, 1)] fr H).1 (matF [(7, 1), (8, 1)] fr H).2) from fun B fr H => rl_introM rfl mt58_5 mb58_5 zf58_5 hd58_5 fr H]
          all_goals try exact rfl
        · rw [if_neg hz] at hr
          have hst : stepD d k t[k].toNat = ⟨beginS t[k].toNat, d.out ++ [65533], k⟩ := by
            simp only [stepD, h, Int.lt_irrefl, false_and, if_false, hA, hr.2, if_true]
          rw [hst]
          obtain ⟨K', i1, i2, i3⟩ := l58 t ht (k + 1) hlt [] ⟨beginS t[k].toNat, d.out ++ [65533], k⟩ (.none _ hr.2) (by simp; omega) (fun h => absurd rfl h)
          refine ⟨K', Eq.trans ?_ i1, i2, i3⟩
          generalize t[k] = b at *
          simp (disch := first | omega | (simp only [vlen, rows8_len, rows32_len]; omega)) only [vall, List.take_of_length_le, gB, gcW, gcR, posIn, renA, renL, Chunk.ren, Chunk.refs, evOpD, touchD, stepC, isFresh, nFresh, freshOf, mkR, hole, evL, evH, opd, get, putD, ofVal, cellOf, loadE, behind, lenE, idxAddrE, idxE, lookE, lookM, addPtr, intE, strE, unE, convE, AV.int, AV.bool, AV.str, ivs, take, frameOf, firstRegion, refsA, refsL, one, cellsA, floatOk, apartT, List.map, if_true, if_false, E_P, E_glob0, E_glob1, reduceCtorEq, beq_self_eq_true, ↓reduceIte, Nat.reduceEqDiff, cond_true, cond_false, Nat.reduceAdd, Nat.reduceSub, Nat.reduceMul, Nat.reduceLT, Nat.reduceLeDiff, Int.reduceToNat, Int.reduceLT, Int.reduceLE, Option.getD, Int.reduceMul, Int.reduceAdd, List.drop, List.take, Nat.reduceBEq, List.isEmpty, Int.reduceEq, Int.reduceNe, Int.reduceNeg, Int.reduceGT, Int.reduceGE, beq_true, beq_false, UInt8.reduceToNat, eqE, eq_self, foldE, maxE, minE, fillA, over, chop, List.replicate, leavesOk, leafOk, cellsEq, cellEq, E_byref, en58, bs91, bs99, hb, ik61_1, rows8_len, rows8_snoc, rows32_len, rows32_snoc, show ∀ B fr H, execT E B 58 (Code.loop _) fr H = rlM E B 58 (loopAt Tryd.f58 0) [6, 7, 8, 9] [] (matF [(7, 1), (8, 1)] fr H).1 (matB [] (matF [(7, 1), (8, 1)] fr H).1 (matF [(7, 1), (8, 1)] fr H).2) from fun B fr H => rl_introM rfl mt58_5 mb58_5 zf58_5 hd58_5 fr H]
    | some a l s h1 h2 h3 hm hv hlo hhi =>
      rw [if_neg (by simp)] at hl
      obtain ⟨q1, q2⟩ := begin_at h1
      rw [if_pos (by omega)] at q2
      obtain ⟨q3, q4, q5, q6, q7, q8, q9, q10⟩ := q2
      obtain ⟨lh1, lh2⟩ := lowhigh a (l.length + 1)
      obtain ⟨kb1, kb2, kb3⟩ := hB (by simp)
      have hik := ik61_2 a l (by omega)
      have hmi : 0 < d.s.mi := by omega
      by_cases hin : lowB a (l.length + 1) ≤ t[k].toNat ∧ (t[k].toNat : Int) ≤ highB a (l.length + 1)
      · have h64 : (t[k].toNat : Int) % 64 = t[k].toNat - 128 := by omega
        have hvv : d.s.v * 64 + (t[k].toNat : Int) % 64 = valV (l ++ [(t[k].toNat : Int)]) (headV a (sizeB a).toNat) := by
          rw [h64, hv]; simp only [valV, List.foldl_append, List.foldl_cons, List.foldl_nil]; omega
        have h3' : ∀ b ∈ l ++ [(t[k].toNat : Int)], 128 ≤ b ∧ b ≤ 191 := by
          intro b hb; rcases List.mem_append.1 hb with hb | hb
          · exact h3 b hb
          · rw [List.mem_singleton.1 hb]; omega
        by_cases hfull : (l.length : Int) + 2 = sizeB a
        · have hst : stepD d k t[k].toNat = ⟨⟨valV (l ++ [(t[k].toNat : Int)]) (headV a (l.length + 1 + 1)), 0, 128, 191⟩, d.out ++ [valV (l ++ [(t[k].toNat : Int)]) (headV a (l.length + 1 + 1))], d.st⟩ := by
            unfold stepD
            rw [if_pos ⟨hmi, by omega, by omega⟩, hvv, if_pos (by omega), show (sizeB a).toNat = l.length + 1 + 1 by omega, show d.s.mi - 1 = 0 by omega]
          rw [hst]
          rw [show (sizeB a).toNat = l.length + 1 + 1 by omega] at q9 q10
          have hik2 := fun (g : Nat) (ex : Bool) (x : Chunk) (R : Hp) => ik62 a (l ++ [(t[k].toNat : Int)]) h1 h3' (by simp; omega) (by simpa using q9) (by simpa using q10) (by simp) 1 g ex (x :: .sl 1 g (rows8 (a :: (l ++ [(t[k].toNat : Int)]))) ex :: R) rfl
          simp only [List.length_append, List.length_cons, List.length_nil, Nat.zero_add] at hik2
          obtain ⟨K', i1, i2, i3⟩ := l58 t ht (k + 1) hlt [] ⟨⟨valV (l ++ [(t[k].toNat : Int)]) (headV a (l.length + 1 + 1)), 0, 128, 191⟩, d.out ++ [valV (l ++ [(t[k].toNat : Int)]) (headV a (l.length + 1 + 1))], d.st⟩ (.none _ rfl) (by simp; omega) (fun h => absurd rfl h)
          refine ⟨K', Eq.trans ?_ i1, i2, i3⟩
          generalize t[k] = b at *
          simp (disch := first | omega | (simp only [vlen, rows8_len, rows32_len]; omega)) only [vall, List.take_of_length_le, gB, gcW, gcR, posIn, renA, renL, Chunk.ren, Chunk.refs, evOpD, touchD, stepC, isFresh, nFresh, freshOf, mkR, hole, evL, evH, opd, get, putD, ofVal, cellOf, loadE, behind, lenE, idxAddrE, idxE, lookE, lookM, addPtr, intE, strE, unE, convE, AV.int, AV.bool, AV.str, ivs, take, frameOf, firstRegion, refsA, refsL, one, cellsA, floatOk, apartT, List.map, if_true, if_false, E_P, E_glob0, E_glob1, reduceCtorEq, beq_self_eq_true, ↓reduceIte, Nat.reduceEqDiff, cond_true, cond_false, Nat.reduceAdd, Nat.reduceSub, Nat.reduceMul, Nat.reduceLT, Nat.reduceLeDiff, Int.reduceToNat, Int.reduceLT, Int.reduceLE, Option.getD, Int.reduceMul, Int.reduceAdd, List.drop, List.take, Nat.reduceBEq, List.isEmpty, Int.reduceEq, Int.reduceNe, Int.reduceNeg, Int.reduceGT, Int.reduceGE, beq_true, beq_false, UInt8.reduceToNat, eqE, eq_self, foldE, maxE, minE, fillA, over, chop, List.replicate, leavesOk, leafOk, cellsEq, cellEq, E_byref, en58, bs91, bs99, hb, hik, hik2, List.cons_append, List.length_append, List.length_cons, rows8_len, rows8_snoc, rows32_len, rows32_snoc, show ∀ B fr H, execT E B 58 (Code.loop _) fr H = rlM E B 58 (loopAt Tryd.f58 0) [6, 7, 8, 9] [] (matF [(7, 1), (8, 1)] fr H).1 (matB [] (matF [(7, 1), (8, 1)] fr H).1 (matF [(7, 1), (8, 1)] fr H).2) from fun B fr H => rl_introM rfl mt58_5 mb58_5 zf58_5 hd58_5 fr H]
          all_goals try exact rfl
        · have hst : stepD d k t[k].toNat = ⟨⟨valV (l ++ [(t[k].toNat : Int)]) (headV a (sizeB a).toNat), d.s.mi - 1, 128, 191⟩, d.out, d.st⟩ := by
            unfold stepD
            rw [if_pos ⟨hmi, by omega, by omega⟩, hvv, if_neg (by omega)]
          rw [hst]
          have hkb : KB t (a :: (l ++ [(t[k].toNat : Int)])) d.st (k + 1) := fun _ => ⟨by simp at kb1 ⊢; omega, kb2, by
            simp at kb1
            rw [List.take_succ_eq_append_getElem hlt, List.drop_append_of_le_length (by simp; omega), List.map_append, ← kb3]
            simp⟩
          obtain ⟨K', i1, i2, i3⟩ := l58 t ht (k + 1) hlt (a :: (l ++ [(t[k].toNat : Int)])) ⟨⟨valV (l ++ [(t[k].toNat : Int)]) (headV a (sizeB a).toNat), d.s.mi - 1, 128, 191⟩, d.out, d.st⟩
            (.some a _ _ h1 (by simp; omega) h3' (by simp; omega) rfl (by simp [lowB]) (by simp [highB])) (by simp; omega) hkb
          refine ⟨K', Eq.trans ?_ i1, i2, i3⟩
          generalize t[k] = b at *
          simp (disch := first | omega | (simp only [vlen, rows8_len, rows32_len]; omega)) only [vall, List.take_of_length_le, gB, gcW, gcR, posIn, renA, renL, Chunk.ren, Chunk.refs, evOpD, touchD, stepC, isFresh, nFresh, freshOf, mkR, hole, evL, evH, opd, get, putD, ofVal, cellOf, loadE, behind, lenE, idxAddrE, idxE, lookE, lookM, addPtr, intE, strE, unE, convE, AV.int, AV.bool, AV.str, ivs, take, frameOf, firstRegion, refsA, refsL, one, cellsA, floatOk, apartT, List.map, if_true, if_false, E_P, E_glob0, E_glob1, reduceCtorEq, beq_self_eq_true, ↓reduceIte, Nat.reduceEqDiff, cond_true, cond_false, Nat.reduceAdd, Nat.reduceSub, Nat.reduceMul, Nat.reduceLT, Nat.reduceLeDiff, Int.reduceToNat, Int.reduceLT, Int.reduceLE, Option.getD, Int.reduceMul, Int.reduceAdd, List.drop, List.take, Nat.reduceBEq, List.isEmpty, Int.reduceEq, Int.reduceNe, Int.reduceNeg, Int.reduceGT, Int.reduceGE, beq_true, beq_false, UInt8.reduceToNat, eqE, eq_self, foldE, maxE, minE, fillA, over, chop, List.replicate, leavesOk, leafOk, cellsEq, cellEq, E_byref, en58, bs91, bs99, hb, hik, List.cons_append, List.length_append, List.length_cons, rows8_len, rows8_snoc, rows32_len, rows32_snoc, show ∀ B fr H, execT E B 58 (Code.loop _) fr H = rlM E B 58 (loopAt Tryd.f58 0) [6, 7, 8, 9] [] (matF [(7, 1), (8, 1)] fr H).1 (matB [] (matF [(7, 1), (8, 1)] fr H).1 (matF [(7, 1), (8, 1)] fr H).2) from fun B fr H => rl_introM rfl mt58_5 mb58_5 zf58_5 hd58_5 fr H]
      · have hst : stepD d k t[k].toNat = stepD ⟨⟨0, 0, 0, 0⟩, d.out ++ [65533], d.st⟩ k t[k].toNat := by
          have hA : ¬ (0 < d.s.mi ∧ d.s.lo ≤ t[k].toNat ∧ (t[k].toNat : Int) ≤ d.s.hi) := by rw [hlo, hhi]; exact fun h => hin h.2
          rw [stepD, if_neg hA]
          simp only [stepD, hmi, if_true, Int.lt_irrefl, false_and, if_false]
        rw [hst]
        obtain ⟨K', i1, i2, i3⟩ := l58 t ht k hk [] ⟨⟨0, 0, 0, 0⟩, d.out ++ [65533], d.st⟩ (.none _ rfl) (by simp; omega) (fun h => absurd rfl h)
        rw [List.drop_eq_getElem_cons hlt, runD] at i1 i2 i3
        refine ⟨K', Eq.trans ?_ i1, i2, i3⟩
        generalize t[k] = b at *
        (try simp (disch := first | omega | (simp only [vlen, rows8_len, rows32_len]; omega)) only [vall, List.take_of_length_le, gB, gcW, gcR, posIn, renA, renL, Chunk.ren, Chunk.refs, evOpD, touchD, stepC, isFresh, nFresh, freshOf, mkR, hole, evL, evH, opd, get, putD, ofVal, cellOf, loadE, behind, lenE, idxAddrE, idxE, lookE, lookM, addPtr, intE, strE, unE, convE, AV.int, AV.bool, AV.str, ivs, take, frameOf, firstRegion, refsA, refsL, one, cellsA, floatOk, apartT, List.map, if_true, if_false, E_P, E_glob0, E_glob1, reduceCtorEq, beq_self_eq_true, ↓reduceIte, Nat.reduceEqDiff, cond_true, cond_false, Nat.reduceAdd, Nat.reduceSub, Nat.reduceMul, Nat.reduceLT, Nat.reduceLeDiff, Int.reduceToNat, Int.reduceLT, Int.reduceLE, Option.getD, Int.reduceMul, Int.reduceAdd, List.drop, List.take, Nat.reduceBEq, List.isEmpty, Int.reduceEq, Int.reduceNe, Int.reduceNeg, Int.reduceGT, Int.reduceGE, beq_true, beq_false, UInt8.reduceToNat, eqE, eq_self, foldE, maxE, minE, fillA, over, chop, List.replicate, leavesOk, leafOk, cellsEq, cellEq, E_byref, en58, bs91, bs99, hb, hik, List.length_cons, rows8_len, rows8_snoc, rows32_len, rows32_snoc, show ∀ B fr H, execT E B 58 (Code.loop _) fr H = rlM E B 58 (loopAt Tryd.f58 0) [6, 7, 8, 9] [] (matF [(7, 1), (8, 1)] fr H).1 (matB [] (matF [(7, 1), (8, 1)] fr H).1 (matF [(7, 1), (8, 1)] fr H).2) from fun B fr H => rl_introM rfl mt58_5 mb58_5 zf58_5 hd58_5 fr H]) <;> repeat' ((first | rw [condK_ndec] | rw [condK_dec] | rw [condK_b] | rw [guK_ndec] | rw [guK_dec] | rw [guK_b] | rw [guT_ndec] | rw [guT_dec] | rw [guT_b] | rw [guD_dec] | rw [guD_b]) <;> split <;> (try subst_vars) <;> (try simp (disch := first | omega | (simp only [vlen, rows8_len, rows32_len]; omega)) only [vall, w_i8, w_u8, w_i16, w_u16, w_i32, w_u32, w_i64, w_u64, lt_T, lt_F, le_T, le_F, nlt_T, nlt_F, nle_T, nle_F, List.take_of_length_le, gB, gcW, gcR, posIn, renA, renL, Chunk.ren, Chunk.refs, evOpD, touchD, stepC, isFresh, nFresh, freshOf, mkR, hole, evL, evH, opd, get, putD, ofVal, cellOf, loadE, behind, lenE, idxAddrE, idxE, lookE, lookM, addPtr, intE, strE, unE, convE, AV.int, AV.bool, AV.str, ivs, take, frameOf, firstRegion, refsA, refsL, one, cellsA, floatOk, apartT, List.map, if_true, if_false, E_P, E_glob0, E_glob1, reduceCtorEq, beq_self_eq_true, decide_true, decide_false, ↓reduceIte, Nat.reduceEqDiff, cond_true, cond_false, or_true, true_or, or_false, false_or, and_true, true_and, and_self, false_and, and_false, not_true, not_false_iff, Nat.reduceAdd, Nat.reduceSub, Nat.reduceMul, Nat.reduceLT, Nat.reduceLeDiff, Int.reduceToNat, Int.reduceLT, Int.reduceLE, Option.getD, Int.reduceMul, Int.reduceAdd, List.drop, List.take, Nat.reduceBEq, List.isEmpty, Int.reduceEq, Int.reduceNe, Int.reduceNeg, Int.reduceGT, Int.reduceGE, beq_true, beq_false, UInt8.reduceToNat, eqE, eq_self, foldE, maxE, minE, eq_T, eq_F, ndec, odec, adec, sdec, fillA, over, chop, List.replicate, leavesOk, leafOk, cellsEq, cellEq, E_byref, en58, bs91, bs99, hb, hik, List.length_cons, rows8_len, rows8_snoc, rows32_len, rows32_snoc, show ∀ B fr H, execT E B 58 (Code.loop _) fr H = rlM E B 58 (loopAt Tryd.f58 0) [6, 7, 8, 9] [] (matF [(7, 1), (8, 1)] fr H).1 (matB [] (matF [(7, 1), (8, 1)] fr H).1 (matF [(7, 1), (8, 1)] fr H).2) from fun B fr H => rl_introM rfl mt58_5 mb58_5 zf58_5 hd58_5 fr H]))
        all_goals exact rfl
  · obtain rfl : k = t.length := by omega
    rw [List.drop_length, runD]
    refine ⟨K, ?_, hK, hB⟩
    simp (disch := first | omega | (simp only [vlen]; omega)) only [vall, List.take_of_length_le, gB, gcW, gcR, posIn, renA, renL, Chunk.ren, Chunk.refs, evOpD, touchD, stepC, isFresh, nFresh, freshOf, mkR, hole, evL, evH, opd, get, putD, ofVal, cellOf, loadE, behind, lenE, idxAddrE, idxE, lookE, lookM, addPtr, intE, strE, unE, convE, AV.int, AV.bool, AV.str, ivs, take, frameOf, firstRegion, refsA, refsL, one, cellsA, floatOk, apartT, List.map, if_true, if_false, E_P, E_glob0, E_glob1, reduceCtorEq, beq_self_eq_true, ↓reduceIte, Nat.reduceEqDiff, cond_true, cond_false, Nat.reduceAdd, Nat.reduceSub, Nat.reduceMul, Nat.reduceLT, Nat.reduceLeDiff, Int.reduceToNat, Int.reduceLT, Int.reduceLE, Option.getD, Int.reduceMul, Int.reduceAdd, List.drop, List.take, Nat.reduceBEq, List.isEmpty, Int.reduceEq, Int.reduceNe, Int.reduceNeg, Int.reduceGT, Int.reduceGE, beq_true, beq_false, UInt8.reduceToNat, eqE, eq_self, foldE, maxE, minE, fillA, over, chop, List.replicate, leavesOk, leafOk, cellsEq, cellEq, E_byref, en58, bs91, bs99]
termination_by 2 * (t.length - k) + (if K = [] then 0 else 1)
end Go.VI

namespace Go.VI
open Go.Proofs
set_option maxRecDepth 100000
set_option linter.unusedSimpArgs false
set_option linter.unusedVariables false
set_option maxHeartbeats 4000000
theorem numsOf_rows8 : ∀ K : List Int, numsOf (rows8 K) = some K
  | [] => rfl
  | a :: l => by
    have ih := numsOf_rows8 l
    simp only [rows8, List.map_cons] at ih ⊢
    simp [numsOf, ih]
theorem rest_rel {t : List UInt8} {K : List Int} {s : Sq} {st : Int} (hK : RelK K s) (hB : KB t K st t.length) : K.map (fun n => UInt8.ofNat n.toNat) = if s.mi = 0 then [] else t.drop st.toNat := by
  cases hK with
  | none s h => rw [if_pos h]; rfl
  | some a l s h1 h2 h3 hm hv hlo hhi =>
    rw [if_neg (by omega)]
    obtain ⟨_, _, h⟩ := hB (by simp)
    rw [h, List.take_length, List.map_map]
    conv => rhs; rw [← List.map_id (t.drop st.toNat)]
    apply List.map_congr_left
    intro b _
    simp
theorem l58_0 (t : List UInt8) (ht : (t.length : Int) < 100000) :
    ∃ K', rl E 0 58 (loopAt Tryd.f58 0) [(6, .i (.str t)), (7, .ref 0 0 0 0), (8, .ref 1 0 0 0), (9, .i (.v (.int .i64 0)))] [.sl 1 0 [] false, .sl 1 0 [] false] =
      some (.exit 0, [(6, .i (.str t)), (7, .ref 0 0 0 (decOut t).length), (8, .ref 1 0 0 K'.length), (9, .i (.v (.int .i64 t.length))), (25, .i (.v (.bool false)))], [.sl 1 0 (rows32 (decOut t)) false, .sl 1 0 (rows8 K') false]) ∧
      K'.map (fun n => UInt8.ofNat n.toNat) = decRest t := by
  obtain ⟨K', h1, h2, h3⟩ := l58 t (by omega) 0 (by omega) [] ⟨sq0, [], 0⟩ (.none _ rfl) (by simp) (fun h => absurd rfl h)
  exact ⟨K', h1, rest_rel h2 h3⟩
theorem c58 (p c : List UInt8) (ht : (p.length : Int) + c.length < 100000) : ∃ cc L, callT E 58 [.i (.str p), .i (.str c)] [] = some (.tup [.ref cc 0 0 (decOut (p ++ c)).length, .i (.str (decRest (p ++ c)))], L) ∧ L[cc]? = some (.sl 1 0 (rows32 (decOut (p ++ c))) false) := by
  have hlen : ((p ++ c).length : Int) < 100000 := by simp; omega
  obtain ⟨K', h, hr⟩ := l58_0 (p ++ c) hlen
  rw [← hr]
  have hnum := numsOf_rows8 K'
  have hl8 := rows8_len K'
  have hl32 := rows32_len (decOut (p ++ c))
  rw [callT_eq Tryd.func58 rfl fok58 (by simp [Tryd.ntmps58])]
  simp only [List.length_append] at h
  (try simp (disch := first | omega | (simp only [vlen, rows8_len, rows32_len]; omega)) only [vall, List.take_of_length_le, gB, gcW, gcR, posIn, renA, renL, Chunk.ren, Chunk.refs, evOpD, touchD, stepC, isFresh, nFresh, freshOf, mkR, hole, evL, evH, opd, get, putD, ofVal, cellOf, loadE, behind, lenE, idxAddrE, idxE, lookE, lookM, addPtr, intE, strE, unE, convE, AV.int, AV.bool, AV.str, ivs, take, frameOf, firstRegion, refsA, refsL, one, cellsA, floatOk, apartT, List.map, if_true, if_false, E_P, E_glob0, E_glob1, reduceCtorEq, beq_self_eq_true, ↓reduceIte, Nat.reduceEqDiff, cond_true, cond_false, Nat.reduceAdd, Nat.reduceSub, Nat.reduceMul, Nat.reduceLT, Nat.reduceLeDiff, Int.reduceToNat, Int.reduceLT, Int.reduceLE, Option.getD, Int.reduceMul, Int.reduceAdd, List.drop, List.take, Nat.reduceBEq, List.isEmpty, Int.reduceEq, Int.reduceNe, Int.reduceNeg, Int.reduceGT, Int.reduceGE, beq_true, beq_false, UInt8.reduceToNat, eqE, eq_self, foldE, maxE, minE, fillA, over, chop, List.replicate, leavesOk, leafOk, cellsEq, cellEq, E_byref, en58, bs91, bs99, h, hnum, hl8, Option.map_some, List.take_of_length_le, show ∀ B fr H, execT E B 58 (Code.loop _) fr H = rlM E B 58 (loopAt Tryd.f58 0) [6, 7, 8, 9] [] (matF [(7, 1), (8, 1)] fr H).1 (matB [] (matF [(7, 1), (8, 1)] fr H).1 (matF [(7, 1), (8, 1)] fr H).2) from fun B fr H => rl_introM rfl mt58_5 mb58_5 zf58_5 hd58_5 fr H]) <;> repeat' ((first | rw [condK_ndec] | rw [condK_dec] | rw [condK_b] | rw [guK_ndec] | rw [guK_dec] | rw [guK_b] | rw [guT_ndec] | rw [guT_dec] | rw [guT_b] | rw [guD_dec] | rw [guD_b]) <;> split <;> (try subst_vars) <;> (try simp (disch := first | omega | (simp only [vlen, rows8_len, rows32_len]; omega)) only [vall, w_i8, w_u8, w_i16, w_u16, w_i32, w_u32, w_i64, w_u64, lt_T, lt_F, le_T, le_F, nlt_T, nlt_F, nle_T, nle_F, List.take_of_length_le, gB, gcW, gcR, posIn, renA, renL, Chunk.ren, Chunk.refs, evOpD, touchD, stepC, isFresh, nFresh, freshOf, mkR, hole, evL, evH, opd, get, putD, ofVal, cellOf, loadE, behind, lenE, idxAddrE, idxE, lookE, lookM, addPtr, intE, strE, unE, convE, AV.int, AV.bool, AV.str, ivs, take, frameOf, firstRegion, refsA, refsL, one, cellsA, floatOk, apartT, List.map, if_true, if_false, E_P, E_glob0, E_glob1, reduceCtorEq, beq_self_eq_true, decide_true, decide_false, ↓reduceIte, Nat.reduceEqDiff, cond_true, cond_false, or_true, true_or, or_false, false_or, and_true, true_and, and_self, false_and, and_false, not_true, not_false_iff, Nat.reduceAdd, Nat.reduceSub, Nat.reduceMul, Nat.reduceLT, Nat.reduceLeDiff, Int.reduceToNat, Int.reduceLT, Int.reduceLE, Option.getD, Int.reduceMul, Int.reduceAdd, List.drop, List.take, Nat.reduceBEq, List.isEmpty, Int.reduceEq, Int.reduceNe, Int.reduceNeg, Int.reduceGT, Int.reduceGE, beq_true, beq_false, UInt8.reduceToNat, eqE, eq_self, foldE, maxE, minE, eq_T, eq_F, ndec, odec, adec, sdec, fillA, over, chop, List.replicate, leavesOk, leafOk, cellsEq, cellEq, E_byref, en58, bs91, bs99, h, hnum, hl8, Option.map_some, List.take_of_length_le, show ∀ B fr H, execT E B 58 (Code.loop _) fr H = rlM E B 58 (loopAt Tryd.f58 0) [6, 7, 8, 9] [] (matF [(7, 1), (8, 1)] fr H).1 (matB [] (matF [(7, 1), (8, 1)] fr H).1 (matF [(7, 1), (8, 1)] fr H).2) from fun B fr H => rl_introM rfl mt58_5 mb58_5 zf58_5 hd58_5 fr H]))
  all_goals exact ⟨_, _, rfl, rfl⟩
theorem ik58 (p c : List UInt8) (ht : (p.length : Int) + c.length < 100000) (H : Hp) : isoK E (callT E) 58 [.i (.str p), .i (.str c)] H = some (.tup [.ref H.length 0 0 (decOut (p ++ c)).length, .i (.str (decRest (p ++ c)))], H ++ [.sl 1 0 (rows32 (decOut (p ++ c))) false]) := by
  obtain ⟨cc, L, h1, h2⟩ := c58 p c ht
  exact isoK_new2 rfl rfl rfl ⟨L, h1, h2⟩
end Go.VI

namespace Go.VI
open Go.Proofs
set_option maxRecDepth 100000
set_option linter.unusedSimpArgs false
set_option linter.unusedVariables false
set_option maxHeartbeats 4000000
theorem decOut_lenM (t : List UInt8) : (decOut t).length ≤ 2 * t.length := by
  have key : ∀ (l : List UInt8) (i : Nat) (d : Dec), (runD l i d).out.length ≤ d.out.length + 2 * l.length := by
    intro l
    induction l with
    | nil => intro i d; simp [runD]
    | cons b l ih =>
      intro i d
      have h1 := ih (i + 1) (stepD d i b.toNat)
      have h2 := stepD_len d i b.toNat
      simp only [runD, List.length_cons]; omega
  have := key t 0 ⟨sq0, [], 0⟩
  simpa [decOut, decD] using this
theorem decRest_lenM (t : List UInt8) : (decRest t).length ≤ t.length := by
  unfold decRest; split
  · exact Nat.zero_le _
  · simp
theorem stepD_rune {d : Dec} (h : SqOK d.s) (hr : ∀ c ∈ d.out, 0 ≤ c ∧ c ≤ 2147483647) (i b : Int) (h0 : 0 ≤ b) (h1 : b ≤ 255) : ∀ c ∈ (stepD d i b).out, 0 ≤ c ∧ c ≤ 2147483647 := by
  have ha : ∀ (l : List Int) (x : Int), (∀ c ∈ l, 0 ≤ c ∧ c ≤ 2147483647) → 0 ≤ x → x ≤ 2147483647 → ∀ c ∈ l ++ [x], 0 ≤ c ∧ c ≤ 2147483647 := by
    intro l x hl hx hx2 c hc
    rcases List.mem_append.1 hc with h | h
    · exact hl c h
    · rw [List.mem_singleton.1 h]; exact ⟨hx, hx2⟩
  unfold stepD
  split
  · rename_i hc
    simp only
    split
    · have : 0 ≤ d.s.v ∧ d.s.v < 32768 := by unfold SqOK at h; omega
      exact ha _ _ hr (by omega) (by omega)
    · exact hr
  · have ho : ∀ c ∈ (if 0 < d.s.mi then d.out ++ [65533] else d.out), 0 ≤ c ∧ c ≤ 2147483647 := by
      split
      · exact ha _ _ hr (by omega) (by omega)
      · exact hr
    simp only
    generalize (if 0 < d.s.mi then d.out ++ [65533] else d.out) = o at ho ⊢
    split
    · exact ha _ _ ho h0 (by omega)
    · split
      · exact ha _ _ ho (by omega) (by omega)
      · exact ho
theorem runD_rune : ∀ (l : List UInt8) (i : Nat) (d : Dec), SqOK d.s → (∀ c ∈ d.out, 0 ≤ c ∧ c ≤ 2147483647) → ∀ c ∈ (runD l i d).out, 0 ≤ c ∧ c ≤ 2147483647
  | [], i, d, h, hr => hr
  | b :: l, i, d, h, hr => by
    have hb : ((b.toNat : Nat) : Int) ≤ 255 := by have := b.toNat_lt; omega
    exact runD_rune l (i + 1) _ (stepD_ok h _ _ (by omega) hb) (stepD_rune h hr _ _ (by omega) hb)
theorem decOut_rune (t : List UInt8) : ∀ c ∈ decOut t, 0 ≤ c ∧ c ≤ 2147483647 := runD_rune t 0 ⟨sq0, [], 0⟩ (.inl rfl) (by simp)
def finS (t : List UInt8) : List Int := decOut t ++ if decRest t = [] then [] else [65533]
theorem finS_len (t : List UInt8) : (finS t).length ≤ 2 * t.length + 1 := by
  have := decOut_lenM t
  unfold finS; rw [List.length_append]; split <;> simp <;> omega
theorem c57 (t : List UInt8) (ht : (t.length : Int) < 50000) : ∃ L, callT E 57 [.i (.str t)] [] = some (.i (.sl 1 (rows32 (finS t)) false), L) := by
  have hd := fun H => ik56 [] t (by simp; omega) H
  rw [List.nil_append] at hd
  have hl := decOut_lenM t
  have hr := rows32_len (decOut t)
  have htk : List.take (decOut t).length (rows32 (decOut t)) = rows32 (decOut t) := List.take_of_length_le (by omega)
  unfold finS
  by_cases h0 : decRest t = []
  · rw [if_pos h0, List.append_nil]
    rw [callT_eq Tryd.func57 rfl fok57 (by simp [Tryd.ntmps57])]
    simp (disch := first | omega | (simp only [vlen, rows32_len]; omega)) only [vall, List.take_of_length_le, gB, gcW, gcR, posIn, renA, renL, Chunk.ren, Chunk.refs, evOpD, touchD, stepC, isFresh, nFresh, freshOf, mkR, hole, evL, evH, opd, get, putD, ofVal, cellOf, loadE, behind, lenE, idxAddrE, idxE, lookE, lookM, addPtr, intE, strE, unE, convE, AV.int, AV.bool, AV.str, ivs, take, frameOf, firstRegion, refsA, refsL, one, cellsA, floatOk, apartT, List.map, if_true, if_false, E_P, E_glob0, E_glob1, reduceCtorEq, beq_self_eq_true, ↓reduceIte, Nat.reduceEqDiff, cond_true, cond_false, Nat.reduceAdd, Nat.reduceSub, Nat.reduceMul, Nat.reduceLT, Nat.reduceLeDiff, Int.reduceToNat, Int.reduceLT, Int.reduceLE, Option.getD, Int.reduceMul, Int.reduceAdd, List.drop, List.take, Nat.reduceBEq, List.isEmpty, Int.reduceEq, Int.reduceNe, Int.reduceNeg, Int.reduceGT, Int.reduceGE, beq_true, beq_false, UInt8.reduceToNat, eqE, eq_self, foldE, maxE, minE, fillA, over, chop, List.replicate, leavesOk, leafOk, cellsEq, cellEq, E_byref, en57, bs91, hd, h0, hr, htk]
    exact ⟨_, rfl⟩
  · rw [if_neg h0]
    have hsn := rows32_snoc (decOut t) 65533
    have h0' : (decRest t == []) = false := by simp [h0]
    have hr2 := rows32_len (decOut t ++ [65533])
    have htk2 : List.take ((decOut t).length + 1) (rows32 (decOut t ++ [65533])) = rows32 (decOut t ++ [65533]) := List.take_of_length_le (by rw [hr2, List.length_append]; exact Nat.le_refl _)
    rw [callT_eq Tryd.func57 rfl fok57 (by simp [Tryd.ntmps57])]
    simp (disch := first | omega | (simp only [vlen, rows32_len]; omega)) only [vall, List.take_of_length_le, gB, gcW, gcR, posIn, renA, renL, Chunk.ren, Chunk.refs, evOpD, touchD, stepC, isFresh, nFresh, freshOf, mkR, hole, evL, evH, opd, get, putD, ofVal, cellOf, loadE, behind, lenE, idxAddrE, idxE, lookE, lookM, addPtr, intE, strE, unE, convE, AV.int, AV.bool, AV.str, ivs, take, frameOf, firstRegion, refsA, refsL, one, cellsA, floatOk, apartT, List.map, if_true, if_false, E_P, E_glob0, E_glob1, reduceCtorEq, beq_self_eq_true, ↓reduceIte, Nat.reduceEqDiff, cond_true, cond_false, Nat.reduceAdd, Nat.reduceSub, Nat.reduceMul, Nat.reduceLT, Nat.reduceLeDiff, Int.reduceToNat, Int.reduceLT, Int.reduceLE, Option.getD, Int.reduceMul, Int.reduceAdd, List.drop, List.take, Nat.reduceBEq, List.isEmpty, Int.reduceEq, Int.reduceNe, Int.reduceNeg, Int.reduceGT, Int.reduceGE, beq_true, beq_false, UInt8.reduceToNat, eqE, eq_self, foldE, maxE, minE, fillA, over, chop, List.replicate, leavesOk, leafOk, cellsEq, cellEq, E_byref, en57, bs91, hd, h0, h0', hr, hr2, htk, htk2, hsn]
    exact ⟨_, rfl⟩
theorem ik57 (t : List UInt8) (ht : (t.length : Int) < 50000) (H : Hp) : isoK E (callT E) 57 [.i (.str t)] H = some (.i (.sl 1 (rows32 (finS t)) false), H) := isoK_val rfl rfl rfl (c57 t ht)
theorem c59 (t : List UInt8) (ht : (t.length : Int) < 50000) : ∃ L, callT E 59 [.i (.str t)] [] = some (.i (.sl 1 (rows32 (finS t)) false), L) := by
  have hd := fun H => ik58 [] t (by simp; omega) H
  rw [List.nil_append] at hd
  have hl := decOut_lenM t
  have hr := rows32_len (decOut t)
  have htk : List.take (decOut t).length (rows32 (decOut t)) = rows32 (decOut t) := List.take_of_length_le (by omega)
  unfold finS
  by_cases h0 : decRest t = []
  · rw [if_pos h0, List.append_nil]
    rw [callT_eq Tryd.func59 rfl fok59 (by simp [Tryd.ntmps59])]
    simp (disch := first | omega | (simp only [vlen, rows32_len]; omega)) only [vall, List.take_of_length_le, gB, gcW, gcR, posIn, renA, renL, Chunk.ren, Chunk.refs, evOpD, touchD, stepC, isFresh, nFresh, freshOf, mkR, hole, evL, evH, opd, get, putD, ofVal, cellOf, loadE, behind, lenE, idxAddrE, idxE, lookE, lookM, addPtr, intE, strE, unE, convE, AV.int, AV.bool, AV.str, ivs, take, frameOf, firstRegion, refsA, refsL, one, cellsA, floatOk, apartT, List.map, if_true, if_false, E_P, E_glob0, E_glob1, reduceCtorEq, beq_self_eq_true, ↓reduceIte, Nat.reduceEqDiff, cond_true, cond_false, Nat.reduceAdd, Nat.reduceSub, Nat.reduceMul, Nat.reduceLT, Nat.reduceLeDiff, Int.reduceToNat, Int.reduceLT, Int.reduceLE, Option.getD, Int.reduceMul, Int.reduceAdd, List.drop, List.take, Nat.reduceBEq, List.isEmpty, Int.reduceEq, Int.reduceNe, Int.reduceNeg, Int.reduceGT, Int.reduceGE, beq_true, beq_false, UInt8.reduceToNat, eqE, eq_self, foldE, maxE, minE, fillA, over, chop, List.replicate, leavesOk, leafOk, cellsEq, cellEq, E_byref, en59, bs91, hd, h0, hr, htk]
    exact ⟨_, rfl⟩
  · rw [if_neg h0]
    have hsn := rows32_snoc (decOut t) 65533
    have h0' : (decRest t == []) = false := by simp [h0]
    have hr2 := rows32_len (decOut t ++ [65533])
    have htk2 : List.take ((decOut t).length + 1) (rows32 (decOut t ++ [65533])) = rows32 (decOut t ++ [65533]) := List.take_of_length_le (by rw [hr2, List.length_append]; exact Nat.le_refl _)
    rw [callT_eq Tryd.func59 rfl fok59 (by simp [Tryd.ntmps59])]
    simp (disch := first | omega | (simp only [vlen, rows32_len]; omega)) only [vall, List.take_of_length_le, gB, gcW, gcR, posIn, renA, renL, Chunk.ren, Chunk.refs, evOpD, touchD, stepC, isFresh, nFresh, freshOf, mkR, hole, evL, evH, opd, get, putD, ofVal, cellOf, loadE, behind, lenE, idxAddrE, idxE, lookE, lookM, addPtr, intE, strE, unE, convE, AV.int, AV.bool, AV.str, ivs, take, frameOf, firstRegion, refsA, refsL, one, cellsA, floatOk, apartT, List.map, if_true, if_false, E_P, E_glob0, E_glob1, reduceCtorEq, beq_self_eq_true, ↓reduceIte, Nat.reduceEqDiff, cond_true, cond_false, Nat.reduceAdd, Nat.reduceSub, Nat.reduceMul, Nat.reduceLT, Nat.reduceLeDiff, Int.reduceToNat, Int.reduceLT, Int.reduceLE, Option.getD, Int.reduceMul, Int.reduceAdd, List.drop, List.take, Nat.reduceBEq, List.isEmpty, Int.reduceEq, Int.reduceNe, Int.reduceNeg, Int.reduceGT, Int.reduceGE, beq_true, beq_false, UInt8.reduceToNat, eqE, eq_self, foldE, maxE, minE, fillA, over, chop, List.replicate, leavesOk, leafOk, cellsEq, cellEq, E_byref, en59, bs91, hd, h0, h0', hr, hr2, htk, htk2, hsn]
    exact ⟨_, rfl⟩
theorem ik59 (t : List UInt8) (ht : (t.length : Int) < 50000) (H : Hp) : isoK E (callT E) 59 [.i (.str t)] H = some (.i (.sl 1 (rows32 (finS t)) false), H) := isoK_val rfl rfl rfl (c59 t ht)
theorem rows32_app (a b : List Int) : rows32 a ++ rows32 b = rows32 (a ++ b) := by simp [rows32]
theorem rows32_0 (a : Int) (l : List Int) : (rows32 (a :: l))[0]? = some [.v (.int .i32 a)] := rfl
def firstL (t : List UInt8) : List Int := decOut t ++ finS (decRest t)
def firstS (t : List UInt8) : Int := (firstL t).getD 0 0
theorem firstL_b (t : List UInt8) : ∀ c ∈ firstL t, 0 ≤ c ∧ c ≤ 2147483647 := by
  intro c hc
  unfold firstL finS at hc
  simp only [List.mem_append] at hc
  rcases hc with h | h | h
  · exact decOut_rune _ c h
  · exact decOut_rune _ c h
  · split at h
    · cases h
    · rw [List.mem_singleton.1 h]; decide
theorem firstS_b (t : List UInt8) : 0 ≤ firstS t ∧ firstS t ≤ 2147483647 := by
  unfold firstS
  rw [List.getD_eq_getElem?_getD]
  cases e : (firstL t)[0]? with
  | none => decide
  | some x => exact firstL_b t x (List.mem_of_getElem? e)
def codeG (g : Gl) : Int := if g.2.2 = 3 then 42 else firstS g.1
def charS (l : List Gl) (i : Int) : Int := if i < 0 ∨ (l.length : Int) ≤ i then 0 else codeG (l.getD i.toNat ([], false, 0))
def styleV (l : List Gl) (i : Int) : Int := if i < 0 ∨ (l.length : Int) ≤ i then 0 else (l.getD i.toNat ([], false, 0)).2.2
def okG (l : List Gl) : Prop := l.length ≤ 100 ∧ ∀ g ∈ l, g.1.length ≤ 40 ∧ -9223372036854775808 ≤ g.2.2 ∧ g.2.2 ≤ 9223372036854775807
theorem codeG_b (g : Gl) : 0 ≤ codeG g ∧ codeG g ≤ 2147483647 := by
  unfold codeG; split
  · decide
  · exact firstS_b _
theorem charS_b (l : List Gl) (i : Int) : -9223372036854775808 ≤ charS l i ∧ charS l i ≤ 9223372036854775807 := by
  unfold charS; split
  · decide
  · have := codeG_b (l.getD i.toNat ([], false, 0)); omega
theorem okG_at {l : List Gl} (h : okG l) (k : Nat) : (l.getD k ([], false, 0)).1.length ≤ 40 ∧ -9223372036854775808 ≤ (l.getD k ([], false, 0)).2.2 ∧ (l.getD k ([], false, 0)).2.2 ≤ 9223372036854775807 := by
  rw [List.getD_eq_getElem?_getD]
  cases e : l[k]? with
  | none => exact ⟨by decide, by decide, by decide⟩
  | some x => exact h.2 x (List.mem_of_getElem? e)
theorem styleV_b {l : List Gl} (h : okG l) (i : Int) : -9223372036854775808 ≤ styleV l i ∧ styleV l i ≤ 9223372036854775807 := by
  unfold styleV; split
  · decide
  · exact (okG_at h _).2
theorem ik41_in (l : List Gl) (hl : l.length ≤ 1000000) (X : List AV) (hX : ∀ B H, cnL B H X = X) (h1 : X[1]? = some (.i (.sl 3 (rowsG l) false))) (hx : X.length = 23) (hr : refsL X = []) (i : Int) (hi : 0 ≤ i ∧ i < l.length) (T : Hp) :
    isoK E (callT E) 41 [.ptr 0 0 0 0, .i (.v (.int .i64 i))] (.box X :: T) = some (.tup [.agg [.i (.str (l.getD i.toNat ([], false, 0)).1), .i (.v (.bool (l.getD i.toNat ([], false, 0)).2.1)), .i (.v (.int .i64 (l.getD i.toNat ([], false, 0)).2.2))], .i (.v (.bool true))], .box X :: T) :=
  isoK_mc rfl rfl rfl hr hr (c41_in l hl X hX h1 hx i hi) T
theorem ik41_out (l : List Gl) (hl : l.length ≤ 1000000) (X : List AV) (hX : ∀ B H, cnL B H X = X) (h1 : X[1]? = some (.i (.sl 3 (rowsG l) false))) (hx : X.length = 23) (hr : refsL X = []) (i : Int) (hi : i < 0 ∨ (l.length : Int) ≤ i) (T : Hp) :
    isoK E (callT E) 41 [.ptr 0 0 0 0, .i (.v (.int .i64 i))] (.box X :: T) = some (.tup [.agg [.i (.str []), .i (.v (.bool false)), .i (.v (.int .i64 0))], .i (.v (.bool false))], .box X :: T) :=
  isoK_mc rfl rfl rfl hr hr (c41_out l hl X hX h1 hx i hi) T
theorem c40 (l : List Gl) (hg : okG l) (X : List AV) (hX : ∀ B H, cnL B H X = X) (h1 : X[1]? = some (.i (.sl 3 (rowsG l) false))) (hx : X.length = 23) (hr : refsL X = []) (i : Int) :
    ∃ L, callT E 40 [.ptr 0 0 0 0, .i (.v (.int .i64 i))] [.box X] = some (.i (.v (.int .i64 (charS l i))), .box X :: L) := by
  unfold charS
  by_cases hi : i < 0 ∨ (l.length : Int) ≤ i
  · have hgl := fun T => ik41_out l (by have := hg.1; omega) X hX h1 hx hr i hi T
    rw [if_pos hi]
    rw [callT_eq Tryd.func40 rfl fok40 (by simp [Tryd.ntmps40])]
    simp (disch := first | omega | (simp only [vlen]; omega)) only [vall, List.take_of_length_le, gB, gcW, gcR, posIn, renA, renL, Chunk.ren, Chunk.refs, evOpD, touchD, stepC, isFresh, nFresh, freshOf, mkR, hole, evL, evH, opd, get, putD, ofVal, cellOf, loadE, behind, lenE, idxAddrE, idxE, lookE, lookM, addPtr, intE, strE, unE, convE, AV.int, AV.bool, AV.str, ivs, take, frameOf, firstRegion, refsA, refsL, one, cellsA, floatOk, apartT, List.map, if_true, if_false, E_P, E_glob0, E_glob1, reduceCtorEq, beq_self_eq_true, ↓reduceIte, Nat.reduceEqDiff, cond_true, cond_false, Nat.reduceAdd, Nat.reduceSub, Nat.reduceMul, Nat.reduceLT, Nat.reduceLeDiff, Int.reduceToNat, Int.reduceLT, Int.reduceLE, Option.getD, Int.reduceMul, Int.reduceAdd, List.drop, List.take, Nat.reduceBEq, List.isEmpty, Int.reduceEq, Int.reduceNe, Int.reduceNeg, Int.reduceGT, Int.reduceGE, beq_true, beq_false, UInt8.reduceToNat, eqE, eq_self, foldE, maxE, minE, fillA, over, chop, List.replicate, leavesOk, leafOk, cellsEq, cellEq, E_byref, en40, bs91, hgl, hX]
    exact ⟨_, rfl⟩
  · have hgl := fun T => ik41_in l (by have := hg.1; omega) X hX h1 hx hr i (by omega) T
    rw [if_neg hi]
    have hb := okG_at hg i.toNat
    generalize l.getD i.toNat ([], false, 0) = g at *
    obtain ⟨t, cc, s⟩ := g
    simp only at hgl hb
    unfold codeG
    simp only
    by_cases hs : s = 3
    · rw [if_pos hs]
      subst hs
      rw [callT_eq Tryd.func40 rfl fok40 (by simp [Tryd.ntmps40])]
      simp (disch := first | omega | (simp only [vlen]; omega)) only [vall, List.take_of_length_le, gB, gcW, gcR, posIn, renA, renL, Chunk.ren, Chunk.refs, evOpD, touchD, stepC, isFresh, nFresh, freshOf, mkR, hole, evL, evH, opd, get, putD, ofVal, cellOf, loadE, behind, lenE, idxAddrE, idxE, lookE, lookM, addPtr, intE, strE, unE, convE, AV.int, AV.bool, AV.str, ivs, take, frameOf, firstRegion, refsA, refsL, one, cellsA, floatOk, apartT, List.map, if_true, if_false, E_P, E_glob0, E_glob1, reduceCtorEq, beq_self_eq_true, ↓reduceIte, Nat.reduceEqDiff, cond_true, cond_false, Nat.reduceAdd, Nat.reduceSub, Nat.reduceMul, Nat.reduceLT, Nat.reduceLeDiff, Int.reduceToNat, Int.reduceLT, Int.reduceLE, Option.getD, Int.reduceMul, Int.reduceAdd, List.drop, List.take, Nat.reduceBEq, List.isEmpty, Int.reduceEq, Int.reduceNe, Int.reduceNeg, Int.reduceGT, Int.reduceGE, beq_true, beq_false, UInt8.reduceToNat, eqE, eq_self, foldE, maxE, minE, fillA, over, chop, List.replicate, leavesOk, leafOk, cellsEq, cellEq, E_byref, en40, bs91, hgl, hX]
      exact ⟨_, rfl⟩
    · rw [if_neg hs]
      have hd := fun H => ik56 [] t (by simp; omega) H
      rw [List.nil_append] at hd
      have hl := decOut_lenM t
      have hl2 := decRest_lenM t
      have hf := fun H => ik57 (decRest t) (by omega) H
      have hlf := finS_len (decRest t)
      have hap := rows32_app (decOut t) (finS (decRest t))
      have htk : List.take (decOut t).length (rows32 (decOut t)) = rows32 (decOut t) := List.take_of_length_le (by rw [rows32_len]; exact Nat.le_refl _)
      have hln : (firstL t).length = (decOut t).length + (finS (decRest t)).length := by simp [firstL]
      have hb3 := firstL_b t
      rw [show decOut t ++ finS (decRest t) = firstL t from rfl] at hap
      unfold firstS
      generalize firstL t = F at *
      generalize decOut t = D at *
      generalize finS (decRest t) = D2 at *
      cases F with
      | nil =>
        rw [show ([] : List Int).getD 0 0 = 0 from rfl]
        rw [List.length_nil] at hln
        rw [callT_eq Tryd.func40 rfl fok40 (by simp [Tryd.ntmps40])]
        simp (disch := first | omega | (simp only [vlen, rows32_len]; omega)) only [vall, List.take_of_length_le, gB, gcW, gcR, posIn, renA, renL, Chunk.ren, Chunk.refs, evOpD, touchD, stepC, isFresh, nFresh, freshOf, mkR, hole, evL, evH, opd, get, putD, ofVal, cellOf, loadE, behind, lenE, idxAddrE, idxE, lookE, lookM, addPtr, intE, strE, unE, convE, AV.int, AV.bool, AV.str, ivs, take, frameOf, firstRegion, refsA, refsL, one, cellsA, floatOk, apartT, List.map, if_true, if_false, E_P, E_glob0, E_glob1, reduceCtorEq, beq_self_eq_true, ↓reduceIte, Nat.reduceEqDiff, cond_true, cond_false, Nat.reduceAdd, Nat.reduceSub, Nat.reduceMul, Nat.reduceLT, Nat.reduceLeDiff, Int.reduceToNat, Int.reduceLT, Int.reduceLE, Option.getD, Int.reduceMul, Int.reduceAdd, List.drop, List.take, Nat.reduceBEq, List.isEmpty, Int.reduceEq, Int.reduceNe, Int.reduceNeg, Int.reduceGT, Int.reduceGE, beq_true, beq_false, UInt8.reduceToNat, eqE, eq_self, foldE, maxE, minE, fillA, over, chop, List.replicate, leavesOk, leafOk, cellsEq, cellEq, E_byref, en40, bs91, hgl, hX, hs, hd, hf, hap, htk, rows32_len]
        exact ⟨_, rfl⟩
      | cons a F =>
        rw [show (a :: F).getD 0 0 = a from rfl]
        rw [List.length_cons] at hln
        have hrow := rows32_0 a F
        have hba := hb3 a (List.mem_cons_self)
        rw [callT_eq Tryd.func40 rfl fok40 (by simp [Tryd.ntmps40])]
        simp (disch := first | omega | (simp only [vlen, rows32_len]; omega)) only [vall, List.take_of_length_le, gB, gcW, gcR, posIn, renA, renL, Chunk.ren, Chunk.refs, evOpD, touchD, stepC, isFresh, nFresh, freshOf, mkR, hole, evL, evH, opd, get, putD, ofVal, cellOf, loadE, behind, lenE, idxAddrE, idxE, lookE, lookM, addPtr, intE, strE, unE, convE, AV.int, AV.bool, AV.str, ivs, take, frameOf, firstRegion, refsA, refsL, one, cellsA, floatOk, apartT, List.map, if_true, if_false, E_P, E_glob0, E_glob1, reduceCtorEq, beq_self_eq_true, ↓reduceIte, Nat.reduceEqDiff, cond_true, cond_false, Nat.reduceAdd, Nat.reduceSub, Nat.reduceMul, Nat.reduceLT, Nat.reduceLeDiff, Int.reduceToNat, Int.reduceLT, Int.reduceLE, Option.getD, Int.reduceMul, Int.reduceAdd, List.drop, List.take, Nat.reduceBEq, List.isEmpty, Int.reduceEq, Int.reduceNe, Int.reduceNeg, Int.reduceGT, Int.reduceGE, beq_true, beq_false, UInt8.reduceToNat, eqE, eq_self, foldE, maxE, minE, fillA, over, chop, List.replicate, leavesOk, leafOk, cellsEq, cellEq, E_byref, en40, bs91, hgl, hX, hs, hd, hf, hap, htk, hrow, rows32_len]
        exact ⟨_, rfl⟩
theorem ik40 (l : List Gl) (hg : okG l) (X : List AV) (hX : ∀ B H, cnL B H X = X) (h1 : X[1]? = some (.i (.sl 3 (rowsG l) false))) (hx : X.length = 23) (hr : refsL X = []) (i : Int) (T : Hp) :
    isoK E (callT E) 40 [.ptr 0 0 0 0, .i (.v (.int .i64 i))] (.box X :: T) = some (.i (.v (.int .i64 (charS l i))), .box X :: T) :=
  isoK_mc rfl rfl rfl hr hr (c40 l hg X hX h1 hx hr i) T
theorem c44 (l : List Gl) (hg : okG l) (i : Int) : ∃ L, callT E 44 [.i (.sl 3 (rowsG l) false), .i (.v (.int .i64 i))] [] = some (.i (.v (.int .i64 (charS l i))), L) := by
  unfold charS
  have hg1 := hg.1
  by_cases hi : i < 0
  · rw [if_pos (.inl hi)]
    rw [callT_eq Tryd.func44 rfl fok44 (by simp [Tryd.ntmps44])]
    simp (disch := first | omega | (simp only [vlen, rowsG_len]; omega)) only [vall, List.take_of_length_le, gB, gcW, gcR, posIn, renA, renL, Chunk.ren, Chunk.refs, evOpD, touchD, stepC, isFresh, nFresh, freshOf, mkR, hole, evL, evH, opd, get, putD, ofVal, cellOf, loadE, behind, lenE, idxAddrE, idxE, lookE, lookM, addPtr, intE, strE, unE, convE, AV.int, AV.bool, AV.str, ivs, take, frameOf, firstRegion, refsA, refsL, one, cellsA, floatOk, apartT, List.map, if_true, if_false, E_P, E_glob0, E_glob1, reduceCtorEq, beq_self_eq_true, ↓reduceIte, Nat.reduceEqDiff, cond_true, cond_false, Nat.reduceAdd, Nat.reduceSub, Nat.reduceMul, Nat.reduceLT, Nat.reduceLeDiff, Int.reduceToNat, Int.reduceLT, Int.reduceLE, Option.getD, Int.reduceMul, Int.reduceAdd, List.drop, List.take, Nat.reduceBEq, List.isEmpty, Int.reduceEq, Int.reduceNe, Int.reduceNeg, Int.reduceGT, Int.reduceGE, beq_true, beq_false, UInt8.reduceToNat, eqE, eq_self, foldE, maxE, minE, fillA, over, chop, List.replicate, leavesOk, leafOk, cellsEq, cellEq, E_byref, en44, bs23, bs91, hi, rowsG_len]
    exact ⟨_, rfl⟩
  · by_cases hi2 : (l.length : Int) ≤ i
    · rw [if_pos (.inr hi2)]
      rw [callT_eq Tryd.func44 rfl fok44 (by simp [Tryd.ntmps44])]
      simp (disch := first | omega | (simp only [vlen, rowsG_len]; omega)) only [vall, List.take_of_length_le, gB, gcW, gcR, posIn, renA, renL, Chunk.ren, Chunk.refs, evOpD, touchD, stepC, isFresh, nFresh, freshOf, mkR, hole, evL, evH, opd, get, putD, ofVal, cellOf, loadE, behind, lenE, idxAddrE, idxE, lookE, lookM, addPtr, intE, strE, unE, convE, AV.int, AV.bool, AV.str, ivs, take, frameOf, firstRegion, refsA, refsL, one, cellsA, floatOk, apartT, List.map, if_true, if_false, E_P, E_glob0, E_glob1, reduceCtorEq, beq_self_eq_true, ↓reduceIte, Nat.reduceEqDiff, cond_true, cond_false, Nat.reduceAdd, Nat.reduceSub, Nat.reduceMul, Nat.reduceLT, Nat.reduceLeDiff, Int.reduceToNat, Int.reduceLT, Int.reduceLE, Option.getD, Int.reduceMul, Int.reduceAdd, List.drop, List.take, Nat.reduceBEq, List.isEmpty, Int.reduceEq, Int.reduceNe, Int.reduceNeg, Int.reduceGT, Int.reduceGE, beq_true, beq_false, UInt8.reduceToNat, eqE, eq_self, foldE, maxE, minE, fillA, over, chop, List.replicate, leavesOk, leafOk, cellsEq, cellEq, E_byref, en44, bs23, bs91, hi, hi2, rowsG_len]
      exact ⟨_, rfl⟩
    · rw [if_neg (by omega)]
      have hlt : i.toNat < l.length := by omega
      have hrow := rowsG_at hlt
      have hb := okG_at hg i.toNat
      rw [show l.getD i.toNat ([], false, 0) = l[i.toNat] from by rw [List.getD_eq_getElem?_getD, List.getElem?_eq_getElem hlt]; rfl] at hb ⊢
      generalize l[i.toNat] = g at *
      obtain ⟨t, cc, s⟩ := g
      simp only at hrow hb
      unfold codeG
      simp only
      by_cases hs : s = 3
      · rw [if_pos hs]
        subst hs
        rw [callT_eq Tryd.func44 rfl fok44 (by simp [Tryd.ntmps44])]
        simp (disch := first | omega | (simp only [vlen, rowsG_len]; omega)) only [vall, List.take_of_length_le, gB, gcW, gcR, posIn, renA, renL, Chunk.ren, Chunk.refs, evOpD, touchD, stepC, isFresh, nFresh, freshOf, mkR, hole, evL, evH, opd, get, putD, ofVal, cellOf, loadE, behind, lenE, idxAddrE, idxE, lookE, lookM, addPtr, intE, strE, unE, convE, AV.int, AV.bool, AV.str, ivs, take, frameOf, firstRegion, refsA, refsL, one, cellsA, floatOk, apartT, List.map, if_true, if_false, E_P, E_glob0, E_glob1, reduceCtorEq, beq_self_eq_true, ↓reduceIte, Nat.reduceEqDiff, cond_true, cond_false, Nat.reduceAdd, Nat.reduceSub, Nat.reduceMul, Nat.reduceLT, Nat.reduceLeDiff, Int.reduceToNat, Int.reduceLT, Int.reduceLE, Option.getD, Int.reduceMul, Int.reduceAdd, List.drop, List.take, Nat.reduceBEq, List.isEmpty, Int.reduceEq, Int.reduceNe, Int.reduceNeg, Int.reduceGT, Int.reduceGE, beq_true, beq_false, UInt8.reduceToNat, eqE, eq_self, foldE, maxE, minE, fillA, over, chop, List.replicate, leavesOk, leafOk, cellsEq, cellEq, E_byref, en44, bs23, bs91, hi, hi2, hrow, rowsG_len]
        exact ⟨_, rfl⟩
      · rw [if_neg hs]
        have hd := fun H => ik58 [] t (by simp; omega) H
        rw [List.nil_append] at hd
        have hl := decOut_lenM t
        have hl2 := decRest_lenM t
        have hf := fun H => ik59 (decRest t) (by omega) H
        have hlf := finS_len (decRest t)
        have hap := rows32_app (decOut t) (finS (decRest t))
        have htk : List.take (decOut t).length (rows32 (decOut t)) = rows32 (decOut t) := List.take_of_length_le (by rw [rows32_len]; exact Nat.le_refl _)
        have hln : (firstL t).length = (decOut t).length + (finS (decRest t)).length := by simp [firstL]
        have hb3 := firstL_b t
        rw [show decOut t ++ finS (decRest t) = firstL t from rfl] at hap
        unfold firstS
        generalize firstL t = F at *
        generalize decOut t = D at *
        generalize finS (decRest t) = D2 at *
        cases F with
        | nil =>
          rw [show ([] : List Int).getD 0 0 = 0 from rfl]
          rw [List.length_nil] at hln
          rw [callT_eq Tryd.func44 rfl fok44 (by simp [Tryd.ntmps44])]
          simp (disch := first | omega | (simp only [vlen, rows32_len, rowsG_len]; omega)) only [vall, List.take_of_length_le, gB, gcW, gcR, posIn, renA, renL, Chunk.ren, Chunk.refs, evOpD, touchD, stepC, isFresh, nFresh, freshOf, mkR, hole, evL, evH, opd, get, putD, ofVal, cellOf, loadE, behind, lenE, idxAddrE, idxE, lookE, lookM, addPtr, intE, strE, unE, convE, AV.int, AV.bool, AV.str, ivs, take, frameOf, firstRegion, refsA, refsL, one, cellsA, floatOk, apartT, List.map, if_true, if_false, E_P, E_glob0, E_glob1, reduceCtorEq, beq_self_eq_true, ↓reduceIte, Nat.reduceEqDiff, cond_true, cond_false, Nat.reduceAdd, Nat.reduceSub, Nat.reduceMul, Nat.reduceLT, Nat.reduceLeDiff, Int.reduceToNat, Int.reduceLT, Int.reduceLE, Option.getD, Int.reduceMul, Int.reduceAdd, List.drop, List.take, Nat.reduceBEq, List.isEmpty, Int.reduceEq, Int.reduceNe, Int.reduceNeg, Int.reduceGT, Int.reduceGE, beq_true, beq_false, UInt8.reduceToNat, eqE, eq_self, foldE, maxE, minE, fillA, over, chop, List.replicate, leavesOk, leafOk, cellsEq, cellEq, E_byref, en44, bs23, bs91, hi, hi2, hrow, hs, hd, hf, hap, htk, rows32_len, rowsG_len]
          exact ⟨_, rfl⟩
        | cons a F =>
          rw [show (a :: F).getD 0 0 = a from rfl]
          rw [List.length_cons] at hln
          have hrw := rows32_0 a F
          have hba := hb3 a (List.mem_cons_self)
          rw [callT_eq Tryd.func44 rfl fok44 (by simp [Tryd.ntmps44])]
          simp (disch := first | omega | (simp only [vlen, rows32_len, rowsG_len]; omega)) only [vall, List.take_of_length_le, gB, gcW, gcR, posIn, renA, renL, Chunk.ren, Chunk.refs, evOpD, touchD, stepC, isFresh, nFresh, freshOf, mkR, hole, evL, evH, opd, get, putD, ofVal, cellOf, loadE, behind, lenE, idxAddrE, idxE, lookE, lookM, addPtr, intE, strE, unE, convE, AV.int, AV.bool, AV.str, ivs, take, frameOf, firstRegion, refsA, refsL, one, cellsA, floatOk, apartT, List.map, if_true, if_false, E_P, E_glob0, E_glob1, reduceCtorEq, beq_self_eq_true, ↓reduceIte, Nat.reduceEqDiff, cond_true, cond_false, Nat.reduceAdd, Nat.reduceSub, Nat.reduceMul, Nat.reduceLT, Nat.reduceLeDiff, Int.reduceToNat, Int.reduceLT, Int.reduceLE, Option.getD, Int.reduceMul, Int.reduceAdd, List.drop, List.take, Nat.reduceBEq, List.isEmpty, Int.reduceEq, Int.reduceNe, Int.reduceNeg, Int.reduceGT, Int.reduceGE, beq_true, beq_false, UInt8.reduceToNat, eqE, eq_self, foldE, maxE, minE, fillA, over, chop, List.replicate, leavesOk, leafOk, cellsEq, cellEq, E_byref, en44, bs23, bs91, hi, hi2, hrow, hs, hd, hf, hap, htk, hrw, rows32_len, rowsG_len]
          exact ⟨_, rfl⟩
theorem ik44 (l : List Gl) (hg : okG l) (i : Int) (H : Hp) : isoK E (callT E) 44 [.i (.sl 3 (rowsG l) false), .i (.v (.int .i64 i))] H = some (.i (.v (.int .i64 (charS l i))), H) := isoK_val rfl rfl rfl (c44 l hg i)
theorem c45 (l : List Gl) (hg : okG l) (i : Int) : ∃ L, callT E 45 [.i (.sl 3 (rowsG l) false), .i (.v (.int .i64 i))] [] = some (.i (.v (.int .i64 (styleV l i))), L) := by
  unfold styleV
  have hg1 := hg.1
  by_cases hi : i < 0
  · rw [if_pos (.inl hi)]
    rw [callT_eq Tryd.func45 rfl fok45 (by simp [Tryd.ntmps45])]
    simp (disch := first | omega | (simp only [vlen, rowsG_len]; omega)) only [vall, List.take_of_length_le, gB, gcW, gcR, posIn, renA, renL, Chunk.ren, Chunk.refs, evOpD, touchD, stepC, isFresh, nFresh, freshOf, mkR, hole, evL, evH, opd, get, putD, ofVal, cellOf, loadE, behind, lenE, idxAddrE, idxE, lookE, lookM, addPtr, intE, strE, unE, convE, AV.int, AV.bool, AV.str, ivs, take, frameOf, firstRegion, refsA, refsL, one, cellsA, floatOk, apartT, List.map, if_true, if_false, E_P, E_glob0, E_glob1, reduceCtorEq, beq_self_eq_true, ↓reduceIte, Nat.reduceEqDiff, cond_true, cond_false, Nat.reduceAdd, Nat.reduceSub, Nat.reduceMul, Nat.reduceLT, Nat.reduceLeDiff, Int.reduceToNat, Int.reduceLT, Int.reduceLE, Option.getD, Int.reduceMul, Int.reduceAdd, List.drop, List.take, Nat.reduceBEq, List.isEmpty, Int.reduceEq, Int.reduceNe, Int.reduceNeg, Int.reduceGT, Int.reduceGE, beq_true, beq_false, UInt8.reduceToNat, eqE, eq_self, foldE, maxE, minE, fillA, over, chop, List.replicate, leavesOk, leafOk, cellsEq, cellEq, E_byref, en45, bs23, hi, rowsG_len]
    exact ⟨_, rfl⟩
  · by_cases hi2 : (l.length : Int) ≤ i
    · rw [if_pos (.inr hi2)]
      rw [callT_eq Tryd.func45 rfl fok45 (by simp [Tryd.ntmps45])]
      simp (disch := first | omega | (simp only [vlen, rowsG_len]; omega)) only [vall, List.take_of_length_le, gB, gcW, gcR, posIn, renA, renL, Chunk.ren, Chunk.refs, evOpD, touchD, stepC, isFresh, nFresh, freshOf, mkR, hole, evL, evH, opd, get, putD, ofVal, cellOf, loadE, behind, lenE, idxAddrE, idxE, lookE, lookM, addPtr, intE, strE, unE, convE, AV.int, AV.bool, AV.str, ivs, take, frameOf, firstRegion, refsA, refsL, one, cellsA, floatOk, apartT, List.map, if_true, if_false, E_P, E_glob0, E_glob1, reduceCtorEq, beq_self_eq_true, ↓reduceIte, Nat.reduceEqDiff, cond_true, cond_false, Nat.reduceAdd, Nat.reduceSub, Nat.reduceMul, Nat.reduceLT, Nat.reduceLeDiff, Int.reduceToNat, Int.reduceLT, Int.reduceLE, Option.getD, Int.reduceMul, Int.reduceAdd, List.drop, List.take, Nat.reduceBEq, List.isEmpty, Int.reduceEq, Int.reduceNe, Int.reduceNeg, Int.reduceGT, Int.reduceGE, beq_true, beq_false, UInt8.reduceToNat, eqE, eq_self, foldE, maxE, minE, fillA, over, chop, List.replicate, leavesOk, leafOk, cellsEq, cellEq, E_byref, en45, bs23, hi, hi2, rowsG_len]
      exact ⟨_, rfl⟩
    · rw [if_neg (by omega)]
      have hlt : i.toNat < l.length := by omega
      have hrow := rowsG_at hlt
      rw [show l.getD i.toNat ([], false, 0) = l[i.toNat] from by rw [List.getD_eq_getElem?_getD, List.getElem?_eq_getElem hlt]; rfl]
      generalize l[i.toNat] = g at *
      rw [callT_eq Tryd.func45 rfl fok45 (by simp [Tryd.ntmps45])]
      simp (disch := first | omega | (simp only [vlen, rowsG_len]; omega)) only [vall, List.take_of_length_le, gB, gcW, gcR, posIn, renA, renL, Chunk.ren, Chunk.refs, evOpD, touchD, stepC, isFresh, nFresh, freshOf, mkR, hole, evL, evH, opd, get, putD, ofVal, cellOf, loadE, behind, lenE, idxAddrE, idxE, lookE, lookM, addPtr, intE, strE, unE, convE, AV.int, AV.bool, AV.str, ivs, take, frameOf, firstRegion, refsA, refsL, one, cellsA, floatOk, apartT, List.map, if_true, if_false, E_P, E_glob0, E_glob1, reduceCtorEq, beq_self_eq_true, ↓reduceIte, Nat.reduceEqDiff, cond_true, cond_false, Nat.reduceAdd, Nat.reduceSub, Nat.reduceMul, Nat.reduceLT, Nat.reduceLeDiff, Int.reduceToNat, Int.reduceLT, Int.reduceLE, Option.getD, Int.reduceMul, Int.reduceAdd, List.drop, List.take, Nat.reduceBEq, List.isEmpty, Int.reduceEq, Int.reduceNe, Int.reduceNeg, Int.reduceGT, Int.reduceGE, beq_true, beq_false, UInt8.reduceToNat, eqE, eq_self, foldE, maxE, minE, fillA, over, chop, List.replicate, leavesOk, leafOk, cellsEq, cellEq, E_byref, en45, bs23, hi, hi2, hrow, rowsG_len]
      exact ⟨_, rfl⟩
theorem ik45 (l : List Gl) (hg : okG l) (i : Int) (H : Hp) : isoK E (callT E) 45 [.i (.sl 3 (rowsG l) false), .i (.v (.int .i64 i))] H = some (.i (.v (.int .i64 (styleV l i))), H) := isoK_val rfl rfl rfl (c45 l hg i)
end Go.VI

namespace Go.VI
open Go.Proofs
set_option maxRecDepth 100000
set_option linter.unusedSimpArgs false
set_option linter.unusedVariables false
set_option maxHeartbeats 4000000
structure Kk where
  (st : List Int) (d : Nat) (f : Bool)
def okK (k : Kk) : Prop := k.st.length = 16 ∧ k.d ≤ 16 ∧ ∀ x ∈ k.st, -999999999 ≤ x ∧ x ≤ 999999999
def popV (k : Kk) : Int := if k.d = 0 then 0 else k.st.getD (k.d - 1) 0
def popK (k : Kk) : Kk := ⟨k.st, k.d - 1, k.f || decide (k.d = 0)⟩
def pushK (k : Kk) (n : Int) : Kk := if k.d = 16 then ⟨k.st, 16, true⟩ else ⟨k.st.set k.d (limS n), k.d + 1, k.f⟩
def mcK (row : Int) (g : IV) (c w r : Int) (k : Kk) : List AV := mc row g c w r k.st k.d k.f
theorem limS_b (n : Int) : -999999999 ≤ limS n ∧ limS n ≤ 999999999 := by unfold limS; omega
theorem getD_b {l : List Int} (h : ∀ x ∈ l, -999999999 ≤ x ∧ x ≤ 999999999) (k : Nat) : -999999999 ≤ l.getD k 0 ∧ l.getD k 0 ≤ 999999999 := by
  rw [List.getD_eq_getElem?_getD]
  cases e : l[k]? with
  | none => decide
  | some x => exact h x (List.mem_of_getElem? e)
theorem popV_b {k : Kk} (h : okK k) : -999999999 ≤ popV k ∧ popV k ≤ 999999999 := by
  unfold popV; split
  · decide
  · exact getD_b h.2.2 _
theorem popK_ok {k : Kk} (h : okK k) : okK (popK k) := ⟨h.1, by have := h.2.1; simp only [popK]; omega, h.2.2⟩
theorem pushK_ok {k : Kk} (h : okK k) (n : Int) : okK (pushK k n) := by
  unfold pushK; split
  · exact ⟨h.1, Nat.le_refl _, h.2.2⟩
  · rename_i h0
    refine ⟨by simp only [List.length_set]; exact h.1, by have := h.2.1; simp only; omega, ?_⟩
    intro x hx
    rcases List.mem_or_eq_of_mem_set hx with h1 | h1
    · exact h.2.2 x h1
    · rw [h1]; exact limS_b n
section
variable {row : Int} {g : IV} {c w r : Int} {k : Kk}
theorem mcK_len (h : okK k) : (mcK row g c w r k).length = 23 := mc_len h.1
theorem mcK_0 : (mcK row g c w r k)[0]? = some (.i (.v (.int .i64 row))) := rfl
theorem mcK_1 : (mcK row g c w r k)[1]? = some (.i g) := rfl
theorem mcK_2 : (mcK row g c w r k)[2]? = some (.i (.v (.int .i64 c))) := rfl
theorem mcK_3 : (mcK row g c w r k)[3]? = some (.i (.v (.int .i64 w))) := rfl
theorem mcK_22 (h : okK k) : (mcK row g c w r k)[22]? = some (.i (.v (.bool k.f))) := mc_22 h.1
theorem mcK_put2 (x : Int) : List.take 2 (mcK row g c w r k) ++ [.i (.v (.int .i64 x))] ++ List.drop 3 (mcK row g c w r k) = mcK row g x w r k := rfl
theorem mcK_put3 (x : Int) : List.take 3 (mcK row g c w r k) ++ [.i (.v (.int .i64 x))] ++ List.drop 4 (mcK row g c w r k) = mcK row g c x r k := rfl
theorem mcK_cn (B : Nat) (H : Hp) : cnL B H (mcK row g c w r k) = mcK row g c w r k := mc_cn _ _ _ _ _ _ _ _ _ _
theorem mcK_refs : refsL (mcK row g c w r k) = [] := mc_refs trivial
theorem mcK_ren (ρ : Nat → Option Nat) : renL ρ (mcK row g c w r k) = mcK row g c w r k := mc_ren ρ
end
theorem ik24_K (row : Int) (g : IV) (c w r : Int) (k : Kk) (hk : okK k) (T : Hp) :
    isoK E (callT E) 24 [.ptr 0 0 0 0] (.box (mcK row g c w r k) :: T) = some (.i (.v (.int .i64 (popV k))), .box (mcK row g c w r (popK k)) :: T) :=
  ik24 row g c w r k.st k.d k.f hk.1 hk.2.1 T
theorem ik39_K (row : Int) (g : IV) (c w r : Int) (k : Kk) (n : Int) (hn : -9223372036854775808 ≤ n ∧ n ≤ 9223372036854775807) (hk : okK k) (T : Hp) :
    isoK E (callT E) 39 [.ptr 0 0 0 0, .i (.v (.int .i64 n))] (.box (mcK row g c w r k) :: T) = some (.tup [], .box (mcK row g c w r (pushK k n)) :: T) := by
  have h := ik39 row g c w r k.st k.d k.f n hn hk.1 hk.2.1 T
  rw [show mcK row g c w r k = mc row g c w r k.st k.d k.f from rfl, h]
  unfold pushK
  split <;> rfl
def bI (n : Int) : Prop := -9223372036854775808 ≤ n ∧ n ≤ 9223372036854775807
def isV (op : Int) : Prop := op = 1 ∨ op = 2 ∨ op = 3 ∨ op = 6 ∨ op = 7
instance (op : Int) : Decidable (isV op) := by unfold isV; infer_instance
def valK (row c w ln op arg : Int) : Int := if op = 1 then arg else if op = 2 then row else if op = 3 then ln else if op = 6 then c else w
theorem pushM_K (row : Int) (g : IV) (c w r : Int) (k : Kk) (n : Int) : pushM row g c w r k.st k.d k.f n = mcK row g c w r (pushK k n) := by
  unfold pushM pushK mcK
  split <;> rfl
theorem ik37_K (row : Int) (rows : List (List IV)) (c w r : Int) (k : Kk) (op arg : Int) (hb : (-9223372036854775808 ≤ arg ∧ arg ≤ 9223372036854775807) ∧ (-9223372036854775808 ≤ row ∧ row ≤ 9223372036854775807) ∧ (-9223372036854775808 ≤ c ∧ c ≤ 9223372036854775807) ∧ (-9223372036854775808 ≤ w ∧ w ≤ 9223372036854775807) ∧ rows.length ≤ 1000000) (hk : okK k) (hv : isV op) (T : Hp) :
    isoK E (callT E) 37 [.ptr 0 0 0 0, .agg [.i (.v (.int .i64 op)), .i (.v (.int .i64 arg))]] (.box (mcK row (.sl 3 rows false) c w r k) :: T) = some (.i (.v (.bool true)), .box (mcK row (.sl 3 rows false) c w r (pushK k (valK row c w rows.length op arg))) :: T) := by
  rw [← pushM_K]
  refine isoK_mc rfl rfl rfl mcK_refs pushM_refs ?_ T
  rcases hv with rfl | rfl | rfl | rfl | rfl
  · exact c37_1 row rows c w r k.st k.d k.f arg hb hk.1 hk.2.1
  · exact c37_2 row rows c w r k.st k.d k.f arg hb hk.1 hk.2.1
  · exact c37_3 row rows c w r k.st k.d k.f arg hb hk.1 hk.2.1
  · exact c37_6 row rows c w r k.st k.d k.f arg hb hk.1 hk.2.1
  · exact c37_7 row rows c w r k.st k.d k.f arg hb hk.1 hk.2.1
theorem ik37_N (row : Int) (g : IV) (c w r : Int) (k : Kk) (op arg : Int) (hv : ¬ isV op) (T : Hp) :
    isoK E (callT E) 37 [.ptr 0 0 0 0, .agg [.i (.v (.int .i64 op)), .i (.v (.int .i64 arg))]] (.box (mcK row g c w r k) :: T) = some (.i (.v (.bool false)), .box (mcK row g c w r k) :: T) :=
  ik37_0 _ (fun B H => mcK_cn B H) mcK_refs op arg (by unfold isV at hv; omega) T
def twoS (op a b : Int) : Int := if op = 8 then a + b else if op = 9 then a - b else if op = 10 then a * b else if op = 11 then (if a = b then 1 else 0) else (if a < b then 1 else 0)
theorem mul_b {a b : Int} (ha : -999999999 ≤ a ∧ a ≤ 999999999) (hb : -999999999 ≤ b ∧ b ≤ 999999999) : -9223372036854775808 ≤ a * b ∧ a * b ≤ 9223372036854775807 := by
  have h1 : (a * b).natAbs ≤ 999999999 * 999999999 := by
    rw [Int.natAbs_mul]; exact Nat.mul_le_mul (by omega) (by omega)
  generalize a * b = x at *
  omega
theorem twoS_b {a b : Int} (op : Int) (ha : -999999999 ≤ a ∧ a ≤ 999999999) (hb : -999999999 ≤ b ∧ b ≤ 999999999) : -9223372036854775808 ≤ twoS op a b ∧ twoS op a b ≤ 9223372036854775807 := by
  have := mul_b ha hb
  unfold twoS
  repeat' split
  all_goals first | exact this | omega
theorem ik50 (a b : Int) (ha : -999999999 ≤ a ∧ a ≤ 999999999) (hb : -999999999 ≤ b ∧ b ≤ 999999999) (H : Hp) : isoK E (callT E) 50 [.i (.v (.int .i64 a)), .i (.v (.int .i64 b))] H = some (.i (.v (.int .i64 (a + b))), H) := isoK_val rfl rfl rfl (by
  rw [callT_eq Tryd.func50 rfl fok50 (by simp [Tryd.ntmps50])]
  simp (disch := first | omega | (simp only [vlen]; omega)) only [vall, List.take_of_length_le, gB, gcW, gcR, posIn, renA, renL, Chunk.ren, Chunk.refs, evOpD, touchD, stepC, isFresh, nFresh, freshOf, mkR, hole, evL, evH, opd, get, putD, ofVal, cellOf, loadE, behind, lenE, idxAddrE, idxE, lookE, lookM, addPtr, intE, strE, unE, convE, AV.int, AV.bool, AV.str, ivs, take, frameOf, firstRegion, refsA, refsL, one, cellsA, floatOk, apartT, List.map, if_true, if_false, E_P, E_glob0, E_glob1, reduceCtorEq, beq_self_eq_true, ↓reduceIte, Nat.reduceEqDiff, cond_true, cond_false, Nat.reduceAdd, Nat.reduceSub, Nat.reduceMul, Nat.reduceLT, Nat.reduceLeDiff, Int.reduceToNat, Int.reduceLT, Int.reduceLE, Option.getD, Int.reduceMul, Int.reduceAdd, List.drop, List.take, Nat.reduceBEq, List.isEmpty, Int.reduceEq, Int.reduceNe, Int.reduceNeg, Int.reduceGT, Int.reduceGE, beq_true, beq_false, UInt8.reduceToNat, eqE, eq_self, foldE, maxE, minE, fillA, over, chop, List.replicate, leavesOk, leafOk, cellsEq, cellEq, E_byref, en50]
  exact ⟨_, rfl⟩)
theorem ik51 (a b : Int) (ha : -999999999 ≤ a ∧ a ≤ 999999999) (hb : -999999999 ≤ b ∧ b ≤ 999999999) (H : Hp) : isoK E (callT E) 51 [.i (.v (.int .i64 a)), .i (.v (.int .i64 b))] H = some (.i (.v (.int .i64 (a - b))), H) := isoK_val rfl rfl rfl (by
  rw [callT_eq Tryd.func51 rfl fok51 (by simp [Tryd.ntmps51])]
  simp (disch := first | omega | (simp only [vlen]; omega)) only [vall, List.take_of_length_le, gB, gcW, gcR, posIn, renA, renL, Chunk.ren, Chunk.refs, evOpD, touchD, stepC, isFresh, nFresh, freshOf, mkR, hole, evL, evH, opd, get, putD, ofVal, cellOf, loadE, behind, lenE, idxAddrE, idxE, lookE, lookM, addPtr, intE, strE, unE, convE, AV.int, AV.bool, AV.str, ivs, take, frameOf, firstRegion, refsA, refsL, one, cellsA, floatOk, apartT, List.map, if_true, if_false, E_P, E_glob0, E_glob1, reduceCtorEq, beq_self_eq_true, ↓reduceIte, Nat.reduceEqDiff, cond_true, cond_false, Nat.reduceAdd, Nat.reduceSub, Nat.reduceMul, Nat.reduceLT, Nat.reduceLeDiff, Int.reduceToNat, Int.reduceLT, Int.reduceLE, Option.getD, Int.reduceMul, Int.reduceAdd, List.drop, List.take, Nat.reduceBEq, List.isEmpty, Int.reduceEq, Int.reduceNe, Int.reduceNeg, Int.reduceGT, Int.reduceGE, beq_true, beq_false, UInt8.reduceToNat, eqE, eq_self, foldE, maxE, minE, fillA, over, chop, List.replicate, leavesOk, leafOk, cellsEq, cellEq, E_byref, en51]
  exact ⟨_, rfl⟩)
theorem ik52 (a b : Int) (ha : -999999999 ≤ a ∧ a ≤ 999999999) (hb : -999999999 ≤ b ∧ b ≤ 999999999) (H : Hp) : isoK E (callT E) 52 [.i (.v (.int .i64 a)), .i (.v (.int .i64 b))] H = some (.i (.v (.int .i64 (a * b))), H) := isoK_val rfl rfl rfl (by
  have hm := mul_b ha hb
  generalize hx : a * b = x at *
  rw [callT_eq Tryd.func52 rfl fok52 (by simp [Tryd.ntmps52])]
  simp (disch := first | omega | (simp only [vlen]; omega)) only [vall, List.take_of_length_le, gB, gcW, gcR, posIn, renA, renL, Chunk.ren, Chunk.refs, evOpD, touchD, stepC, isFresh, nFresh, freshOf, mkR, hole, evL, evH, opd, get, putD, ofVal, cellOf, loadE, behind, lenE, idxAddrE, idxE, lookE, lookM, addPtr, intE, strE, unE, convE, AV.int, AV.bool, AV.str, ivs, take, frameOf, firstRegion, refsA, refsL, one, cellsA, floatOk, apartT, List.map, if_true, if_false, E_P, E_glob0, E_glob1, reduceCtorEq, beq_self_eq_true, ↓reduceIte, Nat.reduceEqDiff, cond_true, cond_false, Nat.reduceAdd, Nat.reduceSub, Nat.reduceMul, Nat.reduceLT, Nat.reduceLeDiff, Int.reduceToNat, Int.reduceLT, Int.reduceLE, Option.getD, Int.reduceMul, Int.reduceAdd, List.drop, List.take, Nat.reduceBEq, List.isEmpty, Int.reduceEq, Int.reduceNe, Int.reduceNeg, Int.reduceGT, Int.reduceGE, beq_true, beq_false, UInt8.reduceToNat, eqE, eq_self, foldE, maxE, minE, fillA, over, chop, List.replicate, leavesOk, leafOk, cellsEq, cellEq, E_byref, en52, hx]
  exact ⟨_, rfl⟩)
theorem ik53 (a b : Int) (H : Hp) : isoK E (callT E) 53 [.i (.v (.int .i64 a)), .i (.v (.int .i64 b))] H = some (.i (.v (.int .i64 (if a = b then 1 else 0))), H) := isoK_val rfl rfl rfl (by
  by_cases h : a = b
  · have ht := fun H => ik42 true H
    rw [if_pos rfl] at ht
    rw [if_pos h]
    subst h
    rw [callT_eq Tryd.func53 rfl fok53 (by simp [Tryd.ntmps53])]
    simp (disch := first | omega | (simp only [vlen]; omega)) only [vall, List.take_of_length_le, gB, gcW, gcR, posIn, renA, renL, Chunk.ren, Chunk.refs, evOpD, touchD, stepC, isFresh, nFresh, freshOf, mkR, hole, evL, evH, opd, get, putD, ofVal, cellOf, loadE, behind, lenE, idxAddrE, idxE, lookE, lookM, addPtr, intE, strE, unE, convE, AV.int, AV.bool, AV.str, ivs, take, frameOf, firstRegion, refsA, refsL, one, cellsA, floatOk, apartT, List.map, if_true, if_false, E_P, E_glob0, E_glob1, reduceCtorEq, beq_self_eq_true, ↓reduceIte, Nat.reduceEqDiff, cond_true, cond_false, Nat.reduceAdd, Nat.reduceSub, Nat.reduceMul, Nat.reduceLT, Nat.reduceLeDiff, Int.reduceToNat, Int.reduceLT, Int.reduceLE, Option.getD, Int.reduceMul, Int.reduceAdd, List.drop, List.take, Nat.reduceBEq, List.isEmpty, Int.reduceEq, Int.reduceNe, Int.reduceNeg, Int.reduceGT, Int.reduceGE, beq_true, beq_false, UInt8.reduceToNat, eqE, eq_self, foldE, maxE, minE, fillA, over, chop, List.replicate, leavesOk, leafOk, cellsEq, cellEq, E_byref, en53, ht]
    exact ⟨_, rfl⟩
  · have ht := fun H => ik42 false H
    rw [if_neg (by decide)] at ht
    rw [if_neg h]
    rw [callT_eq Tryd.func53 rfl fok53 (by simp [Tryd.ntmps53])]
    simp (disch := first | omega | (simp only [vlen]; omega)) only [vall, List.take_of_length_le, gB, gcW, gcR, posIn, renA, renL, Chunk.ren, Chunk.refs, evOpD, touchD, stepC, isFresh, nFresh, freshOf, mkR, hole, evL, evH, opd, get, putD, ofVal, cellOf, loadE, behind, lenE, idxAddrE, idxE, lookE, lookM, addPtr, intE, strE, unE, convE, AV.int, AV.bool, AV.str, ivs, take, frameOf, firstRegion, refsA, refsL, one, cellsA, floatOk, apartT, List.map, if_true, if_false, E_P, E_glob0, E_glob1, reduceCtorEq, beq_self_eq_true, ↓reduceIte, Nat.reduceEqDiff, cond_true, cond_false, Nat.reduceAdd, Nat.reduceSub, Nat.reduceMul, Nat.reduceLT, Nat.reduceLeDiff, Int.reduceToNat, Int.reduceLT, Int.reduceLE, Option.getD, Int.reduceMul, Int.reduceAdd, List.drop, List.take, Nat.reduceBEq, List.isEmpty, Int.reduceEq, Int.reduceNe, Int.reduceNeg, Int.reduceGT, Int.reduceGE, beq_true, beq_false, UInt8.reduceToNat, eqE, eq_self, foldE, maxE, minE, fillA, over, chop, List.replicate, leavesOk, leafOk, cellsEq, cellEq, E_byref, en53, ht, h]
    exact ⟨_, rfl⟩)
theorem ik54 (a b : Int) (H : Hp) : isoK E (callT E) 54 [.i (.v (.int .i64 a)), .i (.v (.int .i64 b))] H = some (.i (.v (.int .i64 (if a < b then 1 else 0))), H) := isoK_val rfl rfl rfl (by
  by_cases h : a < b
  · have ht := fun H => ik42 true H
    rw [if_pos rfl] at ht
    rw [if_pos h]
    rw [callT_eq Tryd.func54 rfl fok54 (by simp [Tryd.ntmps54])]
    simp (disch := first | omega | (simp only [vlen]; omega)) only [vall, List.take_of_length_le, gB, gcW, gcR, posIn, renA, renL, Chunk.ren, Chunk.refs, evOpD, touchD, stepC, isFresh, nFresh, freshOf, mkR, hole, evL, evH, opd, get, putD, ofVal, cellOf, loadE, behind, lenE, idxAddrE, idxE, lookE, lookM, addPtr, intE, strE, unE, convE, AV.int, AV.bool, AV.str, ivs, take, frameOf, firstRegion, refsA, refsL, one, cellsA, floatOk, apartT, List.map, if_true, if_false, E_P, E_glob0, E_glob1, reduceCtorEq, beq_self_eq_true, ↓reduceIte, Nat.reduceEqDiff, cond_true, cond_false, Nat.reduceAdd, Nat.reduceSub, Nat.reduceMul, Nat.reduceLT, Nat.reduceLeDiff, Int.reduceToNat, Int.reduceLT, Int.reduceLE, Option.getD, Int.reduceMul, Int.reduceAdd, List.drop, List.take, Nat.reduceBEq, List.isEmpty, Int.reduceEq, Int.reduceNe, Int.reduceNeg, Int.reduceGT, Int.reduceGE, beq_true, beq_false, UInt8.reduceToNat, eqE, eq_self, foldE, maxE, minE, fillA, over, chop, List.replicate, leavesOk, leafOk, cellsEq, cellEq, E_byref, en54, ht, h]
    exact ⟨_, rfl⟩
  · have ht := fun H => ik42 false H
    rw [if_neg (by decide)] at ht
    rw [if_neg h]
    rw [callT_eq Tryd.func54 rfl fok54 (by simp [Tryd.ntmps54])]
    simp (disch := first | omega | (simp only [vlen]; omega)) only [vall, List.take_of_length_le, gB, gcW, gcR, posIn, renA, renL, Chunk.ren, Chunk.refs, evOpD, touchD, stepC, isFresh, nFresh, freshOf, mkR, hole, evL, evH, opd, get, putD, ofVal, cellOf, loadE, behind, lenE, idxAddrE, idxE, lookE, lookM, addPtr, intE, strE, unE, convE, AV.int, AV.bool, AV.str, ivs, take, frameOf, firstRegion, refsA, refsL, one, cellsA, floatOk, apartT, List.map, if_true, if_false, E_P, E_glob0, E_glob1, reduceCtorEq, beq_self_eq_true, ↓reduceIte, Nat.reduceEqDiff, cond_true, cond_false, Nat.reduceAdd, Nat.reduceSub, Nat.reduceMul, Nat.reduceLT, Nat.reduceLeDiff, Int.reduceToNat, Int.reduceLT, Int.reduceLE, Option.getD, Int.reduceMul, Int.reduceAdd, List.drop, List.take, Nat.reduceBEq, List.isEmpty, Int.reduceEq, Int.reduceNe, Int.reduceNeg, Int.reduceGT, Int.reduceGE, beq_true, beq_false, UInt8.reduceToNat, eqE, eq_self, foldE, maxE, minE, fillA, over, chop, List.replicate, leavesOk, leafOk, cellsEq, cellEq, E_byref, en54, ht, h]
    exact ⟨_, rfl⟩)
end Go.VI

namespace Go.VI
open Go.Proofs
set_option maxRecDepth 100000
set_option linter.unusedSimpArgs false
set_option linter.unusedVariables false
set_option maxHeartbeats 4000000
def simK (row : Int) (l : List Gl) (c w : Int) (k : Kk) (op arg : Int) : Int × Int × Kk :=
  if isV op then (c, w, pushK k (valK row c w l.length op arg))
  else if 8 ≤ op ∧ op ≤ 12 then (c, w, pushK (popK (popK k)) (twoS op (popV (popK k)) (popV k)))
  else if op = 4 then (c, w, pushK (popK k) (charS l (popV k)))
  else if op = 5 then (c, w, pushK (popK k) (styleV l (popV k)))
  else if op = 13 then (c, w, pushK (popK k) (if popV k = 0 then 1 else 0))
  else if op = 14 then (c, w, pushK (pushK (popK k) (popV k)) (popV k))
  else if op = 16 then (c, w, pushK (pushK (popK (popK k)) (popV k)) (popV (popK k)))
  else if op = 19 then (if 1 ≤ popV k ∧ popV k ≤ 3 then popV k else c, w, popK k)
  else if op = 20 then (c, if 0 ≤ popV k ∧ popV k ≤ 60000 then popV k else w, popK k)
  else (c, w, popK k)
theorem op_lookup {E : Env} {cl : CallF} {fr : Fr} {H : Hp} (t : TypeId) (x k : Operand) : evOp E cl (.lookup t x k true) fr H = pK H (lookE E t (opd E fr x) (opd E fr k)) := map_pK _
theorem ik38 (H : Hp) : isoK E (callT E) 38 [] H = some (.i (.mp [(8, 50), (9, 51), (10, 52), (11, 53), (12, 54)]), H) := isoK_ext (show E.ext 38 = some (extMap [(8, 50), (9, 51), (10, 52), (11, 53), (12, 54)]) from rfl) rfl rfl ⟨[], rfl⟩
theorem s_val (op : Int) (hv : isV op) (row : Int) (l : List Gl) (hg : okG l) (c w r : Int) (k : Kk) (arg : Int) (hk : okK k) (hb : bI arg ∧ bI row ∧ bI c ∧ bI w) : ∃ L, callT E 25 [.ptr 0 0 0 0, .agg [.i (.v (.int .i64 (op))), .i (.v (.int .i64 arg))]] [.box (mcK row (.sl 3 (rowsG l) false) c w r k)] = some (.tup [], .box (mcK row (.sl 3 (rowsG l) false) (simK row l c w k (op) arg).1 (simK row l c w k (op) arg).2.1 r (simK row l c w k (op) arg).2.2) :: L) := by
  have h1 := fun T => ik37_K row (rowsG l) c w r k op arg ⟨hb.1, hb.2.1, hb.2.2.1, hb.2.2.2, by rw [rowsG_len]; have := hg.1; omega⟩ hk hv T
  simp only [simK, if_pos hv]
  rw [rowsG_len] at h1
  generalize pushK k (valK row c w l.length op arg) = k2 at *
  rw [callT_eq Tryd.func25 rfl fok25 (by simp [Tryd.ntmps25])]
  simp (disch := first | omega | (simp only [vlen]; omega)) only [vall, List.take_of_length_le, gB, gcW, gcR, posIn, renA, renL, Chunk.ren, Chunk.refs, evOpD, touchD, stepC, isFresh, nFresh, freshOf, mkR, hole, evL, evH, opd, get, putD, ofVal, cellOf, loadE, behind, lenE, idxAddrE, idxE, lookE, lookM, addPtr, intE, strE, unE, convE, AV.int, AV.bool, AV.str, ivs, take, frameOf, firstRegion, refsA, refsL, one, cellsA, floatOk, apartT, List.map, if_true, if_false, E_P, E_glob0, E_glob1, reduceCtorEq, beq_self_eq_true, ↓reduceIte, Nat.reduceEqDiff, cond_true, cond_false, Nat.reduceAdd, Nat.reduceSub, Nat.reduceMul, Nat.reduceLT, Nat.reduceLeDiff, Int.reduceToNat, Int.reduceLT, Int.reduceLE, Option.getD, Int.reduceMul, Int.reduceAdd, List.drop, List.take, Nat.reduceBEq, List.isEmpty, Int.reduceEq, Int.reduceNe, Int.reduceNeg, Int.reduceGT, Int.reduceGE, beq_true, beq_false, UInt8.reduceToNat, eqE, eq_self, foldE, maxE, minE, fillA, over, chop, List.replicate, leavesOk, leafOk, cellsEq, cellEq, E_byref, en25, h1, mcK_cn, mcK_0, mcK_1, mcK_2, mcK_3]
  exact ⟨_, rfl⟩
theorem s_8 (row : Int) (l : List Gl) (hg : okG l) (c w r : Int) (k : Kk) (arg : Int) (hk : okK k) (hb : bI arg ∧ bI row ∧ bI c ∧ bI w) : ∃ L, callT E 25 [.ptr 0 0 0 0, .agg [.i (.v (.int .i64 (8))), .i (.v (.int .i64 arg))]] [.box (mcK row (.sl 3 (rowsG l) false) c w r k)] = some (.tup [], .box (mcK row (.sl 3 (rowsG l) false) (simK row l c w k (8) arg).1 (simK row l c w k (8) arg).2.1 r (simK row l c w k (8) arg).2.2) :: L) := by
  have hnv : ¬ isV 8 := by decide
  have h1 := fun T => ik37_N row (.sl 3 (rowsG l) false) c w r k 8 arg hnv T
  have b0 := popV_b hk
  have h2 := fun T => ik24_K row (.sl 3 (rowsG l) false) c w r k hk T
  have b1 := popV_b (popK_ok hk)
  have h3 := fun T => ik24_K row (.sl 3 (rowsG l) false) c w r (popK k) (popK_ok hk) T
  have h5 := fun T => ik39_K row (.sl 3 (rowsG l) false) c w r (popK (popK k)) (twoS 8 (popV (popK k)) (popV k)) (twoS_b 8 b1 b0) (popK_ok (popK_ok hk)) T
  rw [show twoS 8 (popV (popK k)) (popV k) = (popV (popK k) + popV k) from rfl] at h5
  have h4 := fun H => ik50 (popV (popK k)) (popV k) b1 b0 H
  have h6 : simK row l c w k 8 arg = (c, w, pushK (popK (popK k)) (popV (popK k) + popV k)) := by simp only [simK, if_neg hnv]; rfl
  rw [h6]
  simp only
  generalize (popV (popK k) + popV k) = y at *
  generalize popV (popK k) = a at *
  generalize popV k = b at *
  rw [callT_eq Tryd.func25 rfl fok25 (by simp [Tryd.ntmps25])]
  simp (disch := first | omega | (simp only [vlen]; omega)) only [vall, List.take_of_length_le, gB, gcW, gcR, posIn, renA, renL, Chunk.ren, Chunk.refs, evOpD, touchD, stepC, isFresh, nFresh, freshOf, mkR, hole, evL, evH, opd, get, putD, ofVal, cellOf, loadE, behind, lenE, idxAddrE, idxE, lookE, lookM, addPtr, intE, strE, unE, convE, AV.int, AV.bool, AV.str, ivs, take, frameOf, firstRegion, refsA, refsL, one, cellsA, floatOk, apartT, List.map, if_true, if_false, E_P, E_glob0, E_glob1, reduceCtorEq, beq_self_eq_true, ↓reduceIte, Nat.reduceEqDiff, cond_true, cond_false, Nat.reduceAdd, Nat.reduceSub, Nat.reduceMul, Nat.reduceLT, Nat.reduceLeDiff, Int.reduceToNat, Int.reduceLT, Int.reduceLE, Option.getD, Int.reduceMul, Int.reduceAdd, List.drop, List.take, Nat.reduceBEq, List.isEmpty, Int.reduceEq, Int.reduceNe, Int.reduceNeg, Int.reduceGT, Int.reduceGE, beq_true, beq_false, UInt8.reduceToNat, eqE, eq_self, foldE, maxE, minE, fillA, over, chop, List.replicate, leavesOk, leafOk, cellsEq, cellEq, E_byref, en25, op_lookup, ca50, ik38, h1, h2, h3, h4, h5, mcK_cn, mcK_0, mcK_1, mcK_2, mcK_3]
  exact ⟨_, rfl⟩
theorem s_9 (row : Int) (l : List Gl) (hg : okG l) (c w r : Int) (k : Kk) (arg : Int) (hk : okK k) (hb : bI arg ∧ bI row ∧ bI c ∧ bI w) : ∃ L, callT E 25 [.ptr 0 0 0 0, .agg [.i (.v (.int .i64 (9))), .i (.v (.int .i64 arg))]] [.box (mcK row (.sl 3 (rowsG l) false) c w r k)] = some (.tup [], .box (mcK row (.sl 3 (rowsG l) false) (simK row l c w k (9) arg).1 (simK row l c w k (9) arg).2.1 r (simK row l c w k (9) arg).2.2) :: L) := by
  have hnv : ¬ isV 9 := by decide
  have h1 := fun T => ik37_N row (.sl 3 (rowsG l) false) c w r k 9 arg hnv T
  have b0 := popV_b hk
  have h2 := fun T => ik24_K row (.sl 3 (rowsG l) false) c w r k hk T
  have b1 := popV_b (popK_ok hk)
  have h3 := fun T => ik24_K row (.sl 3 (rowsG l) false) c w r (popK k) (popK_ok hk) T
  have h5 := fun T => ik39_K row (.sl 3 (rowsG l) false) c w r (popK (popK k)) (twoS 9 (popV (popK k)) (popV k)) (twoS_b 9 b1 b0) (popK_ok (popK_ok hk)) T
  rw [show twoS 9 (popV (popK k)) (popV k) = (popV (popK k) - popV k) from rfl] at h5
  have h4 := fun H => ik51 (popV (popK k)) (popV k) b1 b0 H
  have h6 : simK row l c w k 9 arg = (c, w, pushK (popK (popK k)) (popV (popK k) - popV k)) := by simp only [simK, if_neg hnv]; rfl
  rw [h6]
  simp only
  generalize (popV (popK k) - popV k) = y at *
  generalize popV (popK k) = a at *
  generalize popV k = b at *
  rw [callT_eq Tryd.func25 rfl fok25 (by simp [Tryd.ntmps25])]
  simp (disch := first | omega | (simp only [vlen]; omega)) only [vall, List.take_of_length_le, gB, gcW, gcR, posIn, renA, renL, Chunk.ren, Chunk.refs, evOpD, touchD, stepC, isFresh, nFresh, freshOf, mkR, hole, evL, evH, opd, get, putD, ofVal, cellOf, loadE, behind, lenE, idxAddrE, idxE, lookE, lookM, addPtr, intE, strE, unE, convE, AV.int, AV.bool, AV.str, ivs, take, frameOf, firstRegion, refsA, refsL, one, cellsA, floatOk, apartT, List.map, if_true, if_false, E_P, E_glob0, E_glob1, reduceCtorEq, beq_self_eq_true, ↓reduceIte, Nat.reduceEqDiff, cond_true, cond_false, Nat.reduceAdd, Nat.reduceSub, Nat.reduceMul, Nat.reduceLT, Nat.reduceLeDiff, Int.reduceToNat, Int.reduceLT, Int.reduceLE, Option.getD, Int.reduceMul, Int.reduceAdd, List.drop, List.take, Nat.reduceBEq, List.isEmpty, Int.reduceEq, Int.reduceNe, Int.reduceNeg, Int.reduceGT, Int.reduceGE, beq_true, beq_false, UInt8.reduceToNat, eqE, eq_self, foldE, maxE, minE, fillA, over, chop, List.replicate, leavesOk, leafOk, cellsEq, cellEq, E_byref, en25, op_lookup, ca51, ik38, h1, h2, h3, h4, h5, mcK_cn, mcK_0, mcK_1, mcK_2, mcK_3]
  exact ⟨_, rfl⟩
theorem s_10 (row : Int) (l : List Gl) (hg : okG l) (c w r : Int) (k : Kk) (arg : Int) (hk : okK k) (hb : bI arg ∧ bI row ∧ bI c ∧ bI w) : ∃ L, callT E 25 [.ptr 0 0 0 0, .agg [.i (.v (.int .i64 (10))), .i (.v (.int .i64 arg))]] [.box (mcK row (.sl 3 (rowsG l) false) c w r k)] = some (.tup [], .box (mcK row (.sl 3 (rowsG l) false) (simK row l c w k (10) arg).1 (simK row l c w k (10) arg).2.1 r (simK row l c w k (10) arg).2.2) :: L) := by
  have hnv : ¬ isV 10 := by decide
  have h1 := fun T => ik37_N row (.sl 3 (rowsG l) false) c w r k 10 arg hnv T
  have b0 := popV_b hk
  have h2 := fun T => ik24_K row (.sl 3 (rowsG l) false) c w r k hk T
  have b1 := popV_b (popK_ok hk)
  have h3 := fun T => ik24_K row (.sl 3 (rowsG l) false) c w r (popK k) (popK_ok hk) T
  have h5 := fun T => ik39_K row (.sl 3 (rowsG l) false) c w r (popK (popK k)) (twoS 10 (popV (popK k)) (popV k)) (twoS_b 10 b1 b0) (popK_ok (popK_ok hk)) T
  rw [show twoS 10 (popV (popK k)) (popV k) = (popV (popK k) * popV k) from rfl] at h5
  have h4 := fun H => ik52 (popV (popK k)) (popV k) b1 b0 H
  have h6 : simK row l c w k 10 arg = (c, w, pushK (popK (popK k)) (popV (popK k) * popV k)) := by simp only [simK, if_neg hnv]; rfl
  rw [h6]
  simp only
  generalize (popV (popK k) * popV k) = y at *
  generalize popV (popK k) = a at *
  generalize popV k = b at *
  rw [callT_eq Tryd.func25 rfl fok25 (by simp [Tryd.ntmps25])]
  simp (disch := first | omega | (simp only [vlen]; omega)) only [vall, List.take_of_length_le, gB, gcW, gcR, posIn, renA, renL, Chunk.ren, Chunk.refs, evOpD, touchD, stepC, isFresh, nFresh, freshOf, mkR, hole, evL, evH, opd, get, putD, ofVal, cellOf, loadE, behind, lenE, idxAddrE, idxE, lookE, lookM, addPtr, intE, strE, unE, convE, AV.int, AV.bool, AV.str, ivs, take, frameOf, firstRegion, refsA, refsL, one, cellsA, floatOk, apartT, List.map, if_true, if_false, E_P, E_glob0, E_glob1, reduceCtorEq, beq_self_eq_true, ↓reduceIte, Nat.reduceEqDiff, cond_true, cond_false, Nat.reduceAdd, Nat.reduceSub, Nat.reduceMul, Nat.reduceLT, Nat.reduceLeDiff, Int.reduceToNat, Int.reduceLT, Int.reduceLE, Option.getD, Int.reduceMul, Int.reduceAdd, List.drop, List.take, Nat.reduceBEq, List.isEmpty, Int.reduceEq, Int.reduceNe, Int.reduceNeg, Int.reduceGT, Int.reduceGE, beq_true, beq_false, UInt8.reduceToNat, eqE, eq_self, foldE, maxE, minE, fillA, over, chop, List.replicate, leavesOk, leafOk, cellsEq, cellEq, E_byref, en25, op_lookup, ca52, ik38, h1, h2, h3, h4, h5, mcK_cn, mcK_0, mcK_1, mcK_2, mcK_3]
  exact ⟨_, rfl⟩
theorem s_11 (row : Int) (l : List Gl) (hg : okG l) (c w r : Int) (k : Kk) (arg : Int) (hk : okK k) (hb : bI arg ∧ bI row ∧ bI c ∧ bI w) : ∃ L, callT E 25 [.ptr 0 0 0 0, .agg [.i (.v (.int .i64 (11))), .i (.v (.int .i64 arg))]] [.box (mcK row (.sl 3 (rowsG l) false) c w r k)] = some (.tup [], .box (mcK row (.sl 3 (rowsG l) false) (simK row l c w k (11) arg).1 (simK row l c w k (11) arg).2.1 r (simK row l c w k (11) arg).2.2) :: L) := by
  have hnv : ¬ isV 11 := by decide
  have h1 := fun T => ik37_N row (.sl 3 (rowsG l) false) c w r k 11 arg hnv T
  have b0 := popV_b hk
  have h2 := fun T => ik24_K row (.sl 3 (rowsG l) false) c w r k hk T
  have b1 := popV_b (popK_ok hk)
  have h3 := fun T => ik24_K row (.sl 3 (rowsG l) false) c w r (popK k) (popK_ok hk) T
  have h5 := fun T => ik39_K row (.sl 3 (rowsG l) false) c w r (popK (popK k)) (twoS 11 (popV (popK k)) (popV k)) (twoS_b 11 b1 b0) (popK_ok (popK_ok hk)) T
  rw [show twoS 11 (popV (popK k)) (popV k) = (if popV (popK k) = popV k then 1 else 0) from rfl] at h5
  have h4 := fun H => ik53 (popV (popK k)) (popV k) H
  have h6 : simK row l c w k 11 arg = (c, w, pushK (popK (popK k)) (if popV (popK k) = popV k then 1 else 0)) := by simp only [simK, if_neg hnv]; rfl
  rw [h6]
  simp only
  generalize (if popV (popK k) = popV k then 1 else 0) = y at *
  generalize popV (popK k) = a at *
  generalize popV k = b at *
  rw [callT_eq Tryd.func25 rfl fok25 (by simp [Tryd.ntmps25])]
  simp (disch := first | omega | (simp only [vlen]; omega)) only [vall, List.take_of_length_le, gB, gcW, gcR, posIn, renA, renL, Chunk.ren, Chunk.refs, evOpD, touchD, stepC, isFresh, nFresh, freshOf, mkR, hole, evL, evH, opd, get, putD, ofVal, cellOf, loadE, behind, lenE, idxAddrE, idxE, lookE, lookM, addPtr, intE, strE, unE, convE, AV.int, AV.bool, AV.str, ivs, take, frameOf, firstRegion, refsA, refsL, one, cellsA, floatOk, apartT, List.map, if_true, if_false, E_P, E_glob0, E_glob1, reduceCtorEq, beq_self_eq_true, ↓reduceIte, Nat.reduceEqDiff, cond_true, cond_false, Nat.reduceAdd, Nat.reduceSub, Nat.reduceMul, Nat.reduceLT, Nat.reduceLeDiff, Int.reduceToNat, Int.reduceLT, Int.reduceLE, Option.getD, Int.reduceMul, Int.reduceAdd, List.drop, List.take, Nat.reduceBEq, List.isEmpty, Int.reduceEq, Int.reduceNe, Int.reduceNeg, Int.reduceGT, Int.reduceGE, beq_true, beq_false, UInt8.reduceToNat, eqE, eq_self, foldE, maxE, minE, fillA, over, chop, List.replicate, leavesOk, leafOk, cellsEq, cellEq, E_byref, en25, op_lookup, ca53, ik38, h1, h2, h3, h4, h5, mcK_cn, mcK_0, mcK_1, mcK_2, mcK_3]
  exact ⟨_, rfl⟩
theorem s_12 (row : Int) (l : List Gl) (hg : okG l) (c w r : Int) (k : Kk) (arg : Int) (hk : okK k) (hb : bI arg ∧ bI row ∧ bI c ∧ bI w) : ∃ L, callT E 25 [.ptr 0 0 0 0, .agg [.i (.v (.int .i64 (12))), .i (.v (.int .i64 arg))]] [.box (mcK row (.sl 3 (rowsG l) false) c w r k)] = some (.tup [], .box (mcK row (.sl 3 (rowsG l) false) (simK row l c w k (12) arg).1 (simK row l c w k (12) arg).2.1 r (simK row l c w k (12) arg).2.2) :: L) := by
  have hnv : ¬ isV 12 := by decide
  have h1 := fun T => ik37_N row (.sl 3 (rowsG l) false) c w r k 12 arg hnv T
  have b0 := popV_b hk
  have h2 := fun T => ik24_K row (.sl 3 (rowsG l) false) c w r k hk T
  have b1 := popV_b (popK_ok hk)
  have h3 := fun T => ik24_K row (.sl 3 (rowsG l) false) c w r (popK k) (popK_ok hk) T
  have h5 := fun T => ik39_K row (.sl 3 (rowsG l) false) c w r (popK (popK k)) (twoS 12 (popV (popK k)) (popV k)) (twoS_b 12 b1 b0) (popK_ok (popK_ok hk)) T
  rw [show twoS 12 (popV (popK k)) (popV k) = (if popV (popK k) < popV k then 1 else 0) from rfl] at h5
  have h4 := fun H => ik54 (popV (popK k)) (popV k) H
  have h6 : simK row l c w k 12 arg = (c, w, pushK (popK (popK k)) (if popV (popK k) < popV k then 1 else 0)) := by simp only [simK, if_neg hnv]; rfl
  rw [h6]
  simp only
  generalize (if popV (popK k) < popV k then 1 else 0) = y at *
  generalize popV (popK k) = a at *
  generalize popV k = b at *
  rw [callT_eq Tryd.func25 rfl fok25 (by simp [Tryd.ntmps25])]
  simp (disch := first | omega | (simp only [vlen]; omega)) only [vall, List.take_of_length_le, gB, gcW, gcR, posIn, renA, renL, Chunk.ren, Chunk.refs, evOpD, touchD, stepC, isFresh, nFresh, freshOf, mkR, hole, evL, evH, opd, get, putD, ofVal, cellOf, loadE, behind, lenE, idxAddrE, idxE, lookE, lookM, addPtr, intE, strE, unE, convE, AV.int, AV.bool, AV.str, ivs, take, frameOf, firstRegion, refsA, refsL, one, cellsA, floatOk, apartT, List.map, if_true, if_false, E_P, E_glob0, E_glob1, reduceCtorEq, beq_self_eq_true, ↓reduceIte, Nat.reduceEqDiff, cond_true, cond_false, Nat.reduceAdd, Nat.reduceSub, Nat.reduceMul, Nat.reduceLT, Nat.reduceLeDiff, Int.reduceToNat, Int.reduceLT, Int.reduceLE, Option.getD, Int.reduceMul, Int.reduceAdd, List.drop, List.take, Nat.reduceBEq, List.isEmpty, Int.reduceEq, Int.reduceNe, Int.reduceNeg, Int.reduceGT, Int.reduceGE, beq_true, beq_false, UInt8.reduceToNat, eqE, eq_self, foldE, maxE, minE, fillA, over, chop, List.replicate, leavesOk, leafOk, cellsEq, cellEq, E_byref, en25, op_lookup, ca54, ik38, h1, h2, h3, h4, h5, mcK_cn, mcK_0, mcK_1, mcK_2, mcK_3]
  exact ⟨_, rfl⟩
theorem s_4 (row : Int) (l : List Gl) (hg : okG l) (c w r : Int) (k : Kk) (arg : Int) (hk : okK k) (hb : bI arg ∧ bI row ∧ bI c ∧ bI w) : ∃ L, callT E 25 [.ptr 0 0 0 0, .agg [.i (.v (.int .i64 (4))), .i (.v (.int .i64 arg))]] [.box (mcK row (.sl 3 (rowsG l) false) c w r k)] = some (.tup [], .box (mcK row (.sl 3 (rowsG l) false) (simK row l c w k (4) arg).1 (simK row l c w k (4) arg).2.1 r (simK row l c w k (4) arg).2.2) :: L) := by
  have hnv : ¬ isV 4 := by decide
  have h1 := fun T => ik37_N row (.sl 3 (rowsG l) false) c w r k 4 arg hnv T
  have b0 := popV_b hk
  have h2 := fun T => ik24_K row (.sl 3 (rowsG l) false) c w r k hk T
  have h3 := fun T => ik40 l hg (mcK row (.sl 3 (rowsG l) false) c w r (popK k)) (fun B H => mcK_cn B H) mcK_1 (mcK_len (popK_ok hk)) mcK_refs (popV k) T
  have h5 := fun T => ik39_K row (.sl 3 (rowsG l) false) c w r (popK k) (charS l (popV k)) (charS_b l (popV k)) (popK_ok hk) T
  have h6 : simK row l c w k 4 arg = (c, w, pushK (popK k) (charS l (popV k))) := by simp only [simK, if_neg hnv]; rfl
  rw [h6]
  simp only
  generalize charS l (popV k) = y at *
  generalize popV k = b at *
  rw [callT_eq Tryd.func25 rfl fok25 (by simp [Tryd.ntmps25])]
  simp (disch := first | omega | (simp only [vlen]; omega)) only [vall, List.take_of_length_le, gB, gcW, gcR, posIn, renA, renL, Chunk.ren, Chunk.refs, evOpD, touchD, stepC, isFresh, nFresh, freshOf, mkR, hole, evL, evH, opd, get, putD, ofVal, cellOf, loadE, behind, lenE, idxAddrE, idxE, lookE, lookM, addPtr, intE, strE, unE, convE, AV.int, AV.bool, AV.str, ivs, take, frameOf, firstRegion, refsA, refsL, one, cellsA, floatOk, apartT, List.map, if_true, if_false, E_P, E_glob0, E_glob1, reduceCtorEq, beq_self_eq_true, ↓reduceIte, Nat.reduceEqDiff, cond_true, cond_false, Nat.reduceAdd, Nat.reduceSub, Nat.reduceMul, Nat.reduceLT, Nat.reduceLeDiff, Int.reduceToNat, Int.reduceLT, Int.reduceLE, Option.getD, Int.reduceMul, Int.reduceAdd, List.drop, List.take, Nat.reduceBEq, List.isEmpty, Int.reduceEq, Int.reduceNe, Int.reduceNeg, Int.reduceGT, Int.reduceGE, beq_true, beq_false, UInt8.reduceToNat, eqE, eq_self, foldE, maxE, minE, fillA, over, chop, List.replicate, leavesOk, leafOk, cellsEq, cellEq, E_byref, en25, op_lookup, ik38, h1, h2, h3, h5, mcK_cn, mcK_0, mcK_1, mcK_2, mcK_3]
  exact ⟨_, rfl⟩
theorem s_5_in (row : Int) (l : List Gl) (hg : okG l) (c w r : Int) (k : Kk) (arg : Int) (hk : okK k) (hi : 0 ≤ popV k ∧ popV k < l.length) : ∃ L, callT E 25 [.ptr 0 0 0 0, .agg [.i (.v (.int .i64 5)), .i (.v (.int .i64 arg))]] [.box (mcK row (.sl 3 (rowsG l) false) c w r k)] = some (.tup [], .box (mcK row (.sl 3 (rowsG l) false) c w r (pushK (popK k) (l.getD (popV k).toNat ([], false, 0)).2.2)) :: L) := by
  have hnv : ¬ isV 5 := by decide
  have h1 := fun T => ik37_N row (.sl 3 (rowsG l) false) c w r k 5 arg hnv T
  have h2 := fun T => ik24_K row (.sl 3 (rowsG l) false) c w r k hk T
  have h3 := fun T => ik41_in l (by have := hg.1; omega) (mcK row (.sl 3 (rowsG l) false) c w r (popK k)) (fun B H => mcK_cn B H) mcK_1 (mcK_len (popK_ok hk)) mcK_refs (popV k) hi T
  have h5 := fun T => ik39_K row (.sl 3 (rowsG l) false) c w r (popK k) (l.getD (popV k).toNat ([], false, 0)).2.2 (okG_at hg _).2 (popK_ok hk) T
  generalize l.getD (popV k).toNat ([], false, 0) = y at *
  generalize popV k = b at *
  obtain ⟨y1, y2, y3⟩ := y
  simp only at h3 h5 ⊢
  rw [callT_eq Tryd.func25 rfl fok25 (by simp [Tryd.ntmps25])]
  simp (disch := first | omega | (simp only [vlen]; omega)) only [vall, List.take_of_length_le, gB, gcW, gcR, posIn, renA, renL, Chunk.ren, Chunk.refs, evOpD, touchD, stepC, isFresh, nFresh, freshOf, mkR, hole, evL, evH, opd, get, putD, ofVal, cellOf, loadE, behind, lenE, idxAddrE, idxE, lookE, lookM, addPtr, intE, strE, unE, convE, AV.int, AV.bool, AV.str, ivs, take, frameOf, firstRegion, refsA, refsL, one, cellsA, floatOk, apartT, List.map, if_true, if_false, E_P, E_glob0, E_glob1, reduceCtorEq, beq_self_eq_true, ↓reduceIte, Nat.reduceEqDiff, cond_true, cond_false, Nat.reduceAdd, Nat.reduceSub, Nat.reduceMul, Nat.reduceLT, Nat.reduceLeDiff, Int.reduceToNat, Int.reduceLT, Int.reduceLE, Option.getD, Int.reduceMul, Int.reduceAdd, List.drop, List.take, Nat.reduceBEq, List.isEmpty, Int.reduceEq, Int.reduceNe, Int.reduceNeg, Int.reduceGT, Int.reduceGE, beq_true, beq_false, UInt8.reduceToNat, eqE, eq_self, foldE, maxE, minE, fillA, over, chop, List.replicate, leavesOk, leafOk, cellsEq, cellEq, E_byref, en25, op_lookup, ik38, h1, h2, h3, h5, mcK_cn, mcK_0, mcK_1, mcK_2, mcK_3]
  exact ⟨_, rfl⟩
theorem s_5_out (row : Int) (l : List Gl) (hg : okG l) (c w r : Int) (k : Kk) (arg : Int) (hk : okK k) (hi : popV k < 0 ∨ (l.length : Int) ≤ popV k) : ∃ L, callT E 25 [.ptr 0 0 0 0, .agg [.i (.v (.int .i64 5)), .i (.v (.int .i64 arg))]] [.box (mcK row (.sl 3 (rowsG l) false) c w r k)] = some (.tup [], .box (mcK row (.sl 3 (rowsG l) false) c w r (pushK (popK k) 0)) :: L) := by
  have hnv : ¬ isV 5 := by decide
  have h1 := fun T => ik37_N row (.sl 3 (rowsG l) false) c w r k 5 arg hnv T
  have h2 := fun T => ik24_K row (.sl 3 (rowsG l) false) c w r k hk T
  have h3 := fun T => ik41_out l (by have := hg.1; omega) (mcK row (.sl 3 (rowsG l) false) c w r (popK k)) (fun B H => mcK_cn B H) mcK_1 (mcK_len (popK_ok hk)) mcK_refs (popV k) hi T
  have h5 := fun T => ik39_K row (.sl 3 (rowsG l) false) c w r (popK k) 0 (by decide) (popK_ok hk) T
  generalize popV k = b at *
  rw [callT_eq Tryd.func25 rfl fok25 (by simp [Tryd.ntmps25])]
  simp (disch := first | omega | (simp only [vlen]; omega)) only [vall, List.take_of_length_le, gB, gcW, gcR, posIn, renA, renL, Chunk.ren, Chunk.refs, evOpD, touchD, stepC, isFresh, nFresh, freshOf, mkR, hole, evL, evH, opd, get, putD, ofVal, cellOf, loadE, behind, lenE, idxAddrE, idxE, lookE, lookM, addPtr, intE, strE, unE, convE, AV.int, AV.bool, AV.str, ivs, take, frameOf, firstRegion, refsA, refsL, one, cellsA, floatOk, apartT, List.map, if_true, if_false, E_P, E_glob0, E_glob1, reduceCtorEq, beq_self_eq_true, ↓reduceIte, Nat.reduceEqDiff, cond_true, cond_false, Nat.reduceAdd, Nat.reduceSub, Nat.reduceMul, Nat.reduceLT, Nat.reduceLeDiff, Int.reduceToNat, Int.reduceLT, Int.reduceLE, Option.getD, Int.reduceMul, Int.reduceAdd, List.drop, List.take, Nat.reduceBEq, List.isEmpty, Int.reduceEq, Int.reduceNe, Int.reduceNeg, Int.reduceGT, Int.reduceGE, beq_true, beq_false, UInt8.reduceToNat, eqE, eq_self, foldE, maxE, minE, fillA, over, chop, List.replicate, leavesOk, leafOk, cellsEq, cellEq, E_byref, en25, op_lookup, ik38, h1, h2, h3, h5, mcK_cn, mcK_0, mcK_1, mcK_2, mcK_3]
  exact ⟨_, rfl⟩
theorem s_5 (row : Int) (l : List Gl) (hg : okG l) (c w r : Int) (k : Kk) (arg : Int) (hk : okK k) (hb : bI arg ∧ bI row ∧ bI c ∧ bI w) : ∃ L, callT E 25 [.ptr 0 0 0 0, .agg [.i (.v (.int .i64 (5))), .i (.v (.int .i64 arg))]] [.box (mcK row (.sl 3 (rowsG l) false) c w r k)] = some (.tup [], .box (mcK row (.sl 3 (rowsG l) false) (simK row l c w k (5) arg).1 (simK row l c w k (5) arg).2.1 r (simK row l c w k (5) arg).2.2) :: L) := by
  have h6 : simK row l c w k 5 arg = (c, w, pushK (popK k) (styleV l (popV k))) := by simp only [simK, if_neg (show ¬ isV 5 from by decide)]; rfl
  rw [h6]
  unfold styleV
  by_cases hi : popV k < 0 ∨ (l.length : Int) ≤ popV k
  · rw [if_pos hi]
    exact s_5_out row l hg c w r k arg hk hi
  · rw [if_neg hi]
    exact s_5_in row l hg c w r k arg hk (by omega)
theorem s_13 (row : Int) (l : List Gl) (hg : okG l) (c w r : Int) (k : Kk) (arg : Int) (hk : okK k) (hb : bI arg ∧ bI row ∧ bI c ∧ bI w) : ∃ L, callT E 25 [.ptr 0 0 0 0, .agg [.i (.v (.int .i64 (13))), .i (.v (.int .i64 arg))]] [.box (mcK row (.sl 3 (rowsG l) false) c w r k)] = some (.tup [], .box (mcK row (.sl 3 (rowsG l) false) (simK row l c w k (13) arg).1 (simK row l c w k (13) arg).2.1 r (simK row l c w k (13) arg).2.2) :: L) := by
  have hnv : ¬ isV 13 := by decide
  have h1 := fun T => ik37_N row (.sl 3 (rowsG l) false) c w r k 13 arg hnv T
  have h2 := fun T => ik24_K row (.sl 3 (rowsG l) false) c w r k hk T
  have h6 : simK row l c w k 13 arg = (c, w, pushK (popK k) (if popV k = 0 then 1 else 0)) := by simp only [simK, if_neg hnv]; rfl
  rw [h6]
  simp only
  by_cases h0 : popV k = 0
  · have ht := fun H => ik42 true H
    rw [if_pos rfl] at ht
    rw [if_pos h0]
    have h5 := fun T => ik39_K row (.sl 3 (rowsG l) false) c w r (popK k) 1 (by decide) (popK_ok hk) T
    rw [h0] at h2
    rw [callT_eq Tryd.func25 rfl fok25 (by simp [Tryd.ntmps25])]
    simp (disch := first | omega | (simp only [vlen]; omega)) only [vall, List.take_of_length_le, gB, gcW, gcR, posIn, renA, renL, Chunk.ren, Chunk.refs, evOpD, touchD, stepC, isFresh, nFresh, freshOf, mkR, hole, evL, evH, opd, get, putD, ofVal, cellOf, loadE, behind, lenE, idxAddrE, idxE, lookE, lookM, addPtr, intE, strE, unE, convE, AV.int, AV.bool, AV.str, ivs, take, frameOf, firstRegion, refsA, refsL, one, cellsA, floatOk, apartT, List.map, if_true, if_false, E_P, E_glob0, E_glob1, reduceCtorEq, beq_self_eq_true, ↓reduceIte, Nat.reduceEqDiff, cond_true, cond_false, Nat.reduceAdd, Nat.reduceSub, Nat.reduceMul, Nat.reduceLT, Nat.reduceLeDiff, Int.reduceToNat, Int.reduceLT, Int.reduceLE, Option.getD, Int.reduceMul, Int.reduceAdd, List.drop, List.take, Nat.reduceBEq, List.isEmpty, Int.reduceEq, Int.reduceNe, Int.reduceNeg, Int.reduceGT, Int.reduceGE, beq_true, beq_false, UInt8.reduceToNat, eqE, eq_self, foldE, maxE, minE, fillA, over, chop, List.replicate, leavesOk, leafOk, cellsEq, cellEq, E_byref, en25, op_lookup, ik38, h1, h2, ht, h5, mcK_cn, mcK_0, mcK_1, mcK_2, mcK_3]
    exact ⟨_, rfl⟩
  · have ht := fun H => ik42 false H
    rw [if_neg (by decide)] at ht
    rw [if_neg h0]
    have h5 := fun T => ik39_K row (.sl 3 (rowsG l) false) c w r (popK k) 0 (by decide) (popK_ok hk) T
    generalize popV k = b at *
    rw [callT_eq Tryd.func25 rfl fok25 (by simp [Tryd.ntmps25])]
    simp (disch := first | omega | (simp only [vlen]; omega)) only [vall, List.take_of_length_le, gB, gcW, gcR, posIn, renA, renL, Chunk.ren, Chunk.refs, evOpD, touchD, stepC, isFresh, nFresh, freshOf, mkR, hole, evL, evH, opd, get, putD, ofVal, cellOf, loadE, behind, lenE, idxAddrE, idxE, lookE, lookM, addPtr, intE, strE, unE, convE, AV.int, AV.bool, AV.str, ivs, take, frameOf, firstRegion, refsA, refsL, one, cellsA, floatOk, apartT, List.map, if_true, if_false, E_P, E_glob0, E_glob1, reduceCtorEq, beq_self_eq_true, ↓reduceIte, Nat.reduceEqDiff, cond_true, cond_false, Nat.reduceAdd, Nat.reduceSub, Nat.reduceMul, Nat.reduceLT, Nat.reduceLeDiff, Int.reduceToNat, Int.reduceLT, Int.reduceLE, Option.getD, Int.reduceMul, Int.reduceAdd, List.drop, List.take, Nat.reduceBEq, List.isEmpty, Int.reduceEq, Int.reduceNe, Int.reduceNeg, Int.reduceGT, Int.reduceGE, beq_true, beq_false, UInt8.reduceToNat, eqE, eq_self, foldE, maxE, minE, fillA, over, chop, List.replicate, leavesOk, leafOk, cellsEq, cellEq, E_byref, en25, op_lookup, ik38, h0, h1, h2, ht, h5, mcK_cn, mcK_0, mcK_1, mcK_2, mcK_3]
    exact ⟨_, rfl⟩
theorem s_14 (row : Int) (l : List Gl) (hg : okG l) (c w r : Int) (k : Kk) (arg : Int) (hk : okK k) (hb : bI arg ∧ bI row ∧ bI c ∧ bI w) : ∃ L, callT E 25 [.ptr 0 0 0 0, .agg [.i (.v (.int .i64 (14))), .i (.v (.int .i64 arg))]] [.box (mcK row (.sl 3 (rowsG l) false) c w r k)] = some (.tup [], .box (mcK row (.sl 3 (rowsG l) false) (simK row l c w k (14) arg).1 (simK row l c w k (14) arg).2.1 r (simK row l c w k (14) arg).2.2) :: L) := by
  have hnv : ¬ isV 14 := by decide
  have h1 := fun T => ik37_N row (.sl 3 (rowsG l) false) c w r k 14 arg hnv T
  have b0 := popV_b hk
  have h2 := fun T => ik24_K row (.sl 3 (rowsG l) false) c w r k hk T
  have h3 := fun T => ik39_K row (.sl 3 (rowsG l) false) c w r (popK k) (popV k) (by omega) (popK_ok hk) T
  have h5 := fun T => ik39_K row (.sl 3 (rowsG l) false) c w r (pushK (popK k) (popV k)) (popV k) (by omega) (pushK_ok (popK_ok hk) _) T
  have h6 : simK row l c w k 14 arg = (c, w, pushK (pushK (popK k) (popV k)) (popV k)) := by simp only [simK, if_neg hnv]; rfl
  rw [h6]
  simp only
  generalize hk2 : pushK (popK k) (popV k) = k2 at *
  generalize popV k = b at *
  rw [callT_eq Tryd.func25 rfl fok25 (by simp [Tryd.ntmps25])]
  simp (disch := first | omega | (simp only [vlen]; omega)) only [vall, List.take_of_length_le, gB, gcW, gcR, posIn, renA, renL, Chunk.ren, Chunk.refs, evOpD, touchD, stepC, isFresh, nFresh, freshOf, mkR, hole, evL, evH, opd, get, putD, ofVal, cellOf, loadE, behind, lenE, idxAddrE, idxE, lookE, lookM, addPtr, intE, strE, unE, convE, AV.int, AV.bool, AV.str, ivs, take, frameOf, firstRegion, refsA, refsL, one, cellsA, floatOk, apartT, List.map, if_true, if_false, E_P, E_glob0, E_glob1, reduceCtorEq, beq_self_eq_true, ↓reduceIte, Nat.reduceEqDiff, cond_true, cond_false, Nat.reduceAdd, Nat.reduceSub, Nat.reduceMul, Nat.reduceLT, Nat.reduceLeDiff, Int.reduceToNat, Int.reduceLT, Int.reduceLE, Option.getD, Int.reduceMul, Int.reduceAdd, List.drop, List.take, Nat.reduceBEq, List.isEmpty, Int.reduceEq, Int.reduceNe, Int.reduceNeg, Int.reduceGT, Int.reduceGE, beq_true, beq_false, UInt8.reduceToNat, eqE, eq_self, foldE, maxE, minE, fillA, over, chop, List.replicate, leavesOk, leafOk, cellsEq, cellEq, E_byref, en25, op_lookup, ik38, h1, h2, h3, h5, mcK_cn, mcK_0, mcK_1, mcK_2, mcK_3]
  exact ⟨_, rfl⟩
theorem s_16 (row : Int) (l : List Gl) (hg : okG l) (c w r : Int) (k : Kk) (arg : Int) (hk : okK k) (hb : bI arg ∧ bI row ∧ bI c ∧ bI w) : ∃ L, callT E 25 [.ptr 0 0 0 0, .agg [.i (.v (.int .i64 (16))), .i (.v (.int .i64 arg))]] [.box (mcK row (.sl 3 (rowsG l) false) c w r k)] = some (.tup [], .box (mcK row (.sl 3 (rowsG l) false) (simK row l c w k (16) arg).1 (simK row l c w k (16) arg).2.1 r (simK row l c w k (16) arg).2.2) :: L) := by
  have hnv : ¬ isV 16 := by decide
  have h1 := fun T => ik37_N row (.sl 3 (rowsG l) false) c w r k 16 arg hnv T
  have b0 := popV_b hk
  have h2 := fun T => ik24_K row (.sl 3 (rowsG l) false) c w r k hk T
  have b1 := popV_b (popK_ok hk)
  have h3 := fun T => ik24_K row (.sl 3 (rowsG l) false) c w r (popK k) (popK_ok hk) T
  have h4 := fun T => ik39_K row (.sl 3 (rowsG l) false) c w r (popK (popK k)) (popV k) (by omega) (popK_ok (popK_ok hk)) T
  have h5 := fun T => ik39_K row (.sl 3 (rowsG l) false) c w r (pushK (popK (popK k)) (popV k)) (popV (popK k)) (by omega) (pushK_ok (popK_ok (popK_ok hk)) _) T
  have h6 : simK row l c w k 16 arg = (c, w, pushK (pushK (popK (popK k)) (popV k)) (popV (popK k))) := by simp only [simK, if_neg hnv]; rfl
  rw [h6]
  simp only
  generalize hk2 : pushK (popK (popK k)) (popV k) = k2 at *
  generalize popV (popK k) = a at *
  generalize popV k = b at *
  rw [callT_eq Tryd.func25 rfl fok25 (by simp [Tryd.ntmps25])]
  simp (disch := first | omega | (simp only [vlen]; omega)) only [vall, List.take_of_length_le, gB, gcW, gcR, posIn, renA, renL, Chunk.ren, Chunk.refs, evOpD, touchD, stepC, isFresh, nFresh, freshOf, mkR, hole, evL, evH, opd, get, putD, ofVal, cellOf, loadE, behind, lenE, idxAddrE, idxE, lookE, lookM, addPtr, intE, strE, unE, convE, AV.int, AV.bool, AV.str, ivs, take, frameOf, firstRegion, refsA, refsL, one, cellsA, floatOk, apartT, List.map, if_true, if_false, E_P, E_glob0, E_glob1, reduceCtorEq, beq_self_eq_true, ↓reduceIte, Nat.reduceEqDiff, cond_true, cond_false, Nat.reduceAdd, Nat.reduceSub, Nat.reduceMul, Nat.reduceLT, Nat.reduceLeDiff, Int.reduceToNat, Int.reduceLT, Int.reduceLE, Option.getD, Int.reduceMul, Int.reduceAdd, List.drop, List.take, Nat.reduceBEq, List.isEmpty, Int.reduceEq, Int.reduceNe, Int.reduceNeg, Int.reduceGT, Int.reduceGE, beq_true, beq_false, UInt8.reduceToNat, eqE, eq_self, foldE, maxE, minE, fillA, over, chop, List.replicate, leavesOk, leafOk, cellsEq, cellEq, E_byref, en25, op_lookup, ik38, h1, h2, h3, h4, h5, mcK_cn, mcK_0, mcK_1, mcK_2, mcK_3]
  exact ⟨_, rfl⟩
theorem s_15 (row : Int) (l : List Gl) (hg : okG l) (c w r : Int) (k : Kk) (arg : Int) (hk : okK k) (hb : bI arg ∧ bI row ∧ bI c ∧ bI w) : ∃ L, callT E 25 [.ptr 0 0 0 0, .agg [.i (.v (.int .i64 (15))), .i (.v (.int .i64 arg))]] [.box (mcK row (.sl 3 (rowsG l) false) c w r k)] = some (.tup [], .box (mcK row (.sl 3 (rowsG l) false) (simK row l c w k (15) arg).1 (simK row l c w k (15) arg).2.1 r (simK row l c w k (15) arg).2.2) :: L) := by
  have hnv : ¬ isV 15 := by decide
  have h1 := fun T => ik37_N row (.sl 3 (rowsG l) false) c w r k 15 arg hnv T
  have b0 := popV_b hk
  have h2 := fun T => ik24_K row (.sl 3 (rowsG l) false) c w r k hk T
  have h6 : simK row l c w k 15 arg = (c, w, popK k) := by simp only [simK, if_neg hnv]; rfl
  rw [h6]
  simp only
  generalize popV k = b at *
  rw [callT_eq Tryd.func25 rfl fok25 (by simp [Tryd.ntmps25])]
  simp (disch := first | omega | (simp only [vlen]; omega)) only [vall, List.take_of_length_le, gB, gcW, gcR, posIn, renA, renL, Chunk.ren, Chunk.refs, evOpD, touchD, stepC, isFresh, nFresh, freshOf, mkR, hole, evL, evH, opd, get, putD, ofVal, cellOf, loadE, behind, lenE, idxAddrE, idxE, lookE, lookM, addPtr, intE, strE, unE, convE, AV.int, AV.bool, AV.str, ivs, take, frameOf, firstRegion, refsA, refsL, one, cellsA, floatOk, apartT, List.map, if_true, if_false, E_P, E_glob0, E_glob1, reduceCtorEq, beq_self_eq_true, ↓reduceIte, Nat.reduceEqDiff, cond_true, cond_false, Nat.reduceAdd, Nat.reduceSub, Nat.reduceMul, Nat.reduceLT, Nat.reduceLeDiff, Int.reduceToNat, Int.reduceLT, Int.reduceLE, Option.getD, Int.reduceMul, Int.reduceAdd, List.drop, List.take, Nat.reduceBEq, List.isEmpty, Int.reduceEq, Int.reduceNe, Int.reduceNeg, Int.reduceGT, Int.reduceGE, beq_true, beq_false, UInt8.reduceToNat, eqE, eq_self, foldE, maxE, minE, fillA, over, chop, List.replicate, leavesOk, leafOk, cellsEq, cellEq, E_byref, en25, op_lookup, ik38, h1, h2, mcK_cn, mcK_0, mcK_1, mcK_2, mcK_3]
  exact ⟨_, rfl⟩
theorem s_19 (row : Int) (l : List Gl) (hg : okG l) (c w r : Int) (k : Kk) (arg : Int) (hk : okK k) (hb : bI arg ∧ bI row ∧ bI c ∧ bI w) : ∃ L, callT E 25 [.ptr 0 0 0 0, .agg [.i (.v (.int .i64 (19))), .i (.v (.int .i64 arg))]] [.box (mcK row (.sl 3 (rowsG l) false) c w r k)] = some (.tup [], .box (mcK row (.sl 3 (rowsG l) false) (simK row l c w k (19) arg).1 (simK row l c w k (19) arg).2.1 r (simK row l c w k (19) arg).2.2) :: L) := by
  have hnv : ¬ isV 19 := by decide
  have h1 := fun T => ik37_N row (.sl 3 (rowsG l) false) c w r k 19 arg hnv T
  have b0 := popV_b hk
  have h2 := fun T => ik24_K row (.sl 3 (rowsG l) false) c w r k hk T
  have hlen := mcK_len (row := row) (g := .sl 3 (rowsG l) false) (c := c) (w := w) (r := r) (popK_ok hk)
  by_cases h3 : 1 ≤ popV k
  · by_cases h4 : popV k ≤ 3
    · have h6 : simK row l c w k 19 arg = (popV k, w, popK k) := by
        have : simK row l c w k 19 arg = (if 1 ≤ popV k ∧ popV k ≤ 3 then popV k else c, w, popK k) := by simp only [simK, if_neg hnv]; rfl
        rw [this, if_pos ⟨h3, h4⟩]
      rw [h6]
      simp only
      have hput := mcK_put2 (row := row) (g := .sl 3 (rowsG l) false) (c := c) (w := w) (r := r) (k := popK k) (popV k)
      generalize popV k = b at *
      rw [callT_eq Tryd.func25 rfl fok25 (by simp [Tryd.ntmps25])]
      simp (disch := first | omega | (simp only [vlen, hlen]; omega)) only [vall, List.take_of_length_le, gB, gcW, gcR, posIn, renA, renL, Chunk.ren, Chunk.refs, evOpD, touchD, stepC, isFresh, nFresh, freshOf, mkR, hole, evL, evH, opd, get, putD, ofVal, cellOf, loadE, behind, lenE, idxAddrE, idxE, lookE, lookM, addPtr, intE, strE, unE, convE, AV.int, AV.bool, AV.str, ivs, take, frameOf, firstRegion, refsA, refsL, one, cellsA, floatOk, apartT, List.map, if_true, if_false, E_P, E_glob0, E_glob1, reduceCtorEq, beq_self_eq_true, ↓reduceIte, Nat.reduceEqDiff, cond_true, cond_false, Nat.reduceAdd, Nat.reduceSub, Nat.reduceMul, Nat.reduceLT, Nat.reduceLeDiff, Int.reduceToNat, Int.reduceLT, Int.reduceLE, Option.getD, Int.reduceMul, Int.reduceAdd, List.drop, List.take, Nat.reduceBEq, List.isEmpty, Int.reduceEq, Int.reduceNe, Int.reduceNeg, Int.reduceGT, Int.reduceGE, beq_true, beq_false, UInt8.reduceToNat, eqE, eq_self, foldE, maxE, minE, fillA, over, chop, List.replicate, leavesOk, leafOk, cellsEq, cellEq, E_byref, en25, op_lookup, ik38, h1, h2, h3, h4, hput, hlen, mcK_cn, mcK_0, mcK_1, mcK_2, mcK_3]
      exact ⟨_, rfl⟩
    · have h6 : simK row l c w k 19 arg = (c, w, popK k) := by
        have : simK row l c w k 19 arg = (if 1 ≤ popV k ∧ popV k ≤ 3 then popV k else c, w, popK k) := by simp only [simK, if_neg hnv]; rfl
        rw [this, if_neg (fun h => h4 h.2)]
      rw [h6]
      simp only
      generalize popV k = b at *
      rw [callT_eq Tryd.func25 rfl fok25 (by simp [Tryd.ntmps25])]
      simp (disch := first | omega | (simp only [vlen]; omega)) only [vall, List.take_of_length_le, gB, gcW, gcR, posIn, renA, renL, Chunk.ren, Chunk.refs, evOpD, touchD, stepC, isFresh, nFresh, freshOf, mkR, hole, evL, evH, opd, get, putD, ofVal, cellOf, loadE, behind, lenE, idxAddrE, idxE, lookE, lookM, addPtr, intE, strE, unE, convE, AV.int, AV.bool, AV.str, ivs, take, frameOf, firstRegion, refsA, refsL, one, cellsA, floatOk, apartT, List.map, if_true, if_false, E_P, E_glob0, E_glob1, reduceCtorEq, beq_self_eq_true, ↓reduceIte, Nat.reduceEqDiff, cond_true, cond_false, Nat.reduceAdd, Nat.reduceSub, Nat.reduceMul, Nat.reduceLT, Nat.reduceLeDiff, Int.reduceToNat, Int.reduceLT, Int.reduceLE, Option.getD, Int.reduceMul, Int.reduceAdd, List.drop, List.take, Nat.reduceBEq, List.isEmpty, Int.reduceEq, Int.reduceNe, Int.reduceNeg, Int.reduceGT, Int.reduceGE, beq_true, beq_false, UInt8.reduceToNat, eqE, eq_self, foldE, maxE, minE, fillA, over, chop, List.replicate, leavesOk, leafOk, cellsEq, cellEq, E_byref, en25, op_lookup, ik38, h1, h2, h3, h4, mcK_cn, mcK_0, mcK_1, mcK_2, mcK_3]
      exact ⟨_, rfl⟩
  · have h6 : simK row l c w k 19 arg = (c, w, popK k) := by
      have : simK row l c w k 19 arg = (if 1 ≤ popV k ∧ popV k ≤ 3 then popV k else c, w, popK k) := by simp only [simK, if_neg hnv]; rfl
      rw [this, if_neg (fun h => h3 h.1)]
    rw [h6]
    simp only
    generalize popV k = b at *
    rw [callT_eq Tryd.func25 rfl fok25 (by simp [Tryd.ntmps25])]
    simp (disch := first | omega | (simp only [vlen]; omega)) only [vall, List.take_of_length_le, gB, gcW, gcR, posIn, renA, renL, Chunk.ren, Chunk.refs, evOpD, touchD, stepC, isFresh, nFresh, freshOf, mkR, hole, evL, evH, opd, get, putD, ofVal, cellOf, loadE, behind, lenE, idxAddrE, idxE, lookE, lookM, addPtr, intE, strE, unE, convE, AV.int, AV.bool, AV.str, ivs, take, frameOf, firstRegion, refsA, refsL, one, cellsA, floatOk, apartT, List.map, if_true, if_false, E_P, E_glob0, E_glob1, reduceCtorEq, beq_self_eq_true, ↓reduceIte, Nat.reduceEqDiff, cond_true, cond_false, Nat.reduceAdd, Nat.reduceSub, Nat.reduceMul, Nat.reduceLT, Nat.reduceLeDiff, Int.reduceToNat, Int.reduceLT, Int.reduceLE, Option.getD, Int.reduceMul, Int.reduceAdd, List.drop, List.take, Nat.reduceBEq, List.isEmpty, Int.reduceEq, Int.reduceNe, Int.reduceNeg, Int.reduceGT, Int.reduceGE, beq_true, beq_false, UInt8.reduceToNat, eqE, eq_self, foldE, maxE, minE, fillA, over, chop, List.replicate, leavesOk, leafOk, cellsEq, cellEq, E_byref, en25, op_lookup, ik38, h1, h2, h3, mcK_cn, mcK_0, mcK_1, mcK_2, mcK_3]
    exact ⟨_, rfl⟩
theorem s_20 (row : Int) (l : List Gl) (hg : okG l) (c w r : Int) (k : Kk) (arg : Int) (hk : okK k) (hb : bI arg ∧ bI row ∧ bI c ∧ bI w) : ∃ L, callT E 25 [.ptr 0 0 0 0, .agg [.i (.v (.int .i64 (20))), .i (.v (.int .i64 arg))]] [.box (mcK row (.sl 3 (rowsG l) false) c w r k)] = some (.tup [], .box (mcK row (.sl 3 (rowsG l) false) (simK row l c w k (20) arg).1 (simK row l c w k (20) arg).2.1 r (simK row l c w k (20) arg).2.2) :: L) := by
  have hnv : ¬ isV 20 := by decide
  have h1 := fun T => ik37_N row (.sl 3 (rowsG l) false) c w r k 20 arg hnv T
  have b0 := popV_b hk
  have h2 := fun T => ik24_K row (.sl 3 (rowsG l) false) c w r k hk T
  have hlen := mcK_len (row := row) (g := .sl 3 (rowsG l) false) (c := c) (w := w) (r := r) (popK_ok hk)
  by_cases h3 : 0 ≤ popV k
  · by_cases h4 : popV k ≤ 60000
    · have h6 : simK row l c w k 20 arg = (c, popV k, popK k) := by
        have : simK row l c w k 20 arg = (c, if 0 ≤ popV k ∧ popV k ≤ 60000 then popV k else w, popK k) := by simp only [simK, if_neg hnv]; rfl
        rw [this, if_pos ⟨h3, h4⟩]
      rw [h6]
      simp only
      have hput := mcK_put3 (row := row) (g := .sl 3 (rowsG l) false) (c := c) (w := w) (r := r) (k := popK k) (popV k)
      generalize popV k = b at *
      rw [callT_eq Tryd.func25 rfl fok25 (by simp [Tryd.ntmps25])]
      simp (disch := first | omega | (simp only [vlen, hlen]; omega)) only [vall, List.take_of_length_le, gB, gcW, gcR, posIn, renA, renL, Chunk.ren, Chunk.refs, evOpD, touchD, stepC, isFresh, nFresh, freshOf, mkR, hole, evL, evH, opd, get, putD, ofVal, cellOf, loadE, behind, lenE, idxAddrE, idxE, lookE, lookM, addPtr, intE, strE, unE, convE, AV.int, AV.bool, AV.str, ivs, take, frameOf, firstRegion, refsA, refsL, one, cellsA, floatOk, apartT, List.map, if_true, if_false, E_P, E_glob0, E_glob1, reduceCtorEq, beq_self_eq_true, ↓reduceIte, Nat.reduceEqDiff, cond_true, cond_false, Nat.reduceAdd, Nat.reduceSub, Nat.reduceMul, Nat.reduceLT, Nat.reduceLeDiff, Int.reduceToNat, Int.reduceLT, Int.reduceLE, Option.getD, Int.reduceMul, Int.reduceAdd, List.drop, List.take, Nat.reduceBEq, List.isEmpty, Int.reduceEq, Int.reduceNe, Int.reduceNeg, Int.reduceGT, Int.reduceGE, beq_true, beq_false, UInt8.reduceToNat, eqE, eq_self, foldE, maxE, minE, fillA, over, chop, List.replicate, leavesOk, leafOk, cellsEq, cellEq, E_byref, en25, op_lookup, ik38, h1, h2, h3, h4, hput, hlen, mcK_cn, mcK_0, mcK_1, mcK_2, mcK_3]
      exact ⟨_, rfl⟩
    · have h6 : simK row l c w k 20 arg = (c, w, popK k) := by
        have : simK row l c w k 20 arg = (c, if 0 ≤ popV k ∧ popV k ≤ 60000 then popV k else w, popK k) := by simp only [simK, if_neg hnv]; rfl
        rw [this, if_neg (fun h => h4 h.2)]
      rw [h6]
      simp only
      generalize popV k = b at *
      rw [callT_eq Tryd.func25 rfl fok25 (by simp [Tryd.ntmps25])]
      simp (disch := first | omega | (simp only [vlen]; omega)) only [vall, List.take_of_length_le, gB, gcW, gcR, posIn, renA, renL, Chunk.ren, Chunk.refs, evOpD, touchD, stepC, isFresh, nFresh, freshOf, mkR, hole, evL, evH, opd, get, putD, ofVal, cellOf, loadE, behind, lenE, idxAddrE, idxE, lookE, lookM, addPtr, intE, strE, unE, convE, AV.int, AV.bool, AV.str, ivs, take, frameOf, firstRegion, refsA, refsL, one, cellsA, floatOk, apartT, List.map, if_true, if_false, E_P, E_glob0, E_glob1, reduceCtorEq, beq_self_eq_true, ↓reduceIte, Nat.reduceEqDiff, cond_true, cond_false, Nat.reduceAdd, Nat.reduceSub, Nat.reduceMul, Nat.reduceLT, Nat.reduceLeDiff, Int.reduceToNat, Int.reduceLT, Int.reduceLE, Option.getD, Int.reduceMul, Int.reduceAdd, List.drop, List.take, Nat.reduceBEq, List.isEmpty, Int.reduceEq, Int.reduceNe, Int.reduceNeg, Int.reduceGT, Int.reduceGE, beq_true, beq_false, UInt8.reduceToNat, eqE, eq_self, foldE, maxE, minE, fillA, over, chop, List.replicate, leavesOk, leafOk, cellsEq, cellEq, E_byref, en25, op_lookup, ik38, h1, h2, h3, h4, mcK_cn, mcK_0, mcK_1, mcK_2, mcK_3]
      exact ⟨_, rfl⟩
  · have h6 : simK row l c w k 20 arg = (c, w, popK k) := by
      have : simK row l c w k 20 arg = (c, if 0 ≤ popV k ∧ popV k ≤ 60000 then popV k else w, popK k) := by simp only [simK, if_neg hnv]; rfl
      rw [this, if_neg (fun h => h3 h.1)]
    rw [h6]
    simp only
    generalize popV k = b at *
    rw [callT_eq Tryd.func25 rfl fok25 (by simp [Tryd.ntmps25])]
    simp (disch := first | omega | (simp only [vlen]; omega)) only [vall, List.take_of_length_le, gB, gcW, gcR, posIn, renA, renL, Chunk.ren, Chunk.refs, evOpD, touchD, stepC, isFresh, nFresh, freshOf, mkR, hole, evL, evH, opd, get, putD, ofVal, cellOf, loadE, behind, lenE, idxAddrE, idxE, lookE, lookM, addPtr, intE, strE, unE, convE, AV.int, AV.bool, AV.str, ivs, take, frameOf, firstRegion, refsA, refsL, one, cellsA, floatOk, apartT, List.map, if_true, if_false, E_P, E_glob0, E_glob1, reduceCtorEq, beq_self_eq_true, ↓reduceIte, Nat.reduceEqDiff, cond_true, cond_false, Nat.reduceAdd, Nat.reduceSub, Nat.reduceMul, Nat.reduceLT, Nat.reduceLeDiff, Int.reduceToNat, Int.reduceLT, Int.reduceLE, Option.getD, Int.reduceMul, Int.reduceAdd, List.drop, List.take, Nat.reduceBEq, List.isEmpty, Int.reduceEq, Int.reduceNe, Int.reduceNeg, Int.reduceGT, Int.reduceGE, beq_true, beq_false, UInt8.reduceToNat, eqE, eq_self, foldE, maxE, minE, fillA, over, chop, List.replicate, leavesOk, leafOk, cellsEq, cellEq, E_byref, en25, op_lookup, ik38, h1, h2, h3, mcK_cn, mcK_0, mcK_1, mcK_2, mcK_3]
    exact ⟨_, rfl⟩
theorem c25 (op : Int) (ho : 0 ≤ op ∧ op ≤ 20 ∧ op ≠ 0 ∧ op ≠ 17 ∧ op ≠ 18) (row : Int) (l : List Gl) (hg : okG l) (c w r : Int) (k : Kk) (arg : Int) (hk : okK k) (hb : bI arg ∧ bI row ∧ bI c ∧ bI w) : ∃ L, callT E 25 [.ptr 0 0 0 0, .agg [.i (.v (.int .i64 (op))), .i (.v (.int .i64 arg))]] [.box (mcK row (.sl 3 (rowsG l) false) c w r k)] = some (.tup [], .box (mcK row (.sl 3 (rowsG l) false) (simK row l c w k (op) arg).1 (simK row l c w k (op) arg).2.1 r (simK row l c w k (op) arg).2.2) :: L) := by
  obtain ⟨n, rfl⟩ := Int.eq_ofNat_of_zero_le ho.1
  have hn : n < 21 := by omega
  have hcases : n = 1 ∨ n = 2 ∨ n = 3 ∨ n = 4 ∨ n = 5 ∨ n = 6 ∨ n = 7 ∨ n = 8 ∨ n = 9 ∨ n = 10 ∨ n = 11 ∨ n = 12 ∨ n = 13 ∨ n = 14 ∨ n = 15 ∨ n = 16 ∨ n = 19 ∨ n = 20 := by omega
  rcases hcases with rfl | rfl | rfl | rfl | rfl | rfl | rfl | rfl | rfl | rfl | rfl | rfl | rfl | rfl | rfl | rfl | rfl | rfl
  · exact s_val 1 (by decide) row l hg c w r k arg hk hb
  · exact s_val 2 (by decide) row l hg c w r k arg hk hb
  · exact s_val 3 (by decide) row l hg c w r k arg hk hb
  · exact s_4 row l hg c w r k arg hk hb
  · exact s_5 row l hg c w r k arg hk hb
  · exact s_val 6 (by decide) row l hg c w r k arg hk hb
  · exact s_val 7 (by decide) row l hg c w r k arg hk hb
  · exact s_8 row l hg c w r k arg hk hb
  · exact s_9 row l hg c w r k arg hk hb
  · exact s_10 row l hg c w r k arg hk hb
  · exact s_11 row l hg c w r k arg hk hb
  · exact s_12 row l hg c w r k arg hk hb
  · exact s_13 row l hg c w r k arg hk hb
  · exact s_14 row l hg c w r k arg hk hb
  · exact s_15 row l hg c w r k arg hk hb
  · exact s_16 row l hg c w r k arg hk hb
  · exact s_19 row l hg c w r k arg hk hb
  · exact s_20 row l hg c w r k arg hk hb
end Go.VI

namespace Go.VI
open Go.Proofs Go.RowKit Go.Shelf
attribute [local go_sem] Oper.semAt_some
set_option maxRecDepth 100000
set_option linter.unusedSimpArgs false
set_option linter.unusedVariables false
set_option maxHeartbeats 4000000
theorem seq_inv {css : List (List Int)} {xs : List Int} (h : seqSucc css = some xs) : ∃ op arg i, css = [[op, arg], [i]] ∧ (-9223372036854775808 ≤ i + 1 ∧ i + 1 ≤ 9223372036854775807) ∧ sucL op arg i = xs := by
  unfold seqSucc at h
  split at h
  · rename_i op arg i
    split at h
    · rename_i hi
      cases h
      exact ⟨op, arg, i, rfl, hi, rfl⟩
    · cases h
  · cases h
theorem seq_succ : Seq1 Tryd.prog 49 seqSucc := by
  intro l nn css xs bs J Jx W hL hlen hcells hdr hdrx hY h0
  obtain ⟨op, arg, i, rfl, ⟨hi1, hi2⟩, rfl⟩ := seq_inv hL
  obtain ⟨b1, b2, rfl⟩ : ∃ b1 b2, bs = [b1, b2] := by
    cases bs with
    | nil => cases hlen
    | cons a bs => cases bs with
      | nil => cases hlen
      | cons b bs => cases bs with
        | nil => exact ⟨a, b, rfl⟩
        | cons c bs => simp at hlen
  have c1 : ∀ j W, J j W → W.cell? ⟨b1, 0, none⟩ = some (.int .i64 op) := fun j W h => hcells j W h 0 b1 [op, arg] rfl rfl 0 op rfl
  have c2 : ∀ j W, J j W → W.cell? ⟨b1, 1, none⟩ = some (.int .i64 arg) := fun j W h => hcells j W h 0 b1 [op, arg] rfl rfl 1 arg rfl
  have c3 : ∀ j W, J j W → W.cell? ⟨b2, 0, none⟩ = some (.int .i64 i) := fun j W h => hcells j W h 1 b2 [i] rfl rfl 0 i rfl
  have a1 := c1 0 W h0
  have a2 := c2 0 W h0
  have a3 := c3 0 W h0
  have hw : IntKind.i64.wrap (i + 1) = i + 1 := w_i64 hi1 hi2
  refine callsIn_of_wp Tryd.func49 rfl trivial ?_ rfl
  simp only [ptrV, List.map_cons, List.map_nil, Tryd.ntmps49, List.size_toArray, List.length_cons, List.length_nil, Nat.reduceAdd, Nat.reduceSub, Array.replicate_succ, Array.replicate_zero, List.push_toArray, List.append_toArray, List.nil_append, List.cons_append]
  by_cases h : op = 0
  · subst h
    have hs : sucL 0 arg i = [] := by simp [sucL]
    rw [hs] at hY ⊢
    gi_wp2
    refine ⟨fun _ h => (by cases h), ?_⟩
    gi_wp2
    go_end0
    exact ⟨⟨_, rfl⟩, .inl h0⟩
  · by_cases h17 : op = 17
    · subst h17
      have hs : sucL 17 arg i = [arg] := by simp [sucL]
      rw [hs] at hY ⊢
      obtain ⟨f1, t1, s1, d1, hy1, hR1⟩ := hY (nn - 1) 0 arg W rfl h0
      gi_wp2
      refine ⟨fun _ h => (by cases h), ?_⟩
      gi_wp2
      refine ⟨fun h => (by cases h), hR1.mono ?_⟩
      rintro e W1 (⟨rfl, hJ1⟩ | ⟨rfl, hx1⟩)
      · gi_wp2
        go_end0
        exact ⟨⟨_, rfl⟩, .inl hJ1⟩
      · gi_wp2
        go_end0
        exact ⟨⟨_, rfl⟩, .inr hx1⟩
    · have hs : sucL op arg i = (i + 1) :: (if op = 17 ∨ op = 18 then [arg] else []) := by unfold sucL; rw [if_neg (by omega)]; rfl
      rw [hs] at hY ⊢
      obtain ⟨f1, t1, s1, d1, hy1, hR1⟩ := hY (nn - 1) 0 (i + 1) W rfl h0
      have q1 : (op != 0) = true := by simp [h]
      have q2 : (op != 17) = true := by simp [h17]
      have q4 : (op == 17) = false := by simp [h17]
      by_cases h18 : op = 18
      · subst h18
        gi_wp2
        refine ⟨fun h => (by cases h), hR1.mono ?_⟩
        rintro e W1 (⟨rfl, hJ1⟩ | ⟨rfl, hx1⟩)
        · have e1 := c1 1 W1 hJ1
          have e2 := c2 1 W1 hJ1
          obtain ⟨f2, t2, s2, d2, hy2, hR2⟩ := hY (nn - 1) 1 arg W1 rfl hJ1
          gi_wp2
          refine ⟨fun h => (by cases h), hR2.mono ?_⟩
          rintro e W2 (⟨rfl, hJ2⟩ | ⟨rfl, hx2⟩)
          · gi_wp2
            go_end0
            exact ⟨⟨_, rfl⟩, .inl hJ2⟩
          · gi_wp2
            go_end0
            exact ⟨⟨_, rfl⟩, .inr hx2⟩
        · gi_wp2
          refine bodyPost_ret (results_none rfl _ _ _) rfl ?_
          exact ⟨⟨_, rfl⟩, .inr hx1⟩
      · rw [if_neg (show ¬ (op = 17 ∨ op = 18) by omega)] at hY ⊢
        have q3 : (op == 18) = false := by simp [h18]
        gi_wp2
        refine ⟨fun h => (by cases h), hR1.mono ?_⟩
        rintro e W1 (⟨rfl, hJ1⟩ | ⟨rfl, hx1⟩)
        · have e1 := c1 1 W1 hJ1
          gi_wp2
          go_end0
          exact ⟨⟨_, rfl⟩, .inl hJ1⟩
        · gi_wp2
          refine bodyPost_ret (results_none rfl _ _ _) rfl ?_
          exact ⟨⟨_, rfl⟩, .inr hx1⟩
theorem seqOK : SeqOK E := by
  intro g L h
  rcases E_seqI g L h with ⟨rfl, rfl⟩ | h
  · exact ⟨ent49, seq_succ⟩
  · exact h.elim
end Go.VI

namespace Go.VI
open Go.Proofs
set_option maxRecDepth 100000
set_option linter.unusedSimpArgs false
set_option linter.unusedVariables false
set_option maxHeartbeats 4000000
abbrev Ins := Int × Int
def insC (p : Ins) : List IV := [.v (.int .i64 p.1), .v (.int .i64 p.2)]
def rowsI (l : List Ins) : List (List IV) := l.map insC
theorem rowsI_len (l : List Ins) : (rowsI l).length = l.length := by simp [rowsI]
theorem rowsI_at {l : List Ins} {k : Nat} (h : k < l.length) : (rowsI l)[k]? = some [.v (.int .i64 l[k].1), .v (.int .i64 l[k].2)] := by simp [rowsI, insC, h]
def boundsS (op i n : Int) : Int × Int := if op = 1 then (-999999999, 999999999) else if op = 17 ∨ op = 18 then (i + 1, n) else (0, 0)
def chk1 (n i : Int) (p : Ins) : Int := if p.1 < 0 ∨ 20 < p.1 then 9 else if p.2 < (boundsS p.1 i n).1 ∨ (boundsS p.1 i n).2 < p.2 then 2 else 0
def chkL (n : Int) : Nat → List Ins → Int
  | _, [] => 0
  | i, p :: r => if chk1 n i p = 0 then chkL n (i + 1) r else chk1 n i p
def checkI (l : List Ins) : Int := if 500 < (l.length : Int) then 5 else chkL l.length 0 l
theorem c36 (op i n : Int) (hi : -9223372036854775808 ≤ i + 1 ∧ i + 1 ≤ 9223372036854775807) : ∃ L, callT E 36 [.i (.v (.int .i64 op)), .i (.v (.int .i64 i)), .i (.v (.int .i64 n))] [] = some (.tup [.i (.v (.int .i64 (boundsS op i n).1)), .i (.v (.int .i64 (boundsS op i n).2))], L) := by
  unfold boundsS
  by_cases h1 : op = 1
  · subst h1; rw [callT_eq Tryd.func36 rfl fok36 (by simp [Tryd.ntmps36])]; simp (disch := first | omega | (simp only [vlen]; omega)) only [vall, List.take_of_length_le, gB, gcW, gcR, posIn, renA, renL, Chunk.ren, Chunk.refs, evOpD, touchD, stepC, isFresh, nFresh, freshOf, mkR, hole, evL, evH, opd, get, putD, ofVal, cellOf, loadE, behind, lenE, idxAddrE, idxE, lookE, lookM, addPtr, intE, strE, unE, convE, AV.int, AV.bool, AV.str, ivs, take, frameOf, firstRegion, refsA, refsL, one, cellsA, floatOk, apartT, List.map, if_true, if_false, E_P, E_glob0, E_glob1, reduceCtorEq, beq_self_eq_true, ↓reduceIte, Nat.reduceEqDiff, cond_true, cond_false, Nat.reduceAdd, Nat.reduceSub, Nat.reduceMul, Nat.reduceLT, Nat.reduceLeDiff, Int.reduceToNat, Int.reduceLT, Int.reduceLE, Option.getD, Int.reduceMul, Int.reduceAdd, List.drop, List.take, Nat.reduceBEq, List.isEmpty, Int.reduceEq, Int.reduceNe, Int.reduceNeg, Int.reduceGT, Int.reduceGE, beq_true, beq_false, UInt8.reduceToNat, eqE, eq_self, foldE, maxE, minE, fillA, over, chop, List.replicate, leavesOk, leafOk, cellsEq, cellEq, E_byref, en36]; exact ⟨_, rfl⟩
  · by_cases h2 : op = 17
    · subst h2; rw [callT_eq Tryd.func36 rfl fok36 (by simp [Tryd.ntmps36])]; simp (disch := first | omega | (simp only [vlen]; omega)) only [vall, List.take_of_length_le, gB, gcW, gcR, posIn, renA, renL, Chunk.ren, Chunk.refs, evOpD, touchD, stepC, isFresh, nFresh, freshOf, mkR, hole, evL, evH, opd, get, putD, ofVal, cellOf, loadE, behind, lenE, idxAddrE, idxE, lookE, lookM, addPtr, intE, strE, unE, convE, AV.int, AV.bool, AV.str, ivs, take, frameOf, firstRegion, refsA, refsL, one, cellsA, floatOk, apartT, List.map, if_true, if_false, E_P, E_glob0, E_glob1, reduceCtorEq, beq_self_eq_true, ↓reduceIte, Nat.reduceEqDiff, cond_true, cond_false, Nat.reduceAdd, Nat.reduceSub, Nat.reduceMul, Nat.reduceLT, Nat.reduceLeDiff, Int.reduceToNat, Int.reduceLT, Int.reduceLE, Option.getD, Int.reduceMul, Int.reduceAdd, List.drop, List.take, Nat.reduceBEq, List.isEmpty, Int.reduceEq, Int.reduceNe, Int.reduceNeg, Int.reduceGT, Int.reduceGE, beq_true, beq_false, UInt8.reduceToNat, eqE, eq_self, foldE, maxE, minE, fillA, over, chop, List.replicate, leavesOk, leafOk, cellsEq, cellEq, E_byref, en36, w_i64]; exact ⟨_, rfl⟩
    · by_cases h3 : op = 18
      · subst h3; rw [callT_eq Tryd.func36 rfl fok36 (by simp [Tryd.ntmps36])]; simp (disch := first | omega | (simp only [vlen]; omega)) only [vall, List.take_of_length_le, gB, gcW, gcR, posIn, renA, renL, Chunk.ren, Chunk.refs, evOpD, touchD, stepC, isFresh, nFresh, freshOf, mkR, hole, evL, evH, opd, get, putD, ofVal, cellOf, loadE, behind, lenE, idxAddrE, idxE, lookE, lookM, addPtr, intE, strE, unE, convE, AV.int, AV.bool, AV.str, ivs, take, frameOf, firstRegion, refsA, refsL, one, cellsA, floatOk, apartT, List.map, if_true, if_false, E_P, E_glob0, E_glob1, reduceCtorEq, beq_self_eq_true, ↓reduceIte, Nat.reduceEqDiff, cond_true, cond_false, Nat.reduceAdd, Nat.reduceSub, Nat.reduceMul, Nat.reduceLT, Nat.reduceLeDiff, Int.reduceToNat, Int.reduceLT, Int.reduceLE, Option.getD, Int.reduceMul, Int.reduceAdd, List.drop, List.take, Nat.reduceBEq, List.isEmpty, Int.reduceEq, Int.reduceNe, Int.reduceNeg, Int.reduceGT, Int.reduceGE, beq_true, beq_false, UInt8.reduceToNat, eqE, eq_self, foldE, maxE, minE, fillA, over, chop, List.replicate, leavesOk, leafOk, cellsEq, cellEq, E_byref, en36, w_i64]; exact ⟨_, rfl⟩
      · rw [if_neg h1, if_neg (by omega)]; rw [callT_eq Tryd.func36 rfl fok36 (by simp [Tryd.ntmps36])]; simp (disch := first | omega | (simp only [vlen]; omega)) only [vall, List.take_of_length_le, gB, gcW, gcR, posIn, renA, renL, Chunk.ren, Chunk.refs, evOpD, touchD, stepC, isFresh, nFresh, freshOf, mkR, hole, evL, evH, opd, get, putD, ofVal, cellOf, loadE, behind, lenE, idxAddrE, idxE, lookE, lookM, addPtr, intE, strE, unE, convE, AV.int, AV.bool, AV.str, ivs, take, frameOf, firstRegion, refsA, refsL, one, cellsA, floatOk, apartT, List.map, if_true, if_false, E_P, E_glob0, E_glob1, reduceCtorEq, beq_self_eq_true, ↓reduceIte, Nat.reduceEqDiff, cond_true, cond_false, Nat.reduceAdd, Nat.reduceSub, Nat.reduceMul, Nat.reduceLT, Nat.reduceLeDiff, Int.reduceToNat, Int.reduceLT, Int.reduceLE, Option.getD, Int.reduceMul, Int.reduceAdd, List.drop, List.take, Nat.reduceBEq, List.isEmpty, Int.reduceEq, Int.reduceNe, Int.reduceNeg, Int.reduceGT, Int.reduceGE, beq_true, beq_false, UInt8.reduceToNat, eqE, eq_self, foldE, maxE, minE, fillA, over, chop, List.replicate, leavesOk, leafOk, cellsEq, cellEq, E_byref, en36, h1, h2, h3]; exact ⟨_, rfl⟩
theorem ik36 (op i n : Int) (hi : -9223372036854775808 ≤ i + 1 ∧ i + 1 ≤ 9223372036854775807) (H : Hp) : isoK E (callT E) 36 [.i (.v (.int .i64 op)), .i (.v (.int .i64 i)), .i (.v (.int .i64 n))] H = some (.tup [.i (.v (.int .i64 (boundsS op i n).1)), .i (.v (.int .i64 (boundsS op i n).2))], H) := isoK_val rfl rfl rfl (c36 op i n hi)
theorem names_all : (match call E 60 35 [] [] with | some (.i (.sl 1 R false), _) => decide (R.length = 21) | _ => false) = true := by kernel_rfl
theorem c35 : ∃ R : List (List IV), R.length = 21 ∧ ∃ L, callT E 35 [] [] = some (.i (.sl 1 R false), L) := by
  have h := names_all
  split at h
  · rename_i R L hL
    exact ⟨R, of_decide_eq_true h, L, callT_of hL⟩
  · cases h
theorem ik35 : ∃ R : List (List IV), (R.length : Int) = 21 ∧ ∀ H, isoK E (callT E) 35 [] H = some (.i (.sl 1 R false), H) := by
  obtain ⟨R, h1, h2⟩ := c35
  exact ⟨R, by omega, fun H => isoK_val rfl rfl rfl h2⟩
def chP (e : Int) (fr : Fr) (ex : Ex) : Prop := (e = 0 ∧ ex = .exit 0) ∨ (e ≠ 0 ∧ ex = .ret ∧ get 2 fr = .i (.v (.int .i64 e)))
theorem l23 (l : List Ins) (hl : l.length ≤ 500) (k : Nat) (hk : k ≤ l.length) :
    ∃ fr ex H', rl E 0 23 (loopAt Tryd.f23 0) [(0, .i (.sl 2 (rowsI l) false)), (10, .i (.sl 2 (rowsI l) false)), (11, .i (.v (.int .i64 l.length))), (12, .i (.v (.int .i64 k)))] [] = some (ex, fr, H') ∧ chP (chkL l.length k (l.drop k)) fr ex := by
  rw [rl_step (fn := Tryd.f23) (k := 0) rfl]
  by_cases hlt : k < l.length
  · have hrow := rowsI_at hlt
    rw [List.drop_eq_getElem_cons hlt, chkL]
    obtain ⟨fr, ex, H', e, hh⟩ := l23 l hl (k + 1) hlt
    obtain ⟨op, arg, hp⟩ : ∃ op arg, l[k] = (op, arg) := ⟨_, _, rfl⟩
    rw [hp] at hrow ⊢
    simp only at hrow
    obtain ⟨R, hR, hN⟩ := ik35
    have hb := fun H => ik36 op k l.length (by omega) H
    have hchk : chk1 l.length k (op, arg) = if op < 0 ∨ 20 < op then 9 else if arg < (boundsS op k l.length).1 ∨ (boundsS op k l.length).2 < arg then 2 else 0 := rfl
    generalize boundsS op k l.length = q at *
    generalize chk1 l.length k (op, arg) = ch at *
    obtain ⟨lo, hi⟩ := q
    simp only at hb hchk ⊢
    by_cases h1 : op < 0
    · rw [if_pos (.inl h1)] at hchk
      subst hchk
      rw [if_neg (by decide)]
      clear e hh
      simp (disch := first | omega | (simp only [vlen, rowsI_len]; omega)) only [vall, List.take_of_length_le, gB, gcW, gcR, posIn, renA, renL, Chunk.ren, Chunk.refs, evOpD, touchD, stepC, isFresh, nFresh, freshOf, mkR, hole, evL, evH, opd, get, putD, ofVal, cellOf, loadE, behind, lenE, idxAddrE, idxE, lookE, lookM, addPtr, intE, strE, unE, convE, AV.int, AV.bool, AV.str, ivs, take, frameOf, firstRegion, refsA, refsL, one, cellsA, floatOk, apartT, List.map, if_true, if_false, E_P, E_glob0, E_glob1, reduceCtorEq, beq_self_eq_true, ↓reduceIte, Nat.reduceEqDiff, cond_true, cond_false, Nat.reduceAdd, Nat.reduceSub, Nat.reduceMul, Nat.reduceLT, Nat.reduceLeDiff, Int.reduceToNat, Int.reduceLT, Int.reduceLE, Option.getD, Int.reduceMul, Int.reduceAdd, List.drop, List.take, Nat.reduceBEq, List.isEmpty, Int.reduceEq, Int.reduceNe, Int.reduceNeg, Int.reduceGT, Int.reduceGE, beq_true, beq_false, UInt8.reduceToNat, eqE, eq_self, foldE, maxE, minE, fillA, over, chop, List.replicate, leavesOk, leafOk, cellsEq, cellEq, E_byref, en23, bs22, bs37, hrow, rowsI_len, h1, hN, hR, show ∀ B fr H, execT E B 23 (Code.loop _) fr H = rlG E B 23 (loopAt Tryd.f23 0) (gcn B (norm [0, 10, 11, 12] fr) H) from fun B fr H => rl_intro rfl mt23_4 mb23_4 zf23_4 hd23_4 fr H]
      exact ⟨_, _, _, rfl, .inr ⟨by decide, rfl, rfl⟩⟩
    · by_cases h2 : 21 ≤ op
      · rw [if_pos (.inr (by omega))] at hchk
        subst hchk
        rw [if_neg (by decide)]
        clear e hh
        simp (disch := first | omega | (simp only [vlen, rowsI_len]; omega)) only [vall, List.take_of_length_le, gB, gcW, gcR, posIn, renA, renL, Chunk.ren, Chunk.refs, evOpD, touchD, stepC, isFresh, nFresh, freshOf, mkR, hole, evL, evH, opd, get, putD, ofVal, cellOf, loadE, behind, lenE, idxAddrE, idxE, lookE, lookM, addPtr, intE, strE, unE, convE, AV.int, AV.bool, AV.str, ivs, take, frameOf, firstRegion, refsA, refsL, one, cellsA, floatOk, apartT, List.map, if_true, if_false, E_P, E_glob0, E_glob1, reduceCtorEq, beq_self_eq_true, ↓reduceIte, Nat.reduceEqDiff, cond_true, cond_false, Nat.reduceAdd, Nat.reduceSub, Nat.reduceMul, Nat.reduceLT, Nat.reduceLeDiff, Int.reduceToNat, Int.reduceLT, Int.reduceLE, Option.getD, Int.reduceMul, Int.reduceAdd, List.drop, List.take, Nat.reduceBEq, List.isEmpty, Int.reduceEq, Int.reduceNe, Int.reduceNeg, Int.reduceGT, Int.reduceGE, beq_true, beq_false, UInt8.reduceToNat, eqE, eq_self, foldE, maxE, minE, fillA, over, chop, List.replicate, leavesOk, leafOk, cellsEq, cellEq, E_byref, en23, bs22, bs37, hrow, rowsI_len, h1, h2, hN, hR, show ∀ B fr H, execT E B 23 (Code.loop _) fr H = rlG E B 23 (loopAt Tryd.f23 0) (gcn B (norm [0, 10, 11, 12] fr) H) from fun B fr H => rl_intro rfl mt23_4 mb23_4 zf23_4 hd23_4 fr H]
        exact ⟨_, _, _, rfl, .inr ⟨by decide, rfl, rfl⟩⟩
      · rw [if_neg (by omega)] at hchk
        by_cases h3 : arg < lo
        · rw [if_pos (.inl h3)] at hchk
          subst hchk
          rw [if_neg (by decide)]
          clear e hh
          simp (disch := first | omega | (simp only [vlen, rowsI_len]; omega)) only [vall, List.take_of_length_le, gB, gcW, gcR, posIn, renA, renL, Chunk.ren, Chunk.refs, evOpD, touchD, stepC, isFresh, nFresh, freshOf, mkR, hole, evL, evH, opd, get, putD, ofVal, cellOf, loadE, behind, lenE, idxAddrE, idxE, lookE, lookM, addPtr, intE, strE, unE, convE, AV.int, AV.bool, AV.str, ivs, take, frameOf, firstRegion, refsA, refsL, one, cellsA, floatOk, apartT, List.map, if_true, if_false, E_P, E_glob0, E_glob1, reduceCtorEq, beq_self_eq_true, ↓reduceIte, Nat.reduceEqDiff, cond_true, cond_false, Nat.reduceAdd, Nat.reduceSub, Nat.reduceMul, Nat.reduceLT, Nat.reduceLeDiff, Int.reduceToNat, Int.reduceLT, Int.reduceLE, Option.getD, Int.reduceMul, Int.reduceAdd, List.drop, List.take, Nat.reduceBEq, List.isEmpty, Int.reduceEq, Int.reduceNe, Int.reduceNeg, Int.reduceGT, Int.reduceGE, beq_true, beq_false, UInt8.reduceToNat, eqE, eq_self, foldE, maxE, minE, fillA, over, chop, List.replicate, leavesOk, leafOk, cellsEq, cellEq, E_byref, en23, bs22, bs37, hrow, rowsI_len, h1, h2, h3, hN, hR, hb, show ∀ B fr H, execT E B 23 (Code.loop _) fr H = rlG E B 23 (loopAt Tryd.f23 0) (gcn B (norm [0, 10, 11, 12] fr) H) from fun B fr H => rl_intro rfl mt23_4 mb23_4 zf23_4 hd23_4 fr H]
          exact ⟨_, _, _, rfl, .inr ⟨by decide, rfl, rfl⟩⟩
        · by_cases h4 : hi < arg
          · rw [if_pos (.inr h4)] at hchk
            subst hchk
            rw [if_neg (by decide)]
            clear e hh
            simp (disch := first | omega | (simp only [vlen, rowsI_len]; omega)) only [vall, List.take_of_length_le, gB, gcW, gcR, posIn, renA, renL, Chunk.ren, Chunk.refs, evOpD, touchD, stepC, isFresh, nFresh, freshOf, mkR, hole, evL, evH, opd, get, putD, ofVal, cellOf, loadE, behind, lenE, idxAddrE, idxE, lookE, lookM, addPtr, intE, strE, unE, convE, AV.int, AV.bool, AV.str, ivs, take, frameOf, firstRegion, refsA, refsL, one, cellsA, floatOk, apartT, List.map, if_true, if_false, E_P, E_glob0, E_glob1, reduceCtorEq, beq_self_eq_true, ↓reduceIte, Nat.reduceEqDiff, cond_true, cond_false, Nat.reduceAdd, Nat.reduceSub, Nat.reduceMul, Nat.reduceLT, Nat.reduceLeDiff, Int.reduceToNat, Int.reduceLT, Int.reduceLE, Option.getD, Int.reduceMul, Int.reduceAdd, List.drop, List.take, Nat.reduceBEq, List.isEmpty, Int.reduceEq, Int.reduceNe, Int.reduceNeg, Int.reduceGT, Int.reduceGE, beq_true, beq_false, UInt8.reduceToNat, eqE, eq_self, foldE, maxE, minE, fillA, over, chop, List.replicate, leavesOk, leafOk, cellsEq, cellEq, E_byref, en23, bs22, bs37, hrow, rowsI_len, h1, h2, h3, h4, hN, hR, hb, show ∀ B fr H, execT E B 23 (Code.loop _) fr H = rlG E B 23 (loopAt Tryd.f23 0) (gcn B (norm [0, 10, 11, 12] fr) H) from fun B fr H => rl_intro rfl mt23_4 mb23_4 zf23_4 hd23_4 fr H]
            exact ⟨_, _, _, rfl, .inr ⟨by decide, rfl, rfl⟩⟩
          · rw [if_neg (by omega)] at hchk
            subst hchk
            rw [if_pos rfl]
            refine ⟨fr, ex, H', Eq.trans ?_ e, hh⟩
            clear e hh
            simp (disch := first | omega | (simp only [vlen, rowsI_len]; omega)) only [vall, List.take_of_length_le, gB, gcW, gcR, posIn, renA, renL, Chunk.ren, Chunk.refs, evOpD, touchD, stepC, isFresh, nFresh, freshOf, mkR, hole, evL, evH, opd, get, putD, ofVal, cellOf, loadE, behind, lenE, idxAddrE, idxE, lookE, lookM, addPtr, intE, strE, unE, convE, AV.int, AV.bool, AV.str, ivs, take, frameOf, firstRegion, refsA, refsL, one, cellsA, floatOk, apartT, List.map, if_true, if_false, E_P, E_glob0, E_glob1, reduceCtorEq, beq_self_eq_true, ↓reduceIte, Nat.reduceEqDiff, cond_true, cond_false, Nat.reduceAdd, Nat.reduceSub, Nat.reduceMul, Nat.reduceLT, Nat.reduceLeDiff, Int.reduceToNat, Int.reduceLT, Int.reduceLE, Option.getD, Int.reduceMul, Int.reduceAdd, List.drop, List.take, Nat.reduceBEq, List.isEmpty, Int.reduceEq, Int.reduceNe, Int.reduceNeg, Int.reduceGT, Int.reduceGE, beq_true, beq_false, UInt8.reduceToNat, eqE, eq_self, foldE, maxE, minE, fillA, over, chop, List.replicate, leavesOk, leafOk, cellsEq, cellEq, E_byref, en23, bs22, bs37, hrow, rowsI_len, h1, h2, h3, h4, hN, hR, hb, show ∀ B fr H, execT E B 23 (Code.loop _) fr H = rlG E B 23 (loopAt Tryd.f23 0) (gcn B (norm [0, 10, 11, 12] fr) H) from fun B fr H => rl_intro rfl mt23_4 mb23_4 zf23_4 hd23_4 fr H]
  · obtain rfl : k = l.length := by omega
    rw [List.drop_length, chkL]
    simp (disch := first | omega | (simp only [vlen, rowsI_len]; omega)) only [vall, List.take_of_length_le, gB, gcW, gcR, posIn, renA, renL, Chunk.ren, Chunk.refs, evOpD, touchD, stepC, isFresh, nFresh, freshOf, mkR, hole, evL, evH, opd, get, putD, ofVal, cellOf, loadE, behind, lenE, idxAddrE, idxE, lookE, lookM, addPtr, intE, strE, unE, convE, AV.int, AV.bool, AV.str, ivs, take, frameOf, firstRegion, refsA, refsL, one, cellsA, floatOk, apartT, List.map, if_true, if_false, E_P, E_glob0, E_glob1, reduceCtorEq, beq_self_eq_true, ↓reduceIte, Nat.reduceEqDiff, cond_true, cond_false, Nat.reduceAdd, Nat.reduceSub, Nat.reduceMul, Nat.reduceLT, Nat.reduceLeDiff, Int.reduceToNat, Int.reduceLT, Int.reduceLE, Option.getD, Int.reduceMul, Int.reduceAdd, List.drop, List.take, Nat.reduceBEq, List.isEmpty, Int.reduceEq, Int.reduceNe, Int.reduceNeg, Int.reduceGT, Int.reduceGE, beq_true, beq_false, UInt8.reduceToNat, eqE, eq_self, foldE, maxE, minE, fillA, over, chop, List.replicate, leavesOk, leafOk, cellsEq, cellEq, E_byref, en23, bs22, bs37, rowsI_len, show ∀ B fr H, execT E B 23 (Code.loop _) fr H = rlG E B 23 (loopAt Tryd.f23 0) (gcn B (norm [0, 10, 11, 12] fr) H) from fun B fr H => rl_intro rfl mt23_4 mb23_4 zf23_4 hd23_4 fr H]
    exact ⟨_, _, _, rfl, .inl ⟨rfl, rfl⟩⟩
termination_by l.length - k
theorem c23 (l : List Ins) (hl : (l.length : Int) < 9223372036854775808) : ∃ L, callT E 23 [.i (.sl 2 (rowsI l) false)] [] = some (.i (.v (.int .i64 (checkI l))), L) := by
  unfold checkI
  by_cases h5 : 500 < (l.length : Int)
  · rw [if_pos h5]
    rw [callT_eq Tryd.func23 rfl fok23 (by simp [Tryd.ntmps23])]
    simp (disch := first | omega | (simp only [vlen, rowsI_len]; omega)) only [vall, List.take_of_length_le, gB, gcW, gcR, posIn, renA, renL, Chunk.ren, Chunk.refs, evOpD, touchD, stepC, isFresh, nFresh, freshOf, mkR, hole, evL, evH, opd, get, putD, ofVal, cellOf, loadE, behind, lenE, idxAddrE, idxE, lookE, lookM, addPtr, intE, strE, unE, convE, AV.int, AV.bool, AV.str, ivs, take, frameOf, firstRegion, refsA, refsL, one, cellsA, floatOk, apartT, List.map, if_true, if_false, E_P, E_glob0, E_glob1, reduceCtorEq, beq_self_eq_true, ↓reduceIte, Nat.reduceEqDiff, cond_true, cond_false, Nat.reduceAdd, Nat.reduceSub, Nat.reduceMul, Nat.reduceLT, Nat.reduceLeDiff, Int.reduceToNat, Int.reduceLT, Int.reduceLE, Option.getD, Int.reduceMul, Int.reduceAdd, List.drop, List.take, Nat.reduceBEq, List.isEmpty, Int.reduceEq, Int.reduceNe, Int.reduceNeg, Int.reduceGT, Int.reduceGE, beq_true, beq_false, UInt8.reduceToNat, eqE, eq_self, foldE, maxE, minE, fillA, over, chop, List.replicate, leavesOk, leafOk, cellsEq, cellEq, E_byref, en23, bs22, bs37, rowsI_len, h5]
    exact ⟨_, rfl⟩
  · rw [if_neg h5]
    obtain ⟨fr, ex, H', e, hh⟩ := l23 l (by omega) 0 (Nat.zero_le _)
    rw [List.drop_zero] at hh
    have e' : rl E 0 23 (loopAt Tryd.f23 0) [(0, .i (.sl 2 (rowsI l) false)), (10, .i (.sl 2 (rowsI l) false)), (11, .i (.v (.int .i64 l.length))), (12, .i (.v (.int .i64 0)))] [] = _ := e
    rcases hh with ⟨h1, rfl⟩ | ⟨h1, rfl, h2⟩
    · rw [h1]
      rw [callT_eq Tryd.func23 rfl fok23 (by simp [Tryd.ntmps23])]
      simp (disch := first | omega | (simp only [vlen, rowsI_len]; omega)) only [vall, List.take_of_length_le, gB, gcW, gcR, posIn, renA, renL, Chunk.ren, Chunk.refs, evOpD, touchD, stepC, isFresh, nFresh, freshOf, mkR, hole, evL, evH, opd, get, putD, ofVal, cellOf, loadE, behind, lenE, idxAddrE, idxE, lookE, lookM, addPtr, intE, strE, unE, convE, AV.int, AV.bool, AV.str, ivs, take, frameOf, firstRegion, refsA, refsL, one, cellsA, floatOk, apartT, List.map, if_true, if_false, E_P, E_glob0, E_glob1, reduceCtorEq, beq_self_eq_true, ↓reduceIte, Nat.reduceEqDiff, cond_true, cond_false, Nat.reduceAdd, Nat.reduceSub, Nat.reduceMul, Nat.reduceLT, Nat.reduceLeDiff, Int.reduceToNat, Int.reduceLT, Int.reduceLE, Option.getD, Int.reduceMul, Int.reduceAdd, List.drop, List.take, Nat.reduceBEq, List.isEmpty, Int.reduceEq, Int.reduceNe, Int.reduceNeg, Int.reduceGT, Int.reduceGE, beq_true, beq_false, UInt8.reduceToNat, eqE, eq_self, foldE, maxE, minE, fillA, over, chop, List.replicate, leavesOk, leafOk, cellsEq, cellEq, E_byref, en23, bs22, bs37, rowsI_len, h5, e', show ∀ B fr H, execT E B 23 (Code.loop _) fr H = rlG E B 23 (loopAt Tryd.f23 0) (gcn B (norm [0, 10, 11, 12] fr) H) from fun B fr H => rl_intro rfl mt23_4 mb23_4 zf23_4 hd23_4 fr H]
      exact ⟨_, rfl⟩
    · generalize chkL l.length 0 l = q at *
      rw [callT_eq Tryd.func23 rfl fok23 (by simp [Tryd.ntmps23])]
      simp (disch := first | omega | (simp only [vlen, rowsI_len]; omega)) only [vall, List.take_of_length_le, gB, gcW, gcR, posIn, renA, renL, Chunk.ren, Chunk.refs, evOpD, touchD, stepC, isFresh, nFresh, freshOf, mkR, hole, evL, evH, opd, get, putD, ofVal, cellOf, loadE, behind, lenE, idxAddrE, idxE, lookE, lookM, addPtr, intE, strE, unE, convE, AV.int, AV.bool, AV.str, ivs, take, frameOf, firstRegion, refsA, refsL, one, cellsA, floatOk, apartT, List.map, if_true, if_false, E_P, E_glob0, E_glob1, reduceCtorEq, beq_self_eq_true, ↓reduceIte, Nat.reduceEqDiff, cond_true, cond_false, Nat.reduceAdd, Nat.reduceSub, Nat.reduceMul, Nat.reduceLT, Nat.reduceLeDiff, Int.reduceToNat, Int.reduceLT, Int.reduceLE, Option.getD, Int.reduceMul, Int.reduceAdd, List.drop, List.take, Nat.reduceBEq, List.isEmpty, Int.reduceEq, Int.reduceNe, Int.reduceNeg, Int.reduceGT, Int.reduceGE, beq_true, beq_false, UInt8.reduceToNat, eqE, eq_self, foldE, maxE, minE, fillA, over, chop, List.replicate, leavesOk, leafOk, cellsEq, cellEq, E_byref, en23, bs22, bs37, rowsI_len, h5, e', h2, show ∀ B fr H, execT E B 23 (Code.loop _) fr H = rlG E B 23 (loopAt Tryd.f23 0) (gcn B (norm [0, 10, 11, 12] fr) H) from fun B fr H => rl_intro rfl mt23_4 mb23_4 zf23_4 hd23_4 fr H]
      exact ⟨_, rfl⟩
theorem ik23 (l : List Ins) (hl : (l.length : Int) < 9223372036854775808) (H : Hp) : isoK E (callT E) 23 [.i (.sl 2 (rowsI l) false)] H = some (.i (.v (.int .i64 (checkI l))), H) := isoK_val rfl rfl rfl (c23 l hl)
end Go.VI

namespace Go.VI
open Go.Proofs
set_option maxRecDepth 100000
set_option linter.unusedSimpArgs false
set_option linter.unusedVariables false
set_option maxHeartbeats 4000000
theorem c43 (op : Int) : ∃ L, callT E 43 [.i (.v (.int .i64 op))] [] = some (.i (.v (.bool (decide (op = 17) || decide (op = 18)))), L) := by
  by_cases h1 : op = 17
  · subst h1; rw [callT_eq Tryd.func43 rfl fok43 (by simp [Tryd.ntmps43])]; simp (disch := first | omega | (simp only [vlen]; omega)) only [vall, List.take_of_length_le, gB, gcW, gcR, posIn, renA, renL, Chunk.ren, Chunk.refs, evOpD, touchD, stepC, isFresh, nFresh, freshOf, mkR, hole, evL, evH, opd, get, putD, ofVal, cellOf, loadE, behind, lenE, idxAddrE, idxE, lookE, lookM, addPtr, intE, strE, unE, convE, AV.int, AV.bool, AV.str, ivs, take, frameOf, firstRegion, refsA, refsL, one, cellsA, floatOk, apartT, List.map, if_true, if_false, E_P, E_glob0, E_glob1, reduceCtorEq, beq_self_eq_true, ↓reduceIte, Nat.reduceEqDiff, cond_true, cond_false, Nat.reduceAdd, Nat.reduceSub, Nat.reduceMul, Nat.reduceLT, Nat.reduceLeDiff, Int.reduceToNat, Int.reduceLT, Int.reduceLE, Option.getD, Int.reduceMul, Int.reduceAdd, List.drop, List.take, Nat.reduceBEq, List.isEmpty, Int.reduceEq, Int.reduceNe, Int.reduceNeg, Int.reduceGT, Int.reduceGE, beq_true, beq_false, UInt8.reduceToNat, eqE, eq_self, foldE, maxE, minE, fillA, over, chop, List.replicate, leavesOk, leafOk, cellsEq, cellEq, E_byref, en43]; exact ⟨_, rfl⟩
  · by_cases h2 : op = 18
    · subst h2; rw [callT_eq Tryd.func43 rfl fok43 (by simp [Tryd.ntmps43])]; simp (disch := first | omega | (simp only [vlen]; omega)) only [vall, List.take_of_length_le, gB, gcW, gcR, posIn, renA, renL, Chunk.ren, Chunk.refs, evOpD, touchD, stepC, isFresh, nFresh, freshOf, mkR, hole, evL, evH, opd, get, putD, ofVal, cellOf, loadE, behind, lenE, idxAddrE, idxE, lookE, lookM, addPtr, intE, strE, unE, convE, AV.int, AV.bool, AV.str, ivs, take, frameOf, firstRegion, refsA, refsL, one, cellsA, floatOk, apartT, List.map, if_true, if_false, E_P, E_glob0, E_glob1, reduceCtorEq, beq_self_eq_true, ↓reduceIte, Nat.reduceEqDiff, cond_true, cond_false, Nat.reduceAdd, Nat.reduceSub, Nat.reduceMul, Nat.reduceLT, Nat.reduceLeDiff, Int.reduceToNat, Int.reduceLT, Int.reduceLE, Option.getD, Int.reduceMul, Int.reduceAdd, List.drop, List.take, Nat.reduceBEq, List.isEmpty, Int.reduceEq, Int.reduceNe, Int.reduceNeg, Int.reduceGT, Int.reduceGE, beq_true, beq_false, UInt8.reduceToNat, eqE, eq_self, foldE, maxE, minE, fillA, over, chop, List.replicate, leavesOk, leafOk, cellsEq, cellEq, E_byref, en43]; exact ⟨_, rfl⟩
    · simp only [h1, h2, decide_false, Bool.or_false]
      rw [callT_eq Tryd.func43 rfl fok43 (by simp [Tryd.ntmps43])]
      simp (disch := first | omega | (simp only [vlen]; omega)) only [vall, List.take_of_length_le, gB, gcW, gcR, posIn, renA, renL, Chunk.ren, Chunk.refs, evOpD, touchD, stepC, isFresh, nFresh, freshOf, mkR, hole, evL, evH, opd, get, putD, ofVal, cellOf, loadE, behind, lenE, idxAddrE, idxE, lookE, lookM, addPtr, intE, strE, unE, convE, AV.int, AV.bool, AV.str, ivs, take, frameOf, firstRegion, refsA, refsL, one, cellsA, floatOk, apartT, List.map, if_true, if_false, E_P, E_glob0, E_glob1, reduceCtorEq, beq_self_eq_true, ↓reduceIte, Nat.reduceEqDiff, cond_true, cond_false, Nat.reduceAdd, Nat.reduceSub, Nat.reduceMul, Nat.reduceLT, Nat.reduceLeDiff, Int.reduceToNat, Int.reduceLT, Int.reduceLE, Option.getD, Int.reduceMul, Int.reduceAdd, List.drop, List.take, Nat.reduceBEq, List.isEmpty, Int.reduceEq, Int.reduceNe, Int.reduceNeg, Int.reduceGT, Int.reduceGE, beq_true, beq_false, UInt8.reduceToNat, eqE, eq_self, foldE, maxE, minE, fillA, over, chop, List.replicate, leavesOk, leafOk, cellsEq, cellEq, E_byref, en43, h1, h2]
      exact ⟨_, rfl⟩
theorem ik43 (op : Int) (H : Hp) : isoK E (callT E) 43 [.i (.v (.int .i64 op))] H = some (.i (.v (.bool (decide (op = 17) || decide (op = 18)))), H) := isoK_val rfl rfl rfl (c43 op)
theorem l26 (l : List Ins) (hl : l.length ≤ 500) (k : Nat) (hk : k ≤ l.length) :
    ∃ fr ex H', rl E 0 26 (loopAt Tryd.f26 0) [(0, .i (.sl 2 (rowsI l) false)), (3, .i (.v (.int .i64 k)))] [] = some (ex, fr, H') ∧ chP (chkL l.length k (l.drop k)) fr ex := by
  rw [rl_step (fn := Tryd.f26) (k := 0) rfl]
  by_cases hlt : k < l.length
  · have hrow := rowsI_at hlt
    rw [List.drop_eq_getElem_cons hlt, chkL]
    obtain ⟨fr, ex, H', e, hh⟩ := l26 l hl (k + 1) hlt
    obtain ⟨op, arg, hp⟩ : ∃ op arg, l[k] = (op, arg) := ⟨_, _, rfl⟩
    rw [hp] at hrow ⊢
    simp only at hrow
    have hj := fun H => ik43 op H
    have hchk : chk1 l.length k (op, arg) = if op < 0 ∨ 20 < op then 9 else if arg < (boundsS op k l.length).1 ∨ (boundsS op k l.length).2 < arg then 2 else 0 := rfl
    generalize chk1 l.length k (op, arg) = ch at *
    by_cases h1 : op < 0
    · rw [if_pos (.inl h1)] at hchk
      subst hchk
      rw [if_neg (by decide)]
      clear e hh
      simp (disch := first | omega | (simp only [vlen, rowsI_len]; omega)) only [vall, List.take_of_length_le, gB, gcW, gcR, posIn, renA, renL, Chunk.ren, Chunk.refs, evOpD, touchD, stepC, isFresh, nFresh, freshOf, mkR, hole, evL, evH, opd, get, putD, ofVal, cellOf, loadE, behind, lenE, idxAddrE, idxE, lookE, lookM, addPtr, intE, strE, unE, convE, AV.int, AV.bool, AV.str, ivs, take, frameOf, firstRegion, refsA, refsL, one, cellsA, floatOk, apartT, List.map, if_true, if_false, E_P, E_glob0, E_glob1, reduceCtorEq, beq_self_eq_true, ↓reduceIte, Nat.reduceEqDiff, cond_true, cond_false, Nat.reduceAdd, Nat.reduceSub, Nat.reduceMul, Nat.reduceLT, Nat.reduceLeDiff, Int.reduceToNat, Int.reduceLT, Int.reduceLE, Option.getD, Int.reduceMul, Int.reduceAdd, List.drop, List.take, Nat.reduceBEq, List.isEmpty, Int.reduceEq, Int.reduceNe, Int.reduceNeg, Int.reduceGT, Int.reduceGE, beq_true, beq_false, UInt8.reduceToNat, eqE, eq_self, foldE, maxE, minE, fillA, over, chop, List.replicate, leavesOk, leafOk, cellsEq, cellEq, E_byref, en26, bs22, hrow, rowsI_len, h1, show ∀ B fr H, execT E B 26 (Code.loop _) fr H = rlG E B 26 (loopAt Tryd.f26 0) (gcn B (norm [0, 3] fr) H) from fun B fr H => rl_intro rfl mt26_4 mb26_4 zf26_4 hd26_4 fr H]
      exact ⟨_, _, _, rfl, .inr ⟨by decide, rfl, rfl⟩⟩
    · by_cases h2 : 20 < op
      · rw [if_pos (.inr (by omega))] at hchk
        subst hchk
        rw [if_neg (by decide)]
        clear e hh
        simp (disch := first | omega | (simp only [vlen, rowsI_len]; omega)) only [vall, List.take_of_length_le, gB, gcW, gcR, posIn, renA, renL, Chunk.ren, Chunk.refs, evOpD, touchD, stepC, isFresh, nFresh, freshOf, mkR, hole, evL, evH, opd, get, putD, ofVal, cellOf, loadE, behind, lenE, idxAddrE, idxE, lookE, lookM, addPtr, intE, strE, unE, convE, AV.int, AV.bool, AV.str, ivs, take, frameOf, firstRegion, refsA, refsL, one, cellsA, floatOk, apartT, List.map, if_true, if_false, E_P, E_glob0, E_glob1, reduceCtorEq, beq_self_eq_true, ↓reduceIte, Nat.reduceEqDiff, cond_true, cond_false, Nat.reduceAdd, Nat.reduceSub, Nat.reduceMul, Nat.reduceLT, Nat.reduceLeDiff, Int.reduceToNat, Int.reduceLT, Int.reduceLE, Option.getD, Int.reduceMul, Int.reduceAdd, List.drop, List.take, Nat.reduceBEq, List.isEmpty, Int.reduceEq, Int.reduceNe, Int.reduceNeg, Int.reduceGT, Int.reduceGE, beq_true, beq_false, UInt8.reduceToNat, eqE, eq_self, foldE, maxE, minE, fillA, over, chop, List.replicate, leavesOk, leafOk, cellsEq, cellEq, E_byref, en26, bs22, hrow, rowsI_len, h1, h2, show ∀ B fr H, execT E B 26 (Code.loop _) fr H = rlG E B 26 (loopAt Tryd.f26 0) (gcn B (norm [0, 3] fr) H) from fun B fr H => rl_intro rfl mt26_4 mb26_4 zf26_4 hd26_4 fr H]
        exact ⟨_, _, _, rfl, .inr ⟨by decide, rfl, rfl⟩⟩
      · rw [if_neg (by omega)] at hchk
        have key : ∀ lo hi, boundsS op k l.length = (lo, hi) → (op = 1 ∧ lo = -999999999 ∧ hi = 999999999 ∨ op = 17 ∧ lo = k + 1 ∧ hi = l.length ∨ op = 18 ∧ lo = k + 1 ∧ hi = l.length ∨ ¬ op = 1 ∧ ¬ op = 17 ∧ ¬ op = 18 ∧ lo = 0 ∧ hi = 0) := by
          intro lo hi hq
          unfold boundsS at hq
          split at hq
          · simp only [Prod.mk.injEq] at hq; omega
          · split at hq
            · simp only [Prod.mk.injEq] at hq; omega
            · simp only [Prod.mk.injEq] at hq; omega
        obtain ⟨lo, hi, hq⟩ : ∃ lo hi, boundsS op k l.length = (lo, hi) := ⟨_, _, rfl⟩
        have key := key lo hi hq
        rw [hq] at hchk
        simp only at hchk
        clear hq
        by_cases h3 : arg < lo
        · rw [if_pos (.inl h3)] at hchk
          subst hchk
          rw [if_neg (by decide)]
          clear e hh
          rcases key with ⟨rfl, rfl, rfl⟩ | ⟨rfl, rfl, rfl⟩ | ⟨rfl, rfl, rfl⟩ | ⟨g1, g2, g3, rfl, rfl⟩
          · simp only [Int.reduceEq, decide_false, Bool.or_false] at hj; simp (disch := first | omega | (simp only [vlen, rowsI_len]; omega)) only [vall, List.take_of_length_le, gB, gcW, gcR, posIn, renA, renL, Chunk.ren, Chunk.refs, evOpD, touchD, stepC, isFresh, nFresh, freshOf, mkR, hole, evL, evH, opd, get, putD, ofVal, cellOf, loadE, behind, lenE, idxAddrE, idxE, lookE, lookM, addPtr, intE, strE, unE, convE, AV.int, AV.bool, AV.str, ivs, take, frameOf, firstRegion, refsA, refsL, one, cellsA, floatOk, apartT, List.map, if_true, if_false, E_P, E_glob0, E_glob1, reduceCtorEq, beq_self_eq_true, ↓reduceIte, Nat.reduceEqDiff, cond_true, cond_false, Nat.reduceAdd, Nat.reduceSub, Nat.reduceMul, Nat.reduceLT, Nat.reduceLeDiff, Int.reduceToNat, Int.reduceLT, Int.reduceLE, Option.getD, Int.reduceMul, Int.reduceAdd, List.drop, List.take, Nat.reduceBEq, List.isEmpty, Int.reduceEq, Int.reduceNe, Int.reduceNeg, Int.reduceGT, Int.reduceGE, beq_true, beq_false, UInt8.reduceToNat, eqE, eq_self, foldE, maxE, minE, fillA, over, chop, List.replicate, leavesOk, leafOk, cellsEq, cellEq, E_byref, en26, bs22, hrow, rowsI_len, h1, h2, h3, hj, show ∀ B fr H, execT E B 26 (Code.loop _) fr H = rlG E B 26 (loopAt Tryd.f26 0) (gcn B (norm [0, 3] fr) H) from fun B fr H => rl_intro rfl mt26_4 mb26_4 zf26_4 hd26_4 fr H]; exact ⟨_, _, _, rfl, .inr ⟨by decide, rfl, rfl⟩⟩
          · simp only [Int.reduceEq, Bool.or_false] at hj; simp (disch := first | omega | (simp only [vlen, rowsI_len]; omega)) only [vall, List.take_of_length_le, gB, gcW, gcR, posIn, renA, renL, Chunk.ren, Chunk.refs, evOpD, touchD, stepC, isFresh, nFresh, freshOf, mkR, hole, evL, evH, opd, get, putD, ofVal, cellOf, loadE, behind, lenE, idxAddrE, idxE, lookE, lookM, addPtr, intE, strE, unE, convE, AV.int, AV.bool, AV.str, ivs, take, frameOf, firstRegion, refsA, refsL, one, cellsA, floatOk, apartT, List.map, if_true, if_false, E_P, E_glob0, E_glob1, reduceCtorEq, beq_self_eq_true, decide_true, decide_false, ↓reduceIte, Nat.reduceEqDiff, cond_true, cond_false, Nat.reduceAdd, Nat.reduceSub, Nat.reduceMul, Nat.reduceLT, Nat.reduceLeDiff, Int.reduceToNat, Int.reduceLT, Int.reduceLE, Option.getD, Int.reduceMul, Int.reduceAdd, List.drop, List.take, Nat.reduceBEq, List.isEmpty, Int.reduceEq, Int.reduceNe, Int.reduceNeg, Int.reduceGT, Int.reduceGE, beq_true, beq_false, UInt8.reduceToNat, eqE, eq_self, foldE, maxE, minE, fillA, over, chop, List.replicate, leavesOk, leafOk, cellsEq, cellEq, E_byref, en26, bs22, hrow, rowsI_len, h1, h2, h3, hj, show ∀ B fr H, execT E B 26 (Code.loop _) fr H = rlG E B 26 (loopAt Tryd.f26 0) (gcn B (norm [0, 3] fr) H) from fun B fr H => rl_intro rfl mt26_4 mb26_4 zf26_4 hd26_4 fr H]; exact ⟨_, _, _, rfl, .inr ⟨by decide, rfl, rfl⟩⟩
          · simp only [Int.reduceEq, Bool.false_or] at hj; simp (disch := first | omega | (simp only [vlen, rowsI_len]; omega)) only [vall, List.take_of_length_le, gB, gcW, gcR, posIn, renA, renL, Chunk.ren, Chunk.refs, evOpD, touchD, stepC, isFresh, nFresh, freshOf, mkR, hole, evL, evH, opd, get, putD, ofVal, cellOf, loadE, behind, lenE, idxAddrE, idxE, lookE, lookM, addPtr, intE, strE, unE, convE, AV.int, AV.bool, AV.str, ivs, take, frameOf, firstRegion, refsA, refsL, one, cellsA, floatOk, apartT, List.map, if_true, if_false, E_P, E_glob0, E_glob1, reduceCtorEq, beq_self_eq_true, decide_true, decide_false, ↓reduceIte, Nat.reduceEqDiff, cond_true, cond_false, Nat.reduceAdd, Nat.reduceSub, Nat.reduceMul, Nat.reduceLT, Nat.reduceLeDiff, Int.reduceToNat, Int.reduceLT, Int.reduceLE, Option.getD, Int.reduceMul, Int.reduceAdd, List.drop, List.take, Nat.reduceBEq, List.isEmpty, Int.reduceEq, Int.reduceNe, Int.reduceNeg, Int.reduceGT, Int.reduceGE, beq_true, beq_false, UInt8.reduceToNat, eqE, eq_self, foldE, maxE, minE, fillA, over, chop, List.replicate, leavesOk, leafOk, cellsEq, cellEq, E_byref, en26, bs22, hrow, rowsI_len, h1, h2, h3, hj, show ∀ B fr H, execT E B 26 (Code.loop _) fr H = rlG E B 26 (loopAt Tryd.f26 0) (gcn B (norm [0, 3] fr) H) from fun B fr H => rl_intro rfl mt26_4 mb26_4 zf26_4 hd26_4 fr H]; exact ⟨_, _, _, rfl, .inr ⟨by decide, rfl, rfl⟩⟩
          · simp only [g2, g3, decide_false, Bool.or_false] at hj; simp (disch := first | omega | (simp only [vlen, rowsI_len]; omega)) only [vall, List.take_of_length_le, gB, gcW, gcR, posIn, renA, renL, Chunk.ren, Chunk.refs, evOpD, touchD, stepC, isFresh, nFresh, freshOf, mkR, hole, evL, evH, opd, get, putD, ofVal, cellOf, loadE, behind, lenE, idxAddrE, idxE, lookE, lookM, addPtr, intE, strE, unE, convE, AV.int, AV.bool, AV.str, ivs, take, frameOf, firstRegion, refsA, refsL, one, cellsA, floatOk, apartT, List.map, if_true, if_false, E_P, E_glob0, E_glob1, reduceCtorEq, beq_self_eq_true, ↓reduceIte, Nat.reduceEqDiff, cond_true, cond_false, Nat.reduceAdd, Nat.reduceSub, Nat.reduceMul, Nat.reduceLT, Nat.reduceLeDiff, Int.reduceToNat, Int.reduceLT, Int.reduceLE, Option.getD, Int.reduceMul, Int.reduceAdd, List.drop, List.take, Nat.reduceBEq, List.isEmpty, Int.reduceEq, Int.reduceNe, Int.reduceNeg, Int.reduceGT, Int.reduceGE, beq_true, beq_false, UInt8.reduceToNat, eqE, eq_self, foldE, maxE, minE, fillA, over, chop, List.replicate, leavesOk, leafOk, cellsEq, cellEq, E_byref, en26, bs22, hrow, rowsI_len, h1, h2, h3, hj, g1, show ∀ B fr H, execT E B 26 (Code.loop _) fr H = rlG E B 26 (loopAt Tryd.f26 0) (gcn B (norm [0, 3] fr) H) from fun B fr H => rl_intro rfl mt26_4 mb26_4 zf26_4 hd26_4 fr H]; exact ⟨_, _, _, rfl, .inr ⟨by decide, rfl, rfl⟩⟩
        · by_cases h4 : hi < arg
          · rw [if_pos (.inr h4)] at hchk
            subst hchk
            rw [if_neg (by decide)]
            clear e hh
            rcases key with ⟨rfl, rfl, rfl⟩ | ⟨rfl, rfl, rfl⟩ | ⟨rfl, rfl, rfl⟩ | ⟨g1, g2, g3, rfl, rfl⟩
            · simp only [Int.reduceEq, decide_false, Bool.or_false] at hj; simp (disch := first | omega | (simp only [vlen, rowsI_len]; omega)) only [vall, List.take_of_length_le, gB, gcW, gcR, posIn, renA, renL, Chunk.ren, Chunk.refs, evOpD, touchD, stepC, isFresh, nFresh, freshOf, mkR, hole, evL, evH, opd, get, putD, ofVal, cellOf, loadE, behind, lenE, idxAddrE, idxE, lookE, lookM, addPtr, intE, strE, unE, convE, AV.int, AV.bool, AV.str, ivs, take, frameOf, firstRegion, refsA, refsL, one, cellsA, floatOk, apartT, List.map, if_true, if_false, E_P, E_glob0, E_glob1, reduceCtorEq, beq_self_eq_true, ↓reduceIte, Nat.reduceEqDiff, cond_true, cond_false, Nat.reduceAdd, Nat.reduceSub, Nat.reduceMul, Nat.reduceLT, Nat.reduceLeDiff, Int.reduceToNat, Int.reduceLT, Int.reduceLE, Option.getD, Int.reduceMul, Int.reduceAdd, List.drop, List.take, Nat.reduceBEq, List.isEmpty, Int.reduceEq, Int.reduceNe, Int.reduceNeg, Int.reduceGT, Int.reduceGE, beq_true, beq_false, UInt8.reduceToNat, eqE, eq_self, foldE, maxE, minE, fillA, over, chop, List.replicate, leavesOk, leafOk, cellsEq, cellEq, E_byref, en26, bs22, hrow, rowsI_len, h1, h2, h3, h4, hj, show ∀ B fr H, execT E B 26 (Code.loop _) fr H = rlG E B 26 (loopAt Tryd.f26 0) (gcn B (norm [0, 3] fr) H) from fun B fr H => rl_intro rfl mt26_4 mb26_4 zf26_4 hd26_4 fr H]; exact ⟨_, _, _, rfl, .inr ⟨by decide, rfl, rfl⟩⟩
            · simp only [Int.reduceEq, Bool.or_false] at hj; simp (disch := first | omega | (simp only [vlen, rowsI_len]; omega)) only [vall, List.take_of_length_le, gB, gcW, gcR, posIn, renA, renL, Chunk.ren, Chunk.refs, evOpD, touchD, stepC, isFresh, nFresh, freshOf, mkR, hole, evL, evH, opd, get, putD, ofVal, cellOf, loadE, behind, lenE, idxAddrE, idxE, lookE, lookM, addPtr, intE, strE, unE, convE, AV.int, AV.bool, AV.str, ivs, take, frameOf, firstRegion, refsA, refsL, one, cellsA, floatOk, apartT, List.map, if_true, if_false, E_P, E_glob0, E_glob1, reduceCtorEq, beq_self_eq_true, decide_true, decide_false, ↓reduceIte, Nat.reduceEqDiff, cond_true, cond_false, Nat.reduceAdd, Nat.reduceSub, Nat.reduceMul, Nat.reduceLT, Nat.reduceLeDiff, Int.reduceToNat, Int.reduceLT, Int.reduceLE, Option.getD, Int.reduceMul, Int.reduceAdd, List.drop, List.take, Nat.reduceBEq, List.isEmpty, Int.reduceEq, Int.reduceNe, Int.reduceNeg, Int.reduceGT, Int.reduceGE, beq_true, beq_false, UInt8.reduceToNat, eqE, eq_self, foldE, maxE, minE, fillA, over, chop, List.replicate, leavesOk, leafOk, cellsEq, cellEq, E_byref, en26, bs22, hrow, rowsI_len, h1, h2, h3, h4, hj, show ∀ B fr H, execT E B 26 (Code.loop _) fr H = rlG E B 26 (loopAt Tryd.f26 0) (gcn B (norm [0, 3] fr) H) from fun B fr H => rl_intro rfl mt26_4 mb26_4 zf26_4 hd26_4 fr H]; exact ⟨_, _, _, rfl, .inr ⟨by decide, rfl, rfl⟩⟩
            · simp only [Int.reduceEq, Bool.false_or] at hj; simp (disch := first | omega | (simp only [vlen, rowsI_len]; omega)) only [vall, List.take_of_length_le, gB, gcW, gcR, posIn, renA, renL, Chunk.ren, Chunk.refs, evOpD, touchD, stepC, isFresh, nFresh, freshOf, mkR, hole, evL, evH, opd, get, putD, ofVal, cellOf, loadE, behind, lenE, idxAddrE, idxE, lookE, lookM, addPtr, intE, strE, unE, convE, AV.int, AV.bool, AV.str, ivs, take, frameOf, firstRegion, refsA, refsL, one, cellsA, floatOk, apartT, List.map, if_true, if_false, E_P, E_glob0, E_glob1, reduceCtorEq, beq_self_eq_true, decide_true, decide_false, ↓reduceIte, Nat.reduceEqDiff, cond_true, cond_false, Nat.reduceAdd, Nat.reduceSub, Nat.reduceMul, Nat.reduceLT, Nat.reduceLeDiff, Int.reduceToNat, Int.reduceLT, Int.reduceLE, Option.getD, Int.reduceMul, Int.reduceAdd, List.drop, List.take, Nat.reduceBEq, List.isEmpty, Int.reduceEq, Int.reduceNe, Int.reduceNeg, Int.reduceGT, Int.reduceGE, beq_true, beq_false, UInt8.reduceToNat, eqE, eq_self, foldE, maxE, minE, fillA, over, chop, List.replicate, leavesOk, leafOk, cellsEq, cellEq, E_byref, en26, bs22, hrow, rowsI_len, h1, h2, h3, h4, hj, show ∀ B fr H, execT E B 26 (Code.loop _) fr H = rlG E B 26 (loopAt Tryd.f26 0) (gcn B (norm [0, 3] fr) H) from fun B fr H => rl_intro rfl mt26_4 mb26_4 zf26_4 hd26_4 fr H]; exact ⟨_, _, _, rfl, .inr ⟨by decide, rfl, rfl⟩⟩
            · simp only [g2, g3, decide_false, Bool.or_false] at hj; simp (disch := first | omega | (simp only [vlen, rowsI_len]; omega)) only [vall, List.take_of_length_le, gB, gcW, gcR, posIn, renA, renL, Chunk.ren, Chunk.refs, evOpD, touchD, stepC, isFresh, nFresh, freshOf, mkR, hole, evL, evH, opd, get, putD, ofVal, cellOf, loadE, behind, lenE, idxAddrE, idxE, lookE, lookM, addPtr, intE, strE, unE, convE, AV.int, AV.bool, AV.str, ivs, take, frameOf, firstRegion, refsA, refsL, one, cellsA, floatOk, apartT, List.map, if_true, if_false, E_P, E_glob0, E_glob1, reduceCtorEq, beq_self_eq_true, ↓reduceIte, Nat.reduceEqDiff, cond_true, cond_false, Nat.reduceAdd, Nat.reduceSub, Nat.reduceMul, Nat.reduceLT, Nat.reduceLeDiff, Int.reduceToNat, Int.reduceLT, Int.reduceLE, Option.getD, Int.reduceMul, Int.reduceAdd, List.drop, List.take, Nat.reduceBEq, List.isEmpty, Int.reduceEq, Int.reduceNe, Int.reduceNeg, Int.reduceGT, Int.reduceGE, beq_true, beq_false, UInt8.reduceToNat, eqE, eq_self, foldE, maxE, minE, fillA, over, chop, List.replicate, leavesOk, leafOk, cellsEq, cellEq, E_byref, en26, bs22, hrow, rowsI_len, h1, h2, h3, h4, hj, g1, show ∀ B fr H, execT E B 26 (Code.loop _) fr H = rlG E B 26 (loopAt Tryd.f26 0) (gcn B (norm [0, 3] fr) H) from fun B fr H => rl_intro rfl mt26_4 mb26_4 zf26_4 hd26_4 fr H]; exact ⟨_, _, _, rfl, .inr ⟨by decide, rfl, rfl⟩⟩
          · rw [if_neg (by omega)] at hchk
            subst hchk
            rw [if_pos rfl]
            refine ⟨fr, ex, H', Eq.trans ?_ e, hh⟩
            clear e hh
            rcases key with ⟨rfl, rfl, rfl⟩ | ⟨rfl, rfl, rfl⟩ | ⟨rfl, rfl, rfl⟩ | ⟨g1, g2, g3, rfl, rfl⟩
            · simp only [Int.reduceEq, decide_false, Bool.or_false] at hj; simp (disch := first | omega | (simp only [vlen, rowsI_len]; omega)) only [vall, List.take_of_length_le, gB, gcW, gcR, posIn, renA, renL, Chunk.ren, Chunk.refs, evOpD, touchD, stepC, isFresh, nFresh, freshOf, mkR, hole, evL, evH, opd, get, putD, ofVal, cellOf, loadE, behind, lenE, idxAddrE, idxE, lookE, lookM, addPtr, intE, strE, unE, convE, AV.int, AV.bool, AV.str, ivs, take, frameOf, firstRegion, refsA, refsL, one, cellsA, floatOk, apartT, List.map, if_true, if_false, E_P, E_glob0, E_glob1, reduceCtorEq, beq_self_eq_true, ↓reduceIte, Nat.reduceEqDiff, cond_true, cond_false, Nat.reduceAdd, Nat.reduceSub, Nat.reduceMul, Nat.reduceLT, Nat.reduceLeDiff, Int.reduceToNat, Int.reduceLT, Int.reduceLE, Option.getD, Int.reduceMul, Int.reduceAdd, List.drop, List.take, Nat.reduceBEq, List.isEmpty, Int.reduceEq, Int.reduceNe, Int.reduceNeg, Int.reduceGT, Int.reduceGE, beq_true, beq_false, UInt8.reduceToNat, eqE, eq_self, foldE, maxE, minE, fillA, over, chop, List.replicate, leavesOk, leafOk, cellsEq, cellEq, E_byref, en26, bs22, hrow, rowsI_len, h1, h2, h3, h4, hj, show ∀ B fr H, execT E B 26 (Code.loop _) fr H = rlG E B 26 (loopAt Tryd.f26 0) (gcn B (norm [0, 3] fr) H) from fun B fr H => rl_intro rfl mt26_4 mb26_4 zf26_4 hd26_4 fr H]
            · simp only [Int.reduceEq, Bool.or_false] at hj; simp (disch := first | omega | (simp only [vlen, rowsI_len]; omega)) only [vall, List.take_of_length_le, gB, gcW, gcR, posIn, renA, renL, Chunk.ren, Chunk.refs, evOpD, touchD, stepC, isFresh, nFresh, freshOf, mkR, hole, evL, evH, opd, get, putD, ofVal, cellOf, loadE, behind, lenE, idxAddrE, idxE, lookE, lookM, addPtr, intE, strE, unE, convE, AV.int, AV.bool, AV.str, ivs, take, frameOf, firstRegion, refsA, refsL, one, cellsA, floatOk, apartT, List.map, if_true, if_false, E_P, E_glob0, E_glob1, reduceCtorEq, beq_self_eq_true, decide_true, decide_false, ↓reduceIte, Nat.reduceEqDiff, cond_true, cond_false, Nat.reduceAdd, Nat.reduceSub, Nat.reduceMul, Nat.reduceLT, Nat.reduceLeDiff, Int.reduceToNat, Int.reduceLT, Int.reduceLE, Option.getD, Int.reduceMul, Int.reduceAdd, List.drop, List.take, Nat.reduceBEq, List.isEmpty, Int.reduceEq, Int.reduceNe, Int.reduceNeg, Int.reduceGT, Int.reduceGE, beq_true, beq_false, UInt8.reduceToNat, eqE, eq_self, foldE, maxE, minE, fillA, over, chop, List.replicate, leavesOk, leafOk, cellsEq, cellEq, E_byref, en26, bs22, hrow, rowsI_len, h1, h2, h3, h4, hj, show ∀ B fr H, execT E B 26 (Code.loop _) fr H = rlG E B 26 (loopAt Tryd.f26 0) (gcn B (norm [0, 3] fr) H) from fun B fr H => rl_intro rfl mt26_4 mb26_4 zf26_4 hd26_4 fr H]
            · simp only [Int.reduceEq, Bool.false_or] at hj; simp (disch := first | omega | (simp only [vlen, rowsI_len]; omega)) only [vall, List.take_of_length_le, gB, gcW, gcR, posIn, renA, renL, Chunk.ren, Chunk.refs, evOpD, touchD, stepC, isFresh, nFresh, freshOf, mkR, hole, evL, evH, opd, get, putD, ofVal, cellOf, loadE, behind, lenE, idxAddrE, idxE, lookE, lookM, addPtr, intE, strE, unE, convE, AV.int, AV.bool, AV.str, ivs, take, frameOf, firstRegion, refsA, refsL, one, cellsA, floatOk, apartT, List.map, if_true, if_false, E_P, E_glob0, E_glob1, reduceCtorEq, beq_self_eq_true, decide_true, decide_false, ↓reduceIte, Nat.reduceEqDiff, cond_true, cond_false, Nat.reduceAdd, Nat.reduceSub, Nat.reduceMul, Nat.reduceLT, Nat.reduceLeDiff, Int.reduceToNat, Int.reduceLT, Int.reduceLE, Option.getD, Int.reduceMul, Int.reduceAdd, List.drop, List.take, Nat.reduceBEq, List.isEmpty, Int.reduceEq, Int.reduceNe, Int.reduceNeg, Int.reduceGT, Int.reduceGE, beq_true, beq_false, UInt8.reduceToNat, eqE, eq_self, foldE, maxE, minE, fillA, over, chop, List.replicate, leavesOk, leafOk, cellsEq, cellEq, E_byref, en26, bs22, hrow, rowsI_len, h1, h2, h3, h4, hj, show ∀ B fr H, execT E B 26 (Code.loop _) fr H = rlG E B 26 (loopAt Tryd.f26 0) (gcn B (norm [0, 3] fr) H) from fun B fr H => rl_intro rfl mt26_4 mb26_4 zf26_4 hd26_4 fr H]
            · simp only [g2, g3, decide_false, Bool.or_false] at hj; simp (disch := first | omega | (simp only [vlen, rowsI_len]; omega)) only [vall, List.take_of_length_le, gB, gcW, gcR, posIn, renA, renL, Chunk.ren, Chunk.refs, evOpD, touchD, stepC, isFresh, nFresh, freshOf, mkR, hole, evL, evH, opd, get, putD, ofVal, cellOf, loadE, behind, lenE, idxAddrE, idxE, lookE, lookM, addPtr, intE, strE, unE, convE, AV.int, AV.bool, AV.str, ivs, take, frameOf, firstRegion, refsA, refsL, one, cellsA, floatOk, apartT, List.map, if_true, if_false, E_P, E_glob0, E_glob1, reduceCtorEq, beq_self_eq_true, ↓reduceIte, Nat.reduceEqDiff, cond_true, cond_false, Nat.reduceAdd, Nat.reduceSub, Nat.reduceMul, Nat.reduceLT, Nat.reduceLeDiff, Int.reduceToNat, Int.reduceLT, Int.reduceLE, Option.getD, Int.reduceMul, Int.reduceAdd, List.drop, List.take, Nat.reduceBEq, List.isEmpty, Int.reduceEq, Int.reduceNe, Int.reduceNeg, Int.reduceGT, Int.reduceGE, beq_true, beq_false, UInt8.reduceToNat, eqE, eq_self, foldE, maxE, minE, fillA, over, chop, List.replicate, leavesOk, leafOk, cellsEq, cellEq, E_byref, en26, bs22, hrow, rowsI_len, h1, h2, h3, h4, hj, g1, show ∀ B fr H, execT E B 26 (Code.loop _) fr H = rlG E B 26 (loopAt Tryd.f26 0) (gcn B (norm [0, 3] fr) H) from fun B fr H => rl_intro rfl mt26_4 mb26_4 zf26_4 hd26_4 fr H]
  · obtain rfl : k = l.length := by omega
    rw [List.drop_length, chkL]
    simp (disch := first | omega | (simp only [vlen, rowsI_len]; omega)) only [vall, List.take_of_length_le, gB, gcW, gcR, posIn, renA, renL, Chunk.ren, Chunk.refs, evOpD, touchD, stepC, isFresh, nFresh, freshOf, mkR, hole, evL, evH, opd, get, putD, ofVal, cellOf, loadE, behind, lenE, idxAddrE, idxE, lookE, lookM, addPtr, intE, strE, unE, convE, AV.int, AV.bool, AV.str, ivs, take, frameOf, firstRegion, refsA, refsL, one, cellsA, floatOk, apartT, List.map, if_true, if_false, E_P, E_glob0, E_glob1, reduceCtorEq, beq_self_eq_true, ↓reduceIte, Nat.reduceEqDiff, cond_true, cond_false, Nat.reduceAdd, Nat.reduceSub, Nat.reduceMul, Nat.reduceLT, Nat.reduceLeDiff, Int.reduceToNat, Int.reduceLT, Int.reduceLE, Option.getD, Int.reduceMul, Int.reduceAdd, List.drop, List.take, Nat.reduceBEq, List.isEmpty, Int.reduceEq, Int.reduceNe, Int.reduceNeg, Int.reduceGT, Int.reduceGE, beq_true, beq_false, UInt8.reduceToNat, eqE, eq_self, foldE, maxE, minE, fillA, over, chop, List.replicate, leavesOk, leafOk, cellsEq, cellEq, E_byref, en26, bs22, rowsI_len, show ∀ B fr H, execT E B 26 (Code.loop _) fr H = rlG E B 26 (loopAt Tryd.f26 0) (gcn B (norm [0, 3] fr) H) from fun B fr H => rl_intro rfl mt26_4 mb26_4 zf26_4 hd26_4 fr H]
    exact ⟨_, _, _, rfl, .inl ⟨rfl, rfl⟩⟩
termination_by l.length - k
theorem c26 (l : List Ins) (hl : (l.length : Int) < 9223372036854775808) : ∃ L, callT E 26 [.i (.sl 2 (rowsI l) false)] [] = some (.i (.v (.int .i64 (checkI l))), L) := by
  unfold checkI
  by_cases h5 : 500 < (l.length : Int)
  · rw [if_pos h5]
    rw [callT_eq Tryd.func26 rfl fok26 (by simp [Tryd.ntmps26])]
    simp (disch := first | omega | (simp only [vlen, rowsI_len]; omega)) only [vall, List.take_of_length_le, gB, gcW, gcR, posIn, renA, renL, Chunk.ren, Chunk.refs, evOpD, touchD, stepC, isFresh, nFresh, freshOf, mkR, hole, evL, evH, opd, get, putD, ofVal, cellOf, loadE, behind, lenE, idxAddrE, idxE, lookE, lookM, addPtr, intE, strE, unE, convE, AV.int, AV.bool, AV.str, ivs, take, frameOf, firstRegion, refsA, refsL, one, cellsA, floatOk, apartT, List.map, if_true, if_false, E_P, E_glob0, E_glob1, reduceCtorEq, beq_self_eq_true, ↓reduceIte, Nat.reduceEqDiff, cond_true, cond_false, Nat.reduceAdd, Nat.reduceSub, Nat.reduceMul, Nat.reduceLT, Nat.reduceLeDiff, Int.reduceToNat, Int.reduceLT, Int.reduceLE, Option.getD, Int.reduceMul, Int.reduceAdd, List.drop, List.take, Nat.reduceBEq, List.isEmpty, Int.reduceEq, Int.reduceNe, Int.reduceNeg, Int.reduceGT, Int.reduceGE, beq_true, beq_false, UInt8.reduceToNat, eqE, eq_self, foldE, maxE, minE, fillA, over, chop, List.replicate, leavesOk, leafOk, cellsEq, cellEq, E_byref, en26, bs22, rowsI_len, h5]
    exact ⟨_, rfl⟩
  · rw [if_neg h5]
    obtain ⟨fr, ex, H', e, hh⟩ := l26 l (by omega) 0 (Nat.zero_le _)
    rw [List.drop_zero] at hh
    have e' : rl E 0 26 (loopAt Tryd.f26 0) [(0, .i (.sl 2 (rowsI l) false)), (3, .i (.v (.int .i64 0)))] [] = _ := e
    rcases hh with ⟨h1, rfl⟩ | ⟨h1, rfl, h2⟩
    · rw [h1]
      rw [callT_eq Tryd.func26 rfl fok26 (by simp [Tryd.ntmps26])]
      simp (disch := first | omega | (simp only [vlen, rowsI_len]; omega)) only [vall, List.take_of_length_le, gB, gcW, gcR, posIn, renA, renL, Chunk.ren, Chunk.refs, evOpD, touchD, stepC, isFresh, nFresh, freshOf, mkR, hole, evL, evH, opd, get, putD, ofVal, cellOf, loadE, behind, lenE, idxAddrE, idxE, lookE, lookM, addPtr, intE, strE, unE, convE, AV.int, AV.bool, AV.str, ivs, take, frameOf, firstRegion, refsA, refsL, one, cellsA, floatOk, apartT, List.map, if_true, if_false, E_P, E_glob0, E_glob1, reduceCtorEq, beq_self_eq_true, ↓reduceIte, Nat.reduceEqDiff, cond_true, cond_false, Nat.reduceAdd, Nat.reduceSub, Nat.reduceMul, Nat.reduceLT, Nat.reduceLeDiff, Int.reduceToNat, Int.reduceLT, Int.reduceLE, Option.getD, Int.reduceMul, Int.reduceAdd, List.drop, List.take, Nat.reduceBEq, List.isEmpty, Int.reduceEq, Int.reduceNe, Int.reduceNeg, Int.reduceGT, Int.reduceGE, beq_true, beq_false, UInt8.reduceToNat, eqE, eq_self, foldE, maxE, minE, fillA, over, chop, List.replicate, leavesOk, leafOk, cellsEq, cellEq, E_byref, en26, bs22, rowsI_len, h5, e', show ∀ B fr H, execT E B 26 (Code.loop _) fr H = rlG E B 26 (loopAt Tryd.f26 0) (gcn B (norm [0, 3] fr) H) from fun B fr H => rl_intro rfl mt26_4 mb26_4 zf26_4 hd26_4 fr H]
      exact ⟨_, rfl⟩
    · generalize chkL l.length 0 l = q at *
      rw [callT_eq Tryd.func26 rfl fok26 (by simp [Tryd.ntmps26])]
      simp (disch := first | omega | (simp only [vlen, rowsI_len]; omega)) only [vall, List.take_of_length_le, gB, gcW, gcR, posIn, renA, renL, Chunk.ren, Chunk.refs, evOpD, touchD, stepC, isFresh, nFresh, freshOf, mkR, hole, evL, evH, opd, get, putD, ofVal, cellOf, loadE, behind, lenE, idxAddrE, idxE, lookE, lookM, addPtr, intE, strE, unE, convE, AV.int, AV.bool, AV.str, ivs, take, frameOf, firstRegion, refsA, refsL, one, cellsA, floatOk, apartT, List.map, if_true, if_false, E_P, E_glob0, E_glob1, reduceCtorEq, beq_self_eq_true, ↓reduceIte, Nat.reduceEqDiff, cond_true, cond_false, Nat.reduceAdd, Nat.reduceSub, Nat.reduceMul, Nat.reduceLT, Nat.reduceLeDiff, Int.reduceToNat, Int.reduceLT, Int.reduceLE, Option.getD, Int.reduceMul, Int.reduceAdd, List.drop, List.take, Nat.reduceBEq, List.isEmpty, Int.reduceEq, Int.reduceNe, Int.reduceNeg, Int.reduceGT, Int.reduceGE, beq_true, beq_false, UInt8.reduceToNat, eqE, eq_self, foldE, maxE, minE, fillA, over, chop, List.replicate, leavesOk, leafOk, cellsEq, cellEq, E_byref, en26, bs22, rowsI_len, h5, e', h2, show ∀ B fr H, execT E B 26 (Code.loop _) fr H = rlG E B 26 (loopAt Tryd.f26 0) (gcn B (norm [0, 3] fr) H) from fun B fr H => rl_intro rfl mt26_4 mb26_4 zf26_4 hd26_4 fr H]
      exact ⟨_, rfl⟩
theorem ik26 (l : List Ins) (hl : (l.length : Int) < 9223372036854775808) (H : Hp) : isoK E (callT E) 26 [.i (.sl 2 (rowsI l) false)] H = some (.i (.v (.int .i64 (checkI l))), H) := isoK_val rfl rfl rfl (c26 l hl)
end Go.VI

namespace Go.VI
open Go.Proofs
set_option maxRecDepth 100000
set_option linter.unusedSimpArgs false
set_option linter.unusedVariables false
set_option maxHeartbeats 4000000
def rows64 (l : List Int) : List (List IV) := l.map fun n => [.v (.int .i64 n)]
theorem rows64_len (l : List Int) : (rows64 l).length = l.length := by simp [rows64]
theorem rows64_snoc (l : List Int) (n : Int) : rows64 l ++ [[.v (.int .i64 n)]] = rows64 (l ++ [n]) := by simp [rows64]
theorem rows64_at {l : List Int} {k : Nat} (h : k < l.length) : (rows64 l)[k]? = some [.v (.int .i64 l[k])] := by simp [rows64, h]
theorem rows64_set (l : List Int) (k : Nat) (x : Int) : (rows64 l).set k [.v (.int .i64 x)] = rows64 (l.set k x) := by simp [rows64, List.map_set]
theorem rows64_rep (n : Nat) (x : Int) : List.replicate n [IV.v (.int .i64 x)] = rows64 (List.replicate n x) := by simp [rows64]
def popS (op : Int) : Int := popsL.getD op.toNat 0
def pushS (op : Int) : Int := pushesL.getD op.toNat 0
theorem tab_at {l : List Int} {n : Nat} (h : n < l.length) : (tabT l)[n]? = some (.v (.int .i64 (l.getD n 0))) := by
  rw [List.getD_eq_getElem?_getD, List.getElem?_eq_getElem h]
  simp [tabT, h]
theorem pops_at {op : Int} (h0 : 0 ≤ op) (h1 : op ≤ 20) : popsT[op.toNat]? = some (.v (.int .i64 (popS op))) := tab_at (by show op.toNat < 21; omega)
theorem pushes_at {op : Int} (h0 : 0 ≤ op) (h1 : op ≤ 20) : pushesT[op.toNat]? = some (.v (.int .i64 (pushS op))) := tab_at (by show op.toNat < 21; omega)
theorem popS_r (op : Int) : 0 ≤ popS op ∧ popS op ≤ 2 := by
  have key : ∀ x ∈ popsL, 0 ≤ x ∧ x ≤ 2 := by decide
  unfold popS
  rw [List.getD_eq_getElem?_getD]
  cases h : popsL[op.toNat]? with
  | none => simp
  | some x => exact key x (List.mem_of_getElem? h)
theorem pushS_r (op : Int) : 0 ≤ pushS op ∧ pushS op ≤ 2 := by
  have key : ∀ x ∈ pushesL, 0 ≤ x ∧ x ≤ 2 := by decide
  unfold pushS
  rw [List.getD_eq_getElem?_getD]
  cases h : pushesL[op.toNat]? with
  | none => simp
  | some x => exact key x (List.mem_of_getElem? h)
def dSet (n after : Int) : List Int → List Int → Option (List Int)
  | [], out => some out
  | k :: ks, out => if k < n ∧ 0 ≤ out.getD k.toNat 0 ∧ out.getD k.toNat 0 ≠ after then none else dSet n after ks (out.set k.toNat after)
def dStep (n : Nat) (i : Nat) (p : Ins) (out : List Int) : Option (List Int) :=
  if out.getD i 0 < 0 then some out
  else if out.getD i 0 < popS p.1 ∨ 16 < out.getD i 0 - popS p.1 + pushS p.1 then none
  else dSet n (out.getD i 0 - popS p.1 + pushS p.1) (sucL p.1 p.2 i) out
def dRun (n : Nat) : Nat → List Ins → List Int → Option (List Int)
  | _, [], out => some out
  | i, p :: r, out => match dStep n i p out with
    | some out' => dRun n (i + 1) r out'
    | none => none
def depthsS (l : List Ins) : List Int × Int := if checkI l = 0 then match dRun l.length 0 l (0 :: List.replicate l.length (-1)) with
  | some out => (out.take l.length, 0)
  | none => ([], 13) else ([], checkI l)
theorem l32_0 (l : List Ins) (n : Nat) (hn : n < 1000000) (k : Nat) (hk : k ≤ n) :
    ∃ fr, rl E 0 32 (loopAt Tryd.f32 0) [(1, .ptr 0 0 0 0), (2, .ptr 1 0 0 0), (3, .ptr 2 0 0 0), (5, .ptr 3 0 0 0), (21, .i (.v (.int .i64 (n)))), (22, .i (.v (.int .i64 (k))))] [.box [.i (.sl 2 (rowsI l) false)], .box [.i (.sl 0 [] true)], .box [.i (.v (.int .i64 0))], .box [.ref 4 0 0 (n)], .sl 1 0 (rows64 (List.replicate k (-1) ++ List.replicate (n - k) 0)) false] = some (.exit 0, fr, [.box [.i (.sl 2 (rowsI l) false)], .box [.i (.sl 0 [] true)], .box [.i (.v (.int .i64 0))], .box [.ref 4 0 0 (n)], .sl 1 0 (rows64 (List.replicate n (-1))) false]) ∧ get 1 fr = .ptr 0 0 0 0 ∧ get 2 fr = .ptr 1 0 0 0 ∧ get 3 fr = .ptr 2 0 0 0 ∧ get 5 fr = .ptr 3 0 0 0 := by
  rw [rl_step (fn := Tryd.f32) (k := 0) rfl]
  by_cases hlt : k < n
  · obtain ⟨fr, e, hh⟩ := l32_0 l n hn (k + 1) hlt
    refine ⟨fr, Eq.trans ?_ e, hh⟩
    clear e hh
    have ho : (List.replicate k (-1 : Int) ++ List.replicate (n - k) 0).length = n := by simp; omega
    have hs : (List.replicate k (-1 : Int) ++ List.replicate (n - k) 0).set k (-1) = List.replicate (k + 1) (-1) ++ List.replicate (n - (k + 1)) 0 := by
      apply List.ext_getElem?
      intro j
      rw [List.getElem?_set]
      by_cases hj : k = j
      · subst hj
        rw [if_pos rfl, if_pos (by omega), List.getElem?_append_left (by simp), List.getElem?_replicate, if_pos (by omega)]
      · rw [if_neg hj]
        by_cases hjk : j < k
        · rw [List.getElem?_append_left (by simpa using hjk), List.getElem?_append_left (by simp; omega), List.getElem?_replicate, List.getElem?_replicate, if_pos hjk, if_pos (by omega)]
        · rw [List.getElem?_append_right (by simp; omega), List.getElem?_append_right (by simp; omega), List.getElem?_replicate, List.getElem?_replicate]
          simp only [List.length_replicate]
          by_cases hjn : j - k < n - k
          · rw [if_pos hjn, if_pos (by omega)]
          · rw [if_neg hjn, if_neg (by omega)]
    obtain ⟨x, hrow⟩ : ∃ x, (rows64 (List.replicate k (-1 : Int) ++ List.replicate (n - k) 0))[k]? = some [.v (.int .i64 x)] := ⟨_, rows64_at (by omega)⟩
    rw [← hs]
    generalize List.replicate k (-1 : Int) ++ List.replicate (n - k) 0 = out at *
    simp (disch := first | omega | (simp only [vlen, rows64_len]; omega)) only [vall, List.take_of_length_le, gB, gcW, gcR, posIn, renA, renL, Chunk.ren, Chunk.refs, evOpD, touchD, stepC, isFresh, nFresh, freshOf, mkR, hole, evL, evH, opd, get, putD, ofVal, cellOf, loadE, behind, lenE, idxAddrE, idxE, lookE, lookM, addPtr, intE, strE, unE, convE, AV.int, AV.bool, AV.str, ivs, take, frameOf, firstRegion, refsA, refsL, one, cellsA, floatOk, apartT, List.map, if_true, if_false, E_P, E_glob0, E_glob1, reduceCtorEq, beq_self_eq_true, ↓reduceIte, Nat.reduceEqDiff, cond_true, cond_false, Nat.reduceAdd, Nat.reduceSub, Nat.reduceMul, Nat.reduceLT, Nat.reduceLeDiff, Int.reduceToNat, Int.reduceLT, Int.reduceLE, Option.getD, Int.reduceMul, Int.reduceAdd, List.drop, List.take, Nat.reduceBEq, List.isEmpty, Int.reduceEq, Int.reduceNe, Int.reduceNeg, Int.reduceGT, Int.reduceGE, beq_true, beq_false, UInt8.reduceToNat, eqE, eq_self, foldE, maxE, minE, fillA, over, chop, List.replicate, leavesOk, leafOk, cellsEq, cellEq, E_byref, en32, bs22, bs46, rows64_len, hrow, rows64_set, show ∀ B fr H, execT E B 32 (Code.loop _) fr H = rlG E B 32 (loopAt Tryd.f32 0) (gcn B (norm [1, 2, 3, 5, 21, 22] fr) H) from fun B fr H => rl_intro rfl mt32_6 mb32_6 zf32_6 hd32_6 fr H]
  · obtain rfl : k = n := by omega
    rw [Nat.sub_self, List.replicate_zero, List.append_nil]
    generalize List.replicate k (-1 : Int) = out at *
    simp (disch := first | omega | (simp only [vlen, rows64_len]; omega)) only [vall, List.take_of_length_le, gB, gcW, gcR, posIn, renA, renL, Chunk.ren, Chunk.refs, evOpD, touchD, stepC, isFresh, nFresh, freshOf, mkR, hole, evL, evH, opd, get, putD, ofVal, cellOf, loadE, behind, lenE, idxAddrE, idxE, lookE, lookM, addPtr, intE, strE, unE, convE, AV.int, AV.bool, AV.str, ivs, take, frameOf, firstRegion, refsA, refsL, one, cellsA, floatOk, apartT, List.map, if_true, if_false, E_P, E_glob0, E_glob1, reduceCtorEq, beq_self_eq_true, ↓reduceIte, Nat.reduceEqDiff, cond_true, cond_false, Nat.reduceAdd, Nat.reduceSub, Nat.reduceMul, Nat.reduceLT, Nat.reduceLeDiff, Int.reduceToNat, Int.reduceLT, Int.reduceLE, Option.getD, Int.reduceMul, Int.reduceAdd, List.drop, List.take, Nat.reduceBEq, List.isEmpty, Int.reduceEq, Int.reduceNe, Int.reduceNeg, Int.reduceGT, Int.reduceGE, beq_true, beq_false, UInt8.reduceToNat, eqE, eq_self, foldE, maxE, minE, fillA, over, chop, List.replicate, leavesOk, leafOk, cellsEq, cellEq, E_byref, en32, bs22, bs46, rows64_len, show ∀ B fr H, execT E B 32 (Code.loop _) fr H = rlG E B 32 (loopAt Tryd.f32 0) (gcn B (norm [1, 2, 3, 5, 21, 22] fr) H) from fun B fr H => rl_intro rfl mt32_6 mb32_6 zf32_6 hd32_6 fr H]
    exact ⟨_, rfl, rfl, rfl, rfl, rfl⟩
termination_by n - k
end Go.VI

namespace Go.VI
open Go.Proofs
set_option maxRecDepth 100000
set_option linter.unusedSimpArgs false
set_option linter.unusedVariables false
set_option maxHeartbeats 4000000
theorem rows64_get {l : List Int} {k : Nat} (h : k < l.length) : (rows64 l)[k]? = some [.v (.int .i64 (l.getD k 0))] := by
  rw [rows64_at h, List.getD_eq_getElem?_getD, List.getElem?_eq_getElem h]; rfl
theorem rd32 (l : List Ins) (hl : l.length < 100000) (n : Nat) (hn : n = l.length + 1) (out : List Int) (ho : out.length = n) (op arg af i k x : Int) (hx : 0 ≤ x ∧ x ≤ l.length) :
    rdF E 32 (rfAt Tryd.f32 0) ((73, .i (.v (.int .i64 x))) :: [(1, .ptr 0 0 0 0), (2, .ptr 1 0 0 0), (3, .ptr 2 0 0 0), (5, .ptr 3 0 0 0), (9, .ptr 6 0 0 0), (31, .i (.sl 2 (rowsI l) false)), (32, .i (.v (.int .i64 l.length))), (33, .i (.v (.int .i64 (k)))), (72, .clo (.func 49) [] [.ptr 7 0 0 0, .ptr 8 0 0 0])]) [.box [.i (.sl 2 (rowsI l) false)], .box [.i (.sl 0 [] true)], .box [.i (.v (.int .i64 (0)))], .box [.ref 4 0 0 (n)], .sl 1 0 (rows64 (out)) false, .box [.i (.v (.int .i64 (op))), .i (.v (.int .i64 (arg)))], .box [.i (.v (.int .i64 (af)))], .box [.i (.v (.int .i64 (op))), .i (.v (.int .i64 (arg)))], .box [.i (.v (.int .i64 (i)))]] =
      if x < l.length ∧ 0 ≤ out.getD x.toNat 0 ∧ out.getD x.toNat 0 ≠ af then some (.ret, [.box [.i (.sl 2 (rowsI l) false)], .box [.i (.sl 0 [] true)], .box [.i (.v (.int .i64 (13)))], .box [.ref 4 0 0 (n)], .sl 1 0 (rows64 (out)) false, .box [.i (.v (.int .i64 (op))), .i (.v (.int .i64 (arg)))], .box [.i (.v (.int .i64 (af)))], .box [.i (.v (.int .i64 (op))), .i (.v (.int .i64 (arg)))], .box [.i (.v (.int .i64 (i)))]]) else some (.normal, [.box [.i (.sl 2 (rowsI l) false)], .box [.i (.sl 0 [] true)], .box [.i (.v (.int .i64 (0)))], .box [.ref 4 0 0 (n)], .sl 1 0 (rows64 (out.set x.toNat af)) false, .box [.i (.v (.int .i64 (op))), .i (.v (.int .i64 (arg)))], .box [.i (.v (.int .i64 (af)))], .box [.i (.v (.int .i64 (op))), .i (.v (.int .i64 (arg)))], .box [.i (.v (.int .i64 (i)))]]) := by
  have hrow := rows64_get (l := out) (k := x.toNat) (by omega)
  generalize hy : out.getD x.toNat 0 = y at *
  rw [rd_step (fn := Tryd.f32) (k := 0) rfl]
  by_cases h1 : x < l.length
  · by_cases h2 : 0 ≤ y
    · by_cases h3 : y = af
      · rw [if_neg (fun h => h.2.2 h3)]
        subst h3
        simp (disch := first | omega | (simp only [vlen, rows64_len, rowsI_len]; omega)) only [vall, List.take_of_length_le, gB, gcW, gcR, posIn, renA, renL, Chunk.ren, Chunk.refs, evOpD, touchD, stepC, isFresh, nFresh, freshOf, mkR, hole, evL, evH, opd, get, putD, ofVal, cellOf, loadE, behind, lenE, idxAddrE, idxE, lookE, lookM, addPtr, intE, strE, unE, convE, AV.int, AV.bool, AV.str, ivs, take, frameOf, firstRegion, refsA, refsL, one, cellsA, floatOk, apartT, List.map, if_true, if_false, E_P, E_glob0, E_glob1, reduceCtorEq, beq_self_eq_true, ↓reduceIte, Nat.reduceEqDiff, cond_true, cond_false, Nat.reduceAdd, Nat.reduceSub, Nat.reduceMul, Nat.reduceLT, Nat.reduceLeDiff, Int.reduceToNat, Int.reduceLT, Int.reduceLE, Option.getD, Int.reduceMul, Int.reduceAdd, List.drop, List.take, Nat.reduceBEq, List.isEmpty, Int.reduceEq, Int.reduceNe, Int.reduceNeg, Int.reduceGT, Int.reduceGE, beq_true, beq_false, UInt8.reduceToNat, eqE, eq_self, foldE, maxE, minE, fillA, over, chop, List.replicate, leavesOk, leafOk, cellsEq, cellEq, E_byref, en32, bs22, bs46, rows64_len, rowsI_len, hrow, h1, h2, rows64_set]
      · rw [if_pos ⟨h1, h2, h3⟩]
        simp (disch := first | omega | (simp only [vlen, rows64_len, rowsI_len]; omega)) only [vall, List.take_of_length_le, gB, gcW, gcR, posIn, renA, renL, Chunk.ren, Chunk.refs, evOpD, touchD, stepC, isFresh, nFresh, freshOf, mkR, hole, evL, evH, opd, get, putD, ofVal, cellOf, loadE, behind, lenE, idxAddrE, idxE, lookE, lookM, addPtr, intE, strE, unE, convE, AV.int, AV.bool, AV.str, ivs, take, frameOf, firstRegion, refsA, refsL, one, cellsA, floatOk, apartT, List.map, if_true, if_false, E_P, E_glob0, E_glob1, reduceCtorEq, beq_self_eq_true, ↓reduceIte, Nat.reduceEqDiff, cond_true, cond_false, Nat.reduceAdd, Nat.reduceSub, Nat.reduceMul, Nat.reduceLT, Nat.reduceLeDiff, Int.reduceToNat, Int.reduceLT, Int.reduceLE, Option.getD, Int.reduceMul, Int.reduceAdd, List.drop, List.take, Nat.reduceBEq, List.isEmpty, Int.reduceEq, Int.reduceNe, Int.reduceNeg, Int.reduceGT, Int.reduceGE, beq_true, beq_false, UInt8.reduceToNat, eqE, eq_self, foldE, maxE, minE, fillA, over, chop, List.replicate, leavesOk, leafOk, cellsEq, cellEq, E_byref, en32, bs22, bs46, rows64_len, rowsI_len, hrow, h1, h2, h3, rows64_set]
    · rw [if_neg (fun h => h2 h.2.1)]
      simp (disch := first | omega | (simp only [vlen, rows64_len, rowsI_len]; omega)) only [vall, List.take_of_length_le, gB, gcW, gcR, posIn, renA, renL, Chunk.ren, Chunk.refs, evOpD, touchD, stepC, isFresh, nFresh, freshOf, mkR, hole, evL, evH, opd, get, putD, ofVal, cellOf, loadE, behind, lenE, idxAddrE, idxE, lookE, lookM, addPtr, intE, strE, unE, convE, AV.int, AV.bool, AV.str, ivs, take, frameOf, firstRegion, refsA, refsL, one, cellsA, floatOk, apartT, List.map, if_true, if_false, E_P, E_glob0, E_glob1, reduceCtorEq, beq_self_eq_true, ↓reduceIte, Nat.reduceEqDiff, cond_true, cond_false, Nat.reduceAdd, Nat.reduceSub, Nat.reduceMul, Nat.reduceLT, Nat.reduceLeDiff, Int.reduceToNat, Int.reduceLT, Int.reduceLE, Option.getD, Int.reduceMul, Int.reduceAdd, List.drop, List.take, Nat.reduceBEq, List.isEmpty, Int.reduceEq, Int.reduceNe, Int.reduceNeg, Int.reduceGT, Int.reduceGE, beq_true, beq_false, UInt8.reduceToNat, eqE, eq_self, foldE, maxE, minE, fillA, over, chop, List.replicate, leavesOk, leafOk, cellsEq, cellEq, E_byref, en32, bs22, bs46, rows64_len, rowsI_len, hrow, h1, h2, rows64_set]
  · rw [if_neg (fun h => h1 h.1)]
    simp (disch := first | omega | (simp only [vlen, rows64_len, rowsI_len]; omega)) only [vall, List.take_of_length_le, gB, gcW, gcR, posIn, renA, renL, Chunk.ren, Chunk.refs, evOpD, touchD, stepC, isFresh, nFresh, freshOf, mkR, hole, evL, evH, opd, get, putD, ofVal, cellOf, loadE, behind, lenE, idxAddrE, idxE, lookE, lookM, addPtr, intE, strE, unE, convE, AV.int, AV.bool, AV.str, ivs, take, frameOf, firstRegion, refsA, refsL, one, cellsA, floatOk, apartT, List.map, if_true, if_false, E_P, E_glob0, E_glob1, reduceCtorEq, beq_self_eq_true, ↓reduceIte, Nat.reduceEqDiff, cond_true, cond_false, Nat.reduceAdd, Nat.reduceSub, Nat.reduceMul, Nat.reduceLT, Nat.reduceLeDiff, Int.reduceToNat, Int.reduceLT, Int.reduceLE, Option.getD, Int.reduceMul, Int.reduceAdd, List.drop, List.take, Nat.reduceBEq, List.isEmpty, Int.reduceEq, Int.reduceNe, Int.reduceNeg, Int.reduceGT, Int.reduceGE, beq_true, beq_false, UInt8.reduceToNat, eqE, eq_self, foldE, maxE, minE, fillA, over, chop, List.replicate, leavesOk, leafOk, cellsEq, cellEq, E_byref, en32, bs22, bs46, rows64_len, rowsI_len, hrow, h1, rows64_set]
end Go.VI

namespace Go.VI
open Go.Proofs
set_option maxRecDepth 100000
set_option linter.unusedSimpArgs false
set_option linter.unusedVariables false
set_option maxHeartbeats 4000000
theorem c33 (op arg i : Int) : callT E 33 [.agg [.i (.v (.int .i64 op)), .i (.v (.int .i64 arg))], .i (.v (.int .i64 i))] [] = some (.clo (.func 49) [] [.ptr 0 0 0 0, .ptr 1 0 0 0], [.box [.i (.v (.int .i64 op)), .i (.v (.int .i64 arg))], .box [.i (.v (.int .i64 i))]]) := by
  rw [callT_eq Tryd.func33 rfl fok33 (by simp [Tryd.ntmps33])]
  simp (disch := first | omega | (simp only [vlen]; omega)) only [vall, List.take_of_length_le, gB, gcW, gcR, posIn, renA, renL, Chunk.ren, Chunk.refs, evOpD, touchD, stepC, isFresh, nFresh, freshOf, mkR, hole, evL, evH, opd, get, putD, ofVal, cellOf, loadE, behind, lenE, idxAddrE, idxE, lookE, lookM, addPtr, intE, strE, unE, convE, AV.int, AV.bool, AV.str, ivs, take, frameOf, firstRegion, refsA, refsL, one, cellsA, floatOk, apartT, List.map, if_true, if_false, E_P, E_glob0, E_glob1, reduceCtorEq, beq_self_eq_true, ↓reduceIte, Nat.reduceEqDiff, cond_true, cond_false, Nat.reduceAdd, Nat.reduceSub, Nat.reduceMul, Nat.reduceLT, Nat.reduceLeDiff, Int.reduceToNat, Int.reduceLT, Int.reduceLE, Option.getD, Int.reduceMul, Int.reduceAdd, List.drop, List.take, Nat.reduceBEq, List.isEmpty, Int.reduceEq, Int.reduceNe, Int.reduceNeg, Int.reduceGT, Int.reduceGE, beq_true, beq_false, UInt8.reduceToNat, eqE, eq_self, foldE, maxE, minE, fillA, over, chop, List.replicate, leavesOk, leafOk, cellsEq, cellEq, E_byref, en33]
theorem ik33 (op arg i : Int) (H : Hp) : isoK E (callT E) 33 [.agg [.i (.v (.int .i64 op)), .i (.v (.int .i64 arg))], .i (.v (.int .i64 i))] H = some (.clo (.func 49) [] [.ptr H.length 0 0 0, .ptr (H.length + 1) 0 0 0], H ++ [.box [.i (.v (.int .i64 op)), .i (.v (.int .i64 arg))], .box [.i (.v (.int .i64 i))]]) := by
  have h := c33 op arg i
  unfold isoK
  simp [exCl, show E.ext 33 = none from rfl, refsL, refsA, reach, renL, renA, posIn, h, Chunk.refs, Chunk.ren, setAll, backRen]
  exact Nat.add_comm _ _
theorem rg32 (l : List Ins) (hl : l.length < 100000) (n : Nat) (hn : n = l.length + 1) (op arg af i k : Int) : ∀ (xs : List Int), (∀ x ∈ xs, 0 ≤ x ∧ x ≤ l.length) → ∀ out : List Int, out.length = n →
    (∃ out', dSet l.length af xs out = some out' ∧ out'.length = n ∧ rgE (rdF E 32 (rfAt Tryd.f32 0)) 73 [(1, .ptr 0 0 0 0), (2, .ptr 1 0 0 0), (3, .ptr 2 0 0 0), (5, .ptr 3 0 0 0), (9, .ptr 6 0 0 0), (31, .i (.sl 2 (rowsI l) false)), (32, .i (.v (.int .i64 l.length))), (33, .i (.v (.int .i64 (k)))), (72, .clo (.func 49) [] [.ptr 7 0 0 0, .ptr 8 0 0 0])] [.ptr 7 0 0 0, .ptr 8 0 0 0] [[op, arg], [i]] xs [.box [.i (.sl 2 (rowsI l) false)], .box [.i (.sl 0 [] true)], .box [.i (.v (.int .i64 (0)))], .box [.ref 4 0 0 (n)], .sl 1 0 (rows64 (out)) false, .box [.i (.v (.int .i64 (op))), .i (.v (.int .i64 (arg)))], .box [.i (.v (.int .i64 (af)))], .box [.i (.v (.int .i64 (op))), .i (.v (.int .i64 (arg)))], .box [.i (.v (.int .i64 (i)))]] = some (.normal, [(1, .ptr 0 0 0 0), (2, .ptr 1 0 0 0), (3, .ptr 2 0 0 0), (5, .ptr 3 0 0 0), (9, .ptr 6 0 0 0), (31, .i (.sl 2 (rowsI l) false)), (32, .i (.v (.int .i64 l.length))), (33, .i (.v (.int .i64 (k)))), (72, .clo (.func 49) [] [.ptr 7 0 0 0, .ptr 8 0 0 0])], [.box [.i (.sl 2 (rowsI l) false)], .box [.i (.sl 0 [] true)], .box [.i (.v (.int .i64 (0)))], .box [.ref 4 0 0 (n)], .sl 1 0 (rows64 (out')) false, .box [.i (.v (.int .i64 (op))), .i (.v (.int .i64 (arg)))], .box [.i (.v (.int .i64 (af)))], .box [.i (.v (.int .i64 (op))), .i (.v (.int .i64 (arg)))], .box [.i (.v (.int .i64 (i)))]])) ∨
    (dSet l.length af xs out = none ∧ ∃ out', rgE (rdF E 32 (rfAt Tryd.f32 0)) 73 [(1, .ptr 0 0 0 0), (2, .ptr 1 0 0 0), (3, .ptr 2 0 0 0), (5, .ptr 3 0 0 0), (9, .ptr 6 0 0 0), (31, .i (.sl 2 (rowsI l) false)), (32, .i (.v (.int .i64 l.length))), (33, .i (.v (.int .i64 (k)))), (72, .clo (.func 49) [] [.ptr 7 0 0 0, .ptr 8 0 0 0])] [.ptr 7 0 0 0, .ptr 8 0 0 0] [[op, arg], [i]] xs [.box [.i (.sl 2 (rowsI l) false)], .box [.i (.sl 0 [] true)], .box [.i (.v (.int .i64 (0)))], .box [.ref 4 0 0 (n)], .sl 1 0 (rows64 (out)) false, .box [.i (.v (.int .i64 (op))), .i (.v (.int .i64 (arg)))], .box [.i (.v (.int .i64 (af)))], .box [.i (.v (.int .i64 (op))), .i (.v (.int .i64 (arg)))], .box [.i (.v (.int .i64 (i)))]] = some (.ret, [(1, .ptr 0 0 0 0), (2, .ptr 1 0 0 0), (3, .ptr 2 0 0 0), (5, .ptr 3 0 0 0), (9, .ptr 6 0 0 0), (31, .i (.sl 2 (rowsI l) false)), (32, .i (.v (.int .i64 l.length))), (33, .i (.v (.int .i64 (k)))), (72, .clo (.func 49) [] [.ptr 7 0 0 0, .ptr 8 0 0 0])], [.box [.i (.sl 2 (rowsI l) false)], .box [.i (.sl 0 [] true)], .box [.i (.v (.int .i64 (13)))], .box [.ref 4 0 0 (n)], .sl 1 0 (rows64 (out')) false, .box [.i (.v (.int .i64 (op))), .i (.v (.int .i64 (arg)))], .box [.i (.v (.int .i64 (af)))], .box [.i (.v (.int .i64 (op))), .i (.v (.int .i64 (arg)))], .box [.i (.v (.int .i64 (i)))]]))
  | [], _, out, ho => .inl ⟨out, rfl, ho, rfl⟩
  | x :: xs, hx, out, ho => by
    have h1 := rd32 l hl n hn out ho op arg af i k x (hx x (.head _))
    rw [rgE_cons, h1]
    simp only [dSet]
    by_cases hc : x < l.length ∧ 0 ≤ out.getD x.toNat 0 ∧ out.getD x.toNat 0 ≠ af
    · rw [if_pos hc, if_pos hc]
      exact .inr ⟨rfl, out, rfl⟩
    · rw [if_neg hc, if_neg hc, rgN_n, if_pos (show capsI _ [.ptr 7 0 0 0, .ptr 8 0 0 0] = some [[op, arg], [i]] from rfl)]
      exact rg32 l hl n hn op arg af i k xs (fun y hy => hx y (.tail _ hy)) (out.set x.toNat af) (by simpa using ho)
theorem sucL_in {n k : Nat} {op arg : Int} (hk : k < n) (h : chk1 n k (op, arg) = 0) : (0 ≤ op ∧ op ≤ 20) ∧ ∀ x ∈ sucL op arg k, (k : Int) < x ∧ x ≤ n := by
  unfold chk1 at h
  simp only at h
  split at h
  · cases h
  rename_i h1
  split at h
  · cases h
  rename_i h2
  refine ⟨by omega, fun x hx => ?_⟩
  unfold sucL at hx
  rw [List.mem_append] at hx
  rcases hx with hx | hx
  · split at hx
    · cases hx
    · rw [List.mem_singleton] at hx; omega
  · split at hx
    · rename_i hj
      rw [List.mem_singleton] at hx
      subst hx
      have h1 : ¬ op = 1 := by omega
      unfold boundsS at h2
      rw [if_neg h1, if_pos hj] at h2
      simp only at h2
      omega
    · cases hx
theorem dSet_r {n after : Int} (ha : 0 ≤ after ∧ after ≤ 16) : ∀ (ks out out' : List Int), dSet n after ks out = some out' → (∀ x ∈ out, -1 ≤ x ∧ x ≤ 16) → ∀ x ∈ out', -1 ≤ x ∧ x ≤ 16
  | [], out, out', h, hr => by simp only [dSet, Option.some.injEq] at h; subst h; exact hr
  | k :: ks, out, out', h, hr => by
    simp only [dSet] at h
    split at h
    · cases h
    · exact dSet_r ha ks _ out' h fun x hx => by
        rcases List.mem_or_eq_of_mem_set hx with h1 | h1
        · exact hr x h1
        · omega
def dP (l : List Ins) (n : Nat) (fr : Fr) (ex : Ex) (H' : Hp) : Option (List Int) → Prop
  | some out' => ex = .exit 2 ∧ out'.length = n ∧ H' = [.box [.i (.sl 2 (rowsI l) false)], .box [.i (.sl 0 [] true)], .box [.i (.v (.int .i64 0))], .box [.ref 4 0 0 (n)], .sl 1 0 (rows64 (out')) false] ∧ get 1 fr = .ptr 0 0 0 0 ∧ get 2 fr = .ptr 1 0 0 0 ∧ get 3 fr = .ptr 2 0 0 0 ∧ get 5 fr = .ptr 3 0 0 0
  | none => ex = .ret ∧ H'[1]? = some (.box [.i (.sl 0 [] true)]) ∧ H'[2]? = some (.box [.i (.v (.int .i64 13))]) ∧ get 2 fr = .ptr 1 0 0 0 ∧ get 3 fr = .ptr 2 0 0 0
theorem l32_1 (l : List Ins) (hl : l.length ≤ 500) (n : Nat) (hn : n = l.length + 1) (hok : ∀ (j : Nat) (h : j < l.length), chk1 l.length j l[j] = 0) (k : Nat) (hk : k ≤ l.length) (out : List Int) (ho : out.length = n) (hr : ∀ x ∈ out, -1 ≤ x ∧ x ≤ 16) :
    ∃ fr ex H', rl E 0 32 (loopAt Tryd.f32 1) [(1, .ptr 0 0 0 0), (2, .ptr 1 0 0 0), (3, .ptr 2 0 0 0), (5, .ptr 3 0 0 0), (31, .i (.sl 2 (rowsI l) false)), (32, .i (.v (.int .i64 l.length))), (33, .i (.v (.int .i64 (k))))] [.box [.i (.sl 2 (rowsI l) false)], .box [.i (.sl 0 [] true)], .box [.i (.v (.int .i64 0))], .box [.ref 4 0 0 (n)], .sl 1 0 (rows64 (out)) false] = some (ex, fr, H') ∧ dP l n fr ex H' (dRun l.length k (l.drop k) out) := by
  rw [rl_step (fn := Tryd.f32) (k := 1) rfl]
  by_cases hlt : k < l.length
  · have hrow := rowsI_at hlt
    have hck := hok k hlt
    rw [List.drop_eq_getElem_cons hlt, dRun, dStep]
    have ih := fun out ho hr => l32_1 l hl n hn hok (k + 1) hlt out ho hr
    obtain ⟨op, arg, hp⟩ : ∃ op arg, l[k] = (op, arg) := ⟨_, _, rfl⟩
    rw [hp] at hrow hck ⊢
    simp only at hrow ⊢
    obtain ⟨⟨o1, o2⟩, hsuc⟩ := sucL_in hlt hck
    have hd := rows64_get (l := out) (k := k) (by omega)
    have hdr := hr (out.getD k 0) (by rw [List.getD_eq_getElem?_getD, List.getElem?_eq_getElem (by omega)]; exact List.getElem_mem _)
    have hpo := pops_at o1 o2
    have hpu := pushes_at o1 o2
    have hp1 := popS_r op
    have hp2 := pushS_r op
    have hrg := fun af => rg32 l (by omega) n hn op arg af k k (sucL op arg k) (fun x hx => by have := hsuc x hx; omega) out ho
    have hsq := seqSucc_eq op arg k (by omega) (by omega)
    generalize out.getD k 0 = d at *
    generalize popS op = po at *
    generalize pushS op = pu at *
    generalize sucL op arg k = xs at *
    by_cases h1 : d < 0
    · rw [if_pos h1]
      simp only
      obtain ⟨fr, ex, H', e, hh⟩ := ih out ho hr
      refine ⟨fr, ex, H', Eq.trans ?_ e, hh⟩
      clear e hh ih hrg
      simp (disch := first | omega | (simp only [vlen, rowsI_len, rows64_len]; omega)) only [vall, List.take_of_length_le, gB, gcW, gcR, posIn, renA, renL, Chunk.ren, Chunk.refs, evOpD, touchD, stepC, isFresh, nFresh, freshOf, mkR, hole, evL, evH, opd, get, putD, ofVal, cellOf, loadE, behind, lenE, idxAddrE, idxE, lookE, lookM, addPtr, intE, strE, unE, convE, AV.int, AV.bool, AV.str, ivs, take, frameOf, firstRegion, refsA, refsL, one, cellsA, floatOk, apartT, List.map, if_true, if_false, E_P, E_glob0, E_glob1, reduceCtorEq, beq_self_eq_true, ↓reduceIte, Nat.reduceEqDiff, cond_true, cond_false, Nat.reduceAdd, Nat.reduceSub, Nat.reduceMul, Nat.reduceLT, Nat.reduceLeDiff, Int.reduceToNat, Int.reduceLT, Int.reduceLE, Option.getD, Int.reduceMul, Int.reduceAdd, List.drop, List.take, Nat.reduceBEq, List.isEmpty, Int.reduceEq, Int.reduceNe, Int.reduceNeg, Int.reduceGT, Int.reduceGE, beq_true, beq_false, UInt8.reduceToNat, eqE, eq_self, foldE, maxE, minE, fillA, over, chop, List.replicate, leavesOk, leafOk, cellsEq, cellEq, E_byref, en32, bs22, bs46, hrow, rowsI_len, rows64_len, hd, h1, show ∀ B fr H, execT E B 32 (Code.loop _) fr H = rlG E B 32 (loopAt Tryd.f32 1) (gcn B (norm [1, 2, 3, 5, 31, 32, 33] fr) H) from fun B fr H => rl_intro rfl mt32_12 mb32_12 zf32_12 hd32_12 fr H]
    · rw [if_neg h1]
      by_cases h2 : d < po
      · rw [if_pos (.inl h2)]
        clear ih hrg
        simp (disch := first | omega | (simp only [vlen, rowsI_len, rows64_len]; omega)) only [vall, List.take_of_length_le, gB, gcW, gcR, posIn, renA, renL, Chunk.ren, Chunk.refs, evOpD, touchD, stepC, isFresh, nFresh, freshOf, mkR, hole, evL, evH, opd, get, putD, ofVal, cellOf, loadE, behind, lenE, idxAddrE, idxE, lookE, lookM, addPtr, intE, strE, unE, convE, AV.int, AV.bool, AV.str, ivs, take, frameOf, firstRegion, refsA, refsL, one, cellsA, floatOk, apartT, List.map, if_true, if_false, E_P, E_glob0, E_glob1, reduceCtorEq, beq_self_eq_true, ↓reduceIte, Nat.reduceEqDiff, cond_true, cond_false, Nat.reduceAdd, Nat.reduceSub, Nat.reduceMul, Nat.reduceLT, Nat.reduceLeDiff, Int.reduceToNat, Int.reduceLT, Int.reduceLE, Option.getD, Int.reduceMul, Int.reduceAdd, List.drop, List.take, Nat.reduceBEq, List.isEmpty, Int.reduceEq, Int.reduceNe, Int.reduceNeg, Int.reduceGT, Int.reduceGE, beq_true, beq_false, UInt8.reduceToNat, eqE, eq_self, foldE, maxE, minE, fillA, over, chop, List.replicate, leavesOk, leafOk, cellsEq, cellEq, E_byref, en32, bs22, bs46, hrow, rowsI_len, rows64_len, hd, hpo, hpu, h1, h2, Nat.mul_one, show ∀ B fr H, execT E B 32 (Code.loop _) fr H = rlG E B 32 (loopAt Tryd.f32 1) (gcn B (norm [1, 2, 3, 5, 31, 32, 33] fr) H) from fun B fr H => rl_intro rfl mt32_12 mb32_12 zf32_12 hd32_12 fr H]
        refine ⟨_, _, _, rfl, ?_⟩
        exact ⟨rfl, rfl, rfl, rfl, rfl⟩
      · by_cases h3 : 16 < d - po + pu
        · rw [if_pos (.inr h3)]
          clear ih hrg
          simp (disch := first | omega | (simp only [vlen, rowsI_len, rows64_len]; omega)) only [vall, List.take_of_length_le, gB, gcW, gcR, posIn, renA, renL, Chunk.ren, Chunk.refs, evOpD, touchD, stepC, isFresh, nFresh, freshOf, mkR, hole, evL, evH, opd, get, putD, ofVal, cellOf, loadE, behind, lenE, idxAddrE, idxE, lookE, lookM, addPtr, intE, strE, unE, convE, AV.int, AV.bool, AV.str, ivs, take, frameOf, firstRegion, refsA, refsL, one, cellsA, floatOk, apartT, List.map, if_true, if_false, E_P, E_glob0, E_glob1, reduceCtorEq, beq_self_eq_true, ↓reduceIte, Nat.reduceEqDiff, cond_true, cond_false, Nat.reduceAdd, Nat.reduceSub, Nat.reduceMul, Nat.reduceLT, Nat.reduceLeDiff, Int.reduceToNat, Int.reduceLT, Int.reduceLE, Option.getD, Int.reduceMul, Int.reduceAdd, List.drop, List.take, Nat.reduceBEq, List.isEmpty, Int.reduceEq, Int.reduceNe, Int.reduceNeg, Int.reduceGT, Int.reduceGE, beq_true, beq_false, UInt8.reduceToNat, eqE, eq_self, foldE, maxE, minE, fillA, over, chop, List.replicate, leavesOk, leafOk, cellsEq, cellEq, E_byref, en32, bs22, bs46, hrow, rowsI_len, rows64_len, hd, hpo, hpu, h1, h2, h3, Nat.mul_one, show ∀ B fr H, execT E B 32 (Code.loop _) fr H = rlG E B 32 (loopAt Tryd.f32 1) (gcn B (norm [1, 2, 3, 5, 31, 32, 33] fr) H) from fun B fr H => rl_intro rfl mt32_12 mb32_12 zf32_12 hd32_12 fr H]
          refine ⟨_, _, _, rfl, ?_⟩
          exact ⟨rfl, rfl, rfl, rfl, rfl⟩
        · rw [if_neg (by omega)]
          rcases hrg (d - po + pu) with ⟨out', g1, g2, g3⟩ | ⟨g1, out', g3⟩
          · rw [g1]
            simp only
            obtain ⟨fr, ex, H', e, hh⟩ := ih out' g2 (dSet_r (by omega) xs out out' g1 hr)
            refine ⟨fr, ex, H', Eq.trans ?_ e, hh⟩
            clear e hh ih hrg
            simp (disch := first | omega | (simp only [vlen, rowsI_len, rows64_len]; omega)) only [vall, List.take_of_length_le, gB, gcW, gcR, posIn, renA, renL, Chunk.ren, Chunk.refs, evOpD, touchD, stepC, isFresh, nFresh, freshOf, mkR, hole, evL, evH, opd, get, putD, ofVal, cellOf, loadE, behind, lenE, idxAddrE, idxE, lookE, lookM, addPtr, intE, strE, unE, convE, AV.int, AV.bool, AV.str, ivs, take, frameOf, firstRegion, refsA, refsL, one, cellsA, floatOk, apartT, List.map, if_true, if_false, E_P, E_glob0, E_glob1, reduceCtorEq, beq_self_eq_true, ↓reduceIte, Nat.reduceEqDiff, cond_true, cond_false, Nat.reduceAdd, Nat.reduceSub, Nat.reduceMul, Nat.reduceLT, Nat.reduceLeDiff, Int.reduceToNat, Int.reduceLT, Int.reduceLE, Option.getD, Int.reduceMul, Int.reduceAdd, List.drop, List.take, Nat.reduceBEq, List.isEmpty, Int.reduceEq, Int.reduceNe, Int.reduceNeg, Int.reduceGT, Int.reduceGE, beq_true, beq_false, UInt8.reduceToNat, eqE, eq_self, foldE, maxE, minE, fillA, over, chop, List.replicate, leavesOk, leafOk, cellsEq, cellEq, E_byref, en32, bs22, bs46, hrow, rowsI_len, rows64_len, hd, hpo, hpu, h1, h2, h3, Nat.mul_one, ik33, hsq, g3, show ∀ B fr H, execT E B 32 (Code.rangeFunc _ _ _ _) fr H = rgO (rdF E 32 (rfAt Tryd.f32 0)) 73 fr H (seqE E H (opd E fr _)) from fun B fr H => rf_intro rfl rfl fr H, show ∀ B fr H, execT E B 32 (Code.loop _) fr H = rlG E B 32 (loopAt Tryd.f32 1) (gcn B (norm [1, 2, 3, 5, 31, 32, 33] fr) H) from fun B fr H => rl_intro rfl mt32_12 mb32_12 zf32_12 hd32_12 fr H]
          · rw [g1]
            simp only
            clear ih hrg
            simp (disch := first | omega | (simp only [vlen, rowsI_len, rows64_len]; omega)) only [vall, List.take_of_length_le, gB, gcW, gcR, posIn, renA, renL, Chunk.ren, Chunk.refs, evOpD, touchD, stepC, isFresh, nFresh, freshOf, mkR, hole, evL, evH, opd, get, putD, ofVal, cellOf, loadE, behind, lenE, idxAddrE, idxE, lookE, lookM, addPtr, intE, strE, unE, convE, AV.int, AV.bool, AV.str, ivs, take, frameOf, firstRegion, refsA, refsL, one, cellsA, floatOk, apartT, List.map, if_true, if_false, E_P, E_glob0, E_glob1, reduceCtorEq, beq_self_eq_true, ↓reduceIte, Nat.reduceEqDiff, cond_true, cond_false, Nat.reduceAdd, Nat.reduceSub, Nat.reduceMul, Nat.reduceLT, Nat.reduceLeDiff, Int.reduceToNat, Int.reduceLT, Int.reduceLE, Option.getD, Int.reduceMul, Int.reduceAdd, List.drop, List.take, Nat.reduceBEq, List.isEmpty, Int.reduceEq, Int.reduceNe, Int.reduceNeg, Int.reduceGT, Int.reduceGE, beq_true, beq_false, UInt8.reduceToNat, eqE, eq_self, foldE, maxE, minE, fillA, over, chop, List.replicate, leavesOk, leafOk, cellsEq, cellEq, E_byref, en32, bs22, bs46, hrow, rowsI_len, rows64_len, hd, hpo, hpu, h1, h2, h3, Nat.mul_one, ik33, hsq, g3, show ∀ B fr H, execT E B 32 (Code.rangeFunc _ _ _ _) fr H = rgO (rdF E 32 (rfAt Tryd.f32 0)) 73 fr H (seqE E H (opd E fr _)) from fun B fr H => rf_intro rfl rfl fr H, show ∀ B fr H, execT E B 32 (Code.loop _) fr H = rlG E B 32 (loopAt Tryd.f32 1) (gcn B (norm [1, 2, 3, 5, 31, 32, 33] fr) H) from fun B fr H => rl_intro rfl mt32_12 mb32_12 zf32_12 hd32_12 fr H]
            refine ⟨_, _, _, rfl, ?_⟩
            exact ⟨rfl, rfl, rfl, rfl, rfl⟩
  · obtain rfl : k = l.length := by omega
    rw [List.drop_length, dRun]
    simp (disch := first | omega | (simp only [vlen, rows64_len, rowsI_len]; omega)) only [vall, List.take_of_length_le, gB, gcW, gcR, posIn, renA, renL, Chunk.ren, Chunk.refs, evOpD, touchD, stepC, isFresh, nFresh, freshOf, mkR, hole, evL, evH, opd, get, putD, ofVal, cellOf, loadE, behind, lenE, idxAddrE, idxE, lookE, lookM, addPtr, intE, strE, unE, convE, AV.int, AV.bool, AV.str, ivs, take, frameOf, firstRegion, refsA, refsL, one, cellsA, floatOk, apartT, List.map, if_true, if_false, E_P, E_glob0, E_glob1, reduceCtorEq, beq_self_eq_true, ↓reduceIte, Nat.reduceEqDiff, cond_true, cond_false, Nat.reduceAdd, Nat.reduceSub, Nat.reduceMul, Nat.reduceLT, Nat.reduceLeDiff, Int.reduceToNat, Int.reduceLT, Int.reduceLE, Option.getD, Int.reduceMul, Int.reduceAdd, List.drop, List.take, Nat.reduceBEq, List.isEmpty, Int.reduceEq, Int.reduceNe, Int.reduceNeg, Int.reduceGT, Int.reduceGE, beq_true, beq_false, UInt8.reduceToNat, eqE, eq_self, foldE, maxE, minE, fillA, over, chop, List.replicate, leavesOk, leafOk, cellsEq, cellEq, E_byref, en32, bs22, bs46, rows64_len, rowsI_len, show ∀ B fr H, execT E B 32 (Code.loop _) fr H = rlG E B 32 (loopAt Tryd.f32 1) (gcn B (norm [1, 2, 3, 5, 31, 32, 33] fr) H) from fun B fr H => rl_intro rfl mt32_12 mb32_12 zf32_12 hd32_12 fr H]
    exact ⟨_, _, _, rfl, rfl, ho, rfl, rfl, rfl, rfl, rfl⟩
termination_by l.length - k
end Go.VI

namespace Go.VI
open Go.Proofs
set_option maxRecDepth 100000
set_option linter.unusedSimpArgs false
set_option linter.unusedVariables false
set_option maxHeartbeats 4000000
theorem rows64_take (l : List Int) (k : Nat) : (rows64 l).take k = rows64 (l.take k) := by simp [rows64, List.map_take]
theorem chkL_ok {n : Int} : ∀ (l : List Ins) (k : Nat), chkL n k l = 0 → ∀ (j : Nat) (h : j < l.length), chk1 n ((k + j : Nat)) l[j] = 0
  | [], k, _, j, h => by simp at h
  | p :: r, k, hc, j, h => by
    simp only [chkL] at hc
    split at hc
    · rename_i h1
      cases j with
      | zero => simpa using h1
      | succ j =>
        have := chkL_ok r (k + 1) hc j (by simpa using h)
        simpa [Nat.add_assoc, Nat.add_comm 1 j] using this
    · rename_i h1
      exact absurd hc h1
theorem check_len {l : List Ins} (h : checkI l = 0) : l.length ≤ 500 := by
  unfold checkI at h
  split at h
  · cases h
  · omega
theorem check_ok {l : List Ins} (h : checkI l = 0) (j : Nat) (hj : j < l.length) : chk1 l.length j l[j] = 0 := by
  unfold checkI at h
  split at h
  · cases h
  · simpa using chkL_ok l 0 h j hj
theorem c32 (l : List Ins) (hl : (l.length : Int) < 9223372036854775808) : ∃ L, callT E 32 [.i (.sl 2 (rowsI l) false)] [] = some (.tup [.i (.sl 1 (rows64 (depthsS l).1) false), .i (.v (.int .i64 (depthsS l).2))], L) := by
  have hC := fun H => ik23 l hl H
  unfold depthsS
  by_cases h0 : checkI l = 0
  rotate_left
  · rw [if_neg h0]
    generalize checkI l = q at *
    simp only
    have hz : rows64 [] = [] := rfl
    rw [hz]
    rw [callT_eq Tryd.func32 rfl fok32 (by simp [Tryd.ntmps32])]
    simp (disch := first | omega | (simp only [vlen]; omega)) only [vall, List.take_of_length_le, gB, gcW, gcR, posIn, renA, renL, Chunk.ren, Chunk.refs, evOpD, touchD, stepC, isFresh, nFresh, freshOf, mkR, hole, evL, evH, opd, get, putD, ofVal, cellOf, loadE, behind, lenE, idxAddrE, idxE, lookE, lookM, addPtr, intE, strE, unE, convE, AV.int, AV.bool, AV.str, ivs, take, frameOf, firstRegion, refsA, refsL, one, cellsA, floatOk, apartT, List.map, if_true, if_false, E_P, E_glob0, E_glob1, reduceCtorEq, beq_self_eq_true, ↓reduceIte, Nat.reduceEqDiff, cond_true, cond_false, Nat.reduceAdd, Nat.reduceSub, Nat.reduceMul, Nat.reduceLT, Nat.reduceLeDiff, Int.reduceToNat, Int.reduceLT, Int.reduceLE, Option.getD, Int.reduceMul, Int.reduceAdd, List.drop, List.take, Nat.reduceBEq, List.isEmpty, Int.reduceEq, Int.reduceNe, Int.reduceNeg, Int.reduceGT, Int.reduceGE, beq_true, beq_false, UInt8.reduceToNat, eqE, eq_self, foldE, maxE, minE, fillA, over, chop, List.replicate, leavesOk, leafOk, cellsEq, cellEq, E_byref, en32, bs22, bs46, hC, h0]
    exact ⟨_, rfl⟩
  · rw [if_pos h0]
    rw [h0] at hC
    have h5 := check_len h0
    have hnn : ((l.length : Int) + 1).toNat = l.length + 1 := by omega
    obtain ⟨fr0, e0, f1, f2, f3, f5⟩ := l32_0 l (l.length + 1) (by omega) 0 (Nat.zero_le _)
    rw [Nat.sub_zero, List.replicate_zero, List.nil_append] at e0
    have e0' : rl E 0 32 (loopAt Tryd.f32 0) [(1, .ptr 0 0 0 0), (2, .ptr 1 0 0 0), (3, .ptr 2 0 0 0), (5, .ptr 3 0 0 0), (21, .i (.v (.int .i64 ((l.length + 1 : Nat))))), (22, .i (.v (.int .i64 (0))))] [.box [.i (.sl 2 (rowsI l) false)], .box [.i (.sl 0 [] true)], .box [.i (.v (.int .i64 0))], .box [.ref 4 0 0 (l.length + 1)], .sl 1 0 ([.v (.int .i64 0)] :: rows64 (List.replicate l.length 0)) false] = _ := e0
    have hs : (List.replicate (l.length + 1) (-1 : Int)).set 0 0 = 0 :: List.replicate l.length (-1) := by rw [List.replicate_succ]; rfl
    have hrow : (rows64 (List.replicate (l.length + 1) (-1)))[0]? = some [.v (.int .i64 (-1))] := by rw [List.replicate_succ]; rfl
    obtain ⟨fr1, ex1, H1, e1, hh⟩ := l32_1 l h5 (l.length + 1) rfl (check_ok h0) 0 (Nat.zero_le _) (0 :: List.replicate l.length (-1)) (by simp) (fun x hx => by
      rcases List.mem_cons.1 hx with rfl | hx
      · omega
      · have := List.eq_of_mem_replicate hx; omega)
    rw [List.drop_zero] at hh
    have e1' : rl E 0 32 (loopAt Tryd.f32 1) [(1, .ptr 0 0 0 0), (2, .ptr 1 0 0 0), (3, .ptr 2 0 0 0), (5, .ptr 3 0 0 0), (31, .i (.sl 2 (rowsI l) false)), (32, .i (.v (.int .i64 l.length))), (33, .i (.v (.int .i64 (0))))] [.box [.i (.sl 2 (rowsI l) false)], .box [.i (.sl 0 [] true)], .box [.i (.v (.int .i64 0))], .box [.ref 4 0 0 ((l.length + 1 : Nat))], .sl 1 0 (rows64 (0 :: List.replicate l.length (-1))) false] = _ := e1
    rw [← hs] at e1'
    clear e0 e1
    cases hd : dRun l.length 0 l (0 :: List.replicate l.length (-1)) with
    | none =>
      rw [hd] at hh
      obtain ⟨rfl, g1, g2, g3, g4⟩ := hh
      simp only
      have hz : rows64 [] = [] := rfl
      rw [hz]
      generalize List.replicate (l.length + 1) (-1 : Int) = o1 at *
      clear hs
      rw [callT_eq Tryd.func32 rfl fok32 (by simp [Tryd.ntmps32])]
      simp (disch := first | omega | (simp only [vlen, rowsI_len, rows64_len]; omega)) only [vall, List.take_of_length_le, gB, gcW, gcR, posIn, renA, renL, Chunk.ren, Chunk.refs, evOpD, touchD, stepC, isFresh, nFresh, freshOf, mkR, hole, evL, evH, opd, get, putD, ofVal, cellOf, loadE, behind, lenE, idxAddrE, idxE, lookE, lookM, addPtr, intE, strE, unE, convE, AV.int, AV.bool, AV.str, ivs, take, frameOf, firstRegion, refsA, refsL, one, cellsA, floatOk, apartT, List.map, if_true, if_false, E_P, E_glob0, E_glob1, reduceCtorEq, beq_self_eq_true, ↓reduceIte, Nat.reduceEqDiff, cond_true, cond_false, Nat.reduceAdd, Nat.reduceSub, Nat.reduceMul, Nat.reduceLT, Nat.reduceLeDiff, Int.reduceToNat, Int.reduceLT, Int.reduceLE, Option.getD, Int.reduceMul, Int.reduceAdd, List.drop, List.take, Nat.reduceBEq, List.isEmpty, Int.reduceEq, Int.reduceNe, Int.reduceNeg, Int.reduceGT, Int.reduceGE, beq_true, beq_false, UInt8.reduceToNat, eqE, eq_self, foldE, maxE, minE, fillA, over, chop, List.replicate, leavesOk, leafOk, cellsEq, cellEq, E_byref, en32, bs22, bs46, hC, rowsI_len, rows64_len, rows64_rep, rows64_set, hnn, hrow, e0', f1, f2, f3, f5, e1', g1, g2, g3, g4, show ∀ B fr H, execT E B 32 (Code.loop _) fr H = rlG E B 32 (loopAt Tryd.f32 0) (gcn B (norm [1, 2, 3, 5, 21, 22] fr) H) from fun B fr H => rl_intro rfl mt32_6 mb32_6 zf32_6 hd32_6 fr H, show ∀ B fr H, execT E B 32 (Code.loop _) fr H = rlG E B 32 (loopAt Tryd.f32 1) (gcn B (norm [1, 2, 3, 5, 31, 32, 33] fr) H) from fun B fr H => rl_intro rfl mt32_12 mb32_12 zf32_12 hd32_12 fr H]
      exact ⟨_, rfl⟩
    | some out =>
      rw [hd] at hh
      obtain ⟨rfl, ho, rfl, g1, g2, g3, g5⟩ := hh
      simp only
      generalize List.replicate (l.length + 1) (-1 : Int) = o1 at *
      clear hs
      rw [callT_eq Tryd.func32 rfl fok32 (by simp [Tryd.ntmps32])]
      simp (disch := first | omega | (simp only [vlen, rowsI_len, rows64_len]; omega)) only [vall, List.take_of_length_le, gB, gcW, gcR, posIn, renA, renL, Chunk.ren, Chunk.refs, evOpD, touchD, stepC, isFresh, nFresh, freshOf, mkR, hole, evL, evH, opd, get, putD, ofVal, cellOf, loadE, behind, lenE, idxAddrE, idxE, lookE, lookM, addPtr, intE, strE, unE, convE, AV.int, AV.bool, AV.str, ivs, take, frameOf, firstRegion, refsA, refsL, one, cellsA, floatOk, apartT, List.map, if_true, if_false, E_P, E_glob0, E_glob1, reduceCtorEq, beq_self_eq_true, ↓reduceIte, Nat.reduceEqDiff, cond_true, cond_false, Nat.reduceAdd, Nat.reduceSub, Nat.reduceMul, Nat.reduceLT, Nat.reduceLeDiff, Int.reduceToNat, Int.reduceLT, Int.reduceLE, Option.getD, Int.reduceMul, Int.reduceAdd, List.drop, List.take, Nat.reduceBEq, List.isEmpty, Int.reduceEq, Int.reduceNe, Int.reduceNeg, Int.reduceGT, Int.reduceGE, beq_true, beq_false, UInt8.reduceToNat, eqE, eq_self, foldE, maxE, minE, fillA, over, chop, List.replicate, leavesOk, leafOk, cellsEq, cellEq, E_byref, en32, bs22, bs46, hC, rowsI_len, rows64_len, rows64_rep, rows64_set, rows64_take, hnn, hrow, e0', f1, f2, f3, f5, e1', g1, g2, g3, g5, show ∀ B fr H, execT E B 32 (Code.loop _) fr H = rlG E B 32 (loopAt Tryd.f32 0) (gcn B (norm [1, 2, 3, 5, 21, 22] fr) H) from fun B fr H => rl_intro rfl mt32_6 mb32_6 zf32_6 hd32_6 fr H, show ∀ B fr H, execT E B 32 (Code.loop _) fr H = rlG E B 32 (loopAt Tryd.f32 1) (gcn B (norm [1, 2, 3, 5, 31, 32, 33] fr) H) from fun B fr H => rl_intro rfl mt32_12 mb32_12 zf32_12 hd32_12 fr H]
      exact ⟨_, rfl⟩
theorem ik32 (l : List Ins) (hl : (l.length : Int) < 9223372036854775808) (H : Hp) : isoK E (callT E) 32 [.i (.sl 2 (rowsI l) false)] H = some (.tup [.i (.sl 1 (rows64 (depthsS l).1) false), .i (.v (.int .i64 (depthsS l).2))], H) := isoK_val rfl rfl rfl (c32 l hl)
theorem c19 (l : List Ins) (hl : (l.length : Int) < 9223372036854775808) : ∃ L, callT E 19 [.i (.sl 2 (rowsI l) false)] [] = some (.i (.v (.int .i64 (depthsS l).2)), L) := by
  have h := fun H => ik32 l hl H
  generalize depthsS l = q at *
  rw [callT_eq Tryd.func19 rfl fok19 (by simp [Tryd.ntmps19])]
  simp (disch := first | omega | (simp only [vlen]; omega)) only [vall, List.take_of_length_le, gB, gcW, gcR, posIn, renA, renL, Chunk.ren, Chunk.refs, evOpD, touchD, stepC, isFresh, nFresh, freshOf, mkR, hole, evL, evH, opd, get, putD, ofVal, cellOf, loadE, behind, lenE, idxAddrE, idxE, lookE, lookM, addPtr, intE, strE, unE, convE, AV.int, AV.bool, AV.str, ivs, take, frameOf, firstRegion, refsA, refsL, one, cellsA, floatOk, apartT, List.map, if_true, if_false, E_P, E_glob0, E_glob1, reduceCtorEq, beq_self_eq_true, ↓reduceIte, Nat.reduceEqDiff, cond_true, cond_false, Nat.reduceAdd, Nat.reduceSub, Nat.reduceMul, Nat.reduceLT, Nat.reduceLeDiff, Int.reduceToNat, Int.reduceLT, Int.reduceLE, Option.getD, Int.reduceMul, Int.reduceAdd, List.drop, List.take, Nat.reduceBEq, List.isEmpty, Int.reduceEq, Int.reduceNe, Int.reduceNeg, Int.reduceGT, Int.reduceGE, beq_true, beq_false, UInt8.reduceToNat, eqE, eq_self, foldE, maxE, minE, fillA, over, chop, List.replicate, leavesOk, leafOk, cellsEq, cellEq, E_byref, en19, bs22, h]
  exact ⟨_, rfl⟩
theorem ik19 (l : List Ins) (hl : (l.length : Int) < 9223372036854775808) (H : Hp) : isoK E (callT E) 19 [.i (.sl 2 (rowsI l) false)] H = some (.i (.v (.int .i64 (depthsS l).2)), H) := isoK_val rfl rfl rfl (c19 l hl)
end Go.VI

namespace Go.VI
open Go.Proofs
set_option maxRecDepth 100000
set_option linter.unusedSimpArgs false
set_option linter.unusedVariables false
set_option maxHeartbeats 4000000
theorem tabs_all : ((List.range 21).all fun k => (match call E 60 27 [.i (.v (.int .i64 k))] [] with | some (.i (.v (.int .i64 x)), _) => x == popS k | _ => false) &&
    (match call E 60 28 [.i (.v (.int .i64 k))] [] with | some (.i (.v (.int .i64 x)), _) => x == pushS k | _ => false)) = true := by kernel_rfl
theorem c27 (op : Int) (h0 : 0 ≤ op) (h1 : op ≤ 20) : ∃ L, callT E 27 [.i (.v (.int .i64 op))] [] = some (.i (.v (.int .i64 (popS op))), L) := by
  obtain ⟨n, rfl⟩ := Int.eq_ofNat_of_zero_le h0
  have := (List.all_eq_true.1 tabs_all) n (by simp; omega)
  rw [Bool.and_eq_true] at this
  have := this.1
  split at this
  · rename_i x L hL
    rw [beq_iff_eq] at this
    subst this
    exact ⟨L, callT_of hL⟩
  · cases this
theorem c28 (op : Int) (h0 : 0 ≤ op) (h1 : op ≤ 20) : ∃ L, callT E 28 [.i (.v (.int .i64 op))] [] = some (.i (.v (.int .i64 (pushS op))), L) := by
  obtain ⟨n, rfl⟩ := Int.eq_ofNat_of_zero_le h0
  have := (List.all_eq_true.1 tabs_all) n (by simp; omega)
  rw [Bool.and_eq_true] at this
  have := this.2
  split at this
  · rename_i x L hL
    rw [beq_iff_eq] at this
    subst this
    exact ⟨L, callT_of hL⟩
  · cases this
theorem ik27 (op : Int) (h0 : 0 ≤ op) (h1 : op ≤ 20) (H : Hp) : isoK E (callT E) 27 [.i (.v (.int .i64 op))] H = some (.i (.v (.int .i64 (popS op))), H) := isoK_val rfl rfl rfl (c27 op h0 h1)
theorem ik28 (op : Int) (h0 : 0 ≤ op) (h1 : op ≤ 20) (H : Hp) : isoK E (callT E) 28 [.i (.v (.int .i64 op))] H = some (.i (.v (.int .i64 (pushS op))), H) := isoK_val rfl rfl rfl (c28 op h0 h1)
theorem c48 (l : List Ins) (k : Nat) (hk : k < l.length) (hl : l.length < 100000) : ∃ L, callT E 48 [.i (.sl 2 (rowsI l) false), .i (.v (.int .i64 k))] [] = some (.i (.sl 1 (rows64 (sucL l[k].1 l[k].2 k)) false), L) := by
  have hrow := rowsI_at hk
  obtain ⟨op, arg, hp⟩ : ∃ op arg, l[k] = (op, arg) := ⟨_, _, rfl⟩
  rw [hp] at hrow ⊢
  simp only at hrow ⊢
  by_cases h0 : op = 0
  · subst h0
    rw [show rows64 (sucL 0 arg k) = [] by simp [sucL, rows64]]
    rw [callT_eq Tryd.func48 rfl fok48 (by simp [Tryd.ntmps48])]; simp (disch := first | omega | (simp only [vlen, rowsI_len]; omega)) only [vall, List.take_of_length_le, gB, gcW, gcR, posIn, renA, renL, Chunk.ren, Chunk.refs, evOpD, touchD, stepC, isFresh, nFresh, freshOf, mkR, hole, evL, evH, opd, get, putD, ofVal, cellOf, loadE, behind, lenE, idxAddrE, idxE, lookE, lookM, addPtr, intE, strE, unE, convE, AV.int, AV.bool, AV.str, ivs, take, frameOf, firstRegion, refsA, refsL, one, cellsA, floatOk, apartT, List.map, if_true, if_false, E_P, E_glob0, E_glob1, reduceCtorEq, beq_self_eq_true, ↓reduceIte, Nat.reduceEqDiff, cond_true, cond_false, Nat.reduceAdd, Nat.reduceSub, Nat.reduceMul, Nat.reduceLT, Nat.reduceLeDiff, Int.reduceToNat, Int.reduceLT, Int.reduceLE, Option.getD, Int.reduceMul, Int.reduceAdd, List.drop, List.take, Nat.reduceBEq, List.isEmpty, Int.reduceEq, Int.reduceNe, Int.reduceNeg, Int.reduceGT, Int.reduceGE, beq_true, beq_false, UInt8.reduceToNat, eqE, eq_self, foldE, maxE, minE, fillA, over, chop, List.replicate, leavesOk, leafOk, cellsEq, cellEq, E_byref, en48, bs22, bs46, hrow, rowsI_len, List.length_nil]; exact ⟨_, rfl⟩
  · by_cases h17 : op = 17
    · subst h17
      rw [show rows64 (sucL 17 arg k) = [[.v (.int .i64 arg)]] by simp [sucL, rows64]]
      rw [callT_eq Tryd.func48 rfl fok48 (by simp [Tryd.ntmps48])]; simp (disch := first | omega | (simp only [vlen, rowsI_len]; omega)) only [vall, List.take_of_length_le, gB, gcW, gcR, posIn, renA, renL, Chunk.ren, Chunk.refs, evOpD, touchD, stepC, isFresh, nFresh, freshOf, mkR, hole, evL, evH, opd, get, putD, ofVal, cellOf, loadE, behind, lenE, idxAddrE, idxE, lookE, lookM, addPtr, intE, strE, unE, convE, AV.int, AV.bool, AV.str, ivs, take, frameOf, firstRegion, refsA, refsL, one, cellsA, floatOk, apartT, List.map, if_true, if_false, E_P, E_glob0, E_glob1, reduceCtorEq, beq_self_eq_true, ↓reduceIte, Nat.reduceEqDiff, cond_true, cond_false, Nat.reduceAdd, Nat.reduceSub, Nat.reduceMul, Nat.reduceLT, Nat.reduceLeDiff, Int.reduceToNat, Int.reduceLT, Int.reduceLE, Option.getD, Int.reduceMul, Int.reduceAdd, List.drop, List.take, Nat.reduceBEq, List.isEmpty, Int.reduceEq, Int.reduceNe, Int.reduceNeg, Int.reduceGT, Int.reduceGE, beq_true, beq_false, UInt8.reduceToNat, eqE, eq_self, foldE, maxE, minE, fillA, over, chop, List.replicate, leavesOk, leafOk, cellsEq, cellEq, E_byref, en48, bs22, bs46, hrow, rowsI_len, List.length_nil]; exact ⟨_, rfl⟩
    · by_cases h18 : op = 18
      · subst h18
        rw [show rows64 (sucL 18 arg k) = [[.v (.int .i64 (k + 1))], [.v (.int .i64 arg)]] by simp [sucL, rows64]]
        rw [callT_eq Tryd.func48 rfl fok48 (by simp [Tryd.ntmps48])]; simp (disch := first | omega | (simp only [vlen, rowsI_len]; omega)) only [vall, List.take_of_length_le, gB, gcW, gcR, posIn, renA, renL, Chunk.ren, Chunk.refs, evOpD, touchD, stepC, isFresh, nFresh, freshOf, mkR, hole, evL, evH, opd, get, putD, ofVal, cellOf, loadE, behind, lenE, idxAddrE, idxE, lookE, lookM, addPtr, intE, strE, unE, convE, AV.int, AV.bool, AV.str, ivs, take, frameOf, firstRegion, refsA, refsL, one, cellsA, floatOk, apartT, List.map, if_true, if_false, E_P, E_glob0, E_glob1, reduceCtorEq, beq_self_eq_true, ↓reduceIte, Nat.reduceEqDiff, cond_true, cond_false, Nat.reduceAdd, Nat.reduceSub, Nat.reduceMul, Nat.reduceLT, Nat.reduceLeDiff, Int.reduceToNat, Int.reduceLT, Int.reduceLE, Option.getD, Int.reduceMul, Int.reduceAdd, List.drop, List.take, Nat.reduceBEq, List.isEmpty, Int.reduceEq, Int.reduceNe, Int.reduceNeg, Int.reduceGT, Int.reduceGE, beq_true, beq_false, UInt8.reduceToNat, eqE, eq_self, foldE, maxE, minE, fillA, over, chop, List.replicate, leavesOk, leafOk, cellsEq, cellEq, E_byref, en48, bs22, bs46, hrow, rowsI_len, List.length_nil]; exact ⟨_, rfl⟩
      · rw [show rows64 (sucL op arg k) = [[.v (.int .i64 (k + 1))]] by simp [sucL, rows64, h0, h17, h18]]
        rw [callT_eq Tryd.func48 rfl fok48 (by simp [Tryd.ntmps48])]; simp (disch := first | omega | (simp only [vlen, rowsI_len]; omega)) only [vall, List.take_of_length_le, gB, gcW, gcR, posIn, renA, renL, Chunk.ren, Chunk.refs, evOpD, touchD, stepC, isFresh, nFresh, freshOf, mkR, hole, evL, evH, opd, get, putD, ofVal, cellOf, loadE, behind, lenE, idxAddrE, idxE, lookE, lookM, addPtr, intE, strE, unE, convE, AV.int, AV.bool, AV.str, ivs, take, frameOf, firstRegion, refsA, refsL, one, cellsA, floatOk, apartT, List.map, if_true, if_false, E_P, E_glob0, E_glob1, reduceCtorEq, beq_self_eq_true, ↓reduceIte, Nat.reduceEqDiff, cond_true, cond_false, Nat.reduceAdd, Nat.reduceSub, Nat.reduceMul, Nat.reduceLT, Nat.reduceLeDiff, Int.reduceToNat, Int.reduceLT, Int.reduceLE, Option.getD, Int.reduceMul, Int.reduceAdd, List.drop, List.take, Nat.reduceBEq, List.isEmpty, Int.reduceEq, Int.reduceNe, Int.reduceNeg, Int.reduceGT, Int.reduceGE, beq_true, beq_false, UInt8.reduceToNat, eqE, eq_self, foldE, maxE, minE, fillA, over, chop, List.replicate, leavesOk, leafOk, cellsEq, cellEq, E_byref, en48, bs22, bs46, hrow, rowsI_len, h0, h17, h18]; exact ⟨_, rfl⟩
theorem ik48 (l : List Ins) (k : Nat) (hk : k < l.length) (hl : l.length < 100000) (H : Hp) : isoK E (callT E) 48 [.i (.sl 2 (rowsI l) false), .i (.v (.int .i64 k))] H = some (.i (.sl 1 (rows64 (sucL l[k].1 l[k].2 k)) false), H) := isoK_val rfl rfl rfl (c48 l k hk hl)
end Go.VI

namespace Go.VI
open Go.Proofs
set_option maxRecDepth 100000
set_option linter.unusedSimpArgs false
set_option linter.unusedVariables false
set_option maxHeartbeats 4000000
theorem l31_0 (l : List Ins) (hl : l.length ≤ 500) (k : Nat) (hk : k ≤ l.length + 1) :
    ∃ fr, rl E 0 31 (loopAt Tryd.f31 0) [(0, .i (.sl 2 (rowsI l) false)), (5, .ref 0 0 0 k), (6, .i (.v (.int .i64 k)))] [.sl 1 0 (rows64 (List.replicate k (-1))) false] = some (.exit 0, fr, [.sl 1 0 (rows64 (List.replicate (l.length + 1) (-1))) false]) ∧ get 0 fr = .i (.sl 2 (rowsI l) false) ∧ get 5 fr = .ref 0 0 0 (l.length + 1) := by
  rw [rl_step (fn := Tryd.f31) (k := 0) rfl]
  by_cases hlt : k ≤ l.length
  · obtain ⟨fr, e, hh⟩ := l31_0 l hl (k + 1) (by omega)
    refine ⟨fr, Eq.trans ?_ e, hh⟩
    clear e hh
    have hs : List.replicate (k + 1) (-1 : Int) = List.replicate k (-1) ++ [-1] := by rw [List.replicate_succ']
    rw [hs]
    have hlen : (List.replicate k (-1 : Int)).length = k := List.length_replicate
    clear hs
    generalize List.replicate k (-1 : Int) = out at *
    subst hlen
    have ht : List.take out.length (rows64 out) = rows64 out := by rw [rows64_take, List.take_length]
    simp (disch := first | omega | (simp only [vlen, rows64_len, rowsI_len]; omega)) only [vall, List.take_of_length_le, gB, gcW, gcR, posIn, renA, renL, Chunk.ren, Chunk.refs, evOpD, touchD, stepC, isFresh, nFresh, freshOf, mkR, hole, evL, evH, opd, get, putD, ofVal, cellOf, loadE, behind, lenE, idxAddrE, idxE, lookE, lookM, addPtr, intE, strE, unE, convE, AV.int, AV.bool, AV.str, ivs, take, frameOf, firstRegion, refsA, refsL, one, cellsA, floatOk, apartT, List.map, if_true, if_false, E_P, E_glob0, E_glob1, reduceCtorEq, beq_self_eq_true, ↓reduceIte, Nat.reduceEqDiff, cond_true, cond_false, Nat.reduceAdd, Nat.reduceSub, Nat.reduceMul, Nat.reduceLT, Nat.reduceLeDiff, Int.reduceToNat, Int.reduceLT, Int.reduceLE, Option.getD, Int.reduceMul, Int.reduceAdd, List.drop, List.take, Nat.reduceBEq, List.isEmpty, Int.reduceEq, Int.reduceNe, Int.reduceNeg, Int.reduceGT, Int.reduceGE, beq_true, beq_false, UInt8.reduceToNat, eqE, eq_self, foldE, maxE, minE, fillA, over, chop, List.replicate, leavesOk, leafOk, cellsEq, cellEq, E_byref, en31, bs22, bs46, rows64_len, rowsI_len, rows64_snoc, ht, show ∀ B fr H, execT E B 31 (Code.loop _) fr H = rlM E B 31 (loopAt Tryd.f31 0) [0, 5, 6] [] (matF [(5, 1)] fr H).1 (matB [] (matF [(5, 1)] fr H).1 (matF [(5, 1)] fr H).2) from fun B fr H => rl_introM rfl mt31_6 mb31_6 zf31_6 hd31_6 fr H]
  · obtain rfl : k = l.length + 1 := by omega
    generalize List.replicate (l.length + 1) (-1 : Int) = out at *
    simp (disch := first | omega | (simp only [vlen, rows64_len, rowsI_len]; omega)) only [vall, List.take_of_length_le, gB, gcW, gcR, posIn, renA, renL, Chunk.ren, Chunk.refs, evOpD, touchD, stepC, isFresh, nFresh, freshOf, mkR, hole, evL, evH, opd, get, putD, ofVal, cellOf, loadE, behind, lenE, idxAddrE, idxE, lookE, lookM, addPtr, intE, strE, unE, convE, AV.int, AV.bool, AV.str, ivs, take, frameOf, firstRegion, refsA, refsL, one, cellsA, floatOk, apartT, List.map, if_true, if_false, E_P, E_glob0, E_glob1, reduceCtorEq, beq_self_eq_true, ↓reduceIte, Nat.reduceEqDiff, cond_true, cond_false, Nat.reduceAdd, Nat.reduceSub, Nat.reduceMul, Nat.reduceLT, Nat.reduceLeDiff, Int.reduceToNat, Int.reduceLT, Int.reduceLE, Option.getD, Int.reduceMul, Int.reduceAdd, List.drop, List.take, Nat.reduceBEq, List.isEmpty, Int.reduceEq, Int.reduceNe, Int.reduceNeg, Int.reduceGT, Int.reduceGE, beq_true, beq_false, UInt8.reduceToNat, eqE, eq_self, foldE, maxE, minE, fillA, over, chop, List.replicate, leavesOk, leafOk, cellsEq, cellEq, E_byref, en31, bs22, bs46, rows64_len, rowsI_len, show ∀ B fr H, execT E B 31 (Code.loop _) fr H = rlM E B 31 (loopAt Tryd.f31 0) [0, 5, 6] [] (matF [(5, 1)] fr H).1 (matB [] (matF [(5, 1)] fr H).1 (matF [(5, 1)] fr H).2) from fun B fr H => rl_introM rfl mt31_6 mb31_6 zf31_6 hd31_6 fr H]
    exact ⟨_, rfl, rfl, rfl⟩
termination_by l.length + 1 - k
def rP (l : List Ins) (n : Nat) (id : Nat) (fr : Fr) (ex : Ex) (H' : Hp) : Option (List Int) → Prop
  | some out' => ex = .exit id ∧ out'.length = n ∧ H' = [.sl 1 0 (rows64 out') false] ∧ get 0 fr = .i (.sl 2 (rowsI l) false) ∧ get 5 fr = .ref 0 0 0 n
  | none => ex = .ret ∧ get 2 fr = .i (.sl 0 [] true) ∧ get 3 fr = .i (.v (.int .i64 13))
theorem l31_2 (l : List Ins) (hl : l.length ≤ 500) (n : Nat) (hn : n = l.length + 1) (k : Int) (af : Int) (xs : List Int) (hxl : xs.length ≤ 2) (hx : ∀ x ∈ xs, 0 ≤ x ∧ x ≤ l.length) (j : Nat) (hj : j ≤ xs.length) (out : List Int) (ho : out.length = n) :
    ∃ fr ex H', rl E 0 31 (loopAt Tryd.f31 2) [(0, .i (.sl 2 (rowsI l) false)), (5, .ref 0 0 0 n), (7, .i (.v (.int .i64 k))), (8, .i (.v (.int .i64 af))), (9, .i (.sl 1 (rows64 xs) false)), (10, .i (.v (.int .i64 j)))] [.sl 1 0 (rows64 out) false] = some (ex, fr, H') ∧ rP l n 4 fr ex H' (dSet l.length af (xs.drop j) out) ∧ (ex = .exit 4 → get 7 fr = .i (.v (.int .i64 k))) := by
  rw [rl_step (fn := Tryd.f31) (k := 2) rfl]
  by_cases hlt : j < xs.length
  · have hrx := rows64_at hlt
    have hxx := hx xs[j] (List.getElem_mem _)
    rw [List.drop_eq_getElem_cons hlt, dSet]
    have ih := fun out ho => l31_2 l hl n hn k af xs hxl hx (j + 1) hlt out ho
    generalize xs[j] = x at *
    have hrow := rows64_get (l := out) (k := x.toNat) (by omega)
    have hcl : x < l.length → (x.toNat : Int) < n := fun h => by omega
    generalize hy : out.getD x.toNat 0 = y at *
    by_cases h1 : x < l.length
    · by_cases h2 : 0 ≤ y
      · by_cases h3 : y = af
        · rw [if_neg (fun h => h.2.2 h3)]
          subst h3
          obtain ⟨fr, ex, H', e, hh⟩ := ih (out.set x.toNat y) (by simpa using ho)
          refine ⟨fr, ex, H', Eq.trans ?_ e, hh⟩
          clear e hh ih
          simp (disch := first | omega | (simp only [vlen, rows64_len, rowsI_len]; omega)) only [vall, List.take_of_length_le, gB, gcW, gcR, posIn, renA, renL, Chunk.ren, Chunk.refs, evOpD, touchD, stepC, isFresh, nFresh, freshOf, mkR, hole, evL, evH, opd, get, putD, ofVal, cellOf, loadE, behind, lenE, idxAddrE, idxE, lookE, lookM, addPtr, intE, strE, unE, convE, AV.int, AV.bool, AV.str, ivs, take, frameOf, firstRegion, refsA, refsL, one, cellsA, floatOk, apartT, List.map, if_true, if_false, E_P, E_glob0, E_glob1, reduceCtorEq, beq_self_eq_true, ↓reduceIte, Nat.reduceEqDiff, cond_true, cond_false, Nat.reduceAdd, Nat.reduceSub, Nat.reduceMul, Nat.reduceLT, Nat.reduceLeDiff, Int.reduceToNat, Int.reduceLT, Int.reduceLE, Option.getD, Int.reduceMul, Int.reduceAdd, List.drop, List.take, Nat.reduceBEq, List.isEmpty, Int.reduceEq, Int.reduceNe, Int.reduceNeg, Int.reduceGT, Int.reduceGE, beq_true, beq_false, UInt8.reduceToNat, eqE, eq_self, foldE, maxE, minE, fillA, over, chop, List.replicate, leavesOk, leafOk, cellsEq, cellEq, E_byref, en31, bs22, bs46, rows64_len, rowsI_len, hrx, hrow, h1, h2, rows64_set, show ∀ B fr H, execT E B 31 (Code.loop _) fr H = rlM E B 31 (loopAt Tryd.f31 2) [0, 5, 7, 8, 9, 10] [] (matF [(5, 1)] fr H).1 (matB [] (matF [(5, 1)] fr H).1 (matF [(5, 1)] fr H).2) from fun B fr H => rl_introM rfl mt31_19 mb31_19 zf31_19 hd31_19 fr H]
        · rw [if_pos ⟨h1, h2, h3⟩]
          clear ih
          simp (disch := first | omega | (simp only [vlen, rows64_len, rowsI_len]; omega)) only [vall, List.take_of_length_le, gB, gcW, gcR, posIn, renA, renL, Chunk.ren, Chunk.refs, evOpD, touchD, stepC, isFresh, nFresh, freshOf, mkR, hole, evL, evH, opd, get, putD, ofVal, cellOf, loadE, behind, lenE, idxAddrE, idxE, lookE, lookM, addPtr, intE, strE, unE, convE, AV.int, AV.bool, AV.str, ivs, take, frameOf, firstRegion, refsA, refsL, one, cellsA, floatOk, apartT, List.map, if_true, if_false, E_P, E_glob0, E_glob1, reduceCtorEq, beq_self_eq_true, ↓reduceIte, Nat.reduceEqDiff, cond_true, cond_false, Nat.reduceAdd, Nat.reduceSub, Nat.reduceMul, Nat.reduceLT, Nat.reduceLeDiff, Int.reduceToNat, Int.reduceLT, Int.reduceLE, Option.getD, Int.reduceMul, Int.reduceAdd, List.drop, List.take, Nat.reduceBEq, List.isEmpty, Int.reduceEq, Int.reduceNe, Int.reduceNeg, Int.reduceGT, Int.reduceGE, beq_true, beq_false, UInt8.reduceToNat, eqE, eq_self, foldE, maxE, minE, fillA, over, chop, List.replicate, leavesOk, leafOk, cellsEq, cellEq, E_byref, en31, bs22, bs46, rows64_len, rowsI_len, hrx, hrow, h1, h2, h3, rows64_set, show ∀ B fr H, execT E B 31 (Code.loop _) fr H = rlM E B 31 (loopAt Tryd.f31 2) [0, 5, 7, 8, 9, 10] [] (matF [(5, 1)] fr H).1 (matB [] (matF [(5, 1)] fr H).1 (matF [(5, 1)] fr H).2) from fun B fr H => rl_introM rfl mt31_19 mb31_19 zf31_19 hd31_19 fr H]
          refine ⟨_, _, _, rfl, ?_⟩
          exact ⟨⟨rfl, rfl, rfl⟩, fun h => by cases h⟩
      · rw [if_neg (fun h => h2 h.2.1)]
        obtain ⟨fr, ex, H', e, hh⟩ := ih (out.set x.toNat af) (by simpa using ho)
        refine ⟨fr, ex, H', Eq.trans ?_ e, hh⟩
        clear e hh ih
        simp (disch := first | omega | (simp only [vlen, rows64_len, rowsI_len]; omega)) only [vall, List.take_of_length_le, gB, gcW, gcR, posIn, renA, renL, Chunk.ren, Chunk.refs, evOpD, touchD, stepC, isFresh, nFresh, freshOf, mkR, hole, evL, evH, opd, get, putD, ofVal, cellOf, loadE, behind, lenE, idxAddrE, idxE, lookE, lookM, addPtr, intE, strE, unE, convE, AV.int, AV.bool, AV.str, ivs, take, frameOf, firstRegion, refsA, refsL, one, cellsA, floatOk, apartT, List.map, if_true, if_false, E_P, E_glob0, E_glob1, reduceCtorEq, beq_self_eq_true, ↓reduceIte, Nat.reduceEqDiff, cond_true, cond_false, Nat.reduceAdd, Nat.reduceSub, Nat.reduceMul, Nat.reduceLT, Nat.reduceLeDiff, Int.reduceToNat, Int.reduceLT, Int.reduceLE, Option.getD, Int.reduceMul, Int.reduceAdd, List.drop, List.take, Nat.reduceBEq, List.isEmpty, Int.reduceEq, Int.reduceNe, Int.reduceNeg, Int.reduceGT, Int.reduceGE, beq_true, beq_false, UInt8.reduceToNat, eqE, eq_self, foldE, maxE, minE, fillA, over, chop, List.replicate, leavesOk, leafOk, cellsEq, cellEq, E_byref, en31, bs22, bs46, rows64_len, rowsI_len, hrx, hrow, h1, h2, rows64_set, show ∀ B fr H, execT E B 31 (Code.loop _) fr H = rlM E B 31 (loopAt Tryd.f31 2) [0, 5, 7, 8, 9, 10] [] (matF [(5, 1)] fr H).1 (matB [] (matF [(5, 1)] fr H).1 (matF [(5, 1)] fr H).2) from fun B fr H => rl_introM rfl mt31_19 mb31_19 zf31_19 hd31_19 fr H]
    · rw [if_neg (fun h => h1 h.1)]
      obtain ⟨fr, ex, H', e, hh⟩ := ih (out.set x.toNat af) (by simpa using ho)
      refine ⟨fr, ex, H', Eq.trans ?_ e, hh⟩
      clear e hh ih
      simp (disch := first | omega | (simp only [vlen, rows64_len, rowsI_len]; omega)) only [vall, List.take_of_length_le, gB, gcW, gcR, posIn, renA, renL, Chunk.ren, Chunk.refs, evOpD, touchD, stepC, isFresh, nFresh, freshOf, mkR, hole, evL, evH, opd, get, putD, ofVal, cellOf, loadE, behind, lenE, idxAddrE, idxE, lookE, lookM, addPtr, intE, strE, unE, convE, AV.int, AV.bool, AV.str, ivs, take, frameOf, firstRegion, refsA, refsL, one, cellsA, floatOk, apartT, List.map, if_true, if_false, E_P, E_glob0, E_glob1, reduceCtorEq, beq_self_eq_true, ↓reduceIte, Nat.reduceEqDiff, cond_true, cond_false, Nat.reduceAdd, Nat.reduceSub, Nat.reduceMul, Nat.reduceLT, Nat.reduceLeDiff, Int.reduceToNat, Int.reduceLT, Int.reduceLE, Option.getD, Int.reduceMul, Int.reduceAdd, List.drop, List.take, Nat.reduceBEq, List.isEmpty, Int.reduceEq, Int.reduceNe, Int.reduceNeg, Int.reduceGT, Int.reduceGE, beq_true, beq_false, UInt8.reduceToNat, eqE, eq_self, foldE, maxE, minE, fillA, over, chop, List.replicate, leavesOk, leafOk, cellsEq, cellEq, E_byref, en31, bs22, bs46, rows64_len, rowsI_len, hrx, hrow, h1, rows64_set, show ∀ B fr H, execT E B 31 (Code.loop _) fr H = rlM E B 31 (loopAt Tryd.f31 2) [0, 5, 7, 8, 9, 10] [] (matF [(5, 1)] fr H).1 (matB [] (matF [(5, 1)] fr H).1 (matF [(5, 1)] fr H).2) from fun B fr H => rl_introM rfl mt31_19 mb31_19 zf31_19 hd31_19 fr H]
  · obtain rfl : j = xs.length := by omega
    rw [List.drop_length, dSet]
    simp (disch := first | omega | (simp only [vlen, rows64_len, rowsI_len]; omega)) only [vall, List.take_of_length_le, gB, gcW, gcR, posIn, renA, renL, Chunk.ren, Chunk.refs, evOpD, touchD, stepC, isFresh, nFresh, freshOf, mkR, hole, evL, evH, opd, get, putD, ofVal, cellOf, loadE, behind, lenE, idxAddrE, idxE, lookE, lookM, addPtr, intE, strE, unE, convE, AV.int, AV.bool, AV.str, ivs, take, frameOf, firstRegion, refsA, refsL, one, cellsA, floatOk, apartT, List.map, if_true, if_false, E_P, E_glob0, E_glob1, reduceCtorEq, beq_self_eq_true, ↓reduceIte, Nat.reduceEqDiff, cond_true, cond_false, Nat.reduceAdd, Nat.reduceSub, Nat.reduceMul, Nat.reduceLT, Nat.reduceLeDiff, Int.reduceToNat, Int.reduceLT, Int.reduceLE, Option.getD, Int.reduceMul, Int.reduceAdd, List.drop, List.take, Nat.reduceBEq, List.isEmpty, Int.reduceEq, Int.reduceNe, Int.reduceNeg, Int.reduceGT, Int.reduceGE, beq_true, beq_false, UInt8.reduceToNat, eqE, eq_self, foldE, maxE, minE, fillA, over, chop, List.replicate, leavesOk, leafOk, cellsEq, cellEq, E_byref, en31, bs22, bs46, rows64_len, rowsI_len, show ∀ B fr H, execT E B 31 (Code.loop _) fr H = rlM E B 31 (loopAt Tryd.f31 2) [0, 5, 7, 8, 9, 10] [] (matF [(5, 1)] fr H).1 (matB [] (matF [(5, 1)] fr H).1 (matF [(5, 1)] fr H).2) from fun B fr H => rl_introM rfl mt31_19 mb31_19 zf31_19 hd31_19 fr H]
    refine ⟨_, _, _, rfl, ?_⟩
    exact ⟨⟨rfl, ho, rfl, rfl, rfl⟩, fun _ => rfl⟩
termination_by xs.length - j
end Go.VI

