import Derived.Lib.LaidTab
import Derived.MakeChecks
import Derived.Test.YtgaeknackpfdcaaDoorZHI5
namespace Go.VI
open Go.Proofs
set_option maxRecDepth 100000
set_option linter.unusedSimpArgs false
set_option linter.unusedVariables false
set_option maxHeartbeats 4000000
theorem runR_congr {l : List Ins} {row : Int} {g g' : List Gl} {c0 w0 : Int} (h : ∀ c w op arg p, pushedR row g c w op arg p = pushedR row g' c w op arg p) : ∀ (n i s : Nat) (c w : Int) (stk : List Int), runR l row g c0 w0 n i s c w stk = runR l row g' c0 w0 n i s c w stk := by
  intro n
  induction n with
  | zero =>
    intro i s c w stk
    cases e : l[i]? with
    | none => rw [runR_none e, runR_none e]
    | some p => rw [runR_fuel e, runR_fuel e]
  | succ n ih =>
    intro i s c w stk
    cases e : l[i]? with
    | none => rw [runR_none e, runR_none e]
    | some p =>
      by_cases hf : failR stk p.1
      · rw [runR_fail e hf, runR_fail e hf]
      · simp only [runR, e, if_neg hf, h]
        exact ih _ _ _ _ _
def SimG (a g : List Gl) : Prop := a.length = g.length ∧ ∀ i : Nat, (a.getD i ([], false, 0)).2.2 = (g.getD i ([], false, 0)).2.2 ∧ ((g.getD i ([], false, 0)).2.2 ≠ 3 → a.getD i ([], false, 0) = g.getD i ([], false, 0))
theorem SimG.refl (g : List Gl) : SimG g g := ⟨rfl, fun _ => ⟨rfl, fun _ => rfl⟩⟩
theorem SimG.char {a g : List Gl} (h : SimG a g) (i : Int) : charS a i = charS g i := by
  unfold charS
  rw [h.1]
  split
  · rfl
  · obtain ⟨h1, h2⟩ := h.2 i.toNat
    unfold codeG
    rw [h1]
    split
    · rfl
    · rename_i hs
      rw [h2 hs]
theorem SimG.style {a g : List Gl} (h : SimG a g) (i : Int) : styleV a i = styleV g i := by
  unfold styleV
  rw [h.1, (h.2 i.toNat).1]
theorem SimG.run {a g : List Gl} (h : SimG a g) (l : List Ins) (row c w r fuel : Int) : runT l row a c w r fuel = runT l row g c w r fuel := by
  have hp : ∀ c w op arg p, pushedR row a c w op arg p = pushedR row g c w op arg p := by
    intro c w op arg p
    unfold pushedR
    rw [h.char, h.style, h.1]
  unfold runT
  simp only [runR_congr hp]
theorem SimG.dec {a g : List Gl} (h : SimG a g) (l : List Ins) (row c w r : Int) : decT l row a c w r = decT l row g c w r := by
  unfold decT; rw [h.run]
theorem getD_set_gl (a : List Gl) (k i : Nat) (x : Gl) (hk : k < a.length) : (a.set k x).getD i ([], false, 0) = if k = i then x else a.getD i ([], false, 0) := by
  rw [List.getD_eq_getElem?_getD, List.getD_eq_getElem?_getD, List.getElem?_set]
  by_cases h : k = i
  · subst h
    rw [if_pos rfl, if_pos hk, if_pos rfl]; rfl
  · rw [if_neg h, if_neg h]
theorem SimG.set {a g : List Gl} (h : SimG a g) {k : Nat} (hk : k < a.length) (h3 : (a.getD k ([], false, 0)).2.2 = 3) (t : List UInt8) : SimG (a.set k (t, (a.getD k ([], false, 0)).2)) g := by
  refine ⟨by rw [List.length_set]; exact h.1, fun i => ?_⟩
  rw [getD_set_gl a k i _ hk]
  obtain ⟨h1, h2⟩ := h.2 i
  split
  · rename_i he
    subst he
    exact ⟨h1, fun hn => absurd (h1.symm.trans h3) hn⟩
  · exact ⟨h1, h2⟩
theorem okG_set {a : List Gl} (h : okG a) {k : Nat} {t : List UInt8} (ht : t.length ≤ 40) (h3 : (a.getD k ([], false, 0)).2.2 = 3) : okG (a.set k (t, (a.getD k ([], false, 0)).2)) := by
  refine ⟨by rw [List.length_set]; exact h.1, fun x hx => ?_⟩
  rcases List.mem_or_eq_of_mem_set hx with h1 | h1
  · exact h.2 x h1
  · rw [h1]
    refine ⟨ht, ?_, ?_⟩
    · show -9223372036854775808 ≤ (a.getD k ([], false, 0)).2.2; omega
    · show (a.getD k ([], false, 0)).2.2 ≤ 9223372036854775807; omega
def rowsS (l : List (List UInt8)) : List (List IV) := l.map fun s => [.str s]
theorem rowsS_len (l : List (List UInt8)) : (rowsS l).length = l.length := by simp [rowsS]
theorem rowsS_at {l : List (List UInt8)} {k : Nat} (h : k < l.length) : (rowsS l)[k]? = some [.str l[k]] := by simp [rowsS, h]
theorem rowsG_set (a : List Gl) (k : Nat) (t : List UInt8) (b : Bool) (s : Int) : (rowsG a).set k [.str t, .v (.bool b), .v (.int .i64 s)] = rowsG (a.set k (t, b, s)) := by simp [rowsG, List.map_set]
def hdP (l : List Ins) (row : Int) (g : List Gl) (ts : List (List UInt8)) (c w r : Int) (fr : Fr) (ex : Ex) (H : Hp) : Prop :=
  (ex = .exit 0 ∧ ∃ a, SimG a g ∧ okG a ∧ fr = [(0, .i (.sl 2 (rowsI l) false)), (1, .i (.v (.int .i64 row))), (2, .i (.sl 3 (rowsG g) false)), (3, .i (.sl 1 (rowsS ts) false)), (9, .ptr 0 0 0 0), (11, .ref 1 0 0 g.length), (32, .i (.v (.int .i64 g.length))), (33, .i (.v (.int .i64 g.length))), (34, .i (.v (.bool false)))] ∧ H = [.box [.i (.v (.int .i64 c)), .i (.v (.int .i64 w)), .i (.v (.int .i64 r))], .sl 3 0 (rowsG a) false]) ∨
  (ex = .ret ∧ get 10 fr = .i (.v (.bool true)))
theorem l6 (l : List Ins) (row : Int) (g : List Gl) (ts : List (List UInt8)) (hts : 0 < ts.length ∧ ts.length ≤ 100) (c w r : Int) (k : Nat) (hk : k ≤ g.length) (a : List Gl) (ha : SimG a g) (hok : okG a) :
    ∃ fr ex H', rl E 0 6 (loopAt Tryd.f6 0) [(0, .i (.sl 2 (rowsI l) false)), (1, .i (.v (.int .i64 row))), (2, .i (.sl 3 (rowsG g) false)), (3, .i (.sl 1 (rowsS ts) false)), (9, .ptr 0 0 0 0), (11, .ref 1 0 0 g.length), (32, .i (.v (.int .i64 g.length))), (33, .i (.v (.int .i64 k)))] [.box [.i (.v (.int .i64 c)), .i (.v (.int .i64 w)), .i (.v (.int .i64 r))], .sl 3 0 (rowsG a) false] = some (ex, fr, H') ∧ hdP l row g ts c w r fr ex H' := by
  have hal := ha.1
  have ha1 := hok.1
  by_cases hlt : k < g.length
  · have hka : k < a.length := by omega
    have hrow := rowsG_at hka
    have hgd : a.getD k ([], false, 0) = a[k] := by rw [List.getD_eq_getElem?_getD, List.getElem?_eq_getElem hka]; rfl
    have hm : k % ts.length < ts.length := Nat.mod_lt _ hts.1
    have hts1 := rowsS_at hm
    have htm : Int.tmod (k : Int) (ts.length : Int) = ((k % ts.length : Nat) : Int) := by
      rw [Int.tmod_eq_emod_of_nonneg (by omega)]; rfl
    by_cases h3 : (a.getD k ([], false, 0)).2.2 = 3
    · generalize ts[k % ts.length] = t at *
      by_cases h40 : 40 < (t.length : Int)
      · rw [hgd] at h3
        generalize a[k] = x at *
        obtain ⟨x1, x2, x3⟩ := x
        simp only at h3 hrow
        subst h3
        have hst := rowsG_set a k t x2 3
        have hrow2 : (rowsG (a.set k (t, x2, 3)))[k]? = some [.str t, .v (.bool x2), .v (.int .i64 3)] := by simp [rowsG, hka]
        have hl2 : (rowsG (a.set k (t, x2, 3))).length = a.length := by rw [rowsG_len, List.length_set]
        rw [rl_step (fn := Tryd.f6) (k := 0) rfl]
        simp (disch := first | omega | (simp only [List.length_append, List.length_map, List.length_set, List.length_cons, List.length_nil, List.length_take, List.length_drop, rowsG_len, rowsS_len, rowsI_len]; omega)) only [va0, va1, va2, va3, va4, va5, va6, va7, va8, va9, va10, va11, va12, va13, va14, va15, vb0, vb1, vb2, vb3, w_i8, w_u8, w_i16, w_u16, w_i32, w_u32, w_i64, w_u64, lt_T, lt_F, le_T, le_F, nlt_T, nlt_F, nle_T, nle_F, List.take_of_length_le, gB, gcW, gcR, posIn, renA, renL, Chunk.ren, Chunk.refs, evOpD, touchD, stepC, isFresh, nFresh, freshOf, mkR, hole, evL, evH, opd, get, putD, ofVal, cellOf, loadE, behind, lenE, idxAddrE, idxE, lookE, lookM, addPtr, intE, strE, unE, convE, AV.int, AV.bool, AV.str, ivs, take, frameOf, firstRegion, refsA, refsL, one, cellsA, floatOk, apartT, List.map, if_true, if_false, E_P, E_glob0, E_glob1, reduceCtorEq, beq_self_eq_true, decide_true, decide_false, ↓reduceIte, Nat.reduceEqDiff, cond_true, cond_false, or_true, true_or, or_false, false_or, and_true, true_and, and_self, false_and, and_false, not_true, not_false_iff, Nat.reduceAdd, Nat.reduceSub, Nat.reduceMul, Nat.reduceLT, Nat.reduceLeDiff, Int.reduceToNat, Int.reduceLT, Int.reduceLE, Option.getD, Int.reduceMul, Int.reduceAdd, List.drop, List.take, Nat.reduceBEq, List.isEmpty, Int.reduceEq, Int.reduceNe, Int.reduceNeg, Int.reduceGT, Int.reduceGE, beq_true, beq_false, UInt8.reduceToNat, eqE, eq_self, foldE, maxE, minE, eq_T, eq_F, ndec, odec, adec, sdec, fillA, over, chop, List.replicate, leavesOk, leafOk, cellsEq, cellEq, E_byref, en6, bs22, bs23, bs37, hrow, hts1, htm, hst, hrow2, hl2, h40, rowsG_len, rowsS_len, rowsI_len, ik12, show ∀ B fr H, execT E B 6 (Code.loop _) fr H = rlG E B 6 (loopAt Tryd.f6 0) (gcn B (norm [0, 1, 2, 3, 9, 11, 32, 33] fr) H) from fun B fr H => rl_intro rfl mt6_5 mb6_5 zf6_5 hd6_5 fr H]
        exact ⟨_, _, _, rfl, .inr ⟨rfl, rfl⟩⟩
      · have hs2 := ha.set hka h3 t
        have ho2 := okG_set hok (k := k) (t := t) (by omega) h3
        rw [hgd] at h3 hs2 ho2
        generalize a[k] = x at *
        obtain ⟨x1, x2, x3⟩ := x
        simp only at h3 hrow hs2 ho2
        subst h3
        have hst := rowsG_set a k t x2 3
        have hrow2 : (rowsG (a.set k (t, x2, 3)))[k]? = some [.str t, .v (.bool x2), .v (.int .i64 3)] := by simp [rowsG, hka]
        have hl2 : (rowsG (a.set k (t, x2, 3))).length = a.length := by rw [rowsG_len, List.length_set]
        obtain ⟨fr, ex, H', e, hh⟩ := l6 l row g ts hts c w r (k + 1) hlt _ hs2 ho2
        refine ⟨fr, ex, H', Eq.trans ?_ e, hh⟩
        clear e hh
        rw [rl_step (fn := Tryd.f6) (k := 0) rfl]
        simp (disch := first | omega | (simp only [List.length_append, List.length_map, List.length_set, List.length_cons, List.length_nil, List.length_take, List.length_drop, rowsG_len, rowsS_len, rowsI_len]; omega)) only [va0, va1, va2, va3, va4, va5, va6, va7, va8, va9, va10, va11, va12, va13, va14, va15, vb0, vb1, vb2, vb3, w_i8, w_u8, w_i16, w_u16, w_i32, w_u32, w_i64, w_u64, lt_T, lt_F, le_T, le_F, nlt_T, nlt_F, nle_T, nle_F, List.take_of_length_le, gB, gcW, gcR, posIn, renA, renL, Chunk.ren, Chunk.refs, evOpD, touchD, stepC, isFresh, nFresh, freshOf, mkR, hole, evL, evH, opd, get, putD, ofVal, cellOf, loadE, behind, lenE, idxAddrE, idxE, lookE, lookM, addPtr, intE, strE, unE, convE, AV.int, AV.bool, AV.str, ivs, take, frameOf, firstRegion, refsA, refsL, one, cellsA, floatOk, apartT, List.map, if_true, if_false, E_P, E_glob0, E_glob1, reduceCtorEq, beq_self_eq_true, decide_true, decide_false, ↓reduceIte, Nat.reduceEqDiff, cond_true, cond_false, or_true, true_or, or_false, false_or, and_true, true_and, and_self, false_and, and_false, not_true, not_false_iff, Nat.reduceAdd, Nat.reduceSub, Nat.reduceMul, Nat.reduceLT, Nat.reduceLeDiff, Int.reduceToNat, Int.reduceLT, Int.reduceLE, Option.getD, Int.reduceMul, Int.reduceAdd, List.drop, List.take, Nat.reduceBEq, List.isEmpty, Int.reduceEq, Int.reduceNe, Int.reduceNeg, Int.reduceGT, Int.reduceGE, beq_true, beq_false, UInt8.reduceToNat, eqE, eq_self, foldE, maxE, minE, eq_T, eq_F, ndec, odec, adec, sdec, fillA, over, chop, List.replicate, leavesOk, leafOk, cellsEq, cellEq, E_byref, en6, bs22, bs23, bs37, hrow, hts1, htm, hst, hrow2, hl2, h40, rowsG_len, rowsS_len, rowsI_len, show ∀ B fr H, execT E B 6 (Code.loop _) fr H = rlG E B 6 (loopAt Tryd.f6 0) (gcn B (norm [0, 1, 2, 3, 9, 11, 32, 33] fr) H) from fun B fr H => rl_intro rfl mt6_5 mb6_5 zf6_5 hd6_5 fr H]
    · obtain ⟨fr, ex, H', e, hh⟩ := l6 l row g ts hts c w r (k + 1) hlt a ha hok
      refine ⟨fr, ex, H', Eq.trans ?_ e, hh⟩
      clear e hh
      rw [hgd] at h3
      generalize a[k] = x at *
      rw [rl_step (fn := Tryd.f6) (k := 0) rfl]
      simp (disch := first | omega | (simp only [List.length_append, List.length_map, List.length_set, List.length_cons, List.length_nil, List.length_take, List.length_drop, rowsG_len, rowsS_len, rowsI_len]; omega)) only [va0, va1, va2, va3, va4, va5, va6, va7, va8, va9, va10, va11, va12, va13, va14, va15, vb0, vb1, vb2, vb3, w_i8, w_u8, w_i16, w_u16, w_i32, w_u32, w_i64, w_u64, lt_T, lt_F, le_T, le_F, nlt_T, nlt_F, nle_T, nle_F, List.take_of_length_le, gB, gcW, gcR, posIn, renA, renL, Chunk.ren, Chunk.refs, evOpD, touchD, stepC, isFresh, nFresh, freshOf, mkR, hole, evL, evH, opd, get, putD, ofVal, cellOf, loadE, behind, lenE, idxAddrE, idxE, lookE, lookM, addPtr, intE, strE, unE, convE, AV.int, AV.bool, AV.str, ivs, take, frameOf, firstRegion, refsA, refsL, one, cellsA, floatOk, apartT, List.map, if_true, if_false, E_P, E_glob0, E_glob1, reduceCtorEq, beq_self_eq_true, decide_true, decide_false, ↓reduceIte, Nat.reduceEqDiff, cond_true, cond_false, or_true, true_or, or_false, false_or, and_true, true_and, and_self, false_and, and_false, not_true, not_false_iff, Nat.reduceAdd, Nat.reduceSub, Nat.reduceMul, Nat.reduceLT, Nat.reduceLeDiff, Int.reduceToNat, Int.reduceLT, Int.reduceLE, Option.getD, Int.reduceMul, Int.reduceAdd, List.drop, List.take, Nat.reduceBEq, List.isEmpty, Int.reduceEq, Int.reduceNe, Int.reduceNeg, Int.reduceGT, Int.reduceGE, beq_true, beq_false, UInt8.reduceToNat, eqE, eq_self, foldE, maxE, minE, eq_T, eq_F, ndec, odec, adec, sdec, fillA, over, chop, List.replicate, leavesOk, leafOk, cellsEq, cellEq, E_byref, en6, bs22, bs23, bs37, hrow, h3, rowsG_len, rowsS_len, rowsI_len, show ∀ B fr H, execT E B 6 (Code.loop _) fr H = rlG E B 6 (loopAt Tryd.f6 0) (gcn B (norm [0, 1, 2, 3, 9, 11, 32, 33] fr) H) from fun B fr H => rl_intro rfl mt6_5 mb6_5 zf6_5 hd6_5 fr H]
  · obtain rfl : k = g.length := by omega
    rw [rl_step (fn := Tryd.f6) (k := 0) rfl]
    simp (disch := first | omega | (simp only [List.length_append, List.length_map, List.length_set, List.length_cons, List.length_nil, List.length_take, List.length_drop, rowsG_len, rowsS_len, rowsI_len]; omega)) only [va0, va1, va2, va3, va4, va5, va6, va7, va8, va9, va10, va11, va12, va13, va14, va15, vb0, vb1, vb2, vb3, w_i8, w_u8, w_i16, w_u16, w_i32, w_u32, w_i64, w_u64, lt_T, lt_F, le_T, le_F, nlt_T, nlt_F, nle_T, nle_F, List.take_of_length_le, gB, gcW, gcR, posIn, renA, renL, Chunk.ren, Chunk.refs, evOpD, touchD, stepC, isFresh, nFresh, freshOf, mkR, hole, evL, evH, opd, get, putD, ofVal, cellOf, loadE, behind, lenE, idxAddrE, idxE, lookE, lookM, addPtr, intE, strE, unE, convE, AV.int, AV.bool, AV.str, ivs, take, frameOf, firstRegion, refsA, refsL, one, cellsA, floatOk, apartT, List.map, if_true, if_false, E_P, E_glob0, E_glob1, reduceCtorEq, beq_self_eq_true, decide_true, decide_false, ↓reduceIte, Nat.reduceEqDiff, cond_true, cond_false, or_true, true_or, or_false, false_or, and_true, true_and, and_self, false_and, and_false, not_true, not_false_iff, Nat.reduceAdd, Nat.reduceSub, Nat.reduceMul, Nat.reduceLT, Nat.reduceLeDiff, Int.reduceToNat, Int.reduceLT, Int.reduceLE, Option.getD, Int.reduceMul, Int.reduceAdd, List.drop, List.take, Nat.reduceBEq, List.isEmpty, Int.reduceEq, Int.reduceNe, Int.reduceNeg, Int.reduceGT, Int.reduceGE, beq_true, beq_false, UInt8.reduceToNat, eqE, eq_self, foldE, maxE, minE, eq_T, eq_F, ndec, odec, adec, sdec, fillA, over, chop, List.replicate, leavesOk, leafOk, cellsEq, cellEq, E_byref, en6, bs22, bs23, bs37, rowsG_len, rowsS_len, rowsI_len, show ∀ B fr H, execT E B 6 (Code.loop _) fr H = rlG E B 6 (loopAt Tryd.f6 0) (gcn B (norm [0, 1, 2, 3, 9, 11, 32, 33] fr) H) from fun B fr H => rl_intro rfl mt6_5 mb6_5 zf6_5 hd6_5 fr H]
    exact ⟨_, _, _, rfl, .inl ⟨rfl, a, ha, hok, rfl, rfl⟩⟩
termination_by g.length - k
theorem law6 (l : List Ins) (hl : l.length ≤ 9223372036854775807) (row : Int) (hrow : bI row) (g : List Gl) (hgl : g.length ≤ 9223372036854775807) (hg : bG g) (ts : List (List UInt8)) (htl : ts.length ≤ 9223372036854775807) (c w r : Int) (hv : bI c ∧ bI w ∧ bI r) : ∃ L, callT E 6 [.i (.sl 2 (rowsI l) false), .i (.v (.int .i64 row)), .i (.sl 3 (rowsG g) false), .i (.sl 1 (rowsS ts) false), .agg [.i (.v (.int .i64 c)), .i (.v (.int .i64 w)), .i (.v (.int .i64 r))]] [] = some (.i (.v (.bool true)), L) := by
  have hgr := fun H => ik11 l g (by omega) (by omega) H
  cases hb : greatB l.length g with
  | true =>
    rw [hb, if_pos rfl] at hgr
    rw [callT_eq Tryd.func6 rfl fok6 (by simp [Tryd.ntmps6])]
    simp (disch := first | omega | (simp only [List.length_append, List.length_map, List.length_set, List.length_cons, List.length_nil, List.length_take, List.length_drop, rowsS_len]; omega)) only [va0, va1, va2, va3, va4, va5, va6, va7, va8, va9, va10, va11, va12, va13, va14, va15, vb0, vb1, vb2, vb3, w_i8, w_u8, w_i16, w_u16, w_i32, w_u32, w_i64, w_u64, lt_T, lt_F, le_T, le_F, nlt_T, nlt_F, nle_T, nle_F, List.take_of_length_le, gB, gcW, gcR, posIn, renA, renL, Chunk.ren, Chunk.refs, evOpD, touchD, stepC, isFresh, nFresh, freshOf, mkR, hole, evL, evH, opd, get, putD, ofVal, cellOf, loadE, behind, lenE, idxAddrE, idxE, lookE, lookM, addPtr, intE, strE, unE, convE, AV.int, AV.bool, AV.str, ivs, take, frameOf, firstRegion, refsA, refsL, one, cellsA, floatOk, apartT, List.map, if_true, if_false, E_P, E_glob0, E_glob1, reduceCtorEq, beq_self_eq_true, decide_true, decide_false, ↓reduceIte, Nat.reduceEqDiff, cond_true, cond_false, or_true, true_or, or_false, false_or, and_true, true_and, and_self, false_and, and_false, not_true, not_false_iff, Nat.reduceAdd, Nat.reduceSub, Nat.reduceMul, Nat.reduceLT, Nat.reduceLeDiff, Int.reduceToNat, Int.reduceLT, Int.reduceLE, Option.getD, Int.reduceMul, Int.reduceAdd, List.drop, List.take, Nat.reduceBEq, List.isEmpty, Int.reduceEq, Int.reduceNe, Int.reduceNeg, Int.reduceGT, Int.reduceGE, beq_true, beq_false, UInt8.reduceToNat, eqE, eq_self, foldE, maxE, minE, eq_T, eq_F, ndec, odec, adec, sdec, fillA, over, chop, List.replicate, leavesOk, leafOk, cellsEq, cellEq, E_byref, en6, bs22, bs23, bs37, hgr, rowsS_len, ik12]
    exact ⟨_, rfl⟩
  | false =>
    rw [hb, if_neg (by decide)] at hgr
    obtain ⟨h5, hok⟩ := okG_of hb hg
    by_cases t0 : (ts.length : Int) = 0
    · rw [callT_eq Tryd.func6 rfl fok6 (by simp [Tryd.ntmps6])]
      simp (disch := first | omega | (simp only [List.length_append, List.length_map, List.length_set, List.length_cons, List.length_nil, List.length_take, List.length_drop, rowsS_len]; omega)) only [va0, va1, va2, va3, va4, va5, va6, va7, va8, va9, va10, va11, va12, va13, va14, va15, vb0, vb1, vb2, vb3, w_i8, w_u8, w_i16, w_u16, w_i32, w_u32, w_i64, w_u64, lt_T, lt_F, le_T, le_F, nlt_T, nlt_F, nle_T, nle_F, List.take_of_length_le, gB, gcW, gcR, posIn, renA, renL, Chunk.ren, Chunk.refs, evOpD, touchD, stepC, isFresh, nFresh, freshOf, mkR, hole, evL, evH, opd, get, putD, ofVal, cellOf, loadE, behind, lenE, idxAddrE, idxE, lookE, lookM, addPtr, intE, strE, unE, convE, AV.int, AV.bool, AV.str, ivs, take, frameOf, firstRegion, refsA, refsL, one, cellsA, floatOk, apartT, List.map, if_true, if_false, E_P, E_glob0, E_glob1, reduceCtorEq, beq_self_eq_true, decide_true, decide_false, ↓reduceIte, Nat.reduceEqDiff, cond_true, cond_false, or_true, true_or, or_false, false_or, and_true, true_and, and_self, false_and, and_false, not_true, not_false_iff, Nat.reduceAdd, Nat.reduceSub, Nat.reduceMul, Nat.reduceLT, Nat.reduceLeDiff, Int.reduceToNat, Int.reduceLT, Int.reduceLE, Option.getD, Int.reduceMul, Int.reduceAdd, List.drop, List.take, Nat.reduceBEq, List.isEmpty, Int.reduceEq, Int.reduceNe, Int.reduceNeg, Int.reduceGT, Int.reduceGE, beq_true, beq_false, UInt8.reduceToNat, eqE, eq_self, foldE, maxE, minE, eq_T, eq_F, ndec, odec, adec, sdec, fillA, over, chop, List.replicate, leavesOk, leafOk, cellsEq, cellEq, E_byref, en6, bs22, bs23, bs37, hgr, t0, rowsS_len, ik12]
      exact ⟨_, rfl⟩
    · by_cases t1 : 100 < (ts.length : Int)
      · rw [callT_eq Tryd.func6 rfl fok6 (by simp [Tryd.ntmps6])]
        simp (disch := first | omega | (simp only [List.length_append, List.length_map, List.length_set, List.length_cons, List.length_nil, List.length_take, List.length_drop, rowsS_len]; omega)) only [va0, va1, va2, va3, va4, va5, va6, va7, va8, va9, va10, va11, va12, va13, va14, va15, vb0, vb1, vb2, vb3, w_i8, w_u8, w_i16, w_u16, w_i32, w_u32, w_i64, w_u64, lt_T, lt_F, le_T, le_F, nlt_T, nlt_F, nle_T, nle_F, List.take_of_length_le, gB, gcW, gcR, posIn, renA, renL, Chunk.ren, Chunk.refs, evOpD, touchD, stepC, isFresh, nFresh, freshOf, mkR, hole, evL, evH, opd, get, putD, ofVal, cellOf, loadE, behind, lenE, idxAddrE, idxE, lookE, lookM, addPtr, intE, strE, unE, convE, AV.int, AV.bool, AV.str, ivs, take, frameOf, firstRegion, refsA, refsL, one, cellsA, floatOk, apartT, List.map, if_true, if_false, E_P, E_glob0, E_glob1, reduceCtorEq, beq_self_eq_true, decide_true, decide_false, ↓reduceIte, Nat.reduceEqDiff, cond_true, cond_false, or_true, true_or, or_false, false_or, and_true, true_and, and_self, false_and, and_false, not_true, not_false_iff, Nat.reduceAdd, Nat.reduceSub, Nat.reduceMul, Nat.reduceLT, Nat.reduceLeDiff, Int.reduceToNat, Int.reduceLT, Int.reduceLE, Option.getD, Int.reduceMul, Int.reduceAdd, List.drop, List.take, Nat.reduceBEq, List.isEmpty, Int.reduceEq, Int.reduceNe, Int.reduceNeg, Int.reduceGT, Int.reduceGE, beq_true, beq_false, UInt8.reduceToNat, eqE, eq_self, foldE, maxE, minE, eq_T, eq_F, ndec, odec, adec, sdec, fillA, over, chop, List.replicate, leavesOk, leafOk, cellsEq, cellEq, E_byref, en6, bs22, bs23, bs37, hgr, t0, t1, rowsS_len, ik12]
        exact ⟨_, rfl⟩
      · have hg1 := hok.1
        obtain ⟨fr, ex, H', e, hh⟩ := l6 l row g ts (by omega) c w r 0 (Nat.zero_le _) g (SimG.refl g) hok
        have e' : rl E 0 6 (loopAt Tryd.f6 0) [(0, .i (.sl 2 (rowsI l) false)), (1, .i (.v (.int .i64 row))), (2, .i (.sl 3 (rowsG g) false)), (3, .i (.sl 1 (rowsS ts) false)), (9, .ptr 0 0 0 0), (11, .ref 1 0 0 g.length), (32, .i (.v (.int .i64 g.length))), (33, .i (.v (.int .i64 0)))] [.box [.i (.v (.int .i64 c)), .i (.v (.int .i64 w)), .i (.v (.int .i64 r))], .sl 3 0 (rowsG g) false] = _ := e
        clear e
        rcases hh with ⟨rfl, a, ha, hoa, rfl, rfl⟩ | ⟨rfl, h10⟩
        · have r1 := fun H => ik13 l (by omega) row hrow g hok c w r 5000 hv (by unfold bI; omega) H
          have r2 := fun H => ik13 l (by omega) row hrow a hoa c w r 5000 hv (by unfold bI; omega) H
          have d1 := fun H => ik15 l (by omega) row hrow g hok c w r hv H
          have d2 := fun H => ik15 l (by omega) row hrow a hoa c w r hv H
          rw [run_eqS] at r1 r2
          rw [dec_eqS] at d1 d2
          rw [ha.run] at r2
          rw [ha.dec] at d2
          generalize runT l row g c w r 5000 = o at *
          generalize decT l row g c w r = d at *
          obtain ⟨o1, o2, o3, o4, o5⟩ := o
          obtain ⟨v1, v2, v3⟩ := d
          unfold ocA at r1 r2
          unfold vdA at d1 d2
          simp only at r1 r2 d1 d2
          have htk : List.take g.length (rowsG a) = rowsG a := List.take_of_length_le (by rw [rowsG_len, ha.1]; exact Nat.le_refl _)
          have htg : List.take g.length (rowsG g) = rowsG g := List.take_of_length_le (by rw [rowsG_len]; exact Nat.le_refl _)
          rw [callT_eq Tryd.func6 rfl fok6 (by simp [Tryd.ntmps6])]
          simp (disch := first | omega | (simp only [List.length_append, List.length_map, List.length_set, List.length_cons, List.length_nil, List.length_take, List.length_drop, rowsS_len, rowsG_len]; omega)) only [va0, va1, va2, va3, va4, va5, va6, va7, va8, va9, va10, va11, va12, va13, va14, va15, vb0, vb1, vb2, vb3, w_i8, w_u8, w_i16, w_u16, w_i32, w_u32, w_i64, w_u64, lt_T, lt_F, le_T, le_F, nlt_T, nlt_F, nle_T, nle_F, List.take_of_length_le, gB, gcW, gcR, posIn, renA, renL, Chunk.ren, Chunk.refs, evOpD, touchD, stepC, isFresh, nFresh, freshOf, mkR, hole, evL, evH, opd, get, putD, ofVal, cellOf, loadE, behind, lenE, idxAddrE, idxE, lookE, lookM, addPtr, intE, strE, unE, convE, AV.int, AV.bool, AV.str, ivs, take, frameOf, firstRegion, refsA, refsL, one, cellsA, floatOk, apartT, List.map, if_true, if_false, E_P, E_glob0, E_glob1, reduceCtorEq, beq_self_eq_true, decide_true, decide_false, ↓reduceIte, Nat.reduceEqDiff, cond_true, cond_false, or_true, true_or, or_false, false_or, and_true, true_and, and_self, false_and, and_false, not_true, not_false_iff, Nat.reduceAdd, Nat.reduceSub, Nat.reduceMul, Nat.reduceLT, Nat.reduceLeDiff, Int.reduceToNat, Int.reduceLT, Int.reduceLE, Option.getD, Int.reduceMul, Int.reduceAdd, List.drop, List.take, Nat.reduceBEq, List.isEmpty, Int.reduceEq, Int.reduceNe, Int.reduceNeg, Int.reduceGT, Int.reduceGE, beq_true, beq_false, UInt8.reduceToNat, eqE, eq_self, foldE, maxE, minE, eq_T, eq_F, ndec, odec, adec, sdec, fillA, over, chop, List.replicate, leavesOk, leafOk, cellsEq, cellEq, E_byref, en6, bs22, bs23, bs37, hgr, t0, t1, e', r1, r2, d1, d2, htk, htg, rowsS_len, rowsG_len, eq_oc, eq_vd, decide_true, Bool.and_true, ik12, show ∀ B fr H, execT E B 6 (Code.loop _) fr H = rlG E B 6 (loopAt Tryd.f6 0) (gcn B (norm [0, 1, 2, 3, 9, 11, 32, 33] fr) H) from fun B fr H => rl_intro rfl mt6_5 mb6_5 zf6_5 hd6_5 fr H]
          exact ⟨_, rfl⟩
        · have htg : List.take g.length (rowsG g) = rowsG g := List.take_of_length_le (by rw [rowsG_len]; exact Nat.le_refl _)
          rw [callT_eq Tryd.func6 rfl fok6 (by simp [Tryd.ntmps6])]
          simp (disch := first | omega | (simp only [List.length_append, List.length_map, List.length_set, List.length_cons, List.length_nil, List.length_take, List.length_drop, rowsS_len, rowsG_len]; omega)) only [va0, va1, va2, va3, va4, va5, va6, va7, va8, va9, va10, va11, va12, va13, va14, va15, vb0, vb1, vb2, vb3, w_i8, w_u8, w_i16, w_u16, w_i32, w_u32, w_i64, w_u64, lt_T, lt_F, le_T, le_F, nlt_T, nlt_F, nle_T, nle_F, List.take_of_length_le, gB, gcW, gcR, posIn, renA, renL, Chunk.ren, Chunk.refs, evOpD, touchD, stepC, isFresh, nFresh, freshOf, mkR, hole, evL, evH, opd, get, putD, ofVal, cellOf, loadE, behind, lenE, idxAddrE, idxE, lookE, lookM, addPtr, intE, strE, unE, convE, AV.int, AV.bool, AV.str, ivs, take, frameOf, firstRegion, refsA, refsL, one, cellsA, floatOk, apartT, List.map, if_true, if_false, E_P, E_glob0, E_glob1, reduceCtorEq, beq_self_eq_true, decide_true, decide_false, ↓reduceIte, Nat.reduceEqDiff, cond_true, cond_false, or_true, true_or, or_false, false_or, and_true, true_and, and_self, false_and, and_false, not_true, not_false_iff, Nat.reduceAdd, Nat.reduceSub, Nat.reduceMul, Nat.reduceLT, Nat.reduceLeDiff, Int.reduceToNat, Int.reduceLT, Int.reduceLE, Option.getD, Int.reduceMul, Int.reduceAdd, List.drop, List.take, Nat.reduceBEq, List.isEmpty, Int.reduceEq, Int.reduceNe, Int.reduceNeg, Int.reduceGT, Int.reduceGE, beq_true, beq_false, UInt8.reduceToNat, eqE, eq_self, foldE, maxE, minE, eq_T, eq_F, ndec, odec, adec, sdec, fillA, over, chop, List.replicate, leavesOk, leafOk, cellsEq, cellEq, E_byref, en6, bs22, bs23, bs37, hgr, t0, t1, e', h10, htg, rowsS_len, rowsG_len, ik12, show ∀ B fr H, execT E B 6 (Code.loop _) fr H = rlG E B 6 (loopAt Tryd.f6 0) (gcn B (norm [0, 1, 2, 3, 9, 11, 32, 33] fr) H) from fun B fr H => rl_intro rfl mt6_5 mb6_5 zf6_5 hd6_5 fr H]
          exact ⟨_, rfl⟩
theorem c6 (l : List Ins) (hl : l.length ≤ 9223372036854775807) (row : Int) (hrow : bI row) (g : List Gl) (hgl : g.length ≤ 9223372036854775807) (hg : bG g) (ts : List (List UInt8)) (htl : ts.length ≤ 9223372036854775807) (c w r : Int) (hv : bI c ∧ bI w ∧ bI r) :
    ∃ L, callT E 6 [.i (.sl 2 (l.map fun a => insC a) false), .i (.v (.int .i64 row)), .i (.sl 3 (g.map fun a => [.str a.1, .v (.bool a.2.1), .v (.int .i64 a.2.2)]) false), .i (.sl 1 (ts.map fun a => [.str a]) false), .agg [.i (.v (.int .i64 c)), .i (.v (.int .i64 w)), .i (.v (.int .i64 r))]] [] = some (.i (.v (.bool true)), L) := law6 l hl row hrow g hgl hg ts htl c w r hv
end Go.VI

set_option linter.unusedSimpArgs false
set_option linter.unusedVariables false
namespace Go.VI
open Go.Proofs
theorem laid_tail {P : Program} {W : World} {x : String × DataW Unit} {l : List (String × DataW Unit)} (h : laidMet P (x :: l) W) : laidMet P l W := by
  obtain ⟨ps, ⟨g, t, cs, fuel, p, q, _, _, _, _, hr, rfl⟩, hnd, hrows⟩ := h
  exact ⟨q, hr, hnd.sublist (List.sublist_append_right _ _), fun b off hp => hrows b off (List.mem_append.2 (.inr hp))⟩
theorem glob_of_tabI {P : Program} {W : World} {name : String} {g : Nat} {tab : List Int} (hg : P.globalNamed name = some g) (h : Lib.TabIs P W name .i64 tab) : RelI (imm0 W) (.pt (tabT tab) 0) (.pointer (some ⟨g, 0, none⟩)) := by
  unfold Lib.TabIs World.var? at h
  rw [hg] at h
  simp only [Option.bind_some] at h
  split at h
  · rename_i cs e fz hh
    simp only [Option.some.injEq] at h
    refine .pt (tabT tab) 0 g 0 cs e fz (fun k => .int .i64 (tab.getD k 0)) hh (fun k a hk => ?_) (fun k a hk => ?_)
    · have hl : k < tab.length := by
        have := (List.getElem?_eq_some_iff.1 hk).1
        simpa [tabT] using this
      subst h
      simp [List.getD, hl]
    · have hl : k < tab.length := by
        have := (List.getElem?_eq_some_iff.1 hk).1
        simpa [tabT] using this
      simp only [tabT, List.getElem?_map, List.getElem?_eq_getElem hl, Option.map_some, Option.some.injEq] at hk
      subst hk
      simp [List.getD, hl]
      exact .v _ rfl
  · cases h
theorem globs2 {W : World} (h0 : Lib.TabIs Tryd.prog W "narrator/scriptverify.pops" .i64 popsL) (h1 : Lib.TabIs Tryd.prog W "narrator/scriptverify.pushes" .i64 pushesL) : ∀ g cells, E.glob g = some cells → RelI (imm0 W) (.pt cells 0) (.pointer (some ⟨g, 0, none⟩)) := by
  intro g cells hg
  rcases E_globI g cells hg with ⟨rfl, rfl⟩ | ⟨rfl, rfl⟩ | h'
  · exact glob_of_tabI (by kernel_rfl) h0
  · exact glob_of_tabI (by kernel_rfl) h1
  · exact h'.elim
end Go.VI

