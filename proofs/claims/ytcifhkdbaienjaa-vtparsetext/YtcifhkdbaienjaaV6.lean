import Derived.Test.YtcifhkdbaienjaaV5
namespace Go.VI
open Go.Proofs
set_option maxRecDepth 100000
set_option linter.unusedSimpArgs false
set_option linter.unusedVariables false
set_option maxHeartbeats 4000000
/-! what is kept of an incomplete character -/
theorem beginS_mi : ∀ n : Nat, n < 256 → 0 ≤ (beginS n).mi ∧ (beginS n).mi ≤ 3 := by decide +kernel
theorem runD_gap : ∀ (l : List UInt8) (i : Nat) (d : Dec), (0 ≤ d.s.mi) → (d.s.mi = 0 ∨ (i : Int) - d.st + d.s.mi ≤ 4) →
    0 ≤ (runD l i d).s.mi ∧ ((runD l i d).s.mi = 0 ∨ ((i + l.length : Nat) : Int) - (runD l i d).st + (runD l i d).s.mi ≤ 4)
  | [], i, d, h0, h => by simpa [runD] using ⟨h0, h⟩
  | b :: l, i, d, h0, h => by
    have hb := beginS_mi b.toNat b.toNat_lt
    have key : 0 ≤ (stepD d i b.toNat).s.mi ∧ ((stepD d i b.toNat).s.mi = 0 ∨ ((i + 1 : Nat) : Int) - (stepD d i b.toNat).st + (stepD d i b.toNat).s.mi ≤ 4) := by
      unfold stepD
      split
      · rename_i hc
        obtain ⟨hc1, _, _⟩ := hc
        simp only
        omega
      · simp only; omega
    have ih := runD_gap l (i + 1) (stepD d i b.toNat) key.1 key.2
    simp only [runD, List.length_cons]
    rw [show i + (l.length + 1) = i + 1 + l.length by omega]
    exact ih
theorem decRest_len (t : List UInt8) : (decRest t).length ≤ 3 := by
  obtain ⟨h0, h⟩ := runD_gap t 0 ⟨sq0, [], 0⟩ (Int.le_refl _) (.inl rfl)
  obtain ⟨s0, s1⟩ := runD_st t 0 ⟨sq0, [], 0⟩ (Int.le_refl _) (Int.le_refl _)
  unfold decRest decD
  generalize runD t 0 ⟨sq0, [], 0⟩ = X at *
  split
  · simp
  · rename_i hne
    rw [List.length_drop]
    rcases h with h | h
    · exact absurd h hne
    · omega
def PsOK (p : Ps) : Prop := p.pe.length ≤ 3 ∧ p.bu.length ≤ 257
theorem plain_ok {p : Ps} (h : PsOK p) (b : UInt8) : PsOK (plainS p b).1 ∧ (plainS p b).2.length ≤ 8 := by
  have h1 := decRest_len (p.pe ++ [b])
  have h2 := decOut_len (p.pe ++ [b])
  have h3 := prints_len (decOut (p.pe ++ [b]))
  have h4 : (lostS p.pe).length ≤ 1 := by unfold lostS; split <;> simp
  simp only [List.length_append, List.length_cons, List.length_nil] at h2
  obtain ⟨h5, h6⟩ := h
  unfold plainS PsOK
  split
  · exact ⟨⟨h1, h6⟩, by simp only; omega⟩
  · split
    · exact ⟨by simp, by simp only; omega⟩
    · split
      · exact ⟨⟨by simp, h6⟩, by simp only; omega⟩
      · exact ⟨⟨by simp, h6⟩, by simp only [List.length_append, List.length_cons, List.length_nil]; omega⟩
theorem ok0 (st : Int) : PsOK ⟨st, [], []⟩ := ⟨by simp, by simp⟩
theorem common_ok {p : Ps} (h : PsOK p) (b : UInt8) {q : Ps × List Ev} (hq : commonS p b = some q) : PsOK q.1 ∧ q.2.length ≤ 8 := by
  unfold commonS at hq
  repeat' split at hq
  all_goals first | cases hq | skip
  all_goals first | exact ⟨ok0 _, by simp⟩ | exact ⟨h, by simp⟩ | exact plain_ok (ok0 _) b
theorem app_ok {p : Ps} (h : PsOK p) (b : UInt8) {m : Int} (hm : m ≤ 257) : PsOK (appS p b m) := by
  unfold appS PsOK
  refine ⟨h.1, ?_⟩
  simp only
  split
  · simp only [List.length_append, List.length_cons, List.length_nil]; omega
  · exact h.2
theorem escaped_ok {p : Ps} (h : PsOK p) (b : UInt8) : PsOK (escapedS p b).1 ∧ (escapedS p b).2.length ≤ 8 := by
  unfold escapedS
  cases hq : commonS p b with
  | some q => exact common_ok h b hq
  | none =>
    simp only
    repeat' split
    all_goals first | exact ⟨app_ok h b (by omega), by simp⟩ | exact ⟨ok0 _, by simp⟩
theorem sequenced_ok {p : Ps} (h : PsOK p) (b : UInt8) : PsOK (sequencedS p b).1 ∧ (sequencedS p b).2.length ≤ 8 := by
  unfold sequencedS
  cases hq : commonS p b with
  | some q => exact common_ok h b hq
  | none =>
    simp only
    repeat' split
    all_goals first | exact ⟨app_ok h b (by omega), by simp⟩ | exact ⟨ok0 _, by simp⟩
theorem commanded_ok {p : Ps} (h : PsOK p) (b : UInt8) : PsOK (commandedS p b).1 ∧ (commandedS p b).2.length ≤ 8 := by
  unfold commandedS
  repeat' split
  all_goals first | exact ⟨app_ok h b (by omega), by simp⟩ | exact ⟨ok0 _, by simp⟩ | exact ⟨h, by simp⟩
theorem read_ok {p : Ps} (h : PsOK p) (b : UInt8) : PsOK (readS p b).1 ∧ (readS p b).2.length ≤ 8 := by
  unfold readS
  split
  · exact plain_ok h b
  · split
    · split
      · exact ⟨ok0 _, by simp⟩
      · exact escaped_ok (ok0 _) b
    · split
      · exact escaped_ok h b
      · split
        · exact sequenced_ok h b
        · exact commanded_ok h b
/-- the shorter way for printable ASCII -/
theorem ascii_read (bu : List UInt8) (b : UInt8) (h1 : 32 ≤ (b.toNat : Int)) (h2 : (b.toNat : Int) < 127) : readS ⟨0, [], bu⟩ b = (⟨0, [], bu⟩, [prEv b.toNat]) := by
  have hb : decOut [b] = [(b.toNat : Int)] ∧ decRest [b] = [] := by
    have hm : (beginS b.toNat).mi = 0 := by
      have : ∀ n : Nat, n < 127 → (beginS n).mi = 0 := by decide +kernel
      exact this b.toNat (by omega)
    have : decD [b] = ⟨beginS b.toNat, [(b.toNat : Int)], 0⟩ := by
      have h0 : (⟨sq0, [], 0⟩ : Dec).s.mi = 0 := rfl
      have hA : (b.toNat : Int) < 128 := by omega
      simp only [decD, runD, stepD, h0, Int.lt_irrefl, false_and, if_false, hA, if_true, List.nil_append]
      rfl
    unfold decOut decRest
    rw [this]
    exact ⟨rfl, by rw [if_pos hm]⟩
  simp only [readS, if_true, plainS]
  rw [if_pos ⟨h1, by omega⟩]
  simp only [List.nil_append, hb]
  have : okR b.toNat = true := by simp [okR]; omega
  simp [prints, this]
def runF : List UInt8 → Ps → Ps × List Ev
  | [], p => (p, [])
  | b :: r, p => ((runF r (readS p b).1).1, (readS p b).2 ++ (runF r (readS p b).1).2)
theorem runF_len : ∀ (s : List UInt8) {p : Ps}, PsOK p → PsOK (runF s p).1 ∧ (runF s p).2.length ≤ 8 * s.length
  | [], p, h => ⟨h, by simp [runF]⟩
  | b :: r, p, h => by
    obtain ⟨h1, h2⟩ := read_ok h b
    obtain ⟨i1, i2⟩ := runF_len r h1
    refine ⟨i1, ?_⟩
    simp only [runF, List.length_append, List.length_cons]; omega
theorem isoK_rd1 {f : Nat} {x y z x' y' z' : IV} {args : List AV} {r : AV} {g g' n n' : Nat} {R R' : List (List IV)} {ex ex' : Bool} (he : E.ext f = none) (ha : refsL args = []) (hr : refsA r = [])
    (h : ∃ L, callT E f (.ptr 0 0 0 0 :: args) [.box [.i x, .i y, .i z, .ref 1 g 0 n], .sl 7 g R ex] = some (r, .box [.i x', .i y', .i z', .ref 1 g' 0 n'] :: .sl 7 g' R' ex' :: L)) (b0 : Chunk) (T : Hp) :
    isoK E (callT E) f (.ptr 1 0 0 0 :: args) (b0 :: .box [.i x, .i y, .i z, .ref 2 g 0 n] :: .sl 7 g R ex :: T) = some (r, b0 :: .box [.i x', .i y', .i z', .ref 2 g' 0 n'] :: .sl 7 g' R' ex' :: T) := by
  obtain ⟨L, h⟩ := h
  have ha2 : ∀ ρ, renL ρ args = args := fun ρ => (refs_ren ρ).2 args ha
  have hr2 : ∀ ρ, renA ρ r = r := fun ρ => (refs_ren ρ).1 r hr
  rw [isoK_R he]
  simp (disch := first | omega | (simp only [List.length_append, List.length_map, List.length_set, List.length_cons, List.length_nil, List.length_take, List.length_drop]; omega)) only [va0, va1, va2, va3, va4, va5, va6, va7, va8, va9, va10, va11, va12, va13, va14, vb0, vb1, vb2, vb3, w_i8, w_u8, w_i16, w_u16, w_i32, w_u32, w_i64, w_u64, lt_T, lt_F, le_T, le_F, nlt_T, nlt_F, nle_T, nle_F, List.take_of_length_le, gB, gcW, gcR, posIn, renA, renL, Chunk.ren, Chunk.refs, evOpD, touchD, stepC, isFresh, nFresh, freshOf, mkR, hole, evL, evH, opd, get, putD, ofVal, cellOf, loadE, behind, lenE, idxAddrE, idxE, addPtr, intE, strE, unE, convE, AV.int, AV.bool, AV.str, ivs, take, frameOf, firstRegion, refsA, refsL, one, cellsA, floatOk, apartT, List.map, if_true, if_false, E_P, E_glob, reduceCtorEq, beq_self_eq_true, decide_true, decide_false, ↓reduceIte, Nat.reduceEqDiff, cond_true, cond_false, or_true, true_or, or_false, false_or, and_true, true_and, and_self, false_and, and_false, not_true, not_false_iff, Nat.reduceAdd, Nat.reduceSub, Nat.reduceMul, Nat.reduceLT, Nat.reduceLeDiff, Int.reduceToNat, Int.reduceLT, Int.reduceLE, Option.getD, Int.reduceMul, Int.reduceAdd, List.drop, List.take, Nat.reduceBEq, List.isEmpty, Int.reduceEq, Int.reduceNe, Int.reduceNeg, Int.reduceGT, Int.reduceGE, beq_true, beq_false, UInt8.reduceToNat, eqE, eq_self, foldE, maxE, minE, eq_T, eq_F, ndec, odec, adec, sdec, fillA, over, chop, List.replicate, leavesOk, leafOk, cellsEq, cellEq, E_ext, E_byref, tyaa, tyab, tyac, tyad, tyae, tyaf, tyag, tyah, tyai, bs27, bs33, bs36, bs45, isoL, h, isoB_some, isoF, backRen, setAll, List.take_succ_cons, List.take_zero, ha, ha2, hr, hr2]
theorem ik16_e1 (a : Int) (b c : List UInt8) (g n : Nat) (l : List Ev) (k r cd v : Int) (i : List UInt8) (t : List UInt8) (hn : n = l.length) (hl : n < 1000000) (b0 : Chunk) (T : Hp) :
    isoK E (callT E) 16 [.ptr 1 0 0 0, .agg [.i (.v (.int .i64 k)), .i (.v (.int .i32 r)), .i (.v (.int .u8 cd)), .i (.v (.int .u8 v)), .i (.str i), .i (.sl 1 [] false), .i (.str t)]] (b0 :: .box [.i (.v (.int .i64 (a))), .i (.str (b)), .i (.str (c)), .ref 2 (g) 0 (n)] :: .sl 7 (g) (rowsEv l) false :: T) =
      some (.tup [], b0 :: .box [.i (.v (.int .i64 (a))), .i (.str (b)), .i (.str (c)), .ref 2 (g + 1) 0 (n + 1)] :: .sl 7 (g + 1) (rowsEv (l ++ [⟨k, r, cd, v, i, [], t⟩])) false :: T) := isoK_rd1 rfl rfl rfl (c16 a b c g n l k r cd v i [] t hn hl) b0 T
theorem ik17_1 (p : Ps) (b : UInt8) (g n : Nat) (l : List Ev) (hpe : p.pe.length < 40000) (hp : p.bu.length < 10000) (hn : n = l.length) (hl : n < 700000) (b0 : Chunk) (T : Hp) :
    isoK E (callT E) 17 [.ptr 1 0 0 0, .i (.v (.int .u8 b.toNat))] (b0 :: .box [.i (.v (.int .i64 (p.st))), .i (.str (p.pe)), .i (.str (p.bu)), .ref 2 (g) 0 (n)] :: .sl 7 (g) (rowsEv l) false :: T) = some (.tup [], b0 :: .box [.i (.v (.int .i64 ((readS p b).1.st))), .i (.str ((readS p b).1.pe)), .i (.str ((readS p b).1.bu)), .ref 2 (g + (readS p b).2.length) 0 (n + (readS p b).2.length)] :: .sl 7 (g + (readS p b).2.length) (rowsEv (l ++ (readS p b).2)) false :: T) := isoK_rd1 rfl rfl rfl (c17 p b g n l hpe hp hn hl) b0 T
theorem l9 (s : List UInt8) (hs : s.length < 5000) (k : Nat) (hk : k ≤ s.length) (p : Ps) (hp : PsOK p) (n : Nat) (l : List Ev) (hn : n = l.length) (hl : n ≤ 8 * k) :
    ∃ fr, rl E 0 9 (loopAt Try.f9 0) [(1, .i (.str s)), (4, .ptr 0 0 0 0), (6, .ptr 1 0 0 0), (7, .i (.v (.int .i64 k)))] (.box [.i (.v (.int .i64 0)), .i (.str []), .i (.str [])] :: .box [.i (.v (.int .i64 (p.st))), .i (.str (p.pe)), .i (.str (p.bu)), .ref 2 (0) 0 (n)] :: .sl 7 (0) (rowsEv (l)) false :: []) =
      some (.exit 0, fr, (.box [.i (.v (.int .i64 0)), .i (.str []), .i (.str [])] :: .box [.i (.v (.int .i64 ((runF (s.drop k) p).1.st))), .i (.str ((runF (s.drop k) p).1.pe)), .i (.str ((runF (s.drop k) p).1.bu)), .ref 2 (0) 0 (n + (runF (s.drop k) p).2.length)] :: .sl 7 (0) (rowsEv (l ++ (runF (s.drop k) p).2)) false :: [])) ∧ get 4 fr = .ptr 0 0 0 0 ∧ get 6 fr = .ptr 1 0 0 0 := by
  rw [rl_step (fn := Try.f9) (k := 0) rfl]
  by_cases hlt : k < s.length
  · have hb := byte_at hlt
    have b1 := s[k].toNat_lt
    rw [List.drop_eq_getElem_cons hlt, runF]
    obtain ⟨o1, o2⟩ := read_ok hp s[k]
    obtain ⟨fr, e, f4, f6⟩ := l9 s hs (k + 1) hlt (readS p s[k]).1 o1 (n + (readS p s[k]).2.length) (l ++ (readS p s[k]).2) (by simp; omega) (by omega)
    rw [List.append_assoc, Nat.add_assoc, ← List.length_append] at e
    refine ⟨fr, Eq.trans ?_ e, f4, f6⟩
    clear e f4 f6 o1 o2
    have hik := fun b0 T => ik17_1 p s[k] 0 n l (by have := hp.1; omega) (by have := hp.2; omega) hn (by omega) b0 T
    obtain ⟨st, pe, bu⟩ := p
    simp only at hik ⊢
    generalize s[k] = b at *
    by_cases c1 : st = 0
    · subst c1
      cases pe with
      | nil =>
        by_cases c2 : 32 ≤ (b.toNat : Int)
        · by_cases c3 : (b.toNat : Int) < 127
          · rw [ascii_read bu b c2 c3]
            simp only [List.length_cons, List.length_nil]
            simp (disch := first | omega | (simp only [List.length_append, List.length_map, List.length_set, List.length_cons, List.length_nil, List.length_take, List.length_drop]; omega)) only [va0, va1, va2, va3, va4, va5, va6, va7, va8, va9, va10, va11, va12, va13, va14, vb0, vb1, vb2, vb3, w_i8, w_u8, w_i16, w_u16, w_i32, w_u32, w_i64, w_u64, lt_T, lt_F, le_T, le_F, nlt_T, nlt_F, nle_T, nle_F, List.take_of_length_le, gB, gcW, gcR, posIn, renA, renL, Chunk.ren, Chunk.refs, evOpD, touchD, stepC, isFresh, nFresh, freshOf, mkR, hole, evL, evH, opd, get, putD, ofVal, cellOf, loadE, behind, lenE, idxAddrE, idxE, addPtr, intE, strE, unE, convE, AV.int, AV.bool, AV.str, ivs, take, frameOf, firstRegion, refsA, refsL, one, cellsA, floatOk, apartT, List.map, if_true, if_false, E_P, E_glob, reduceCtorEq, beq_self_eq_true, decide_true, decide_false, ↓reduceIte, Nat.reduceEqDiff, cond_true, cond_false, or_true, true_or, or_false, false_or, and_true, true_and, and_self, false_and, and_false, not_true, not_false_iff, Nat.reduceAdd, Nat.reduceSub, Nat.reduceMul, Nat.reduceLT, Nat.reduceLeDiff, Int.reduceToNat, Int.reduceLT, Int.reduceLE, Option.getD, Int.reduceMul, Int.reduceAdd, List.drop, List.take, Nat.reduceBEq, List.isEmpty, Int.reduceEq, Int.reduceNe, Int.reduceNeg, Int.reduceGT, Int.reduceGE, beq_true, beq_false, UInt8.reduceToNat, eqE, eq_self, foldE, maxE, minE, eq_T, eq_F, ndec, odec, adec, sdec, fillA, over, chop, List.replicate, leavesOk, leafOk, cellsEq, cellEq, E_ext, E_byref, en9, hb, c2, c3, ik16_e1, show ∀ B fr H, execT E B 9 (Code.loop _) fr H = rlM E B 9 (loopAt Try.f9 0) [1, 4, 6, 7] [] (matF [] fr H).1 (matB [(6, 3, 7)] (matF [] fr H).1 (matF [] fr H).2) from fun B fr H => rl_introM rfl mt9_5 mb9_5 zf9_5 hd9_5 fr H]
            all_goals rfl
          · simp (disch := first | omega | (simp only [List.length_append, List.length_map, List.length_set, List.length_cons, List.length_nil, List.length_take, List.length_drop]; omega)) only [va0, va1, va2, va3, va4, va5, va6, va7, va8, va9, va10, va11, va12, va13, va14, vb0, vb1, vb2, vb3, w_i8, w_u8, w_i16, w_u16, w_i32, w_u32, w_i64, w_u64, lt_T, lt_F, le_T, le_F, nlt_T, nlt_F, nle_T, nle_F, List.take_of_length_le, gB, gcW, gcR, posIn, renA, renL, Chunk.ren, Chunk.refs, evOpD, touchD, stepC, isFresh, nFresh, freshOf, mkR, hole, evL, evH, opd, get, putD, ofVal, cellOf, loadE, behind, lenE, idxAddrE, idxE, addPtr, intE, strE, unE, convE, AV.int, AV.bool, AV.str, ivs, take, frameOf, firstRegion, refsA, refsL, one, cellsA, floatOk, apartT, List.map, if_true, if_false, E_P, E_glob, reduceCtorEq, beq_self_eq_true, decide_true, decide_false, ↓reduceIte, Nat.reduceEqDiff, cond_true, cond_false, or_true, true_or, or_false, false_or, and_true, true_and, and_self, false_and, and_false, not_true, not_false_iff, Nat.reduceAdd, Nat.reduceSub, Nat.reduceMul, Nat.reduceLT, Nat.reduceLeDiff, Int.reduceToNat, Int.reduceLT, Int.reduceLE, Option.getD, Int.reduceMul, Int.reduceAdd, List.drop, List.take, Nat.reduceBEq, List.isEmpty, Int.reduceEq, Int.reduceNe, Int.reduceNeg, Int.reduceGT, Int.reduceGE, beq_true, beq_false, UInt8.reduceToNat, eqE, eq_self, foldE, maxE, minE, eq_T, eq_F, ndec, odec, adec, sdec, fillA, over, chop, List.replicate, leavesOk, leafOk, cellsEq, cellEq, E_ext, E_byref, en9, hb, c2, c3, hik, show ∀ B fr H, execT E B 9 (Code.loop _) fr H = rlM E B 9 (loopAt Try.f9 0) [1, 4, 6, 7] [] (matF [] fr H).1 (matB [(6, 3, 7)] (matF [] fr H).1 (matF [] fr H).2) from fun B fr H => rl_introM rfl mt9_5 mb9_5 zf9_5 hd9_5 fr H]
        · simp (disch := first | omega | (simp only [List.length_append, List.length_map, List.length_set, List.length_cons, List.length_nil, List.length_take, List.length_drop]; omega)) only [va0, va1, va2, va3, va4, va5, va6, va7, va8, va9, va10, va11, va12, va13, va14, vb0, vb1, vb2, vb3, w_i8, w_u8, w_i16, w_u16, w_i32, w_u32, w_i64, w_u64, lt_T, lt_F, le_T, le_F, nlt_T, nlt_F, nle_T, nle_F, List.take_of_length_le, gB, gcW, gcR, posIn, renA, renL, Chunk.ren, Chunk.refs, evOpD, touchD, stepC, isFresh, nFresh, freshOf, mkR, hole, evL, evH, opd, get, putD, ofVal, cellOf, loadE, behind, lenE, idxAddrE, idxE, addPtr, intE, strE, unE, convE, AV.int, AV.bool, AV.str, ivs, take, frameOf, firstRegion, refsA, refsL, one, cellsA, floatOk, apartT, List.map, if_true, if_false, E_P, E_glob, reduceCtorEq, beq_self_eq_true, decide_true, decide_false, ↓reduceIte, Nat.reduceEqDiff, cond_true, cond_false, or_true, true_or, or_false, false_or, and_true, true_and, and_self, false_and, and_false, not_true, not_false_iff, Nat.reduceAdd, Nat.reduceSub, Nat.reduceMul, Nat.reduceLT, Nat.reduceLeDiff, Int.reduceToNat, Int.reduceLT, Int.reduceLE, Option.getD, Int.reduceMul, Int.reduceAdd, List.drop, List.take, Nat.reduceBEq, List.isEmpty, Int.reduceEq, Int.reduceNe, Int.reduceNeg, Int.reduceGT, Int.reduceGE, beq_true, beq_false, UInt8.reduceToNat, eqE, eq_self, foldE, maxE, minE, eq_T, eq_F, ndec, odec, adec, sdec, fillA, over, chop, List.replicate, leavesOk, leafOk, cellsEq, cellEq, E_ext, E_byref, en9, hb, c2, hik, show ∀ B fr H, execT E B 9 (Code.loop _) fr H = rlM E B 9 (loopAt Try.f9 0) [1, 4, 6, 7] [] (matF [] fr H).1 (matB [(6, 3, 7)] (matF [] fr H).1 (matF [] fr H).2) from fun B fr H => rl_introM rfl mt9_5 mb9_5 zf9_5 hd9_5 fr H]
      | cons y pe => simp (disch := first | omega | (simp only [List.length_append, List.length_map, List.length_set, List.length_cons, List.length_nil, List.length_take, List.length_drop]; omega)) only [va0, va1, va2, va3, va4, va5, va6, va7, va8, va9, va10, va11, va12, va13, va14, vb0, vb1, vb2, vb3, w_i8, w_u8, w_i16, w_u16, w_i32, w_u32, w_i64, w_u64, lt_T, lt_F, le_T, le_F, nlt_T, nlt_F, nle_T, nle_F, List.take_of_length_le, gB, gcW, gcR, posIn, renA, renL, Chunk.ren, Chunk.refs, evOpD, touchD, stepC, isFresh, nFresh, freshOf, mkR, hole, evL, evH, opd, get, putD, ofVal, cellOf, loadE, behind, lenE, idxAddrE, idxE, addPtr, intE, strE, unE, convE, AV.int, AV.bool, AV.str, ivs, take, frameOf, firstRegion, refsA, refsL, one, cellsA, floatOk, apartT, List.map, if_true, if_false, E_P, E_glob, reduceCtorEq, beq_self_eq_true, decide_true, decide_false, ↓reduceIte, Nat.reduceEqDiff, cond_true, cond_false, or_true, true_or, or_false, false_or, and_true, true_and, and_self, false_and, and_false, not_true, not_false_iff, Nat.reduceAdd, Nat.reduceSub, Nat.reduceMul, Nat.reduceLT, Nat.reduceLeDiff, Int.reduceToNat, Int.reduceLT, Int.reduceLE, Option.getD, Int.reduceMul, Int.reduceAdd, List.drop, List.take, Nat.reduceBEq, List.isEmpty, Int.reduceEq, Int.reduceNe, Int.reduceNeg, Int.reduceGT, Int.reduceGE, beq_true, beq_false, UInt8.reduceToNat, eqE, eq_self, foldE, maxE, minE, eq_T, eq_F, ndec, odec, adec, sdec, fillA, over, chop, List.replicate, leavesOk, leafOk, cellsEq, cellEq, E_ext, E_byref, en9, hb, hik, show ∀ B fr H, execT E B 9 (Code.loop _) fr H = rlM E B 9 (loopAt Try.f9 0) [1, 4, 6, 7] [] (matF [] fr H).1 (matB [(6, 3, 7)] (matF [] fr H).1 (matF [] fr H).2) from fun B fr H => rl_introM rfl mt9_5 mb9_5 zf9_5 hd9_5 fr H]
    · simp (disch := first | omega | (simp only [List.length_append, List.length_map, List.length_set, List.length_cons, List.length_nil, List.length_take, List.length_drop]; omega)) only [va0, va1, va2, va3, va4, va5, va6, va7, va8, va9, va10, va11, va12, va13, va14, vb0, vb1, vb2, vb3, w_i8, w_u8, w_i16, w_u16, w_i32, w_u32, w_i64, w_u64, lt_T, lt_F, le_T, le_F, nlt_T, nlt_F, nle_T, nle_F, List.take_of_length_le, gB, gcW, gcR, posIn, renA, renL, Chunk.ren, Chunk.refs, evOpD, touchD, stepC, isFresh, nFresh, freshOf, mkR, hole, evL, evH, opd, get, putD, ofVal, cellOf, loadE, behind, lenE, idxAddrE, idxE, addPtr, intE, strE, unE, convE, AV.int, AV.bool, AV.str, ivs, take, frameOf, firstRegion, refsA, refsL, one, cellsA, floatOk, apartT, List.map, if_true, if_false, E_P, E_glob, reduceCtorEq, beq_self_eq_true, decide_true, decide_false, ↓reduceIte, Nat.reduceEqDiff, cond_true, cond_false, or_true, true_or, or_false, false_or, and_true, true_and, and_self, false_and, and_false, not_true, not_false_iff, Nat.reduceAdd, Nat.reduceSub, Nat.reduceMul, Nat.reduceLT, Nat.reduceLeDiff, Int.reduceToNat, Int.reduceLT, Int.reduceLE, Option.getD, Int.reduceMul, Int.reduceAdd, List.drop, List.take, Nat.reduceBEq, List.isEmpty, Int.reduceEq, Int.reduceNe, Int.reduceNeg, Int.reduceGT, Int.reduceGE, beq_true, beq_false, UInt8.reduceToNat, eqE, eq_self, foldE, maxE, minE, eq_T, eq_F, ndec, odec, adec, sdec, fillA, over, chop, List.replicate, leavesOk, leafOk, cellsEq, cellEq, E_ext, E_byref, en9, hb, c1, hik, show ∀ B fr H, execT E B 9 (Code.loop _) fr H = rlM E B 9 (loopAt Try.f9 0) [1, 4, 6, 7] [] (matF [] fr H).1 (matB [(6, 3, 7)] (matF [] fr H).1 (matF [] fr H).2) from fun B fr H => rl_introM rfl mt9_5 mb9_5 zf9_5 hd9_5 fr H]
  · obtain rfl : k = s.length := by omega
    rw [List.drop_length, runF]
    simp (disch := first | omega | (simp only [List.length_append, List.length_map, List.length_set, List.length_cons, List.length_nil, List.length_take, List.length_drop]; omega)) only [va0, va1, va2, va3, va4, va5, va6, va7, va8, va9, va10, va11, va12, va13, va14, vb0, vb1, vb2, vb3, w_i8, w_u8, w_i16, w_u16, w_i32, w_u32, w_i64, w_u64, lt_T, lt_F, le_T, le_F, nlt_T, nlt_F, nle_T, nle_F, List.take_of_length_le, gB, gcW, gcR, posIn, renA, renL, Chunk.ren, Chunk.refs, evOpD, touchD, stepC, isFresh, nFresh, freshOf, mkR, hole, evL, evH, opd, get, putD, ofVal, cellOf, loadE, behind, lenE, idxAddrE, idxE, addPtr, intE, strE, unE, convE, AV.int, AV.bool, AV.str, ivs, take, frameOf, firstRegion, refsA, refsL, one, cellsA, floatOk, apartT, List.map, if_true, if_false, E_P, E_glob, reduceCtorEq, beq_self_eq_true, decide_true, decide_false, ↓reduceIte, Nat.reduceEqDiff, cond_true, cond_false, or_true, true_or, or_false, false_or, and_true, true_and, and_self, false_and, and_false, not_true, not_false_iff, Nat.reduceAdd, Nat.reduceSub, Nat.reduceMul, Nat.reduceLT, Nat.reduceLeDiff, Int.reduceToNat, Int.reduceLT, Int.reduceLE, Option.getD, Int.reduceMul, Int.reduceAdd, List.drop, List.take, Nat.reduceBEq, List.isEmpty, Int.reduceEq, Int.reduceNe, Int.reduceNeg, Int.reduceGT, Int.reduceGE, beq_true, beq_false, UInt8.reduceToNat, eqE, eq_self, foldE, maxE, minE, eq_T, eq_F, ndec, odec, adec, sdec, fillA, over, chop, List.replicate, leavesOk, leafOk, cellsEq, cellEq, E_ext, E_byref, en9, List.append_nil, List.length_nil, Nat.add_zero, show ∀ B fr H, execT E B 9 (Code.loop _) fr H = rlM E B 9 (loopAt Try.f9 0) [1, 4, 6, 7] [] (matF [] fr H).1 (matB [(6, 3, 7)] (matF [] fr H).1 (matF [] fr H).2) from fun B fr H => rl_introM rfl mt9_5 mb9_5 zf9_5 hd9_5 fr H]
    exact ⟨_, rfl, rfl, rfl⟩
termination_by s.length - k
end Go.VI
