import Derived.Lib.LaidTab
import Derived.MakeChecks
import Derived.Test.YtbacmnbjkhjopaaDoorZZM4
namespace Go.VI
open Go.Proofs
set_option maxRecDepth 100000
set_option linter.unusedSimpArgs false
set_option linter.unusedVariables false
set_option maxHeartbeats 4000000
def z0 : Mk := (false, List.replicate 16 false)
def hiddenS (l : List Ins) : Bool × Int := if (depthsS l).2 = 0 then (hRun (depthsS l).1 0 l (List.replicate (l.length + 1) z0), 0) else (false, (depthsS l).2)
theorem rowsM_rep (n : Nat) : List.replicate n [IV.v (.bool false), .v (.bool false), .v (.bool false), .v (.bool false), .v (.bool false), .v (.bool false), .v (.bool false), .v (.bool false), .v (.bool false), .v (.bool false), .v (.bool false), .v (.bool false), .v (.bool false), .v (.bool false), .v (.bool false), .v (.bool false), .v (.bool false)] = rowsM (List.replicate n z0) := by simp [rowsM, mI, z0, List.replicate]
theorem wf_rep (n : Nat) : Wf (List.replicate n z0) := fun m hm => by rw [List.eq_of_mem_replicate hm]; rfl
theorem c18 (l : List Ins) (hl : (l.length : Int) < 9223372036854775808) : ∃ L, callT E 18 [.i (.sl 2 (rowsI l) false)] [] = some (.tup [.i (.v (.bool (hiddenS l).1)), .i (.v (.int .i64 (hiddenS l).2))], L) := by
  have hD := fun H => ik12 l hl H
  unfold hiddenS
  by_cases h0 : (depthsS l).2 = 0
  rotate_left
  · rw [if_neg h0]
    generalize depthsS l = q at *
    rw [callT_eq Tryd.func18 rfl fok18 (by simp [Tryd.ntmps18])]
    simp (disch := first | omega | (simp only [List.length_append, List.length_map, List.length_set, List.length_cons, List.length_nil, List.length_take, List.length_drop]; omega)) only [va0, va1, va2, va3, va4, va5, va6, va7, va8, va9, va10, va11, va12, va13, va14, va15, vb0, vb1, vb2, vb3, w_i8, w_u8, w_i16, w_u16, w_i32, w_u32, w_i64, w_u64, lt_T, lt_F, le_T, le_F, nlt_T, nlt_F, nle_T, nle_F, List.take_of_length_le, gB, gcW, gcR, posIn, renA, renL, Chunk.ren, Chunk.refs, evOpD, touchD, stepC, isFresh, nFresh, freshOf, mkR, hole, evL, evH, opd, get, putD, ofVal, cellOf, loadE, behind, lenE, idxAddrE, idxE, addPtr, intE, strE, unE, convE, AV.int, AV.bool, AV.str, ivs, take, frameOf, firstRegion, refsA, refsL, one, cellsA, floatOk, apartT, List.map, if_true, if_false, E_P, E_glob0, E_glob1, reduceCtorEq, beq_self_eq_true, decide_true, decide_false, ↓reduceIte, Nat.reduceEqDiff, cond_true, cond_false, or_true, true_or, or_false, false_or, and_true, true_and, and_self, false_and, and_false, not_true, not_false_iff, Nat.reduceAdd, Nat.reduceSub, Nat.reduceMul, Nat.reduceLT, Nat.reduceLeDiff, Int.reduceToNat, Int.reduceLT, Int.reduceLE, Option.getD, Int.reduceMul, Int.reduceAdd, List.drop, List.take, Nat.reduceBEq, List.isEmpty, Int.reduceEq, Int.reduceNe, Int.reduceNeg, Int.reduceGT, Int.reduceGE, beq_true, beq_false, UInt8.reduceToNat, eqE, eq_self, foldE, maxE, minE, eq_T, eq_F, ndec, odec, adec, sdec, fillA, over, chop, List.replicate, leavesOk, leafOk, cellsEq, cellEq, E_ext, E_byref, en18, bs22, bs24, bs55, hD, h0]
    exact ⟨_, rfl⟩
  · rw [if_pos h0]
    obtain ⟨fin, hc0, hdr, hf1, hf2⟩ := depths_ok h0
    have h5 := check_len hc0
    have hdok := depths_dok h0
    rw [h0] at hD
    generalize (depthsS l).1 = ds at *
    have hnn : ((l.length : Int) + 1).toNat = l.length + 1 := by omega
    obtain ⟨fr, ex, H', e, hh⟩ := l18_0 l h5 (good_of hc0) ds hdok (l.length + 1) rfl 0 (Nat.zero_le _) (List.replicate (l.length + 1) z0) (by simp) (wf_rep _)
    rw [List.drop_zero] at hh
    generalize hRun ds 0 l (List.replicate (l.length + 1) z0) = b at *
    have e' : rl E 0 18 (loopAt Tryd.f18 0) [(2, .i (.v (.bool false))), (3, .i (.v (.int .i64 0))), (4, .i (.sl 1 (rows64 ds) false)), (6, .ptr 0 0 0 0), (25, .i (.sl 2 (rowsI l) false)), (26, .i (.v (.int .i64 l.length))), (27, .i (.v (.int .i64 (0))))] [.box [.ref 1 0 0 (l.length + 1)], .sl 17 0 ([IV.v (.bool false), .v (.bool false), .v (.bool false), .v (.bool false), .v (.bool false), .v (.bool false), .v (.bool false), .v (.bool false), .v (.bool false), .v (.bool false), .v (.bool false), .v (.bool false), .v (.bool false), .v (.bool false), .v (.bool false), .v (.bool false), .v (.bool false)] :: rowsM (List.replicate l.length z0)) false] = _ := e
    clear e
    cases b
    · obtain rfl : ex = .exit 0 := hh
      rw [callT_eq Tryd.func18 rfl fok18 (by simp [Tryd.ntmps18])]
      simp (disch := first | omega | (simp only [List.length_append, List.length_map, List.length_set, List.length_cons, List.length_nil, List.length_take, List.length_drop, rowsI_len, rowsM_len]; omega)) only [va0, va1, va2, va3, va4, va5, va6, va7, va8, va9, va10, va11, va12, va13, va14, va15, vb0, vb1, vb2, vb3, w_i8, w_u8, w_i16, w_u16, w_i32, w_u32, w_i64, w_u64, lt_T, lt_F, le_T, le_F, nlt_T, nlt_F, nle_T, nle_F, List.take_of_length_le, gB, gcW, gcR, posIn, renA, renL, Chunk.ren, Chunk.refs, evOpD, touchD, stepC, isFresh, nFresh, freshOf, mkR, hole, evL, evH, opd, get, putD, ofVal, cellOf, loadE, behind, lenE, idxAddrE, idxE, addPtr, intE, strE, unE, convE, AV.int, AV.bool, AV.str, ivs, take, frameOf, firstRegion, refsA, refsL, one, cellsA, floatOk, apartT, List.map, if_true, if_false, E_P, E_glob0, E_glob1, reduceCtorEq, beq_self_eq_true, decide_true, decide_false, ↓reduceIte, Nat.reduceEqDiff, cond_true, cond_false, or_true, true_or, or_false, false_or, and_true, true_and, and_self, false_and, and_false, not_true, not_false_iff, Nat.reduceAdd, Nat.reduceSub, Nat.reduceMul, Nat.reduceLT, Nat.reduceLeDiff, Int.reduceToNat, Int.reduceLT, Int.reduceLE, Option.getD, Int.reduceMul, Int.reduceAdd, List.drop, List.take, Nat.reduceBEq, List.isEmpty, Int.reduceEq, Int.reduceNe, Int.reduceNeg, Int.reduceGT, Int.reduceGE, beq_true, beq_false, UInt8.reduceToNat, eqE, eq_self, foldE, maxE, minE, eq_T, eq_F, ndec, odec, adec, sdec, fillA, over, chop, List.replicate, leavesOk, leafOk, cellsEq, cellEq, E_ext, E_byref, en18, bs22, bs24, bs55, hD, hnn, rowsI_len, rowsM_len, rowsM_rep, e', show ∀ B fr H, execT E B 18 (Code.loop _) fr H = rlG E B 18 (loopAt Tryd.f18 0) (gcn B (norm [2, 3, 4, 6, 25, 26, 27] fr) H) from fun B fr H => rl_intro rfl mt18_6 mb18_6 zf18_6 hd18_6 fr H]
      exact ⟨_, rfl⟩
    · obtain ⟨rfl, g2, g3⟩ := hh
      rw [callT_eq Tryd.func18 rfl fok18 (by simp [Tryd.ntmps18])]
      simp (disch := first | omega | (simp only [List.length_append, List.length_map, List.length_set, List.length_cons, List.length_nil, List.length_take, List.length_drop, rowsI_len, rowsM_len]; omega)) only [va0, va1, va2, va3, va4, va5, va6, va7, va8, va9, va10, va11, va12, va13, va14, va15, vb0, vb1, vb2, vb3, w_i8, w_u8, w_i16, w_u16, w_i32, w_u32, w_i64, w_u64, lt_T, lt_F, le_T, le_F, nlt_T, nlt_F, nle_T, nle_F, List.take_of_length_le, gB, gcW, gcR, posIn, renA, renL, Chunk.ren, Chunk.refs, evOpD, touchD, stepC, isFresh, nFresh, freshOf, mkR, hole, evL, evH, opd, get, putD, ofVal, cellOf, loadE, behind, lenE, idxAddrE, idxE, addPtr, intE, strE, unE, convE, AV.int, AV.bool, AV.str, ivs, take, frameOf, firstRegion, refsA, refsL, one, cellsA, floatOk, apartT, List.map, if_true, if_false, E_P, E_glob0, E_glob1, reduceCtorEq, beq_self_eq_true, decide_true, decide_false, ↓reduceIte, Nat.reduceEqDiff, cond_true, cond_false, or_true, true_or, or_false, false_or, and_true, true_and, and_self, false_and, and_false, not_true, not_false_iff, Nat.reduceAdd, Nat.reduceSub, Nat.reduceMul, Nat.reduceLT, Nat.reduceLeDiff, Int.reduceToNat, Int.reduceLT, Int.reduceLE, Option.getD, Int.reduceMul, Int.reduceAdd, List.drop, List.take, Nat.reduceBEq, List.isEmpty, Int.reduceEq, Int.reduceNe, Int.reduceNeg, Int.reduceGT, Int.reduceGE, beq_true, beq_false, UInt8.reduceToNat, eqE, eq_self, foldE, maxE, minE, eq_T, eq_F, ndec, odec, adec, sdec, fillA, over, chop, List.replicate, leavesOk, leafOk, cellsEq, cellEq, E_ext, E_byref, en18, bs22, bs24, bs55, hD, hnn, rowsI_len, rowsM_len, rowsM_rep, e', g2, g3, show ∀ B fr H, execT E B 18 (Code.loop _) fr H = rlG E B 18 (loopAt Tryd.f18 0) (gcn B (norm [2, 3, 4, 6, 25, 26, 27] fr) H) from fun B fr H => rl_intro rfl mt18_6 mb18_6 zf18_6 hd18_6 fr H]
      exact ⟨_, rfl⟩
theorem ik18 (l : List Ins) (hl : (l.length : Int) < 9223372036854775808) (H : Hp) : isoK E (callT E) 18 [.i (.sl 2 (rowsI l) false)] H = some (.tup [.i (.v (.bool (hiddenS l).1)), .i (.v (.int .i64 (hiddenS l).2))], H) := isoK_val rfl rfl rfl (c18 l hl)
end Go.VI

namespace Go.VI
open Go.Proofs
set_option maxRecDepth 100000
set_option linter.unusedSimpArgs false
set_option linter.unusedVariables false
set_option maxHeartbeats 4000000
def FB (s : List Bool) : Prop := ∀ j, s.getD j false = false
theorem FB.set {s : List Bool} (h : FB s) (i : Nat) {a : Bool} (ha : a = false) : FB (s.set i a) := fun j => by
  rw [getD_set_bool]; split
  · exact ha
  · exact h j
theorem FB.clr : ∀ (r k : Nat) {s : List Bool}, FB s → FB (clr r k s)
  | 0, k, s, h => h
  | r + 1, k, s, h => by rw [VI.clr]; exact FB.clr r (k + 1) (h.set k rfl)
theorem FB.orR : ∀ (r j : Nat) {s t : List Bool}, FB s → FB t → FB (orR r j s t)
  | 0, j, s, t, hs, ht => ht
  | r + 1, j, s, t, hs, ht => by rw [VI.orR]; exact FB.orR r (j + 1) hs (ht.set j (by rw [ht j, hs j]; rfl))
def FM (m : Mk) : Prop := m.1 = false ∧ FB m.2
theorem FM.aft {m : Mk} (h : FM m) {op d : Int} (ho : ¬ (3 ≤ op ∧ op ≤ 5)) : FM (aft op d m.1 m.2) := by
  have h1 : FM (aft1 op d m.1 m.2) := by
    obtain ⟨h1, h2⟩ := h
    unfold aft1
    rw [if_neg ho]
    repeat' split
    · exact ⟨h1, h2.set _ (by rw [h2, h2]; rfl)⟩
    · exact ⟨h1, h2.set _ (h2 _)⟩
    · exact ⟨h1, (h2.set _ (h2 _)).set _ (h2 _)⟩
    · exact ⟨by rw [h1, h2]; rfl, h2⟩
    · exact ⟨h1, h2.set _ rfl⟩
    · exact ⟨h1, h2⟩
  exact ⟨h1.1, FB.clr _ _ h1.2⟩
theorem FM.join {m t : Mk} (h : FM m) (ht : FM t) : FM (joinM m t) := ⟨by rw [joinM, h.1, ht.1]; rfl, FB.orR _ _ h.2 ht.2⟩
def FL (ms : List Mk) : Prop := ∀ k, FM (getM ms k)
theorem getM_set_ne {ms : List Mk} {k j : Nat} (h : k ≠ j) (m : Mk) : getM (ms.set k m) j = getM ms j := by
  rw [getM, getM, List.getD_eq_getElem?_getD, List.getD_eq_getElem?_getD, List.getElem?_set_ne h]
theorem FL.set {ms : List Mk} (h : FL ms) (k : Nat) {m : Mk} (hm : FM m) : FL (ms.set k m) := fun j => by
  by_cases hk : k = j
  · subst hk
    by_cases hl : k < ms.length
    · rw [getM_set hl]; exact hm
    · rw [List.set_eq_of_length_le (by omega)]; exact h k
  · rw [getM_set_ne hk]; exact h j
theorem FL.hSet {m : Mk} (hm : FM m) : ∀ (xs : List Int) {ms : List Mk}, FL ms → FL (hSet m xs ms)
  | [], ms, h => h
  | x :: xs, ms, h => by rw [VI.hSet]; exact FL.hSet hm xs (h.set _ (hm.join (h _)))
def LB (s t : List Bool) : Prop := s.length = t.length ∧ ∀ j, s.getD j false = true → t.getD j false = true
theorem LB.set {s t : List Bool} (h : LB s t) (i : Nat) {a b : Bool} (hab : a = true → b = true) : LB (s.set i a) (t.set i b) := ⟨by simp [h.1], fun j => by
  rw [getD_set_bool, getD_set_bool, h.1]
  split
  · exact hab
  · exact h.2 j⟩
theorem LB.clr : ∀ (r k : Nat) {s t : List Bool}, LB s t → LB (clr r k s) (clr r k t)
  | 0, k, s, t, h => h
  | r + 1, k, s, t, h => by rw [VI.clr, VI.clr]; exact LB.clr r (k + 1) (h.set k id)
theorem LB.orR : ∀ (r j : Nat) {s s' t t' : List Bool}, LB s s' → LB t t' → LB (orR r j s t) (orR r j s' t')
  | 0, j, s, s', t, t', hs, ht => ht
  | r + 1, j, s, s', t, t', hs, ht => by
    rw [VI.orR, VI.orR]
    refine LB.orR r (j + 1) hs (ht.set j fun h => ?_)
    rw [Bool.or_eq_true] at h ⊢
    exact h.imp (ht.2 j) (hs.2 j)
def LM (m t : Mk) : Prop := (m.1 = true → t.1 = true) ∧ LB m.2 t.2
theorem LM.aft {m t : Mk} (h : LM m t) (op d : Int) : LM (aft op d m.1 m.2) (aft op d t.1 t.2) := by
  have h1 : LM (aft1 op d m.1 m.2) (aft1 op d t.1 t.2) := by
    obtain ⟨h1, h2⟩ := h
    unfold aft1
    repeat' split
    · exact ⟨h1, h2.set _ id⟩
    · exact ⟨h1, h2.set _ fun h => by rw [Bool.or_eq_true] at h ⊢; exact h.imp (h2.2 _) (h2.2 _)⟩
    · exact ⟨h1, h2.set _ (h2.2 _)⟩
    · exact ⟨h1, (h2.set _ (h2.2 _)).set _ (h2.2 _)⟩
    · exact ⟨fun h => by rw [Bool.or_eq_true] at h ⊢; exact h.imp h1 (h2.2 _), h2⟩
    · exact ⟨h1, h2.set _ id⟩
    · exact ⟨h1, h2⟩
  exact ⟨h1.1, LB.clr _ _ h1.2⟩
theorem LM.aft13 {m t : Mk} (h : LM m t) (d : Int) : LM (VI.aft 1 d m.1 m.2) (VI.aft 3 d t.1 t.2) := by
  have h1 : LM (aft1 1 d m.1 m.2) (aft1 3 d t.1 t.2) := by
    unfold aft1
    rw [if_neg (by omega), if_neg (by omega), if_neg (by omega), if_neg (by omega), if_neg (by omega), if_pos ⟨by omega, by decide⟩, if_pos (by omega)]
    refine ⟨h.1, ?_⟩
    have e : (d - popS 3).toNat = d.toNat := by rw [show popS 3 = 0 from by decide, Int.sub_zero]
    rw [e]
    exact h.2.set _ (fun h => by cases h)
  refine ⟨h1.1, ?_⟩
  show LB (VI.clr _ _ _) (VI.clr _ _ _)
  rw [show popS 1 = popS 3 from by decide, show pushS 1 = pushS 3 from by decide]
  exact LB.clr _ _ h1.2
theorem LM.join {m m' t t' : Mk} (h : LM m m') (ht : LM t t') : LM (joinM m t) (joinM m' t') := ⟨fun h1 => by
  simp only [joinM, Bool.or_eq_true] at h1 ⊢
  exact h1.imp ht.1 h.1, LB.orR _ _ h.2 ht.2⟩
def LL (ms ns : List Mk) : Prop := ms.length = ns.length ∧ ∀ k, LM (getM ms k) (getM ns k)
theorem LL.set {ms ns : List Mk} (h : LL ms ns) (k : Nat) {m t : Mk} (hm : LM m t) : LL (ms.set k m) (ns.set k t) := ⟨by simp [h.1], fun j => by
  by_cases hk : k = j
  · subst hk
    by_cases hl : k < ms.length
    · rw [getM_set hl, getM_set (by rw [← h.1]; exact hl)]; exact hm
    · rw [List.set_eq_of_length_le (by omega), List.set_eq_of_length_le (by rw [← h.1]; omega)]; exact h.2 k
  · rw [getM_set_ne hk, getM_set_ne hk]; exact h.2 j⟩
theorem LL.hSet {m t : Mk} (hm : LM m t) : ∀ (xs : List Int) {ms ns : List Mk}, LL ms ns → LL (hSet m xs ms) (hSet t xs ns)
  | [], ms, ns, h => h
  | x :: xs, ms, ns, h => by rw [VI.hSet, VI.hSet]; exact LL.hSet hm xs (h.set _ (hm.join (h.2 _)))
theorem LL.refl (ms : List Mk) : LL ms ms := ⟨rfl, fun k => ⟨id, rfl, fun j => id⟩⟩
def moreI (p q : Ins) : Prop := q = p ∨ p.1 = 1 ∧ q = (3, 0)
inductive F2 : List Ins → List Ins → Prop
  | nil : F2 [] []
  | cons {p q : Ins} {l m : List Ins} : moreI p q → F2 l m → F2 (p :: l) (q :: m)
theorem F2.len {l m : List Ins} (h : F2 l m) : l.length = m.length := by
  induction h with
  | nil => rfl
  | cons _ _ ih => simp [ih]
theorem F2.refl : ∀ l : List Ins, F2 l l
  | [] => .nil
  | p :: r => .cons (.inl rfl) (F2.refl r)
theorem F2.set : ∀ (l : List Ins) (k : Nat), (l.getD k (0, 0)).1 = 1 → F2 l (l.set k (3, 0))
  | [], k, h => by rw [List.getD_nil] at h; cases h
  | p :: r, 0, h => .cons (.inr ⟨h, rfl⟩) (F2.refl r)
  | p :: r, k + 1, h => .cons (.inl rfl) (F2.set r k h)
theorem sucL_13 (a b i : Int) : sucL 1 a i = sucL 3 b i := by
  unfold sucL; rw [if_neg (by omega), if_neg (by omega), if_neg (by omega), if_neg (by omega)]
theorem hRun_more (ds : List Int) : ∀ (l m : List Ins) (k : Nat) (ms ns : List Mk), F2 l m → LL ms ns → hRun ds k l ms = true → hRun ds k m ns = true
  | [], [], k, ms, ns, h, hl, ht => ht
  | p :: r, q :: r', k, ms, ns, .cons hp hr, hl, ht => by
    rw [hRun] at ht ⊢
    split at ht
    · rename_i hd
      rw [if_pos hd]; exact hRun_more ds r r' (k + 1) ms ns hr hl ht
    · rename_i hd
      rw [if_neg hd]
      have hk := hl.2 k
      have hlm : LM (aft p.1 (ds.getD k 0) (getM ms k).1 (getM ms k).2) (aft q.1 (ds.getD k 0) (getM ns k).1 (getM ns k).2) ∧ sucL p.1 p.2 k = sucL q.1 q.2 k := by
        rcases hp with rfl | ⟨h1, rfl⟩
        · exact ⟨hk.aft _ _, rfl⟩
        · rw [h1]; exact ⟨hk.aft13 _, sucL_13 _ _ _⟩
      split at ht
      · rename_i hc
        rw [if_pos ?_]
        rcases hp with rfl | ⟨h1, rfl⟩
        · exact ⟨hc.1, hc.2.imp hk.1 (hk.2.2 _)⟩
        · omega
      · split
        · rfl
        · rw [← hlm.2]
          exact hRun_more ds r r' (k + 1) _ _ hr (LL.hSet hlm.1 _ hl) ht
theorem dStep_13 (n i : Nat) {p q : Ins} (h : moreI p q) (out : List Int) : dStep n i q out = dStep n i p out := by
  rcases h with rfl | ⟨h1, rfl⟩
  · rfl
  · obtain ⟨op, arg⟩ := p
    simp only at h1
    subst h1
    unfold dStep
    simp only
    rw [show popS 3 = popS 1 from by decide, show pushS 3 = pushS 1 from by decide, sucL_13 arg 0]
theorem dRun_13 (n : Nat) : ∀ (l m : List Ins) (i : Nat) (out : List Int), F2 l m → dRun n i m out = dRun n i l out
  | [], [], i, out, h => rfl
  | p :: r, q :: r', i, out, .cons hp hr => by
    rw [dRun, dRun, dStep_13 n i hp]
    cases dStep n i p out with
    | none => rfl
    | some o => exact dRun_13 n r r' (i + 1) o hr
theorem chkL_13 (n : Int) : ∀ (l m : List Ins) (i : Nat), F2 l m → chkL n i l = 0 → chkL n i m = 0
  | [], [], i, h, h0 => rfl
  | p :: r, q :: r', i, .cons hp hr, h0 => by
    rw [chkL] at h0 ⊢
    split at h0
    · rename_i h1
      have h2 : chk1 n i q = 0 := by
        rcases hp with rfl | ⟨_, rfl⟩
        · exact h1
        · unfold chk1 boundsS; simp
      rw [if_pos h2]; exact chkL_13 n r r' (i + 1) hr h0
    · rename_i h1
      exact absurd h0 h1
theorem more_len {l m : List Ins} (h : F2 l m) : m.length = l.length := h.len.symm
theorem depths_13 {l m : List Ins} (h : F2 l m) (h0 : (depthsS l).2 = 0) : depthsS m = depthsS l := by
  obtain ⟨fin, hc0, hdr, hf1, hf2⟩ := depths_ok h0
  have hc : checkI m = 0 := by
    unfold checkI at hc0 ⊢
    rw [more_len h]
    split at hc0
    · cases hc0
    · rename_i h1
      rw [if_neg h1]; exact chkL_13 _ l m 0 h hc0
  unfold depthsS
  rw [if_pos hc, if_pos hc0, more_len h, dRun_13 l.length l m 0 _ h]
theorem hidden_more {l m : List Ins} (h : F2 l m) (h0 : (hiddenS l).2 = 0) : (hiddenS m).2 = 0 ∧ ((hiddenS l).1 = true → (hiddenS m).1 = true) := by
  have hd : (depthsS l).2 = 0 := by
    unfold hiddenS at h0
    split at h0
    · assumption
    · exact h0
  unfold hiddenS
  rw [depths_13 h hd, if_pos hd, if_pos hd, more_len h]
  exact ⟨rfl, hRun_more _ l m 0 _ _ h (LL.refl _)⟩
end Go.VI

namespace Go.VI
open Go.Proofs
set_option maxRecDepth 100000
set_option linter.unusedSimpArgs false
set_option linter.unusedVariables false
set_option maxHeartbeats 4000000
theorem rowsI_set (l : List Ins) (k : Nat) (p : Ins) : (rowsI l).set k [.v (.int .i64 p.1), .v (.int .i64 p.2)] = rowsI (l.set k p) := by simp [rowsI, List.map_set, insC]
theorem law10 (l : List Ins) (at_ : Int) (hl : l.length ≤ 9223372036854775807) (ha : 0 ≤ at_ ∧ at_ ≤ 65535) : ∃ L, callT E 10 [.i (.sl 2 (rowsI l) false), .i (.v (.int .u16 at_))] [] = some (.i (.v (.bool true)), L) := by
  by_cases h6 : 600 < (l.length : Int)
  · rw [callT_eq Tryd.func10 rfl fok10 (by simp [Tryd.ntmps10])]
    simp (disch := first | omega | (simp only [List.length_append, List.length_map, List.length_set, List.length_cons, List.length_nil, List.length_take, List.length_drop, rowsI_len]; omega)) only [va0, va1, va2, va3, va4, va5, va6, va7, va8, va9, va10, va11, va12, va13, va14, va15, vb0, vb1, vb2, vb3, w_i8, w_u8, w_i16, w_u16, w_i32, w_u32, w_i64, w_u64, lt_T, lt_F, le_T, le_F, nlt_T, nlt_F, nle_T, nle_F, List.take_of_length_le, gB, gcW, gcR, posIn, renA, renL, Chunk.ren, Chunk.refs, evOpD, touchD, stepC, isFresh, nFresh, freshOf, mkR, hole, evL, evH, opd, get, putD, ofVal, cellOf, loadE, behind, lenE, idxAddrE, idxE, addPtr, intE, strE, unE, convE, AV.int, AV.bool, AV.str, ivs, take, frameOf, firstRegion, refsA, refsL, one, cellsA, floatOk, apartT, List.map, if_true, if_false, E_P, E_glob0, E_glob1, reduceCtorEq, beq_self_eq_true, decide_true, decide_false, ↓reduceIte, Nat.reduceEqDiff, cond_true, cond_false, or_true, true_or, or_false, false_or, and_true, true_and, and_self, false_and, and_false, not_true, not_false_iff, Nat.reduceAdd, Nat.reduceSub, Nat.reduceMul, Nat.reduceLT, Nat.reduceLeDiff, Int.reduceToNat, Int.reduceLT, Int.reduceLE, Option.getD, Int.reduceMul, Int.reduceAdd, List.drop, List.take, Nat.reduceBEq, List.isEmpty, Int.reduceEq, Int.reduceNe, Int.reduceNeg, Int.reduceGT, Int.reduceGE, beq_true, beq_false, UInt8.reduceToNat, eqE, eq_self, foldE, maxE, minE, eq_T, eq_F, ndec, odec, adec, sdec, fillA, over, chop, List.replicate, leavesOk, leafOk, cellsEq, cellEq, E_ext, E_byref, en10, bs22, rowsI_len, h6, ik11]
    exact ⟨_, rfl⟩
  · by_cases h7 : (l.length : Int) = 0
    · rw [callT_eq Tryd.func10 rfl fok10 (by simp [Tryd.ntmps10])]
      simp (disch := first | omega | (simp only [List.length_append, List.length_map, List.length_set, List.length_cons, List.length_nil, List.length_take, List.length_drop, rowsI_len]; omega)) only [va0, va1, va2, va3, va4, va5, va6, va7, va8, va9, va10, va11, va12, va13, va14, va15, vb0, vb1, vb2, vb3, w_i8, w_u8, w_i16, w_u16, w_i32, w_u32, w_i64, w_u64, lt_T, lt_F, le_T, le_F, nlt_T, nlt_F, nle_T, nle_F, List.take_of_length_le, gB, gcW, gcR, posIn, renA, renL, Chunk.ren, Chunk.refs, evOpD, touchD, stepC, isFresh, nFresh, freshOf, mkR, hole, evL, evH, opd, get, putD, ofVal, cellOf, loadE, behind, lenE, idxAddrE, idxE, addPtr, intE, strE, unE, convE, AV.int, AV.bool, AV.str, ivs, take, frameOf, firstRegion, refsA, refsL, one, cellsA, floatOk, apartT, List.map, if_true, if_false, E_P, E_glob0, E_glob1, reduceCtorEq, beq_self_eq_true, decide_true, decide_false, ↓reduceIte, Nat.reduceEqDiff, cond_true, cond_false, or_true, true_or, or_false, false_or, and_true, true_and, and_self, false_and, and_false, not_true, not_false_iff, Nat.reduceAdd, Nat.reduceSub, Nat.reduceMul, Nat.reduceLT, Nat.reduceLeDiff, Int.reduceToNat, Int.reduceLT, Int.reduceLE, Option.getD, Int.reduceMul, Int.reduceAdd, List.drop, List.take, Nat.reduceBEq, List.isEmpty, Int.reduceEq, Int.reduceNe, Int.reduceNeg, Int.reduceGT, Int.reduceGE, beq_true, beq_false, UInt8.reduceToNat, eqE, eq_self, foldE, maxE, minE, eq_T, eq_F, ndec, odec, adec, sdec, fillA, over, chop, List.replicate, leavesOk, leafOk, cellsEq, cellEq, E_ext, E_byref, en10, bs22, rowsI_len, h6, h7, ik11]
      exact ⟨_, rfl⟩
    · have hH := fun H => ik18 l (by omega) H
      have hm := Int.tmod_eq_emod_of_nonneg (a := at_) (b := (l.length : Int)) ha.1
      have hm1 := Int.emod_nonneg at_ h7
      have hm2 := Int.emod_lt_of_pos at_ (show 0 < (l.length : Int) by omega)
      generalize at_ % (l.length : Int) = k at *
      have hlt : k.toNat < l.length := by omega
      have hrow := rowsI_at hlt
      by_cases h8 : (hiddenS l).2 = 0
      · by_cases h9 : l[k.toNat].1 = 1
        · have hf := F2.set l k.toNat (by rw [good_getD hlt]; exact h9)
          have hset := rowsI_set l k.toNat (3, 0)
          have hln : (l.set k.toNat (3, 0)).length = l.length := List.length_set
          obtain ⟨m1, m2⟩ := hidden_more hf h8
          generalize l.set k.toNat (3, 0) = m at *
          have hG := fun H => ik18 m (by omega) H
          rw [h8] at hH
          rw [m1] at hG
          rw [h9] at hrow
          generalize l[k.toNat].2 = arg at *
          have ht : List.take l.length (rowsI l) = rowsI l := List.take_of_length_le (by rw [rowsI_len]; exact Nat.le_refl _)
          have ht2 : List.take l.length (rowsI m) = rowsI m := List.take_of_length_le (by rw [rowsI_len, hln]; exact Nat.le_refl _)
          generalize (hiddenS l).1 = a at *
          generalize (hiddenS m).1 = b at *
          simp only at hset
          cases a
          · rw [callT_eq Tryd.func10 rfl fok10 (by simp [Tryd.ntmps10])]
            simp (disch := first | omega | (simp only [List.length_append, List.length_map, List.length_set, List.length_cons, List.length_nil, List.length_take, List.length_drop, rowsI_len]; omega)) only [va0, va1, va2, va3, va4, va5, va6, va7, va8, va9, va10, va11, va12, va13, va14, va15, vb0, vb1, vb2, vb3, w_i8, w_u8, w_i16, w_u16, w_i32, w_u32, w_i64, w_u64, lt_T, lt_F, le_T, le_F, nlt_T, nlt_F, nle_T, nle_F, List.take_of_length_le, gB, gcW, gcR, posIn, renA, renL, Chunk.ren, Chunk.refs, evOpD, touchD, stepC, isFresh, nFresh, freshOf, mkR, hole, evL, evH, opd, get, putD, ofVal, cellOf, loadE, behind, lenE, idxAddrE, idxE, addPtr, intE, strE, unE, convE, AV.int, AV.bool, AV.str, ivs, take, frameOf, firstRegion, refsA, refsL, one, cellsA, floatOk, apartT, List.map, if_true, if_false, E_P, E_glob0, E_glob1, reduceCtorEq, beq_self_eq_true, decide_true, decide_false, ↓reduceIte, Nat.reduceEqDiff, cond_true, cond_false, or_true, true_or, or_false, false_or, and_true, true_and, and_self, false_and, and_false, not_true, not_false_iff, Nat.reduceAdd, Nat.reduceSub, Nat.reduceMul, Nat.reduceLT, Nat.reduceLeDiff, Int.reduceToNat, Int.reduceLT, Int.reduceLE, Option.getD, Int.reduceMul, Int.reduceAdd, List.drop, List.take, Nat.reduceBEq, List.isEmpty, Int.reduceEq, Int.reduceNe, Int.reduceNeg, Int.reduceGT, Int.reduceGE, beq_true, beq_false, UInt8.reduceToNat, eqE, eq_self, foldE, maxE, minE, eq_T, eq_F, ndec, odec, adec, sdec, fillA, over, chop, List.replicate, leavesOk, leafOk, cellsEq, cellEq, E_ext, E_byref, en10, bs22, rowsI_len, h6, h7, hH, hG, hm, hrow, hset, hln, ht, ht2, ik11]
            exact ⟨_, rfl⟩
          · have := m2 rfl
            subst this
            rw [callT_eq Tryd.func10 rfl fok10 (by simp [Tryd.ntmps10])]
            simp (disch := first | omega | (simp only [List.length_append, List.length_map, List.length_set, List.length_cons, List.length_nil, List.length_take, List.length_drop, rowsI_len]; omega)) only [va0, va1, va2, va3, va4, va5, va6, va7, va8, va9, va10, va11, va12, va13, va14, va15, vb0, vb1, vb2, vb3, w_i8, w_u8, w_i16, w_u16, w_i32, w_u32, w_i64, w_u64, lt_T, lt_F, le_T, le_F, nlt_T, nlt_F, nle_T, nle_F, List.take_of_length_le, gB, gcW, gcR, posIn, renA, renL, Chunk.ren, Chunk.refs, evOpD, touchD, stepC, isFresh, nFresh, freshOf, mkR, hole, evL, evH, opd, get, putD, ofVal, cellOf, loadE, behind, lenE, idxAddrE, idxE, addPtr, intE, strE, unE, convE, AV.int, AV.bool, AV.str, ivs, take, frameOf, firstRegion, refsA, refsL, one, cellsA, floatOk, apartT, List.map, if_true, if_false, E_P, E_glob0, E_glob1, reduceCtorEq, beq_self_eq_true, decide_true, decide_false, ↓reduceIte, Nat.reduceEqDiff, cond_true, cond_false, or_true, true_or, or_false, false_or, and_true, true_and, and_self, false_and, and_false, not_true, not_false_iff, Nat.reduceAdd, Nat.reduceSub, Nat.reduceMul, Nat.reduceLT, Nat.reduceLeDiff, Int.reduceToNat, Int.reduceLT, Int.reduceLE, Option.getD, Int.reduceMul, Int.reduceAdd, List.drop, List.take, Nat.reduceBEq, List.isEmpty, Int.reduceEq, Int.reduceNe, Int.reduceNeg, Int.reduceGT, Int.reduceGE, beq_true, beq_false, UInt8.reduceToNat, eqE, eq_self, foldE, maxE, minE, eq_T, eq_F, ndec, odec, adec, sdec, fillA, over, chop, List.replicate, leavesOk, leafOk, cellsEq, cellEq, E_ext, E_byref, en10, bs22, rowsI_len, h6, h7, hH, hG, hm, hrow, hset, hln, ht, ht2, ik11]
            exact ⟨_, rfl⟩
        · rw [h8] at hH
          generalize l[k.toNat].1 = op at *
          generalize l[k.toNat].2 = arg at *
          generalize (hiddenS l).1 = a at *
          rw [callT_eq Tryd.func10 rfl fok10 (by simp [Tryd.ntmps10])]
          simp (disch := first | omega | (simp only [List.length_append, List.length_map, List.length_set, List.length_cons, List.length_nil, List.length_take, List.length_drop, rowsI_len]; omega)) only [va0, va1, va2, va3, va4, va5, va6, va7, va8, va9, va10, va11, va12, va13, va14, va15, vb0, vb1, vb2, vb3, w_i8, w_u8, w_i16, w_u16, w_i32, w_u32, w_i64, w_u64, lt_T, lt_F, le_T, le_F, nlt_T, nlt_F, nle_T, nle_F, List.take_of_length_le, gB, gcW, gcR, posIn, renA, renL, Chunk.ren, Chunk.refs, evOpD, touchD, stepC, isFresh, nFresh, freshOf, mkR, hole, evL, evH, opd, get, putD, ofVal, cellOf, loadE, behind, lenE, idxAddrE, idxE, addPtr, intE, strE, unE, convE, AV.int, AV.bool, AV.str, ivs, take, frameOf, firstRegion, refsA, refsL, one, cellsA, floatOk, apartT, List.map, if_true, if_false, E_P, E_glob0, E_glob1, reduceCtorEq, beq_self_eq_true, decide_true, decide_false, ↓reduceIte, Nat.reduceEqDiff, cond_true, cond_false, or_true, true_or, or_false, false_or, and_true, true_and, and_self, false_and, and_false, not_true, not_false_iff, Nat.reduceAdd, Nat.reduceSub, Nat.reduceMul, Nat.reduceLT, Nat.reduceLeDiff, Int.reduceToNat, Int.reduceLT, Int.reduceLE, Option.getD, Int.reduceMul, Int.reduceAdd, List.drop, List.take, Nat.reduceBEq, List.isEmpty, Int.reduceEq, Int.reduceNe, Int.reduceNeg, Int.reduceGT, Int.reduceGE, beq_true, beq_false, UInt8.reduceToNat, eqE, eq_self, foldE, maxE, minE, eq_T, eq_F, ndec, odec, adec, sdec, fillA, over, chop, List.replicate, leavesOk, leafOk, cellsEq, cellEq, E_ext, E_byref, en10, bs22, rowsI_len, h6, h7, h9, hH, hm, hrow, ik11]
          exact ⟨_, rfl⟩
      · generalize hiddenS l = q at *
        generalize l[k.toNat].1 = op at *
        generalize l[k.toNat].2 = arg at *
        rw [callT_eq Tryd.func10 rfl fok10 (by simp [Tryd.ntmps10])]
        simp (disch := first | omega | (simp only [List.length_append, List.length_map, List.length_set, List.length_cons, List.length_nil, List.length_take, List.length_drop, rowsI_len]; omega)) only [va0, va1, va2, va3, va4, va5, va6, va7, va8, va9, va10, va11, va12, va13, va14, va15, vb0, vb1, vb2, vb3, w_i8, w_u8, w_i16, w_u16, w_i32, w_u32, w_i64, w_u64, lt_T, lt_F, le_T, le_F, nlt_T, nlt_F, nle_T, nle_F, List.take_of_length_le, gB, gcW, gcR, posIn, renA, renL, Chunk.ren, Chunk.refs, evOpD, touchD, stepC, isFresh, nFresh, freshOf, mkR, hole, evL, evH, opd, get, putD, ofVal, cellOf, loadE, behind, lenE, idxAddrE, idxE, addPtr, intE, strE, unE, convE, AV.int, AV.bool, AV.str, ivs, take, frameOf, firstRegion, refsA, refsL, one, cellsA, floatOk, apartT, List.map, if_true, if_false, E_P, E_glob0, E_glob1, reduceCtorEq, beq_self_eq_true, decide_true, decide_false, ↓reduceIte, Nat.reduceEqDiff, cond_true, cond_false, or_true, true_or, or_false, false_or, and_true, true_and, and_self, false_and, and_false, not_true, not_false_iff, Nat.reduceAdd, Nat.reduceSub, Nat.reduceMul, Nat.reduceLT, Nat.reduceLeDiff, Int.reduceToNat, Int.reduceLT, Int.reduceLE, Option.getD, Int.reduceMul, Int.reduceAdd, List.drop, List.take, Nat.reduceBEq, List.isEmpty, Int.reduceEq, Int.reduceNe, Int.reduceNeg, Int.reduceGT, Int.reduceGE, beq_true, beq_false, UInt8.reduceToNat, eqE, eq_self, foldE, maxE, minE, eq_T, eq_F, ndec, odec, adec, sdec, fillA, over, chop, List.replicate, leavesOk, leafOk, cellsEq, cellEq, E_ext, E_byref, en10, bs22, rowsI_len, h6, h7, h8, hH, hm, hrow, ik11]
        exact ⟨_, rfl⟩
theorem c10 (l : List Ins) (at_ : Int) (hl : l.length ≤ 9223372036854775807) (ha : 0 ≤ at_ ∧ at_ ≤ 65535) : ∃ L, callT E 10 [.i (.sl 2 (l.map fun a => insC a) false), .i (.v (.int .u16 at_))] [] = some (.i (.v (.bool true)), L) := law10 l at_ hl ha
end Go.VI

set_option linter.unusedSimpArgs false
set_option linter.unusedVariables false
namespace Go.VI
open Go.Proofs
theorem laid_tail {P : Program} {W : World} {x : String × DataW Unit} {l : List (String × DataW Unit)} (h : laidMet P (x :: l) W) : laidMet P l W := by
  obtain ⟨ps, ⟨g, t, cs, fuel, p, q, _, _, _, _, hr, rfl⟩, hnd, hrows⟩ := h
  exact ⟨q, hr, hnd.sublist (List.sublist_append_right _ _), fun b off hp => hrows b off (List.mem_append.2 (.inr hp))⟩
theorem glob_of_tabI {P : Program} {W : World} {name : String} {g : Nat} {tab : List Int} (hg : P.globalNamed name = some g) (h : Lib.TabIs P W name .i64 tab) : RelI (imm0 W) (.pt (tabT tab) 0) (.pointer (some ⟨g, 0, none⟩)) := by
  unfold Lib.TabIs World.var? at h
  rw [hg] at h
  simp only [Option.bind_some] at h
  split at h
  · rename_i cs e fz hh
    simp only [Option.some.injEq] at h
    refine .pt (tabT tab) 0 g 0 cs e fz (fun k => .int .i64 (tab.getD k 0)) hh (fun k a hk => ?_) (fun k a hk => ?_)
    · have hl : k < tab.length := by
        have := (List.getElem?_eq_some_iff.1 hk).1
        simpa [tabT] using this
      subst h
      simp [List.getD, hl]
    · have hl : k < tab.length := by
        have := (List.getElem?_eq_some_iff.1 hk).1
        simpa [tabT] using this
      simp only [tabT, List.getElem?_map, List.getElem?_eq_getElem hl, Option.map_some, Option.some.injEq] at hk
      subst hk
      simp [List.getD, hl]
      exact .v _ rfl
  · cases h
theorem globs2 {W : World} (h0 : Lib.TabIs Tryd.prog W "narrator/scriptverify.pops" .i64 popsL) (h1 : Lib.TabIs Tryd.prog W "narrator/scriptverify.pushes" .i64 pushesL) : ∀ g cells, E.glob g = some cells → RelI (imm0 W) (.pt cells 0) (.pointer (some ⟨g, 0, none⟩)) := by
  intro g cells hg
  rcases E_globI g cells hg with ⟨rfl, rfl⟩ | ⟨rfl, rfl⟩ | h'
  · exact glob_of_tabI (by kernel_rfl) h0
  · exact glob_of_tabI (by kernel_rfl) h1
  · exact h'.elim
end Go.VI

