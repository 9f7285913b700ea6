import Derived.Lib.LaidTab
import Derived.MakeChecks
import Derived.Test.YtbacmnbjkhjopaaDoorZZN4
namespace Go.VI
open Go.Proofs
set_option maxRecDepth 100000
set_option linter.unusedSimpArgs false
set_option linter.unusedVariables false
set_option maxHeartbeats 4000000
def z0 : Mk := (false, List.replicate 16 false)
def hiddenS (l : List Ins) : Bool × Int := if (depthsS l).2 = 0 then (hRun (depthsS l).1 0 l (List.replicate (l.length + 1) z0), 0) else (false, (depthsS l).2)
theorem rowsM_rep (n : Nat) : List.replicate n [IV.v (.bool false), .v (.bool false), .v (.bool false), .v (.bool false), .v (.bool false), .v (.bool false), .v (.bool false), .v (.bool false), .v (.bool false), .v (.bool false), .v (.bool false), .v (.bool false), .v (.bool false), .v (.bool false), .v (.bool false), .v (.bool false), .v (.bool false)] = rowsM (List.replicate n z0) := by simp [rowsM, mI, z0, List.replicate]
theorem wf_rep (n : Nat) : Wf (List.replicate n z0) := fun m hm => by rw [List.eq_of_mem_replicate hm]; rfl
theorem c18 (l : List Ins) (hl : (l.length : Int) < 9223372036854775808) : ∃ L, callT E 18 [.i (.sl 2 (rowsI l) false)] [] = some (.tup [.i (.v (.bool (hiddenS l).1)), .i (.v (.int .i64 (hiddenS l).2))], L) := by
  have hD := fun H => ik12 l hl H
  unfold hiddenS
  by_cases h0 : (depthsS l).2 = 0
  rotate_left
  · rw [if_neg h0]
    generalize depthsS l = q at *
    rw [callT_eq Tryd.func18 rfl fok18 (by simp [Tryd.ntmps18])]
    simp (disch := first | omega | (simp only [List.length_append, List.length_map, List.length_set, List.length_cons, List.length_nil, List.length_take, List.length_drop]; omega)) only [va0, va1, va2, va3, va4, va5, va6, va7, va8, va9, va10, va11, va12, va13, va14, va15, vb0, vb1, vb2, vb3, w_i8, w_u8, w_i16, w_u16, w_i32, w_u32, w_i64, w_u64, lt_T, lt_F, le_T, le_F, nlt_T, nlt_F, nle_T, nle_F, List.take_of_length_le, gB, gcW, gcR, posIn, renA, renL, Chunk.ren, Chunk.refs, evOpD, touchD, stepC, isFresh, nFresh, freshOf, mkR, hole, evL, evH, opd, get, putD, ofVal, cellOf, loadE, behind, lenE, idxAddrE, idxE, addPtr, intE, strE, unE, convE, AV.int, AV.bool, AV.str, ivs, take, frameOf, firstRegion, refsA, refsL, one, cellsA, floatOk, apartT, List.map, if_true, if_false, E_P, E_glob0, E_glob1, reduceCtorEq, beq_self_eq_true, decide_true, decide_false, ↓reduceIte, Nat.reduceEqDiff, cond_true, cond_false, or_true, true_or, or_false, false_or, and_true, true_and, and_self, false_and, and_false, not_true, not_false_iff, Nat.reduceAdd, Nat.reduceSub, Nat.reduceMul, Nat.reduceLT, Nat.reduceLeDiff, Int.reduceToNat, Int.reduceLT, Int.reduceLE, Option.getD, Int.reduceMul, Int.reduceAdd, List.drop, List.take, Nat.reduceBEq, List.isEmpty, Int.reduceEq, Int.reduceNe, Int.reduceNeg, Int.reduceGT, Int.reduceGE, beq_true, beq_false, UInt8.reduceToNat, eqE, eq_self, foldE, maxE, minE, eq_T, eq_F, ndec, odec, adec, sdec, fillA, over, chop, List.replicate, leavesOk, leafOk, cellsEq, cellEq, E_ext, E_byref, en18, bs22, bs24, bs55, hD, h0]
    exact ⟨_, rfl⟩
  · rw [if_pos h0]
    obtain ⟨fin, hc0, hdr, hf1, hf2⟩ := depths_ok h0
    have h5 := check_len hc0
    have hdok := depths_dok h0
    rw [h0] at hD
    generalize (depthsS l).1 = ds at *
    have hnn : ((l.length : Int) + 1).toNat = l.length + 1 := by omega
    obtain ⟨fr, ex, H', e, hh⟩ := l18_0 l h5 (good_of hc0) ds hdok (l.length + 1) rfl 0 (Nat.zero_le _) (List.replicate (l.length + 1) z0) (by simp) (wf_rep _)
    rw [List.drop_zero] at hh
    generalize hRun ds 0 l (List.replicate (l.length + 1) z0) = b at *
    have e' : rl E 0 18 (loopAt Tryd.f18 0) [(2, .i (.v (.bool false))), (3, .i (.v (.int .i64 0))), (4, .i (.sl 1 (rows64 ds) false)), (6, .ptr 0 0 0 0), (25, .i (.sl 2 (rowsI l) false)), (26, .i (.v (.int .i64 l.length))), (27, .i (.v (.int .i64 (0))))] [.box [.ref 1 0 0 (l.length + 1)], .sl 17 0 ([IV.v (.bool false), .v (.bool false), .v (.bool false), .v (.bool false), .v (.bool false), .v (.bool false), .v (.bool false), .v (.bool false), .v (.bool false), .v (.bool false), .v (.bool false), .v (.bool false), .v (.bool false), .v (.bool false), .v (.bool false), .v (.bool false), .v (.bool false)] :: rowsM (List.replicate l.length z0)) false] = _ := e
    clear e
    cases b
    · obtain rfl : ex = .exit 0 := hh
      rw [callT_eq Tryd.func18 rfl fok18 (by simp [Tryd.ntmps18])]
      simp (disch := first | omega | (simp only [List.length_append, List.length_map, List.length_set, List.length_cons, List.length_nil, List.length_take, List.length_drop, rowsI_len, rowsM_len]; omega)) only [va0, va1, va2, va3, va4, va5, va6, va7, va8, va9, va10, va11, va12, va13, va14, va15, vb0, vb1, vb2, vb3, w_i8, w_u8, w_i16, w_u16, w_i32, w_u32, w_i64, w_u64, lt_T, lt_F, le_T, le_F, nlt_T, nlt_F, nle_T, nle_F, List.take_of_length_le, gB, gcW, gcR, posIn, renA, renL, Chunk.ren, Chunk.refs, evOpD, touchD, stepC, isFresh, nFresh, freshOf, mkR, hole, evL, evH, opd, get, putD, ofVal, cellOf, loadE, behind, lenE, idxAddrE, idxE, addPtr, intE, strE, unE, convE, AV.int, AV.bool, AV.str, ivs, take, frameOf, firstRegion, refsA, refsL, one, cellsA, floatOk, apartT, List.map, if_true, if_false, E_P, E_glob0, E_glob1, reduceCtorEq, beq_self_eq_true, decide_true, decide_false, ↓reduceIte, Nat.reduceEqDiff, cond_true, cond_false, or_true, true_or, or_false, false_or, and_true, true_and, and_self, false_and, and_false, not_true, not_false_iff, Nat.reduceAdd, Nat.reduceSub, Nat.reduceMul, Nat.reduceLT, Nat.reduceLeDiff, Int.reduceToNat, Int.reduceLT, Int.reduceLE, Option.getD, Int.reduceMul, Int.reduceAdd, List.drop, List.take, Nat.reduceBEq, List.isEmpty, Int.reduceEq, Int.reduceNe, Int.reduceNeg, Int.reduceGT, Int.reduceGE, beq_true, beq_false, UInt8.reduceToNat, eqE, eq_self, foldE, maxE, minE, eq_T, eq_F, ndec, odec, adec, sdec, fillA, over, chop, List.replicate, leavesOk, leafOk, cellsEq, cellEq, E_ext, E_byref, en18, bs22, bs24, bs55, hD, hnn, rowsI_len, rowsM_len, rowsM_rep, e', show ∀ B fr H, execT E B 18 (Code.loop _) fr H = rlG E B 18 (loopAt Tryd.f18 0) (gcn B (norm [2, 3, 4, 6, 25, 26, 27] fr) H) from fun B fr H => rl_intro rfl mt18_6 mb18_6 zf18_6 hd18_6 fr H]
      exact ⟨_, rfl⟩
    · obtain ⟨rfl, g2, g3⟩ := hh
      rw [callT_eq Tryd.func18 rfl fok18 (by simp [Tryd.ntmps18])]
      simp (disch := first | omega | (simp only [List.length_append, List.length_map, List.length_set, List.length_cons, List.length_nil, List.length_take, List.length_drop, rowsI_len, rowsM_len]; omega)) only [va0, va1, va2, va3, va4, va5, va6, va7, va8, va9, va10, va11, va12, va13, va14, va15, vb0, vb1, vb2, vb3, w_i8, w_u8, w_i16, w_u16, w_i32, w_u32, w_i64, w_u64, lt_T, lt_F, le_T, le_F, nlt_T, nlt_F, nle_T, nle_F, List.take_of_length_le, gB, gcW, gcR, posIn, renA, renL, Chunk.ren, Chunk.refs, evOpD, touchD, stepC, isFresh, nFresh, freshOf, mkR, hole, evL, evH, opd, get, putD, ofVal, cellOf, loadE, behind, lenE, idxAddrE, idxE, addPtr, intE, strE, unE, convE, AV.int, AV.bool, AV.str, ivs, take, frameOf, firstRegion, refsA, refsL, one, cellsA, floatOk, apartT, List.map, if_true, if_false, E_P, E_glob0, E_glob1, reduceCtorEq, beq_self_eq_true, decide_true, decide_false, ↓reduceIte, Nat.reduceEqDiff, cond_true, cond_false, or_true, true_or, or_false, false_or, and_true, true_and, and_self, false_and, and_false, not_true, not_false_iff, Nat.reduceAdd, Nat.reduceSub, Nat.reduceMul, Nat.reduceLT, Nat.reduceLeDiff, Int.reduceToNat, Int.reduceLT, Int.reduceLE, Option.getD, Int.reduceMul, Int.reduceAdd, List.drop, List.take, Nat.reduceBEq, List.isEmpty, Int.reduceEq, Int.reduceNe, Int.reduceNeg, Int.reduceGT, Int.reduceGE, beq_true, beq_false, UInt8.reduceToNat, eqE, eq_self, foldE, maxE, minE, eq_T, eq_F, ndec, odec, adec, sdec, fillA, over, chop, List.replicate, leavesOk, leafOk, cellsEq, cellEq, E_ext, E_byref, en18, bs22, bs24, bs55, hD, hnn, rowsI_len, rowsM_len, rowsM_rep, e', g2, g3, show ∀ B fr H, execT E B 18 (Code.loop _) fr H = rlG E B 18 (loopAt Tryd.f18 0) (gcn B (norm [2, 3, 4, 6, 25, 26, 27] fr) H) from fun B fr H => rl_intro rfl mt18_6 mb18_6 zf18_6 hd18_6 fr H]
      exact ⟨_, rfl⟩
theorem ik18 (l : List Ins) (hl : (l.length : Int) < 9223372036854775808) (H : Hp) : isoK E (callT E) 18 [.i (.sl 2 (rowsI l) false)] H = some (.tup [.i (.v (.bool (hiddenS l).1)), .i (.v (.int .i64 (hiddenS l).2))], H) := isoK_val rfl rfl rfl (c18 l hl)
end Go.VI

namespace Go.VI
open Go.Proofs
set_option maxRecDepth 100000
set_option linter.unusedSimpArgs false
set_option linter.unusedVariables false
set_option maxHeartbeats 4000000
def FB (s : List Bool) : Prop := ∀ j, s.getD j false = false
theorem FB.set {s : List Bool} (h : FB s) (i : Nat) {a : Bool} (ha : a = false) : FB (s.set i a) := fun j => by
  rw [getD_set_bool]; split
  · exact ha
  · exact h j
theorem FB.clr : ∀ (r k : Nat) {s : List Bool}, FB s → FB (clr r k s)
  | 0, k, s, h => h
  | r + 1, k, s, h => by rw [VI.clr]; exact FB.clr r (k + 1) (h.set k rfl)
theorem FB.orR : ∀ (r j : Nat) {s t : List Bool}, FB s → FB t → FB (orR r j s t)
  | 0, j, s, t, hs, ht => ht
  | r + 1, j, s, t, hs, ht => by rw [VI.orR]; exact FB.orR r (j + 1) hs (ht.set j (by rw [ht j, hs j]; rfl))
def FM (m : Mk) : Prop := m.1 = false ∧ FB m.2
theorem FM.aft {m : Mk} (h : FM m) {op d : Int} (ho : ¬ (3 ≤ op ∧ op ≤ 5)) : FM (aft op d m.1 m.2) := by
  have h1 : FM (aft1 op d m.1 m.2) := by
    obtain ⟨h1, h2⟩ := h
    unfold aft1
    rw [if_neg ho]
    repeat' split
    · exact ⟨h1, h2.set _ (by rw [h2, h2]; rfl)⟩
    · exact ⟨h1, h2.set _ (h2 _)⟩
    · exact ⟨h1, (h2.set _ (h2 _)).set _ (h2 _)⟩
    · exact ⟨by rw [h1, h2]; rfl, h2⟩
    · exact ⟨h1, h2.set _ rfl⟩
    · exact ⟨h1, h2⟩
  exact ⟨h1.1, FB.clr _ _ h1.2⟩
theorem FM.join {m t : Mk} (h : FM m) (ht : FM t) : FM (joinM m t) := ⟨by rw [joinM, h.1, ht.1]; rfl, FB.orR _ _ h.2 ht.2⟩
def FL (ms : List Mk) : Prop := ∀ k, FM (getM ms k)
theorem getM_set_ne {ms : List Mk} {k j : Nat} (h : k ≠ j) (m : Mk) : getM (ms.set k m) j = getM ms j := by
  rw [getM, getM, List.getD_eq_getElem?_getD, List.getD_eq_getElem?_getD, List.getElem?_set_ne h]
theorem FL.set {ms : List Mk} (h : FL ms) (k : Nat) {m : Mk} (hm : FM m) : FL (ms.set k m) := fun j => by
  by_cases hk : k = j
  · subst hk
    by_cases hl : k < ms.length
    · rw [getM_set hl]; exact hm
    · rw [List.set_eq_of_length_le (by omega)]; exact h k
  · rw [getM_set_ne hk]; exact h j
theorem FL.hSet {m : Mk} (hm : FM m) : ∀ (xs : List Int) {ms : List Mk}, FL ms → FL (hSet m xs ms)
  | [], ms, h => h
  | x :: xs, ms, h => by rw [VI.hSet]; exact FL.hSet hm xs (h.set _ (hm.join (h _)))
theorem hRun_plain (ds : List Int) : ∀ (l : List Ins) (k : Nat) (ms : List Mk), FL ms → (∀ p ∈ l, ¬ (3 ≤ p.1 ∧ p.1 ≤ 5)) → hRun ds k l ms = false
  | [], k, ms, h, hl => rfl
  | p :: r, k, ms, h, hl => by
    have hp := hl p (.head _)
    have hr := fun q hq => hl q (.tail _ hq)
    rw [hRun]
    split
    · exact hRun_plain ds r (k + 1) ms h hr
    · rw [if_neg (by rintro ⟨_, h1 | h1⟩
                     · rw [(h k).1] at h1; cases h1
                     · rw [(h k).2] at h1; cases h1)]
      exact hRun_plain ds r (k + 1) _ (FL.hSet ((h k).aft hp) _ h) hr
theorem hRun_sets (ds : List Int) : ∀ (l : List Ins) (k : Nat) (ms : List Mk), (∀ p ∈ l, ¬ (p.1 = 19 ∨ p.1 = 20)) → hRun ds k l ms = false
  | [], k, ms, hl => rfl
  | p :: r, k, ms, hl => by
    have hp := hl p (.head _)
    have hr := fun q hq => hl q (.tail _ hq)
    rw [hRun]
    split
    · exact hRun_sets ds r (k + 1) ms hr
    · rw [if_neg (fun h => hp h.1)]
      exact hRun_sets ds r (k + 1) _ hr
theorem FL_rep (n : Nat) : FL (List.replicate n z0) := fun k => by
  have hz : FM z0 := ⟨rfl, fun j => by rw [z0, List.getD_eq_getElem?_getD, List.getElem?_replicate]; split <;> rfl⟩
  rw [getM, List.getD_eq_getElem?_getD, List.getElem?_replicate]
  split
  · exact hz
  · exact ⟨rfl, fun j => by simp⟩
def moreI (p q : Ins) : Prop := q = p ∨ p.1 = 1 ∧ q = (3, 0)
inductive F2 : List Ins → List Ins → Prop
  | nil : F2 [] []
  | cons {p q : Ins} {l m : List Ins} : moreI p q → F2 l m → F2 (p :: l) (q :: m)
theorem hidden_plain {l : List Ins} (h : (hiddenS l).1 = true) : (hiddenS l).2 = 0 ∧ (∃ p ∈ l, 3 ≤ p.1 ∧ p.1 ≤ 5) ∧ ∃ p ∈ l, p.1 = 19 ∨ p.1 = 20 := by
  unfold hiddenS at h ⊢
  split at h
  · rename_i hd
    rw [if_pos hd]
    refine ⟨rfl, Decidable.by_contra fun hn => ?_, Decidable.by_contra fun hn => ?_⟩
    · rw [hRun_plain _ l 0 _ (FL_rep _) (fun p hp hh => hn ⟨p, hp, hh⟩)] at h; cases h
    · rw [hRun_sets _ l 0 _ (fun p hp hh => hn ⟨p, hp, hh⟩)] at h; cases h
  · cases h
end Go.VI

namespace Go.VI
open Go.Proofs
set_option maxRecDepth 100000
set_option linter.unusedSimpArgs false
set_option linter.unusedVariables false
set_option maxHeartbeats 4000000
def rdB (op : Int) : Bool := decide (3 ≤ op ∧ op ≤ 5)
def sdB (op : Int) : Bool := decide (op = 19 ∨ op = 20)
def anyR : List Ins → Bool
  | [] => false
  | p :: r => rdB p.1 || anyR r
def anyS : List Ins → Bool
  | [] => false
  | p :: r => sdB p.1 || anyS r
theorem anyR_of : ∀ {l : List Ins}, (∃ p ∈ l, 3 ≤ p.1 ∧ p.1 ≤ 5) → anyR l = true
  | p :: r, ⟨q, hq, h⟩ => by
    rw [anyR, Bool.or_eq_true]
    rcases List.mem_cons.1 hq with rfl | hq
    · exact .inl (decide_eq_true h)
    · exact .inr (anyR_of ⟨q, hq, h⟩)
theorem anyS_of : ∀ {l : List Ins}, (∃ p ∈ l, p.1 = 19 ∨ p.1 = 20) → anyS l = true
  | p :: r, ⟨q, hq, h⟩ => by
    rw [anyS, Bool.or_eq_true]
    rcases List.mem_cons.1 hq with rfl | hq
    · exact .inl (decide_eq_true h)
    · exact .inr (anyS_of ⟨q, hq, h⟩)
theorem l9 (l : List Ins) (hl : l.length ≤ 600) (k : Nat) (hk : k ≤ l.length) (a b : Bool) :
    ∃ fr, rl E 0 9 (loopAt Tryd.f9 0) [(0, .i (.sl 2 (rowsI l) false)), (3, .i (.v (.bool a))), (4, .i (.v (.bool b))), (13, .i (.sl 2 (rowsI l) false)), (14, .i (.v (.int .i64 l.length))), (15, .i (.v (.int .i64 k)))] [] = some (.exit 0, fr, []) ∧ get 0 fr = .i (.sl 2 (rowsI l) false) ∧ get 3 fr = .i (.v (.bool (a || anyR (l.drop k)))) ∧ get 4 fr = .i (.v (.bool (b || anyS (l.drop k)))) := by
  rw [rl_step (fn := Tryd.f9) (k := 0) rfl]
  by_cases hlt : k < l.length
  · have hrow := rowsI_at hlt
    rw [List.drop_eq_getElem_cons hlt, anyR, anyS]
    have ih := fun a b => l9 l hl (k + 1) hlt a b
    obtain ⟨op, arg, hp⟩ : ∃ op arg, l[k] = (op, arg) := ⟨_, _, rfl⟩
    rw [hp] at hrow ⊢
    simp only at hrow ⊢
    have hc : op < 3 ∨ (3 ≤ op ∧ op ≤ 5) ∨ (5 < op ∧ op ≠ 19 ∧ op ≠ 20) ∨ op = 19 ∨ op = 20 := by omega
    rcases hc with hc | hc | hc | hc | hc
    · have hrb : rdB op = false := decide_eq_false (by omega)
      have hsb : sdB op = false := decide_eq_false (by omega)
      rw [hrb, hsb]
      obtain ⟨fr, e, g0, g3, g4⟩ := ih (a || false) (b || false)
      rw [Bool.or_assoc] at g3 g4
      refine ⟨fr, Eq.trans ?_ e, g0, g3, g4⟩
      clear e g0 g3 g4 ih hrb hsb
      cases a <;> cases b <;> simp only [Bool.true_or, Bool.false_or] <;> simp (disch := first | omega | (simp only [List.length_append, List.length_map, List.length_set, List.length_cons, List.length_nil, List.length_take, List.length_drop, rowsI_len]; omega)) only [va0, va1, va2, va3, va4, va5, va6, va7, va8, va9, va10, va11, va12, va13, va14, va15, vb0, vb1, vb2, vb3, w_i8, w_u8, w_i16, w_u16, w_i32, w_u32, w_i64, w_u64, lt_T, lt_F, le_T, le_F, nlt_T, nlt_F, nle_T, nle_F, List.take_of_length_le, gB, gcW, gcR, posIn, renA, renL, Chunk.ren, Chunk.refs, evOpD, touchD, stepC, isFresh, nFresh, freshOf, mkR, hole, evL, evH, opd, get, putD, ofVal, cellOf, loadE, behind, lenE, idxAddrE, idxE, addPtr, intE, strE, unE, convE, AV.int, AV.bool, AV.str, ivs, take, frameOf, firstRegion, refsA, refsL, one, cellsA, floatOk, apartT, List.map, if_true, if_false, E_P, E_glob0, E_glob1, reduceCtorEq, beq_self_eq_true, decide_true, decide_false, ↓reduceIte, Nat.reduceEqDiff, cond_true, cond_false, or_true, true_or, or_false, false_or, and_true, true_and, and_self, false_and, and_false, not_true, not_false_iff, Nat.reduceAdd, Nat.reduceSub, Nat.reduceMul, Nat.reduceLT, Nat.reduceLeDiff, Int.reduceToNat, Int.reduceLT, Int.reduceLE, Option.getD, Int.reduceMul, Int.reduceAdd, List.drop, List.take, Nat.reduceBEq, List.isEmpty, Int.reduceEq, Int.reduceNe, Int.reduceNeg, Int.reduceGT, Int.reduceGE, beq_true, beq_false, UInt8.reduceToNat, eqE, eq_self, foldE, maxE, minE, eq_T, eq_F, ndec, odec, adec, sdec, fillA, over, chop, List.replicate, leavesOk, leafOk, cellsEq, cellEq, E_ext, E_byref, en9, bs22, hrow, rowsI_len, Bool.true_or, Bool.false_or, show ∀ B fr H, execT E B 9 (Code.loop _) fr H = rlG E B 9 (loopAt Tryd.f9 0) (gcn B (norm [0, 3, 4, 13, 14, 15] fr) H) from fun B fr H => rl_intro rfl mt9_5 mb9_5 zf9_5 hd9_5 fr H]
    · have hrb : rdB op = true := decide_eq_true (by omega)
      have hsb : sdB op = false := decide_eq_false (by omega)
      rw [hrb, hsb]
      obtain ⟨fr, e, g0, g3, g4⟩ := ih (a || true) (b || false)
      rw [Bool.or_assoc] at g3 g4
      refine ⟨fr, Eq.trans ?_ e, g0, g3, g4⟩
      clear e g0 g3 g4 ih hrb hsb
      cases a <;> cases b <;> simp only [Bool.true_or, Bool.false_or] <;> simp (disch := first | omega | (simp only [List.length_append, List.length_map, List.length_set, List.length_cons, List.length_nil, List.length_take, List.length_drop, rowsI_len]; omega)) only [va0, va1, va2, va3, va4, va5, va6, va7, va8, va9, va10, va11, va12, va13, va14, va15, vb0, vb1, vb2, vb3, w_i8, w_u8, w_i16, w_u16, w_i32, w_u32, w_i64, w_u64, lt_T, lt_F, le_T, le_F, nlt_T, nlt_F, nle_T, nle_F, List.take_of_length_le, gB, gcW, gcR, posIn, renA, renL, Chunk.ren, Chunk.refs, evOpD, touchD, stepC, isFresh, nFresh, freshOf, mkR, hole, evL, evH, opd, get, putD, ofVal, cellOf, loadE, behind, lenE, idxAddrE, idxE, addPtr, intE, strE, unE, convE, AV.int, AV.bool, AV.str, ivs, take, frameOf, firstRegion, refsA, refsL, one, cellsA, floatOk, apartT, List.map, if_true, if_false, E_P, E_glob0, E_glob1, reduceCtorEq, beq_self_eq_true, decide_true, decide_false, ↓reduceIte, Nat.reduceEqDiff, cond_true, cond_false, or_true, true_or, or_false, false_or, and_true, true_and, and_self, false_and, and_false, not_true, not_false_iff, Nat.reduceAdd, Nat.reduceSub, Nat.reduceMul, Nat.reduceLT, Nat.reduceLeDiff, Int.reduceToNat, Int.reduceLT, Int.reduceLE, Option.getD, Int.reduceMul, Int.reduceAdd, List.drop, List.take, Nat.reduceBEq, List.isEmpty, Int.reduceEq, Int.reduceNe, Int.reduceNeg, Int.reduceGT, Int.reduceGE, beq_true, beq_false, UInt8.reduceToNat, eqE, eq_self, foldE, maxE, minE, eq_T, eq_F, ndec, odec, adec, sdec, fillA, over, chop, List.replicate, leavesOk, leafOk, cellsEq, cellEq, E_ext, E_byref, en9, bs22, hrow, rowsI_len, Bool.true_or, Bool.false_or, show ∀ B fr H, execT E B 9 (Code.loop _) fr H = rlG E B 9 (loopAt Tryd.f9 0) (gcn B (norm [0, 3, 4, 13, 14, 15] fr) H) from fun B fr H => rl_intro rfl mt9_5 mb9_5 zf9_5 hd9_5 fr H]
    · have hrb : rdB op = false := decide_eq_false (by omega)
      have hsb : sdB op = false := decide_eq_false (by omega)
      rw [hrb, hsb]
      obtain ⟨fr, e, g0, g3, g4⟩ := ih (a || false) (b || false)
      rw [Bool.or_assoc] at g3 g4
      refine ⟨fr, Eq.trans ?_ e, g0, g3, g4⟩
      clear e g0 g3 g4 ih hrb hsb
      cases a <;> cases b <;> simp only [Bool.true_or, Bool.false_or] <;> simp (disch := first | omega | (simp only [List.length_append, List.length_map, List.length_set, List.length_cons, List.length_nil, List.length_take, List.length_drop, rowsI_len]; omega)) only [va0, va1, va2, va3, va4, va5, va6, va7, va8, va9, va10, va11, va12, va13, va14, va15, vb0, vb1, vb2, vb3, w_i8, w_u8, w_i16, w_u16, w_i32, w_u32, w_i64, w_u64, lt_T, lt_F, le_T, le_F, nlt_T, nlt_F, nle_T, nle_F, List.take_of_length_le, gB, gcW, gcR, posIn, renA, renL, Chunk.ren, Chunk.refs, evOpD, touchD, stepC, isFresh, nFresh, freshOf, mkR, hole, evL, evH, opd, get, putD, ofVal, cellOf, loadE, behind, lenE, idxAddrE, idxE, addPtr, intE, strE, unE, convE, AV.int, AV.bool, AV.str, ivs, take, frameOf, firstRegion, refsA, refsL, one, cellsA, floatOk, apartT, List.map, if_true, if_false, E_P, E_glob0, E_glob1, reduceCtorEq, beq_self_eq_true, decide_true, decide_false, ↓reduceIte, Nat.reduceEqDiff, cond_true, cond_false, or_true, true_or, or_false, false_or, and_true, true_and, and_self, false_and, and_false, not_true, not_false_iff, Nat.reduceAdd, Nat.reduceSub, Nat.reduceMul, Nat.reduceLT, Nat.reduceLeDiff, Int.reduceToNat, Int.reduceLT, Int.reduceLE, Option.getD, Int.reduceMul, Int.reduceAdd, List.drop, List.take, Nat.reduceBEq, List.isEmpty, Int.reduceEq, Int.reduceNe, Int.reduceNeg, Int.reduceGT, Int.reduceGE, beq_true, beq_false, UInt8.reduceToNat, eqE, eq_self, foldE, maxE, minE, eq_T, eq_F, ndec, odec, adec, sdec, fillA, over, chop, List.replicate, leavesOk, leafOk, cellsEq, cellEq, E_ext, E_byref, en9, bs22, hrow, rowsI_len, Bool.true_or, Bool.false_or, show ∀ B fr H, execT E B 9 (Code.loop _) fr H = rlG E B 9 (loopAt Tryd.f9 0) (gcn B (norm [0, 3, 4, 13, 14, 15] fr) H) from fun B fr H => rl_intro rfl mt9_5 mb9_5 zf9_5 hd9_5 fr H]
    · have hrb : rdB op = false := decide_eq_false (by omega)
      have hsb : sdB op = true := decide_eq_true (by omega)
      rw [hrb, hsb]
      obtain ⟨fr, e, g0, g3, g4⟩ := ih (a || false) (b || true)
      rw [Bool.or_assoc] at g3 g4
      refine ⟨fr, Eq.trans ?_ e, g0, g3, g4⟩
      clear e g0 g3 g4 ih hrb hsb
      cases a <;> cases b <;> simp only [Bool.true_or, Bool.false_or] <;> simp (disch := first | omega | (simp only [List.length_append, List.length_map, List.length_set, List.length_cons, List.length_nil, List.length_take, List.length_drop, rowsI_len]; omega)) only [va0, va1, va2, va3, va4, va5, va6, va7, va8, va9, va10, va11, va12, va13, va14, va15, vb0, vb1, vb2, vb3, w_i8, w_u8, w_i16, w_u16, w_i32, w_u32, w_i64, w_u64, lt_T, lt_F, le_T, le_F, nlt_T, nlt_F, nle_T, nle_F, List.take_of_length_le, gB, gcW, gcR, posIn, renA, renL, Chunk.ren, Chunk.refs, evOpD, touchD, stepC, isFresh, nFresh, freshOf, mkR, hole, evL, evH, opd, get, putD, ofVal, cellOf, loadE, behind, lenE, idxAddrE, idxE, addPtr, intE, strE, unE, convE, AV.int, AV.bool, AV.str, ivs, take, frameOf, firstRegion, refsA, refsL, one, cellsA, floatOk, apartT, List.map, if_true, if_false, E_P, E_glob0, E_glob1, reduceCtorEq, beq_self_eq_true, decide_true, decide_false, ↓reduceIte, Nat.reduceEqDiff, cond_true, cond_false, or_true, true_or, or_false, false_or, and_true, true_and, and_self, false_and, and_false, not_true, not_false_iff, Nat.reduceAdd, Nat.reduceSub, Nat.reduceMul, Nat.reduceLT, Nat.reduceLeDiff, Int.reduceToNat, Int.reduceLT, Int.reduceLE, Option.getD, Int.reduceMul, Int.reduceAdd, List.drop, List.take, Nat.reduceBEq, List.isEmpty, Int.reduceEq, Int.reduceNe, Int.reduceNeg, Int.reduceGT, Int.reduceGE, beq_true, beq_false, UInt8.reduceToNat, eqE, eq_self, foldE, maxE, minE, eq_T, eq_F, ndec, odec, adec, sdec, fillA, over, chop, List.replicate, leavesOk, leafOk, cellsEq, cellEq, E_ext, E_byref, en9, bs22, hrow, rowsI_len, Bool.true_or, Bool.false_or, show ∀ B fr H, execT E B 9 (Code.loop _) fr H = rlG E B 9 (loopAt Tryd.f9 0) (gcn B (norm [0, 3, 4, 13, 14, 15] fr) H) from fun B fr H => rl_intro rfl mt9_5 mb9_5 zf9_5 hd9_5 fr H]
    · have hrb : rdB op = false := decide_eq_false (by omega)
      have hsb : sdB op = true := decide_eq_true (by omega)
      rw [hrb, hsb]
      obtain ⟨fr, e, g0, g3, g4⟩ := ih (a || false) (b || true)
      rw [Bool.or_assoc] at g3 g4
      refine ⟨fr, Eq.trans ?_ e, g0, g3, g4⟩
      clear e g0 g3 g4 ih hrb hsb
      cases a <;> cases b <;> simp only [Bool.true_or, Bool.false_or] <;> simp (disch := first | omega | (simp only [List.length_append, List.length_map, List.length_set, List.length_cons, List.length_nil, List.length_take, List.length_drop, rowsI_len]; omega)) only [va0, va1, va2, va3, va4, va5, va6, va7, va8, va9, va10, va11, va12, va13, va14, va15, vb0, vb1, vb2, vb3, w_i8, w_u8, w_i16, w_u16, w_i32, w_u32, w_i64, w_u64, lt_T, lt_F, le_T, le_F, nlt_T, nlt_F, nle_T, nle_F, List.take_of_length_le, gB, gcW, gcR, posIn, renA, renL, Chunk.ren, Chunk.refs, evOpD, touchD, stepC, isFresh, nFresh, freshOf, mkR, hole, evL, evH, opd, get, putD, ofVal, cellOf, loadE, behind, lenE, idxAddrE, idxE, addPtr, intE, strE, unE, convE, AV.int, AV.bool, AV.str, ivs, take, frameOf, firstRegion, refsA, refsL, one, cellsA, floatOk, apartT, List.map, if_true, if_false, E_P, E_glob0, E_glob1, reduceCtorEq, beq_self_eq_true, decide_true, decide_false, ↓reduceIte, Nat.reduceEqDiff, cond_true, cond_false, or_true, true_or, or_false, false_or, and_true, true_and, and_self, false_and, and_false, not_true, not_false_iff, Nat.reduceAdd, Nat.reduceSub, Nat.reduceMul, Nat.reduceLT, Nat.reduceLeDiff, Int.reduceToNat, Int.reduceLT, Int.reduceLE, Option.getD, Int.reduceMul, Int.reduceAdd, List.drop, List.take, Nat.reduceBEq, List.isEmpty, Int.reduceEq, Int.reduceNe, Int.reduceNeg, Int.reduceGT, Int.reduceGE, beq_true, beq_false, UInt8.reduceToNat, eqE, eq_self, foldE, maxE, minE, eq_T, eq_F, ndec, odec, adec, sdec, fillA, over, chop, List.replicate, leavesOk, leafOk, cellsEq, cellEq, E_ext, E_byref, en9, bs22, hrow, rowsI_len, Bool.true_or, Bool.false_or, show ∀ B fr H, execT E B 9 (Code.loop _) fr H = rlG E B 9 (loopAt Tryd.f9 0) (gcn B (norm [0, 3, 4, 13, 14, 15] fr) H) from fun B fr H => rl_intro rfl mt9_5 mb9_5 zf9_5 hd9_5 fr H]
  · obtain rfl : k = l.length := by omega
    rw [List.drop_length, anyR, anyS, Bool.or_false, Bool.or_false]
    simp (disch := first | omega | (simp only [List.length_append, List.length_map, List.length_set, List.length_cons, List.length_nil, List.length_take, List.length_drop, rowsI_len]; omega)) only [va0, va1, va2, va3, va4, va5, va6, va7, va8, va9, va10, va11, va12, va13, va14, va15, vb0, vb1, vb2, vb3, w_i8, w_u8, w_i16, w_u16, w_i32, w_u32, w_i64, w_u64, lt_T, lt_F, le_T, le_F, nlt_T, nlt_F, nle_T, nle_F, List.take_of_length_le, gB, gcW, gcR, posIn, renA, renL, Chunk.ren, Chunk.refs, evOpD, touchD, stepC, isFresh, nFresh, freshOf, mkR, hole, evL, evH, opd, get, putD, ofVal, cellOf, loadE, behind, lenE, idxAddrE, idxE, addPtr, intE, strE, unE, convE, AV.int, AV.bool, AV.str, ivs, take, frameOf, firstRegion, refsA, refsL, one, cellsA, floatOk, apartT, List.map, if_true, if_false, E_P, E_glob0, E_glob1, reduceCtorEq, beq_self_eq_true, decide_true, decide_false, ↓reduceIte, Nat.reduceEqDiff, cond_true, cond_false, or_true, true_or, or_false, false_or, and_true, true_and, and_self, false_and, and_false, not_true, not_false_iff, Nat.reduceAdd, Nat.reduceSub, Nat.reduceMul, Nat.reduceLT, Nat.reduceLeDiff, Int.reduceToNat, Int.reduceLT, Int.reduceLE, Option.getD, Int.reduceMul, Int.reduceAdd, List.drop, List.take, Nat.reduceBEq, List.isEmpty, Int.reduceEq, Int.reduceNe, Int.reduceNeg, Int.reduceGT, Int.reduceGE, beq_true, beq_false, UInt8.reduceToNat, eqE, eq_self, foldE, maxE, minE, eq_T, eq_F, ndec, odec, adec, sdec, fillA, over, chop, List.replicate, leavesOk, leafOk, cellsEq, cellEq, E_ext, E_byref, en9, bs22, rowsI_len, show ∀ B fr H, execT E B 9 (Code.loop _) fr H = rlG E B 9 (loopAt Tryd.f9 0) (gcn B (norm [0, 3, 4, 13, 14, 15] fr) H) from fun B fr H => rl_intro rfl mt9_5 mb9_5 zf9_5 hd9_5 fr H]
    exact ⟨_, rfl, rfl, rfl, rfl⟩
termination_by l.length - k
theorem law9 (l : List Ins) (hl : l.length ≤ 9223372036854775807) : ∃ L, callT E 9 [.i (.sl 2 (rowsI l) false)] [] = some (.i (.v (.bool true)), L) := by
  by_cases h6 : 600 < (l.length : Int)
  · rw [callT_eq Tryd.func9 rfl fok9 (by simp [Tryd.ntmps9])]
    simp (disch := first | omega | (simp only [List.length_append, List.length_map, List.length_set, List.length_cons, List.length_nil, List.length_take, List.length_drop, rowsI_len]; omega)) only [va0, va1, va2, va3, va4, va5, va6, va7, va8, va9, va10, va11, va12, va13, va14, va15, vb0, vb1, vb2, vb3, w_i8, w_u8, w_i16, w_u16, w_i32, w_u32, w_i64, w_u64, lt_T, lt_F, le_T, le_F, nlt_T, nlt_F, nle_T, nle_F, List.take_of_length_le, gB, gcW, gcR, posIn, renA, renL, Chunk.ren, Chunk.refs, evOpD, touchD, stepC, isFresh, nFresh, freshOf, mkR, hole, evL, evH, opd, get, putD, ofVal, cellOf, loadE, behind, lenE, idxAddrE, idxE, addPtr, intE, strE, unE, convE, AV.int, AV.bool, AV.str, ivs, take, frameOf, firstRegion, refsA, refsL, one, cellsA, floatOk, apartT, List.map, if_true, if_false, E_P, E_glob0, E_glob1, reduceCtorEq, beq_self_eq_true, decide_true, decide_false, ↓reduceIte, Nat.reduceEqDiff, cond_true, cond_false, or_true, true_or, or_false, false_or, and_true, true_and, and_self, false_and, and_false, not_true, not_false_iff, Nat.reduceAdd, Nat.reduceSub, Nat.reduceMul, Nat.reduceLT, Nat.reduceLeDiff, Int.reduceToNat, Int.reduceLT, Int.reduceLE, Option.getD, Int.reduceMul, Int.reduceAdd, List.drop, List.take, Nat.reduceBEq, List.isEmpty, Int.reduceEq, Int.reduceNe, Int.reduceNeg, Int.reduceGT, Int.reduceGE, beq_true, beq_false, UInt8.reduceToNat, eqE, eq_self, foldE, maxE, minE, eq_T, eq_F, ndec, odec, adec, sdec, fillA, over, chop, List.replicate, leavesOk, leafOk, cellsEq, cellEq, E_ext, E_byref, en9, bs22, rowsI_len, h6, ik11]
    exact ⟨_, rfl⟩
  · have hH := fun H => ik18 l (by omega) H
    have hpl := @hidden_plain l
    generalize hiddenS l = q at *
    obtain ⟨h, e⟩ := q
    simp only at hH hpl
    obtain ⟨fr, el, g0, g3, g4⟩ := l9 l (by omega) 0 (Nat.zero_le _) false false
    rw [List.drop_zero, Bool.false_or] at g3 g4
    have el' : rl E 0 9 (loopAt Tryd.f9 0) [(0, .i (.sl 2 (rowsI l) false)), (3, .i (.v (.bool false))), (4, .i (.v (.bool false))), (13, .i (.sl 2 (rowsI l) false)), (14, .i (.v (.int .i64 l.length))), (15, .i (.v (.int .i64 0)))] [] = _ := el
    clear el
    cases h
    · rw [callT_eq Tryd.func9 rfl fok9 (by simp [Tryd.ntmps9])]
      simp (disch := first | omega | (simp only [List.length_append, List.length_map, List.length_set, List.length_cons, List.length_nil, List.length_take, List.length_drop, rowsI_len]; omega)) only [va0, va1, va2, va3, va4, va5, va6, va7, va8, va9, va10, va11, va12, va13, va14, va15, vb0, vb1, vb2, vb3, w_i8, w_u8, w_i16, w_u16, w_i32, w_u32, w_i64, w_u64, lt_T, lt_F, le_T, le_F, nlt_T, nlt_F, nle_T, nle_F, List.take_of_length_le, gB, gcW, gcR, posIn, renA, renL, Chunk.ren, Chunk.refs, evOpD, touchD, stepC, isFresh, nFresh, freshOf, mkR, hole, evL, evH, opd, get, putD, ofVal, cellOf, loadE, behind, lenE, idxAddrE, idxE, addPtr, intE, strE, unE, convE, AV.int, AV.bool, AV.str, ivs, take, frameOf, firstRegion, refsA, refsL, one, cellsA, floatOk, apartT, List.map, if_true, if_false, E_P, E_glob0, E_glob1, reduceCtorEq, beq_self_eq_true, decide_true, decide_false, ↓reduceIte, Nat.reduceEqDiff, cond_true, cond_false, or_true, true_or, or_false, false_or, and_true, true_and, and_self, false_and, and_false, not_true, not_false_iff, Nat.reduceAdd, Nat.reduceSub, Nat.reduceMul, Nat.reduceLT, Nat.reduceLeDiff, Int.reduceToNat, Int.reduceLT, Int.reduceLE, Option.getD, Int.reduceMul, Int.reduceAdd, List.drop, List.take, Nat.reduceBEq, List.isEmpty, Int.reduceEq, Int.reduceNe, Int.reduceNeg, Int.reduceGT, Int.reduceGE, beq_true, beq_false, UInt8.reduceToNat, eqE, eq_self, foldE, maxE, minE, eq_T, eq_F, ndec, odec, adec, sdec, fillA, over, chop, List.replicate, leavesOk, leafOk, cellsEq, cellEq, E_ext, E_byref, en9, bs22, rowsI_len, h6, hH, el', g0, g3, g4, ik11, show ∀ B fr H, execT E B 9 (Code.loop _) fr H = rlG E B 9 (loopAt Tryd.f9 0) (gcn B (norm [0, 3, 4, 13, 14, 15] fr) H) from fun B fr H => rl_intro rfl mt9_5 mb9_5 zf9_5 hd9_5 fr H]
      exact ⟨_, rfl⟩
    · obtain ⟨p1, p2, p3⟩ := hpl rfl
      rw [anyR_of p2] at g3
      rw [anyS_of p3] at g4
      subst p1
      rw [callT_eq Tryd.func9 rfl fok9 (by simp [Tryd.ntmps9])]
      simp (disch := first | omega | (simp only [List.length_append, List.length_map, List.length_set, List.length_cons, List.length_nil, List.length_take, List.length_drop, rowsI_len]; omega)) only [va0, va1, va2, va3, va4, va5, va6, va7, va8, va9, va10, va11, va12, va13, va14, va15, vb0, vb1, vb2, vb3, w_i8, w_u8, w_i16, w_u16, w_i32, w_u32, w_i64, w_u64, lt_T, lt_F, le_T, le_F, nlt_T, nlt_F, nle_T, nle_F, List.take_of_length_le, gB, gcW, gcR, posIn, renA, renL, Chunk.ren, Chunk.refs, evOpD, touchD, stepC, isFresh, nFresh, freshOf, mkR, hole, evL, evH, opd, get, putD, ofVal, cellOf, loadE, behind, lenE, idxAddrE, idxE, addPtr, intE, strE, unE, convE, AV.int, AV.bool, AV.str, ivs, take, frameOf, firstRegion, refsA, refsL, one, cellsA, floatOk, apartT, List.map, if_true, if_false, E_P, E_glob0, E_glob1, reduceCtorEq, beq_self_eq_true, decide_true, decide_false, ↓reduceIte, Nat.reduceEqDiff, cond_true, cond_false, or_true, true_or, or_false, false_or, and_true, true_and, and_self, false_and, and_false, not_true, not_false_iff, Nat.reduceAdd, Nat.reduceSub, Nat.reduceMul, Nat.reduceLT, Nat.reduceLeDiff, Int.reduceToNat, Int.reduceLT, Int.reduceLE, Option.getD, Int.reduceMul, Int.reduceAdd, List.drop, List.take, Nat.reduceBEq, List.isEmpty, Int.reduceEq, Int.reduceNe, Int.reduceNeg, Int.reduceGT, Int.reduceGE, beq_true, beq_false, UInt8.reduceToNat, eqE, eq_self, foldE, maxE, minE, eq_T, eq_F, ndec, odec, adec, sdec, fillA, over, chop, List.replicate, leavesOk, leafOk, cellsEq, cellEq, E_ext, E_byref, en9, bs22, rowsI_len, h6, hH, el', g0, g3, g4, ik11, show ∀ B fr H, execT E B 9 (Code.loop _) fr H = rlG E B 9 (loopAt Tryd.f9 0) (gcn B (norm [0, 3, 4, 13, 14, 15] fr) H) from fun B fr H => rl_intro rfl mt9_5 mb9_5 zf9_5 hd9_5 fr H]
      exact ⟨_, rfl⟩
theorem c9 (l : List Ins) (hl : l.length ≤ 9223372036854775807) : ∃ L, callT E 9 [.i (.sl 2 (l.map fun a => insC a) false)] [] = some (.i (.v (.bool true)), L) := law9 l hl
end Go.VI

set_option linter.unusedSimpArgs false
set_option linter.unusedVariables false
namespace Go.VI
open Go.Proofs
theorem laid_tail {P : Program} {W : World} {x : String × DataW Unit} {l : List (String × DataW Unit)} (h : laidMet P (x :: l) W) : laidMet P l W := by
  obtain ⟨ps, ⟨g, t, cs, fuel, p, q, _, _, _, _, hr, rfl⟩, hnd, hrows⟩ := h
  exact ⟨q, hr, hnd.sublist (List.sublist_append_right _ _), fun b off hp => hrows b off (List.mem_append.2 (.inr hp))⟩
theorem glob_of_tabI {P : Program} {W : World} {name : String} {g : Nat} {tab : List Int} (hg : P.globalNamed name = some g) (h : Lib.TabIs P W name .i64 tab) : RelI (imm0 W) (.pt (tabT tab) 0) (.pointer (some ⟨g, 0, none⟩)) := by
  unfold Lib.TabIs World.var? at h
  rw [hg] at h
  simp only [Option.bind_some] at h
  split at h
  · rename_i cs e fz hh
    simp only [Option.some.injEq] at h
    refine .pt (tabT tab) 0 g 0 cs e fz (fun k => .int .i64 (tab.getD k 0)) hh (fun k a hk => ?_) (fun k a hk => ?_)
    · have hl : k < tab.length := by
        have := (List.getElem?_eq_some_iff.1 hk).1
        simpa [tabT] using this
      subst h
      simp [List.getD, hl]
    · have hl : k < tab.length := by
        have := (List.getElem?_eq_some_iff.1 hk).1
        simpa [tabT] using this
      simp only [tabT, List.getElem?_map, List.getElem?_eq_getElem hl, Option.map_some, Option.some.injEq] at hk
      subst hk
      simp [List.getD, hl]
      exact .v _ rfl
  · cases h
theorem globs2 {W : World} (h0 : Lib.TabIs Tryd.prog W "narrator/scriptverify.pops" .i64 popsL) (h1 : Lib.TabIs Tryd.prog W "narrator/scriptverify.pushes" .i64 pushesL) : ∀ g cells, E.glob g = some cells → RelI (imm0 W) (.pt cells 0) (.pointer (some ⟨g, 0, none⟩)) := by
  intro g cells hg
  rcases E_globI g cells hg with ⟨rfl, rfl⟩ | ⟨rfl, rfl⟩ | h'
  · exact glob_of_tabI (by kernel_rfl) h0
  · exact glob_of_tabI (by kernel_rfl) h1
  · exact h'.elim
end Go.VI

