import Derived.Lib.LaidTab
import Derived.MakeChecks
import Derived.Test.YtgaeknackpfdcaaDoorZIN5
namespace Go.VI
open Go.Proofs
set_option maxRecDepth 100000
set_option linter.unusedSimpArgs false
set_option linter.unusedVariables false
set_option maxHeartbeats 4000000
def mA (c : Bool) (s : List Bool) : List AV := .i (.v (.bool c)) :: s.map fun b => .i (.v (.bool b))
theorem mA_len (c : Bool) (s : List Bool) : (mA c s).length = s.length + 1 := by simp [mA]
theorem mA_get {c : Bool} {s : List Bool} {k : Nat} (h : k < s.length) : (mA c s)[k + 1]? = some (.i (.v (.bool (s.getD k false)))) := by
  rw [List.getD_eq_getElem?_getD, List.getElem?_eq_getElem h]; simp [mA, h]
theorem mA_set (c : Bool) (s : List Bool) (k : Nat) (x : Bool) : (mA c s).set (k + 1) (.i (.v (.bool x))) = mA c (s.set k x) := by simp [mA, List.map_set]
theorem mA_put {c : Bool} {s : List Bool} {k : Nat} (h : k < s.length) (x : Bool) : List.take (1 + k) (mA c s) ++ [.i (.v (.bool x))] ++ List.drop (1 + k + 1) (mA c s) = mA c (s.set k x) := by
  rw [← mA_set, List.set_eq_take_append_cons_drop, if_pos (by rw [mA_len]; omega), Nat.add_comm 1 k]
  simp
theorem mA_cn (B : Nat) (H : Hp) (c : Bool) (s : List Bool) : cnL B H (mA c s) = mA c s := by
  have : ∀ s : List Bool, cnL B H (s.map fun b => .i (.v (.bool b))) = s.map fun b => .i (.v (.bool b)) := fun s => by
    induction s with
    | nil => rfl
    | cons b s ih => rw [List.map_cons, cnL, ih]; rfl
  rw [mA, cnL, this]; rfl
theorem mA_refs (c : Bool) (s : List Bool) : refsL (mA c s) = [] := by
  have : ∀ s : List Bool, refsL (s.map fun b => .i (.v (.bool b))) = [] := fun s => by
    induction s with
    | nil => rfl
    | cons b s ih => rw [List.map_cons, refsL, ih]; rfl
  rw [mA, refsL, this]; rfl
theorem mA_ren (ρ : Nat → Option Nat) (c : Bool) (s : List Bool) : renL ρ (mA c s) = mA c s := by
  have : ∀ s : List Bool, renL ρ (s.map fun b => .i (.v (.bool b))) = s.map fun b => .i (.v (.bool b)) := fun s => by
    induction s with
    | nil => rfl
    | cons b s ih => rw [List.map_cons, renL, ih]; rfl
  rw [mA, renL, this]; rfl
theorem mA_take {c : Bool} {s : List Bool} {n : Nat} (h : s.length + 1 ≤ n) : (mA c s).take n = mA c s := List.take_of_length_le (by rw [mA_len]; exact h)
def mI (c : Bool) (s : List Bool) : List IV := .v (.bool c) :: s.map fun b => .v (.bool b)
theorem mI_len (c : Bool) (s : List Bool) : (mI c s).length = s.length + 1 := by simp [mI]
theorem mI_ivs (c : Bool) (s : List Bool) : ivs (mI c s) = mA c s := by simp [mI, mA, ivs]
theorem mI_map (c : Bool) (s : List Bool) : List.map AV.i (mI c s) = mA c s := mI_ivs c s
theorem mA_frz (H : Hp) (c : Bool) (s : List Bool) : freezeAll H (mA c s) = some (mI c s, H) := by
  have : ∀ s : List Bool, freezeAll H (s.map fun b => .i (.v (.bool b))) = some (s.map fun b => .v (.bool b), H) := fun s => by
    induction s with
    | nil => rfl
    | cons b s ih => rw [List.map_cons, freezeAll, freeze]; simp only; rw [ih]; rfl
  rw [mA, freezeAll, freeze]; simp only; rw [this]; rfl
def clr : Nat → Nat → List Bool → List Bool
  | 0, _, s => s
  | r + 1, k, s => clr r (k + 1) (s.set k false)
theorem l34 (c : Bool) (z : List Bool) : ∀ (r k : Nat) (hk : k + r = 16) (s : List Bool) (hs : s.length = 16),
    ∃ fr, rl E 0 34 (loopAt Tryd.f34 0) [(3, .ptr 0 0 0 0), (6, .ptr 1 0 0 0), (8, .i (.v (.int .i64 k)))] [.box (mA c s), .box (mA false (z))] = some (.exit 1, fr, [.box (mA c (clr r k s)), .box (mA false (z))]) ∧ get 3 fr = .ptr 0 0 0 0 ∧ get 6 fr = .ptr 1 0 0 0
  | 0, k, hk, s, hs => by
    rw [rl_step (fn := Tryd.f34) (k := 0) rfl]
    obtain rfl : k = 16 := by omega
    rw [clr]
    simp (disch := first | omega | (simp only [vlen]; omega)) only [vall, List.take_of_length_le, gB, gcW, gcR, posIn, renA, renL, Chunk.ren, Chunk.refs, evOpD, touchD, stepC, isFresh, nFresh, freshOf, mkR, hole, evL, evH, opd, get, putD, ofVal, cellOf, loadE, behind, lenE, idxAddrE, idxE, lookE, lookM, addPtr, intE, strE, unE, convE, AV.int, AV.bool, AV.str, ivs, take, frameOf, firstRegion, refsA, refsL, one, cellsA, floatOk, apartT, List.map, if_true, if_false, E_P, E_glob0, E_glob1, reduceCtorEq, beq_self_eq_true, ↓reduceIte, Nat.reduceEqDiff, cond_true, cond_false, Nat.reduceAdd, Nat.reduceSub, Nat.reduceMul, Nat.reduceLT, Nat.reduceLeDiff, Int.reduceToNat, Int.reduceLT, Int.reduceLE, Option.getD, Int.reduceMul, Int.reduceAdd, List.drop, List.take, Nat.reduceBEq, List.isEmpty, Int.reduceEq, Int.reduceNe, Int.reduceNeg, Int.reduceGT, Int.reduceGE, beq_true, beq_false, UInt8.reduceToNat, eqE, eq_self, foldE, maxE, minE, fillA, over, chop, List.replicate, leavesOk, leafOk, cellsEq, cellEq, E_byref, en34, mA_len, mA_cn, mA_refs, mA_ren, show ∀ B fr H, execT E B 34 (Code.loop _) fr H = rlG E B 34 (loopAt Tryd.f34 0) (gcn B (norm [3, 6, 8] fr) H) from fun B fr H => rl_intro rfl mt34_15 mb34_15 zf34_15 hd34_15 fr H]
    exact ⟨_, rfl, rfl, rfl⟩
  | r + 1, k, hk, s, hs => by
    rw [rl_step (fn := Tryd.f34) (k := 0) rfl]
    rw [clr]
    obtain ⟨fr, e, hh⟩ := l34 c z r (k + 1) (by omega) (s.set k false) (by simpa using hs)
    refine ⟨fr, Eq.trans ?_ e, hh⟩
    clear e hh
    have hg := mA_get (c := c) (s := s) (k := k) (by omega)
    have hp := mA_put (c := c) (s := s) (k := k) (by omega) false
    simp (disch := first | omega | (simp only [vlen, mA_len]; omega)) only [vall, List.take_of_length_le, gB, gcW, gcR, posIn, renA, renL, Chunk.ren, Chunk.refs, evOpD, touchD, stepC, isFresh, nFresh, freshOf, mkR, hole, evL, evH, opd, get, putD, ofVal, cellOf, loadE, behind, lenE, idxAddrE, idxE, lookE, lookM, addPtr, intE, strE, unE, convE, AV.int, AV.bool, AV.str, ivs, take, frameOf, firstRegion, refsA, refsL, one, cellsA, floatOk, apartT, List.map, if_true, if_false, E_P, E_glob0, E_glob1, reduceCtorEq, beq_self_eq_true, ↓reduceIte, Nat.reduceEqDiff, cond_true, cond_false, Nat.reduceAdd, Nat.reduceSub, Nat.reduceMul, Nat.reduceLT, Nat.reduceLeDiff, Int.reduceToNat, Int.reduceLT, Int.reduceLE, Option.getD, Int.reduceMul, Int.reduceAdd, List.drop, List.take, Nat.reduceBEq, List.isEmpty, Int.reduceEq, Int.reduceNe, Int.reduceNeg, Int.reduceGT, Int.reduceGE, beq_true, beq_false, UInt8.reduceToNat, eqE, eq_self, foldE, maxE, minE, fillA, over, chop, List.replicate, leavesOk, leafOk, cellsEq, cellEq, E_byref, en34, hg, hp, mA_len, mA_cn, mA_refs, mA_ren, Nat.mul_one, show ∀ B fr H, execT E B 34 (Code.loop _) fr H = rlG E B 34 (loopAt Tryd.f34 0) (gcn B (norm [3, 6, 8] fr) H) from fun B fr H => rl_intro rfl mt34_15 mb34_15 zf34_15 hd34_15 fr H]
end Go.VI

namespace Go.VI
open Go.Proofs
set_option maxRecDepth 100000
set_option linter.unusedSimpArgs false
set_option linter.unusedVariables false
set_option maxHeartbeats 4000000
def aft1 (op d : Int) (c : Bool) (s : List Bool) : Bool × List Bool :=
  if 3 ≤ op ∧ op ≤ 5 then (c, s.set (d - popS op).toNat true)
  else if 8 ≤ op ∧ op ≤ 12 then (c, s.set (d - 1 - 1).toNat (s.getD (d - 1 - 1).toNat false || s.getD (d - 1).toNat false))
  else if op = 14 then (c, s.set d.toNat (s.getD (d - 1).toNat false))
  else if op = 16 then (c, (s.set (d - 1 - 1).toNat (s.getD (d - 1).toNat false)).set (d - 1).toNat (s.getD (d - 1 - 1).toNat false))
  else if op = 18 then (c || s.getD (d - 1).toNat false, s)
  else if op ≠ 13 ∧ pushS op = 1 then (c, s.set d.toNat false) else (c, s)
def aft (op d : Int) (c : Bool) (s : List Bool) : Bool × List Bool := ((aft1 op d c s).1, clr (16 - (d - popS op + pushS op).toNat) (d - popS op + pushS op).toNat (aft1 op d c s).2)
theorem aft1_len (op d : Int) (c : Bool) (s : List Bool) : (aft1 op d c s).2.length = s.length := by
  unfold aft1
  repeat' split
  all_goals simp
theorem clr_len : ∀ (r k : Nat) (s : List Bool), (clr r k s).length = s.length
  | 0, k, s => rfl
  | r + 1, k, s => by rw [clr, clr_len r, List.length_set]
theorem aft_len (op d : Int) (c : Bool) (s : List Bool) : (aft op d c s).2.length = s.length := by rw [aft, clr_len, aft1_len]
theorem pop_push (op : Int) (h0 : 0 ≤ op) (h1 : op ≤ 20) : (3 ≤ op ∧ op ≤ 5 → popS op ≤ 1 ∧ pushS op = 1) ∧ (8 ≤ op ∧ op ≤ 12 → popS op = 2) ∧ (op = 14 → popS op = 1 ∧ pushS op = 2) ∧ (op = 16 → popS op = 2) ∧ (op = 18 → popS op = 1) ∧ (op = 19 ∨ op = 20 → popS op = 1) ∧ (pushS op = 1 ∧ ¬ (3 ≤ op ∧ op ≤ 5) ∧ ¬ (8 ≤ op ∧ op ≤ 12) ∧ op ≠ 13 → popS op = 0) := by
  have h : op = 0 ∨ op = 1 ∨ op = 2 ∨ op = 3 ∨ op = 4 ∨ op = 5 ∨ op = 6 ∨ op = 7 ∨ op = 8 ∨ op = 9 ∨ op = 10 ∨ op = 11 ∨ op = 12 ∨ op = 13 ∨ op = 14 ∨ op = 15 ∨ op = 16 ∨ op = 17 ∨ op = 18 ∨ op = 19 ∨ op = 20 := by omega
  rcases h with h | h | h | h | h | h | h | h | h | h | h | h | h | h | h | h | h | h | h | h | h <;> subst h <;> decide
theorem mA_all (c : Bool) (s : List Bool) : (mA c s).all one = true := by simp [mA, one]
theorem mA_put0 (c x : Bool) (s : List Bool) : (AV.i (.v (.bool x))) :: List.drop 1 (mA c s) = mA x s := rfl
theorem mA_get0 (c : Bool) (s : List Bool) : (mA c s)[0]? = some (.i (.v (.bool c))) := rfl
theorem mA_get' {c : Bool} {s : List Bool} {k : Nat} (h : k < s.length) : (mA c s)[1 + k]? = some (.i (.v (.bool (s.getD k false)))) := by rw [Nat.add_comm]; exact mA_get h
theorem c34_1 (op d : Int) (h0 : 0 ≤ op) (h1 : op ≤ 20) (hp : popS op ≤ d) (hq : d - popS op + pushS op ≤ 16) (hd : d ≤ 16) (c : Bool) (s : List Bool) (hs : s.length = 16) (h3 : 3 ≤ op ∧ op ≤ 5) :
    ∃ L, callT E 34 [.agg (mA c s), .i (.v (.int .i64 op)), .i (.v (.int .i64 d))] [] = some (.agg (mA (aft op d c s).1 (aft op d c s).2), L) := by
  obtain ⟨b1, b2⟩ := (pop_push op h0 h1).1 h3
  have p1 := popS_r op
  have p2 := pushS_r op
  have hpo := pops_at h0 h1
  have hpu := pushes_at h0 h1
  have hal := aft_len op d c s
  have hal1 := aft1_len op d c s
  unfold aft at hal ⊢
  have ha : aft1 op d c s = (c, s.set (d - popS op).toNat true) := by unfold aft1; rw [if_pos h3]
  rw [ha] at hal1 hal ⊢
  simp only at hal1 hal ⊢
  clear ha
  generalize popS op = po at *
  generalize pushS op = pu at *
  obtain ⟨fr, e, f3, f6⟩ := l34 c (List.replicate 16 false) (16 - (d - po + pu).toNat) (d - po + pu).toNat (by omega) (s.set (d - po).toNat true) (by omega)
  have hc : (((d - po + pu).toNat : Nat) : Int) = d - po + pu := by omega
  rw [hc] at e
  have hput0 := mA_put (c := c) (s := s) (k := (d - po).toNat) (by first | omega | (simp only [List.length_set]; omega)) true
  generalize clr (16 - (d - po + pu).toNat) (d - po + pu).toNat (s.set (d - po).toNat true) = s3 at *
  generalize s.set (d - po).toNat true = s2 at *
  have e' : rl E 0 34 (loopAt Tryd.f34 0) [(3, .ptr 0 0 0 0), (6, .ptr 1 0 0 0), (8, .i (.v (.int .i64 (d - po + pu))))] [.box (mA c s2), .box [.i (.v (.bool false)), .i (.v (.bool false)), .i (.v (.bool false)), .i (.v (.bool false)), .i (.v (.bool false)), .i (.v (.bool false)), .i (.v (.bool false)), .i (.v (.bool false)), .i (.v (.bool false)), .i (.v (.bool false)), .i (.v (.bool false)), .i (.v (.bool false)), .i (.v (.bool false)), .i (.v (.bool false)), .i (.v (.bool false)), .i (.v (.bool false)), .i (.v (.bool false))]] = some (.exit 1, fr, [.box (mA c s3), .box [.i (.v (.bool false)), .i (.v (.bool false)), .i (.v (.bool false)), .i (.v (.bool false)), .i (.v (.bool false)), .i (.v (.bool false)), .i (.v (.bool false)), .i (.v (.bool false)), .i (.v (.bool false)), .i (.v (.bool false)), .i (.v (.bool false)), .i (.v (.bool false)), .i (.v (.bool false)), .i (.v (.bool false)), .i (.v (.bool false)), .i (.v (.bool false)), .i (.v (.bool false))]]) := e
  clear e
  have hs3 : s3.length = 16 := by omega
  have ht := mA_take (c := c) (s := s3) (n := 17) (by omega)
  rw [callT_eq Tryd.func34 rfl fok34 (by simp [Tryd.ntmps34])]
  simp (disch := first | omega | (simp only [vlen, mA_len]; omega)) only [vall, List.take_of_length_le, gB, gcW, gcR, posIn, renA, renL, Chunk.ren, Chunk.refs, evOpD, touchD, stepC, isFresh, nFresh, freshOf, mkR, hole, evL, evH, opd, get, putD, ofVal, cellOf, loadE, behind, lenE, idxAddrE, idxE, lookE, lookM, addPtr, intE, strE, unE, convE, AV.int, AV.bool, AV.str, ivs, take, frameOf, firstRegion, refsA, refsL, one, cellsA, floatOk, apartT, List.map, if_true, if_false, E_P, E_glob0, E_glob1, reduceCtorEq, beq_self_eq_true, ↓reduceIte, Nat.reduceEqDiff, cond_true, cond_false, Nat.reduceAdd, Nat.reduceSub, Nat.reduceMul, Nat.reduceLT, Nat.reduceLeDiff, Int.reduceToNat, Int.reduceLT, Int.reduceLE, Option.getD, Int.reduceMul, Int.reduceAdd, List.drop, List.take, Nat.reduceBEq, List.isEmpty, Int.reduceEq, Int.reduceNe, Int.reduceNeg, Int.reduceGT, Int.reduceGE, beq_true, beq_false, UInt8.reduceToNat, eqE, eq_self, foldE, maxE, minE, fillA, over, chop, List.replicate, leavesOk, leafOk, cellsEq, cellEq, E_byref, en34, h3.1, h3.2, hpo, hpu, hput0, e', f3, f6, ht, hs3, mA_len, mA_get0, mA_put0, mA_cn, mA_refs, mA_ren, mA_all, mA_frz, mI_ivs, mI_map, Nat.mul_one, Bool.true_or, Bool.false_or, show ∀ B fr H, execT E B 34 (Code.loop _) fr H = rlG E B 34 (loopAt Tryd.f34 0) (gcn B (norm [3, 6, 8] fr) H) from fun B fr H => rl_intro rfl mt34_15 mb34_15 zf34_15 hd34_15 fr H]
  exact ⟨_, rfl⟩
theorem c34_2 (op d : Int) (h0 : 0 ≤ op) (h1 : op ≤ 20) (hp : popS op ≤ d) (hq : d - popS op + pushS op ≤ 16) (hd : d ≤ 16) (c : Bool) (s : List Bool) (hs : s.length = 16) (h3 : 8 ≤ op ∧ op ≤ 12) :
    ∃ L, callT E 34 [.agg (mA c s), .i (.v (.int .i64 op)), .i (.v (.int .i64 d))] [] = some (.agg (mA (aft op d c s).1 (aft op d c s).2), L) := by
  have b1 := (pop_push op h0 h1).2.1 h3
  have p1 := popS_r op
  have p2 := pushS_r op
  have hpo := pops_at h0 h1
  have hpu := pushes_at h0 h1
  have hal := aft_len op d c s
  have hal1 := aft1_len op d c s
  unfold aft at hal ⊢
  have ha : aft1 op d c s = (c, s.set (d - 1 - 1).toNat (s.getD (d - 1 - 1).toNat false || s.getD (d - 1).toNat false)) := by unfold aft1; rw [if_neg (by omega), if_pos h3]
  rw [ha] at hal1 hal ⊢
  simp only at hal1 hal ⊢
  have hgx := mA_get' (c := c) (s := s) (k := (d - 1 - 1).toNat) (by omega)
  generalize s.getD (d - 1 - 1).toNat false = x at *
  have hgy := mA_get' (c := c) (s := s) (k := (d - 1).toNat) (by omega)
  generalize s.getD (d - 1).toNat false = y at *
  clear ha
  generalize popS op = po at *
  generalize pushS op = pu at *
  obtain ⟨fr, e, f3, f6⟩ := l34 c (List.replicate 16 false) (16 - (d - po + pu).toNat) (d - po + pu).toNat (by omega) (s.set (d - 1 - 1).toNat (x || y)) (by omega)
  have hc : (((d - po + pu).toNat : Nat) : Int) = d - po + pu := by omega
  rw [hc] at e
  have hput0 := mA_put (c := c) (s := s) (k := (d - 1 - 1).toNat) (by first | omega | (simp only [List.length_set]; omega)) (x || y)
  generalize clr (16 - (d - po + pu).toNat) (d - po + pu).toNat (s.set (d - 1 - 1).toNat (x || y)) = s3 at *
  generalize s.set (d - 1 - 1).toNat (x || y) = s2 at *
  have e' : rl E 0 34 (loopAt Tryd.f34 0) [(3, .ptr 0 0 0 0), (6, .ptr 1 0 0 0), (8, .i (.v (.int .i64 (d - po + pu))))] [.box (mA c s2), .box [.i (.v (.bool false)), .i (.v (.bool false)), .i (.v (.bool false)), .i (.v (.bool false)), .i (.v (.bool false)), .i (.v (.bool false)), .i (.v (.bool false)), .i (.v (.bool false)), .i (.v (.bool false)), .i (.v (.bool false)), .i (.v (.bool false)), .i (.v (.bool false)), .i (.v (.bool false)), .i (.v (.bool false)), .i (.v (.bool false)), .i (.v (.bool false)), .i (.v (.bool false))]] = some (.exit 1, fr, [.box (mA c s3), .box [.i (.v (.bool false)), .i (.v (.bool false)), .i (.v (.bool false)), .i (.v (.bool false)), .i (.v (.bool false)), .i (.v (.bool false)), .i (.v (.bool false)), .i (.v (.bool false)), .i (.v (.bool false)), .i (.v (.bool false)), .i (.v (.bool false)), .i (.v (.bool false)), .i (.v (.bool false)), .i (.v (.bool false)), .i (.v (.bool false)), .i (.v (.bool false)), .i (.v (.bool false))]]) := e
  clear e
  have hs3 : s3.length = 16 := by omega
  have ht := mA_take (c := c) (s := s3) (n := 17) (by omega)
  cases x
  · simp only [Bool.true_or, Bool.false_or] at hput0
    rw [callT_eq Tryd.func34 rfl fok34 (by simp [Tryd.ntmps34])]
    simp (disch := first | omega | (simp only [vlen, mA_len]; omega)) only [vall, List.take_of_length_le, gB, gcW, gcR, posIn, renA, renL, Chunk.ren, Chunk.refs, evOpD, touchD, stepC, isFresh, nFresh, freshOf, mkR, hole, evL, evH, opd, get, putD, ofVal, cellOf, loadE, behind, lenE, idxAddrE, idxE, lookE, lookM, addPtr, intE, strE, unE, convE, AV.int, AV.bool, AV.str, ivs, take, frameOf, firstRegion, refsA, refsL, one, cellsA, floatOk, apartT, List.map, if_true, if_false, E_P, E_glob0, E_glob1, reduceCtorEq, beq_self_eq_true, ↓reduceIte, Nat.reduceEqDiff, cond_true, cond_false, Nat.reduceAdd, Nat.reduceSub, Nat.reduceMul, Nat.reduceLT, Nat.reduceLeDiff, Int.reduceToNat, Int.reduceLT, Int.reduceLE, Option.getD, Int.reduceMul, Int.reduceAdd, List.drop, List.take, Nat.reduceBEq, List.isEmpty, Int.reduceEq, Int.reduceNe, Int.reduceNeg, Int.reduceGT, Int.reduceGE, beq_true, beq_false, UInt8.reduceToNat, eqE, eq_self, foldE, maxE, minE, fillA, over, chop, List.replicate, leavesOk, leafOk, cellsEq, cellEq, E_byref, en34, h3.1, h3.2, hpo, hpu, hput0, hgx, hgy, e', f3, f6, ht, hs3, mA_len, mA_get0, mA_put0, mA_cn, mA_refs, mA_ren, mA_all, mA_frz, mI_ivs, mI_map, Nat.mul_one, Bool.true_or, Bool.false_or, show ∀ B fr H, execT E B 34 (Code.loop _) fr H = rlG E B 34 (loopAt Tryd.f34 0) (gcn B (norm [3, 6, 8] fr) H) from fun B fr H => rl_intro rfl mt34_15 mb34_15 zf34_15 hd34_15 fr H]
    exact ⟨_, rfl⟩
  · simp only [Bool.true_or, Bool.false_or] at hput0
    rw [callT_eq Tryd.func34 rfl fok34 (by simp [Tryd.ntmps34])]
    simp (disch := first | omega | (simp only [vlen, mA_len]; omega)) only [vall, List.take_of_length_le, gB, gcW, gcR, posIn, renA, renL, Chunk.ren, Chunk.refs, evOpD, touchD, stepC, isFresh, nFresh, freshOf, mkR, hole, evL, evH, opd, get, putD, ofVal, cellOf, loadE, behind, lenE, idxAddrE, idxE, lookE, lookM, addPtr, intE, strE, unE, convE, AV.int, AV.bool, AV.str, ivs, take, frameOf, firstRegion, refsA, refsL, one, cellsA, floatOk, apartT, List.map, if_true, if_false, E_P, E_glob0, E_glob1, reduceCtorEq, beq_self_eq_true, ↓reduceIte, Nat.reduceEqDiff, cond_true, cond_false, Nat.reduceAdd, Nat.reduceSub, Nat.reduceMul, Nat.reduceLT, Nat.reduceLeDiff, Int.reduceToNat, Int.reduceLT, Int.reduceLE, Option.getD, Int.reduceMul, Int.reduceAdd, List.drop, List.take, Nat.reduceBEq, List.isEmpty, Int.reduceEq, Int.reduceNe, Int.reduceNeg, Int.reduceGT, Int.reduceGE, beq_true, beq_false, UInt8.reduceToNat, eqE, eq_self, foldE, maxE, minE, fillA, over, chop, List.replicate, leavesOk, leafOk, cellsEq, cellEq, E_byref, en34, h3.1, h3.2, hpo, hpu, hput0, hgx, hgy, e', f3, f6, ht, hs3, mA_len, mA_get0, mA_put0, mA_cn, mA_refs, mA_ren, mA_all, mA_frz, mI_ivs, mI_map, Nat.mul_one, Bool.true_or, Bool.false_or, show ∀ B fr H, execT E B 34 (Code.loop _) fr H = rlG E B 34 (loopAt Tryd.f34 0) (gcn B (norm [3, 6, 8] fr) H) from fun B fr H => rl_intro rfl mt34_15 mb34_15 zf34_15 hd34_15 fr H]
    exact ⟨_, rfl⟩
theorem c34_3 (op d : Int) (h0 : 0 ≤ op) (h1 : op ≤ 20) (hp : popS op ≤ d) (hq : d - popS op + pushS op ≤ 16) (hd : d ≤ 16) (c : Bool) (s : List Bool) (hs : s.length = 16) (h3 : op = 14) :
    ∃ L, callT E 34 [.agg (mA c s), .i (.v (.int .i64 op)), .i (.v (.int .i64 d))] [] = some (.agg (mA (aft op d c s).1 (aft op d c s).2), L) := by
  obtain ⟨b1, b2⟩ := (pop_push op h0 h1).2.2.1 h3
  have p1 := popS_r op
  have p2 := pushS_r op
  have hpo := pops_at h0 h1
  have hpu := pushes_at h0 h1
  have hal := aft_len op d c s
  have hal1 := aft1_len op d c s
  unfold aft at hal ⊢
  have ha : aft1 op d c s = (c, s.set d.toNat (s.getD (d - 1).toNat false)) := by unfold aft1; rw [if_neg (by omega), if_neg (by omega), if_pos h3]
  rw [ha] at hal1 hal ⊢
  simp only at hal1 hal ⊢
  have hgy := mA_get' (c := c) (s := s) (k := (d - 1).toNat) (by omega)
  generalize s.getD (d - 1).toNat false = y at *
  clear ha
  generalize popS op = po at *
  generalize pushS op = pu at *
  obtain ⟨fr, e, f3, f6⟩ := l34 c (List.replicate 16 false) (16 - (d - po + pu).toNat) (d - po + pu).toNat (by omega) (s.set d.toNat y) (by omega)
  have hc : (((d - po + pu).toNat : Nat) : Int) = d - po + pu := by omega
  rw [hc] at e
  have hput0 := mA_put (c := c) (s := s) (k := d.toNat) (by first | omega | (simp only [List.length_set]; omega)) y
  generalize clr (16 - (d - po + pu).toNat) (d - po + pu).toNat (s.set d.toNat y) = s3 at *
  generalize s.set d.toNat y = s2 at *
  have e' : rl E 0 34 (loopAt Tryd.f34 0) [(3, .ptr 0 0 0 0), (6, .ptr 1 0 0 0), (8, .i (.v (.int .i64 (d - po + pu))))] [.box (mA c s2), .box [.i (.v (.bool false)), .i (.v (.bool false)), .i (.v (.bool false)), .i (.v (.bool false)), .i (.v (.bool false)), .i (.v (.bool false)), .i (.v (.bool false)), .i (.v (.bool false)), .i (.v (.bool false)), .i (.v (.bool false)), .i (.v (.bool false)), .i (.v (.bool false)), .i (.v (.bool false)), .i (.v (.bool false)), .i (.v (.bool false)), .i (.v (.bool false)), .i (.v (.bool false))]] = some (.exit 1, fr, [.box (mA c s3), .box [.i (.v (.bool false)), .i (.v (.bool false)), .i (.v (.bool false)), .i (.v (.bool false)), .i (.v (.bool false)), .i (.v (.bool false)), .i (.v (.bool false)), .i (.v (.bool false)), .i (.v (.bool false)), .i (.v (.bool false)), .i (.v (.bool false)), .i (.v (.bool false)), .i (.v (.bool false)), .i (.v (.bool false)), .i (.v (.bool false)), .i (.v (.bool false)), .i (.v (.bool false))]]) := e
  clear e
  have hs3 : s3.length = 16 := by omega
  have ht := mA_take (c := c) (s := s3) (n := 17) (by omega)
  rw [callT_eq Tryd.func34 rfl fok34 (by simp [Tryd.ntmps34])]
  simp (disch := first | omega | (simp only [vlen, mA_len]; omega)) only [vall, List.take_of_length_le, gB, gcW, gcR, posIn, renA, renL, Chunk.ren, Chunk.refs, evOpD, touchD, stepC, isFresh, nFresh, freshOf, mkR, hole, evL, evH, opd, get, putD, ofVal, cellOf, loadE, behind, lenE, idxAddrE, idxE, lookE, lookM, addPtr, intE, strE, unE, convE, AV.int, AV.bool, AV.str, ivs, take, frameOf, firstRegion, refsA, refsL, one, cellsA, floatOk, apartT, List.map, if_true, if_false, E_P, E_glob0, E_glob1, reduceCtorEq, beq_self_eq_true, ↓reduceIte, Nat.reduceEqDiff, cond_true, cond_false, Nat.reduceAdd, Nat.reduceSub, Nat.reduceMul, Nat.reduceLT, Nat.reduceLeDiff, Int.reduceToNat, Int.reduceLT, Int.reduceLE, Option.getD, Int.reduceMul, Int.reduceAdd, List.drop, List.take, Nat.reduceBEq, List.isEmpty, Int.reduceEq, Int.reduceNe, Int.reduceNeg, Int.reduceGT, Int.reduceGE, beq_true, beq_false, UInt8.reduceToNat, eqE, eq_self, foldE, maxE, minE, fillA, over, chop, List.replicate, leavesOk, leafOk, cellsEq, cellEq, E_byref, en34, hd, hpo, hpu, hput0, hgy, e', f3, f6, ht, hs3, mA_len, mA_get0, mA_put0, mA_cn, mA_refs, mA_ren, mA_all, mA_frz, mI_ivs, mI_map, Nat.mul_one, Bool.true_or, Bool.false_or, show ∀ B fr H, execT E B 34 (Code.loop _) fr H = rlG E B 34 (loopAt Tryd.f34 0) (gcn B (norm [3, 6, 8] fr) H) from fun B fr H => rl_intro rfl mt34_15 mb34_15 zf34_15 hd34_15 fr H]
  exact ⟨_, rfl⟩
theorem c34_4 (op d : Int) (h0 : 0 ≤ op) (h1 : op ≤ 20) (hp : popS op ≤ d) (hq : d - popS op + pushS op ≤ 16) (hd : d ≤ 16) (c : Bool) (s : List Bool) (hs : s.length = 16) (h3 : op = 16) :
    ∃ L, callT E 34 [.agg (mA c s), .i (.v (.int .i64 op)), .i (.v (.int .i64 d))] [] = some (.agg (mA (aft op d c s).1 (aft op d c s).2), L) := by
  have b1 := (pop_push op h0 h1).2.2.2.1 h3
  have p1 := popS_r op
  have p2 := pushS_r op
  have hpo := pops_at h0 h1
  have hpu := pushes_at h0 h1
  have hal := aft_len op d c s
  have hal1 := aft1_len op d c s
  unfold aft at hal ⊢
  have ha : aft1 op d c s = (c, (s.set (d - 1 - 1).toNat (s.getD (d - 1).toNat false)).set (d - 1).toNat (s.getD (d - 1 - 1).toNat false)) := by unfold aft1; rw [if_neg (by omega), if_neg (by omega), if_neg (by omega), if_pos h3]
  rw [ha] at hal1 hal ⊢
  simp only at hal1 hal ⊢
  have hgx := mA_get' (c := c) (s := s) (k := (d - 1 - 1).toNat) (by omega)
  generalize s.getD (d - 1 - 1).toNat false = x at *
  have hgy := mA_get' (c := c) (s := s) (k := (d - 1).toNat) (by omega)
  generalize s.getD (d - 1).toNat false = y at *
  clear ha
  generalize popS op = po at *
  generalize pushS op = pu at *
  obtain ⟨fr, e, f3, f6⟩ := l34 c (List.replicate 16 false) (16 - (d - po + pu).toNat) (d - po + pu).toNat (by omega) ((s.set (d - 1 - 1).toNat y).set (d - 1).toNat x) (by omega)
  have hc : (((d - po + pu).toNat : Nat) : Int) = d - po + pu := by omega
  rw [hc] at e
  have hput0 := mA_put (c := c) (s := s) (k := (d - 1 - 1).toNat) (by first | omega | (simp only [List.length_set]; omega)) y
  have hput1 := mA_put (c := c) (s := (s.set (d - 1 - 1).toNat y)) (k := (d - 1).toNat) (by first | omega | (simp only [List.length_set]; omega)) x
  generalize clr (16 - (d - po + pu).toNat) (d - po + pu).toNat ((s.set (d - 1 - 1).toNat y).set (d - 1).toNat x) = s3 at *
  have e' : rl E 0 34 (loopAt Tryd.f34 0) [(3, .ptr 0 0 0 0), (6, .ptr 1 0 0 0), (8, .i (.v (.int .i64 (d - po + pu))))] [.box (mA c ((s.set (d - 1 - 1).toNat y).set (d - 1).toNat x)), .box [.i (.v (.bool false)), .i (.v (.bool false)), .i (.v (.bool false)), .i (.v (.bool false)), .i (.v (.bool false)), .i (.v (.bool false)), .i (.v (.bool false)), .i (.v (.bool false)), .i (.v (.bool false)), .i (.v (.bool false)), .i (.v (.bool false)), .i (.v (.bool false)), .i (.v (.bool false)), .i (.v (.bool false)), .i (.v (.bool false)), .i (.v (.bool false)), .i (.v (.bool false))]] = some (.exit 1, fr, [.box (mA c s3), .box [.i (.v (.bool false)), .i (.v (.bool false)), .i (.v (.bool false)), .i (.v (.bool false)), .i (.v (.bool false)), .i (.v (.bool false)), .i (.v (.bool false)), .i (.v (.bool false)), .i (.v (.bool false)), .i (.v (.bool false)), .i (.v (.bool false)), .i (.v (.bool false)), .i (.v (.bool false)), .i (.v (.bool false)), .i (.v (.bool false)), .i (.v (.bool false)), .i (.v (.bool false))]]) := e
  clear e
  have hs3 : s3.length = 16 := by omega
  have ht := mA_take (c := c) (s := s3) (n := 17) (by omega)
  rw [callT_eq Tryd.func34 rfl fok34 (by simp [Tryd.ntmps34])]
  simp (disch := first | omega | (simp only [vlen, mA_len]; omega)) only [vall, List.take_of_length_le, gB, gcW, gcR, posIn, renA, renL, Chunk.ren, Chunk.refs, evOpD, touchD, stepC, isFresh, nFresh, freshOf, mkR, hole, evL, evH, opd, get, putD, ofVal, cellOf, loadE, behind, lenE, idxAddrE, idxE, lookE, lookM, addPtr, intE, strE, unE, convE, AV.int, AV.bool, AV.str, ivs, take, frameOf, firstRegion, refsA, refsL, one, cellsA, floatOk, apartT, List.map, if_true, if_false, E_P, E_glob0, E_glob1, reduceCtorEq, beq_self_eq_true, ↓reduceIte, Nat.reduceEqDiff, cond_true, cond_false, Nat.reduceAdd, Nat.reduceSub, Nat.reduceMul, Nat.reduceLT, Nat.reduceLeDiff, Int.reduceToNat, Int.reduceLT, Int.reduceLE, Option.getD, Int.reduceMul, Int.reduceAdd, List.drop, List.take, Nat.reduceBEq, List.isEmpty, Int.reduceEq, Int.reduceNe, Int.reduceNeg, Int.reduceGT, Int.reduceGE, beq_true, beq_false, UInt8.reduceToNat, eqE, eq_self, foldE, maxE, minE, fillA, over, chop, List.replicate, leavesOk, leafOk, cellsEq, cellEq, E_byref, en34, hd, hpo, hpu, hput0, hput1, hgx, hgy, e', f3, f6, ht, hs3, mA_len, mA_get0, mA_put0, mA_cn, mA_refs, mA_ren, mA_all, mA_frz, mI_ivs, mI_map, Nat.mul_one, Bool.true_or, Bool.false_or, show ∀ B fr H, execT E B 34 (Code.loop _) fr H = rlG E B 34 (loopAt Tryd.f34 0) (gcn B (norm [3, 6, 8] fr) H) from fun B fr H => rl_intro rfl mt34_15 mb34_15 zf34_15 hd34_15 fr H]
  exact ⟨_, rfl⟩
theorem c34_5 (op d : Int) (h0 : 0 ≤ op) (h1 : op ≤ 20) (hp : popS op ≤ d) (hq : d - popS op + pushS op ≤ 16) (hd : d ≤ 16) (c : Bool) (s : List Bool) (hs : s.length = 16) (h3 : op = 18) :
    ∃ L, callT E 34 [.agg (mA c s), .i (.v (.int .i64 op)), .i (.v (.int .i64 d))] [] = some (.agg (mA (aft op d c s).1 (aft op d c s).2), L) := by
  have b1 := (pop_push op h0 h1).2.2.2.2.1 h3
  have p1 := popS_r op
  have p2 := pushS_r op
  have hpo := pops_at h0 h1
  have hpu := pushes_at h0 h1
  have hal := aft_len op d c s
  have hal1 := aft1_len op d c s
  unfold aft at hal ⊢
  have ha : aft1 op d c s = ((c || s.getD (d - 1).toNat false), s) := by unfold aft1; rw [if_neg (by omega), if_neg (by omega), if_neg (by omega), if_neg (by omega), if_pos h3]
  rw [ha] at hal1 hal ⊢
  simp only at hal1 hal ⊢
  have hgy := mA_get' (c := c) (s := s) (k := (d - 1).toNat) (by omega)
  generalize s.getD (d - 1).toNat false = y at *
  clear ha
  generalize popS op = po at *
  generalize pushS op = pu at *
  obtain ⟨fr, e, f3, f6⟩ := l34 (c || y) (List.replicate 16 false) (16 - (d - po + pu).toNat) (d - po + pu).toNat (by omega) (s) (by omega)
  have hc : (((d - po + pu).toNat : Nat) : Int) = d - po + pu := by omega
  rw [hc] at e
  generalize clr (16 - (d - po + pu).toNat) (d - po + pu).toNat s = s3 at *
  have e' : rl E 0 34 (loopAt Tryd.f34 0) [(3, .ptr 0 0 0 0), (6, .ptr 1 0 0 0), (8, .i (.v (.int .i64 (d - po + pu))))] [.box (mA (c || y) s), .box [.i (.v (.bool false)), .i (.v (.bool false)), .i (.v (.bool false)), .i (.v (.bool false)), .i (.v (.bool false)), .i (.v (.bool false)), .i (.v (.bool false)), .i (.v (.bool false)), .i (.v (.bool false)), .i (.v (.bool false)), .i (.v (.bool false)), .i (.v (.bool false)), .i (.v (.bool false)), .i (.v (.bool false)), .i (.v (.bool false)), .i (.v (.bool false)), .i (.v (.bool false))]] = some (.exit 1, fr, [.box (mA (c || y) s3), .box [.i (.v (.bool false)), .i (.v (.bool false)), .i (.v (.bool false)), .i (.v (.bool false)), .i (.v (.bool false)), .i (.v (.bool false)), .i (.v (.bool false)), .i (.v (.bool false)), .i (.v (.bool false)), .i (.v (.bool false)), .i (.v (.bool false)), .i (.v (.bool false)), .i (.v (.bool false)), .i (.v (.bool false)), .i (.v (.bool false)), .i (.v (.bool false)), .i (.v (.bool false))]]) := e
  clear e
  have hs3 : s3.length = 16 := by omega
  have ht := mA_take (c := (c || y)) (s := s3) (n := 17) (by omega)
  cases c
  · simp only [Bool.true_or, Bool.false_or] at e' ht ⊢
    rw [callT_eq Tryd.func34 rfl fok34 (by simp [Tryd.ntmps34])]
    simp (disch := first | omega | (simp only [vlen, mA_len]; omega)) only [vall, List.take_of_length_le, gB, gcW, gcR, posIn, renA, renL, Chunk.ren, Chunk.refs, evOpD, touchD, stepC, isFresh, nFresh, freshOf, mkR, hole, evL, evH, opd, get, putD, ofVal, cellOf, loadE, behind, lenE, idxAddrE, idxE, lookE, lookM, addPtr, intE, strE, unE, convE, AV.int, AV.bool, AV.str, ivs, take, frameOf, firstRegion, refsA, refsL, one, cellsA, floatOk, apartT, List.map, if_true, if_false, E_P, E_glob0, E_glob1, reduceCtorEq, beq_self_eq_true, ↓reduceIte, Nat.reduceEqDiff, cond_true, cond_false, Nat.reduceAdd, Nat.reduceSub, Nat.reduceMul, Nat.reduceLT, Nat.reduceLeDiff, Int.reduceToNat, Int.reduceLT, Int.reduceLE, Option.getD, Int.reduceMul, Int.reduceAdd, List.drop, List.take, Nat.reduceBEq, List.isEmpty, Int.reduceEq, Int.reduceNe, Int.reduceNeg, Int.reduceGT, Int.reduceGE, beq_true, beq_false, UInt8.reduceToNat, eqE, eq_self, foldE, maxE, minE, fillA, over, chop, List.replicate, leavesOk, leafOk, cellsEq, cellEq, E_byref, en34, hd, hpo, hpu, hgy, e', f3, f6, ht, hs3, mA_len, mA_get0, mA_put0, mA_cn, mA_refs, mA_ren, mA_all, mA_frz, mI_ivs, mI_map, Nat.mul_one, Bool.true_or, Bool.false_or, show ∀ B fr H, execT E B 34 (Code.loop _) fr H = rlG E B 34 (loopAt Tryd.f34 0) (gcn B (norm [3, 6, 8] fr) H) from fun B fr H => rl_intro rfl mt34_15 mb34_15 zf34_15 hd34_15 fr H]
    exact ⟨_, rfl⟩
  · simp only [Bool.true_or, Bool.false_or] at e' ht ⊢
    rw [callT_eq Tryd.func34 rfl fok34 (by simp [Tryd.ntmps34])]
    simp (disch := first | omega | (simp only [vlen, mA_len]; omega)) only [vall, List.take_of_length_le, gB, gcW, gcR, posIn, renA, renL, Chunk.ren, Chunk.refs, evOpD, touchD, stepC, isFresh, nFresh, freshOf, mkR, hole, evL, evH, opd, get, putD, ofVal, cellOf, loadE, behind, lenE, idxAddrE, idxE, lookE, lookM, addPtr, intE, strE, unE, convE, AV.int, AV.bool, AV.str, ivs, take, frameOf, firstRegion, refsA, refsL, one, cellsA, floatOk, apartT, List.map, if_true, if_false, E_P, E_glob0, E_glob1, reduceCtorEq, beq_self_eq_true, ↓reduceIte, Nat.reduceEqDiff, cond_true, cond_false, Nat.reduceAdd, Nat.reduceSub, Nat.reduceMul, Nat.reduceLT, Nat.reduceLeDiff, Int.reduceToNat, Int.reduceLT, Int.reduceLE, Option.getD, Int.reduceMul, Int.reduceAdd, List.drop, List.take, Nat.reduceBEq, List.isEmpty, Int.reduceEq, Int.reduceNe, Int.reduceNeg, Int.reduceGT, Int.reduceGE, beq_true, beq_false, UInt8.reduceToNat, eqE, eq_self, foldE, maxE, minE, fillA, over, chop, List.replicate, leavesOk, leafOk, cellsEq, cellEq, E_byref, en34, hd, hpo, hpu, hgy, e', f3, f6, ht, hs3, mA_len, mA_get0, mA_put0, mA_cn, mA_refs, mA_ren, mA_all, mA_frz, mI_ivs, mI_map, Nat.mul_one, Bool.true_or, Bool.false_or, show ∀ B fr H, execT E B 34 (Code.loop _) fr H = rlG E B 34 (loopAt Tryd.f34 0) (gcn B (norm [3, 6, 8] fr) H) from fun B fr H => rl_intro rfl mt34_15 mb34_15 zf34_15 hd34_15 fr H]
    exact ⟨_, rfl⟩
theorem c34_6 (op d : Int) (h0 : 0 ≤ op) (h1 : op ≤ 20) (hp : popS op ≤ d) (hq : d - popS op + pushS op ≤ 16) (hd : d ≤ 16) (c : Bool) (s : List Bool) (hs : s.length = 16) (h3 : op < 3 ∨ 5 < op ∧ op < 8) (h4 : pushS op = 1) :
    ∃ L, callT E 34 [.agg (mA c s), .i (.v (.int .i64 op)), .i (.v (.int .i64 d))] [] = some (.agg (mA (aft op d c s).1 (aft op d c s).2), L) := by
  have b1 := (pop_push op h0 h1).2.2.2.2.2.2 ⟨h4, by omega, by omega, by omega⟩
  have p1 := popS_r op
  have p2 := pushS_r op
  have hpo := pops_at h0 h1
  have hpu := pushes_at h0 h1
  have hal := aft_len op d c s
  have hal1 := aft1_len op d c s
  unfold aft at hal ⊢
  have ha : aft1 op d c s = (c, s.set d.toNat false) := by unfold aft1; rw [if_neg (by omega), if_neg (by omega), if_neg (by omega), if_neg (by omega), if_neg (by omega), if_pos ⟨by omega, h4⟩]
  rw [ha] at hal1 hal ⊢
  simp only at hal1 hal ⊢
  clear ha
  generalize popS op = po at *
  generalize pushS op = pu at *
  obtain ⟨fr, e, f3, f6⟩ := l34 c (List.replicate 16 false) (16 - (d - po + pu).toNat) (d - po + pu).toNat (by omega) (s.set d.toNat false) (by omega)
  have hc : (((d - po + pu).toNat : Nat) : Int) = d - po + pu := by omega
  rw [hc] at e
  have hput0 := mA_put (c := c) (s := s) (k := d.toNat) (by first | omega | (simp only [List.length_set]; omega)) false
  generalize clr (16 - (d - po + pu).toNat) (d - po + pu).toNat (s.set d.toNat false) = s3 at *
  generalize s.set d.toNat false = s2 at *
  have e' : rl E 0 34 (loopAt Tryd.f34 0) [(3, .ptr 0 0 0 0), (6, .ptr 1 0 0 0), (8, .i (.v (.int .i64 (d - po + pu))))] [.box (mA c s2), .box [.i (.v (.bool false)), .i (.v (.bool false)), .i (.v (.bool false)), .i (.v (.bool false)), .i (.v (.bool false)), .i (.v (.bool false)), .i (.v (.bool false)), .i (.v (.bool false)), .i (.v (.bool false)), .i (.v (.bool false)), .i (.v (.bool false)), .i (.v (.bool false)), .i (.v (.bool false)), .i (.v (.bool false)), .i (.v (.bool false)), .i (.v (.bool false)), .i (.v (.bool false))]] = some (.exit 1, fr, [.box (mA c s3), .box [.i (.v (.bool false)), .i (.v (.bool false)), .i (.v (.bool false)), .i (.v (.bool false)), .i (.v (.bool false)), .i (.v (.bool false)), .i (.v (.bool false)), .i (.v (.bool false)), .i (.v (.bool false)), .i (.v (.bool false)), .i (.v (.bool false)), .i (.v (.bool false)), .i (.v (.bool false)), .i (.v (.bool false)), .i (.v (.bool false)), .i (.v (.bool false)), .i (.v (.bool false))]]) := e
  clear e
  have hs3 : s3.length = 16 := by omega
  have ht := mA_take (c := c) (s := s3) (n := 17) (by omega)
  rcases h3 with h3 | h3
  · have h5 : ¬ 3 ≤ op := by omega
    rw [callT_eq Tryd.func34 rfl fok34 (by simp [Tryd.ntmps34])]
    simp (disch := first | omega | (simp only [vlen, mA_len]; omega)) only [vall, List.take_of_length_le, gB, gcW, gcR, posIn, renA, renL, Chunk.ren, Chunk.refs, evOpD, touchD, stepC, isFresh, nFresh, freshOf, mkR, hole, evL, evH, opd, get, putD, ofVal, cellOf, loadE, behind, lenE, idxAddrE, idxE, lookE, lookM, addPtr, intE, strE, unE, convE, AV.int, AV.bool, AV.str, ivs, take, frameOf, firstRegion, refsA, refsL, one, cellsA, floatOk, apartT, List.map, if_true, if_false, E_P, E_glob0, E_glob1, reduceCtorEq, beq_self_eq_true, ↓reduceIte, Nat.reduceEqDiff, cond_true, cond_false, Nat.reduceAdd, Nat.reduceSub, Nat.reduceMul, Nat.reduceLT, Nat.reduceLeDiff, Int.reduceToNat, Int.reduceLT, Int.reduceLE, Option.getD, Int.reduceMul, Int.reduceAdd, List.drop, List.take, Nat.reduceBEq, List.isEmpty, Int.reduceEq, Int.reduceNe, Int.reduceNeg, Int.reduceGT, Int.reduceGE, beq_true, beq_false, UInt8.reduceToNat, eqE, eq_self, foldE, maxE, minE, fillA, over, chop, List.replicate, leavesOk, leafOk, cellsEq, cellEq, E_byref, en34, h5, hpo, hpu, hput0, e', f3, f6, ht, hs3, mA_len, mA_get0, mA_put0, mA_cn, mA_refs, mA_ren, mA_all, mA_frz, mI_ivs, mI_map, Nat.mul_one, Bool.true_or, Bool.false_or, show ∀ B fr H, execT E B 34 (Code.loop _) fr H = rlG E B 34 (loopAt Tryd.f34 0) (gcn B (norm [3, 6, 8] fr) H) from fun B fr H => rl_intro rfl mt34_15 mb34_15 zf34_15 hd34_15 fr H]
    exact ⟨_, rfl⟩
  · have h5 : 3 ≤ op := by omega
    rw [callT_eq Tryd.func34 rfl fok34 (by simp [Tryd.ntmps34])]
    simp (disch := first | omega | (simp only [vlen, mA_len]; omega)) only [vall, List.take_of_length_le, gB, gcW, gcR, posIn, renA, renL, Chunk.ren, Chunk.refs, evOpD, touchD, stepC, isFresh, nFresh, freshOf, mkR, hole, evL, evH, opd, get, putD, ofVal, cellOf, loadE, behind, lenE, idxAddrE, idxE, lookE, lookM, addPtr, intE, strE, unE, convE, AV.int, AV.bool, AV.str, ivs, take, frameOf, firstRegion, refsA, refsL, one, cellsA, floatOk, apartT, List.map, if_true, if_false, E_P, E_glob0, E_glob1, reduceCtorEq, beq_self_eq_true, ↓reduceIte, Nat.reduceEqDiff, cond_true, cond_false, Nat.reduceAdd, Nat.reduceSub, Nat.reduceMul, Nat.reduceLT, Nat.reduceLeDiff, Int.reduceToNat, Int.reduceLT, Int.reduceLE, Option.getD, Int.reduceMul, Int.reduceAdd, List.drop, List.take, Nat.reduceBEq, List.isEmpty, Int.reduceEq, Int.reduceNe, Int.reduceNeg, Int.reduceGT, Int.reduceGE, beq_true, beq_false, UInt8.reduceToNat, eqE, eq_self, foldE, maxE, minE, fillA, over, chop, List.replicate, leavesOk, leafOk, cellsEq, cellEq, E_byref, en34, h5, h3.1, h3.2, hpo, hpu, hput0, e', f3, f6, ht, hs3, mA_len, mA_get0, mA_put0, mA_cn, mA_refs, mA_ren, mA_all, mA_frz, mI_ivs, mI_map, Nat.mul_one, Bool.true_or, Bool.false_or, show ∀ B fr H, execT E B 34 (Code.loop _) fr H = rlG E B 34 (loopAt Tryd.f34 0) (gcn B (norm [3, 6, 8] fr) H) from fun B fr H => rl_intro rfl mt34_15 mb34_15 zf34_15 hd34_15 fr H]
    exact ⟨_, rfl⟩
theorem c34_7 (op d : Int) (h0 : 0 ≤ op) (h1 : op ≤ 20) (hp : popS op ≤ d) (hq : d - popS op + pushS op ≤ 16) (hd : d ≤ 16) (c : Bool) (s : List Bool) (hs : s.length = 16) (h3 : op < 3 ∨ 12 < op ∧ op ≠ 14 ∧ op ≠ 16 ∧ op ≠ 18) (h4 : op = 13 ∨ pushS op ≠ 1) :
    ∃ L, callT E 34 [.agg (mA c s), .i (.v (.int .i64 op)), .i (.v (.int .i64 d))] [] = some (.agg (mA (aft op d c s).1 (aft op d c s).2), L) := by
  have p1 := popS_r op
  have p2 := pushS_r op
  have hpo := pops_at h0 h1
  have hpu := pushes_at h0 h1
  have hal := aft_len op d c s
  have hal1 := aft1_len op d c s
  unfold aft at hal ⊢
  have ha : aft1 op d c s = (c, s) := by unfold aft1; rw [if_neg (by omega), if_neg (by omega), if_neg (by omega), if_neg (by omega), if_neg (by omega), if_neg (by omega)]
  rw [ha] at hal1 hal ⊢
  simp only at hal1 hal ⊢
  clear ha
  generalize popS op = po at *
  generalize pushS op = pu at *
  obtain ⟨fr, e, f3, f6⟩ := l34 c (List.replicate 16 false) (16 - (d - po + pu).toNat) (d - po + pu).toNat (by omega) (s) (by omega)
  have hc : (((d - po + pu).toNat : Nat) : Int) = d - po + pu := by omega
  rw [hc] at e
  generalize clr (16 - (d - po + pu).toNat) (d - po + pu).toNat s = s3 at *
  have e' : rl E 0 34 (loopAt Tryd.f34 0) [(3, .ptr 0 0 0 0), (6, .ptr 1 0 0 0), (8, .i (.v (.int .i64 (d - po + pu))))] [.box (mA c s), .box [.i (.v (.bool false)), .i (.v (.bool false)), .i (.v (.bool false)), .i (.v (.bool false)), .i (.v (.bool false)), .i (.v (.bool false)), .i (.v (.bool false)), .i (.v (.bool false)), .i (.v (.bool false)), .i (.v (.bool false)), .i (.v (.bool false)), .i (.v (.bool false)), .i (.v (.bool false)), .i (.v (.bool false)), .i (.v (.bool false)), .i (.v (.bool false)), .i (.v (.bool false))]] = some (.exit 1, fr, [.box (mA c s3), .box [.i (.v (.bool false)), .i (.v (.bool false)), .i (.v (.bool false)), .i (.v (.bool false)), .i (.v (.bool false)), .i (.v (.bool false)), .i (.v (.bool false)), .i (.v (.bool false)), .i (.v (.bool false)), .i (.v (.bool false)), .i (.v (.bool false)), .i (.v (.bool false)), .i (.v (.bool false)), .i (.v (.bool false)), .i (.v (.bool false)), .i (.v (.bool false)), .i (.v (.bool false))]]) := e
  clear e
  have hs3 : s3.length = 16 := by omega
  have ht := mA_take (c := c) (s := s3) (n := 17) (by omega)
  rcases h3 with h3 | h3
  · have h5 : ¬ 3 ≤ op := by omega
    have h6 := h4.resolve_left (by omega)
    rw [callT_eq Tryd.func34 rfl fok34 (by simp [Tryd.ntmps34])]
    simp (disch := first | omega | (simp only [vlen, mA_len]; omega)) only [vall, List.take_of_length_le, gB, gcW, gcR, posIn, renA, renL, Chunk.ren, Chunk.refs, evOpD, touchD, stepC, isFresh, nFresh, freshOf, mkR, hole, evL, evH, opd, get, putD, ofVal, cellOf, loadE, behind, lenE, idxAddrE, idxE, lookE, lookM, addPtr, intE, strE, unE, convE, AV.int, AV.bool, AV.str, ivs, take, frameOf, firstRegion, refsA, refsL, one, cellsA, floatOk, apartT, List.map, if_true, if_false, E_P, E_glob0, E_glob1, reduceCtorEq, beq_self_eq_true, ↓reduceIte, Nat.reduceEqDiff, cond_true, cond_false, Nat.reduceAdd, Nat.reduceSub, Nat.reduceMul, Nat.reduceLT, Nat.reduceLeDiff, Int.reduceToNat, Int.reduceLT, Int.reduceLE, Option.getD, Int.reduceMul, Int.reduceAdd, List.drop, List.take, Nat.reduceBEq, List.isEmpty, Int.reduceEq, Int.reduceNe, Int.reduceNeg, Int.reduceGT, Int.reduceGE, beq_true, beq_false, UInt8.reduceToNat, eqE, eq_self, foldE, maxE, minE, fillA, over, chop, List.replicate, leavesOk, leafOk, cellsEq, cellEq, E_byref, en34, h6, h5, hpo, hpu, e', f3, f6, ht, hs3, mA_len, mA_get0, mA_put0, mA_cn, mA_refs, mA_ren, mA_all, mA_frz, mI_ivs, mI_map, Nat.mul_one, Bool.true_or, Bool.false_or, show ∀ B fr H, execT E B 34 (Code.loop _) fr H = rlG E B 34 (loopAt Tryd.f34 0) (gcn B (norm [3, 6, 8] fr) H) from fun B fr H => rl_intro rfl mt34_15 mb34_15 zf34_15 hd34_15 fr H]
    exact ⟨_, rfl⟩
  · obtain ⟨h5, h6, h7, h8⟩ := h3
    by_cases h9 : op = 13
    · have h10 : 3 ≤ op := by omega
      rw [callT_eq Tryd.func34 rfl fok34 (by simp [Tryd.ntmps34])]
      simp (disch := first | omega | (simp only [vlen, mA_len]; omega)) only [vall, List.take_of_length_le, gB, gcW, gcR, posIn, renA, renL, Chunk.ren, Chunk.refs, evOpD, touchD, stepC, isFresh, nFresh, freshOf, mkR, hole, evL, evH, opd, get, putD, ofVal, cellOf, loadE, behind, lenE, idxAddrE, idxE, lookE, lookM, addPtr, intE, strE, unE, convE, AV.int, AV.bool, AV.str, ivs, take, frameOf, firstRegion, refsA, refsL, one, cellsA, floatOk, apartT, List.map, if_true, if_false, E_P, E_glob0, E_glob1, reduceCtorEq, beq_self_eq_true, ↓reduceIte, Nat.reduceEqDiff, cond_true, cond_false, Nat.reduceAdd, Nat.reduceSub, Nat.reduceMul, Nat.reduceLT, Nat.reduceLeDiff, Int.reduceToNat, Int.reduceLT, Int.reduceLE, Option.getD, Int.reduceMul, Int.reduceAdd, List.drop, List.take, Nat.reduceBEq, List.isEmpty, Int.reduceEq, Int.reduceNe, Int.reduceNeg, Int.reduceGT, Int.reduceGE, beq_true, beq_false, UInt8.reduceToNat, eqE, eq_self, foldE, maxE, minE, fillA, over, chop, List.replicate, leavesOk, leafOk, cellsEq, cellEq, E_byref, en34, h10, h5, h6, h7, h8, hpo, hpu, e', f3, f6, ht, hs3, mA_len, mA_get0, mA_put0, mA_cn, mA_refs, mA_ren, mA_all, mA_frz, mI_ivs, mI_map, Nat.mul_one, Bool.true_or, Bool.false_or, show ∀ B fr H, execT E B 34 (Code.loop _) fr H = rlG E B 34 (loopAt Tryd.f34 0) (gcn B (norm [3, 6, 8] fr) H) from fun B fr H => rl_intro rfl mt34_15 mb34_15 zf34_15 hd34_15 fr H]
      exact ⟨_, rfl⟩
    · have h10 := h4.resolve_left h9
      rw [callT_eq Tryd.func34 rfl fok34 (by simp [Tryd.ntmps34])]
      simp (disch := first | omega | (simp only [vlen, mA_len]; omega)) only [vall, List.take_of_length_le, gB, gcW, gcR, posIn, renA, renL, Chunk.ren, Chunk.refs, evOpD, touchD, stepC, isFresh, nFresh, freshOf, mkR, hole, evL, evH, opd, get, putD, ofVal, cellOf, loadE, behind, lenE, idxAddrE, idxE, lookE, lookM, addPtr, intE, strE, unE, convE, AV.int, AV.bool, AV.str, ivs, take, frameOf, firstRegion, refsA, refsL, one, cellsA, floatOk, apartT, List.map, if_true, if_false, E_P, E_glob0, E_glob1, reduceCtorEq, beq_self_eq_true, ↓reduceIte, Nat.reduceEqDiff, cond_true, cond_false, Nat.reduceAdd, Nat.reduceSub, Nat.reduceMul, Nat.reduceLT, Nat.reduceLeDiff, Int.reduceToNat, Int.reduceLT, Int.reduceLE, Option.getD, Int.reduceMul, Int.reduceAdd, List.drop, List.take, Nat.reduceBEq, List.isEmpty, Int.reduceEq, Int.reduceNe, Int.reduceNeg, Int.reduceGT, Int.reduceGE, beq_true, beq_false, UInt8.reduceToNat, eqE, eq_self, foldE, maxE, minE, fillA, over, chop, List.replicate, leavesOk, leafOk, cellsEq, cellEq, E_byref, en34, h9, h10, h5, h6, h7, h8, hpo, hpu, e', f3, f6, ht, hs3, mA_len, mA_get0, mA_put0, mA_cn, mA_refs, mA_ren, mA_all, mA_frz, mI_ivs, mI_map, Nat.mul_one, Bool.true_or, Bool.false_or, show ∀ B fr H, execT E B 34 (Code.loop _) fr H = rlG E B 34 (loopAt Tryd.f34 0) (gcn B (norm [3, 6, 8] fr) H) from fun B fr H => rl_intro rfl mt34_15 mb34_15 zf34_15 hd34_15 fr H]
      exact ⟨_, rfl⟩
theorem c34 (op d : Int) (h0 : 0 ≤ op) (h1 : op ≤ 20) (hp : popS op ≤ d) (hq : d - popS op + pushS op ≤ 16) (hd : d ≤ 16) (c : Bool) (s : List Bool) (hs : s.length = 16) :
    ∃ L, callT E 34 [.agg (mA c s), .i (.v (.int .i64 op)), .i (.v (.int .i64 d))] [] = some (.agg (mA (aft op d c s).1 (aft op d c s).2), L) := by
  by_cases a1 : 3 ≤ op ∧ op ≤ 5
  · exact c34_1 op d h0 h1 hp hq hd c s hs a1
  by_cases a2 : 8 ≤ op ∧ op ≤ 12
  · exact c34_2 op d h0 h1 hp hq hd c s hs a2
  by_cases a3 : op = 14
  · exact c34_3 op d h0 h1 hp hq hd c s hs a3
  by_cases a4 : op = 16
  · exact c34_4 op d h0 h1 hp hq hd c s hs a4
  by_cases a5 : op = 18
  · exact c34_5 op d h0 h1 hp hq hd c s hs a5
  by_cases a6 : op < 3 ∨ 5 < op ∧ op < 8
  · by_cases a7 : pushS op = 1
    · exact c34_6 op d h0 h1 hp hq hd c s hs a6 a7
    · by_cases a8 : op < 3
      · exact c34_7 op d h0 h1 hp hq hd c s hs (.inl a8) (.inr a7)
      · exfalso
        have : op = 6 ∨ op = 7 := by omega
        rcases this with h | h <;> subst h <;> exact a7 (by decide)
  · refine c34_7 op d h0 h1 hp hq hd c s hs (.inr ⟨by omega, a3, a4, a5⟩) ?_
    have : op = 13 ∨ op = 15 ∨ op = 17 ∨ op = 19 ∨ op = 20 := by omega
    rcases this with h | h | h | h | h <;> subst h <;> decide
end Go.VI

namespace Go.VI
open Go.Proofs
set_option maxRecDepth 100000
set_option linter.unusedSimpArgs false
set_option linter.unusedVariables false
set_option maxHeartbeats 4000000
section
variable {E : Env} {B : Nat} {f : FuncId} {fn : Func} {k j : Nat} {c : Code} {hd : List Nat}
def loopIn (fn : Func) (k j : Nat) : Code := (loops (rfAt fn k).2).getD j .skip
theorem rl_introI (hc : loopIn fn k j = .loop c) (hm : E.mat f ((firstRegion c).getD 0) = []) (hb : E.matb f ((firstRegion c).getD 0) = []) (hz : E.frz f ((firstRegion c).getD 0) = []) (hh : E.head f ((firstRegion c).getD 0) = hd) (fr : Fr) (H : Hp) : execT E B f (.loop c) fr H = rlG E B f (loopIn fn k j) (gcn B (norm hd fr) H) := by
  unfold rlG rl
  rw [hc, execT_loop]
  simp only [hdE, hm, hb, hz, hh, matF_nil, matB_nil, frzF_nil]
theorem rl_stepI (hc : loopIn fn k j = .loop c) (fr : Fr) (H : Hp) : rl E B f (loopIn fn k j) fr H = seqK (execT E B f (.loop c)) (execT E B f c fr H) := by
  unfold rl
  rw [hc]
end
abbrev Mk := Bool × List Bool
def rowsM (ms : List Mk) : List (List IV) := ms.map fun m => mI m.1 m.2
def getM (ms : List Mk) (k : Nat) : Mk := ms.getD k (false, [])
theorem rowsM_len (ms : List Mk) : (rowsM ms).length = ms.length := by simp [rowsM]
theorem rowsM_get {ms : List Mk} {k : Nat} (h : k < ms.length) : (rowsM ms)[k]? = some (mI (getM ms k).1 (getM ms k).2) := by
  rw [getM, List.getD_eq_getElem?_getD, List.getElem?_eq_getElem h]; simp [rowsM, h]
theorem rowsM_set (ms : List Mk) (k : Nat) (c : Bool) (s : List Bool) : (rowsM ms).set k (mI c s) = rowsM (ms.set k (c, s)) := by simp [rowsM, List.map_set]
theorem mI_get {c : Bool} {s : List Bool} {k : Nat} (h : k < s.length) : (mI c s)[1 + k]? = some (.v (.bool (s.getD k false))) := by
  rw [Nat.add_comm, List.getD_eq_getElem?_getD, List.getElem?_eq_getElem h]; simp [mI, h]
theorem mI_get0 (c : Bool) (s : List Bool) : (mI c s)[0]? = some (.v (.bool c)) := rfl
theorem mI_put {c : Bool} {s : List Bool} {k : Nat} (h : k < s.length) (x : Bool) : List.take (1 + k) (mI c s) ++ [.v (.bool x)] ++ List.drop (1 + k + 1) (mI c s) = mI c (s.set k x) := by
  have h1 : (mI c s).set (k + 1) (.v (.bool x)) = mI c (s.set k x) := by simp [mI, List.map_set]
  rw [← h1, List.set_eq_take_append_cons_drop, if_pos (by rw [mI_len]; omega), Nat.add_comm 1 k]
  simp
theorem mI_tail (c x : Bool) (s : List Bool) : IV.v (.bool x) :: List.drop 1 (mI c s) = mI x s := rfl
def orR : Nat → Nat → List Bool → List Bool → List Bool
  | 0, _, _, t => t
  | r + 1, j, s, t => orR r (j + 1) s (t.set j (t.getD j false || s.getD j false))
theorem orR_len : ∀ (r j : Nat) (s t : List Bool), (orR r j s t).length = t.length
  | 0, j, s, t => rfl
  | r + 1, j, s, t => by rw [orR, orR_len r, List.length_set]
theorem getM_set {ms : List Mk} {k : Nat} (h : k < ms.length) (m : Mk) : getM (ms.set k m) k = m := by
  rw [getM, List.getD_eq_getElem?_getD, List.getElem?_set_self (by simpa using h)]; rfl
def arr (s : List Bool) : List AV := s.map fun b => .i (.v (.bool b))
theorem arr_get {s : List Bool} {k : Nat} (h : k < s.length) : (arr s)[k]? = some (.i (.v (.bool (s.getD k false)))) := by
  rw [List.getD_eq_getElem?_getD, List.getElem?_eq_getElem h]; simp [arr, h]
theorem arr_len (s : List Bool) : (arr s).length = s.length := by simp [arr]
theorem arr_cn (B : Nat) (H : Hp) : ∀ s : List Bool, cnL B H (arr s) = arr s
  | [] => rfl
  | b :: s => by
    have ih := arr_cn B H s
    unfold arr at ih ⊢
    rw [List.map_cons, cnL, ih]; rfl
theorem arr_refs : ∀ s : List Bool, refsL (arr s) = []
  | [] => rfl
  | b :: s => by
    have ih := arr_refs s
    unfold arr at ih ⊢
    rw [List.map_cons, refsL, ih]; rfl
theorem arr_ren (ρ : Nat → Option Nat) : ∀ s : List Bool, renL ρ (arr s) = arr s
  | [] => rfl
  | b :: s => by
    have ih := arr_ren ρ s
    unfold arr at ih ⊢
    rw [List.map_cons, renL, ih]; rfl
theorem l21_1 (n : Nat) (hn : n < 10000) (op arg i : Int) (c : Bool) (s : List Bool) (hs : s.length = 16) (x : Nat) (hx : x < n) : ∀ (r j : Nat) (hj : j + r = 16) (ms : List Mk) (hm : ms.length = n) (t : Mk) (ht : getM ms x = t) (htl : t.2.length = 16),
    ∃ fr, rl E 6 21 (loopIn Tryd.f21 0 0) [(6, .ptr 0 0 0 0), (10, .i (.v (.int .i64 x))), (89, .agg (arr s)), (90, .i (.v (.int .i64 j)))] [.box [.ref 1 0 0 (n)], .sl 17 0 (rowsM (ms)) false, .box [.i (.v (.int .i64 (op))), .i (.v (.int .i64 (arg)))], .box (mA (c) (s)), .box [.i (.v (.int .i64 (op))), .i (.v (.int .i64 (arg)))], .box [.i (.v (.int .i64 (i)))]] = some (.exit 4, fr, [.box [.ref 1 0 0 (n)], .sl 17 0 (rowsM (ms.set x (t.1, orR r j s t.2))) false, .box [.i (.v (.int .i64 (op))), .i (.v (.int .i64 (arg)))], .box (mA (c) (s)), .box [.i (.v (.int .i64 (op))), .i (.v (.int .i64 (arg)))], .box [.i (.v (.int .i64 (i)))]])
  | 0, j, hj, ms, hm, t, ht, htl => by
    rw [rl_stepI (fn := Tryd.f21) (k := 0) (j := 0) rfl]
    obtain rfl : j = 16 := by omega
    have hset : ms.set x (t.1, t.2) = ms := by
      rw [← ht, getM, List.getD_eq_getElem?_getD, List.getElem?_eq_getElem (by omega)]
      exact List.set_getElem_self (by omega)
    rw [orR, hset]
    simp (disch := first | omega | (simp only [vlen]; omega)) only [vall, List.take_of_length_le, gB, gcW, gcR, posIn, renA, renL, Chunk.ren, Chunk.refs, evOpD, touchD, stepC, isFresh, nFresh, freshOf, mkR, hole, evL, evH, opd, get, putD, ofVal, cellOf, loadE, behind, lenE, idxAddrE, idxE, lookE, lookM, addPtr, intE, strE, unE, convE, AV.int, AV.bool, AV.str, ivs, take, frameOf, firstRegion, refsA, refsL, one, cellsA, floatOk, apartT, List.map, if_true, if_false, E_P, E_glob0, E_glob1, reduceCtorEq, beq_self_eq_true, ↓reduceIte, Nat.reduceEqDiff, cond_true, cond_false, Nat.reduceAdd, Nat.reduceSub, Nat.reduceMul, Nat.reduceLT, Nat.reduceLeDiff, Int.reduceToNat, Int.reduceLT, Int.reduceLE, Option.getD, Int.reduceMul, Int.reduceAdd, List.drop, List.take, Nat.reduceBEq, List.isEmpty, Int.reduceEq, Int.reduceNe, Int.reduceNeg, Int.reduceGT, Int.reduceGE, beq_true, beq_false, UInt8.reduceToNat, eqE, eq_self, foldE, maxE, minE, fillA, over, chop, List.replicate, leavesOk, leafOk, cellsEq, cellEq, E_byref, en21, bs22, bs46, bs69, show List.range 6 = [0, 1, 2, 3, 4, 5] from rfl, arr_cn, arr_refs, arr_ren, mA_cn, mA_refs, mA_ren, show ∀ B fr H, execT E B 21 (Code.loop _) fr H = rlG E B 21 (loopIn Tryd.f21 0 0) (gcn B (norm [6, 10, 89, 90] fr) H) from fun B fr H => rl_introI rfl mt21_17 mb21_17 zf21_17 hd21_17 fr H]
    exact ⟨_, rfl⟩
  | r + 1, j, hj, ms, hm, t, ht, htl => by
    rw [rl_stepI (fn := Tryd.f21) (k := 0) (j := 0) rfl]
    rw [orR]
    have hrow := rowsM_get (ms := ms) (k := x) (by omega)
    rw [ht] at hrow
    obtain ⟨tc, ts⟩ := t
    simp only at hrow htl ⊢
    obtain ⟨fr, e⟩ := l21_1 n hn op arg i c s hs x hx r (j + 1) (by omega) (ms.set x (tc, ts.set j (ts.getD j false || s.getD j false))) (by rw [List.length_set]; exact hm) (tc, ts.set j (ts.getD j false || s.getD j false)) (getM_set (by omega) _) (by rw [List.length_set]; exact htl)
    rw [List.set_set] at e
    refine ⟨fr, Eq.trans ?_ e⟩
    clear e ht
    have hg := mI_get (c := tc) (s := ts) (k := j) (by omega)
    have ha := arr_get (s := s) (k := j) (by omega)
    have hput := mI_put (c := tc) (s := ts) (k := j) (by omega) (ts.getD j false || s.getD j false)
    have hst := rowsM_set ms x tc (ts.set j (ts.getD j false || s.getD j false))
    generalize ts.getD j false = tb at *
    generalize s.getD j false = sb at *
    have hal := arr_len s
    cases tb
    · simp only [Bool.false_or] at hput hst ⊢
      simp (disch := first | omega | (simp only [vlen, rowsM_len, mI_len]; omega)) only [vall, List.take_of_length_le, gB, gcW, gcR, posIn, renA, renL, Chunk.ren, Chunk.refs, evOpD, touchD, stepC, isFresh, nFresh, freshOf, mkR, hole, evL, evH, opd, get, putD, ofVal, cellOf, loadE, behind, lenE, idxAddrE, idxE, lookE, lookM, addPtr, intE, strE, unE, convE, AV.int, AV.bool, AV.str, ivs, take, frameOf, firstRegion, refsA, refsL, one, cellsA, floatOk, apartT, List.map, if_true, if_false, E_P, E_glob0, E_glob1, reduceCtorEq, beq_self_eq_true, ↓reduceIte, Nat.reduceEqDiff, cond_true, cond_false, Nat.reduceAdd, Nat.reduceSub, Nat.reduceMul, Nat.reduceLT, Nat.reduceLeDiff, Int.reduceToNat, Int.reduceLT, Int.reduceLE, Option.getD, Int.reduceMul, Int.reduceAdd, List.drop, List.take, Nat.reduceBEq, List.isEmpty, Int.reduceEq, Int.reduceNe, Int.reduceNeg, Int.reduceGT, Int.reduceGE, beq_true, beq_false, UInt8.reduceToNat, eqE, eq_self, foldE, maxE, minE, fillA, over, chop, List.replicate, leavesOk, leafOk, cellsEq, cellEq, E_byref, en21, bs22, bs46, bs69, hrow, hg, ha, hput, hst, hal, hs, rowsM_len, mI_len, Nat.mul_one, show List.range 6 = [0, 1, 2, 3, 4, 5] from rfl, arr_cn, arr_refs, arr_ren, mA_cn, mA_refs, mA_ren, show ∀ B fr H, execT E B 21 (Code.loop _) fr H = rlG E B 21 (loopIn Tryd.f21 0 0) (gcn B (norm [6, 10, 89, 90] fr) H) from fun B fr H => rl_introI rfl mt21_17 mb21_17 zf21_17 hd21_17 fr H]
    · simp only [Bool.true_or] at hput hst ⊢
      simp (disch := first | omega | (simp only [vlen, rowsM_len, mI_len]; omega)) only [vall, List.take_of_length_le, gB, gcW, gcR, posIn, renA, renL, Chunk.ren, Chunk.refs, evOpD, touchD, stepC, isFresh, nFresh, freshOf, mkR, hole, evL, evH, opd, get, putD, ofVal, cellOf, loadE, behind, lenE, idxAddrE, idxE, lookE, lookM, addPtr, intE, strE, unE, convE, AV.int, AV.bool, AV.str, ivs, take, frameOf, firstRegion, refsA, refsL, one, cellsA, floatOk, apartT, List.map, if_true, if_false, E_P, E_glob0, E_glob1, reduceCtorEq, beq_self_eq_true, ↓reduceIte, Nat.reduceEqDiff, cond_true, cond_false, Nat.reduceAdd, Nat.reduceSub, Nat.reduceMul, Nat.reduceLT, Nat.reduceLeDiff, Int.reduceToNat, Int.reduceLT, Int.reduceLE, Option.getD, Int.reduceMul, Int.reduceAdd, List.drop, List.take, Nat.reduceBEq, List.isEmpty, Int.reduceEq, Int.reduceNe, Int.reduceNeg, Int.reduceGT, Int.reduceGE, beq_true, beq_false, UInt8.reduceToNat, eqE, eq_self, foldE, maxE, minE, fillA, over, chop, List.replicate, leavesOk, leafOk, cellsEq, cellEq, E_byref, en21, bs22, bs46, bs69, hrow, hg, ha, hput, hst, hal, hs, rowsM_len, mI_len, Nat.mul_one, show List.range 6 = [0, 1, 2, 3, 4, 5] from rfl, arr_cn, arr_refs, arr_ren, mA_cn, mA_refs, mA_ren, show ∀ B fr H, execT E B 21 (Code.loop _) fr H = rlG E B 21 (loopIn Tryd.f21 0 0) (gcn B (norm [6, 10, 89, 90] fr) H) from fun B fr H => rl_introI rfl mt21_17 mb21_17 zf21_17 hd21_17 fr H]
end Go.VI

namespace Go.VI
open Go.Proofs
set_option maxRecDepth 100000
set_option linter.unusedSimpArgs false
set_option linter.unusedVariables false
set_option maxHeartbeats 4000000
def joinM (m t : Mk) : Mk := (t.1 || m.1, orR 16 0 m.2 t.2)
def hSet (m : Mk) : List Int → List Mk → List Mk
  | [], ms => ms
  | x :: xs, ms => hSet m xs (ms.set x.toNat (joinM m (getM ms x.toNat)))
theorem hSet_len (m : Mk) : ∀ (xs : List Int) (ms : List Mk), (hSet m xs ms).length = ms.length
  | [], ms => rfl
  | x :: xs, ms => by rw [hSet, hSet_len m xs, List.length_set]
def Wf (ms : List Mk) : Prop := ∀ m ∈ ms, m.2.length = 16
theorem Wf.get {ms : List Mk} (h : Wf ms) {k : Nat} (hk : k < ms.length) : (getM ms k).2.length = 16 := by
  rw [getM, List.getD_eq_getElem?_getD, List.getElem?_eq_getElem hk]; exact h _ (List.getElem_mem _)
theorem Wf.set {ms : List Mk} (h : Wf ms) (k : Nat) {m : Mk} (hm : m.2.length = 16) : Wf (ms.set k m) := fun x hx => by
  rcases List.mem_or_eq_of_mem_set hx with h1 | h1
  · exact h x h1
  · rw [h1]; exact hm
theorem Wf.hSet {m : Mk} : ∀ (xs : List Int) {ms : List Mk}, Wf ms → (∀ x ∈ xs, 0 ≤ x ∧ x < ms.length) → Wf (hSet m xs ms)
  | [], ms, h, hx => h
  | x :: xs, ms, h, hx => by
    rw [VI.hSet]
    have := hx x (.head _)
    exact Wf.hSet xs (h.set _ (by rw [joinM, orR_len]; exact h.get (by omega))) (fun y hy => by rw [List.length_set]; exact hx y (.tail _ hy))
theorem rd21 (l : List Ins) (ds : List Int) (n : Nat) (hn : n < 10000) (op arg i k : Int) (c : Bool) (s : List Bool) (hs : s.length = 16) (x : Int) (hx : 0 ≤ x ∧ x < n) (ms : List Mk) (hm : ms.length = n) (hw : Wf ms) :
    rdF E 21 (rfAt Tryd.f21 0) ((74, .i (.v (.int .i64 x))) :: [(2, .i (.v (.bool false))), (3, .i (.v (.int .i64 0))), (4, .i (.sl 1 (rows64 ds) false)), (6, .ptr 0 0 0 0), (9, .ptr 3 0 0 0), (25, .i (.sl 2 (rowsI l) false)), (26, .i (.v (.int .i64 l.length))), (27, .i (.v (.int .i64 (k)))), (73, .clo (.func 49) [] [.ptr 4 0 0 0, .ptr 5 0 0 0])]) [.box [.ref 1 0 0 (n)], .sl 17 0 (rowsM (ms)) false, .box [.i (.v (.int .i64 (op))), .i (.v (.int .i64 (arg)))], .box (mA (c) (s)), .box [.i (.v (.int .i64 (op))), .i (.v (.int .i64 (arg)))], .box [.i (.v (.int .i64 (i)))]] = some (.normal, [.box [.ref 1 0 0 (n)], .sl 17 0 (rowsM (ms.set x.toNat (joinM (c, s) (getM ms x.toNat)))) false, .box [.i (.v (.int .i64 (op))), .i (.v (.int .i64 (arg)))], .box (mA (c) (s)), .box [.i (.v (.int .i64 (op))), .i (.v (.int .i64 (arg)))], .box [.i (.v (.int .i64 (i)))]]) := by
  have hxn : x.toNat < ms.length := by omega
  have hrow := rowsM_get hxn
  have htl := hw.get hxn
  generalize ht : getM ms x.toNat = t at *
  obtain ⟨tc, ts⟩ := t
  simp only [joinM] at hrow htl ⊢
  obtain ⟨fr, e⟩ := l21_1 n hn op arg i c s hs x.toNat (by omega) 16 0 rfl (ms.set x.toNat (tc || c, ts)) (by rw [List.length_set]; exact hm) (tc || c, ts) (getM_set hxn _) htl
  rw [List.set_set] at e
  have hc : ((x.toNat : Nat) : Int) = x := by omega
  rw [hc] at e
  have e' : rl E 6 21 (loopIn Tryd.f21 0 0) [(6, .ptr 0 0 0 0), (10, .i (.v (.int .i64 x))), (89, .agg (arr s)), (90, .i (.v (.int .i64 0)))] [.box [.ref 1 0 0 (n)], .sl 17 0 (rowsM (ms.set x.toNat (tc || c, ts))) false, .box [.i (.v (.int .i64 (op))), .i (.v (.int .i64 (arg)))], .box (mA (c) (s)), .box [.i (.v (.int .i64 (op))), .i (.v (.int .i64 (arg)))], .box [.i (.v (.int .i64 (i)))]] = _ := e
  clear e
  have hst := rowsM_set ms x.toNat (tc || c) ts
  have harr : List.drop 1 (mA c s) = arr s := rfl
  have hart : List.take 16 (arr s) = arr s := List.take_of_length_le (by rw [arr_len, hs]; exact Nat.le_refl _)
  generalize orR 16 0 s ts = ts2 at *
  cases tc
  · simp only [Bool.false_or] at hst e' ⊢
    rw [rd_step (fn := Tryd.f21) (k := 0) rfl]
    simp (disch := first | omega | (simp only [vlen, rowsM_len, mI_len, mA_len]; omega)) only [vall, List.take_of_length_le, gB, gcW, gcR, posIn, renA, renL, Chunk.ren, Chunk.refs, evOpD, touchD, stepC, isFresh, nFresh, freshOf, mkR, hole, evL, evH, opd, get, putD, ofVal, cellOf, loadE, behind, lenE, idxAddrE, idxE, lookE, lookM, addPtr, intE, strE, unE, convE, AV.int, AV.bool, AV.str, ivs, take, frameOf, firstRegion, refsA, refsL, one, cellsA, floatOk, apartT, List.map, if_true, if_false, E_P, E_glob0, E_glob1, reduceCtorEq, beq_self_eq_true, ↓reduceIte, Nat.reduceEqDiff, cond_true, cond_false, Nat.reduceAdd, Nat.reduceSub, Nat.reduceMul, Nat.reduceLT, Nat.reduceLeDiff, Int.reduceToNat, Int.reduceLT, Int.reduceLE, Option.getD, Int.reduceMul, Int.reduceAdd, List.drop, List.take, Nat.reduceBEq, List.isEmpty, Int.reduceEq, Int.reduceNe, Int.reduceNeg, Int.reduceGT, Int.reduceGE, beq_true, beq_false, UInt8.reduceToNat, eqE, eq_self, foldE, maxE, minE, fillA, over, chop, List.replicate, leavesOk, leafOk, cellsEq, cellEq, E_byref, en21, bs22, bs46, bs69, hrow, hst, hs, harr, hart, e', rowsM_len, mI_len, mA_len, mI_get0, mA_get0, mI_tail, Nat.mul_one, show List.range 6 = [0, 1, 2, 3, 4, 5] from rfl, arr_cn, arr_refs, arr_ren, mA_cn, mA_refs, mA_ren, show ∀ B fr H, execT E B 21 (Code.loop _) fr H = rlG E B 21 (loopIn Tryd.f21 0 0) (gcn B (norm [6, 10, 89, 90] fr) H) from fun B fr H => rl_introI rfl mt21_17 mb21_17 zf21_17 hd21_17 fr H]
  · simp only [Bool.true_or] at hst e' ⊢
    rw [rd_step (fn := Tryd.f21) (k := 0) rfl]
    simp (disch := first | omega | (simp only [vlen, rowsM_len, mI_len, mA_len]; omega)) only [vall, List.take_of_length_le, gB, gcW, gcR, posIn, renA, renL, Chunk.ren, Chunk.refs, evOpD, touchD, stepC, isFresh, nFresh, freshOf, mkR, hole, evL, evH, opd, get, putD, ofVal, cellOf, loadE, behind, lenE, idxAddrE, idxE, lookE, lookM, addPtr, intE, strE, unE, convE, AV.int, AV.bool, AV.str, ivs, take, frameOf, firstRegion, refsA, refsL, one, cellsA, floatOk, apartT, List.map, if_true, if_false, E_P, E_glob0, E_glob1, reduceCtorEq, beq_self_eq_true, ↓reduceIte, Nat.reduceEqDiff, cond_true, cond_false, Nat.reduceAdd, Nat.reduceSub, Nat.reduceMul, Nat.reduceLT, Nat.reduceLeDiff, Int.reduceToNat, Int.reduceLT, Int.reduceLE, Option.getD, Int.reduceMul, Int.reduceAdd, List.drop, List.take, Nat.reduceBEq, List.isEmpty, Int.reduceEq, Int.reduceNe, Int.reduceNeg, Int.reduceGT, Int.reduceGE, beq_true, beq_false, UInt8.reduceToNat, eqE, eq_self, foldE, maxE, minE, fillA, over, chop, List.replicate, leavesOk, leafOk, cellsEq, cellEq, E_byref, en21, bs22, bs46, bs69, hrow, hst, hs, harr, hart, e', rowsM_len, mI_len, mA_len, mI_get0, mA_get0, mI_tail, Nat.mul_one, show List.range 6 = [0, 1, 2, 3, 4, 5] from rfl, arr_cn, arr_refs, arr_ren, mA_cn, mA_refs, mA_ren, show ∀ B fr H, execT E B 21 (Code.loop _) fr H = rlG E B 21 (loopIn Tryd.f21 0 0) (gcn B (norm [6, 10, 89, 90] fr) H) from fun B fr H => rl_introI rfl mt21_17 mb21_17 zf21_17 hd21_17 fr H]
theorem rg21 (l : List Ins) (ds : List Int) (n : Nat) (hn : n < 10000) (op arg k : Int) (i : Int) (c : Bool) (s : List Bool) (hs : s.length = 16) : ∀ (xs : List Int), (∀ x ∈ xs, 0 ≤ x ∧ x < n) → ∀ ms : List Mk, ms.length = n → Wf ms →
    rgE (rdF E 21 (rfAt Tryd.f21 0)) 74 [(2, .i (.v (.bool false))), (3, .i (.v (.int .i64 0))), (4, .i (.sl 1 (rows64 ds) false)), (6, .ptr 0 0 0 0), (9, .ptr 3 0 0 0), (25, .i (.sl 2 (rowsI l) false)), (26, .i (.v (.int .i64 l.length))), (27, .i (.v (.int .i64 (k)))), (73, .clo (.func 49) [] [.ptr 4 0 0 0, .ptr 5 0 0 0])] [.ptr 4 0 0 0, .ptr 5 0 0 0] [[op, arg], [i]] xs [.box [.ref 1 0 0 (n)], .sl 17 0 (rowsM (ms)) false, .box [.i (.v (.int .i64 (op))), .i (.v (.int .i64 (arg)))], .box (mA (c) (s)), .box [.i (.v (.int .i64 (op))), .i (.v (.int .i64 (arg)))], .box [.i (.v (.int .i64 (i)))]] = some (.normal, [(2, .i (.v (.bool false))), (3, .i (.v (.int .i64 0))), (4, .i (.sl 1 (rows64 ds) false)), (6, .ptr 0 0 0 0), (9, .ptr 3 0 0 0), (25, .i (.sl 2 (rowsI l) false)), (26, .i (.v (.int .i64 l.length))), (27, .i (.v (.int .i64 (k)))), (73, .clo (.func 49) [] [.ptr 4 0 0 0, .ptr 5 0 0 0])], [.box [.ref 1 0 0 (n)], .sl 17 0 (rowsM (hSet (c, s) xs ms)) false, .box [.i (.v (.int .i64 (op))), .i (.v (.int .i64 (arg)))], .box (mA (c) (s)), .box [.i (.v (.int .i64 (op))), .i (.v (.int .i64 (arg)))], .box [.i (.v (.int .i64 (i)))]])
  | [], _, ms, hm, hw => rfl
  | x :: xs, hx, ms, hm, hw => by
    have hx0 := hx x (.head _)
    have h1 := rd21 l ds n hn op arg i k c s hs x hx0 ms hm hw
    rw [rgE_cons, h1, rgN_n, if_pos (show capsI _ [.ptr 4 0 0 0, .ptr 5 0 0 0] = some [[op, arg], [i]] from rfl), hSet]
    exact rg21 l ds n hn op arg k i c s hs xs (fun y hy => hx y (.tail _ hy)) _ (by simpa using hm) (hw.set _ (by rw [joinM, orR_len]; exact hw.get (by omega)))
end Go.VI

namespace Go.VI
open Go.Proofs
set_option maxRecDepth 100000
set_option linter.unusedSimpArgs false
set_option linter.unusedVariables false
set_option maxHeartbeats 4000000
theorem ik34 (op d : Int) (h0 : 0 ≤ op) (h1 : op ≤ 20) (hp : popS op ≤ d) (hq : d - popS op + pushS op ≤ 16) (hd : d ≤ 16) (c : Bool) (s : List Bool) (hs : s.length = 16) (H : Hp) :
    isoK E (callT E) 34 [.agg (mA c s), .i (.v (.int .i64 op)), .i (.v (.int .i64 d))] H = some (.agg (mA (aft op d c s).1 (aft op d c s).2), H) :=
  isoK_val rfl (by simp [refsL, refsA, mA_refs]) (by simp [refsA, mA_refs]) (c34 op d h0 h1 hp hq hd c s hs)
structure DOK (l : List Ins) (ds : List Int) : Prop where
  len : ds.length = l.length
  ok : ∀ k, k < l.length → 0 ≤ ds.getD k 0 → popS (l.getD k (0, 0)).1 ≤ ds.getD k 0 ∧ ds.getD k 0 - popS (l.getD k (0, 0)).1 + pushS (l.getD k (0, 0)).1 ≤ 16 ∧ ds.getD k 0 ≤ 16
theorem dStep_r {n i : Nat} {p : Ins} {out out' : List Int} (h : dStep n i p out = some out') (hr : ∀ x ∈ out, -1 ≤ x ∧ x ≤ 16) : ∀ x ∈ out', -1 ≤ x ∧ x ≤ 16 := by
  have p1 := popS_r p.1
  have p2 := pushS_r p.1
  unfold dStep at h
  split at h
  · injection h with h; rw [← h]; exact hr
  split at h
  · cases h
  · exact dSet_r (by omega) _ _ _ h hr
theorem dRun_r {n : Nat} : ∀ (l : List Ins) (k : Nat) (out fin : List Int), dRun n k l out = some fin → (∀ x ∈ out, -1 ≤ x ∧ x ≤ 16) → ∀ x ∈ fin, -1 ≤ x ∧ x ≤ 16
  | [], k, out, fin, h, hr => by rw [dRun, Option.some.injEq] at h; rw [← h]; exact hr
  | p :: r, k, out, fin, h, hr => by
    rw [dRun] at h
    cases hd : dStep n k p out with
    | none => rw [hd] at h; cases h
    | some o => rw [hd] at h; exact dRun_r r (k + 1) o fin h (dStep_r hd hr)
theorem dRun_low {l : List Ins} (g : Good l) {fin : List Int} (a : Nat) (ha : a ≤ l.length) (out : List Int) (h : dRun l.length a (l.drop a) out = some fin) (j : Nat) (hj : j < a) : fin.getD j 0 = out.getD j 0 := by
  by_cases hlt : a < l.length
  · obtain ⟨o1, g1, g2⟩ := dRun_next hlt h
    rw [dRun_low g (a + 1) hlt o1 g2 j (by omega)]
    unfold dStep at g1
    split at g1
    · injection g1 with g1; rw [g1]
    split at g1
    · cases g1
    · have hs := (good_suc g hlt).2
      exact dSet_new _ _ _ g1 (fun x hx => by have := hs x hx; omega) j (fun hx => by have := hs _ hx; omega)
  · obtain rfl : a = l.length := by omega
    rw [List.drop_length, dRun, Option.some.injEq] at h
    rw [h]
termination_by l.length - a
theorem depths_dok {l : List Ins} (h : (depthsS l).2 = 0) : DOK l (depthsS l).1 := by
  obtain ⟨fin, h0, hd, hf1, hf2⟩ := depths_ok h
  have g := good_of h0
  rw [hf1]
  refine ⟨by rw [List.length_take, hf2]; omega, fun k hk hx => ?_⟩
  rw [getD_take _ _ _ hk] at hx ⊢
  obtain ⟨o, g1, g2, g3⟩ := dRun_to g k (by omega) 0 (Nat.zero_le _) (0 :: List.replicate l.length (-1)) (by simp) (by rw [List.drop_zero]; exact hd)
  obtain ⟨o1, s1, s2⟩ := dRun_next hk g1
  have hlow := dRun_low g (k + 1) hk o1 s2 k (by omega)
  have hr := dRun_r _ _ _ _ hd (fun x hx => by
    rcases List.mem_cons.1 hx with rfl | hx
    · omega
    · have := List.eq_of_mem_replicate hx; omega)
  have hb := getD_mem_b (P := fun x => -1 ≤ x ∧ x ≤ 16) ⟨by omega, by omega⟩ hr k
  unfold dStep at s1
  split at s1
  · rename_i hneg
    injection s1 with s1
    rw [← s1] at hlow
    omega
  rename_i hnn
  split at s1
  · cases s1
  rename_i hc
  have hs := (good_suc g hk).2
  have hnew := dSet_new _ _ _ s1 (fun x hx => by have := hs x hx; omega) k (fun hx => by have := hs _ hx; omega)
  rw [hlow, hnew] at hx hb ⊢
  exact ⟨by omega, by omega, hb.2⟩
def hRun (ds : List Int) : Nat → List Ins → List Mk → Bool
  | _, [], _ => false
  | k, p :: r, ms => if ds.getD k 0 < 0 then hRun ds (k + 1) r ms
    else if (p.1 = 19 ∨ p.1 = 20) ∧ ((getM ms k).1 = true ∨ (getM ms k).2.getD (ds.getD k 0 - 1).toNat false = true) then true
    else hRun ds (k + 1) r (hSet (aft p.1 (ds.getD k 0) (getM ms k).1 (getM ms k).2) (sucL p.1 p.2 k) ms)
def hP (fr : Fr) (ex : Ex) : Bool → Prop
  | true => ex = .ret ∧ get 2 fr = .i (.v (.bool true)) ∧ get 3 fr = .i (.v (.int .i64 0))
  | false => ex = .exit 0
theorem mI_take {c : Bool} {s : List Bool} {n : Nat} (h : s.length + 1 ≤ n) : (mI c s).take n = mI c s := List.take_of_length_le (by rw [mI_len]; exact h)
theorem l21_0 (l : List Ins) (hl : l.length ≤ 500) (g : Good l) (ds : List Int) (hd : DOK l ds) (n : Nat) (hn : n = l.length + 1) (k : Nat) (hk : k ≤ l.length) (ms : List Mk) (hm : ms.length = n) (hw : Wf ms) :
    ∃ fr ex H', rl E 0 21 (loopAt Tryd.f21 0) [(2, .i (.v (.bool false))), (3, .i (.v (.int .i64 0))), (4, .i (.sl 1 (rows64 ds) false)), (6, .ptr 0 0 0 0), (25, .i (.sl 2 (rowsI l) false)), (26, .i (.v (.int .i64 l.length))), (27, .i (.v (.int .i64 (k))))] [.box [.ref 1 0 0 (n)], .sl 17 0 (rowsM (ms)) false] = some (ex, fr, H') ∧ hP fr ex (hRun ds k (l.drop k) ms) := by
  rw [rl_step (fn := Tryd.f21) (k := 0) rfl]
  by_cases hlt : k < l.length
  · have hrow := rowsI_at hlt
    obtain ⟨⟨o1, o2⟩, hsuc⟩ := good_suc g hlt
    have hdk := hd.ok k hlt
    have hdl := hd.len
    have hrd := rows64_get (l := ds) (k := k) (by omega)
    rw [List.drop_eq_getElem_cons hlt, hRun]
    rw [good_getD hlt] at o1 o2 hsuc hdk
    have ih := fun ms hm hw => l21_0 l hl g ds hd n hn (k + 1) hlt ms hm hw
    obtain ⟨op, arg, hp⟩ : ∃ op arg, l[k] = (op, arg) := ⟨_, _, rfl⟩
    rw [hp] at hrow hdk o1 o2 hsuc ⊢
    simp only at hrow hdk o1 o2 hsuc ⊢
    have hxn : k < ms.length := by omega
    have hrm := rowsM_get hxn
    have htl := hw.get hxn
    generalize ds.getD k 0 = d at *
    generalize ht : getM ms k = t at *
    obtain ⟨c, s⟩ := t
    simp only at hrm htl ⊢
    by_cases h1 : d < 0
    · rw [if_pos h1]
      obtain ⟨fr, ex, H', e, hh⟩ := ih ms hm hw
      refine ⟨fr, ex, H', Eq.trans ?_ e, hh⟩
      clear e hh ih
      simp (disch := first | omega | (simp only [vlen, rowsI_len, rows64_len, rowsM_len]; omega)) only [vall, List.take_of_length_le, gB, gcW, gcR, posIn, renA, renL, Chunk.ren, Chunk.refs, evOpD, touchD, stepC, isFresh, nFresh, freshOf, mkR, hole, evL, evH, opd, get, putD, ofVal, cellOf, loadE, behind, lenE, idxAddrE, idxE, lookE, lookM, addPtr, intE, strE, unE, convE, AV.int, AV.bool, AV.str, ivs, take, frameOf, firstRegion, refsA, refsL, one, cellsA, floatOk, apartT, List.map, if_true, if_false, E_P, E_glob0, E_glob1, reduceCtorEq, beq_self_eq_true, ↓reduceIte, Nat.reduceEqDiff, cond_true, cond_false, Nat.reduceAdd, Nat.reduceSub, Nat.reduceMul, Nat.reduceLT, Nat.reduceLeDiff, Int.reduceToNat, Int.reduceLT, Int.reduceLE, Option.getD, Int.reduceMul, Int.reduceAdd, List.drop, List.take, Nat.reduceBEq, List.isEmpty, Int.reduceEq, Int.reduceNe, Int.reduceNeg, Int.reduceGT, Int.reduceGE, beq_true, beq_false, UInt8.reduceToNat, eqE, eq_self, foldE, maxE, minE, fillA, over, chop, List.replicate, leavesOk, leafOk, cellsEq, cellEq, E_byref, en21, bs22, bs46, bs69, hrow, hrd, rowsI_len, rows64_len, rowsM_len, h1, show ∀ B fr H, execT E B 21 (Code.loop _) fr H = rlG E B 21 (loopAt Tryd.f21 0) (gcn B (norm [2, 3, 4, 6, 25, 26, 27] fr) H) from fun B fr H => rl_intro rfl mt21_6 mb21_6 zf21_6 hd21_6 fr H]
    · rw [if_neg h1]
      obtain ⟨d1, d2, d3⟩ := hdk (by omega)
      have hmt := mI_take (c := c) (s := s) (n := 17) (by omega)
      have pp := pop_push op o1 o2
      have ha := fun H => ik34 op d o1 o2 d1 d2 d3 c s htl H
      have hal := aft_len op d c s
      have hsq := seqSucc_eq op arg k (by omega) (by omega)
      have hrg := rg21 l ds n (by omega) op arg k k (aft op d c s).1 (aft op d c s).2 (by omega) (sucL op arg k) (fun x hx => by have := hsuc x hx; omega) ms hm hw
      have ih := ih (hSet (aft op d c s) (sucL op arg k) ms) (by rw [hSet_len]; exact hm) (hw.hSet _ (fun x hx => by have := hsuc x hx; omega))
      rw [show ((aft op d c s).1, (aft op d c s).2) = aft op d c s from rfl] at hrg
      generalize hSet (aft op d c s) (sucL op arg k) ms = ms2 at *
      generalize (aft op d c s).1 = c2 at *
      generalize (aft op d c s).2 = s2 at *
      generalize sucL op arg k = xs at *
      have hdr : mA c2 s2 ++ List.drop 17 (mA c s) = mA c2 s2 := by rw [List.drop_eq_nil_of_le (by rw [mA_len, htl]; exact Nat.le_refl _), List.append_nil]
      have hmt2 := mA_take (c := c2) (s := s2) (n := 17) (by omega)
      by_cases h2 : op = 19 ∨ op = 20
      · have hpop : popS op = 1 := pp.2.2.2.2.2.1 h2
        have hgs := mA_get' (c := c) (s := s) (k := (d - 1).toNat) (by omega)
        generalize s.getD (d - 1).toNat false = sb at *
        by_cases h3 : c = true ∨ sb = true
        · rw [if_pos ⟨h2, h3⟩]
          clear ih hrg
          rcases h2 with h2 | h2
          · cases c
            · have h3 := h3.resolve_left (by decide)
              subst h3
              simp (disch := first | omega | (simp only [vlen, rowsI_len, rows64_len, rowsM_len, mI_len, mA_len]; omega)) only [vall, List.take_of_length_le, gB, gcW, gcR, posIn, renA, renL, Chunk.ren, Chunk.refs, evOpD, touchD, stepC, isFresh, nFresh, freshOf, mkR, hole, evL, evH, opd, get, putD, ofVal, cellOf, loadE, behind, lenE, idxAddrE, idxE, lookE, lookM, addPtr, intE, strE, unE, convE, AV.int, AV.bool, AV.str, ivs, take, frameOf, firstRegion, refsA, refsL, one, cellsA, floatOk, apartT, List.map, if_true, if_false, E_P, E_glob0, E_glob1, reduceCtorEq, beq_self_eq_true, ↓reduceIte, Nat.reduceEqDiff, cond_true, cond_false, Nat.reduceAdd, Nat.reduceSub, Nat.reduceMul, Nat.reduceLT, Nat.reduceLeDiff, Int.reduceToNat, Int.reduceLT, Int.reduceLE, Option.getD, Int.reduceMul, Int.reduceAdd, List.drop, List.take, Nat.reduceBEq, List.isEmpty, Int.reduceEq, Int.reduceNe, Int.reduceNeg, Int.reduceGT, Int.reduceGE, beq_true, beq_false, UInt8.reduceToNat, eqE, eq_self, foldE, maxE, minE, fillA, over, chop, List.replicate, leavesOk, leafOk, cellsEq, cellEq, E_byref, en21, bs22, bs46, bs69, hrow, hrd, hrm, hmt, htl, hgs, rowsI_len, rows64_len, rowsM_len, mI_len, mA_len, mI_map, mA_get0, mA_all, Nat.mul_one, show ∀ B fr H, execT E B 21 (Code.loop _) fr H = rlG E B 21 (loopAt Tryd.f21 0) (gcn B (norm [2, 3, 4, 6, 25, 26, 27] fr) H) from fun B fr H => rl_intro rfl mt21_6 mb21_6 zf21_6 hd21_6 fr H]
              refine ⟨_, _, _, rfl, ?_⟩
              exact ⟨rfl, rfl, rfl⟩
            · simp (disch := first | omega | (simp only [vlen, rowsI_len, rows64_len, rowsM_len, mI_len, mA_len]; omega)) only [vall, List.take_of_length_le, gB, gcW, gcR, posIn, renA, renL, Chunk.ren, Chunk.refs, evOpD, touchD, stepC, isFresh, nFresh, freshOf, mkR, hole, evL, evH, opd, get, putD, ofVal, cellOf, loadE, behind, lenE, idxAddrE, idxE, lookE, lookM, addPtr, intE, strE, unE, convE, AV.int, AV.bool, AV.str, ivs, take, frameOf, firstRegion, refsA, refsL, one, cellsA, floatOk, apartT, List.map, if_true, if_false, E_P, E_glob0, E_glob1, reduceCtorEq, beq_self_eq_true, ↓reduceIte, Nat.reduceEqDiff, cond_true, cond_false, Nat.reduceAdd, Nat.reduceSub, Nat.reduceMul, Nat.reduceLT, Nat.reduceLeDiff, Int.reduceToNat, Int.reduceLT, Int.reduceLE, Option.getD, Int.reduceMul, Int.reduceAdd, List.drop, List.take, Nat.reduceBEq, List.isEmpty, Int.reduceEq, Int.reduceNe, Int.reduceNeg, Int.reduceGT, Int.reduceGE, beq_true, beq_false, UInt8.reduceToNat, eqE, eq_self, foldE, maxE, minE, fillA, over, chop, List.replicate, leavesOk, leafOk, cellsEq, cellEq, E_byref, en21, bs22, bs46, bs69, hrow, hrd, hrm, hmt, htl, hgs, rowsI_len, rows64_len, rowsM_len, mI_len, mA_len, mI_map, mA_get0, mA_all, Nat.mul_one, show ∀ B fr H, execT E B 21 (Code.loop _) fr H = rlG E B 21 (loopAt Tryd.f21 0) (gcn B (norm [2, 3, 4, 6, 25, 26, 27] fr) H) from fun B fr H => rl_intro rfl mt21_6 mb21_6 zf21_6 hd21_6 fr H]
              refine ⟨_, _, _, rfl, ?_⟩
              exact ⟨rfl, rfl, rfl⟩
          · cases c
            · have h3 := h3.resolve_left (by decide)
              subst h3
              simp (disch := first | omega | (simp only [vlen, rowsI_len, rows64_len, rowsM_len, mI_len, mA_len]; omega)) only [vall, List.take_of_length_le, gB, gcW, gcR, posIn, renA, renL, Chunk.ren, Chunk.refs, evOpD, touchD, stepC, isFresh, nFresh, freshOf, mkR, hole, evL, evH, opd, get, putD, ofVal, cellOf, loadE, behind, lenE, idxAddrE, idxE, lookE, lookM, addPtr, intE, strE, unE, convE, AV.int, AV.bool, AV.str, ivs, take, frameOf, firstRegion, refsA, refsL, one, cellsA, floatOk, apartT, List.map, if_true, if_false, E_P, E_glob0, E_glob1, reduceCtorEq, beq_self_eq_true, ↓reduceIte, Nat.reduceEqDiff, cond_true, cond_false, Nat.reduceAdd, Nat.reduceSub, Nat.reduceMul, Nat.reduceLT, Nat.reduceLeDiff, Int.reduceToNat, Int.reduceLT, Int.reduceLE, Option.getD, Int.reduceMul, Int.reduceAdd, List.drop, List.take, Nat.reduceBEq, List.isEmpty, Int.reduceEq, Int.reduceNe, Int.reduceNeg, Int.reduceGT, Int.reduceGE, beq_true, beq_false, UInt8.reduceToNat, eqE, eq_self, foldE, maxE, minE, fillA, over, chop, List.replicate, leavesOk, leafOk, cellsEq, cellEq, E_byref, en21, bs22, bs46, bs69, hrow, hrd, hrm, hmt, htl, hgs, rowsI_len, rows64_len, rowsM_len, mI_len, mA_len, mI_map, mA_get0, mA_all, Nat.mul_one, show ∀ B fr H, execT E B 21 (Code.loop _) fr H = rlG E B 21 (loopAt Tryd.f21 0) (gcn B (norm [2, 3, 4, 6, 25, 26, 27] fr) H) from fun B fr H => rl_intro rfl mt21_6 mb21_6 zf21_6 hd21_6 fr H]
              refine ⟨_, _, _, rfl, ?_⟩
              exact ⟨rfl, rfl, rfl⟩
            · simp (disch := first | omega | (simp only [vlen, rowsI_len, rows64_len, rowsM_len, mI_len, mA_len]; omega)) only [vall, List.take_of_length_le, gB, gcW, gcR, posIn, renA, renL, Chunk.ren, Chunk.refs, evOpD, touchD, stepC, isFresh, nFresh, freshOf, mkR, hole, evL, evH, opd, get, putD, ofVal, cellOf, loadE, behind, lenE, idxAddrE, idxE, lookE, lookM, addPtr, intE, strE, unE, convE, AV.int, AV.bool, AV.str, ivs, take, frameOf, firstRegion, refsA, refsL, one, cellsA, floatOk, apartT, List.map, if_true, if_false, E_P, E_glob0, E_glob1, reduceCtorEq, beq_self_eq_true, ↓reduceIte, Nat.reduceEqDiff, cond_true, cond_false, Nat.reduceAdd, Nat.reduceSub, Nat.reduceMul, Nat.reduceLT, Nat.reduceLeDiff, Int.reduceToNat, Int.reduceLT, Int.reduceLE, Option.getD, Int.reduceMul, Int.reduceAdd, List.drop, List.take, Nat.reduceBEq, List.isEmpty, Int.reduceEq, Int.reduceNe, Int.reduceNeg, Int.reduceGT, Int.reduceGE, beq_true, beq_false, UInt8.reduceToNat, eqE, eq_self, foldE, maxE, minE, fillA, over, chop, List.replicate, leavesOk, leafOk, cellsEq, cellEq, E_byref, en21, bs22, bs46, bs69, hrow, hrd, hrm, hmt, htl, hgs, rowsI_len, rows64_len, rowsM_len, mI_len, mA_len, mI_map, mA_get0, mA_all, Nat.mul_one, show ∀ B fr H, execT E B 21 (Code.loop _) fr H = rlG E B 21 (loopAt Tryd.f21 0) (gcn B (norm [2, 3, 4, 6, 25, 26, 27] fr) H) from fun B fr H => rl_intro rfl mt21_6 mb21_6 zf21_6 hd21_6 fr H]
              refine ⟨_, _, _, rfl, ?_⟩
              exact ⟨rfl, rfl, rfl⟩
        · rw [if_neg (fun h => h3 h.2)]
          obtain ⟨fr, ex, H', e, hh⟩ := ih
          refine ⟨fr, ex, H', Eq.trans ?_ e, hh⟩
          clear e hh
          cases c
          rotate_left
          · exact absurd (.inl rfl) h3
          cases sb
          rotate_left
          · exact absurd (.inr rfl) h3
          rcases h2 with h2 | h2
          · simp (disch := first | omega | (simp only [vlen, rowsI_len, rows64_len, rowsM_len, mI_len, mA_len]; omega)) only [vall, List.take_of_length_le, gB, gcW, gcR, posIn, renA, renL, Chunk.ren, Chunk.refs, evOpD, touchD, stepC, isFresh, nFresh, freshOf, mkR, hole, evL, evH, opd, get, putD, ofVal, cellOf, loadE, behind, lenE, idxAddrE, idxE, lookE, lookM, addPtr, intE, strE, unE, convE, AV.int, AV.bool, AV.str, ivs, take, frameOf, firstRegion, refsA, refsL, one, cellsA, floatOk, apartT, List.map, if_true, if_false, E_P, E_glob0, E_glob1, reduceCtorEq, beq_self_eq_true, ↓reduceIte, Nat.reduceEqDiff, cond_true, cond_false, Nat.reduceAdd, Nat.reduceSub, Nat.reduceMul, Nat.reduceLT, Nat.reduceLeDiff, Int.reduceToNat, Int.reduceLT, Int.reduceLE, Option.getD, Int.reduceMul, Int.reduceAdd, List.drop, List.take, Nat.reduceBEq, List.isEmpty, Int.reduceEq, Int.reduceNe, Int.reduceNeg, Int.reduceGT, Int.reduceGE, beq_true, beq_false, UInt8.reduceToNat, eqE, eq_self, foldE, maxE, minE, fillA, over, chop, List.replicate, leavesOk, leafOk, cellsEq, cellEq, E_byref, en21, bs22, bs46, bs69, hrow, hrd, hrm, hmt, hmt2, hdr, htl, hal, hgs, ha, hsq, hrg, ik33, rowsI_len, rows64_len, rowsM_len, mI_len, mA_len, mI_map, mA_get0, mA_all, mA_frz, mA_cn, mA_refs, mA_ren, mI_ivs, Nat.mul_one, show ∀ B fr H, execT E B 21 (Code.rangeFunc _ _ _ _) fr H = rgO (rdF E 21 (rfAt Tryd.f21 0)) 74 fr H (seqE E H (opd E fr _)) from fun B fr H => rf_intro rfl rfl fr H, show ∀ B fr H, execT E B 21 (Code.loop _) fr H = rlG E B 21 (loopAt Tryd.f21 0) (gcn B (norm [2, 3, 4, 6, 25, 26, 27] fr) H) from fun B fr H => rl_intro rfl mt21_6 mb21_6 zf21_6 hd21_6 fr H]
          · simp (disch := first | omega | (simp only [vlen, rowsI_len, rows64_len, rowsM_len, mI_len, mA_len]; omega)) only [vall, List.take_of_length_le, gB, gcW, gcR, posIn, renA, renL, Chunk.ren, Chunk.refs, evOpD, touchD, stepC, isFresh, nFresh, freshOf, mkR, hole, evL, evH, opd, get, putD, ofVal, cellOf, loadE, behind, lenE, idxAddrE, idxE, lookE, lookM, addPtr, intE, strE, unE, convE, AV.int, AV.bool, AV.str, ivs, take, frameOf, firstRegion, refsA, refsL, one, cellsA, floatOk, apartT, List.map, if_true, if_false, E_P, E_glob0, E_glob1, reduceCtorEq, beq_self_eq_true, ↓reduceIte, Nat.reduceEqDiff, cond_true, cond_false, Nat.reduceAdd, Nat.reduceSub, Nat.reduceMul, Nat.reduceLT, Nat.reduceLeDiff, Int.reduceToNat, Int.reduceLT, Int.reduceLE, Option.getD, Int.reduceMul, Int.reduceAdd, List.drop, List.take, Nat.reduceBEq, List.isEmpty, Int.reduceEq, Int.reduceNe, Int.reduceNeg, Int.reduceGT, Int.reduceGE, beq_true, beq_false, UInt8.reduceToNat, eqE, eq_self, foldE, maxE, minE, fillA, over, chop, List.replicate, leavesOk, leafOk, cellsEq, cellEq, E_byref, en21, bs22, bs46, bs69, hrow, hrd, hrm, hmt, hmt2, hdr, htl, hal, hgs, ha, hsq, hrg, ik33, rowsI_len, rows64_len, rowsM_len, mI_len, mA_len, mI_map, mA_get0, mA_all, mA_frz, mA_cn, mA_refs, mA_ren, mI_ivs, Nat.mul_one, show ∀ B fr H, execT E B 21 (Code.rangeFunc _ _ _ _) fr H = rgO (rdF E 21 (rfAt Tryd.f21 0)) 74 fr H (seqE E H (opd E fr _)) from fun B fr H => rf_intro rfl rfl fr H, show ∀ B fr H, execT E B 21 (Code.loop _) fr H = rlG E B 21 (loopAt Tryd.f21 0) (gcn B (norm [2, 3, 4, 6, 25, 26, 27] fr) H) from fun B fr H => rl_intro rfl mt21_6 mb21_6 zf21_6 hd21_6 fr H]
      · rw [if_neg (fun h => h2 h.1)]
        obtain ⟨fr, ex, H', e, hh⟩ := ih
        refine ⟨fr, ex, H', Eq.trans ?_ e, hh⟩
        clear e hh
        simp (disch := first | omega | (simp only [vlen, rowsI_len, rows64_len, rowsM_len, mI_len, mA_len]; omega)) only [vall, List.take_of_length_le, gB, gcW, gcR, posIn, renA, renL, Chunk.ren, Chunk.refs, evOpD, touchD, stepC, isFresh, nFresh, freshOf, mkR, hole, evL, evH, opd, get, putD, ofVal, cellOf, loadE, behind, lenE, idxAddrE, idxE, lookE, lookM, addPtr, intE, strE, unE, convE, AV.int, AV.bool, AV.str, ivs, take, frameOf, firstRegion, refsA, refsL, one, cellsA, floatOk, apartT, List.map, if_true, if_false, E_P, E_glob0, E_glob1, reduceCtorEq, beq_self_eq_true, ↓reduceIte, Nat.reduceEqDiff, cond_true, cond_false, Nat.reduceAdd, Nat.reduceSub, Nat.reduceMul, Nat.reduceLT, Nat.reduceLeDiff, Int.reduceToNat, Int.reduceLT, Int.reduceLE, Option.getD, Int.reduceMul, Int.reduceAdd, List.drop, List.take, Nat.reduceBEq, List.isEmpty, Int.reduceEq, Int.reduceNe, Int.reduceNeg, Int.reduceGT, Int.reduceGE, beq_true, beq_false, UInt8.reduceToNat, eqE, eq_self, foldE, maxE, minE, fillA, over, chop, List.replicate, leavesOk, leafOk, cellsEq, cellEq, E_byref, en21, bs22, bs46, bs69, hrow, hrd, hrm, hmt, hmt2, hdr, htl, hal, ha, hsq, hrg, ik33, rowsI_len, rows64_len, rowsM_len, mI_len, mA_len, mI_map, mA_get0, mA_all, mA_frz, mA_cn, mA_refs, mA_ren, mI_ivs, Nat.mul_one, show ∀ B fr H, execT E B 21 (Code.rangeFunc _ _ _ _) fr H = rgO (rdF E 21 (rfAt Tryd.f21 0)) 74 fr H (seqE E H (opd E fr _)) from fun B fr H => rf_intro rfl rfl fr H, show ∀ B fr H, execT E B 21 (Code.loop _) fr H = rlG E B 21 (loopAt Tryd.f21 0) (gcn B (norm [2, 3, 4, 6, 25, 26, 27] fr) H) from fun B fr H => rl_intro rfl mt21_6 mb21_6 zf21_6 hd21_6 fr H]
  · obtain rfl : k = l.length := by omega
    rw [List.drop_length, hRun]
    simp (disch := first | omega | (simp only [vlen, rows64_len, rowsI_len, rowsM_len]; omega)) only [vall, List.take_of_length_le, gB, gcW, gcR, posIn, renA, renL, Chunk.ren, Chunk.refs, evOpD, touchD, stepC, isFresh, nFresh, freshOf, mkR, hole, evL, evH, opd, get, putD, ofVal, cellOf, loadE, behind, lenE, idxAddrE, idxE, lookE, lookM, addPtr, intE, strE, unE, convE, AV.int, AV.bool, AV.str, ivs, take, frameOf, firstRegion, refsA, refsL, one, cellsA, floatOk, apartT, List.map, if_true, if_false, E_P, E_glob0, E_glob1, reduceCtorEq, beq_self_eq_true, ↓reduceIte, Nat.reduceEqDiff, cond_true, cond_false, Nat.reduceAdd, Nat.reduceSub, Nat.reduceMul, Nat.reduceLT, Nat.reduceLeDiff, Int.reduceToNat, Int.reduceLT, Int.reduceLE, Option.getD, Int.reduceMul, Int.reduceAdd, List.drop, List.take, Nat.reduceBEq, List.isEmpty, Int.reduceEq, Int.reduceNe, Int.reduceNeg, Int.reduceGT, Int.reduceGE, beq_true, beq_false, UInt8.reduceToNat, eqE, eq_self, foldE, maxE, minE, fillA, over, chop, List.replicate, leavesOk, leafOk, cellsEq, cellEq, E_byref, en21, bs22, bs46, bs69, rows64_len, rowsI_len, rowsM_len, show ∀ B fr H, execT E B 21 (Code.loop _) fr H = rlG E B 21 (loopAt Tryd.f21 0) (gcn B (norm [2, 3, 4, 6, 25, 26, 27] fr) H) from fun B fr H => rl_intro rfl mt21_6 mb21_6 zf21_6 hd21_6 fr H]
    refine ⟨_, _, _, rfl, ?_⟩
    rfl
termination_by l.length - k
end Go.VI

namespace Go.VI
open Go.Proofs
set_option maxRecDepth 100000
set_option linter.unusedSimpArgs false
set_option linter.unusedVariables false
set_option maxHeartbeats 4000000
def z0 : Mk := (false, List.replicate 16 false)
def hiddenS (l : List Ins) : Bool × Int := if (depthsS l).2 = 0 then (hRun (depthsS l).1 0 l (List.replicate (l.length + 1) z0), 0) else (false, (depthsS l).2)
theorem rowsM_rep (n : Nat) : List.replicate n [IV.v (.bool false), .v (.bool false), .v (.bool false), .v (.bool false), .v (.bool false), .v (.bool false), .v (.bool false), .v (.bool false), .v (.bool false), .v (.bool false), .v (.bool false), .v (.bool false), .v (.bool false), .v (.bool false), .v (.bool false), .v (.bool false), .v (.bool false)] = rowsM (List.replicate n z0) := by simp [rowsM, mI, z0, List.replicate]
theorem wf_rep (n : Nat) : Wf (List.replicate n z0) := fun m hm => by rw [List.eq_of_mem_replicate hm]; rfl
theorem c21 (l : List Ins) (hl : (l.length : Int) < 9223372036854775808) : ∃ L, callT E 21 [.i (.sl 2 (rowsI l) false)] [] = some (.tup [.i (.v (.bool (hiddenS l).1)), .i (.v (.int .i64 (hiddenS l).2))], L) := by
  have hD := fun H => ik32 l hl H
  unfold hiddenS
  by_cases h0 : (depthsS l).2 = 0
  rotate_left
  · rw [if_neg h0]
    generalize depthsS l = q at *
    rw [callT_eq Tryd.func21 rfl fok21 (by simp [Tryd.ntmps21])]
    simp (disch := first | omega | (simp only [vlen]; omega)) only [vall, List.take_of_length_le, gB, gcW, gcR, posIn, renA, renL, Chunk.ren, Chunk.refs, evOpD, touchD, stepC, isFresh, nFresh, freshOf, mkR, hole, evL, evH, opd, get, putD, ofVal, cellOf, loadE, behind, lenE, idxAddrE, idxE, lookE, lookM, addPtr, intE, strE, unE, convE, AV.int, AV.bool, AV.str, ivs, take, frameOf, firstRegion, refsA, refsL, one, cellsA, floatOk, apartT, List.map, if_true, if_false, E_P, E_glob0, E_glob1, reduceCtorEq, beq_self_eq_true, ↓reduceIte, Nat.reduceEqDiff, cond_true, cond_false, Nat.reduceAdd, Nat.reduceSub, Nat.reduceMul, Nat.reduceLT, Nat.reduceLeDiff, Int.reduceToNat, Int.reduceLT, Int.reduceLE, Option.getD, Int.reduceMul, Int.reduceAdd, List.drop, List.take, Nat.reduceBEq, List.isEmpty, Int.reduceEq, Int.reduceNe, Int.reduceNeg, Int.reduceGT, Int.reduceGE, beq_true, beq_false, UInt8.reduceToNat, eqE, eq_self, foldE, maxE, minE, fillA, over, chop, List.replicate, leavesOk, leafOk, cellsEq, cellEq, E_byref, en21, bs22, bs46, bs69, hD, h0]
    exact ⟨_, rfl⟩
  · rw [if_pos h0]
    obtain ⟨fin, hc0, hdr, hf1, hf2⟩ := depths_ok h0
    have h5 := check_len hc0
    have hdok := depths_dok h0
    rw [h0] at hD
    generalize (depthsS l).1 = ds at *
    have hnn : ((l.length : Int) + 1).toNat = l.length + 1 := by omega
    obtain ⟨fr, ex, H', e, hh⟩ := l21_0 l h5 (good_of hc0) ds hdok (l.length + 1) rfl 0 (Nat.zero_le _) (List.replicate (l.length + 1) z0) (by simp) (wf_rep _)
    rw [List.drop_zero] at hh
    generalize hRun ds 0 l (List.replicate (l.length + 1) z0) = b at *
    have e' : rl E 0 21 (loopAt Tryd.f21 0) [(2, .i (.v (.bool false))), (3, .i (.v (.int .i64 0))), (4, .i (.sl 1 (rows64 ds) false)), (6, .ptr 0 0 0 0), (25, .i (.sl 2 (rowsI l) false)), (26, .i (.v (.int .i64 l.length))), (27, .i (.v (.int .i64 (0))))] [.box [.ref 1 0 0 (l.length + 1)], .sl 17 0 ([IV.v (.bool false), .v (.bool false), .v (.bool false), .v (.bool false), .v (.bool false), .v (.bool false), .v (.bool false), .v (.bool false), .v (.bool false), .v (.bool false), .v (.bool false), .v (.bool false), .v (.bool false), .v (.bool false), .v (.bool false), .v (.bool false), .v (.bool false)] :: rowsM (List.replicate l.length z0)) false] = _ := e
    clear e
    cases b
    · obtain rfl : ex = .exit 0 := hh
      rw [callT_eq Tryd.func21 rfl fok21 (by simp [Tryd.ntmps21])]
      simp (disch := first | omega | (simp only [vlen, rowsI_len, rowsM_len]; omega)) only [vall, List.take_of_length_le, gB, gcW, gcR, posIn, renA, renL, Chunk.ren, Chunk.refs, evOpD, touchD, stepC, isFresh, nFresh, freshOf, mkR, hole, evL, evH, opd, get, putD, ofVal, cellOf, loadE, behind, lenE, idxAddrE, idxE, lookE, lookM, addPtr, intE, strE, unE, convE, AV.int, AV.bool, AV.str, ivs, take, frameOf, firstRegion, refsA, refsL, one, cellsA, floatOk, apartT, List.map, if_true, if_false, E_P, E_glob0, E_glob1, reduceCtorEq, beq_self_eq_true, ↓reduceIte, Nat.reduceEqDiff, cond_true, cond_false, Nat.reduceAdd, Nat.reduceSub, Nat.reduceMul, Nat.reduceLT, Nat.reduceLeDiff, Int.reduceToNat, Int.reduceLT, Int.reduceLE, Option.getD, Int.reduceMul, Int.reduceAdd, List.drop, List.take, Nat.reduceBEq, List.isEmpty, Int.reduceEq, Int.reduceNe, Int.reduceNeg, Int.reduceGT, Int.reduceGE, beq_true, beq_false, UInt8.reduceToNat, eqE, eq_self, foldE, maxE, minE, fillA, over, chop, List.replicate, leavesOk, leafOk, cellsEq, cellEq, E_byref, en21, bs22, bs46, bs69, hD, hnn, rowsI_len, rowsM_len, rowsM_rep, e', show ∀ B fr H, execT E B 21 (Code.loop _) fr H = rlG E B 21 (loopAt Tryd.f21 0) (gcn B (norm [2, 3, 4, 6, 25, 26, 27] fr) H) from fun B fr H => rl_intro rfl mt21_6 mb21_6 zf21_6 hd21_6 fr H]
      exact ⟨_, rfl⟩
    · obtain ⟨rfl, g2, g3⟩ := hh
      rw [callT_eq Tryd.func21 rfl fok21 (by simp [Tryd.ntmps21])]
      simp (disch := first | omega | (simp only [vlen, rowsI_len, rowsM_len]; omega)) only [vall, List.take_of_length_le, gB, gcW, gcR, posIn, renA, renL, Chunk.ren, Chunk.refs, evOpD, touchD, stepC, isFresh, nFresh, freshOf, mkR, hole, evL, evH, opd, get, putD, ofVal, cellOf, loadE, behind, lenE, idxAddrE, idxE, lookE, lookM, addPtr, intE, strE, unE, convE, AV.int, AV.bool, AV.str, ivs, take, frameOf, firstRegion, refsA, refsL, one, cellsA, floatOk, apartT, List.map, if_true, if_false, E_P, E_glob0, E_glob1, reduceCtorEq, beq_self_eq_true, ↓reduceIte, Nat.reduceEqDiff, cond_true, cond_false, Nat.reduceAdd, Nat.reduceSub, Nat.reduceMul, Nat.reduceLT, Nat.reduceLeDiff, Int.reduceToNat, Int.reduceLT, Int.reduceLE, Option.getD, Int.reduceMul, Int.reduceAdd, List.drop, List.take, Nat.reduceBEq, List.isEmpty, Int.reduceEq, Int.reduceNe, Int.reduceNeg, Int.reduceGT, Int.reduceGE, beq_true, beq_false, UInt8.reduceToNat, eqE, eq_self, foldE, maxE, minE, fillA, over, chop, List.replicate, leavesOk, leafOk, cellsEq, cellEq, E_byref, en21, bs22, bs46, bs69, hD, hnn, rowsI_len, rowsM_len, rowsM_rep, e', g2, g3, show ∀ B fr H, execT E B 21 (Code.loop _) fr H = rlG E B 21 (loopAt Tryd.f21 0) (gcn B (norm [2, 3, 4, 6, 25, 26, 27] fr) H) from fun B fr H => rl_intro rfl mt21_6 mb21_6 zf21_6 hd21_6 fr H]
      exact ⟨_, rfl⟩
theorem ik21 (l : List Ins) (hl : (l.length : Int) < 9223372036854775808) (H : Hp) : isoK E (callT E) 21 [.i (.sl 2 (rowsI l) false)] H = some (.tup [.i (.v (.bool (hiddenS l).1)), .i (.v (.int .i64 (hiddenS l).2))], H) := isoK_val rfl rfl rfl (c21 l hl)
end Go.VI

namespace Go.VI
open Go.Proofs
set_option maxRecDepth 100000
set_option linter.unusedSimpArgs false
set_option linter.unusedVariables false
set_option maxHeartbeats 4000000
def FB (s : List Bool) : Prop := ∀ j, s.getD j false = false
theorem FB.set {s : List Bool} (h : FB s) (i : Nat) {a : Bool} (ha : a = false) : FB (s.set i a) := fun j => by
  rw [getD_set_bool]; split
  · exact ha
  · exact h j
theorem FB.clr : ∀ (r k : Nat) {s : List Bool}, FB s → FB (clr r k s)
  | 0, k, s, h => h
  | r + 1, k, s, h => by rw [VI.clr]; exact FB.clr r (k + 1) (h.set k rfl)
theorem FB.orR : ∀ (r j : Nat) {s t : List Bool}, FB s → FB t → FB (orR r j s t)
  | 0, j, s, t, hs, ht => ht
  | r + 1, j, s, t, hs, ht => by rw [VI.orR]; exact FB.orR r (j + 1) hs (ht.set j (by rw [ht j, hs j]; rfl))
def FM (m : Mk) : Prop := m.1 = false ∧ FB m.2
theorem FM.aft {m : Mk} (h : FM m) {op d : Int} (ho : ¬ (3 ≤ op ∧ op ≤ 5)) : FM (aft op d m.1 m.2) := by
  have h1 : FM (aft1 op d m.1 m.2) := by
    obtain ⟨h1, h2⟩ := h
    unfold aft1
    rw [if_neg ho]
    repeat' split
    · exact ⟨h1, h2.set _ (by rw [h2, h2]; rfl)⟩
    · exact ⟨h1, h2.set _ (h2 _)⟩
    · exact ⟨h1, (h2.set _ (h2 _)).set _ (h2 _)⟩
    · exact ⟨by rw [h1, h2]; rfl, h2⟩
    · exact ⟨h1, h2.set _ rfl⟩
    · exact ⟨h1, h2⟩
  exact ⟨h1.1, FB.clr _ _ h1.2⟩
theorem FM.join {m t : Mk} (h : FM m) (ht : FM t) : FM (joinM m t) := ⟨by rw [joinM, h.1, ht.1]; rfl, FB.orR _ _ h.2 ht.2⟩
def FL (ms : List Mk) : Prop := ∀ k, FM (getM ms k)
theorem getM_set_ne {ms : List Mk} {k j : Nat} (h : k ≠ j) (m : Mk) : getM (ms.set k m) j = getM ms j := by
  rw [getM, getM, List.getD_eq_getElem?_getD, List.getD_eq_getElem?_getD, List.getElem?_set_ne h]
theorem FL.set {ms : List Mk} (h : FL ms) (k : Nat) {m : Mk} (hm : FM m) : FL (ms.set k m) := fun j => by
  by_cases hk : k = j
  · subst hk
    by_cases hl : k < ms.length
    · rw [getM_set hl]; exact hm
    · rw [List.set_eq_of_length_le (by omega)]; exact h k
  · rw [getM_set_ne hk]; exact h j
theorem FL.hSet {m : Mk} (hm : FM m) : ∀ (xs : List Int) {ms : List Mk}, FL ms → FL (hSet m xs ms)
  | [], ms, h => h
  | x :: xs, ms, h => by rw [VI.hSet]; exact FL.hSet hm xs (h.set _ (hm.join (h _)))
def LB (s t : List Bool) : Prop := s.length = t.length ∧ ∀ j, s.getD j false = true → t.getD j false = true
theorem LB.set {s t : List Bool} (h : LB s t) (i : Nat) {a b : Bool} (hab : a = true → b = true) : LB (s.set i a) (t.set i b) := ⟨by simp [h.1], fun j => by
  rw [getD_set_bool, getD_set_bool, h.1]
  split
  · exact hab
  · exact h.2 j⟩
theorem LB.clr : ∀ (r k : Nat) {s t : List Bool}, LB s t → LB (clr r k s) (clr r k t)
  | 0, k, s, t, h => h
  | r + 1, k, s, t, h => by rw [VI.clr, VI.clr]; exact LB.clr r (k + 1) (h.set k id)
theorem LB.orR : ∀ (r j : Nat) {s s' t t' : List Bool}, LB s s' → LB t t' → LB (orR r j s t) (orR r j s' t')
  | 0, j, s, s', t, t', hs, ht => ht
  | r + 1, j, s, s', t, t', hs, ht => by
    rw [VI.orR, VI.orR]
    refine LB.orR r (j + 1) hs (ht.set j fun h => ?_)
    rw [Bool.or_eq_true] at h ⊢
    exact h.imp (ht.2 j) (hs.2 j)
def LM (m t : Mk) : Prop := (m.1 = true → t.1 = true) ∧ LB m.2 t.2
theorem LM.aft {m t : Mk} (h : LM m t) (op d : Int) : LM (aft op d m.1 m.2) (aft op d t.1 t.2) := by
  have h1 : LM (aft1 op d m.1 m.2) (aft1 op d t.1 t.2) := by
    obtain ⟨h1, h2⟩ := h
    unfold aft1
    repeat' split
    · exact ⟨h1, h2.set _ id⟩
    · exact ⟨h1, h2.set _ fun h => by rw [Bool.or_eq_true] at h ⊢; exact h.imp (h2.2 _) (h2.2 _)⟩
    · exact ⟨h1, h2.set _ (h2.2 _)⟩
    · exact ⟨h1, (h2.set _ (h2.2 _)).set _ (h2.2 _)⟩
    · exact ⟨fun h => by rw [Bool.or_eq_true] at h ⊢; exact h.imp h1 (h2.2 _), h2⟩
    · exact ⟨h1, h2.set _ id⟩
    · exact ⟨h1, h2⟩
  exact ⟨h1.1, LB.clr _ _ h1.2⟩
theorem LM.join {m m' t t' : Mk} (h : LM m m') (ht : LM t t') : LM (joinM m t) (joinM m' t') := ⟨fun h1 => by
  simp only [joinM, Bool.or_eq_true] at h1 ⊢
  exact h1.imp ht.1 h.1, LB.orR _ _ h.2 ht.2⟩
def LL (ms ns : List Mk) : Prop := ms.length = ns.length ∧ ∀ k, LM (getM ms k) (getM ns k)
theorem LL.set {ms ns : List Mk} (h : LL ms ns) (k : Nat) {m t : Mk} (hm : LM m t) : LL (ms.set k m) (ns.set k t) := ⟨by simp [h.1], fun j => by
  by_cases hk : k = j
  · subst hk
    by_cases hl : k < ms.length
    · rw [getM_set hl, getM_set (by rw [← h.1]; exact hl)]; exact hm
    · rw [List.set_eq_of_length_le (by omega), List.set_eq_of_length_le (by rw [← h.1]; omega)]; exact h.2 k
  · rw [getM_set_ne hk, getM_set_ne hk]; exact h.2 j⟩
theorem LL.hSet {m t : Mk} (hm : LM m t) : ∀ (xs : List Int) {ms ns : List Mk}, LL ms ns → LL (hSet m xs ms) (hSet t xs ns)
  | [], ms, ns, h => h
  | x :: xs, ms, ns, h => by rw [VI.hSet, VI.hSet]; exact LL.hSet hm xs (h.set _ (hm.join (h.2 _)))
theorem LL.refl (ms : List Mk) : LL ms ms := ⟨rfl, fun k => ⟨id, rfl, fun j => id⟩⟩
def moreI (p q : Ins) : Prop := q = p ∨ p.1 = 1 ∧ q = (3, 0)
inductive F2 : List Ins → List Ins → Prop
  | nil : F2 [] []
  | cons {p q : Ins} {l m : List Ins} : moreI p q → F2 l m → F2 (p :: l) (q :: m)
theorem F2.refl : ∀ l : List Ins, F2 l l
  | [] => .nil
  | p :: r => .cons (.inl rfl) (F2.refl r)
theorem F2.set : ∀ (l : List Ins) (k : Nat), (l.getD k (0, 0)).1 = 1 → F2 l (l.set k (3, 0))
  | [], k, h => by rw [List.getD_nil] at h; cases h
  | p :: r, 0, h => .cons (.inr ⟨h, rfl⟩) (F2.refl r)
  | p :: r, k + 1, h => .cons (.inl rfl) (F2.set r k h)
end Go.VI

namespace Go.VI
open Go.Proofs
set_option maxRecDepth 100000
set_option linter.unusedSimpArgs false
set_option linter.unusedVariables false
set_option maxHeartbeats 4000000
def StEq (s : List Bool) (x y : List Int) : Prop := x.length = y.length ∧ ∀ j, j < x.length → s.getD j false = false → x.getD j 0 = y.getD j 0
theorem StEq.mono {s t : List Bool} {x y : List Int} (h : StEq s x y) (hl : LB s t) : StEq t x y := ⟨h.1, fun j hj ht => h.2 j hj (by
  cases e : s.getD j false with
  | false => rfl
  | true => rw [hl.2 j e] at ht; cases ht)⟩
theorem clr_lo : ∀ (r k : Nat) (s : List Bool) (j : Nat), j < k → (clr r k s).getD j false = s.getD j false
  | 0, k, s, j, h => rfl
  | r + 1, k, s, j, h => by
    rw [clr, clr_lo r (k + 1) _ j (by omega), getD_set_bool, if_neg (by omega)]
theorem getD_app_lo {a p : List Int} {j : Nat} (h : j < a.length) : (a ++ p).getD j 0 = a.getD j 0 := by
  rw [List.getD_eq_getElem?_getD, List.getD_eq_getElem?_getD, List.getElem?_append_left h]
theorem getD_app_hi {a p : List Int} (t : Nat) : (a ++ p).getD (a.length + t) 0 = p.getD t 0 := by
  rw [List.getD_eq_getElem?_getD, List.getD_eq_getElem?_getD, List.getElem?_append_right (by omega), Nat.add_sub_cancel_left]
theorem getD_lim (l : List Int) (t : Nat) : (l.map limS).getD t 0 = limS (l.getD t 0) := by
  rw [List.getD_eq_getElem?_getD, List.getD_eq_getElem?_getD, List.getElem?_map]
  cases l[t]? <;> rfl
theorem aft1_lo {op d : Int} {c : Bool} {s : List Bool} (h0 : 0 ≤ op) (h1 : op ≤ 20) {j : Nat} (hj : (j : Int) < d - popS op) : (aft1 op d c s).2.getD j false = s.getD j false := by
  have hb := pp_b h0 h1
  obtain ⟨q1, q2, q3, q4, q5, q6, q7⟩ := pop_push op h0 h1
  unfold aft1
  split
  · rw [getD_set_bool, if_neg (by omega)]
  split
  · have := q2 (by assumption); rw [getD_set_bool, if_neg (by omega)]
  split
  · have := q3 (by assumption); rw [getD_set_bool, if_neg (by omega)]
  split
  · have := q4 (by assumption); rw [getD_set_bool, if_neg (by omega), getD_set_bool, if_neg (by omega)]
  split
  · rfl
  split
  · rw [getD_set_bool, if_neg (by omega)]
  · rfl
theorem list_1 {p : List Int} (h : (p.length : Int) = 1) : ∃ x, p = [x] := List.length_eq_one_iff.1 (by omega)
theorem list_2 {p : List Int} (h : (p.length : Int) = 2) : ∃ y x, p = [y, x] := by
  match p, h with
  | [y, x], _ => exact ⟨y, x, rfl⟩
theorem push_eq {row : Int} {gA gB : List Gl} {c w op arg : Int} {cc : Bool} {s : List Bool} {a b p q : List Int} (h0 : 0 ≤ op) (h1 : op ≤ 20) (hab : a.length = b.length) (hp : (p.length : Int) = popS op) (hq : (q.length : Int) = popS op) (hs : s.length = 16) (hd : a.length + p.length ≤ 16) (hn : (a.length : Int) + pushS op ≤ 16)
    (h : StEq s (a ++ p) (b ++ q)) {t : Nat} (ht : (t : Int) < pushS op) (hm : (aft1 op ((a.length + p.length : Nat) : Int) cc s).2.getD (a.length + t) false = false) : (pushedR row gA c w op arg p).getD t 0 = (pushedR row gB c w op arg q).getD t 0 := by
  have key : ∀ u, u < p.length → s.getD (a.length + u) false = false → p.getD u 0 = q.getD u 0 := by
    intro u hu hz
    have := h.2 (a.length + u) (by rw [List.length_append]; omega) hz
    rw [getD_app_hi, hab, getD_app_hi] at this
    exact this
  obtain ⟨n, rfl⟩ := Int.eq_ofNat_of_zero_le h0
  have hcs : n = 0 ∨ n = 1 ∨ n = 2 ∨ n = 3 ∨ n = 4 ∨ n = 5 ∨ n = 6 ∨ n = 7 ∨ n = 8 ∨ n = 9 ∨ n = 10 ∨ n = 11 ∨ n = 12 ∨ n = 13 ∨ n = 14 ∨ n = 15 ∨ n = 16 ∨ n = 17 ∨ n = 18 ∨ n = 19 ∨ n = 20 := by omega
  have zero : ∀ m : Nat, pushS m = 0 → n = m → False := fun m h1 h2 => by rw [h2, h1] at ht; omega
  have secret : ∀ m : Nat, pushS m = 1 → (3 ≤ (m : Int) ∧ (m : Int) ≤ 5) → n = m → False := fun m h1 h2 h3 => by
    subst h3
    rw [h1] at ht hn
    obtain rfl : t = 0 := by omega
    unfold aft1 at hm
    rw [if_pos h2] at hm
    simp only at hm
    rw [getD_set_bool, if_pos ⟨by omega, by omega⟩] at hm
    cases hm
  rcases hcs with rfl | rfl | rfl | rfl | rfl | rfl | rfl | rfl | rfl | rfl | rfl | rfl | rfl | rfl | rfl | rfl | rfl | rfl | rfl | rfl | rfl
  · exact (zero 0 rfl rfl).elim
  · rfl
  · rfl
  · exact (secret 3 rfl (by omega) rfl).elim
  · exact (secret 4 rfl (by omega) rfl).elim
  · exact (secret 5 rfl (by omega) rfl).elim
  · rfl
  · rfl
  iterate 5
    · obtain ⟨y, x, rfl⟩ := list_2 hp
      obtain ⟨y2, x2, rfl⟩ := list_2 hq
      obtain rfl : t = 0 := by have : pushS (8 : Int) = 1 := rfl; have : (t : Int) < 1 := ht; omega
      unfold aft1 at hm
      rw [if_neg (by omega), if_pos (by omega)] at hm
      simp only at hm
      have e1 : (((a.length + [y, x].length : Nat) : Int) - 1 - 1).toNat = a.length := by simp only [List.length_cons, List.length_nil]; omega
      have e2 : (((a.length + [y, x].length : Nat) : Int) - 1).toNat = a.length + 1 := by simp only [List.length_cons, List.length_nil]; omega
      rw [e1, e2, getD_set_bool, if_pos ⟨rfl, by simp only [List.length_cons, List.length_nil] at hd; omega⟩, Bool.or_eq_false_iff] at hm
      have k0 := key 0 (by simp) hm.1
      have k1 := key 1 (by simp) hm.2
      obtain rfl : y = y2 := k0
      obtain rfl : x = x2 := k1
      rfl
  · obtain ⟨x, rfl⟩ := list_1 hp
    obtain ⟨x2, rfl⟩ := list_1 hq
    obtain rfl : t = 0 := by have : (t : Int) < 1 := ht; omega
    have hm2 : s.getD (a.length + 0) false = false := hm
    obtain rfl : x = x2 := key 0 (by simp) hm2
    rfl
  · obtain ⟨x, rfl⟩ := list_1 hp
    obtain ⟨x2, rfl⟩ := list_1 hq
    have ht2 : (t : Int) < 2 := ht
    have hm2 : (s.set (((a.length + [x].length : Nat) : Int)).toNat (s.getD ((((a.length + [x].length : Nat) : Int)) - 1).toNat false)).getD (a.length + t) false = false := hm
    have e1 : ((((a.length + [x].length : Nat) : Int)) - 1).toNat = a.length := by simp only [List.length_cons, List.length_nil]; omega
    have e2 : (((a.length + [x].length : Nat) : Int)).toNat = a.length + 1 := by simp only [List.length_cons, List.length_nil]; omega
    have hn2 : (a.length : Int) + 2 ≤ 16 := hn
    rw [e1, e2, getD_set_bool] at hm2
    have hx : s.getD (a.length + 0) false = false := by
      by_cases h : t = 0
      · subst h; rw [if_neg (by omega)] at hm2; exact hm2
      · rw [if_pos ⟨by omega, by omega⟩] at hm2; exact hm2
    obtain rfl : x = x2 := key 0 (by simp) hx
    rfl
  · exact (zero 15 rfl rfl).elim
  · obtain ⟨y, x, rfl⟩ := list_2 hp
    obtain ⟨y2, x2, rfl⟩ := list_2 hq
    have ht2 : (t : Int) < 2 := ht
    have e1 : (((a.length + [y, x].length : Nat) : Int) - 1 - 1).toNat = a.length := by simp only [List.length_cons, List.length_nil]; omega
    have e2 : (((a.length + [y, x].length : Nat) : Int) - 1).toNat = a.length + 1 := by simp only [List.length_cons, List.length_nil]; omega
    have hm2 : ((s.set (((a.length + [y, x].length : Nat) : Int) - 1 - 1).toNat (s.getD (((a.length + [y, x].length : Nat) : Int) - 1).toNat false)).set (((a.length + [y, x].length : Nat) : Int) - 1).toNat (s.getD (((a.length + [y, x].length : Nat) : Int) - 1 - 1).toNat false)).getD (a.length + t) false = false := hm
    have hd2 : a.length + 2 ≤ 16 := hd
    rw [e1, e2, getD_set_bool, getD_set_bool, List.length_set] at hm2
    by_cases h : t = 0
    · subst h
      rw [if_neg (by omega), if_pos ⟨by omega, by omega⟩] at hm2
      exact key 1 (by simp) hm2
    · obtain rfl : t = 1 := by omega
      rw [if_pos ⟨by omega, by omega⟩] at hm2
      exact key 0 (by simp) hm2
  · exact (zero 17 rfl rfl).elim
  · exact (zero 18 rfl rfl).elim
  · exact (zero 19 rfl rfl).elim
  · exact (zero 20 rfl rfl).elim
theorem low_push {row : Int} {gA gB : List Gl} {c w op arg : Int} {cc : Bool} {s : List Bool} {a b p q : List Int} (h0 : 0 ≤ op) (h1 : op ≤ 20) (hp : (p.length : Int) = popS op) (hq : (q.length : Int) = popS op) (hs : s.length = 16) (hd : a.length + p.length ≤ 16) (hn : (a.length : Int) + pushS op ≤ 16)
    (h : StEq s (a ++ p) (b ++ q)) : StEq (aft op ((a.length + p.length : Nat) : Int) cc s).2 (a ++ (pushedR row gA c w op arg p).map limS) (b ++ (pushedR row gB c w op arg q).map limS) := by
  have hl := h.1
  rw [List.length_append, List.length_append] at hl
  have hab : a.length = b.length := by omega
  have lA := pushedR_len row gA c w arg p h0 h1
  have lB := pushedR_len row gB c w arg q h0 h1
  refine ⟨by rw [List.length_append, List.length_append, List.length_map, List.length_map]; omega, fun j hj hm => ?_⟩
  rw [List.length_append, List.length_map] at hj
  have hm1 : (aft1 op ((a.length + p.length : Nat) : Int) cc s).2.getD j false = false := by
    unfold aft at hm
    simp only at hm
    rw [clr_lo _ _ _ _ (by omega)] at hm
    exact hm
  by_cases hja : j < a.length
  · rw [aft1_lo h0 h1 (by omega)] at hm1
    rw [getD_app_lo hja, getD_app_lo (by omega)]
    have := h.2 j (by rw [List.length_append]; omega) hm1
    rw [getD_app_lo hja, getD_app_lo (by omega)] at this
    exact this
  · obtain ⟨t, rfl⟩ : ∃ t, j = a.length + t := ⟨j - a.length, by omega⟩
    rw [getD_app_hi, hab, getD_app_hi, getD_lim, getD_lim]
    rw [push_eq h0 h1 hab hp hq hs hd hn h (by omega) hm1]
end Go.VI

namespace Go.VI
open Go.Proofs
set_option maxRecDepth 100000
set_option linter.unusedSimpArgs false
set_option linter.unusedVariables false
set_option maxHeartbeats 4000000
theorem LB.trans {a b c : List Bool} (h : LB a b) (h2 : LB b c) : LB a c := ⟨h.1.trans h2.1, fun j hj => h2.2 j (h.2 j hj)⟩
theorem LM.trans {a b c : Mk} (h : LM a b) (h2 : LM b c) : LM a c := ⟨fun x => h2.1 (h.1 x), h.2.trans h2.2⟩
theorem LM.refl (a : Mk) : LM a a := ⟨id, rfl, fun _ => id⟩
theorem orR_keep : ∀ (r j : Nat) (s t : List Bool) (i : Nat), t.getD i false = true → (orR r j s t).getD i false = true
  | 0, j, s, t, i, h => h
  | r + 1, j, s, t, i, h => by
    rw [orR]
    refine orR_keep r (j + 1) s _ i ?_
    rw [getD_set_bool]
    split
    · rename_i hh; rw [hh.1, h]; rfl
    · exact h
theorem orR_src : ∀ (r j : Nat) (s t : List Bool) (i : Nat), s.getD i false = true → j ≤ i → i < j + r → i < t.length → (orR r j s t).getD i false = true
  | 0, j, s, t, i, h, h1, h2, h3 => by omega
  | r + 1, j, s, t, i, h, h1, h2, h3 => by
    rw [orR]
    by_cases hij : j = i
    · refine orR_keep r (j + 1) s _ i ?_
      rw [getD_set_bool, if_pos ⟨hij, by omega⟩, hij, h, Bool.or_true]
    · exact orR_src r (j + 1) s _ i h (by omega) (by omega) (by rw [List.length_set]; exact h3)
theorem join_keep (m t : Mk) : LM t (joinM m t) := ⟨fun h => by simp [joinM, h], by rw [joinM]; exact (orR_len _ _ _ _).symm, fun j h => orR_keep _ _ _ _ j h⟩
theorem join_src {m t : Mk} (hm : m.2.length = 16) (ht : t.2.length = 16) : LM m (joinM m t) := ⟨fun h => by simp [joinM, h], by rw [joinM]; show _ = (orR 16 0 m.2 t.2).length; rw [orR_len]; omega, fun j h => by
  have hj : j < 16 := by
    by_cases hj : j < 16
    · exact hj
    · rw [List.getD_eq_getElem?_getD, List.getElem?_eq_none (by omega)] at h; cases h
  exact orR_src _ _ _ _ j h (by omega) (by omega) (by omega)⟩
theorem join_len {m t : Mk} (ht : t.2.length = 16) : (joinM m t).2.length = 16 := by rw [joinM]; show (orR 16 0 m.2 t.2).length = 16; rw [orR_len]; exact ht
theorem hSet_grow (m : Mk) : ∀ (xs : List Int) (ms : List Mk) (j : Nat), LM (getM ms j) (getM (hSet m xs ms) j)
  | [], ms, j => LM.refl _
  | x :: xs, ms, j => by
    rw [VI.hSet]
    refine LM.trans ?_ (hSet_grow m xs _ j)
    by_cases h : x.toNat = j
    · subst h
      by_cases hl : x.toNat < ms.length
      · rw [getM_set hl]; exact join_keep _ _
      · rw [List.set_eq_of_length_le (by omega)]; exact LM.refl _
    · rw [getM_set_ne h]; exact LM.refl _
theorem hSet_wf {m : Mk} : ∀ (xs : List Int) (ms : List Mk), Wf ms → (∀ x ∈ xs, x.toNat < ms.length) → Wf (hSet m xs ms)
  | [], ms, h, hx => h
  | x :: xs, ms, h, hx => by
    rw [VI.hSet]
    exact hSet_wf xs _ (h.set _ (join_len (h.get (hx x (.head _))))) (fun y hy => by rw [List.length_set]; exact hx y (.tail _ hy))
theorem hSet_hit {m : Mk} (hm : m.2.length = 16) : ∀ (xs : List Int) (ms : List Mk), Wf ms → (∀ x ∈ xs, x.toNat < ms.length) → ∀ x ∈ xs, LM m (getM (hSet m xs ms) x.toNat)
  | [], ms, h, hx, x, hm2 => by cases hm2
  | y :: xs, ms, h, hx, x, hm2 => by
    rw [VI.hSet]
    have hy := hx y (.head _)
    rcases List.mem_cons.1 hm2 with rfl | hm2
    · refine LM.trans ?_ (hSet_grow m xs _ x.toNat)
      rw [getM_set hy]
      exact join_src hm (h.get hy)
    · exact hSet_hit hm xs _ (h.set _ (join_len (h.get hy))) (fun z hz => by rw [List.length_set]; exact hx z (.tail _ hz)) x hm2
def ExR (l : List Ins) (ds : List Int) (row : Int) (g : List Gl) (c0 w0 : Int) (n i s : Nat) (c w : Int) (stk : List Int) : Prop :=
  okS stk ∧ (∀ f q, pathOK ds l (walkF l f i q) stk.length) ∧ (runR l row g c0 w0 n i s c w stk).2.2.2 = 0 ∧ i ≤ l.length
def jR (l : List Ins) (i : Nat) (p : Ins) (pp : List Int) : Nat := (nextR p.1 p.2 i l.length (pp.getD 0 0)).toNat
theorem ExR.adv {l : List Ins} (hl : checkI l = 0) {ds : List Int} {row : Int} {g : List Gl} {c0 w0 : Int} {n i s : Nat} {c w : Int} {stk : List Int} (h : ExR l ds row g c0 w0 n i s c w stk) {p : Ins} (e : l[i]? = some p) :
    ∃ n' a pp, stk = a ++ pp ∧ (pp.length : Int) = popS p.1 ∧ ds.getD i 0 = stk.length ∧ (a.length : Int) + pushS p.1 ≤ 16 ∧ i < jR l i p pp ∧ jR l i p pp ≤ l.length ∧ (p.1 ≠ 0 → ((jR l i p pp : Nat) : Int) ∈ sucL p.1 p.2 i) ∧ (p.1 = 0 → jR l i p pp = l.length) ∧
      runR l row g c0 w0 n i s c w stk = runR l row g c0 w0 n' (jR l i p pp) (s + 1) (clsR p.1 c (pp.getD 0 0)) (waiR p.1 w (pp.getD 0 0)) (a ++ (pushedR row g c w p.1 p.2 pp).map limS) ∧
      ExR l ds row g c0 w0 n' (jR l i p pp) (s + 1) (clsR p.1 c (pp.getD 0 0)) (waiR p.1 w (pp.getD 0 0)) (a ++ (pushedR row g c w p.1 p.2 pp).map limS) := by
  obtain ⟨hk, hp, herr, hi⟩ := h
  have hi : i < l.length := (List.getElem?_eq_some_iff.1 e).1
  obtain ⟨a1, a2, a3, a4, a5⟩ := chk_at hl e
  have hgd := getD_some e
  have hp1 := hp 1 0
  rw [walk_step 0 0 hi] at hp1
  have hp1 := hp1.1
  rw [Int.toNat_natCast, hgd] at hp1
  obtain ⟨_, _, b0, b1, b2, _⟩ := hp1
  have hf : ¬ failR stk p.1 := by unfold failR; omega
  cases n with
  | zero => rw [runR_fuel e] at herr; exact absurd herr (by decide : (14 : Int) ≠ 0)
  | succ n =>
    obtain ⟨a, pp, rfl, hrs, hpl⟩ := okS_split hk a1 a2 hf
    have hst := runR_step (row := row) (g := g) (c0 := c0) (w0 := w0) (n := n) (s := s) (c := c) (w := w) e hf hrs
    rw [hst] at herr
    have hkn := okS_next (row := row) (g := g) (c := c) (w := w) (arg := p.2) hk a1 a2 hf hpl
    have hml := pushedR_len row g c w p.2 pp a1 a2
    have hla : (a ++ pp).length = a.length + pp.length := List.length_append
    refine ⟨n, a, pp, rfl, hpl, b0, by omega, ?_, ?_, ?_, ?_, hst, hkn, ?_, herr, ?_⟩
    · unfold jR nextR; split
      · omega
      split
      · omega
      split
      · omega
      · omega
    · unfold jR nextR; split
      · omega
      split
      · omega
      split
      · omega
      · omega
    · intro h0
      unfold jR nextR sucL
      rw [if_neg h0, List.mem_append]
      by_cases h17 : p.1 = 17
      · refine .inr ?_
        rw [if_pos h17, if_pos (.inl h17), List.mem_singleton]; have := a5 (.inl h17); omega
      · rw [if_neg h17]
        by_cases h18 : p.1 = 18 ∧ pp.getD 0 0 = 0
        · refine .inr ?_
          rw [if_pos h18, if_pos (.inr h18.1), List.mem_singleton]; have := a5 (.inr h18.1); omega
        · refine .inl ?_
          rw [if_neg h18, if_neg (fun h => h.elim h0 h17), List.mem_singleton]; omega
    · intro h0
      unfold jR nextR; rw [if_pos h0]; omega
    · intro f q
      by_cases h0 : p.1 = 0
      · have : jR l i p pp = l.length := by unfold jR nextR; rw [if_pos h0]; omega
        rw [this, walk_end _ _ (Nat.le_refl _)]
        trivial
      · obtain ⟨q2, hq⟩ := walk_enc e h0 (fun h => by have := a5 h; omega) (pp.getD 0 0) q
        have := hp (f + 1) q2
        rw [hq f] at this
        have := this.2
        rw [Int.toNat_natCast, hgd] at this
        rw [List.length_append, List.length_map]
        rw [List.length_append] at this
        rw [show ((a.length + (pushedR row g c w p.1 p.2 pp).length : Nat) : Int) = ((a.length + pp.length : Nat) : Int) - popS p.1 + pushS p.1 from by omega]
        exact this
    · unfold jR nextR; split
      · omega
      split
      · omega
      split
      · omega
      · omega
def RelM (l : List Ins) (ms : List Mk) (iA iB : Nat) (sA sB : List Int) : Prop := (iA = iB ∧ StEq (getM ms iA).2 sA sB) ∨ ((iA = l.length ∨ (getM ms iA).1 = true) ∧ (iB = l.length ∨ (getM ms iB).1 = true))
theorem RelM.grow {l : List Ins} {ms ns : List Mk} {iA iB : Nat} {sA sB : List Int} (h : RelM l ms iA iB sA sB) (hg : ∀ j, LM (getM ms j) (getM ns j)) : RelM l ns iA iB sA sB := by
  rcases h with ⟨h1, h2⟩ | ⟨h1, h2⟩
  · exact .inl ⟨h1, h2.mono (hg iA).2⟩
  · exact .inr ⟨h1.imp id (hg iA).1, h2.imp id (hg iB).1⟩
theorem aft_ctl {op d : Int} {c : Bool} {s : List Bool} (h : c = true) : (aft op d c s).1 = true := by
  subst h
  unfold aft aft1
  simp only
  repeat' split
  all_goals first | rfl | simp
theorem ni {l : List Ins} (hl : checkI l = 0) {ds : List Int} {row : Int} {gA gB : List Gl} {c0 w0 : Int} : ∀ (m k : Nat) (ms : List Mk), k + m = l.length → ms.length = l.length + 1 → Wf ms → hRun ds k (l.drop k) ms = false →
    ∀ (nA iA tA nB iB tB : Nat) (c w : Int) (sA sB : List Int), ExR l ds row gA c0 w0 nA iA tA c w sA → ExR l ds row gB c0 w0 nB iB tB c w sB → k ≤ iA → k ≤ iB → RelM l ms iA iB sA sB →
    (runR l row gA c0 w0 nA iA tA c w sA).1 = (runR l row gB c0 w0 nB iB tB c w sB).1 ∧ (runR l row gA c0 w0 nA iA tA c w sA).2.1 = (runR l row gB c0 w0 nB iB tB c w sB).2.1 := by
  intro m
  induction m with
  | zero =>
    intro k ms hk hms hwf hr nA iA tA nB iB tB c w sA sB hA hB h1 h2 hrel
    have := hA.2.2.2
    have := hB.2.2.2
    rw [runR_none (List.getElem?_eq_none (by omega)), runR_none (List.getElem?_eq_none (by omega))]
    exact ⟨rfl, rfl⟩
  | succ m ih =>
    intro k ms hk hms hwf hr nA iA tA nB iB tB c w sA sB hA hB h1 h2 hrel
    have hlt : k < l.length := by omega
    obtain ⟨p, e⟩ : ∃ p, l[k]? = some p := ⟨_, List.getElem?_eq_getElem hlt⟩
    have hdrop : l.drop k = p :: l.drop (k + 1) := by
      rw [List.drop_eq_getElem_cons hlt]
      rw [List.getElem?_eq_getElem hlt] at e
      injection e with e; rw [e]
    rw [hdrop, hRun] at hr
    obtain ⟨a1, a2, a3, a4, a5⟩ := chk_at hl e
    have hsu := good_suc (good_of hl) hlt
    rw [getD_some e] at hsu
    have hml : (getM ms k).2.length = 16 := hwf.get (by omega)
    have hal : (aft p.1 (ds.getD k 0) (getM ms k).1 (getM ms k).2).2.length = 16 := by rw [aft_len]; exact hml
    have hsr : ∀ x ∈ sucL p.1 p.2 k, x.toNat < ms.length := fun x hx => by have := hsu.2 x hx; omega
    have hgrow := hSet_grow (aft p.1 (ds.getD k 0) (getM ms k).1 (getM ms k).2) (sucL p.1 p.2 k) ms
    have hhit := hSet_hit hal (sucL p.1 p.2 k) ms hwf hsr
    have hwf2 := hSet_wf (m := aft p.1 (ds.getD k 0) (getM ms k).1 (getM ms k).2) (sucL p.1 p.2 k) ms hwf hsr
    have hlen2 : (hSet (aft p.1 (ds.getD k 0) (getM ms k).1 (getM ms k).2) (sucL p.1 p.2 k) ms).length = l.length + 1 := by rw [hSet_len]; exact hms
    by_cases hAk : iA = k
    · obtain ⟨n', a, pp, r1, r2, r3, r4, r5, r6, r7, r8, r9, r10⟩ := hA.adv hl (by rw [hAk]; exact e)
      rw [hAk] at r3 r5 r6 r7 r8
      rw [if_neg (by omega)] at hr
      split at hr
      · cases hr
      rename_i hflag
      have hjA : jR l k p pp ≠ l.length → LM (aft p.1 (ds.getD k 0) (getM ms k).1 (getM ms k).2) (getM (hSet (aft p.1 (ds.getD k 0) (getM ms k).1 (getM ms k).2) (sucL p.1 p.2 k) ms) (jR l k p pp)) := by
        intro hne
        have := hhit _ (r7 (fun h0 => hne (r8 h0)))
        rwa [Int.toNat_natCast] at this
      by_cases hBk : iB = k
      · obtain ⟨m', b, qq, u1, u2, u3, u4, u5, u6, u7, u8, u9, u10⟩ := hB.adv hl (by rw [hBk]; exact e)
        rw [hBk] at u3 u5 u6 u7 u8
        have hjB : jR l k p qq ≠ l.length → LM (aft p.1 (ds.getD k 0) (getM ms k).1 (getM ms k).2) (getM (hSet (aft p.1 (ds.getD k 0) (getM ms k).1 (getM ms k).2) (sucL p.1 p.2 k) ms) (jR l k p qq)) := by
          intro hne
          have := hhit _ (u7 (fun h0 => hne (u8 h0)))
          rwa [Int.toNat_natCast] at this
        rw [r9, u9, hAk, hBk]
        rw [hAk] at r10
        rw [hBk] at u10
        rw [hAk, hBk] at hrel
        by_cases hc : (getM ms k).1 = true
        · have n19 : p.1 ≠ 19 := fun h => hflag ⟨.inl h, .inl hc⟩
          have n20 : p.1 ≠ 20 := fun h => hflag ⟨.inr h, .inl hc⟩
          have ec : ∀ x, clsR p.1 c x = c := fun x => by unfold clsR; rw [if_neg (fun h => n19 h.1)]
          have ew : ∀ x, waiR p.1 w x = w := fun x => by unfold waiR; rw [if_neg (fun h => n20 h.1)]
          rw [ec, ew] at r10 u10 ⊢
          rw [ec, ew]
          refine ih (k + 1) _ (by omega) hlen2 hwf2 hr _ _ _ _ _ _ _ _ _ _ r10 u10 r5 u5 (.inr ⟨?_, ?_⟩)
          · by_cases hne : jR l k p pp = l.length
            · exact .inl hne
            · exact .inr ((hjA hne).1 (aft_ctl hc))
          · by_cases hne : jR l k p qq = l.length
            · exact .inl hne
            · exact .inr ((hjB hne).1 (aft_ctl hc))
        · have hst : StEq (getM ms k).2 sA sB := by
            rcases hrel with ⟨_, h⟩ | ⟨h, _⟩
            · exact h
            · rcases h with h | h
              · omega
              · exact absurd h hc
          have hsl := hst.1
          rw [r1, u1, List.length_append, List.length_append] at hsl
          have htop : (p.1 = 18 ∨ p.1 = 19 ∨ p.1 = 20) → (getM ms k).2.getD (ds.getD k 0 - 1).toNat false = false → pp.getD 0 0 = qq.getD 0 0 := by
            intro hop hz
            have hpo : popS p.1 = 1 := by rcases hop with h | h | h <;> rw [h] <;> rfl
            obtain ⟨x, hx⟩ := list_1 (r2.trans hpo)
            obtain ⟨y, hy⟩ := list_1 (u2.trans hpo)
            rw [hx] at hsl r1
            rw [hy] at hsl u1
            simp only [List.length_singleton] at hsl
            have hlA : sA.length = a.length + 1 := by rw [r1, List.length_append]; rfl
            have h3 := hst.2 a.length (by omega) (by rw [show a.length = (ds.getD k 0 - 1).toNat from by omega]; exact hz)
            have e1 := getD_app_hi (a := a) (p := [x]) 0
            have e2 := getD_app_hi (a := b) (p := [y]) 0
            rw [Nat.add_zero] at e1 e2
            rw [r1, u1, e1, show a.length = b.length from by omega, e2] at h3
            rw [hx, hy]; exact h3
          have hlow : jR l k p pp = jR l k p qq → clsR p.1 c (pp.getD 0 0) = clsR p.1 c (qq.getD 0 0) → waiR p.1 w (pp.getD 0 0) = waiR p.1 w (qq.getD 0 0) →
              (runR l row gA c0 w0 n' (jR l k p pp) (tA + 1) (clsR p.1 c (pp.getD 0 0)) (waiR p.1 w (pp.getD 0 0)) (a ++ (pushedR row gA c w p.1 p.2 pp).map limS)).1 = (runR l row gB c0 w0 m' (jR l k p qq) (tB + 1) (clsR p.1 c (qq.getD 0 0)) (waiR p.1 w (qq.getD 0 0)) (b ++ (pushedR row gB c w p.1 p.2 qq).map limS)).1 ∧
              (runR l row gA c0 w0 n' (jR l k p pp) (tA + 1) (clsR p.1 c (pp.getD 0 0)) (waiR p.1 w (pp.getD 0 0)) (a ++ (pushedR row gA c w p.1 p.2 pp).map limS)).2.1 = (runR l row gB c0 w0 m' (jR l k p qq) (tB + 1) (clsR p.1 c (qq.getD 0 0)) (waiR p.1 w (qq.getD 0 0)) (b ++ (pushedR row gB c w p.1 p.2 qq).map limS)).2.1 := by
            intro h hc1 hw1
            rw [← h, ← hc1, ← hw1] at u10 ⊢
            have hstk : RelM l (hSet (aft p.1 (ds.getD k 0) (getM ms k).1 (getM ms k).2) (sucL p.1 p.2 k) ms) (jR l k p pp) (jR l k p pp) (a ++ (pushedR row gA c w p.1 p.2 pp).map limS) (b ++ (pushedR row gB c w p.1 p.2 qq).map limS) := by
              by_cases hne : jR l k p pp = l.length
              · exact .inr ⟨.inl hne, .inl hne⟩
              · have hsA16 := hA.1.1
                rw [r1] at hst hsA16 r3
                rw [u1] at hst
                have h4 := low_push (row := row) (gA := gA) (gB := gB) (c := c) (w := w) (arg := p.2) (cc := (getM ms k).1) a1 a2 r2 u2 hml (by rw [List.length_append] at hsA16; exact hsA16) r4 hst
                rw [List.length_append] at r3
                rw [← r3] at h4
                exact .inl ⟨rfl, h4.mono (hjA hne).2⟩
            exact ih (k + 1) _ (by omega) hlen2 hwf2 hr _ _ _ _ _ _ _ _ _ _ r10 u10 r5 r5 hstk
          by_cases hop18 : p.1 = 18
          · have ec : ∀ x, clsR p.1 c x = c := fun x => by unfold clsR; rw [if_neg (fun h => by omega)]
            have ew : ∀ x, waiR p.1 w x = w := fun x => by unfold waiR; rw [if_neg (fun h => by omega)]
            by_cases hz : (getM ms k).2.getD (ds.getD k 0 - 1).toNat false = false
            · have hx := htop (.inl hop18) hz
              have hj : jR l k p pp = jR l k p qq := by unfold jR; rw [hx]
              exact hlow hj (by rw [hx]) (by rw [hx])
            · have hz : (getM ms k).2.getD (ds.getD k 0 - 1).toNat false = true := by simpa using hz
              have hct : (aft p.1 (ds.getD k 0) (getM ms k).1 (getM ms k).2).1 = true := by
                rw [hop18]
                show ((getM ms k).1 || (getM ms k).2.getD (ds.getD k 0 - 1).toNat false) = true
                rw [hz, Bool.or_true]
              rw [ec, ew] at r10 u10 ⊢
              rw [ec, ew]
              refine ih (k + 1) _ (by omega) hlen2 hwf2 hr _ _ _ _ _ _ _ _ _ _ r10 u10 r5 u5 (.inr ⟨?_, ?_⟩)
              · by_cases hne : jR l k p pp = l.length
                · exact .inl hne
                · exact .inr ((hjA hne).1 hct)
              · by_cases hne : jR l k p qq = l.length
                · exact .inl hne
                · exact .inr ((hjB hne).1 hct)
          · have hj : jR l k p pp = jR l k p qq := by
              have hnn : ∀ x, nextR p.1 p.2 k l.length x = if p.1 = 0 then (l.length : Int) else if p.1 = 17 then p.2 else (k : Int) + 1 := fun x => by
                unfold nextR
                rw [if_neg (show ¬ (p.1 = 18 ∧ x = 0) from fun h => hop18 h.1)]
              unfold jR
              rw [hnn, hnn]
            have hcw : clsR p.1 c (pp.getD 0 0) = clsR p.1 c (qq.getD 0 0) ∧ waiR p.1 w (pp.getD 0 0) = waiR p.1 w (qq.getD 0 0) := by
              by_cases h19 : p.1 = 19 ∨ p.1 = 20
              · have hz : (getM ms k).2.getD (ds.getD k 0 - 1).toNat false = false := by
                  cases hb : (getM ms k).2.getD (ds.getD k 0 - 1).toNat false with
                  | false => rfl
                  | true => exact absurd ⟨h19, .inr hb⟩ hflag
                rw [htop (.inr h19) hz]
                exact ⟨rfl, rfl⟩
              · unfold clsR waiR
                rw [if_neg (fun h => h19 (.inl h.1)), if_neg (fun h => h19 (.inl h.1)), if_neg (fun h => h19 (.inr h.1)), if_neg (fun h => h19 (.inr h.1))]
                exact ⟨rfl, rfl⟩
            exact hlow hj hcw.1 hcw.2
      · have hBgt : k + 1 ≤ iB := by omega
        have hhigh : (getM ms k).1 = true ∧ (iB = l.length ∨ (getM ms iB).1 = true) := by
          rcases hrel with ⟨h, _⟩ | ⟨h, h'⟩
          · omega
          · rw [hAk] at h
            exact ⟨h.resolve_left (by omega), h'⟩
        have n19 : p.1 ≠ 19 := fun h => hflag ⟨.inl h, .inl hhigh.1⟩
        have n20 : p.1 ≠ 20 := fun h => hflag ⟨.inr h, .inl hhigh.1⟩
        have ec : ∀ x, clsR p.1 c x = c := fun x => by unfold clsR; rw [if_neg (fun h => n19 h.1)]
        have ew : ∀ x, waiR p.1 w x = w := fun x => by unfold waiR; rw [if_neg (fun h => n20 h.1)]
        rw [r9, hAk]
        rw [hAk] at r10
        rw [ec, ew] at r10 ⊢
        refine ih (k + 1) _ (by omega) hlen2 hwf2 hr _ _ _ _ _ _ _ _ _ _ r10 hB r5 hBgt (.inr ⟨?_, hhigh.2.imp id (hgrow iB).1⟩)
        by_cases hne : jR l k p pp = l.length
        · exact .inl hne
        · exact .inr ((hjA hne).1 (aft_ctl hhigh.1))
    · have hAgt : k + 1 ≤ iA := by omega
      by_cases hBk : iB = k
      · obtain ⟨m', b, qq, u1, u2, u3, u4, u5, u6, u7, u8, u9, u10⟩ := hB.adv hl (by rw [hBk]; exact e)
        rw [hBk] at u3 u5 u6 u7 u8
        rw [if_neg (by omega)] at hr
        split at hr
        · cases hr
        rename_i hflag
        have hjB : jR l k p qq ≠ l.length → LM (aft p.1 (ds.getD k 0) (getM ms k).1 (getM ms k).2) (getM (hSet (aft p.1 (ds.getD k 0) (getM ms k).1 (getM ms k).2) (sucL p.1 p.2 k) ms) (jR l k p qq)) := by
          intro hne
          have := hhit _ (u7 (fun h0 => hne (u8 h0)))
          rwa [Int.toNat_natCast] at this
        have hhigh : (getM ms k).1 = true ∧ (iA = l.length ∨ (getM ms iA).1 = true) := by
          rcases hrel with ⟨h, _⟩ | ⟨h, h'⟩
          · omega
          · rw [hBk] at h'
            exact ⟨h'.resolve_left (by omega), h⟩
        have n19 : p.1 ≠ 19 := fun h => hflag ⟨.inl h, .inl hhigh.1⟩
        have n20 : p.1 ≠ 20 := fun h => hflag ⟨.inr h, .inl hhigh.1⟩
        have ec : ∀ x, clsR p.1 c x = c := fun x => by unfold clsR; rw [if_neg (fun h => n19 h.1)]
        have ew : ∀ x, waiR p.1 w x = w := fun x => by unfold waiR; rw [if_neg (fun h => n20 h.1)]
        rw [u9, hBk]
        rw [hBk] at u10
        rw [ec, ew] at u10 ⊢
        refine ih (k + 1) _ (by omega) hlen2 hwf2 hr _ _ _ _ _ _ _ _ _ _ hA u10 hAgt u5 (.inr ⟨hhigh.2.imp id (hgrow iA).1, ?_⟩)
        by_cases hne : jR l k p qq = l.length
        · exact .inl hne
        · exact .inr ((hjB hne).1 (aft_ctl hhigh.1))
      · have hBgt : k + 1 ≤ iB := by omega
        split at hr
        · exact ih (k + 1) ms (by omega) hms hwf hr _ _ _ _ _ _ _ _ _ _ hA hB hAgt hBgt hrel
        · split at hr
          · cases hr
          · exact ih (k + 1) _ (by omega) hlen2 hwf2 hr _ _ _ _ _ _ _ _ _ _ hA hB hAgt hBgt (hrel.grow hgrow)
end Go.VI

namespace Go.VI
open Go.Proofs
set_option maxRecDepth 100000
set_option linter.unusedSimpArgs false
set_option linter.unusedVariables false
set_option maxHeartbeats 4000000
theorem run_5000 {l : List Ins} (h : (depthsS l).2 = 0) (row : Int) (g : List Gl) (c w : Int) : checkI l = 0 ∧ ExR l (depthsS l).1 row g c w 5000 0 0 c w [] := by
  obtain ⟨fin, hck, _⟩ := depths_ok h
  have hf := fuel_501 hck
  obtain ⟨q, hq⟩ := run_path hck row g c w (depthsS l).1 5000 0 0 c w [] ⟨by decide, by simp⟩ (fun f q => depths_path h f q)
  refine ⟨hck, ⟨by decide, by simp⟩, fun f q => depths_path h f q, ?_, Nat.zero_le _⟩
  rcases hq with ⟨r1, _⟩ | ⟨r1, r2⟩
  · exact r1
  · have := (fuel_ge hck (5000 + 1) q).2
    omega
theorem independent {l : List Ins} (h1 : (hiddenS l).1 = false) (h2 : (hiddenS l).2 = 0) (row : Int) (ga1 gb1 : List Gl) (c w r : Int) :
    (runT l row ga1 c w r 5000).c = (runT l row gb1 c w r 5000).c ∧ (runT l row ga1 c w r 5000).w = (runT l row gb1 c w r 5000).w ∧ (runT l row ga1 c w r 5000).r = r ∧ (runT l row gb1 c w r 5000).r = r := by
  have hd : (depthsS l).2 = 0 := by
    unfold hiddenS at h2
    by_cases h : (depthsS l).2 = 0
    · exact h
    · rw [if_neg h] at h2; exact absurd h2 h
  have hr : hRun (depthsS l).1 0 l (List.replicate (l.length + 1) z0) = false := by
    unfold hiddenS at h1
    rw [if_pos hd] at h1
    exact h1
  obtain ⟨hck, hA⟩ := run_5000 hd row ga1 c w
  obtain ⟨_, hB⟩ := run_5000 hd row gb1 c w
  have := ni hck l.length 0 (List.replicate (l.length + 1) z0) (by omega) (by simp) (wf_rep _) (by rw [List.drop_zero]; exact hr) 5000 0 0 5000 0 0 c w [] [] hA hB (Nat.le_refl _) (Nat.le_refl _) (.inl ⟨rfl, rfl, fun j hj => absurd hj (Nat.not_lt_zero _)⟩)
  unfold runT
  simp only [if_pos hck, limI_5000]
  exact ⟨this.1, this.2, by trivial, by trivial⟩
theorem ind_dec {l : List Ins} {row : Int} {ga1 gb1 : List Gl} {c w r : Int} (h : (runT l row ga1 c w r 5000).c = (runT l row gb1 c w r 5000).c ∧ (runT l row ga1 c w r 5000).w = (runT l row gb1 c w r 5000).w ∧ (runT l row ga1 c w r 5000).r = r ∧ (runT l row gb1 c w r 5000).r = r) : decT l row ga1 c w r = decT l row gb1 c w r := by
  unfold decT
  split
  · rfl
  · unfold fixV
    rw [h.1, h.2.1, h.2.2.1, h.2.2.2]
theorem law10 (l : List Ins) (hl : l.length ≤ 9223372036854775807) (row : Int) (hrow : bI row) (ga1 : List Gl) (hgl : ga1.length ≤ 9223372036854775807) (hg : bG ga1) (gb1 : List Gl) (hgl2 : gb1.length ≤ 9223372036854775807) (hg2 : bG gb1) (c w r : Int) (hv : bI c ∧ bI w ∧ bI r) :
    ∃ L, callT E 10 [.i (.sl 2 (rowsI l) false), .i (.v (.int .i64 row)), .i (.sl 3 (rowsG ga1) false), .i (.sl 3 (rowsG gb1) false), .agg [.i (.v (.int .i64 c)), .i (.v (.int .i64 w)), .i (.v (.int .i64 r))]] [] = some (.i (.v (.bool true)), L) := by
  have hgr := fun H => ik11 l ga1 (by omega) (by omega) H
  have hgr2 := fun H => ik11 l gb1 (by omega) (by omega) H
  cases hb : greatB l.length ga1 with
  | true =>
    rw [hb, if_pos rfl] at hgr
    generalize (if greatB l.length gb1 = true then (1 : Int) else 0) = gb at *
    rw [callT_eq Tryd.func10 rfl fok10 (by simp [Tryd.ntmps10])]
    simp (disch := first | omega | (simp only [vlen]; omega)) only [vall, List.take_of_length_le, gB, gcW, gcR, posIn, renA, renL, Chunk.ren, Chunk.refs, evOpD, touchD, stepC, isFresh, nFresh, freshOf, mkR, hole, evL, evH, opd, get, putD, ofVal, cellOf, loadE, behind, lenE, idxAddrE, idxE, lookE, lookM, addPtr, intE, strE, unE, convE, AV.int, AV.bool, AV.str, ivs, take, frameOf, firstRegion, refsA, refsL, one, cellsA, floatOk, apartT, List.map, if_true, if_false, E_P, E_glob0, E_glob1, reduceCtorEq, beq_self_eq_true, ↓reduceIte, Nat.reduceEqDiff, cond_true, cond_false, Nat.reduceAdd, Nat.reduceSub, Nat.reduceMul, Nat.reduceLT, Nat.reduceLeDiff, Int.reduceToNat, Int.reduceLT, Int.reduceLE, Option.getD, Int.reduceMul, Int.reduceAdd, List.drop, List.take, Nat.reduceBEq, List.isEmpty, Int.reduceEq, Int.reduceNe, Int.reduceNeg, Int.reduceGT, Int.reduceGE, beq_true, beq_false, UInt8.reduceToNat, eqE, eq_self, foldE, maxE, minE, fillA, over, chop, List.replicate, leavesOk, leafOk, cellsEq, cellEq, E_byref, en10, bs22, bs23, hgr, hgr2, ik12]
    exact ⟨_, rfl⟩
  | false =>
    rw [hb, if_neg (by decide)] at hgr
    cases hb2 : greatB l.length gb1 with
    | true =>
      rw [hb2, if_pos rfl] at hgr2
      rw [callT_eq Tryd.func10 rfl fok10 (by simp [Tryd.ntmps10])]
      simp (disch := first | omega | (simp only [vlen]; omega)) only [vall, List.take_of_length_le, gB, gcW, gcR, posIn, renA, renL, Chunk.ren, Chunk.refs, evOpD, touchD, stepC, isFresh, nFresh, freshOf, mkR, hole, evL, evH, opd, get, putD, ofVal, cellOf, loadE, behind, lenE, idxAddrE, idxE, lookE, lookM, addPtr, intE, strE, unE, convE, AV.int, AV.bool, AV.str, ivs, take, frameOf, firstRegion, refsA, refsL, one, cellsA, floatOk, apartT, List.map, if_true, if_false, E_P, E_glob0, E_glob1, reduceCtorEq, beq_self_eq_true, ↓reduceIte, Nat.reduceEqDiff, cond_true, cond_false, Nat.reduceAdd, Nat.reduceSub, Nat.reduceMul, Nat.reduceLT, Nat.reduceLeDiff, Int.reduceToNat, Int.reduceLT, Int.reduceLE, Option.getD, Int.reduceMul, Int.reduceAdd, List.drop, List.take, Nat.reduceBEq, List.isEmpty, Int.reduceEq, Int.reduceNe, Int.reduceNeg, Int.reduceGT, Int.reduceGE, beq_true, beq_false, UInt8.reduceToNat, eqE, eq_self, foldE, maxE, minE, fillA, over, chop, List.replicate, leavesOk, leafOk, cellsEq, cellEq, E_byref, en10, bs22, bs23, hgr, hgr2, ik12]
      exact ⟨_, rfl⟩
    | false =>
      rw [hb2, if_neg (by decide)] at hgr2
      obtain ⟨h5, hok⟩ := okG_of hb hg
      obtain ⟨_, hok2⟩ := okG_of hb2 hg2
      have hh := fun H => ik21 l (by omega) H
      cases hd : (hiddenS l).1 with
      | true =>
        rw [hd] at hh
        generalize (hiddenS l).2 = e at *
        rw [callT_eq Tryd.func10 rfl fok10 (by simp [Tryd.ntmps10])]
        simp (disch := first | omega | (simp only [vlen]; omega)) only [vall, List.take_of_length_le, gB, gcW, gcR, posIn, renA, renL, Chunk.ren, Chunk.refs, evOpD, touchD, stepC, isFresh, nFresh, freshOf, mkR, hole, evL, evH, opd, get, putD, ofVal, cellOf, loadE, behind, lenE, idxAddrE, idxE, lookE, lookM, addPtr, intE, strE, unE, convE, AV.int, AV.bool, AV.str, ivs, take, frameOf, firstRegion, refsA, refsL, one, cellsA, floatOk, apartT, List.map, if_true, if_false, E_P, E_glob0, E_glob1, reduceCtorEq, beq_self_eq_true, ↓reduceIte, Nat.reduceEqDiff, cond_true, cond_false, Nat.reduceAdd, Nat.reduceSub, Nat.reduceMul, Nat.reduceLT, Nat.reduceLeDiff, Int.reduceToNat, Int.reduceLT, Int.reduceLE, Option.getD, Int.reduceMul, Int.reduceAdd, List.drop, List.take, Nat.reduceBEq, List.isEmpty, Int.reduceEq, Int.reduceNe, Int.reduceNeg, Int.reduceGT, Int.reduceGE, beq_true, beq_false, UInt8.reduceToNat, eqE, eq_self, foldE, maxE, minE, fillA, over, chop, List.replicate, leavesOk, leafOk, cellsEq, cellEq, E_byref, en10, bs22, bs23, hgr, hgr2, hh, ik12]
        exact ⟨_, rfl⟩
      | false =>
        rw [hd] at hh
        by_cases he : (hiddenS l).2 = 0
        · have hi := independent hd he row ga1 gb1 c w r
          have hdc := ind_dec hi
          rw [he] at hh
          have r1 := fun H => ik13 l (by omega) row hrow ga1 hok c w r 5000 hv (by unfold bI; omega) H
          have r2 := fun H => ik13 l (by omega) row hrow gb1 hok2 c w r 5000 hv (by unfold bI; omega) H
          have d1 := fun H => ik15 l (by omega) row hrow ga1 hok c w r hv H
          have d2 := fun H => ik15 l (by omega) row hrow gb1 hok2 c w r hv H
          rw [run_eqS] at r1 r2
          rw [dec_eqS] at d1 d2
          rw [hdc] at d1
          obtain ⟨i1, i2, i3, i4⟩ := hi
          clear hdc
          generalize runT l row ga1 c w r 5000 = oa at *
          generalize runT l row gb1 c w r 5000 = ob at *
          generalize decT l row gb1 c w r = d at *
          obtain ⟨a1, a2, a3, a4, a5⟩ := oa
          obtain ⟨b1, b2, b3, b4, b5⟩ := ob
          obtain ⟨v1, v2, v3⟩ := d
          simp only at i1 i2 i3 i4
          subst i1 i2 i3 i4
          unfold ocA at r1 r2
          unfold vdA at d1 d2
          simp only at r1 r2 d1 d2
          rw [callT_eq Tryd.func10 rfl fok10 (by simp [Tryd.ntmps10])]
          simp (disch := first | omega | (simp only [vlen]; omega)) only [vall, List.take_of_length_le, gB, gcW, gcR, posIn, renA, renL, Chunk.ren, Chunk.refs, evOpD, touchD, stepC, isFresh, nFresh, freshOf, mkR, hole, evL, evH, opd, get, putD, ofVal, cellOf, loadE, behind, lenE, idxAddrE, idxE, lookE, lookM, addPtr, intE, strE, unE, convE, AV.int, AV.bool, AV.str, ivs, take, frameOf, firstRegion, refsA, refsL, one, cellsA, floatOk, apartT, List.map, if_true, if_false, E_P, E_glob0, E_glob1, reduceCtorEq, beq_self_eq_true, ↓reduceIte, Nat.reduceEqDiff, cond_true, cond_false, Nat.reduceAdd, Nat.reduceSub, Nat.reduceMul, Nat.reduceLT, Nat.reduceLeDiff, Int.reduceToNat, Int.reduceLT, Int.reduceLE, Option.getD, Int.reduceMul, Int.reduceAdd, List.drop, List.take, Nat.reduceBEq, List.isEmpty, Int.reduceEq, Int.reduceNe, Int.reduceNeg, Int.reduceGT, Int.reduceGE, beq_true, beq_false, UInt8.reduceToNat, eqE, eq_self, foldE, maxE, minE, fillA, over, chop, List.replicate, leavesOk, leafOk, cellsEq, cellEq, E_byref, en10, bs22, bs23, hgr, hgr2, hh, r1, r2, d1, d2, fld_v, eq_vd, decide_true, Bool.and_true, ik12]
          exact ⟨_, rfl⟩
        · generalize (hiddenS l).2 = e at *
          rw [callT_eq Tryd.func10 rfl fok10 (by simp [Tryd.ntmps10])]
          simp (disch := first | omega | (simp only [vlen]; omega)) only [vall, List.take_of_length_le, gB, gcW, gcR, posIn, renA, renL, Chunk.ren, Chunk.refs, evOpD, touchD, stepC, isFresh, nFresh, freshOf, mkR, hole, evL, evH, opd, get, putD, ofVal, cellOf, loadE, behind, lenE, idxAddrE, idxE, lookE, lookM, addPtr, intE, strE, unE, convE, AV.int, AV.bool, AV.str, ivs, take, frameOf, firstRegion, refsA, refsL, one, cellsA, floatOk, apartT, List.map, if_true, if_false, E_P, E_glob0, E_glob1, reduceCtorEq, beq_self_eq_true, ↓reduceIte, Nat.reduceEqDiff, cond_true, cond_false, Nat.reduceAdd, Nat.reduceSub, Nat.reduceMul, Nat.reduceLT, Nat.reduceLeDiff, Int.reduceToNat, Int.reduceLT, Int.reduceLE, Option.getD, Int.reduceMul, Int.reduceAdd, List.drop, List.take, Nat.reduceBEq, List.isEmpty, Int.reduceEq, Int.reduceNe, Int.reduceNeg, Int.reduceGT, Int.reduceGE, beq_true, beq_false, UInt8.reduceToNat, eqE, eq_self, foldE, maxE, minE, fillA, over, chop, List.replicate, leavesOk, leafOk, cellsEq, cellEq, E_byref, en10, bs22, bs23, hgr, hgr2, hh, he, ik12]
          exact ⟨_, rfl⟩
theorem c10 (l : List Ins) (hl : l.length ≤ 9223372036854775807) (row : Int) (hrow : bI row) (ga1 : List Gl) (hgl : ga1.length ≤ 9223372036854775807) (hg : bG ga1) (gb1 : List Gl) (hgl2 : gb1.length ≤ 9223372036854775807) (hg2 : bG gb1) (c w r : Int) (hv : bI c ∧ bI w ∧ bI r) :
    ∃ L, callT E 10 [.i (.sl 2 (l.map fun a => insC a) false), .i (.v (.int .i64 row)), .i (.sl 3 (ga1.map fun a => [.str a.1, .v (.bool a.2.1), .v (.int .i64 a.2.2)]) false), .i (.sl 3 (gb1.map fun a => [.str a.1, .v (.bool a.2.1), .v (.int .i64 a.2.2)]) false), .agg [.i (.v (.int .i64 c)), .i (.v (.int .i64 w)), .i (.v (.int .i64 r))]] [] = some (.i (.v (.bool true)), L) := law10 l hl row hrow ga1 hgl hg gb1 hgl2 hg2 c w r hv
end Go.VI

set_option linter.unusedSimpArgs false
set_option linter.unusedVariables false
namespace Go.VI
open Go.Proofs
theorem laid_tail {P : Program} {W : World} {x : String × DataW Unit} {l : List (String × DataW Unit)} (h : laidMet P (x :: l) W) : laidMet P l W := by
  obtain ⟨ps, ⟨g, t, cs, fuel, p, q, _, _, _, _, hr, rfl⟩, hnd, hrows⟩ := h
  exact ⟨q, hr, hnd.sublist (List.sublist_append_right _ _), fun b off hp => hrows b off (List.mem_append.2 (.inr hp))⟩
theorem glob_of_tabI {P : Program} {W : World} {name : String} {g : Nat} {tab : List Int} (hg : P.globalNamed name = some g) (h : Lib.TabIs P W name .i64 tab) : RelI (imm0 W) (.pt (tabT tab) 0) (.pointer (some ⟨g, 0, none⟩)) := by
  unfold Lib.TabIs World.var? at h
  rw [hg] at h
  simp only [Option.bind_some] at h
  split at h
  · rename_i cs e fz hh
    simp only [Option.some.injEq] at h
    refine .pt (tabT tab) 0 g 0 cs e fz (fun k => .int .i64 (tab.getD k 0)) hh (fun k a hk => ?_) (fun k a hk => ?_)
    · have hl : k < tab.length := by
        have := (List.getElem?_eq_some_iff.1 hk).1
        simpa [tabT] using this
      subst h
      simp [List.getD, hl]
    · have hl : k < tab.length := by
        have := (List.getElem?_eq_some_iff.1 hk).1
        simpa [tabT] using this
      simp only [tabT, List.getElem?_map, List.getElem?_eq_getElem hl, Option.map_some, Option.some.injEq] at hk
      subst hk
      simp [List.getD, hl]
      exact .v _ rfl
  · cases h
theorem globs2 {W : World} (h0 : Lib.TabIs Tryd.prog W "narrator/scriptverify.pops" .i64 popsL) (h1 : Lib.TabIs Tryd.prog W "narrator/scriptverify.pushes" .i64 pushesL) : ∀ g cells, E.glob g = some cells → RelI (imm0 W) (.pt cells 0) (.pointer (some ⟨g, 0, none⟩)) := by
  intro g cells hg
  rcases E_globI g cells hg with ⟨rfl, rfl⟩ | ⟨rfl, rfl⟩ | h'
  · exact glob_of_tabI (by kernel_rfl) h0
  · exact glob_of_tabI (by kernel_rfl) h1
  · exact h'.elim
end Go.VI

