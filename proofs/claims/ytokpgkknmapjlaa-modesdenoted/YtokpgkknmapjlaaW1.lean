import Derived.Test.YtokpgkknmapjlaaEnv
namespace Go.VI
open Go.Proofs
set_option maxRecDepth 100000
set_option linter.unusedSimpArgs false
set_option linter.unusedVariables false
set_option maxHeartbeats 4000000
structure Md where
  (ins nl app org wrp vis alt con : Bool) (s0 s1 sh : Int)
  deriving DecidableEq
def cells (m : Md) : List AV := [.i (.v (.bool m.ins)), .i (.v (.bool m.nl)), .i (.v (.bool m.app)), .i (.v (.bool m.org)), .i (.v (.bool m.wrp)), .i (.v (.bool m.vis)), .i (.v (.bool m.alt)), .i (.v (.bool m.con)), .i (.v (.int .u8 m.s0)), .i (.v (.int .u8 m.s1)), .i (.v (.int .i64 m.sh))]
def setField (m : Md) (on : Bool) : Nat → Md
  | 0 => { m with ins := on } | 1 => { m with nl := on } | 2 => { m with app := on } | 3 => { m with org := on }
  | 4 => { m with wrp := on } | 5 => { m with vis := on } | 6 => { m with alt := on } | 7 => { m with con := on } | _ => m
def fieldOf (p n : Int) : Option Nat :=
  if p = 0 then (if n = 4 then some 0 else if n = 20 then some 1 else none)
  else if p = 63 then (if n = 1 then some 2 else if n = 6 then some 3 else if n = 7 then some 4 else if n = 25 then some 5 else if n = 47 ∨ n = 1047 ∨ n = 1049 then some 6 else if n = 2048 then some 7 else none)
  else none
def set1 (p : Int) (on : Bool) (m : Md) (n : Int) : Md := match fieldOf p n with
  | some k => setField m on k
  | none => m
def setMany (p : Int) (on : Bool) (m : Md) (l : List Int) : Md := l.foldl (set1 p on) m
def rows64 (l : List Int) : List (List IV) := l.map fun n => [.v (.int .i64 n)]
theorem rows64_len (l : List Int) : (rows64 l).length = l.length := by simp [rows64]
theorem rows64_at {l : List Int} {k : Nat} (h : k < l.length) : (rows64 l)[k]? = some [.v (.int .i64 l[k])] := by simp [rows64, h]
theorem rows64_append (a b : List Int) : rows64 a ++ rows64 b = rows64 (a ++ b) := by simp [rows64]
theorem setMany_take {p : Int} {on : Bool} {m : Md} {l : List Int} {k : Nat} (h : k < l.length) : setMany p on m (l.take (k + 1)) = set1 p on (setMany p on m (l.take k)) l[k] := by
  rw [List.take_succ_eq_append_getElem h]; simp only [setMany, List.foldl_append, List.foldl_cons, List.foldl_nil]
theorem cells_len (m : Md) : (cells m).length = 11 := rfl
theorem cells_one (m : Md) : (cells m).all one = true := rfl
theorem cells_take (m : Md) : (cells m).take 11 = cells m := rfl
theorem over_all (l new : List AV) (h : new.length = l.length) : over l 0 new = new := by
  unfold over
  simp [h]
theorem over_cells (m on) (k : Nat) (h : k < 8) : (cells m).take k ++ [.i (.v (.bool on))] ++ (cells m).drop (k + 1) = cells (setField m on k) := by
  match k, h with
  | 0, _ => rfl | 1, _ => rfl | 2, _ => rfl | 3, _ => rfl | 4, _ => rfl | 5, _ => rfl | 6, _ => rfl | 7, _ => rfl
theorem fieldOf_lt {p n : Int} {k : Nat} (h : fieldOf p n = some k) : k < 8 := by
  unfold fieldOf at h
  repeat' split at h
  all_goals first | cases h | skip
  all_goals omega
theorem cases_pn (p n : Int) : (p = 0 ∧ n = 4) ∨ (p = 0 ∧ n = 20) ∨ (p = 0 ∧ n ≠ 4 ∧ n ≠ 20) ∨ (p ≠ 0 ∧ p ≠ 63) ∨ (p = 63 ∧ n = 1) ∨ (p = 63 ∧ n = 6) ∨ (p = 63 ∧ n = 7) ∨ (p = 63 ∧ n = 25) ∨ (p = 63 ∧ n = 47) ∨ (p = 63 ∧ n = 1047) ∨ (p = 63 ∧ n = 1049) ∨ (p = 63 ∧ n = 2048) ∨
    (p = 63 ∧ n ≠ 1 ∧ n ≠ 6 ∧ n ≠ 7 ∧ n ≠ 25 ∧ n ≠ 47 ∧ n ≠ 1047 ∧ n ≠ 1049 ∧ n ≠ 2048) := by omega
def pf (c : Nat) : Option Nat → AV
  | some k => .ptr c 0 0 k
  | none => .i (.v (.pointer none))
theorem c26 (p n : Int) (m : Md) : callT E 26 [.i (.v (.int .i64 n)), .ptr 0 0 0 0, .ptr 1 0 0 0] [.box [.i (.v (.int .u8 p))], .box (cells m)] = some (pf 1 (fieldOf p n), [.box [.i (.v (.int .u8 p))], .box (cells m)]) := by
  rw [callT_eq Try.func26 rfl fok26 (by simp [Try.ntmps26])]
  rcases cases_pn p n with ⟨rfl, rfl⟩ | ⟨rfl, rfl⟩ | ⟨rfl, h1, h2⟩ | ⟨h1, h2⟩ | ⟨rfl, rfl⟩ | ⟨rfl, rfl⟩ | ⟨rfl, rfl⟩ | ⟨rfl, rfl⟩ | ⟨rfl, rfl⟩ | ⟨rfl, rfl⟩ | ⟨rfl, rfl⟩ | ⟨rfl, rfl⟩ | ⟨rfl, h1, h2, h3, h4, h5, h6, h7, h8⟩
  all_goals simp (disch := omega) only [va0, va1, va2, va3, va4, va5, va6, va7, vb0, vb1, vb2, vb3, w_i8, w_u8, w_i16, w_u16, w_i32, w_u32, w_i64, w_u64, lt_T, lt_F, le_T, le_F, nlt_T, nlt_F, nle_T, nle_F, List.take_of_length_le, gB, evOpD, touchD, stepC, isFresh, nFresh, freshOf, mkR, hole, evL, evH, opd, get, putD, ofVal, cellOf, loadE, behind, lenE, idxAddrE, idxE, addPtr, intE, strE, unE, convE, AV.int, AV.bool, AV.str, ivs, take, frameOf, firstRegion, refsA, refsL, one, cellsA, floatOk, apartT, List.map, if_true, if_false, E_P, E_glob, reduceCtorEq, beq_self_eq_true, decide_true, decide_false, ↓reduceIte, Nat.reduceEqDiff, cond_true, cond_false, or_true, true_or, or_false, false_or, and_true, true_and, and_self, false_and, and_false, not_true, not_false_iff, Nat.reduceAdd, Nat.reduceSub, Nat.reduceMul, Nat.reduceLT, Nat.reduceLeDiff, Int.reduceToNat, Int.reduceLT, Int.reduceLE, Option.getD, Int.reduceMul, Int.reduceAdd, List.drop, List.take, Nat.reduceBEq, List.isEmpty, Int.reduceEq, Int.reduceNe, Int.reduceNeg, Int.reduceGT, Int.reduceGE, beq_true, beq_false, UInt8.reduceToNat, eqE, eq_self, foldE, maxE, minE, prep, freeze, freezeAll, eq_T, eq_F, ndec, odec, adec, sdec, fillA, over, chop, List.replicate, leavesOk, leafOk, cellsEq, cellEq, E_byref, en26, res26, eq_F]
  all_goals first | rfl | simp [fieldOf, pf, *]
end Go.VI
