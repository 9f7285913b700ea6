import Derived.Lib.LaidTab
import Derived.MakeChecks
import Derived.Test.YtbacmnbjkhjopaaDoorZZH5
namespace Go.VI
open Go.Proofs
set_option maxRecDepth 100000
set_option linter.unusedSimpArgs false
set_option linter.unusedVariables false
set_option maxHeartbeats 4000000
theorem clr_at : ∀ (r k : Nat) (s : List Bool) (i : Nat), (clr r k s).getD i false = if k ≤ i ∧ i < k + r then false else s.getD i false
  | 0, k, s, i => by rw [clr, if_neg (by omega)]
  | r + 1, k, s, i => by
    rw [clr, clr_at r (k + 1), getD_set_bool]
    by_cases h1 : k ≤ i ∧ i < k + (r + 1)
    · rw [if_pos h1]
      by_cases h2 : k = i
      · subst h2
        rw [if_neg (by omega)]
        by_cases h3 : k < s.length
        · rw [if_pos ⟨rfl, h3⟩]
        · rw [if_neg (by omega), List.getD_eq_getElem?_getD, List.getElem?_eq_none (by omega)]; rfl
      · rw [if_pos (by omega)]
    · rw [if_neg h1, if_neg (by omega), if_neg (by omega)]
theorem orR_at : ∀ (r j : Nat) (s t : List Bool) (i : Nat), j + r ≤ t.length → (orR r j s t).getD i false = if j ≤ i ∧ i < j + r then t.getD i false || s.getD i false else t.getD i false
  | 0, j, s, t, i, h => by rw [orR, if_neg (by omega)]
  | r + 1, j, s, t, i, h => by
    rw [orR, orR_at r (j + 1) s _ i (by rw [List.length_set]; omega), getD_set_bool]
    by_cases h2 : j = i
    · subst h2
      rw [if_neg (by omega), if_pos (by omega), if_pos (by omega)]
    · by_cases h1 : j + 1 ≤ i ∧ i < j + 1 + r
      · rw [if_pos h1, if_neg (fun e => h2 e.1), if_pos (by omega)]
      · rw [if_neg h1, if_neg (fun e => h2 e.1), if_neg (by omega)]
theorem getD_none {s : List Bool} {i : Nat} (h : s.length ≤ i) : s.getD i false = false := by
  rw [List.getD_eq_getElem?_getD, List.getElem?_eq_none h]; rfl
theorem zo_at (a b : List Bool) (h : a.length = b.length) (i : Nat) : (zo a b).getD i false = (a.getD i false || b.getD i false) := by
  by_cases hi : i < a.length
  · rw [List.getD_eq_getElem?_getD, List.getD_eq_getElem?_getD, List.getD_eq_getElem?_getD, zo, List.getElem?_eq_getElem (by simp; omega), List.getElem?_eq_getElem hi, List.getElem?_eq_getElem (by omega)]
    simp
  · rw [getD_none (by simp [zo]; omega), getD_none (by omega), getD_none (by omega)]; rfl
theorem take_at (s : List Bool) (n i : Nat) : (s.take n).getD i false = if i < n then s.getD i false else false := by
  rw [List.getD_eq_getElem?_getD, List.getElem?_take, List.getD_eq_getElem?_getD]; split <;> rfl
theorem app_at (a b : List Bool) (i : Nat) : (a ++ b).getD i false = if i < a.length then a.getD i false else b.getD (i - a.length) false := by
  rw [List.getD_eq_getElem?_getD, List.getElem?_append]; split <;> rw [List.getD_eq_getElem?_getD]
theorem one_at (x : Bool) (i : Nat) : [x].getD i false = if i = 0 then x else false := by
  cases i with
  | zero => rfl
  | succ i => rfl
theorem two_at (x y : Bool) (i : Nat) : [x, y].getD i false = if i = 0 then x else if i = 1 then y else false := by
  cases i with
  | zero => rfl
  | succ i => cases i with
    | zero => rfl
    | succ i => rfl
def SameB (st s : List Bool) : Prop := ∀ i, st.getD i false = s.getD i false
theorem aft_at (op d : Int) (c : Bool) (s : List Bool) (hs : s.length = 16) (hq : 0 ≤ d - popS op + pushS op) (i : Nat) : (aft op d c s).2.getD i false = if (i : Int) < d - popS op + pushS op then (aft1 op d c s).2.getD i false else false := by
  have h1 := aft1_len op d c s
  show (clr _ _ _).getD i false = _
  rw [clr_at]
  by_cases h2 : (i : Int) < d - popS op + pushS op
  · rw [if_neg (by omega), if_pos h2]
  · rw [if_neg h2]
    by_cases h3 : i < 16
    · rw [if_pos (by omega)]
    · split
      · rfl
      · rw [getD_none (by omega)]
theorem step_aft {op d : Int} {c : Bool} {st s : List Bool} (h0 : 0 ≤ op) (h1 : op ≤ 20) (hp : popS op ≤ d) (hq : d - popS op + pushS op ≤ 16) (hd : d ≤ 16) (hl : (st.length : Int) = d) (hs : s.length = 16) (he : SameB st s) :
    (stepS op c st).1 = (aft op d c s).1 ∧ ((stepS op c st).2.length : Int) = d - popS op + pushS op ∧ SameB (stepS op c st).2 (aft op d c s).2 := by
  have p1 := popS_r op
  have p2 := pushS_r op
  have pp := pop_push op h0 h1
  have hat := aft_at op d c s hs (by omega)
  have ha1 : (aft op d c s).1 = (aft1 op d c s).1 := rfl
  have htl : (st.take ((st.length : Int) - popS op).toNat).length = ((st.length : Int) - popS op).toNat := by rw [List.length_take]; omega
  have e1 : ∀ i : Nat, s.getD i false = st.getD i false := fun i => (he i).symm
  have key : (stepS op c st).1 = (aft1 op d c s).1 ∧ ((stepS op c st).2.length : Int) = d - popS op + pushS op ∧ ∀ i : Nat, (stepS op c st).2.getD i false = if (i : Int) < d - popS op + pushS op then (aft1 op d c s).2.getD i false else false := by
    by_cases g1 : 3 ≤ op ∧ op ≤ 5
    · have hpp := pp.1 g1
      rw [show stepS op c st = _ from if_pos g1, show aft1 op d c s = _ from if_pos g1]
      refine ⟨rfl, by simp only [List.length_append, htl, List.length_cons, List.length_nil]; omega, fun i => ?_⟩
      simp only [app_at, htl, take_at, one_at, getD_set_bool, hs, e1]
      repeat' split
      all_goals first | rfl | omega
    by_cases g2 : 8 ≤ op ∧ op ≤ 12
    · have hpp := pp.2.1 g2
      have hpu : pushS op = 1 := by
        have : op = 8 ∨ op = 9 ∨ op = 10 ∨ op = 11 ∨ op = 12 := by omega
        rcases this with h | h | h | h | h <;> subst h <;> decide
      rw [show stepS op c st = _ from (if_neg g1).trans (if_pos g2), show aft1 op d c s = _ from (if_neg g1).trans (if_pos g2)]
      refine ⟨rfl, by simp only [List.length_append, htl, List.length_cons, List.length_nil]; omega, fun i => ?_⟩
      simp only [app_at, htl, take_at, one_at, getD_set_bool, hs, e1]
      have f1 : (d - 1 - 1).toNat = ((st.length : Int) - 2).toNat := by omega
      have f2 : (d - 1).toNat = ((st.length : Int) - 1).toNat := by omega
      rw [f1, f2, Bool.or_comm]
      repeat' split
      all_goals first | rfl | omega
    by_cases g3 : op = 13
    · subst g3
      have q1 : popS 13 = 1 := by decide
      have q2 : pushS 13 = 1 := by decide
      have ea : aft1 13 d c s = (c, s) := by unfold aft1; rw [if_neg (by omega), if_neg (by omega), if_neg (by omega), if_neg (by omega), if_neg (by omega), if_neg (by omega)]
      have es : stepS 13 c st = (c, st.take ((st.length : Int) - popS 13).toNat ++ [st.getD ((st.length : Int) - 1).toNat false]) := by unfold stepS; rw [if_neg (by omega), if_neg (by omega), if_pos rfl]
      rw [ea, es]
      refine ⟨rfl, by simp only [List.length_append, htl, List.length_cons, List.length_nil]; omega, fun i => ?_⟩
      simp only [app_at, htl, take_at, one_at, hs, e1]
      repeat' split
      all_goals first | rfl | omega | skip
      all_goals (congr 1; omega)
    by_cases g4 : op = 14
    · subst g4
      have q1 : popS 14 = 1 := by decide
      have q2 : pushS 14 = 2 := by decide
      have ea : aft1 14 d c s = (c, s.set d.toNat (s.getD (d - 1).toNat false)) := by unfold aft1; rw [if_neg (by omega), if_neg (by omega), if_pos rfl]
      have es : stepS 14 c st = (c, st.take ((st.length : Int) - popS 14).toNat ++ [st.getD ((st.length : Int) - 1).toNat false, st.getD ((st.length : Int) - 1).toNat false]) := by unfold stepS; rw [if_neg (by omega), if_neg (by omega), if_neg (by omega), if_pos rfl]
      rw [ea, es]
      refine ⟨rfl, by simp only [List.length_append, htl, List.length_cons, List.length_nil]; omega, fun i => ?_⟩
      have f2 : (d - 1).toNat = ((st.length : Int) - 1).toNat := by omega
      simp only [app_at, htl, take_at, two_at, getD_set_bool, hs, e1, f2]
      repeat' split
      all_goals first | rfl | omega | skip
      all_goals (congr 1; omega)
    by_cases g5 : op = 16
    · subst g5
      have q1 : popS 16 = 2 := by decide
      have q2 : pushS 16 = 2 := by decide
      have ea : aft1 16 d c s = (c, (s.set (d - 1 - 1).toNat (s.getD (d - 1).toNat false)).set (d - 1).toNat (s.getD (d - 1 - 1).toNat false)) := by unfold aft1; rw [if_neg (by omega), if_neg (by omega), if_neg (by omega), if_pos rfl]
      have es : stepS 16 c st = (c, st.take ((st.length : Int) - popS 16).toNat ++ [st.getD ((st.length : Int) - 1).toNat false, st.getD ((st.length : Int) - 2).toNat false]) := by unfold stepS; rw [if_neg (by omega), if_neg (by omega), if_neg (by omega), if_neg (by omega), if_pos rfl]
      rw [ea, es]
      refine ⟨rfl, by simp only [List.length_append, htl, List.length_cons, List.length_nil]; omega, fun i => ?_⟩
      have f1 : (d - 1 - 1).toNat = ((st.length : Int) - 2).toNat := by omega
      have f2 : (d - 1).toNat = ((st.length : Int) - 1).toNat := by omega
      simp only [app_at, htl, take_at, two_at, getD_set_bool, List.length_set, hs, e1, f1, f2]
      repeat' split
      all_goals first | rfl | omega
    by_cases g6 : op = 18
    · subst g6
      have q1 : popS 18 = 1 := by decide
      have q2 : pushS 18 = 0 := by decide
      have ea : aft1 18 d c s = (c || s.getD (d - 1).toNat false, s) := by unfold aft1; rw [if_neg (by omega), if_neg (by omega), if_neg (by omega), if_neg (by omega), if_pos rfl]
      have es : stepS 18 c st = (c || st.getD ((st.length : Int) - 1).toNat false, st.take ((st.length : Int) - popS 18).toNat) := by unfold stepS; rw [if_neg (by omega), if_neg (by omega), if_neg (by omega), if_neg (by omega), if_neg (by omega), if_pos rfl]
      have f2 : (d - 1).toNat = ((st.length : Int) - 1).toNat := by omega
      rw [ea, es]
      refine ⟨by rw [f2]; simp only [e1], by simp only [htl]; omega, fun i => ?_⟩
      simp only [take_at, e1]
      repeat' split
      all_goals first | rfl | omega
    by_cases g7 : op = 1 ∨ op = 2 ∨ op = 6 ∨ op = 7
    · have hpu : popS op = 0 ∧ pushS op = 1 := by rcases g7 with h | h | h | h <;> subst h <;> decide
      have ea : aft1 op d c s = (c, s.set d.toNat false) := by unfold aft1; rw [if_neg g1, if_neg g2, if_neg g4, if_neg g5, if_neg g6, if_pos ⟨g3, hpu.2⟩]
      have es : stepS op c st = (c, st.take ((st.length : Int) - popS op).toNat ++ [false]) := by unfold stepS; rw [if_neg g1, if_neg g2, if_neg g3, if_neg g4, if_neg g5, if_neg g6, if_pos g7]
      rw [ea, es]
      refine ⟨rfl, by simp only [List.length_append, htl, List.length_cons, List.length_nil]; omega, fun i => ?_⟩
      simp only [app_at, htl, take_at, one_at, getD_set_bool, hs, e1]
      repeat' split
      all_goals first | rfl | omega
    · have g8 : op = 0 ∨ op = 15 ∨ op = 17 ∨ op = 19 ∨ op = 20 := by omega
      have hpu : pushS op = 0 := by rcases g8 with h | h | h | h | h <;> subst h <;> decide
      have ea : aft1 op d c s = (c, s) := by unfold aft1; rw [if_neg g1, if_neg g2, if_neg g4, if_neg g5, if_neg g6, if_neg (by rw [hpu]; omega)]
      have es : stepS op c st = (c, st.take ((st.length : Int) - popS op).toNat) := by unfold stepS; rw [if_neg g1, if_neg g2, if_neg g3, if_neg g4, if_neg g5, if_neg g6, if_neg g7]
      rw [ea, es]
      refine ⟨rfl, by simp only [htl]; omega, fun i => ?_⟩
      simp only [take_at, e1]
      repeat' split
      all_goals first | rfl | omega
  exact ⟨key.1, key.2.1, fun i => (key.2.2 i).trans (hat i).symm⟩
end Go.VI

namespace Go.VI
open Go.Proofs
set_option maxRecDepth 100000
set_option linter.unusedSimpArgs false
set_option linter.unusedVariables false
set_option maxHeartbeats 4000000
abbrev RS := Bool × Bool × List Bool
def getR (rs : List RS) (k : Nat) : RS := rs.getD k (false, false, [])
def rJoin (m : Bool × List Bool) (t : RS) : RS := (true, joinS t.1 t.2.1 t.2.2 m.1 m.2)
def rSet (m : Bool × List Bool) : List Int → List RS → List RS
  | [], rs => rs
  | x :: xs, rs => rSet m xs (rs.set x.toNat (rJoin m (getR rs x.toNat)))
theorem getR_set {rs : List RS} {k : Nat} (h : k < rs.length) (m : RS) : getR (rs.set k m) k = m := by
  rw [getR, List.getD_eq_getElem?_getD, List.getElem?_set_self (by simpa using h)]; rfl
theorem getR_set_ne {rs : List RS} {k j : Nat} (h : k ≠ j) (m : RS) : getR (rs.set k m) j = getR rs j := by
  rw [getR, getR, List.getD_eq_getElem?_getD, List.getD_eq_getElem?_getD, List.getElem?_set_ne h]
structure Rel1 (o : Int) (t : RS) (m : Mk) : Prop where
  neg : o < 0 → t.1 = false ∧ m.1 = false ∧ FB m.2
  pos : 0 ≤ o → t.1 = true ∧ t.2.1 = m.1 ∧ (t.2.2.length : Int) = o ∧ SameB t.2.2 m.2
structure Rel (n : Nat) (out : List Int) (rs : List RS) (ms : List Mk) : Prop where
  lo : out.length = n + 1
  lr : rs.length = n + 1
  lm : ms.length = n + 1
  wf : Wf ms
  sz : ∀ j, (getR rs j).2.2.length ≤ 16
  r1 : ∀ j, j < n → Rel1 (out.getD j 0) (getR rs j) (getM ms j)
theorem rel_set {n : Nat} {out : List Int} {rs : List RS} {ms : List Mk} (h : Rel n out rs ms) {d : Int} (hd : 0 ≤ d ∧ d ≤ 16) {a : Bool × List Bool} {b : Mk} (h1 : a.1 = b.1) (h2 : (a.2.length : Int) = d) (h3 : SameB a.2 b.2) (h4 : b.2.length = 16) {x : Nat} (hx : x ≤ n) (hc : ¬ ((x : Int) < n ∧ 0 ≤ out.getD x 0 ∧ out.getD x 0 ≠ d)) :
    Rel n (out.set x d) (rs.set x (rJoin a (getR rs x))) (ms.set x (joinM b (getM ms x))) := by
  have hwx : (getM ms x).2.length = 16 := h.wf.get (by rw [h.lm]; omega)
  refine ⟨by rw [List.length_set]; exact h.lo, by rw [List.length_set]; exact h.lr, by rw [List.length_set]; exact h.lm, h.wf.set _ (by rw [joinM, orR_len]; exact hwx), fun j => ?_, fun j hj => ?_⟩
  · by_cases hjx : x = j
    · subst hjx
      rw [getR_set (by rw [h.lr]; omega)]
      have := h.sz x
      unfold rJoin joinS
      split
      · simp only [zo, List.length_zipWith]; omega
      · simp only; omega
    · rw [getR_set_ne hjx]; exact h.sz j
  · by_cases hjx : x = j
    · subst hjx
      rw [getR_set (by rw [h.lr]; omega), getM_set (by rw [h.lm]; omega), getD_set_int, if_pos ⟨rfl, by rw [h.lo]; omega⟩]
      have hr := h.r1 x hj
      refine ⟨fun hn => by omega, fun _ => ?_⟩
      have hor : ∀ i, (orR 16 0 b.2 (getM ms x).2).getD i false = ((getM ms x).2.getD i false || b.2.getD i false) := fun i => by
        rw [orR_at 16 0 _ _ i (by omega)]
        split
        · rfl
        · rw [getD_none (s := (getM ms x).2) (by omega), getD_none (s := b.2) (by omega)]; rfl
      by_cases ho : out.getD x 0 < 0
      · obtain ⟨n1, n2, n3⟩ := hr.neg ho
        unfold rJoin joinS joinM
        rw [if_neg (by rw [n1]; decide)]
        refine ⟨rfl, by simp only [n2, Bool.false_or]; exact h1, h2, fun i => ?_⟩
        simp only [hor]
        rw [n3 i, Bool.false_or]; exact h3 i
      · obtain ⟨n1, n2, n3, n4⟩ := hr.pos (by omega)
        have he : out.getD x 0 = d := Decidable.by_contra fun hne => hc ⟨by omega, by omega, hne⟩
        unfold rJoin joinS joinM
        rw [if_pos n1]
        have hle : (getR rs x).2.2.length = a.2.length := by omega
        refine ⟨rfl, by simp only [n2, h1], by simp only [zo, List.length_zipWith]; omega, fun i => ?_⟩
        simp only [hor]
        rw [zo_at _ _ hle, n4 i, h3 i]
    · rw [getR_set_ne hjx, getM_set_ne hjx, getD_set_int, if_neg (fun e => hjx e.1)]; exact h.r1 j hj
theorem rel_sets {n : Nat} {d : Int} (hd : 0 ≤ d ∧ d ≤ 16) {a : Bool × List Bool} {b : Mk} (h1 : a.1 = b.1) (h2 : (a.2.length : Int) = d) (h3 : SameB a.2 b.2) (h4 : b.2.length = 16) : ∀ (xs : List Int) (out out1 : List Int) (rs : List RS) (ms : List Mk), Rel n out rs ms → (∀ x ∈ xs, 0 ≤ x ∧ x ≤ n) → dSet n d xs out = some out1 → Rel n out1 (rSet a xs rs) (hSet b xs ms)
  | [], out, out1, rs, ms, h, hx, he => by simp only [dSet, Option.some.injEq] at he; subst he; exact h
  | x :: xs, out, out1, rs, ms, h, hx, he => by
    have hx0 := hx x (.head _)
    rw [dSet] at he
    split at he
    · cases he
    · rename_i hc
      rw [rSet, hSet]
      have hcast : ((x.toNat : Nat) : Int) = x := by omega
      exact rel_sets hd h1 h2 h3 h4 xs _ out1 _ _ (rel_set h hd h1 h2 h3 h4 (x := x.toNat) (by omega) (by rw [hcast]; exact hc)) (fun y hy => hx y (.tail _ hy)) he
theorem rel_start (n : Nat) : Rel n (0 :: List.replicate n (-1)) ((true, false, []) :: List.replicate n (false, false, [])) (List.replicate (n + 1) z0) := by
  have hz : FB (List.replicate 16 false) := fun j => by rw [List.getD_eq_getElem?_getD, List.getElem?_replicate]; split <;> rfl
  have hm : ∀ j, FM (getM (List.replicate (n + 1) z0) j) := FL_rep (n + 1)
  have hr : ∀ j, getR ((true, false, []) :: List.replicate n (false, false, [])) (j + 1) = (false, false, []) := fun j => by
    rw [getR, List.getD_cons_succ, List.getD_eq_getElem?_getD, List.getElem?_replicate]; split <;> rfl
  refine ⟨by simp, by simp, by simp, wf_rep _, fun j => ?_, fun j hj => ?_⟩
  · cases j with
    | zero => exact Nat.zero_le _
    | succ j => rw [hr]; exact Nat.zero_le _
  · cases j with
    | zero =>
      refine ⟨fun h => ?_, fun _ => ⟨rfl, (hm 0).1.symm, rfl, fun i => ?_⟩⟩
      · have : (0 : Int) < 0 := h
        omega
      · rw [(hm 0).2 i]; rfl
    | succ j =>
      rw [hr]
      have ho : (0 :: List.replicate n (-1 : Int)).getD (j + 1) 0 = -1 := by rw [List.getD_cons_succ, List.getD_eq_getElem?_getD, List.getElem?_replicate, if_pos (by omega)]; rfl
      rw [ho]
      exact ⟨fun _ => ⟨rfl, (hm _).1, (hm _).2⟩, fun h => by omega⟩
end Go.VI

namespace Go.VI
open Go.Proofs
set_option maxRecDepth 100000
set_option linter.unusedSimpArgs false
set_option linter.unusedVariables false
set_option maxHeartbeats 4000000
def rowsR (rs : List RS) : List (List IV) := rs.map fun r => [.v (.bool r.1), .v (.bool r.2.1), .sl 1 (rowsT r.2.2) false]
theorem rowsR_len (rs : List RS) : (rowsR rs).length = rs.length := by simp [rowsR]
theorem rowsR_get {rs : List RS} {k : Nat} (h : k < rs.length) : (rowsR rs)[k]? = some [.v (.bool (getR rs k).1), .v (.bool (getR rs k).2.1), .sl 1 (rowsT (getR rs k).2.2) false] := by
  rw [getR, List.getD_eq_getElem?_getD, List.getElem?_eq_getElem h]; simp [rowsR, h]
theorem rowsR_set (rs : List RS) (k : Nat) (t c : Bool) (st : List Bool) : (rowsR rs).set k [.v (.bool t), .v (.bool c), .sl 1 (rowsT st) false] = rowsR (rs.set k (t, c, st)) := by simp [rowsR, List.map_set]
theorem l19_1 (l : List Ins) (hl : l.length ≤ 500) (n : Nat) (hn : n = l.length + 1) (b : Bool) (k : Nat) (c2 : Bool) (st2 : List Bool) (h2 : st2.length ≤ 16) (xs : List Int) (hxl : xs.length ≤ 2) (hx : ∀ x ∈ xs, 0 ≤ x ∧ x ≤ l.length) (j : Nat) (hj : j ≤ xs.length) (rs : List RS) (hr : rs.length = n) (hsz : ∀ j, (getR rs j).2.2.length ≤ 16) :
    ∃ fr, rl E 0 19 (loopAt Tryd.f19 1) [(0, .i (.sl 2 (rowsI l) false)), (6, .ref 0 0 0 n), (7, .i (.v (.bool b))), (8, .i (.v (.int .i64 k))), (11, .ptr 1 0 0 0), (12, .i (.sl 1 (rows64 xs) false)), (13, .i (.v (.int .i64 j)))] [.sl 3 0 (rowsR rs) false, .box [.i (.v (.bool true)), .i (.v (.bool (c2))), .i (.sl 1 (rowsT (st2)) false)]] = some (.exit 2, fr, [.sl 3 0 (rowsR (rSet (c2, st2) (xs.drop j) rs)) false, .box [.i (.v (.bool true)), .i (.v (.bool (c2))), .i (.sl 1 (rowsT (st2)) false)]]) ∧ get 0 fr = .i (.sl 2 (rowsI l) false) ∧ get 6 fr = .ref 0 0 0 n ∧ get 7 fr = .i (.v (.bool b)) ∧ get 8 fr = .i (.v (.int .i64 k)) := by
  rw [rl_step (fn := Tryd.f19) (k := 1) rfl]
  by_cases hlt : j < xs.length
  · have hrx := rows64_at hlt
    have hxx := hx xs[j] (List.getElem_mem _)
    rw [List.drop_eq_getElem_cons hlt, rSet]
    have ih := fun rs hr hsz => l19_1 l hl n hn b k c2 st2 h2 xs hxl hx (j + 1) hlt rs hr hsz
    generalize xs[j] = x at *
    have hxr : x.toNat < rs.length := by omega
    have hrow := rowsR_get hxr
    have hs0 := hsz x.toNat
    have hjl : (rJoin (c2, st2) (getR rs x.toNat)).2.2.length ≤ 16 := by
      unfold rJoin joinS
      split
      · simp only [zo, List.length_zipWith]; omega
      · simp only; omega
    obtain ⟨fr, e, hh⟩ := ih (rs.set x.toNat (rJoin (c2, st2) (getR rs x.toNat))) (by rw [List.length_set]; exact hr) (fun i => by
      by_cases hi : x.toNat = i
      · subst hi; rw [getR_set hxr]; exact hjl
      · rw [getR_set_ne hi]; exact hsz i)
    refine ⟨fr, Eq.trans ?_ e, hh⟩
    clear e hh ih
    generalize getR rs x.toNat = t at *
    obtain ⟨t, c, st⟩ := t
    simp only at hrow hs0
    have hjn := fun H => ik29 t c true c2 st st2 (by omega) (by omega) H
    have hst := rowsR_set rs x.toNat true (joinS t c st c2 st2).1 (joinS t c st c2 st2).2
    rw [show rJoin (c2, st2) (t, c, st) = (true, (joinS t c st c2 st2).1, (joinS t c st c2 st2).2) from rfl]
    unfold rsA at hjn
    generalize (joinS t c st c2 st2).1 = c3 at *
    generalize (joinS t c st c2 st2).2 = st3 at *
    simp (disch := first | omega | (simp only [List.length_append, List.length_map, List.length_set, List.length_cons, List.length_nil, List.length_take, List.length_drop, rows64_len, rowsI_len, rowsR_len]; omega)) only [va0, va1, va2, va3, va4, va5, va6, va7, va8, va9, va10, va11, va12, va13, va14, va15, vb0, vb1, vb2, vb3, w_i8, w_u8, w_i16, w_u16, w_i32, w_u32, w_i64, w_u64, lt_T, lt_F, le_T, le_F, nlt_T, nlt_F, nle_T, nle_F, List.take_of_length_le, gB, gcW, gcR, posIn, renA, renL, Chunk.ren, Chunk.refs, evOpD, touchD, stepC, isFresh, nFresh, freshOf, mkR, hole, evL, evH, opd, get, putD, ofVal, cellOf, loadE, behind, lenE, idxAddrE, idxE, addPtr, intE, strE, unE, convE, AV.int, AV.bool, AV.str, ivs, take, frameOf, firstRegion, refsA, refsL, one, cellsA, floatOk, apartT, List.map, if_true, if_false, E_P, E_glob0, E_glob1, reduceCtorEq, beq_self_eq_true, decide_true, decide_false, ↓reduceIte, Nat.reduceEqDiff, cond_true, cond_false, or_true, true_or, or_false, false_or, and_true, true_and, and_self, false_and, and_false, not_true, not_false_iff, Nat.reduceAdd, Nat.reduceSub, Nat.reduceMul, Nat.reduceLT, Nat.reduceLeDiff, Int.reduceToNat, Int.reduceLT, Int.reduceLE, Option.getD, Int.reduceMul, Int.reduceAdd, List.drop, List.take, Nat.reduceBEq, List.isEmpty, Int.reduceEq, Int.reduceNe, Int.reduceNeg, Int.reduceGT, Int.reduceGE, beq_true, beq_false, UInt8.reduceToNat, eqE, eq_self, foldE, maxE, minE, eq_T, eq_F, ndec, odec, adec, sdec, fillA, over, chop, List.replicate, leavesOk, leafOk, cellsEq, cellEq, E_ext, E_byref, en19, bs22, bs24, bs47, bs60, hrx, hrow, hjn, hst, rows64_len, rowsI_len, rowsR_len, show ∀ B fr H, execT E B 19 (Code.loop _) fr H = rlG E B 19 (loopAt Tryd.f19 1) (gcn B (norm [0, 6, 7, 8, 11, 12, 13] fr) H) from fun B fr H => rl_intro rfl mt19_18 mb19_18 zf19_18 hd19_18 fr H]
  · obtain rfl : j = xs.length := by omega
    rw [List.drop_length, rSet]
    simp (disch := first | omega | (simp only [List.length_append, List.length_map, List.length_set, List.length_cons, List.length_nil, List.length_take, List.length_drop, rows64_len, rowsI_len, rowsR_len]; omega)) only [va0, va1, va2, va3, va4, va5, va6, va7, va8, va9, va10, va11, va12, va13, va14, va15, vb0, vb1, vb2, vb3, w_i8, w_u8, w_i16, w_u16, w_i32, w_u32, w_i64, w_u64, lt_T, lt_F, le_T, le_F, nlt_T, nlt_F, nle_T, nle_F, List.take_of_length_le, gB, gcW, gcR, posIn, renA, renL, Chunk.ren, Chunk.refs, evOpD, touchD, stepC, isFresh, nFresh, freshOf, mkR, hole, evL, evH, opd, get, putD, ofVal, cellOf, loadE, behind, lenE, idxAddrE, idxE, addPtr, intE, strE, unE, convE, AV.int, AV.bool, AV.str, ivs, take, frameOf, firstRegion, refsA, refsL, one, cellsA, floatOk, apartT, List.map, if_true, if_false, E_P, E_glob0, E_glob1, reduceCtorEq, beq_self_eq_true, decide_true, decide_false, ↓reduceIte, Nat.reduceEqDiff, cond_true, cond_false, or_true, true_or, or_false, false_or, and_true, true_and, and_self, false_and, and_false, not_true, not_false_iff, Nat.reduceAdd, Nat.reduceSub, Nat.reduceMul, Nat.reduceLT, Nat.reduceLeDiff, Int.reduceToNat, Int.reduceLT, Int.reduceLE, Option.getD, Int.reduceMul, Int.reduceAdd, List.drop, List.take, Nat.reduceBEq, List.isEmpty, Int.reduceEq, Int.reduceNe, Int.reduceNeg, Int.reduceGT, Int.reduceGE, beq_true, beq_false, UInt8.reduceToNat, eqE, eq_self, foldE, maxE, minE, eq_T, eq_F, ndec, odec, adec, sdec, fillA, over, chop, List.replicate, leavesOk, leafOk, cellsEq, cellEq, E_ext, E_byref, en19, bs22, bs24, bs47, bs60, rows64_len, rowsI_len, rowsR_len, show ∀ B fr H, execT E B 19 (Code.loop _) fr H = rlG E B 19 (loopAt Tryd.f19 1) (gcn B (norm [0, 6, 7, 8, 11, 12, 13] fr) H) from fun B fr H => rl_intro rfl mt19_18 mb19_18 zf19_18 hd19_18 fr H]
    exact ⟨_, rfl, rfl, rfl, rfl, rfl⟩
termination_by xs.length - j
end Go.VI

namespace Go.VI
open Go.Proofs
set_option maxRecDepth 100000
set_option linter.unusedSimpArgs false
set_option linter.unusedVariables false
set_option maxHeartbeats 4000000
theorem l19_0 (l : List Ins) (hl : l.length ≤ 500) (g : Good l) (n : Nat) (hn : n = l.length + 1) (ds fin : List Int) (hds : ∀ j, j < l.length → ds.getD j 0 = fin.getD j 0) (k : Nat) (hk : k ≤ l.length) (out : List Int) (hrun : dRun l.length k (l.drop k) out = some fin) (hob : ∀ x ∈ out, -1 ≤ x ∧ x ≤ 16) (rs : List RS) (ms : List Mk) (hrel : Rel l.length out rs ms) (b : Bool) :
    ∃ fr H', rl E 0 19 (loopAt Tryd.f19 0) [(0, .i (.sl 2 (rowsI l) false)), (6, .ref 0 0 0 n), (7, .i (.v (.bool b))), (8, .i (.v (.int .i64 k)))] [.sl 3 0 (rowsR rs) false] = some (.exit 0, fr, H') ∧ get 7 fr = .i (.v (.bool (b || hRun ds k (l.drop k) ms))) := by
  rw [rl_step (fn := Tryd.f19) (k := 0) rfl]
  have hlr := hrel.lr
  by_cases hlt : k < l.length
  · have hrow := rowsI_at hlt
    obtain ⟨⟨o1, o2⟩, hsuc⟩ := good_suc g hlt
    have hnx := fun H => ik26 l k hlt (by omega) H
    obtain ⟨out1, hst1, hrun1⟩ := dRun_next hlt hrun
    have hob1 := dStep_r hst1 hob
    have hlow := dRun_low g (k + 1) hlt out1 hrun1 k (by omega)
    have hr1 := hrel.r1 k hlt
    have hbk := getD_mem_b (P := fun x => -1 ≤ x ∧ x ≤ 16) ⟨by omega, by omega⟩ hob k
    have hrr := rowsR_get (rs := rs) (k := k) (by omega)
    have hwk : (getM ms k).2.length = 16 := hrel.wf.get (by rw [hrel.lm]; omega)
    rw [List.drop_eq_getElem_cons hlt, hRun, hds k hlt, hlow]
    have ih := fun rs ms hrel b => l19_0 l hl g n hn ds fin hds (k + 1) hlt out1 hrun1 hob1 rs ms hrel b
    rw [good_getD hlt] at o1 o2 hsuc hst1
    obtain ⟨op, arg, hp⟩ : ∃ op arg, l[k] = (op, arg) := ⟨_, _, rfl⟩
    rw [hp] at hrow o1 o2 hsuc hst1 hnx ⊢
    simp only at hrow o1 o2 hsuc hnx ⊢
    by_cases h1 : out.getD k 0 < 0
    · unfold dStep at hst1
      rw [if_pos h1] at hst1
      injection hst1 with hst1
      subst hst1
      rw [if_pos h1]
      obtain ⟨fr, H', e, h7⟩ := ih rs ms hrel b
      refine ⟨fr, H', Eq.trans ?_ e, h7⟩
      have hneg := (hr1.neg h1).1
      rw [hneg] at hrr
      clear e h7 ih hr1
      generalize (getR rs k).2.1 = c at *
      generalize (getR rs k).2.2 = st at *
      simp (disch := first | omega | (simp only [List.length_append, List.length_map, List.length_set, List.length_cons, List.length_nil, List.length_take, List.length_drop, rowsI_len, rowsR_len]; omega)) only [va0, va1, va2, va3, va4, va5, va6, va7, va8, va9, va10, va11, va12, va13, va14, va15, vb0, vb1, vb2, vb3, w_i8, w_u8, w_i16, w_u16, w_i32, w_u32, w_i64, w_u64, lt_T, lt_F, le_T, le_F, nlt_T, nlt_F, nle_T, nle_F, List.take_of_length_le, gB, gcW, gcR, posIn, renA, renL, Chunk.ren, Chunk.refs, evOpD, touchD, stepC, isFresh, nFresh, freshOf, mkR, hole, evL, evH, opd, get, putD, ofVal, cellOf, loadE, behind, lenE, idxAddrE, idxE, addPtr, intE, strE, unE, convE, AV.int, AV.bool, AV.str, ivs, take, frameOf, firstRegion, refsA, refsL, one, cellsA, floatOk, apartT, List.map, if_true, if_false, E_P, E_glob0, E_glob1, reduceCtorEq, beq_self_eq_true, decide_true, decide_false, ↓reduceIte, Nat.reduceEqDiff, cond_true, cond_false, or_true, true_or, or_false, false_or, and_true, true_and, and_self, false_and, and_false, not_true, not_false_iff, Nat.reduceAdd, Nat.reduceSub, Nat.reduceMul, Nat.reduceLT, Nat.reduceLeDiff, Int.reduceToNat, Int.reduceLT, Int.reduceLE, Option.getD, Int.reduceMul, Int.reduceAdd, List.drop, List.take, Nat.reduceBEq, List.isEmpty, Int.reduceEq, Int.reduceNe, Int.reduceNeg, Int.reduceGT, Int.reduceGE, beq_true, beq_false, UInt8.reduceToNat, eqE, eq_self, foldE, maxE, minE, eq_T, eq_F, ndec, odec, adec, sdec, fillA, over, chop, List.replicate, leavesOk, leafOk, cellsEq, cellEq, E_ext, E_byref, en19, bs22, bs24, bs47, bs60, hrow, hrr, rowsI_len, rowsR_len, show ∀ B fr H, execT E B 19 (Code.loop _) fr H = rlG E B 19 (loopAt Tryd.f19 0) (gcn B (norm [0, 6, 7, 8] fr) H) from fun B fr H => rl_intro rfl mt19_8 mb19_8 zf19_8 hd19_8 fr H]
    · have hst1' := hst1
      unfold dStep at hst1
      rw [if_neg h1] at hst1
      split at hst1
      · cases hst1
      rename_i hc
      simp only at hst1 hc
      have hnew := dSet_new _ _ _ hst1 (fun x hx => by have := hsuc x hx; omega) k (fun hx => by have := hsuc _ hx; omega)
      rw [hnew, if_neg h1]
      obtain ⟨q1, q2, q3, q4⟩ := hr1.pos (by omega)
      have hszk := hrel.sz k
      have hwk2 := hwk
      generalize hd : out.getD k 0 = d at *
      generalize ht : getR rs k = t at *
      obtain ⟨t, c, st⟩ := t
      simp only at q1 q2 q3 q4 hrr hszk
      subst q1
      generalize hm : getM ms k = m at *
      obtain ⟨c', s⟩ := m
      simp only at q2 q4 hwk ⊢
      subst q2
      have p1 := popS_r op
      have p2 := pushS_r op
      obtain ⟨s1, s2, s3⟩ := step_aft (c := c) o1 o2 (show popS op ≤ d by omega) (show d - popS op + pushS op ≤ 16 by omega) (by omega) q3 hwk q4
      have hal := aft_len op d c s
      have hrel1 := rel_sets (d := d - popS op + pushS op) (by omega) s1 s2 s3 (by omega) (sucL op arg k) out out1 rs ms hrel (fun x hx => by have := hsuc x hx; omega) hst1
      have hstep := fun H => ik28 op o1 o2 true c st (by omega) (by omega) H
      obtain ⟨fr2, e2, f0, f6, f7, f8⟩ := (fun b => l19_1 l hl n hn b k (stepS op c st).1 (stepS op c st).2 (by omega) (sucL op arg k) (sucL_len _ _ _) (fun x hx => by have := hsuc x hx; omega) 0 (Nat.zero_le _) rs (by omega) hrel.sz) false
      have hin := fun b => l19_1 l hl n hn b k (stepS op c st).1 (stepS op c st).2 (by omega) (sucL op arg k) (sucL_len _ _ _) (fun x hx => by have := hsuc x hx; omega) 0 (Nat.zero_le _) rs (by omega) hrel.sz
      clear fr2 e2 f0 f6 f7 f8
      rw [List.drop_zero] at hin
      have ih := fun b => ih _ _ hrel1 b
      rw [show ((stepS op c st).1, (stepS op c st).2) = stepS op c st from rfl] at hin
      unfold rsA at hstep
      have hxl := sucL_len op arg k
      generalize rSet (stepS op c st) (sucL op arg k) rs = rs2 at *
      generalize hSet (aft op d c s) (sucL op arg k) ms = ms2 at *
      generalize (stepS op c st).1 = c2 at *
      generalize (stepS op c st).2 = st2 at *
      generalize sucL op arg k = xs at *
      clear hst1 hst1' hrel1 hrel s3 s1 hr1
      by_cases h2 : op = 19 ∨ op = 20
      · have hpop : popS op = 1 := (pop_push op o1 o2).2.2.2.2.2.1 h2
        have hgs := rowsT_get (l := st) (k := ((st.length : Int) - 1).toNat) (by omega)
        have hge : st.getD ((st.length : Int) - 1).toNat false = s.getD (d - 1).toNat false := by rw [q4, show ((st.length : Int) - 1).toNat = (d - 1).toNat from by omega]
        rw [hge] at hgs
        generalize s.getD (d - 1).toNat false = sb at *
        by_cases h3 : c = true ∨ sb = true
        · rw [if_pos ⟨h2, h3⟩, Bool.or_true]
          obtain ⟨fr, H', e, h7⟩ := ih true
          rw [Bool.true_or] at h7
          refine ⟨fr, H', Eq.trans ?_ e, h7⟩
          obtain ⟨fr2, e2, f0, f6, f7, f8⟩ := hin true
          have e2' : rl E 0 19 (loopAt Tryd.f19 1) [(0, .i (.sl 2 (rowsI l) false)), (6, .ref 0 0 0 n), (7, .i (.v (.bool true))), (8, .i (.v (.int .i64 k))), (11, .ptr 1 0 0 0), (12, .i (.sl 1 (rows64 xs) false)), (13, .i (.v (.int .i64 0)))] [.sl 3 0 (rowsR rs) false, .box [.i (.v (.bool true)), .i (.v (.bool c2)), .i (.sl 1 (rowsT st2) false)]] = _ := e2
          clear e h7 ih hin e2 ht hm
          cases c
          · have h3 := h3.resolve_left (by decide)
            subst h3
            rcases h2 with h2 | h2
            · simp (disch := first | omega | (simp only [List.length_append, List.length_map, List.length_set, List.length_cons, List.length_nil, List.length_take, List.length_drop, rowsI_len, rowsR_len, rowsT_len, rows64_len]; omega)) only [va0, va1, va2, va3, va4, va5, va6, va7, va8, va9, va10, va11, va12, va13, va14, va15, vb0, vb1, vb2, vb3, w_i8, w_u8, w_i16, w_u16, w_i32, w_u32, w_i64, w_u64, lt_T, lt_F, le_T, le_F, nlt_T, nlt_F, nle_T, nle_F, List.take_of_length_le, gB, gcW, gcR, posIn, renA, renL, Chunk.ren, Chunk.refs, evOpD, touchD, stepC, isFresh, nFresh, freshOf, mkR, hole, evL, evH, opd, get, putD, ofVal, cellOf, loadE, behind, lenE, idxAddrE, idxE, addPtr, intE, strE, unE, convE, AV.int, AV.bool, AV.str, ivs, take, frameOf, firstRegion, refsA, refsL, one, cellsA, floatOk, apartT, List.map, if_true, if_false, E_P, E_glob0, E_glob1, reduceCtorEq, beq_self_eq_true, decide_true, decide_false, ↓reduceIte, Nat.reduceEqDiff, cond_true, cond_false, or_true, true_or, or_false, false_or, and_true, true_and, and_self, false_and, and_false, not_true, not_false_iff, Nat.reduceAdd, Nat.reduceSub, Nat.reduceMul, Nat.reduceLT, Nat.reduceLeDiff, Int.reduceToNat, Int.reduceLT, Int.reduceLE, Option.getD, Int.reduceMul, Int.reduceAdd, List.drop, List.take, Nat.reduceBEq, List.isEmpty, Int.reduceEq, Int.reduceNe, Int.reduceNeg, Int.reduceGT, Int.reduceGE, beq_true, beq_false, UInt8.reduceToNat, eqE, eq_self, foldE, maxE, minE, eq_T, eq_F, ndec, odec, adec, sdec, fillA, over, chop, List.replicate, leavesOk, leafOk, cellsEq, cellEq, E_ext, E_byref, en19, bs22, bs24, bs47, bs60, hrow, hrr, hgs, hstep, hnx, e2', f0, f6, f7, f8, rowsI_len, rowsR_len, rowsT_len, rows64_len, show ∀ B fr H, execT E B 19 (Code.loop _) fr H = rlG E B 19 (loopAt Tryd.f19 0) (gcn B (norm [0, 6, 7, 8] fr) H) from fun B fr H => rl_intro rfl mt19_8 mb19_8 zf19_8 hd19_8 fr H, show ∀ B fr H, execT E B 19 (Code.loop _) fr H = rlG E B 19 (loopAt Tryd.f19 1) (gcn B (norm [0, 6, 7, 8, 11, 12, 13] fr) H) from fun B fr H => rl_intro rfl mt19_18 mb19_18 zf19_18 hd19_18 fr H]
            · simp (disch := first | omega | (simp only [List.length_append, List.length_map, List.length_set, List.length_cons, List.length_nil, List.length_take, List.length_drop, rowsI_len, rowsR_len, rowsT_len, rows64_len]; omega)) only [va0, va1, va2, va3, va4, va5, va6, va7, va8, va9, va10, va11, va12, va13, va14, va15, vb0, vb1, vb2, vb3, w_i8, w_u8, w_i16, w_u16, w_i32, w_u32, w_i64, w_u64, lt_T, lt_F, le_T, le_F, nlt_T, nlt_F, nle_T, nle_F, List.take_of_length_le, gB, gcW, gcR, posIn, renA, renL, Chunk.ren, Chunk.refs, evOpD, touchD, stepC, isFresh, nFresh, freshOf, mkR, hole, evL, evH, opd, get, putD, ofVal, cellOf, loadE, behind, lenE, idxAddrE, idxE, addPtr, intE, strE, unE, convE, AV.int, AV.bool, AV.str, ivs, take, frameOf, firstRegion, refsA, refsL, one, cellsA, floatOk, apartT, List.map, if_true, if_false, E_P, E_glob0, E_glob1, reduceCtorEq, beq_self_eq_true, decide_true, decide_false, ↓reduceIte, Nat.reduceEqDiff, cond_true, cond_false, or_true, true_or, or_false, false_or, and_true, true_and, and_self, false_and, and_false, not_true, not_false_iff, Nat.reduceAdd, Nat.reduceSub, Nat.reduceMul, Nat.reduceLT, Nat.reduceLeDiff, Int.reduceToNat, Int.reduceLT, Int.reduceLE, Option.getD, Int.reduceMul, Int.reduceAdd, List.drop, List.take, Nat.reduceBEq, List.isEmpty, Int.reduceEq, Int.reduceNe, Int.reduceNeg, Int.reduceGT, Int.reduceGE, beq_true, beq_false, UInt8.reduceToNat, eqE, eq_self, foldE, maxE, minE, eq_T, eq_F, ndec, odec, adec, sdec, fillA, over, chop, List.replicate, leavesOk, leafOk, cellsEq, cellEq, E_ext, E_byref, en19, bs22, bs24, bs47, bs60, hrow, hrr, hgs, hstep, hnx, e2', f0, f6, f7, f8, rowsI_len, rowsR_len, rowsT_len, rows64_len, show ∀ B fr H, execT E B 19 (Code.loop _) fr H = rlG E B 19 (loopAt Tryd.f19 0) (gcn B (norm [0, 6, 7, 8] fr) H) from fun B fr H => rl_intro rfl mt19_8 mb19_8 zf19_8 hd19_8 fr H, show ∀ B fr H, execT E B 19 (Code.loop _) fr H = rlG E B 19 (loopAt Tryd.f19 1) (gcn B (norm [0, 6, 7, 8, 11, 12, 13] fr) H) from fun B fr H => rl_intro rfl mt19_18 mb19_18 zf19_18 hd19_18 fr H]
          · rcases h2 with h2 | h2
            · simp (disch := first | omega | (simp only [List.length_append, List.length_map, List.length_set, List.length_cons, List.length_nil, List.length_take, List.length_drop, rowsI_len, rowsR_len, rowsT_len, rows64_len]; omega)) only [va0, va1, va2, va3, va4, va5, va6, va7, va8, va9, va10, va11, va12, va13, va14, va15, vb0, vb1, vb2, vb3, w_i8, w_u8, w_i16, w_u16, w_i32, w_u32, w_i64, w_u64, lt_T, lt_F, le_T, le_F, nlt_T, nlt_F, nle_T, nle_F, List.take_of_length_le, gB, gcW, gcR, posIn, renA, renL, Chunk.ren, Chunk.refs, evOpD, touchD, stepC, isFresh, nFresh, freshOf, mkR, hole, evL, evH, opd, get, putD, ofVal, cellOf, loadE, behind, lenE, idxAddrE, idxE, addPtr, intE, strE, unE, convE, AV.int, AV.bool, AV.str, ivs, take, frameOf, firstRegion, refsA, refsL, one, cellsA, floatOk, apartT, List.map, if_true, if_false, E_P, E_glob0, E_glob1, reduceCtorEq, beq_self_eq_true, decide_true, decide_false, ↓reduceIte, Nat.reduceEqDiff, cond_true, cond_false, or_true, true_or, or_false, false_or, and_true, true_and, and_self, false_and, and_false, not_true, not_false_iff, Nat.reduceAdd, Nat.reduceSub, Nat.reduceMul, Nat.reduceLT, Nat.reduceLeDiff, Int.reduceToNat, Int.reduceLT, Int.reduceLE, Option.getD, Int.reduceMul, Int.reduceAdd, List.drop, List.take, Nat.reduceBEq, List.isEmpty, Int.reduceEq, Int.reduceNe, Int.reduceNeg, Int.reduceGT, Int.reduceGE, beq_true, beq_false, UInt8.reduceToNat, eqE, eq_self, foldE, maxE, minE, eq_T, eq_F, ndec, odec, adec, sdec, fillA, over, chop, List.replicate, leavesOk, leafOk, cellsEq, cellEq, E_ext, E_byref, en19, bs22, bs24, bs47, bs60, hrow, hrr, hgs, hstep, hnx, e2', f0, f6, f7, f8, rowsI_len, rowsR_len, rowsT_len, rows64_len, show ∀ B fr H, execT E B 19 (Code.loop _) fr H = rlG E B 19 (loopAt Tryd.f19 0) (gcn B (norm [0, 6, 7, 8] fr) H) from fun B fr H => rl_intro rfl mt19_8 mb19_8 zf19_8 hd19_8 fr H, show ∀ B fr H, execT E B 19 (Code.loop _) fr H = rlG E B 19 (loopAt Tryd.f19 1) (gcn B (norm [0, 6, 7, 8, 11, 12, 13] fr) H) from fun B fr H => rl_intro rfl mt19_18 mb19_18 zf19_18 hd19_18 fr H]
            · simp (disch := first | omega | (simp only [List.length_append, List.length_map, List.length_set, List.length_cons, List.length_nil, List.length_take, List.length_drop, rowsI_len, rowsR_len, rowsT_len, rows64_len]; omega)) only [va0, va1, va2, va3, va4, va5, va6, va7, va8, va9, va10, va11, va12, va13, va14, va15, vb0, vb1, vb2, vb3, w_i8, w_u8, w_i16, w_u16, w_i32, w_u32, w_i64, w_u64, lt_T, lt_F, le_T, le_F, nlt_T, nlt_F, nle_T, nle_F, List.take_of_length_le, gB, gcW, gcR, posIn, renA, renL, Chunk.ren, Chunk.refs, evOpD, touchD, stepC, isFresh, nFresh, freshOf, mkR, hole, evL, evH, opd, get, putD, ofVal, cellOf, loadE, behind, lenE, idxAddrE, idxE, addPtr, intE, strE, unE, convE, AV.int, AV.bool, AV.str, ivs, take, frameOf, firstRegion, refsA, refsL, one, cellsA, floatOk, apartT, List.map, if_true, if_false, E_P, E_glob0, E_glob1, reduceCtorEq, beq_self_eq_true, decide_true, decide_false, ↓reduceIte, Nat.reduceEqDiff, cond_true, cond_false, or_true, true_or, or_false, false_or, and_true, true_and, and_self, false_and, and_false, not_true, not_false_iff, Nat.reduceAdd, Nat.reduceSub, Nat.reduceMul, Nat.reduceLT, Nat.reduceLeDiff, Int.reduceToNat, Int.reduceLT, Int.reduceLE, Option.getD, Int.reduceMul, Int.reduceAdd, List.drop, List.take, Nat.reduceBEq, List.isEmpty, Int.reduceEq, Int.reduceNe, Int.reduceNeg, Int.reduceGT, Int.reduceGE, beq_true, beq_false, UInt8.reduceToNat, eqE, eq_self, foldE, maxE, minE, eq_T, eq_F, ndec, odec, adec, sdec, fillA, over, chop, List.replicate, leavesOk, leafOk, cellsEq, cellEq, E_ext, E_byref, en19, bs22, bs24, bs47, bs60, hrow, hrr, hgs, hstep, hnx, e2', f0, f6, f7, f8, rowsI_len, rowsR_len, rowsT_len, rows64_len, show ∀ B fr H, execT E B 19 (Code.loop _) fr H = rlG E B 19 (loopAt Tryd.f19 0) (gcn B (norm [0, 6, 7, 8] fr) H) from fun B fr H => rl_intro rfl mt19_8 mb19_8 zf19_8 hd19_8 fr H, show ∀ B fr H, execT E B 19 (Code.loop _) fr H = rlG E B 19 (loopAt Tryd.f19 1) (gcn B (norm [0, 6, 7, 8, 11, 12, 13] fr) H) from fun B fr H => rl_intro rfl mt19_18 mb19_18 zf19_18 hd19_18 fr H]
        · rw [if_neg (fun h => h3 h.2)]
          obtain ⟨fr, H', e, h7⟩ := ih b
          refine ⟨fr, H', Eq.trans ?_ e, h7⟩
          obtain ⟨fr2, e2, f0, f6, f7, f8⟩ := hin b
          have e2' : rl E 0 19 (loopAt Tryd.f19 1) [(0, .i (.sl 2 (rowsI l) false)), (6, .ref 0 0 0 n), (7, .i (.v (.bool b))), (8, .i (.v (.int .i64 k))), (11, .ptr 1 0 0 0), (12, .i (.sl 1 (rows64 xs) false)), (13, .i (.v (.int .i64 0)))] [.sl 3 0 (rowsR rs) false, .box [.i (.v (.bool true)), .i (.v (.bool c2)), .i (.sl 1 (rowsT st2) false)]] = _ := e2
          clear e h7 ih hin e2 ht hm
          cases c
          rotate_left
          · exact absurd (.inl rfl) h3
          cases sb
          rotate_left
          · exact absurd (.inr rfl) h3
          rcases h2 with h2 | h2
          · simp (disch := first | omega | (simp only [List.length_append, List.length_map, List.length_set, List.length_cons, List.length_nil, List.length_take, List.length_drop, rowsI_len, rowsR_len, rowsT_len, rows64_len]; omega)) only [va0, va1, va2, va3, va4, va5, va6, va7, va8, va9, va10, va11, va12, va13, va14, va15, vb0, vb1, vb2, vb3, w_i8, w_u8, w_i16, w_u16, w_i32, w_u32, w_i64, w_u64, lt_T, lt_F, le_T, le_F, nlt_T, nlt_F, nle_T, nle_F, List.take_of_length_le, gB, gcW, gcR, posIn, renA, renL, Chunk.ren, Chunk.refs, evOpD, touchD, stepC, isFresh, nFresh, freshOf, mkR, hole, evL, evH, opd, get, putD, ofVal, cellOf, loadE, behind, lenE, idxAddrE, idxE, addPtr, intE, strE, unE, convE, AV.int, AV.bool, AV.str, ivs, take, frameOf, firstRegion, refsA, refsL, one, cellsA, floatOk, apartT, List.map, if_true, if_false, E_P, E_glob0, E_glob1, reduceCtorEq, beq_self_eq_true, decide_true, decide_false, ↓reduceIte, Nat.reduceEqDiff, cond_true, cond_false, or_true, true_or, or_false, false_or, and_true, true_and, and_self, false_and, and_false, not_true, not_false_iff, Nat.reduceAdd, Nat.reduceSub, Nat.reduceMul, Nat.reduceLT, Nat.reduceLeDiff, Int.reduceToNat, Int.reduceLT, Int.reduceLE, Option.getD, Int.reduceMul, Int.reduceAdd, List.drop, List.take, Nat.reduceBEq, List.isEmpty, Int.reduceEq, Int.reduceNe, Int.reduceNeg, Int.reduceGT, Int.reduceGE, beq_true, beq_false, UInt8.reduceToNat, eqE, eq_self, foldE, maxE, minE, eq_T, eq_F, ndec, odec, adec, sdec, fillA, over, chop, List.replicate, leavesOk, leafOk, cellsEq, cellEq, E_ext, E_byref, en19, bs22, bs24, bs47, bs60, hrow, hrr, hgs, hstep, hnx, e2', f0, f6, f7, f8, rowsI_len, rowsR_len, rowsT_len, rows64_len, show ∀ B fr H, execT E B 19 (Code.loop _) fr H = rlG E B 19 (loopAt Tryd.f19 0) (gcn B (norm [0, 6, 7, 8] fr) H) from fun B fr H => rl_intro rfl mt19_8 mb19_8 zf19_8 hd19_8 fr H, show ∀ B fr H, execT E B 19 (Code.loop _) fr H = rlG E B 19 (loopAt Tryd.f19 1) (gcn B (norm [0, 6, 7, 8, 11, 12, 13] fr) H) from fun B fr H => rl_intro rfl mt19_18 mb19_18 zf19_18 hd19_18 fr H]
          · simp (disch := first | omega | (simp only [List.length_append, List.length_map, List.length_set, List.length_cons, List.length_nil, List.length_take, List.length_drop, rowsI_len, rowsR_len, rowsT_len, rows64_len]; omega)) only [va0, va1, va2, va3, va4, va5, va6, va7, va8, va9, va10, va11, va12, va13, va14, va15, vb0, vb1, vb2, vb3, w_i8, w_u8, w_i16, w_u16, w_i32, w_u32, w_i64, w_u64, lt_T, lt_F, le_T, le_F, nlt_T, nlt_F, nle_T, nle_F, List.take_of_length_le, gB, gcW, gcR, posIn, renA, renL, Chunk.ren, Chunk.refs, evOpD, touchD, stepC, isFresh, nFresh, freshOf, mkR, hole, evL, evH, opd, get, putD, ofVal, cellOf, loadE, behind, lenE, idxAddrE, idxE, addPtr, intE, strE, unE, convE, AV.int, AV.bool, AV.str, ivs, take, frameOf, firstRegion, refsA, refsL, one, cellsA, floatOk, apartT, List.map, if_true, if_false, E_P, E_glob0, E_glob1, reduceCtorEq, beq_self_eq_true, decide_true, decide_false, ↓reduceIte, Nat.reduceEqDiff, cond_true, cond_false, or_true, true_or, or_false, false_or, and_true, true_and, and_self, false_and, and_false, not_true, not_false_iff, Nat.reduceAdd, Nat.reduceSub, Nat.reduceMul, Nat.reduceLT, Nat.reduceLeDiff, Int.reduceToNat, Int.reduceLT, Int.reduceLE, Option.getD, Int.reduceMul, Int.reduceAdd, List.drop, List.take, Nat.reduceBEq, List.isEmpty, Int.reduceEq, Int.reduceNe, Int.reduceNeg, Int.reduceGT, Int.reduceGE, beq_true, beq_false, UInt8.reduceToNat, eqE, eq_self, foldE, maxE, minE, eq_T, eq_F, ndec, odec, adec, sdec, fillA, over, chop, List.replicate, leavesOk, leafOk, cellsEq, cellEq, E_ext, E_byref, en19, bs22, bs24, bs47, bs60, hrow, hrr, hgs, hstep, hnx, e2', f0, f6, f7, f8, rowsI_len, rowsR_len, rowsT_len, rows64_len, show ∀ B fr H, execT E B 19 (Code.loop _) fr H = rlG E B 19 (loopAt Tryd.f19 0) (gcn B (norm [0, 6, 7, 8] fr) H) from fun B fr H => rl_intro rfl mt19_8 mb19_8 zf19_8 hd19_8 fr H, show ∀ B fr H, execT E B 19 (Code.loop _) fr H = rlG E B 19 (loopAt Tryd.f19 1) (gcn B (norm [0, 6, 7, 8, 11, 12, 13] fr) H) from fun B fr H => rl_intro rfl mt19_18 mb19_18 zf19_18 hd19_18 fr H]
      · rw [if_neg (fun h => h2 h.1)]
        obtain ⟨fr, H', e, h7⟩ := ih b
        refine ⟨fr, H', Eq.trans ?_ e, h7⟩
        obtain ⟨fr2, e2, f0, f6, f7, f8⟩ := hin b
        have e2' : rl E 0 19 (loopAt Tryd.f19 1) [(0, .i (.sl 2 (rowsI l) false)), (6, .ref 0 0 0 n), (7, .i (.v (.bool b))), (8, .i (.v (.int .i64 k))), (11, .ptr 1 0 0 0), (12, .i (.sl 1 (rows64 xs) false)), (13, .i (.v (.int .i64 0)))] [.sl 3 0 (rowsR rs) false, .box [.i (.v (.bool true)), .i (.v (.bool c2)), .i (.sl 1 (rowsT st2) false)]] = _ := e2
        clear e h7 ih hin e2 ht hm
        simp (disch := first | omega | (simp only [List.length_append, List.length_map, List.length_set, List.length_cons, List.length_nil, List.length_take, List.length_drop, rowsI_len, rowsR_len, rowsT_len, rows64_len]; omega)) only [va0, va1, va2, va3, va4, va5, va6, va7, va8, va9, va10, va11, va12, va13, va14, va15, vb0, vb1, vb2, vb3, w_i8, w_u8, w_i16, w_u16, w_i32, w_u32, w_i64, w_u64, lt_T, lt_F, le_T, le_F, nlt_T, nlt_F, nle_T, nle_F, List.take_of_length_le, gB, gcW, gcR, posIn, renA, renL, Chunk.ren, Chunk.refs, evOpD, touchD, stepC, isFresh, nFresh, freshOf, mkR, hole, evL, evH, opd, get, putD, ofVal, cellOf, loadE, behind, lenE, idxAddrE, idxE, addPtr, intE, strE, unE, convE, AV.int, AV.bool, AV.str, ivs, take, frameOf, firstRegion, refsA, refsL, one, cellsA, floatOk, apartT, List.map, if_true, if_false, E_P, E_glob0, E_glob1, reduceCtorEq, beq_self_eq_true, decide_true, decide_false, ↓reduceIte, Nat.reduceEqDiff, cond_true, cond_false, or_true, true_or, or_false, false_or, and_true, true_and, and_self, false_and, and_false, not_true, not_false_iff, Nat.reduceAdd, Nat.reduceSub, Nat.reduceMul, Nat.reduceLT, Nat.reduceLeDiff, Int.reduceToNat, Int.reduceLT, Int.reduceLE, Option.getD, Int.reduceMul, Int.reduceAdd, List.drop, List.take, Nat.reduceBEq, List.isEmpty, Int.reduceEq, Int.reduceNe, Int.reduceNeg, Int.reduceGT, Int.reduceGE, beq_true, beq_false, UInt8.reduceToNat, eqE, eq_self, foldE, maxE, minE, eq_T, eq_F, ndec, odec, adec, sdec, fillA, over, chop, List.replicate, leavesOk, leafOk, cellsEq, cellEq, E_ext, E_byref, en19, bs22, bs24, bs47, bs60, hrow, hrr, hstep, hnx, e2', f0, f6, f7, f8, rowsI_len, rowsR_len, rowsT_len, rows64_len, show ∀ B fr H, execT E B 19 (Code.loop _) fr H = rlG E B 19 (loopAt Tryd.f19 0) (gcn B (norm [0, 6, 7, 8] fr) H) from fun B fr H => rl_intro rfl mt19_8 mb19_8 zf19_8 hd19_8 fr H, show ∀ B fr H, execT E B 19 (Code.loop _) fr H = rlG E B 19 (loopAt Tryd.f19 1) (gcn B (norm [0, 6, 7, 8, 11, 12, 13] fr) H) from fun B fr H => rl_intro rfl mt19_18 mb19_18 zf19_18 hd19_18 fr H]
  · obtain rfl : k = l.length := by omega
    rw [List.drop_length, hRun, Bool.or_false]
    simp (disch := first | omega | (simp only [List.length_append, List.length_map, List.length_set, List.length_cons, List.length_nil, List.length_take, List.length_drop, rowsI_len, rowsR_len]; omega)) only [va0, va1, va2, va3, va4, va5, va6, va7, va8, va9, va10, va11, va12, va13, va14, va15, vb0, vb1, vb2, vb3, w_i8, w_u8, w_i16, w_u16, w_i32, w_u32, w_i64, w_u64, lt_T, lt_F, le_T, le_F, nlt_T, nlt_F, nle_T, nle_F, List.take_of_length_le, gB, gcW, gcR, posIn, renA, renL, Chunk.ren, Chunk.refs, evOpD, touchD, stepC, isFresh, nFresh, freshOf, mkR, hole, evL, evH, opd, get, putD, ofVal, cellOf, loadE, behind, lenE, idxAddrE, idxE, addPtr, intE, strE, unE, convE, AV.int, AV.bool, AV.str, ivs, take, frameOf, firstRegion, refsA, refsL, one, cellsA, floatOk, apartT, List.map, if_true, if_false, E_P, E_glob0, E_glob1, reduceCtorEq, beq_self_eq_true, decide_true, decide_false, ↓reduceIte, Nat.reduceEqDiff, cond_true, cond_false, or_true, true_or, or_false, false_or, and_true, true_and, and_self, false_and, and_false, not_true, not_false_iff, Nat.reduceAdd, Nat.reduceSub, Nat.reduceMul, Nat.reduceLT, Nat.reduceLeDiff, Int.reduceToNat, Int.reduceLT, Int.reduceLE, Option.getD, Int.reduceMul, Int.reduceAdd, List.drop, List.take, Nat.reduceBEq, List.isEmpty, Int.reduceEq, Int.reduceNe, Int.reduceNeg, Int.reduceGT, Int.reduceGE, beq_true, beq_false, UInt8.reduceToNat, eqE, eq_self, foldE, maxE, minE, eq_T, eq_F, ndec, odec, adec, sdec, fillA, over, chop, List.replicate, leavesOk, leafOk, cellsEq, cellEq, E_ext, E_byref, en19, bs22, bs24, bs47, bs60, rowsI_len, rowsR_len, show ∀ B fr H, execT E B 19 (Code.loop _) fr H = rlG E B 19 (loopAt Tryd.f19 0) (gcn B (norm [0, 6, 7, 8] fr) H) from fun B fr H => rl_intro rfl mt19_8 mb19_8 zf19_8 hd19_8 fr H]
    exact ⟨_, _, rfl, rfl⟩
termination_by l.length - k
end Go.VI

namespace Go.VI
open Go.Proofs
set_option maxRecDepth 100000
set_option linter.unusedSimpArgs false
set_option linter.unusedVariables false
set_option maxHeartbeats 4000000
theorem rowsR_rep (n : Nat) : List.replicate n [IV.v (.bool false), .v (.bool false), .sl 1 [] false] = rowsR (List.replicate n (false, false, [])) := by simp [rowsR, rowsT]
theorem dRun_b0 (n : Nat) : ∀ x ∈ (0 :: List.replicate n (-1 : Int)), -1 ≤ x ∧ x ≤ 16 := fun x hx => by
  rcases List.mem_cons.1 hx with rfl | hx
  · omega
  · have := List.eq_of_mem_replicate hx; omega
theorem c19 (l : List Ins) (hl : (l.length : Int) < 9223372036854775808) : ∃ L, callT E 19 [.i (.sl 2 (rowsI l) false)] [] = some (.tup [.i (.v (.bool (hiddenS l).1)), .i (.v (.int .i64 (hiddenS l).2))], L) := by
  have hD := fun H => ik13 l hl H
  unfold hiddenS
  by_cases h0 : (depthsS l).2 = 0
  rotate_left
  · rw [if_neg h0]
    generalize depthsS l = q at *
    rw [callT_eq Tryd.func19 rfl fok19 (by simp [Tryd.ntmps19])]
    simp (disch := first | omega | (simp only [List.length_append, List.length_map, List.length_set, List.length_cons, List.length_nil, List.length_take, List.length_drop]; omega)) only [va0, va1, va2, va3, va4, va5, va6, va7, va8, va9, va10, va11, va12, va13, va14, va15, vb0, vb1, vb2, vb3, w_i8, w_u8, w_i16, w_u16, w_i32, w_u32, w_i64, w_u64, lt_T, lt_F, le_T, le_F, nlt_T, nlt_F, nle_T, nle_F, List.take_of_length_le, gB, gcW, gcR, posIn, renA, renL, Chunk.ren, Chunk.refs, evOpD, touchD, stepC, isFresh, nFresh, freshOf, mkR, hole, evL, evH, opd, get, putD, ofVal, cellOf, loadE, behind, lenE, idxAddrE, idxE, addPtr, intE, strE, unE, convE, AV.int, AV.bool, AV.str, ivs, take, frameOf, firstRegion, refsA, refsL, one, cellsA, floatOk, apartT, List.map, if_true, if_false, E_P, E_glob0, E_glob1, reduceCtorEq, beq_self_eq_true, decide_true, decide_false, ↓reduceIte, Nat.reduceEqDiff, cond_true, cond_false, or_true, true_or, or_false, false_or, and_true, true_and, and_self, false_and, and_false, not_true, not_false_iff, Nat.reduceAdd, Nat.reduceSub, Nat.reduceMul, Nat.reduceLT, Nat.reduceLeDiff, Int.reduceToNat, Int.reduceLT, Int.reduceLE, Option.getD, Int.reduceMul, Int.reduceAdd, List.drop, List.take, Nat.reduceBEq, List.isEmpty, Int.reduceEq, Int.reduceNe, Int.reduceNeg, Int.reduceGT, Int.reduceGE, beq_true, beq_false, UInt8.reduceToNat, eqE, eq_self, foldE, maxE, minE, eq_T, eq_F, ndec, odec, adec, sdec, fillA, over, chop, List.replicate, leavesOk, leafOk, cellsEq, cellEq, E_ext, E_byref, en19, bs22, bs24, bs47, bs60, hD, h0]
    exact ⟨_, rfl⟩
  · rw [if_pos h0]
    obtain ⟨fin, hc0, hdr, hf1, hf2⟩ := depths_ok h0
    have h5 := check_len hc0
    rw [h0] at hD
    have hds : ∀ j, j < l.length → (depthsS l).1.getD j 0 = fin.getD j 0 := fun j hj => by rw [hf1]; exact getD_take _ _ _ hj
    generalize (depthsS l).1 = ds at *
    have hnn : ((l.length : Int) + 1).toNat = l.length + 1 := by omega
    obtain ⟨fr, H', e, g7⟩ := l19_0 l h5 (good_of hc0) (l.length + 1) rfl ds fin hds 0 (Nat.zero_le _) (0 :: List.replicate l.length (-1)) (by rw [List.drop_zero]; exact hdr) (dRun_b0 _) _ _ (rel_start l.length) false
    rw [List.drop_zero, Bool.false_or] at g7
    generalize hRun ds 0 l (List.replicate (l.length + 1) z0) = b at *
    have e' : rl E 0 19 (loopAt Tryd.f19 0) [(0, .i (.sl 2 (rowsI l) false)), (6, .ref 0 0 0 (l.length + 1)), (7, .i (.v (.bool false))), (8, .i (.v (.int .i64 0)))] [.sl 3 0 ([.v (.bool true), .v (.bool false), .sl 1 [] false] :: rowsR (List.replicate l.length (false, false, []))) false] = _ := e
    clear e
    rw [callT_eq Tryd.func19 rfl fok19 (by simp [Tryd.ntmps19])]
    simp (disch := first | omega | (simp only [List.length_append, List.length_map, List.length_set, List.length_cons, List.length_nil, List.length_take, List.length_drop, rowsI_len, rowsR_len]; omega)) only [va0, va1, va2, va3, va4, va5, va6, va7, va8, va9, va10, va11, va12, va13, va14, va15, vb0, vb1, vb2, vb3, w_i8, w_u8, w_i16, w_u16, w_i32, w_u32, w_i64, w_u64, lt_T, lt_F, le_T, le_F, nlt_T, nlt_F, nle_T, nle_F, List.take_of_length_le, gB, gcW, gcR, posIn, renA, renL, Chunk.ren, Chunk.refs, evOpD, touchD, stepC, isFresh, nFresh, freshOf, mkR, hole, evL, evH, opd, get, putD, ofVal, cellOf, loadE, behind, lenE, idxAddrE, idxE, addPtr, intE, strE, unE, convE, AV.int, AV.bool, AV.str, ivs, take, frameOf, firstRegion, refsA, refsL, one, cellsA, floatOk, apartT, List.map, if_true, if_false, E_P, E_glob0, E_glob1, reduceCtorEq, beq_self_eq_true, decide_true, decide_false, ↓reduceIte, Nat.reduceEqDiff, cond_true, cond_false, or_true, true_or, or_false, false_or, and_true, true_and, and_self, false_and, and_false, not_true, not_false_iff, Nat.reduceAdd, Nat.reduceSub, Nat.reduceMul, Nat.reduceLT, Nat.reduceLeDiff, Int.reduceToNat, Int.reduceLT, Int.reduceLE, Option.getD, Int.reduceMul, Int.reduceAdd, List.drop, List.take, Nat.reduceBEq, List.isEmpty, Int.reduceEq, Int.reduceNe, Int.reduceNeg, Int.reduceGT, Int.reduceGE, beq_true, beq_false, UInt8.reduceToNat, eqE, eq_self, foldE, maxE, minE, eq_T, eq_F, ndec, odec, adec, sdec, fillA, over, chop, List.replicate, leavesOk, leafOk, cellsEq, cellEq, E_ext, E_byref, en19, bs22, bs24, bs47, bs60, hD, hnn, rowsI_len, rowsR_len, rowsR_rep, e', g7, show ∀ B fr H, execT E B 19 (Code.loop _) fr H = rlG E B 19 (loopAt Tryd.f19 0) (gcn B (norm [0, 6, 7, 8] fr) H) from fun B fr H => rl_intro rfl mt19_8 mb19_8 zf19_8 hd19_8 fr H]
    exact ⟨_, rfl⟩
theorem ik19 (l : List Ins) (hl : (l.length : Int) < 9223372036854775808) (H : Hp) : isoK E (callT E) 19 [.i (.sl 2 (rowsI l) false)] H = some (.tup [.i (.v (.bool (hiddenS l).1)), .i (.v (.int .i64 (hiddenS l).2))], H) := isoK_val rfl rfl rfl (c19 l hl)
theorem law5 (l : List Ins) (hl : l.length ≤ 9223372036854775807) : ∃ L, callT E 5 [.i (.sl 2 (rowsI l) false)] [] = some (.i (.v (.bool true)), L) := by
  by_cases h6 : 600 < (l.length : Int)
  · rw [callT_eq Tryd.func5 rfl fok5 (by simp [Tryd.ntmps5])]
    simp (disch := first | omega | (simp only [List.length_append, List.length_map, List.length_set, List.length_cons, List.length_nil, List.length_take, List.length_drop, rowsI_len]; omega)) only [va0, va1, va2, va3, va4, va5, va6, va7, va8, va9, va10, va11, va12, va13, va14, va15, vb0, vb1, vb2, vb3, w_i8, w_u8, w_i16, w_u16, w_i32, w_u32, w_i64, w_u64, lt_T, lt_F, le_T, le_F, nlt_T, nlt_F, nle_T, nle_F, List.take_of_length_le, gB, gcW, gcR, posIn, renA, renL, Chunk.ren, Chunk.refs, evOpD, touchD, stepC, isFresh, nFresh, freshOf, mkR, hole, evL, evH, opd, get, putD, ofVal, cellOf, loadE, behind, lenE, idxAddrE, idxE, addPtr, intE, strE, unE, convE, AV.int, AV.bool, AV.str, ivs, take, frameOf, firstRegion, refsA, refsL, one, cellsA, floatOk, apartT, List.map, if_true, if_false, E_P, E_glob0, E_glob1, reduceCtorEq, beq_self_eq_true, decide_true, decide_false, ↓reduceIte, Nat.reduceEqDiff, cond_true, cond_false, or_true, true_or, or_false, false_or, and_true, true_and, and_self, false_and, and_false, not_true, not_false_iff, Nat.reduceAdd, Nat.reduceSub, Nat.reduceMul, Nat.reduceLT, Nat.reduceLeDiff, Int.reduceToNat, Int.reduceLT, Int.reduceLE, Option.getD, Int.reduceMul, Int.reduceAdd, List.drop, List.take, Nat.reduceBEq, List.isEmpty, Int.reduceEq, Int.reduceNe, Int.reduceNeg, Int.reduceGT, Int.reduceGE, beq_true, beq_false, UInt8.reduceToNat, eqE, eq_self, foldE, maxE, minE, eq_T, eq_F, ndec, odec, adec, sdec, fillA, over, chop, List.replicate, leavesOk, leafOk, cellsEq, cellEq, E_ext, E_byref, en5, bs22, rowsI_len, h6, ik11]
    exact ⟨_, rfl⟩
  · have h1 := fun H => ik18 l (by omega) H
    have h2 := fun H => ik19 l (by omega) H
    generalize hiddenS l = q at *
    obtain ⟨h, e⟩ := q
    simp only at h1 h2
    cases h
    · rw [callT_eq Tryd.func5 rfl fok5 (by simp [Tryd.ntmps5])]
      simp (disch := first | omega | (simp only [List.length_append, List.length_map, List.length_set, List.length_cons, List.length_nil, List.length_take, List.length_drop, rowsI_len]; omega)) only [va0, va1, va2, va3, va4, va5, va6, va7, va8, va9, va10, va11, va12, va13, va14, va15, vb0, vb1, vb2, vb3, w_i8, w_u8, w_i16, w_u16, w_i32, w_u32, w_i64, w_u64, lt_T, lt_F, le_T, le_F, nlt_T, nlt_F, nle_T, nle_F, List.take_of_length_le, gB, gcW, gcR, posIn, renA, renL, Chunk.ren, Chunk.refs, evOpD, touchD, stepC, isFresh, nFresh, freshOf, mkR, hole, evL, evH, opd, get, putD, ofVal, cellOf, loadE, behind, lenE, idxAddrE, idxE, addPtr, intE, strE, unE, convE, AV.int, AV.bool, AV.str, ivs, take, frameOf, firstRegion, refsA, refsL, one, cellsA, floatOk, apartT, List.map, if_true, if_false, E_P, E_glob0, E_glob1, reduceCtorEq, beq_self_eq_true, decide_true, decide_false, ↓reduceIte, Nat.reduceEqDiff, cond_true, cond_false, or_true, true_or, or_false, false_or, and_true, true_and, and_self, false_and, and_false, not_true, not_false_iff, Nat.reduceAdd, Nat.reduceSub, Nat.reduceMul, Nat.reduceLT, Nat.reduceLeDiff, Int.reduceToNat, Int.reduceLT, Int.reduceLE, Option.getD, Int.reduceMul, Int.reduceAdd, List.drop, List.take, Nat.reduceBEq, List.isEmpty, Int.reduceEq, Int.reduceNe, Int.reduceNeg, Int.reduceGT, Int.reduceGE, beq_true, beq_false, UInt8.reduceToNat, eqE, eq_self, foldE, maxE, minE, eq_T, eq_F, ndec, odec, adec, sdec, fillA, over, chop, List.replicate, leavesOk, leafOk, cellsEq, cellEq, E_ext, E_byref, en5, bs22, rowsI_len, h6, h1, h2, ik11]
      exact ⟨_, rfl⟩
    · rw [callT_eq Tryd.func5 rfl fok5 (by simp [Tryd.ntmps5])]
      simp (disch := first | omega | (simp only [List.length_append, List.length_map, List.length_set, List.length_cons, List.length_nil, List.length_take, List.length_drop, rowsI_len]; omega)) only [va0, va1, va2, va3, va4, va5, va6, va7, va8, va9, va10, va11, va12, va13, va14, va15, vb0, vb1, vb2, vb3, w_i8, w_u8, w_i16, w_u16, w_i32, w_u32, w_i64, w_u64, lt_T, lt_F, le_T, le_F, nlt_T, nlt_F, nle_T, nle_F, List.take_of_length_le, gB, gcW, gcR, posIn, renA, renL, Chunk.ren, Chunk.refs, evOpD, touchD, stepC, isFresh, nFresh, freshOf, mkR, hole, evL, evH, opd, get, putD, ofVal, cellOf, loadE, behind, lenE, idxAddrE, idxE, addPtr, intE, strE, unE, convE, AV.int, AV.bool, AV.str, ivs, take, frameOf, firstRegion, refsA, refsL, one, cellsA, floatOk, apartT, List.map, if_true, if_false, E_P, E_glob0, E_glob1, reduceCtorEq, beq_self_eq_true, decide_true, decide_false, ↓reduceIte, Nat.reduceEqDiff, cond_true, cond_false, or_true, true_or, or_false, false_or, and_true, true_and, and_self, false_and, and_false, not_true, not_false_iff, Nat.reduceAdd, Nat.reduceSub, Nat.reduceMul, Nat.reduceLT, Nat.reduceLeDiff, Int.reduceToNat, Int.reduceLT, Int.reduceLE, Option.getD, Int.reduceMul, Int.reduceAdd, List.drop, List.take, Nat.reduceBEq, List.isEmpty, Int.reduceEq, Int.reduceNe, Int.reduceNeg, Int.reduceGT, Int.reduceGE, beq_true, beq_false, UInt8.reduceToNat, eqE, eq_self, foldE, maxE, minE, eq_T, eq_F, ndec, odec, adec, sdec, fillA, over, chop, List.replicate, leavesOk, leafOk, cellsEq, cellEq, E_ext, E_byref, en5, bs22, rowsI_len, h6, h1, h2, ik11]
      exact ⟨_, rfl⟩
theorem c5 (l : List Ins) (hl : l.length ≤ 9223372036854775807) : ∃ L, callT E 5 [.i (.sl 2 (l.map fun a => insC a) false)] [] = some (.i (.v (.bool true)), L) := law5 l hl
end Go.VI

set_option linter.unusedSimpArgs false
set_option linter.unusedVariables false
namespace Go.VI
open Go.Proofs
theorem laid_tail {P : Program} {W : World} {x : String × DataW Unit} {l : List (String × DataW Unit)} (h : laidMet P (x :: l) W) : laidMet P l W := by
  obtain ⟨ps, ⟨g, t, cs, fuel, p, q, _, _, _, _, hr, rfl⟩, hnd, hrows⟩ := h
  exact ⟨q, hr, hnd.sublist (List.sublist_append_right _ _), fun b off hp => hrows b off (List.mem_append.2 (.inr hp))⟩
theorem glob_of_tabI {P : Program} {W : World} {name : String} {g : Nat} {tab : List Int} (hg : P.globalNamed name = some g) (h : Lib.TabIs P W name .i64 tab) : RelI (imm0 W) (.pt (tabT tab) 0) (.pointer (some ⟨g, 0, none⟩)) := by
  unfold Lib.TabIs World.var? at h
  rw [hg] at h
  simp only [Option.bind_some] at h
  split at h
  · rename_i cs e fz hh
    simp only [Option.some.injEq] at h
    refine .pt (tabT tab) 0 g 0 cs e fz (fun k => .int .i64 (tab.getD k 0)) hh (fun k a hk => ?_) (fun k a hk => ?_)
    · have hl : k < tab.length := by
        have := (List.getElem?_eq_some_iff.1 hk).1
        simpa [tabT] using this
      subst h
      simp [List.getD, hl]
    · have hl : k < tab.length := by
        have := (List.getElem?_eq_some_iff.1 hk).1
        simpa [tabT] using this
      simp only [tabT, List.getElem?_map, List.getElem?_eq_getElem hl, Option.map_some, Option.some.injEq] at hk
      subst hk
      simp [List.getD, hl]
      exact .v _ rfl
  · cases h
theorem globs2 {W : World} (h0 : Lib.TabIs Tryd.prog W "narrator/scriptverify.pops" .i64 popsL) (h1 : Lib.TabIs Tryd.prog W "narrator/scriptverify.pushes" .i64 pushesL) : ∀ g cells, E.glob g = some cells → RelI (imm0 W) (.pt cells 0) (.pointer (some ⟨g, 0, none⟩)) := by
  intro g cells hg
  rcases E_globI g cells hg with ⟨rfl, rfl⟩ | ⟨rfl, rfl⟩ | h'
  · exact glob_of_tabI (by kernel_rfl) h0
  · exact glob_of_tabI (by kernel_rfl) h1
  · exact h'.elim
end Go.VI

