import Derived.Lib.LaidTab
import Derived.MakeChecks
import Derived.Test.YtgaeknackpfdcaaDoorZJP6
namespace Go.VI
open Go.Proofs
set_option maxRecDepth 100000
set_option linter.unusedSimpArgs false
set_option linter.unusedVariables false
set_option maxHeartbeats 4000000
theorem runR_next {l : List Ins} {row : Int} {g : List Gl} {c0 w0 : Int} {i : Nat} {c w : Int} {stk : List Int} {p : Ins} (h : l[i]? = some p) (hf : ¬ failR stk p.1) : ∃ j c2 w2 st2, ∀ n s, runR l row g c0 w0 (n + 1) i s c w stk = runR l row g c0 w0 n j (s + 1) c2 w2 st2 :=
  ⟨_, _, _, _, fun n s => by simp only [runR, h, if_neg hf]; rfl⟩
theorem fuel_err {l : List Ins} {row : Int} {g : List Gl} {c0 w0 : Int} : ∀ (n i s : Nat) (c w : Int) (stk : List Int), (runR l row g c0 w0 n i s c w stk).2.2.2 ≠ 0 → (runR l row g c0 w0 n i s c w stk).1 = c0 ∧ (runR l row g c0 w0 n i s c w stk).2.1 = w0 := by
  intro n
  induction n with
  | zero =>
    intro i s c w stk h
    cases e : l[i]? with
    | none => rw [runR_none e] at h; exact absurd rfl h
    | some p => rw [runR_fuel e]; exact ⟨rfl, rfl⟩
  | succ n ih =>
    intro i s c w stk h
    cases e : l[i]? with
    | none => rw [runR_none e] at h; exact absurd rfl h
    | some p =>
      by_cases hf : failR stk p.1
      · rw [runR_fail e hf]; exact ⟨rfl, rfl⟩
      · obtain ⟨j, c2, w2, st2, hn⟩ := runR_next (row := row) (g := g) (c0 := c0) (w0 := w0) (c := c) (w := w) e hf
        rw [hn] at h ⊢
        exact ih _ _ _ _ _ h
theorem fuel_ok {l : List Ins} {row : Int} {g : List Gl} {c0 w0 : Int} : ∀ (n i s : Nat) (c w : Int) (stk : List Int) (q : Int × Int × Nat × Int), runR l row g c0 w0 n i s c w stk = q → q.2.2.2 = 0 →
    s ≤ q.2.2.1 ∧ q.2.2.1 ≤ s + n ∧ ∀ m, (q.2.2.1 ≤ s + m → runR l row g c0 w0 m i s c w stk = q) ∧ (s + m < q.2.2.1 → runR l row g c0 w0 m i s c w stk = (c0, w0, s + m, 14)) := by
  intro n
  induction n with
  | zero =>
    intro i s c w stk q h hq
    cases e : l[i]? with
    | none =>
      rw [runR_none e] at h
      subst h
      exact ⟨Nat.le_refl _, Nat.le_add_right _ _, fun m => ⟨fun _ => runR_none e, fun h => absurd h (by simp only; omega)⟩⟩
    | some p => rw [runR_fuel e] at h; subst h; exact absurd hq (by decide : (14 : Int) ≠ 0)
  | succ n ih =>
    intro i s c w stk q h hq
    cases e : l[i]? with
    | none =>
      rw [runR_none e] at h
      subst h
      exact ⟨Nat.le_refl _, Nat.le_add_right _ _, fun m => ⟨fun _ => runR_none e, fun h => absurd h (by simp only; omega)⟩⟩
    | some p =>
      by_cases hf : failR stk p.1
      · rw [runR_fail e hf] at h; subst h; exact absurd hq (by decide : (13 : Int) ≠ 0)
      · obtain ⟨j, c2, w2, st2, hn⟩ := runR_next (row := row) (g := g) (c0 := c0) (w0 := w0) (c := c) (w := w) e hf
        rw [hn] at h
        obtain ⟨h1, h2, h3⟩ := ih _ _ _ _ _ q h hq
        refine ⟨by omega, by omega, fun m => ?_⟩
        cases m with
        | zero => exact ⟨fun h => absurd h (by omega), fun _ => runR_fuel e⟩
        | succ m =>
          rw [hn]
          obtain ⟨k1, k2⟩ := h3 m
          exact ⟨fun h => k1 (by omega), fun h => by rw [k2 (by omega), show s + 1 + m = s + (m + 1) from by omega]⟩
theorem limI_5000 : limI 5000 = 5000 := rfl
theorem run_fuel (l : List Ins) (row : Int) (g : List Gl) (c w r fuel : Int) (hf : 0 ≤ fuel) :
    ((runT l row g c w r 5000).e ≠ 0 → (runT l row g c w r 5000).c = c ∧ (runT l row g c w r 5000).w = w ∧ (runT l row g c w r 5000).r = r) ∧
    ((runT l row g c w r 5000).e = 0 → 0 ≤ (runT l row g c w r 5000).s ∧ (runT l row g c w r 5000).s ≤ 5000 ∧ ((runT l row g c w r 5000).s ≤ fuel → runT l row g c w r fuel = runT l row g c w r 5000) ∧ (fuel < (runT l row g c w r 5000).s → runT l row g c w r fuel = ⟨c, w, r, fuel, 14⟩)) := by
  unfold runT
  by_cases h : checkI l = 0
  · simp only [if_pos h, limI_5000]
    refine ⟨fun he => ⟨(fuel_err _ _ _ _ _ _ he).1, (fuel_err _ _ _ _ _ _ he).2, by trivial⟩, fun he => ?_⟩
    obtain ⟨h1, h2, h3⟩ := fuel_ok 5000 0 0 c w [] _ rfl he
    obtain ⟨k1, k2⟩ := h3 (limI fuel)
    have hlim : (limI fuel : Int) = min fuel 5000 := by unfold limI; omega
    refine ⟨by omega, by omega, fun hs => ?_, fun hs => ?_⟩
    · rw [k1 (by omega)]
    · rw [k2 (by omega)]
      simp only [Nat.zero_add]
      rw [show (limI fuel : Int) = fuel from by omega]
  · simp only [if_neg h]
    exact ⟨fun _ => ⟨by trivial, by trivial, by trivial⟩, fun he => absurd he h⟩
theorem law5 (l : List Ins) (hl : l.length ≤ 9223372036854775807) (row : Int) (hrow : bI row) (g : List Gl) (hgl : g.length ≤ 9223372036854775807) (hg : bG g) (c w r : Int) (hv : bI c ∧ bI w ∧ bI r) (fuel : Int) (hf : 0 ≤ fuel ∧ fuel ≤ 65535) :
    ∃ L, callT E 5 [.i (.sl 2 (rowsI l) false), .i (.v (.int .i64 row)), .i (.sl 3 (rowsG g) false), .agg [.i (.v (.int .i64 c)), .i (.v (.int .i64 w)), .i (.v (.int .i64 r))], .i (.v (.int .u16 fuel))] [] = some (.i (.v (.bool true)), L) := by
  have hgr := fun H => ik11 l g (by omega) (by omega) H
  cases hb : greatB l.length g with
  | true =>
    rw [hb, if_pos rfl] at hgr
    rw [callT_eq Tryd.func5 rfl fok5 (by simp [Tryd.ntmps5])]
    simp (disch := first | omega | (simp only [vlen]; omega)) only [vall, List.take_of_length_le, gB, gcW, gcR, posIn, renA, renL, Chunk.ren, Chunk.refs, evOpD, touchD, stepC, isFresh, nFresh, freshOf, mkR, hole, evL, evH, opd, get, putD, ofVal, cellOf, loadE, behind, lenE, idxAddrE, idxE, lookE, lookM, addPtr, intE, strE, unE, convE, AV.int, AV.bool, AV.str, ivs, take, frameOf, firstRegion, refsA, refsL, one, cellsA, floatOk, apartT, List.map, if_true, if_false, E_P, E_glob0, E_glob1, reduceCtorEq, beq_self_eq_true, ↓reduceIte, Nat.reduceEqDiff, cond_true, cond_false, Nat.reduceAdd, Nat.reduceSub, Nat.reduceMul, Nat.reduceLT, Nat.reduceLeDiff, Int.reduceToNat, Int.reduceLT, Int.reduceLE, Option.getD, Int.reduceMul, Int.reduceAdd, List.drop, List.take, Nat.reduceBEq, List.isEmpty, Int.reduceEq, Int.reduceNe, Int.reduceNeg, Int.reduceGT, Int.reduceGE, beq_true, beq_false, UInt8.reduceToNat, eqE, eq_self, foldE, maxE, minE, fillA, over, chop, List.replicate, leavesOk, leafOk, cellsEq, cellEq, E_byref, en5, bs22, bs23, hgr, ik12]
    exact ⟨_, rfl⟩
  | false =>
    rw [hb, if_neg (by decide)] at hgr
    obtain ⟨h5, hok⟩ := okG_of hb hg
    have h1 := fun H => ik13 l (by omega) row hrow g hok c w r 5000 hv (by unfold bI; omega) H
    have h2 := fun H => ik13 l (by omega) row hrow g hok c w r fuel hv (by unfold bI; omega) H
    rw [run_eqS] at h1 h2
    obtain ⟨p1, p2⟩ := run_fuel l row g c w r fuel hf.1
    generalize runT l row g c w r 5000 = o at *
    obtain ⟨o1, o2, o3, o4, o5⟩ := o
    unfold ocA at h1
    simp only at h1 p1 p2
    by_cases he : o5 = 0
    · obtain ⟨s0, s1, p3, p4⟩ := p2 he
      subst he
      clear p1 p2
      by_cases hs : o4 ≤ fuel
      · rw [p3 hs] at h2
        unfold ocA at h2
        simp only at h2
        clear p3 p4
        rw [callT_eq Tryd.func5 rfl fok5 (by simp [Tryd.ntmps5])]
        simp (disch := first | omega | (simp only [vlen]; omega)) only [vall, List.take_of_length_le, gB, gcW, gcR, posIn, renA, renL, Chunk.ren, Chunk.refs, evOpD, touchD, stepC, isFresh, nFresh, freshOf, mkR, hole, evL, evH, opd, get, putD, ofVal, cellOf, loadE, behind, lenE, idxAddrE, idxE, lookE, lookM, addPtr, intE, strE, unE, convE, AV.int, AV.bool, AV.str, ivs, take, frameOf, firstRegion, refsA, refsL, one, cellsA, floatOk, apartT, List.map, if_true, if_false, E_P, E_glob0, E_glob1, reduceCtorEq, beq_self_eq_true, ↓reduceIte, Nat.reduceEqDiff, cond_true, cond_false, Nat.reduceAdd, Nat.reduceSub, Nat.reduceMul, Nat.reduceLT, Nat.reduceLeDiff, Int.reduceToNat, Int.reduceLT, Int.reduceLE, Option.getD, Int.reduceMul, Int.reduceAdd, List.drop, List.take, Nat.reduceBEq, List.isEmpty, Int.reduceEq, Int.reduceNe, Int.reduceNeg, Int.reduceGT, Int.reduceGE, beq_true, beq_false, UInt8.reduceToNat, eqE, eq_self, foldE, maxE, minE, fillA, over, chop, List.replicate, leavesOk, leafOk, cellsEq, cellEq, E_byref, en5, bs22, bs23, hgr, h1, h2, hs, eq_oc, eq_vd, decide_true, Bool.and_true, ik12]
        exact ⟨_, rfl⟩
      · rw [p4 (by omega)] at h2
        unfold ocA at h2
        simp only at h2
        clear p3 p4
        rw [callT_eq Tryd.func5 rfl fok5 (by simp [Tryd.ntmps5])]
        simp (disch := first | omega | (simp only [vlen]; omega)) only [vall, List.take_of_length_le, gB, gcW, gcR, posIn, renA, renL, Chunk.ren, Chunk.refs, evOpD, touchD, stepC, isFresh, nFresh, freshOf, mkR, hole, evL, evH, opd, get, putD, ofVal, cellOf, loadE, behind, lenE, idxAddrE, idxE, lookE, lookM, addPtr, intE, strE, unE, convE, AV.int, AV.bool, AV.str, ivs, take, frameOf, firstRegion, refsA, refsL, one, cellsA, floatOk, apartT, List.map, if_true, if_false, E_P, E_glob0, E_glob1, reduceCtorEq, beq_self_eq_true, ↓reduceIte, Nat.reduceEqDiff, cond_true, cond_false, Nat.reduceAdd, Nat.reduceSub, Nat.reduceMul, Nat.reduceLT, Nat.reduceLeDiff, Int.reduceToNat, Int.reduceLT, Int.reduceLE, Option.getD, Int.reduceMul, Int.reduceAdd, List.drop, List.take, Nat.reduceBEq, List.isEmpty, Int.reduceEq, Int.reduceNe, Int.reduceNeg, Int.reduceGT, Int.reduceGE, beq_true, beq_false, UInt8.reduceToNat, eqE, eq_self, foldE, maxE, minE, fillA, over, chop, List.replicate, leavesOk, leafOk, cellsEq, cellEq, E_byref, en5, bs22, bs23, hgr, h1, h2, hs, eq_oc, eq_vd, decide_true, Bool.and_true, ik12]
        exact ⟨_, rfl⟩
    · obtain ⟨rfl, rfl, rfl⟩ := p1 he
      clear p1 p2
      generalize runT l row g o1 o2 o3 fuel = q at *
      obtain ⟨q1, q2, q3, q4, q5⟩ := q
      unfold ocA at h2
      simp only at h2
      rw [callT_eq Tryd.func5 rfl fok5 (by simp [Tryd.ntmps5])]
      simp (disch := first | omega | (simp only [vlen]; omega)) only [vall, List.take_of_length_le, gB, gcW, gcR, posIn, renA, renL, Chunk.ren, Chunk.refs, evOpD, touchD, stepC, isFresh, nFresh, freshOf, mkR, hole, evL, evH, opd, get, putD, ofVal, cellOf, loadE, behind, lenE, idxAddrE, idxE, lookE, lookM, addPtr, intE, strE, unE, convE, AV.int, AV.bool, AV.str, ivs, take, frameOf, firstRegion, refsA, refsL, one, cellsA, floatOk, apartT, List.map, if_true, if_false, E_P, E_glob0, E_glob1, reduceCtorEq, beq_self_eq_true, ↓reduceIte, Nat.reduceEqDiff, cond_true, cond_false, Nat.reduceAdd, Nat.reduceSub, Nat.reduceMul, Nat.reduceLT, Nat.reduceLeDiff, Int.reduceToNat, Int.reduceLT, Int.reduceLE, Option.getD, Int.reduceMul, Int.reduceAdd, List.drop, List.take, Nat.reduceBEq, List.isEmpty, Int.reduceEq, Int.reduceNe, Int.reduceNeg, Int.reduceGT, Int.reduceGE, beq_true, beq_false, UInt8.reduceToNat, eqE, eq_self, foldE, maxE, minE, fillA, over, chop, List.replicate, leavesOk, leafOk, cellsEq, cellEq, E_byref, en5, bs22, bs23, hgr, h1, h2, he, eq_oc, eq_vd, decide_true, Bool.and_true, ik12]
      exact ⟨_, rfl⟩
theorem c5 (l : List Ins) (hl : l.length ≤ 9223372036854775807) (row : Int) (hrow : bI row) (g : List Gl) (hgl : g.length ≤ 9223372036854775807) (hg : bG g) (c w r : Int) (hv : bI c ∧ bI w ∧ bI r) (fuel : Int) (hf : 0 ≤ fuel ∧ fuel ≤ 65535) :
    ∃ L, callT E 5 [.i (.sl 2 (l.map fun a => insC a) false), .i (.v (.int .i64 row)), .i (.sl 3 (g.map fun a => [.str a.1, .v (.bool a.2.1), .v (.int .i64 a.2.2)]) false), .agg [.i (.v (.int .i64 c)), .i (.v (.int .i64 w)), .i (.v (.int .i64 r))], .i (.v (.int .u16 fuel))] [] = some (.i (.v (.bool true)), L) := law5 l hl row hrow g hgl hg c w r hv fuel hf
end Go.VI

namespace Go.VI
open Go.Proofs
set_option maxRecDepth 100000
set_option linter.unusedSimpArgs false
set_option linter.unusedVariables false
set_option maxHeartbeats 4000000
def walkF (l : List Ins) : Nat → Nat → Int → List Int
  | 0, _, _ => []
  | f + 1, i, q => if i < l.length then (i : Int) :: (if (l.getD i (0, 0)).1 = 0 then [] else if (l.getD i (0, 0)).1 = 17 then walkF l f (l.getD i (0, 0)).2.toNat q else if (l.getD i (0, 0)).1 = 18 then walkF l f (if q % 2 = 1 then (l.getD i (0, 0)).2.toNat else i + 1) (q / 2) else walkF l f (i + 1) q) else []
end Go.VI

namespace Go.VI
open Go.Proofs
set_option maxRecDepth 100000
set_option linter.unusedSimpArgs false
set_option linter.unusedVariables false
set_option maxHeartbeats 4000000
structure Good (l : List Ins) : Prop where
  ok : ∀ (j : Nat) (h : j < l.length), chk1 l.length j l[j] = 0
end Go.VI

namespace Go.VI
open Go.Proofs
set_option maxRecDepth 100000
set_option linter.unusedSimpArgs false
set_option linter.unusedVariables false
set_option maxHeartbeats 4000000
structure Most (l : List Ins) (k : Nat) (out : List Int) : Prop where
  len : out.length = l.length + 1
  low : ∀ j : Nat, j < k → out.getD j 0 = 0
  end_ : 0 ≤ out.getD l.length 0
  ge : ∀ j : Nat, k ≤ j → j ≤ l.length → ∀ f q, ((walkF l f j q).length : Int) ≤ out.getD j 0
end Go.VI

namespace Go.VI
open Go.Proofs
set_option maxRecDepth 100000
set_option linter.unusedSimpArgs false
set_option linter.unusedVariables false
set_option maxHeartbeats 4000000
def jz : List Ins → Nat
  | [] => 0
  | p :: r => (if p.1 = 18 then 1 else 0) + jz r
def two (n : Nat) : Int := ((2 ^ n : Nat) : Int)
structure Hit (l : List Ins) (k : Nat) (out : List Int) : Prop where
  len : out.length = l.length + 1
  low : ∀ j : Nat, j < k → out.getD j 0 = 0
  at_ : ∀ j : Nat, k ≤ j → j ≤ l.length → ∃ q, 0 ≤ q ∧ q < two (jz (l.drop j)) ∧ ∀ f, l.length + 1 ≤ j + f → ((walkF l f j q).length : Int) = out.getD j 0
end Go.VI

namespace Go.VI
open Go.Proofs
set_option maxRecDepth 100000
set_option linter.unusedSimpArgs false
set_option linter.unusedVariables false
set_option maxHeartbeats 4000000
def strt (p : Ins) : Prop := p.1 ≠ 0 ∧ p.1 ≠ 17 ∧ p.1 ≠ 18
def sline (row : Int) (g : List Gl) : List Ins → Int → Int → List Int → Option (Int × Int × List Int)
  | [], c, w, stk => some (c, w, stk)
  | p :: r, c, w, stk => if failR stk p.1 then none else sline row g r (clsR p.1 c ((stk.drop (rstK stk p.1)).getD 0 0)) (waiR p.1 w ((stk.drop (rstK stk p.1)).getD 0 0)) (stk.take (rstK stk p.1) ++ (pushedR row g c w p.1 p.2 (stk.drop (rstK stk p.1))).map limS)
theorem sline_app {row : Int} {g : List Gl} : ∀ (k l : List Ins) (c w : Int) (stk : List Int) (c1 w1 : Int) (s1 : List Int), sline row g k c w stk = some (c1, w1, s1) → sline row g (k ++ l) c w stk = sline row g l c1 w1 s1
  | [], l, c, w, stk, c1, w1, s1, h => by
    simp only [sline, Option.some.injEq, Prod.mk.injEq] at h
    obtain ⟨rfl, rfl, rfl⟩ := h
    rfl
  | p :: r, l, c, w, stk, c1, w1, s1, h => by
    rw [List.cons_append]
    simp only [sline] at h ⊢
    split
    · rename_i hf; rw [if_pos hf] at h; cases h
    · rename_i hf; rw [if_neg hf] at h
      exact sline_app r l _ _ _ c1 w1 s1 h
theorem run_sline {row : Int} {g : List Gl} {c0 w0 : Int} {l : List Ins} (hs : ∀ p ∈ l, strt p) : ∀ (m n i s : Nat) (c w : Int) (stk : List Int), i + m = l.length → m ≤ n →
    (∀ c1 w1 s1, sline row g (l.drop i) c w stk = some (c1, w1, s1) → runR l row g c0 w0 n i s c w stk = (c1, w1, s + m, 0)) ∧ (sline row g (l.drop i) c w stk = none → (runR l row g c0 w0 n i s c w stk).2.2.2 ≠ 0) := by
  intro m
  induction m with
  | zero =>
    intro n i s c w stk hi hn
    obtain rfl : i = l.length := by omega
    rw [List.drop_length, runR_none (List.getElem?_eq_none (Nat.le_refl _))]
    refine ⟨fun c1 w1 s1 h => ?_, fun h => by cases h⟩
    simp only [sline, Option.some.injEq, Prod.mk.injEq] at h
    obtain ⟨rfl, rfl, rfl⟩ := h
    rfl
  | succ m ih =>
    intro n i s c w stk hi hn
    have hlt : i < l.length := by omega
    have e : l[i]? = some l[i] := List.getElem?_eq_getElem hlt
    obtain ⟨n, rfl⟩ : ∃ n', n = n' + 1 := ⟨n - 1, by omega⟩
    obtain ⟨z0, z17, z18⟩ := hs l[i] (List.getElem_mem hlt)
    rw [List.drop_eq_getElem_cons hlt]
    generalize l[i] = p at *
    simp only [sline]
    by_cases hf : failR stk p.1
    · rw [if_pos hf, runR_fail e hf]
      exact ⟨fun _ _ _ h => (by cases h), fun _ => (by decide : (13 : Int) ≠ 0)⟩
    · rw [if_neg hf]
      have hn1 : ∀ p0, (nextR p.1 p.2 i l.length p0).toNat = i + 1 := by
        intro p0
        unfold nextR
        rw [if_neg z0, if_neg z17, if_neg (fun h => z18 h.1)]; rfl
      have hstep : runR l row g c0 w0 (n + 1) i s c w stk = runR l row g c0 w0 n (i + 1) (s + 1) (clsR p.1 c ((stk.drop (rstK stk p.1)).getD 0 0)) (waiR p.1 w ((stk.drop (rstK stk p.1)).getD 0 0)) (stk.take (rstK stk p.1) ++ (pushedR row g c w p.1 p.2 (stk.drop (rstK stk p.1))).map limS) := by
        simp only [runR, e, if_neg hf, hn1]
      rw [hstep]
      obtain ⟨k1, k2⟩ := ih n (i + 1) (s + 1) (clsR p.1 c ((stk.drop (rstK stk p.1)).getD 0 0)) (waiR p.1 w ((stk.drop (rstK stk p.1)).getD 0 0)) (stk.take (rstK stk p.1) ++ (pushedR row g c w p.1 p.2 (stk.drop (rstK stk p.1))).map limS) (by omega) (by omega)
      exact ⟨fun c1 w1 s1 h => by rw [k1 c1 w1 s1 h, show s + 1 + m = s + (m + 1) from by omega], k2⟩
def dsum : List Ins → Int
  | [] => 0
  | p :: r => (pushS p.1 - popS p.1) + dsum r
theorem sline_len {row : Int} {g : List Gl} : ∀ (k : List Ins) (c w : Int) (stk : List Int) (c1 w1 : Int) (s1 : List Int), (∀ p ∈ k, 0 ≤ p.1 ∧ p.1 ≤ 20) → sline row g k c w stk = some (c1, w1, s1) → (s1.length : Int) = stk.length + dsum k
  | [], c, w, stk, c1, w1, s1, hk, h => by
    simp only [sline, Option.some.injEq, Prod.mk.injEq] at h
    obtain ⟨rfl, rfl, rfl⟩ := h
    simp [dsum]
  | p :: r, c, w, stk, c1, w1, s1, hk, h => by
    obtain ⟨a1, a2⟩ := hk p (List.mem_cons_self)
    simp only [sline] at h
    split at h
    · cases h
    · rename_i hf
      have hb := pp_b a1 a2
      have := sline_len r _ _ _ c1 w1 s1 (fun q hq => hk q (List.mem_cons_of_mem _ hq)) h
      rw [this, List.length_append, List.length_map, List.length_take, dsum]
      have hpl := pushedR_len row g c w p.2 (stk.drop (rstK stk p.1)) a1 a2
      unfold failR at hf
      unfold rstK at *
      omega
theorem chk_strt {l : List Ins} (h : ∀ p ∈ l, strt p) : ∀ (n n' : Int) (i i' : Nat), chkL n i l = chkL n' i' l := by
  induction l with
  | nil => intro n n' i i'; rfl
  | cons p r ih =>
    intro n n' i i'
    obtain ⟨z0, z17, z18⟩ := h p (List.mem_cons_self)
    have e : chk1 n i p = chk1 n' i' p := by
      unfold chk1 boundsS
      rw [if_neg (show ¬ (p.1 = 17 ∨ p.1 = 18) from fun h => h.elim z17 z18), if_neg (show ¬ (p.1 = 17 ∨ p.1 = 18) from fun h => h.elim z17 z18)]
    simp only [chkL, e, ih (fun q hq => h q (List.mem_cons_of_mem _ hq)) n n' (i + 1) (i' + 1)]
theorem chkL_app (n : Int) : ∀ (k l : List Ins) (i : Nat), chkL n i k = 0 → chkL n i (k ++ l) = chkL n (i + k.length) l
  | [], l, i, h => by simp
  | p :: r, l, i, h => by
    simp only [chkL] at h
    rw [List.cons_append, chkL]
    by_cases e : chk1 n i p = 0
    · rw [if_pos e] at h
      rw [if_pos e, chkL_app n r l (i + 1) h, List.length_cons, show i + 1 + r.length = i + (r.length + 1) from by omega]
    · rw [if_neg e] at h; exact absurd h e
theorem joins {k l : List Ins} (hk : k.length ≤ 100) (hl : l.length ≤ 100) (hs : ∀ p ∈ k ++ l, strt p) (row : Int) (g : List Gl) (c w r : Int) (ha : (runT k row g c w r 5000).e = 0)
    (hb : (runT l row g (runT k row g c w r 5000).c (runT k row g c w r 5000).w r 5000).e = 0) (hd : dsum k = 0) :
    runT (k ++ l) row g c w r 5000 = ⟨(runT l row g (runT k row g c w r 5000).c (runT k row g c w r 5000).w r 5000).c, (runT l row g (runT k row g c w r 5000).c (runT k row g c w r 5000).w r 5000).w, r, (runT k row g c w r 5000).s + (runT l row g (runT k row g c w r 5000).c (runT k row g c w r 5000).w r 5000).s, 0⟩ := by
  have hsk : ∀ p ∈ k, strt p := fun p hp => hs p (List.mem_append_left _ hp)
  have hsl : ∀ p ∈ l, strt p := fun p hp => hs p (List.mem_append_right _ hp)
  have hck : checkI k = 0 := by
    by_cases h : checkI k = 0
    · exact h
    · unfold runT at ha; rw [if_neg h] at ha; exact absurd ha h
  have hcl : checkI l = 0 := by
    by_cases h : checkI l = 0
    · exact h
    · generalize (runT k row g c w r 5000).c = c1 at hb
      generalize (runT k row g c w r 5000).w = w1 at hb
      unfold runT at hb; rw [if_neg h] at hb; exact absurd hb h
  have hckl : checkI (k ++ l) = 0 := by
    unfold checkI at hck hcl ⊢
    rw [if_neg (by omega)] at hck hcl
    rw [if_neg (by rw [List.length_append]; omega)]
    rw [chk_strt hsk k.length (k ++ l).length 0 0] at hck
    rw [chkL_app _ _ _ _ hck, ← hcl]
    exact chk_strt hsl _ _ _ _
  have A := run_sline (row := row) (g := g) (c0 := c) (w0 := w) hsk k.length 5000 0 0 c w [] (by omega) (by omega)
  rw [List.drop_zero] at A
  cases e1 : sline row g k c w [] with
  | none =>
    exfalso
    unfold runT at ha; rw [if_pos hck] at ha
    exact A.2 e1 ha
  | some q =>
    obtain ⟨c1, w1, s1⟩ := q
    have hA : runT k row g c w r 5000 = ⟨c1, w1, r, (k.length : Nat), 0⟩ := by
      unfold runT; rw [if_pos hck, limI_5000, A.1 _ _ _ e1]; simp
    rw [hA] at hb ⊢
    simp only at hb ⊢
    have hlen := sline_len k c w [] c1 w1 s1 (fun p hp => by
      obtain ⟨i, hi, rfl⟩ := List.getElem_of_mem hp
      have := chk_at hck (List.getElem?_eq_getElem hi)
      exact ⟨this.1, this.2.1⟩) e1
    rw [hd] at hlen
    obtain rfl : s1 = [] := List.length_eq_zero_iff.1 (by rw [List.length_nil] at hlen; omega)
    have B := run_sline (row := row) (g := g) (c0 := c1) (w0 := w1) hsl l.length 5000 0 0 c1 w1 [] (by omega) (by omega)
    rw [List.drop_zero] at B
    cases e2 : sline row g l c1 w1 [] with
    | none =>
      exfalso
      unfold runT at hb; rw [if_pos hcl] at hb
      exact B.2 e2 hb
    | some q =>
      obtain ⟨c2, w2, s2⟩ := q
      have hB : runT l row g c1 w1 r 5000 = ⟨c2, w2, r, (l.length : Nat), 0⟩ := by
        unfold runT; rw [if_pos hcl, limI_5000, B.1 _ _ _ e2]; simp
      rw [hB]
      simp only
      have C := run_sline (row := row) (g := g) (c0 := c) (w0 := w) hs (k ++ l).length 5000 0 0 c w [] (by omega) (by rw [List.length_append]; omega)
      rw [List.drop_zero] at C
      have e3 : sline row g (k ++ l) c w [] = some (c2, w2, s2) := by rw [sline_app k l c w [] c1 w1 [] e1, e2]
      unfold runT
      rw [if_pos hckl, limI_5000, C.1 _ _ _ e3]
      simp
theorem runR_b {l : List Ins} {row : Int} {g : List Gl} {c0 w0 : Int} (h0 : bI c0 ∧ bI w0) : ∀ (n i s : Nat) (c w : Int) (stk : List Int), (∀ p ∈ l, 0 ≤ p.1 ∧ p.1 ≤ 20) → okS stk → bI c → bI w → bI (runR l row g c0 w0 n i s c w stk).1 ∧ bI (runR l row g c0 w0 n i s c w stk).2.1 := by
  intro n
  induction n with
  | zero =>
    intro i s c w stk hl hk hc hw
    cases e : l[i]? with
    | none => rw [runR_none e]; exact ⟨hc, hw⟩
    | some p => rw [runR_fuel e]; exact h0
  | succ n ih =>
    intro i s c w stk hl hk hc hw
    cases e : l[i]? with
    | none => rw [runR_none e]; exact ⟨hc, hw⟩
    | some p =>
      obtain ⟨a1, a2⟩ := hl p (List.mem_of_getElem? e)
      by_cases hf : failR stk p.1
      · rw [runR_fail e hf]; exact h0
      · obtain ⟨a, pp, rfl, hrs, hpl⟩ := okS_split hk a1 a2 hf
        rw [runR_step e hf hrs]
        have hpp0 := getD_b (fun x hx => hk.2 x (List.mem_append_right _ hx) : ∀ x ∈ pp, -999999999 ≤ x ∧ x ≤ 999999999) 0
        refine ih _ _ _ _ _ hl (okS_next hk a1 a2 hf hpl) ?_ ?_
        · unfold clsR; split
          · unfold bI; omega
          · exact hc
        · unfold waiR; split
          · unfold bI; omega
          · exact hw
theorem runT_b (l : List Ins) (row : Int) (g : List Gl) (c w r fuel : Int) (hc : bI c) (hw : bI w) : bI (runT l row g c w r fuel).c ∧ bI (runT l row g c w r fuel).w ∧ (runT l row g c w r fuel).r = r := by
  unfold runT
  split
  · rename_i h
    have := runR_b (l := l) (row := row) (g := g) (c0 := c) (w0 := w) ⟨hc, hw⟩ (limI fuel) 0 0 c w [] (fun p hp => by
      obtain ⟨i, hi, rfl⟩ := List.getElem_of_mem hp
      have := chk_at h (List.getElem?_eq_getElem hi)
      exact ⟨this.1, this.2.1⟩) ⟨by decide, by simp⟩ hc hw
    exact ⟨this.1, this.2, rfl⟩
  · exact ⟨hc, hw, rfl⟩
end Go.VI

namespace Go.VI
open Go.Proofs
set_option maxRecDepth 100000
set_option linter.unusedSimpArgs false
set_option linter.unusedVariables false
set_option maxHeartbeats 4000000
instance (p : Ins) : Decidable (strt p) := by unfold strt; infer_instance
def jP1 (k l : List Ins) (row : Int) (g : List Gl) (c w r : Int) (j : Nat) (fr : Fr) (ex : Ex) (H : Hp) : Prop :=
  ((∀ p ∈ (k ++ l).drop j, strt p) ∧ ex = .exit 0 ∧ fr = [(0, .i (.sl 2 (rowsI k) false)), (1, .i (.sl 2 (rowsI l) false)), (2, .i (.v (.int .i64 row))), (3, .i (.sl 3 (rowsG g) false)), (9, .ptr 0 0 0 0), (38, .ref 1 0 0 (k.length + l.length)), (39, .i (.v (.int .i64 (k.length + l.length : Nat)))), (40, .i (.v (.int .i64 (((k.length + l.length : Nat) : Int))))), (41, .i (.v (.bool false)))] ∧ H = [.box [.i (.v (.int .i64 c)), .i (.v (.int .i64 w)), .i (.v (.int .i64 r))], .sl 2 0 (rowsI (k ++ l)) false]) ∨ (ex = .ret ∧ get 10 fr = .i (.v (.bool true)))
theorem l8_0 (k l : List Ins) (hkl : k.length ≤ 100) (hll : l.length ≤ 100) (row : Int) (g : List Gl) (c w r : Int) (j : Nat) (hj : j ≤ k.length + l.length) :
    ∃ fr ex H', rl E 0 8 (loopAt Tryd.f8 0) ([(0, .i (.sl 2 (rowsI k) false)), (1, .i (.sl 2 (rowsI l) false)), (2, .i (.v (.int .i64 row))), (3, .i (.sl 3 (rowsG g) false)), (9, .ptr 0 0 0 0), (38, .ref 1 0 0 (k.length + l.length)), (39, .i (.v (.int .i64 (k.length + l.length : Nat)))), (40, .i (.v (.int .i64 (j))))]) [.box [.i (.v (.int .i64 c)), .i (.v (.int .i64 w)), .i (.v (.int .i64 r))], .sl 2 0 (rowsI (k ++ l)) false] = some (ex, fr, H') ∧ jP1 k l row g c w r j fr ex H' := by
  have hln : (k ++ l).length = k.length + l.length := List.length_append
  by_cases hlt : j < k.length + l.length
  · have hlt2 : j < (k ++ l).length := by omega
    have hrow := rowsI_at hlt2
    have hdr := List.drop_eq_getElem_cons hlt2
    have hrl : (rowsI (k ++ l)).length = k.length + l.length := by rw [rowsI_len, hln]
    obtain ⟨fr, ex, H', e, hh⟩ := l8_0 k l hkl hll row g c w r (j + 1) hlt
    generalize (k ++ l)[j] = p at *
    obtain ⟨op, arg⟩ := p
    simp only at hrow
    by_cases h0 : op = 0
    · clear e hh
      subst h0
      rw [rl_step (fn := Tryd.f8) (k := 0) rfl]
      simp (disch := first | omega | (simp only [vlen, hrl]; omega)) only [vall, List.take_of_length_le, gB, gcW, gcR, posIn, renA, renL, Chunk.ren, Chunk.refs, evOpD, touchD, stepC, isFresh, nFresh, freshOf, mkR, hole, evL, evH, opd, get, putD, ofVal, cellOf, loadE, behind, lenE, idxAddrE, idxE, lookE, lookM, addPtr, intE, strE, unE, convE, AV.int, AV.bool, AV.str, ivs, take, frameOf, firstRegion, refsA, refsL, one, cellsA, floatOk, apartT, List.map, if_true, if_false, E_P, E_glob0, E_glob1, reduceCtorEq, beq_self_eq_true, ↓reduceIte, Nat.reduceEqDiff, cond_true, cond_false, Nat.reduceAdd, Nat.reduceSub, Nat.reduceMul, Nat.reduceLT, Nat.reduceLeDiff, Int.reduceToNat, Int.reduceLT, Int.reduceLE, Option.getD, Int.reduceMul, Int.reduceAdd, List.drop, List.take, Nat.reduceBEq, List.isEmpty, Int.reduceEq, Int.reduceNe, Int.reduceNeg, Int.reduceGT, Int.reduceGE, beq_true, beq_false, UInt8.reduceToNat, eqE, eq_self, foldE, maxE, minE, fillA, over, chop, List.replicate, leavesOk, leafOk, cellsEq, cellEq, E_byref, en8, bs22, bs23, bs46, hrow, hrl, ik12, show ∀ B fr H, execT E B 8 (Code.loop _) fr H = rlG E B 8 (loopAt Tryd.f8 0) (gcn B (norm [0, 1, 2, 3, 9, 38, 39, 40] fr) H) from fun B fr H => rl_intro rfl mt8_4 mb8_4 zf8_4 hd8_4 fr H]
      exact ⟨_, _, _, rfl, .inr ⟨rfl, rfl⟩⟩
    · by_cases h17 : op = 17
      · clear e hh
        subst h17
        rw [rl_step (fn := Tryd.f8) (k := 0) rfl]
        simp (disch := first | omega | (simp only [vlen, hrl]; omega)) only [vall, List.take_of_length_le, gB, gcW, gcR, posIn, renA, renL, Chunk.ren, Chunk.refs, evOpD, touchD, stepC, isFresh, nFresh, freshOf, mkR, hole, evL, evH, opd, get, putD, ofVal, cellOf, loadE, behind, lenE, idxAddrE, idxE, lookE, lookM, addPtr, intE, strE, unE, convE, AV.int, AV.bool, AV.str, ivs, take, frameOf, firstRegion, refsA, refsL, one, cellsA, floatOk, apartT, List.map, if_true, if_false, E_P, E_glob0, E_glob1, reduceCtorEq, beq_self_eq_true, ↓reduceIte, Nat.reduceEqDiff, cond_true, cond_false, Nat.reduceAdd, Nat.reduceSub, Nat.reduceMul, Nat.reduceLT, Nat.reduceLeDiff, Int.reduceToNat, Int.reduceLT, Int.reduceLE, Option.getD, Int.reduceMul, Int.reduceAdd, List.drop, List.take, Nat.reduceBEq, List.isEmpty, Int.reduceEq, Int.reduceNe, Int.reduceNeg, Int.reduceGT, Int.reduceGE, beq_true, beq_false, UInt8.reduceToNat, eqE, eq_self, foldE, maxE, minE, fillA, over, chop, List.replicate, leavesOk, leafOk, cellsEq, cellEq, E_byref, en8, bs22, bs23, bs46, hrow, hrl, ik12, show ∀ B fr H, execT E B 8 (Code.loop _) fr H = rlG E B 8 (loopAt Tryd.f8 0) (gcn B (norm [0, 1, 2, 3, 9, 38, 39, 40] fr) H) from fun B fr H => rl_intro rfl mt8_4 mb8_4 zf8_4 hd8_4 fr H]
        exact ⟨_, _, _, rfl, .inr ⟨rfl, rfl⟩⟩
      · by_cases h18 : op = 18
        · clear e hh
          subst h18
          rw [rl_step (fn := Tryd.f8) (k := 0) rfl]
          simp (disch := first | omega | (simp only [vlen, hrl]; omega)) only [vall, List.take_of_length_le, gB, gcW, gcR, posIn, renA, renL, Chunk.ren, Chunk.refs, evOpD, touchD, stepC, isFresh, nFresh, freshOf, mkR, hole, evL, evH, opd, get, putD, ofVal, cellOf, loadE, behind, lenE, idxAddrE, idxE, lookE, lookM, addPtr, intE, strE, unE, convE, AV.int, AV.bool, AV.str, ivs, take, frameOf, firstRegion, refsA, refsL, one, cellsA, floatOk, apartT, List.map, if_true, if_false, E_P, E_glob0, E_glob1, reduceCtorEq, beq_self_eq_true, ↓reduceIte, Nat.reduceEqDiff, cond_true, cond_false, Nat.reduceAdd, Nat.reduceSub, Nat.reduceMul, Nat.reduceLT, Nat.reduceLeDiff, Int.reduceToNat, Int.reduceLT, Int.reduceLE, Option.getD, Int.reduceMul, Int.reduceAdd, List.drop, List.take, Nat.reduceBEq, List.isEmpty, Int.reduceEq, Int.reduceNe, Int.reduceNeg, Int.reduceGT, Int.reduceGE, beq_true, beq_false, UInt8.reduceToNat, eqE, eq_self, foldE, maxE, minE, fillA, over, chop, List.replicate, leavesOk, leafOk, cellsEq, cellEq, E_byref, en8, bs22, bs23, bs46, hrow, hrl, ik12, show ∀ B fr H, execT E B 8 (Code.loop _) fr H = rlG E B 8 (loopAt Tryd.f8 0) (gcn B (norm [0, 1, 2, 3, 9, 38, 39, 40] fr) H) from fun B fr H => rl_intro rfl mt8_4 mb8_4 zf8_4 hd8_4 fr H]
          exact ⟨_, _, _, rfl, .inr ⟨rfl, rfl⟩⟩
        · have hh2 : jP1 k l row g c w r j fr ex H' := by
            rcases hh with ⟨h1, h2⟩ | hh
            · refine .inl ⟨fun q hq => ?_, h2⟩
              rw [hdr] at hq
              rcases List.mem_cons.1 hq with rfl | hq
              · exact ⟨h0, h17, h18⟩
              · exact h1 q hq
            · exact .inr hh
          refine ⟨fr, ex, H', Eq.trans ?_ e, hh2⟩
          clear e hh hh2
          rw [rl_step (fn := Tryd.f8) (k := 0) rfl]
          simp (disch := first | omega | (simp only [vlen, hrl]; omega)) only [vall, List.take_of_length_le, gB, gcW, gcR, posIn, renA, renL, Chunk.ren, Chunk.refs, evOpD, touchD, stepC, isFresh, nFresh, freshOf, mkR, hole, evL, evH, opd, get, putD, ofVal, cellOf, loadE, behind, lenE, idxAddrE, idxE, lookE, lookM, addPtr, intE, strE, unE, convE, AV.int, AV.bool, AV.str, ivs, take, frameOf, firstRegion, refsA, refsL, one, cellsA, floatOk, apartT, List.map, if_true, if_false, E_P, E_glob0, E_glob1, reduceCtorEq, beq_self_eq_true, ↓reduceIte, Nat.reduceEqDiff, cond_true, cond_false, Nat.reduceAdd, Nat.reduceSub, Nat.reduceMul, Nat.reduceLT, Nat.reduceLeDiff, Int.reduceToNat, Int.reduceLT, Int.reduceLE, Option.getD, Int.reduceMul, Int.reduceAdd, List.drop, List.take, Nat.reduceBEq, List.isEmpty, Int.reduceEq, Int.reduceNe, Int.reduceNeg, Int.reduceGT, Int.reduceGE, beq_true, beq_false, UInt8.reduceToNat, eqE, eq_self, foldE, maxE, minE, fillA, over, chop, List.replicate, leavesOk, leafOk, cellsEq, cellEq, E_byref, en8, bs22, bs23, bs46, hrow, hrl, h0, h17, h18, show ∀ B fr H, execT E B 8 (Code.loop _) fr H = rlG E B 8 (loopAt Tryd.f8 0) (gcn B (norm [0, 1, 2, 3, 9, 38, 39, 40] fr) H) from fun B fr H => rl_intro rfl mt8_4 mb8_4 zf8_4 hd8_4 fr H]
  · obtain rfl : j = k.length + l.length := by omega
    rw [rl_step (fn := Tryd.f8) (k := 0) rfl]
    simp (disch := first | omega | (simp only [vlen]; omega)) only [vall, List.take_of_length_le, gB, gcW, gcR, posIn, renA, renL, Chunk.ren, Chunk.refs, evOpD, touchD, stepC, isFresh, nFresh, freshOf, mkR, hole, evL, evH, opd, get, putD, ofVal, cellOf, loadE, behind, lenE, idxAddrE, idxE, lookE, lookM, addPtr, intE, strE, unE, convE, AV.int, AV.bool, AV.str, ivs, take, frameOf, firstRegion, refsA, refsL, one, cellsA, floatOk, apartT, List.map, if_true, if_false, E_P, E_glob0, E_glob1, reduceCtorEq, beq_self_eq_true, ↓reduceIte, Nat.reduceEqDiff, cond_true, cond_false, Nat.reduceAdd, Nat.reduceSub, Nat.reduceMul, Nat.reduceLT, Nat.reduceLeDiff, Int.reduceToNat, Int.reduceLT, Int.reduceLE, Option.getD, Int.reduceMul, Int.reduceAdd, List.drop, List.take, Nat.reduceBEq, List.isEmpty, Int.reduceEq, Int.reduceNe, Int.reduceNeg, Int.reduceGT, Int.reduceGE, beq_true, beq_false, UInt8.reduceToNat, eqE, eq_self, foldE, maxE, minE, fillA, over, chop, List.replicate, leavesOk, leafOk, cellsEq, cellEq, E_byref, en8, bs22, bs23, bs46, show ∀ B fr H, execT E B 8 (Code.loop _) fr H = rlG E B 8 (loopAt Tryd.f8 0) (gcn B (norm [0, 1, 2, 3, 9, 38, 39, 40] fr) H) from fun B fr H => rl_intro rfl mt8_4 mb8_4 zf8_4 hd8_4 fr H]
    refine ⟨_, _, _, rfl, .inl ⟨?_, rfl, rfl, rfl⟩⟩
    rw [← hln, List.drop_length]
    intro p hp
    cases hp
termination_by k.length + l.length - j
theorem tab_dep {op : Int} (h0 : 0 ≤ op) (h1 : op ≤ 20) : ([[.v (.int .i64 0)], [.v (.int .i64 1)], [.v (.int .i64 1)], [.v (.int .i64 1)], [.v (.int .i64 0)], [.v (.int .i64 0)], [.v (.int .i64 1)], [.v (.int .i64 1)], [.v (.int .i64 (-1))], [.v (.int .i64 (-1))], [.v (.int .i64 (-1))], [.v (.int .i64 (-1))], [.v (.int .i64 (-1))], [.v (.int .i64 0)], [.v (.int .i64 1)], [.v (.int .i64 (-1))], [.v (.int .i64 0)], [.v (.int .i64 0)], [.v (.int .i64 (-1))], [.v (.int .i64 (-1))], [.v (.int .i64 (-1))]] : List (List IV))[op.toNat]? = some [.v (.int .i64 (pushS op - popS op))] := by
  obtain ⟨n, rfl⟩ := Int.eq_ofNat_of_zero_le h0
  have : n = 0 ∨ n = 1 ∨ n = 2 ∨ n = 3 ∨ n = 4 ∨ n = 5 ∨ n = 6 ∨ n = 7 ∨ n = 8 ∨ n = 9 ∨ n = 10 ∨ n = 11 ∨ n = 12 ∨ n = 13 ∨ n = 14 ∨ n = 15 ∨ n = 16 ∨ n = 17 ∨ n = 18 ∨ n = 19 ∨ n = 20 := by omega
  rcases this with rfl | rfl | rfl | rfl | rfl | rfl | rfl | rfl | rfl | rfl | rfl | rfl | rfl | rfl | rfl | rfl | rfl | rfl | rfl | rfl | rfl <;> rfl
theorem l8_1 (k : List Ins) (hkl : k.length ≤ 100) (hk : ∀ p ∈ k, 0 ≤ p.1 ∧ p.1 ≤ 20) (A B C : Oc) : ∀ (m j : Nat) (d : Int), j + m = k.length → -1000000 + 2 * (m : Int) ≤ d → d ≤ 1000000 - 2 * (m : Int) →
    rl E 0 8 (loopAt Tryd.f8 1) ([(13, .ptr 0 0 0 0), (14, .ptr 1 0 0 0), (15, .ptr 2 0 0 0), (16, .i (.v (.int .i64 (d)))), (88, .i (.sl 2 (rowsI k) false)), (89, .i (.v (.int .i64 k.length))), (90, .i (.v (.int .i64 (j))))]) [.box [.i (.v (.int .i64 (A).c)), .i (.v (.int .i64 (A).w)), .i (.v (.int .i64 (A).r)), .i (.v (.int .i64 (A).s)), .i (.v (.int .i64 (A).e))], .box [.i (.v (.int .i64 (B).c)), .i (.v (.int .i64 (B).w)), .i (.v (.int .i64 (B).r)), .i (.v (.int .i64 (B).s)), .i (.v (.int .i64 (B).e))], .box [.i (.v (.int .i64 (C).c)), .i (.v (.int .i64 (C).w)), .i (.v (.int .i64 (C).r)), .i (.v (.int .i64 (C).s)), .i (.v (.int .i64 (C).e))]] = some (.exit 2, [(13, .ptr 0 0 0 0), (14, .ptr 1 0 0 0), (15, .ptr 2 0 0 0), (16, .i (.v (.int .i64 (d + dsum (k.drop j))))), (88, .i (.sl 2 (rowsI k) false)), (89, .i (.v (.int .i64 k.length))), (90, .i (.v (.int .i64 (k.length)))), (91, .i (.v (.bool false)))], [.box [.i (.v (.int .i64 (A).c)), .i (.v (.int .i64 (A).w)), .i (.v (.int .i64 (A).r)), .i (.v (.int .i64 (A).s)), .i (.v (.int .i64 (A).e))], .box [.i (.v (.int .i64 (B).c)), .i (.v (.int .i64 (B).w)), .i (.v (.int .i64 (B).r)), .i (.v (.int .i64 (B).s)), .i (.v (.int .i64 (B).e))], .box [.i (.v (.int .i64 (C).c)), .i (.v (.int .i64 (C).w)), .i (.v (.int .i64 (C).r)), .i (.v (.int .i64 (C).s)), .i (.v (.int .i64 (C).e))]]) := by
  intro m
  induction m with
  | zero =>
    intro j d hj h1 h2
    obtain rfl : j = k.length := by omega
    rw [List.drop_length, dsum, Int.add_zero]
    rw [rl_step (fn := Tryd.f8) (k := 1) rfl]
    simp (disch := first | omega | (simp only [vlen, rowsI_len]; omega)) only [vall, List.take_of_length_le, gB, gcW, gcR, posIn, renA, renL, Chunk.ren, Chunk.refs, evOpD, touchD, stepC, isFresh, nFresh, freshOf, mkR, hole, evL, evH, opd, get, putD, ofVal, cellOf, loadE, behind, lenE, idxAddrE, idxE, lookE, lookM, addPtr, intE, strE, unE, convE, AV.int, AV.bool, AV.str, ivs, take, frameOf, firstRegion, refsA, refsL, one, cellsA, floatOk, apartT, List.map, if_true, if_false, E_P, E_glob0, E_glob1, reduceCtorEq, beq_self_eq_true, ↓reduceIte, Nat.reduceEqDiff, cond_true, cond_false, Nat.reduceAdd, Nat.reduceSub, Nat.reduceMul, Nat.reduceLT, Nat.reduceLeDiff, Int.reduceToNat, Int.reduceLT, Int.reduceLE, Option.getD, Int.reduceMul, Int.reduceAdd, List.drop, List.take, Nat.reduceBEq, List.isEmpty, Int.reduceEq, Int.reduceNe, Int.reduceNeg, Int.reduceGT, Int.reduceGE, beq_true, beq_false, UInt8.reduceToNat, eqE, eq_self, foldE, maxE, minE, fillA, over, chop, List.replicate, leavesOk, leafOk, cellsEq, cellEq, E_byref, en8, bs22, bs23, bs46, rowsI_len, show ∀ B fr H, execT E B 8 (Code.loop _) fr H = rlG E B 8 (loopAt Tryd.f8 1) (gcn B (norm [13, 14, 15, 16, 88, 89, 90] fr) H) from fun B fr H => rl_intro rfl mt8_16 mb8_16 zf8_16 hd8_16 fr H]
  | succ m ih =>
    intro j d hj h1 h2
    have hlt : j < k.length := by omega
    have hrow := rowsI_at hlt
    obtain ⟨a1, a2⟩ := hk k[j] (List.getElem_mem hlt)
    rw [List.drop_eq_getElem_cons hlt, dsum]
    generalize k[j] = p at *
    obtain ⟨op, arg⟩ := p
    simp only at hrow a1 a2 ⊢
    have hb := pp_b a1 a2
    have htab := tab_dep a1 a2
    have hyb : -2 ≤ pushS op - popS op ∧ pushS op - popS op ≤ 2 := by omega
    generalize pushS op - popS op = y at *
    have e := ih (j + 1) (d + y) (by omega) (by omega) (by omega)
    rw [Int.add_assoc] at e
    refine Eq.trans ?_ e
    clear e ih
    rw [rl_step (fn := Tryd.f8) (k := 1) rfl]
    simp (disch := first | omega | (simp only [vlen, rowsI_len]; omega)) only [vall, List.take_of_length_le, gB, gcW, gcR, posIn, renA, renL, Chunk.ren, Chunk.refs, evOpD, touchD, stepC, isFresh, nFresh, freshOf, mkR, hole, evL, evH, opd, get, putD, ofVal, cellOf, loadE, behind, lenE, idxAddrE, idxE, lookE, lookM, addPtr, intE, strE, unE, convE, AV.int, AV.bool, AV.str, ivs, take, frameOf, firstRegion, refsA, refsL, one, cellsA, floatOk, apartT, List.map, if_true, if_false, E_P, E_glob0, E_glob1, reduceCtorEq, beq_self_eq_true, ↓reduceIte, Nat.reduceEqDiff, cond_true, cond_false, Nat.reduceAdd, Nat.reduceSub, Nat.reduceMul, Nat.reduceLT, Nat.reduceLeDiff, Int.reduceToNat, Int.reduceLT, Int.reduceLE, Option.getD, Int.reduceMul, Int.reduceAdd, List.drop, List.take, Nat.reduceBEq, List.isEmpty, Int.reduceEq, Int.reduceNe, Int.reduceNeg, Int.reduceGT, Int.reduceGE, beq_true, beq_false, UInt8.reduceToNat, eqE, eq_self, foldE, maxE, minE, fillA, over, chop, List.replicate, leavesOk, leafOk, cellsEq, cellEq, E_byref, en8, bs22, bs23, bs46, rowsI_len, hrow, htab, show ∀ B fr H, execT E B 8 (Code.loop _) fr H = rlG E B 8 (loopAt Tryd.f8 1) (gcn B (norm [13, 14, 15, 16, 88, 89, 90] fr) H) from fun B fr H => rl_intro rfl mt8_16 mb8_16 zf8_16 hd8_16 fr H]
end Go.VI

namespace Go.VI
open Go.Proofs
set_option maxRecDepth 100000
set_option linter.unusedSimpArgs false
set_option linter.unusedVariables false
set_option maxHeartbeats 4000000
theorem rowsI_app (a b : List Ins) : rowsI a ++ rowsI b = rowsI (a ++ b) := by simp [rowsI]
theorem run_ops {l : List Ins} {row : Int} {g : List Gl} {c w r fuel : Int} (h : (runT l row g c w r fuel).e = 0) : ∀ p ∈ l, 0 ≤ p.1 ∧ p.1 ≤ 20 := by
  have hck : checkI l = 0 := by
    by_cases h2 : checkI l = 0
    · exact h2
    · unfold runT at h; rw [if_neg h2] at h; exact absurd h h2
  intro p hp
  obtain ⟨i, hi, rfl⟩ := List.getElem_of_mem hp
  have := chk_at hck (List.getElem?_eq_getElem hi)
  exact ⟨this.1, this.2.1⟩
theorem runT_s {l : List Ins} {row : Int} {g : List Gl} {c w r : Int} (h : (runT l row g c w r 5000).e = 0) : 0 ≤ (runT l row g c w r 5000).s ∧ (runT l row g c w r 5000).s ≤ 5000 := by
  have := (run_fuel l row g c w r 0 (Int.le_refl _)).2 h
  exact ⟨this.1, this.2.1⟩
theorem law8 (k : List Ins) (hk : k.length ≤ 9223372036854775807) (l : List Ins) (hl : l.length ≤ 9223372036854775807) (row : Int) (hrow : bI row) (g : List Gl) (hgl : g.length ≤ 9223372036854775807) (hg : bG g) (c w r : Int) (hv : bI c ∧ bI w ∧ bI r) :
    ∃ L, callT E 8 [.i (.sl 2 (rowsI k) false), .i (.sl 2 (rowsI l) false), .i (.v (.int .i64 row)), .i (.sl 3 (rowsG g) false), .agg [.i (.v (.int .i64 c)), .i (.v (.int .i64 w)), .i (.v (.int .i64 r))]] [] = some (.i (.v (.bool true)), L) := by
  have hgr := fun H => ik11 k g (by omega) (by omega) H
  by_cases k1 : 100 < (k.length : Int)
  · generalize (if greatB k.length g = true then (1 : Int) else 0) = gb at *
    rw [callT_eq Tryd.func8 rfl fok8 (by simp [Tryd.ntmps8])]
    simp (disch := first | omega | (simp only [vlen, rowsI_len]; omega)) only [vall, List.take_of_length_le, gB, gcW, gcR, posIn, renA, renL, Chunk.ren, Chunk.refs, evOpD, touchD, stepC, isFresh, nFresh, freshOf, mkR, hole, evL, evH, opd, get, putD, ofVal, cellOf, loadE, behind, lenE, idxAddrE, idxE, lookE, lookM, addPtr, intE, strE, unE, convE, AV.int, AV.bool, AV.str, ivs, take, frameOf, firstRegion, refsA, refsL, one, cellsA, floatOk, apartT, List.map, if_true, if_false, E_P, E_glob0, E_glob1, reduceCtorEq, beq_self_eq_true, ↓reduceIte, Nat.reduceEqDiff, cond_true, cond_false, Nat.reduceAdd, Nat.reduceSub, Nat.reduceMul, Nat.reduceLT, Nat.reduceLeDiff, Int.reduceToNat, Int.reduceLT, Int.reduceLE, Option.getD, Int.reduceMul, Int.reduceAdd, List.drop, List.take, Nat.reduceBEq, List.isEmpty, Int.reduceEq, Int.reduceNe, Int.reduceNeg, Int.reduceGT, Int.reduceGE, beq_true, beq_false, UInt8.reduceToNat, eqE, eq_self, foldE, maxE, minE, fillA, over, chop, List.replicate, leavesOk, leafOk, cellsEq, cellEq, E_byref, en8, bs22, bs23, bs46, hgr, k1, rowsI_len, ik12]
    exact ⟨_, rfl⟩
  by_cases l1 : 100 < (l.length : Int)
  · generalize (if greatB k.length g = true then (1 : Int) else 0) = gb at *
    rw [callT_eq Tryd.func8 rfl fok8 (by simp [Tryd.ntmps8])]
    simp (disch := first | omega | (simp only [vlen, rowsI_len]; omega)) only [vall, List.take_of_length_le, gB, gcW, gcR, posIn, renA, renL, Chunk.ren, Chunk.refs, evOpD, touchD, stepC, isFresh, nFresh, freshOf, mkR, hole, evL, evH, opd, get, putD, ofVal, cellOf, loadE, behind, lenE, idxAddrE, idxE, lookE, lookM, addPtr, intE, strE, unE, convE, AV.int, AV.bool, AV.str, ivs, take, frameOf, firstRegion, refsA, refsL, one, cellsA, floatOk, apartT, List.map, if_true, if_false, E_P, E_glob0, E_glob1, reduceCtorEq, beq_self_eq_true, ↓reduceIte, Nat.reduceEqDiff, cond_true, cond_false, Nat.reduceAdd, Nat.reduceSub, Nat.reduceMul, Nat.reduceLT, Nat.reduceLeDiff, Int.reduceToNat, Int.reduceLT, Int.reduceLE, Option.getD, Int.reduceMul, Int.reduceAdd, List.drop, List.take, Nat.reduceBEq, List.isEmpty, Int.reduceEq, Int.reduceNe, Int.reduceNeg, Int.reduceGT, Int.reduceGE, beq_true, beq_false, UInt8.reduceToNat, eqE, eq_self, foldE, maxE, minE, fillA, over, chop, List.replicate, leavesOk, leafOk, cellsEq, cellEq, E_byref, en8, bs22, bs23, bs46, hgr, k1, l1, rowsI_len, ik12]
    exact ⟨_, rfl⟩
  cases hb : greatB k.length g with
  | true =>
    rw [hb, if_pos rfl] at hgr
    rw [callT_eq Tryd.func8 rfl fok8 (by simp [Tryd.ntmps8])]
    simp (disch := first | omega | (simp only [vlen, rowsI_len]; omega)) only [vall, List.take_of_length_le, gB, gcW, gcR, posIn, renA, renL, Chunk.ren, Chunk.refs, evOpD, touchD, stepC, isFresh, nFresh, freshOf, mkR, hole, evL, evH, opd, get, putD, ofVal, cellOf, loadE, behind, lenE, idxAddrE, idxE, lookE, lookM, addPtr, intE, strE, unE, convE, AV.int, AV.bool, AV.str, ivs, take, frameOf, firstRegion, refsA, refsL, one, cellsA, floatOk, apartT, List.map, if_true, if_false, E_P, E_glob0, E_glob1, reduceCtorEq, beq_self_eq_true, ↓reduceIte, Nat.reduceEqDiff, cond_true, cond_false, Nat.reduceAdd, Nat.reduceSub, Nat.reduceMul, Nat.reduceLT, Nat.reduceLeDiff, Int.reduceToNat, Int.reduceLT, Int.reduceLE, Option.getD, Int.reduceMul, Int.reduceAdd, List.drop, List.take, Nat.reduceBEq, List.isEmpty, Int.reduceEq, Int.reduceNe, Int.reduceNeg, Int.reduceGT, Int.reduceGE, beq_true, beq_false, UInt8.reduceToNat, eqE, eq_self, foldE, maxE, minE, fillA, over, chop, List.replicate, leavesOk, leafOk, cellsEq, cellEq, E_byref, en8, bs22, bs23, bs46, hgr, k1, l1, rowsI_len, ik12]
    exact ⟨_, rfl⟩
  | false =>
    rw [hb, if_neg (by decide)] at hgr
    obtain ⟨h5, hok⟩ := okG_of hb hg
    have hap := rowsI_app k l
    have htk : List.take (k.length + l.length) (rowsI (k ++ l)) = rowsI (k ++ l) := List.take_of_length_le (by rw [rowsI_len, List.length_append]; exact Nat.le_refl _)
    have htk1 : List.take k.length (rowsI k) = rowsI k := List.take_of_length_le (by rw [rowsI_len]; exact Nat.le_refl _)
    obtain ⟨fr, ex, H', e, hh⟩ := l8_0 k l (by omega) (by omega) row g c w r 0 (Nat.zero_le _)
    have e' : rl E 0 8 (loopAt Tryd.f8 0) [(0, .i (.sl 2 (rowsI k) false)), (1, .i (.sl 2 (rowsI l) false)), (2, .i (.v (.int .i64 row))), (3, .i (.sl 3 (rowsG g) false)), (9, .ptr 0 0 0 0), (38, .ref 1 0 0 (k.length + l.length)), (39, .i (.v (.int .i64 (k.length + l.length : Nat)))), (40, .i (.v (.int .i64 0)))] [.box [.i (.v (.int .i64 c)), .i (.v (.int .i64 w)), .i (.v (.int .i64 r))], .sl 2 0 (rowsI (k ++ l)) false] = _ := e
    clear e
    rcases hh with ⟨hs, rfl, rfl, rfl⟩ | ⟨rfl, h10⟩
    · rw [List.drop_zero] at hs
      have r1 := fun H => ik13 k (by omega) row hrow g hok c w r 5000 hv (by unfold bI; omega) H
      have r3 := fun H => ik13 (k ++ l) (by rw [List.length_append]; omega) row hrow g hok c w r 5000 hv (by unfold bI; omega) H
      obtain ⟨ab1, ab2, ab3⟩ := runT_b k row g c w r 5000 hv.1 hv.2.1
      have r2 := fun H => ik13 l (by omega) row hrow g hok (runT k row g c w r 5000).c (runT k row g c w r 5000).w r 5000 ⟨ab1, ab2, hv.2.2⟩ (by unfold bI; omega) H
      rw [run_eqS] at r1 r2 r3
      obtain ⟨bb1, bb2, bb3⟩ := runT_b l row g (runT k row g c w r 5000).c (runT k row g c w r 5000).w r 5000 ab1 ab2
      by_cases ea : (runT k row g c w r 5000).e = 0
      · by_cases eb : (runT l row g (runT k row g c w r 5000).c (runT k row g c w r 5000).w r 5000).e = 0
        · have hops := run_ops ea
          have hj := joins (by omega) (by omega) hs row g c w r ea eb
          have hl1 := l8_1 k (by omega) hops (runT k row g c w r 5000) (runT l row g (runT k row g c w r 5000).c (runT k row g c w r 5000).w r 5000) (runT (k ++ l) row g c w r 5000) k.length 0 0 (by omega) (by omega) (by omega)
          rw [List.drop_zero, Int.zero_add] at hl1
          have sa := runT_s ea
          have sb := runT_s eb
          by_cases hd : dsum k = 0
          · rw [hj hd] at r3 hl1
            clear hj
            rw [hd] at hl1
            generalize runT l row g (runT k row g c w r 5000).c (runT k row g c w r 5000).w r 5000 = ob at *
            generalize runT k row g c w r 5000 = oa at *
            obtain ⟨a1, a2, a3, a4, a5⟩ := oa
            obtain ⟨b1, b2, b3, b4, b5⟩ := ob
            simp only at ab1 ab2 ab3 bb1 bb2 bb3 ea eb sa sb
            subst ea eb ab3 bb3
            unfold ocA at r1 r2 r3
            simp only at r1 r2 r3 hl1
            have hl2 : rl E 0 8 (loopAt Tryd.f8 1) [(13, .ptr 0 0 0 0), (14, .ptr 1 0 0 0), (15, .ptr 2 0 0 0), (16, .i (.v (.int .i64 0))), (88, .i (.sl 2 (rowsI k) false)), (89, .i (.v (.int .i64 k.length))), (90, .i (.v (.int .i64 0)))] _ = _ := hl1
            clear hl1
            rw [callT_eq Tryd.func8 rfl fok8 (by simp [Tryd.ntmps8])]
            simp (disch := first | omega | (simp only [vlen, rowsI_len]; omega)) only [vall, List.take_of_length_le, gB, gcW, gcR, posIn, renA, renL, Chunk.ren, Chunk.refs, evOpD, touchD, stepC, isFresh, nFresh, freshOf, mkR, hole, evL, evH, opd, get, putD, ofVal, cellOf, loadE, behind, lenE, idxAddrE, idxE, lookE, lookM, addPtr, intE, strE, unE, convE, AV.int, AV.bool, AV.str, ivs, take, frameOf, firstRegion, refsA, refsL, one, cellsA, floatOk, apartT, List.map, if_true, if_false, E_P, E_glob0, E_glob1, reduceCtorEq, beq_self_eq_true, ↓reduceIte, Nat.reduceEqDiff, cond_true, cond_false, Nat.reduceAdd, Nat.reduceSub, Nat.reduceMul, Nat.reduceLT, Nat.reduceLeDiff, Int.reduceToNat, Int.reduceLT, Int.reduceLE, Option.getD, Int.reduceMul, Int.reduceAdd, List.drop, List.take, Nat.reduceBEq, List.isEmpty, Int.reduceEq, Int.reduceNe, Int.reduceNeg, Int.reduceGT, Int.reduceGE, beq_true, beq_false, UInt8.reduceToNat, eqE, eq_self, foldE, maxE, minE, fillA, over, chop, List.replicate, leavesOk, leafOk, cellsEq, cellEq, E_byref, en8, bs22, bs23, bs46, hgr, k1, l1, e', hap, htk, htk1, r1, r2, r3, hl2, rowsI_len, List.length_append, eq_oc, eq_vd, decide_true, Bool.and_true, ik12, show ∀ B fr H, execT E B 8 (Code.loop _) fr H = rlG E B 8 (loopAt Tryd.f8 0) (gcn B (norm [0, 1, 2, 3, 9, 38, 39, 40] fr) H) from fun B fr H => rl_intro rfl mt8_4 mb8_4 zf8_4 hd8_4 fr H, show ∀ B fr H, execT E B 8 (Code.loop _) fr H = rlG E B 8 (loopAt Tryd.f8 1) (gcn B (norm [13, 14, 15, 16, 88, 89, 90] fr) H) from fun B fr H => rl_intro rfl mt8_16 mb8_16 zf8_16 hd8_16 fr H]
            exact ⟨_, rfl⟩
          · clear hj
            generalize dsum k = ds at *
            generalize runT (k ++ l) row g c w r 5000 = oc at *
            generalize runT l row g (runT k row g c w r 5000).c (runT k row g c w r 5000).w r 5000 = ob at *
            generalize runT k row g c w r 5000 = oa at *
            obtain ⟨a1, a2, a3, a4, a5⟩ := oa
            obtain ⟨b1, b2, b3, b4, b5⟩ := ob
            obtain ⟨c1, c2, c3, c4, c5⟩ := oc
            simp only at ab1 ab2 ab3 bb1 bb2 bb3 ea eb sa sb
            subst ea eb ab3 bb3
            unfold ocA at r1 r2 r3
            simp only at r1 r2 r3 hl1
            have hl2 : rl E 0 8 (loopAt Tryd.f8 1) [(13, .ptr 0 0 0 0), (14, .ptr 1 0 0 0), (15, .ptr 2 0 0 0), (16, .i (.v (.int .i64 0))), (88, .i (.sl 2 (rowsI k) false)), (89, .i (.v (.int .i64 k.length))), (90, .i (.v (.int .i64 0)))] _ = _ := hl1
            clear hl1
            rw [callT_eq Tryd.func8 rfl fok8 (by simp [Tryd.ntmps8])]
            simp (disch := first | omega | (simp only [vlen, rowsI_len]; omega)) only [vall, List.take_of_length_le, gB, gcW, gcR, posIn, renA, renL, Chunk.ren, Chunk.refs, evOpD, touchD, stepC, isFresh, nFresh, freshOf, mkR, hole, evL, evH, opd, get, putD, ofVal, cellOf, loadE, behind, lenE, idxAddrE, idxE, lookE, lookM, addPtr, intE, strE, unE, convE, AV.int, AV.bool, AV.str, ivs, take, frameOf, firstRegion, refsA, refsL, one, cellsA, floatOk, apartT, List.map, if_true, if_false, E_P, E_glob0, E_glob1, reduceCtorEq, beq_self_eq_true, ↓reduceIte, Nat.reduceEqDiff, cond_true, cond_false, Nat.reduceAdd, Nat.reduceSub, Nat.reduceMul, Nat.reduceLT, Nat.reduceLeDiff, Int.reduceToNat, Int.reduceLT, Int.reduceLE, Option.getD, Int.reduceMul, Int.reduceAdd, List.drop, List.take, Nat.reduceBEq, List.isEmpty, Int.reduceEq, Int.reduceNe, Int.reduceNeg, Int.reduceGT, Int.reduceGE, beq_true, beq_false, UInt8.reduceToNat, eqE, eq_self, foldE, maxE, minE, fillA, over, chop, List.replicate, leavesOk, leafOk, cellsEq, cellEq, E_byref, en8, bs22, bs23, bs46, hgr, k1, l1, e', hap, htk, htk1, r1, r2, r3, hl2, hd, rowsI_len, List.length_append, ik12, show ∀ B fr H, execT E B 8 (Code.loop _) fr H = rlG E B 8 (loopAt Tryd.f8 0) (gcn B (norm [0, 1, 2, 3, 9, 38, 39, 40] fr) H) from fun B fr H => rl_intro rfl mt8_4 mb8_4 zf8_4 hd8_4 fr H, show ∀ B fr H, execT E B 8 (Code.loop _) fr H = rlG E B 8 (loopAt Tryd.f8 1) (gcn B (norm [13, 14, 15, 16, 88, 89, 90] fr) H) from fun B fr H => rl_intro rfl mt8_16 mb8_16 zf8_16 hd8_16 fr H]
            exact ⟨_, rfl⟩
        · generalize runT (k ++ l) row g c w r 5000 = oc at *
          generalize runT l row g (runT k row g c w r 5000).c (runT k row g c w r 5000).w r 5000 = ob at *
          generalize runT k row g c w r 5000 = oa at *
          obtain ⟨a1, a2, a3, a4, a5⟩ := oa
          obtain ⟨b1, b2, b3, b4, b5⟩ := ob
          obtain ⟨c1, c2, c3, c4, c5⟩ := oc
          simp only at ab1 ab2 ab3 bb1 bb2 bb3 ea eb
          subst ea ab3 bb3
          unfold ocA at r1 r2 r3
          simp only at r1 r2 r3
          rw [callT_eq Tryd.func8 rfl fok8 (by simp [Tryd.ntmps8])]
          simp (disch := first | omega | (simp only [vlen, rowsI_len]; omega)) only [vall, List.take_of_length_le, gB, gcW, gcR, posIn, renA, renL, Chunk.ren, Chunk.refs, evOpD, touchD, stepC, isFresh, nFresh, freshOf, mkR, hole, evL, evH, opd, get, putD, ofVal, cellOf, loadE, behind, lenE, idxAddrE, idxE, lookE, lookM, addPtr, intE, strE, unE, convE, AV.int, AV.bool, AV.str, ivs, take, frameOf, firstRegion, refsA, refsL, one, cellsA, floatOk, apartT, List.map, if_true, if_false, E_P, E_glob0, E_glob1, reduceCtorEq, beq_self_eq_true, ↓reduceIte, Nat.reduceEqDiff, cond_true, cond_false, Nat.reduceAdd, Nat.reduceSub, Nat.reduceMul, Nat.reduceLT, Nat.reduceLeDiff, Int.reduceToNat, Int.reduceLT, Int.reduceLE, Option.getD, Int.reduceMul, Int.reduceAdd, List.drop, List.take, Nat.reduceBEq, List.isEmpty, Int.reduceEq, Int.reduceNe, Int.reduceNeg, Int.reduceGT, Int.reduceGE, beq_true, beq_false, UInt8.reduceToNat, eqE, eq_self, foldE, maxE, minE, fillA, over, chop, List.replicate, leavesOk, leafOk, cellsEq, cellEq, E_byref, en8, bs22, bs23, bs46, hgr, k1, l1, e', hap, htk, htk1, r1, r2, r3, eb, rowsI_len, List.length_append, ik12, show ∀ B fr H, execT E B 8 (Code.loop _) fr H = rlG E B 8 (loopAt Tryd.f8 0) (gcn B (norm [0, 1, 2, 3, 9, 38, 39, 40] fr) H) from fun B fr H => rl_intro rfl mt8_4 mb8_4 zf8_4 hd8_4 fr H, show ∀ B fr H, execT E B 8 (Code.loop _) fr H = rlG E B 8 (loopAt Tryd.f8 1) (gcn B (norm [13, 14, 15, 16, 88, 89, 90] fr) H) from fun B fr H => rl_intro rfl mt8_16 mb8_16 zf8_16 hd8_16 fr H]
          exact ⟨_, rfl⟩
      · generalize runT (k ++ l) row g c w r 5000 = oc at *
        generalize runT l row g (runT k row g c w r 5000).c (runT k row g c w r 5000).w r 5000 = ob at *
        generalize runT k row g c w r 5000 = oa at *
        obtain ⟨a1, a2, a3, a4, a5⟩ := oa
        obtain ⟨b1, b2, b3, b4, b5⟩ := ob
        obtain ⟨c1, c2, c3, c4, c5⟩ := oc
        simp only at ab1 ab2 ab3 bb1 bb2 bb3 ea
        subst ab3 bb3
        unfold ocA at r1 r2 r3
        simp only at r1 r2 r3
        rw [callT_eq Tryd.func8 rfl fok8 (by simp [Tryd.ntmps8])]
        simp (disch := first | omega | (simp only [vlen, rowsI_len]; omega)) only [vall, List.take_of_length_le, gB, gcW, gcR, posIn, renA, renL, Chunk.ren, Chunk.refs, evOpD, touchD, stepC, isFresh, nFresh, freshOf, mkR, hole, evL, evH, opd, get, putD, ofVal, cellOf, loadE, behind, lenE, idxAddrE, idxE, lookE, lookM, addPtr, intE, strE, unE, convE, AV.int, AV.bool, AV.str, ivs, take, frameOf, firstRegion, refsA, refsL, one, cellsA, floatOk, apartT, List.map, if_true, if_false, E_P, E_glob0, E_glob1, reduceCtorEq, beq_self_eq_true, ↓reduceIte, Nat.reduceEqDiff, cond_true, cond_false, Nat.reduceAdd, Nat.reduceSub, Nat.reduceMul, Nat.reduceLT, Nat.reduceLeDiff, Int.reduceToNat, Int.reduceLT, Int.reduceLE, Option.getD, Int.reduceMul, Int.reduceAdd, List.drop, List.take, Nat.reduceBEq, List.isEmpty, Int.reduceEq, Int.reduceNe, Int.reduceNeg, Int.reduceGT, Int.reduceGE, beq_true, beq_false, UInt8.reduceToNat, eqE, eq_self, foldE, maxE, minE, fillA, over, chop, List.replicate, leavesOk, leafOk, cellsEq, cellEq, E_byref, en8, bs22, bs23, bs46, hgr, k1, l1, e', hap, htk, htk1, r1, r2, r3, ea, rowsI_len, List.length_append, ik12, show ∀ B fr H, execT E B 8 (Code.loop _) fr H = rlG E B 8 (loopAt Tryd.f8 0) (gcn B (norm [0, 1, 2, 3, 9, 38, 39, 40] fr) H) from fun B fr H => rl_intro rfl mt8_4 mb8_4 zf8_4 hd8_4 fr H, show ∀ B fr H, execT E B 8 (Code.loop _) fr H = rlG E B 8 (loopAt Tryd.f8 1) (gcn B (norm [13, 14, 15, 16, 88, 89, 90] fr) H) from fun B fr H => rl_intro rfl mt8_16 mb8_16 zf8_16 hd8_16 fr H]
        exact ⟨_, rfl⟩
    · rw [callT_eq Tryd.func8 rfl fok8 (by simp [Tryd.ntmps8])]
      simp (disch := first | omega | (simp only [vlen, rowsI_len]; omega)) only [vall, List.take_of_length_le, gB, gcW, gcR, posIn, renA, renL, Chunk.ren, Chunk.refs, evOpD, touchD, stepC, isFresh, nFresh, freshOf, mkR, hole, evL, evH, opd, get, putD, ofVal, cellOf, loadE, behind, lenE, idxAddrE, idxE, lookE, lookM, addPtr, intE, strE, unE, convE, AV.int, AV.bool, AV.str, ivs, take, frameOf, firstRegion, refsA, refsL, one, cellsA, floatOk, apartT, List.map, if_true, if_false, E_P, E_glob0, E_glob1, reduceCtorEq, beq_self_eq_true, ↓reduceIte, Nat.reduceEqDiff, cond_true, cond_false, Nat.reduceAdd, Nat.reduceSub, Nat.reduceMul, Nat.reduceLT, Nat.reduceLeDiff, Int.reduceToNat, Int.reduceLT, Int.reduceLE, Option.getD, Int.reduceMul, Int.reduceAdd, List.drop, List.take, Nat.reduceBEq, List.isEmpty, Int.reduceEq, Int.reduceNe, Int.reduceNeg, Int.reduceGT, Int.reduceGE, beq_true, beq_false, UInt8.reduceToNat, eqE, eq_self, foldE, maxE, minE, fillA, over, chop, List.replicate, leavesOk, leafOk, cellsEq, cellEq, E_byref, en8, bs22, bs23, bs46, hgr, k1, l1, e', h10, hap, htk, htk1, rowsI_len, List.length_append, ik12, show ∀ B fr H, execT E B 8 (Code.loop _) fr H = rlG E B 8 (loopAt Tryd.f8 0) (gcn B (norm [0, 1, 2, 3, 9, 38, 39, 40] fr) H) from fun B fr H => rl_intro rfl mt8_4 mb8_4 zf8_4 hd8_4 fr H]
      exact ⟨_, rfl⟩
theorem c8 (k : List Ins) (hk : k.length ≤ 9223372036854775807) (l : List Ins) (hl : l.length ≤ 9223372036854775807) (row : Int) (hrow : bI row) (g : List Gl) (hgl : g.length ≤ 9223372036854775807) (hg : bG g) (c w r : Int) (hv : bI c ∧ bI w ∧ bI r) :
    ∃ L, callT E 8 [.i (.sl 2 (k.map fun a => insC a) false), .i (.sl 2 (l.map fun a => insC a) false), .i (.v (.int .i64 row)), .i (.sl 3 (g.map fun a => [.str a.1, .v (.bool a.2.1), .v (.int .i64 a.2.2)]) false), .agg [.i (.v (.int .i64 c)), .i (.v (.int .i64 w)), .i (.v (.int .i64 r))]] [] = some (.i (.v (.bool true)), L) := law8 k hk l hl row hrow g hgl hg c w r hv
end Go.VI

set_option linter.unusedSimpArgs false
set_option linter.unusedVariables false
namespace Go.VI
open Go.Proofs
theorem laid_tail {P : Program} {W : World} {x : String × DataW Unit} {l : List (String × DataW Unit)} (h : laidMet P (x :: l) W) : laidMet P l W := by
  obtain ⟨ps, ⟨g, t, cs, fuel, p, q, _, _, _, _, hr, rfl⟩, hnd, hrows⟩ := h
  exact ⟨q, hr, hnd.sublist (List.sublist_append_right _ _), fun b off hp => hrows b off (List.mem_append.2 (.inr hp))⟩
theorem glob_of_tabI {P : Program} {W : World} {name : String} {g : Nat} {tab : List Int} (hg : P.globalNamed name = some g) (h : Lib.TabIs P W name .i64 tab) : RelI (imm0 W) (.pt (tabT tab) 0) (.pointer (some ⟨g, 0, none⟩)) := by
  unfold Lib.TabIs World.var? at h
  rw [hg] at h
  simp only [Option.bind_some] at h
  split at h
  · rename_i cs e fz hh
    simp only [Option.some.injEq] at h
    refine .pt (tabT tab) 0 g 0 cs e fz (fun k => .int .i64 (tab.getD k 0)) hh (fun k a hk => ?_) (fun k a hk => ?_)
    · have hl : k < tab.length := by
        have := (List.getElem?_eq_some_iff.1 hk).1
        simpa [tabT] using this
      subst h
      simp [List.getD, hl]
    · have hl : k < tab.length := by
        have := (List.getElem?_eq_some_iff.1 hk).1
        simpa [tabT] using this
      simp only [tabT, List.getElem?_map, List.getElem?_eq_getElem hl, Option.map_some, Option.some.injEq] at hk
      subst hk
      simp [List.getD, hl]
      exact .v _ rfl
  · cases h
theorem globs2 {W : World} (h0 : Lib.TabIs Tryd.prog W "narrator/scriptverify.pops" .i64 popsL) (h1 : Lib.TabIs Tryd.prog W "narrator/scriptverify.pushes" .i64 pushesL) : ∀ g cells, E.glob g = some cells → RelI (imm0 W) (.pt cells 0) (.pointer (some ⟨g, 0, none⟩)) := by
  intro g cells hg
  rcases E_globI g cells hg with ⟨rfl, rfl⟩ | ⟨rfl, rfl⟩ | h'
  · exact glob_of_tabI (by kernel_rfl) h0
  · exact glob_of_tabI (by kernel_rfl) h1
  · exact h'.elim
end Go.VI

