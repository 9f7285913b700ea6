import Derived.Test.YtbilphkejchpfaaDoorZTSI5
open Int renaming reduceToNat → zq6, reduceLT → zq7, reduceLE → zq8, reduceMul → zq9, reduceAdd → zq10, reduceEq → zq12, reduceNe → zq13, reduceNeg → zq14, reduceGT → zq15, reduceGE → zq16
open Nat renaming reduceEqDiff → zq0, reduceAdd → zq1, reduceSub → zq2, reduceMul → zq3, reduceLT → zq4, reduceLeDiff → zq5, reduceBEq → zq11
open UInt8 renaming reduceToNat → zq17
namespace Go.VI
open Go.Proofs
set_option maxRecDepth 100000
set_option linter.unusedSimpArgs false
set_option linter.unusedVariables false
set_option maxHeartbeats 4000000
def aft1 (op d : Int) (c : Bool) (s : List Bool) : Bool × List Bool :=
 if 3 ≤ op ∧ op ≤ 5 then (c, s.set (d - popS op).toNat true)
 else if 8 ≤ op ∧ op ≤ 12 then (c, s.set (d - 1 - 1).toNat (s.getD (d - 1 - 1).toNat false || s.getD (d - 1).toNat false))
 else if op = 14 then (c, s.set d.toNat (s.getD (d - 1).toNat false))
 else if op = 16 then (c, (s.set (d - 1 - 1).toNat (s.getD (d - 1).toNat false)).set (d - 1).toNat (s.getD (d - 1 - 1).toNat false))
 else if op = 18 then (c || s.getD (d - 1).toNat false, s)
 else if op ≠ 13 ∧ pushS op = 1 then (c, s.set d.toNat false) else (c, s)
def aft (op d : Int) (c : Bool) (s : List Bool) : Bool × List Bool := ((aft1 op d c s).1, clr (16 - (d - popS op + pushS op).toNat) (d - popS op + pushS op).toNat (aft1 op d c s).2)
theorem aft1_len (op d : Int) (c : Bool) (s : List Bool) : (aft1 op d c s).2.length = s.length := by
 unfold aft1
 repeat' split
 all_goals simp
theorem clr_len : ∀ (r k : Nat) (s : List Bool), (clr r k s).length = s.length
 | 0, k, s => rfl
 | r + 1, k, s => by rw [clr, clr_len r, List.length_set]
theorem aft_len (op d : Int) (c : Bool) (s : List Bool) : (aft op d c s).2.length = s.length := by rw [aft, clr_len, aft1_len]
theorem pop_push (op : Int) (h0 : 0 ≤ op) (h1 : op ≤ 20) : (3 ≤ op ∧ op ≤ 5 → popS op ≤ 1 ∧ pushS op = 1) ∧ (8 ≤ op ∧ op ≤ 12 → popS op = 2) ∧ (op = 14 → popS op = 1 ∧ pushS op = 2) ∧ (op = 16 → popS op = 2) ∧ (op = 18 → popS op = 1) ∧ (op = 19 ∨ op = 20 → popS op = 1) ∧ (pushS op = 1 ∧ ¬ (3 ≤ op ∧ op ≤ 5) ∧ ¬ (8 ≤ op ∧ op ≤ 12) ∧ op ≠ 13 → popS op = 0) := by
 have h : op = 0 ∨ op = 1 ∨ op = 2 ∨ op = 3 ∨ op = 4 ∨ op = 5 ∨ op = 6 ∨ op = 7 ∨ op = 8 ∨ op = 9 ∨ op = 10 ∨ op = 11 ∨ op = 12 ∨ op = 13 ∨ op = 14 ∨ op = 15 ∨ op = 16 ∨ op = 17 ∨ op = 18 ∨ op = 19 ∨ op = 20 := by omega
 rcases h with h | h | h | h | h | h | h | h | h | h | h | h | h | h | h | h | h | h | h | h | h <;> subst h <;> decide
theorem mA_all (c : Bool) (s : List Bool) : (mA c s).all one = true := by simp [mA, one]
theorem mA_put0 (c x : Bool) (s : List Bool) : (AV.i (.v (.bool x))) :: List.drop 1 (mA c s) = mA x s := rfl
theorem mA_get0 (c : Bool) (s : List Bool) : (mA c s)[0]? = some (.i (.v (.bool c))) := rfl
theorem mA_get' {c : Bool} {s : List Bool} {k : Nat} (h : k < s.length) : (mA c s)[1 + k]? = some (.i (.v (.bool (s.getD k false)))) := by rw [Nat.add_comm]; exact mA_get h
theorem c15_1 (op d : Int) (h0 : 0 ≤ op) (h1 : op ≤ 20) (hp : popS op ≤ d) (hq : d - popS op + pushS op ≤ 16) (hd : d ≤ 16) (c : Bool) (s : List Bool) (hs : s.length = 16) (h3 : 3 ≤ op ∧ op ≤ 5) :
  ∃ L, callT E 15 [.agg (mA c s), .i (.v (.int .i64 op)), .i (.v (.int .i64 d))] [] = some (.agg (mA (aft op d c s).1 (aft op d c s).2), L) := by
 obtain ⟨b1, b2⟩ := (pop_push op h0 h1).1 h3
 have p1 := popS_r op
 have p2 := pushS_r op
 have hpo := pops_at h0 h1
 have hpu := pushes_at h0 h1
 have hal := aft_len op d c s
 have hal1 := aft1_len op d c s
 unfold aft at hal ⊢
 have ha : aft1 op d c s = (c, s.set (d - popS op).toNat true) := by unfold aft1; rw [if_pos h3]
 rw [ha] at hal1 hal ⊢
 simp only at hal1 hal ⊢
 clear ha
 generalize popS op = po at *
 generalize pushS op = pu at *
 obtain ⟨fr, e, f3, f6⟩ := l15 c (List.replicate 16 false) (16 - (d - po + pu).toNat) (d - po + pu).toNat (by omega) (s.set (d - po).toNat true) (by omega)
 have hc : (((d - po + pu).toNat : Nat) : Int) = d - po + pu := by omega
 rw [hc] at e
 have hput0 := mA_put (c := c) (s := s) (k := (d - po).toNat) (by first | omega | (simp only [List.length_set]; omega)) true
 generalize clr (16 - (d - po + pu).toNat) (d - po + pu).toNat (s.set (d - po).toNat true) = s3 at *
 generalize s.set (d - po).toNat true = s2 at *
 have e' : rl E 0 15 (loopAt Tryd.f15 0) [(3, .ptr 0 0 0 0), (6, .ptr 1 0 0 0), (8, .i (.v (.int .i64 (d - po + pu))))] [.box (mA c s2), .box [.i (.v (.bool false)), .i (.v (.bool false)), .i (.v (.bool false)), .i (.v (.bool false)), .i (.v (.bool false)), .i (.v (.bool false)), .i (.v (.bool false)), .i (.v (.bool false)), .i (.v (.bool false)), .i (.v (.bool false)), .i (.v (.bool false)), .i (.v (.bool false)), .i (.v (.bool false)), .i (.v (.bool false)), .i (.v (.bool false)), .i (.v (.bool false)), .i (.v (.bool false))]] = some (.exit 1, fr, [.box (mA c s3), .box [.i (.v (.bool false)), .i (.v (.bool false)), .i (.v (.bool false)), .i (.v (.bool false)), .i (.v (.bool false)), .i (.v (.bool false)), .i (.v (.bool false)), .i (.v (.bool false)), .i (.v (.bool false)), .i (.v (.bool false)), .i (.v (.bool false)), .i (.v (.bool false)), .i (.v (.bool false)), .i (.v (.bool false)), .i (.v (.bool false)), .i (.v (.bool false)), .i (.v (.bool false))]]) := e
 clear e
 have hs3 : s3.length = 16 := by omega
 have ht := mA_take (c := c) (s := s3) (n := 17) (by omega)
 rw [callT_eq Tryd.func15 rfl fok15 (by simp [Tryd.ntmps15])]
 simp (disch := first | omega | (simp only [vlen, mA_len]; omega)) only [vall, reduceCtorEq, ↓reduceIte, zq0, zq1, zq2, zq3, zq4, zq5, zq6, zq7, zq8, zq9, zq10, zq11, zq12, zq13, zq14, zq15, zq16, zq17, en15, h3.1, h3.2, hpo, hpu, hput0, e', f3, f6, ht, hs3, mA_len, mA_get0, mA_put0, mA_cn, mA_refs, mA_ren, mA_all, mA_frz, mI_ivs, mI_map, Nat.mul_one, Bool.true_or, Bool.false_or, lp15_15]
 exact ⟨_, rfl⟩
theorem c15_2 (op d : Int) (h0 : 0 ≤ op) (h1 : op ≤ 20) (hp : popS op ≤ d) (hq : d - popS op + pushS op ≤ 16) (hd : d ≤ 16) (c : Bool) (s : List Bool) (hs : s.length = 16) (h3 : 8 ≤ op ∧ op ≤ 12) :
  ∃ L, callT E 15 [.agg (mA c s), .i (.v (.int .i64 op)), .i (.v (.int .i64 d))] [] = some (.agg (mA (aft op d c s).1 (aft op d c s).2), L) := by
 have b1 := (pop_push op h0 h1).2.1 h3
 have p1 := popS_r op
 have p2 := pushS_r op
 have hpo := pops_at h0 h1
 have hpu := pushes_at h0 h1
 have hal := aft_len op d c s
 have hal1 := aft1_len op d c s
 unfold aft at hal ⊢
 have ha : aft1 op d c s = (c, s.set (d - 1 - 1).toNat (s.getD (d - 1 - 1).toNat false || s.getD (d - 1).toNat false)) := by unfold aft1; rw [if_neg (by omega), if_pos h3]
 rw [ha] at hal1 hal ⊢
 simp only at hal1 hal ⊢
 have hgx := mA_get' (c := c) (s := s) (k := (d - 1 - 1).toNat) (by omega)
 generalize s.getD (d - 1 - 1).toNat false = x at *
 have hgy := mA_get' (c := c) (s := s) (k := (d - 1).toNat) (by omega)
 generalize s.getD (d - 1).toNat false = y at *
 clear ha
 generalize popS op = po at *
 generalize pushS op = pu at *
 obtain ⟨fr, e, f3, f6⟩ := l15 c (List.replicate 16 false) (16 - (d - po + pu).toNat) (d - po + pu).toNat (by omega) (s.set (d - 1 - 1).toNat (x || y)) (by omega)
 have hc : (((d - po + pu).toNat : Nat) : Int) = d - po + pu := by omega
 rw [hc] at e
 have hput0 := mA_put (c := c) (s := s) (k := (d - 1 - 1).toNat) (by first | omega | (simp only [List.length_set]; omega)) (x || y)
 generalize clr (16 - (d - po + pu).toNat) (d - po + pu).toNat (s.set (d - 1 - 1).toNat (x || y)) = s3 at *
 generalize s.set (d - 1 - 1).toNat (x || y) = s2 at *
 have e' : rl E 0 15 (loopAt Tryd.f15 0) [(3, .ptr 0 0 0 0), (6, .ptr 1 0 0 0), (8, .i (.v (.int .i64 (d - po + pu))))] [.box (mA c s2), .box [.i (.v (.bool false)), .i (.v (.bool false)), .i (.v (.bool false)), .i (.v (.bool false)), .i (.v (.bool false)), .i (.v (.bool false)), .i (.v (.bool false)), .i (.v (.bool false)), .i (.v (.bool false)), .i (.v (.bool false)), .i (.v (.bool false)), .i (.v (.bool false)), .i (.v (.bool false)), .i (.v (.bool false)), .i (.v (.bool false)), .i (.v (.bool false)), .i (.v (.bool false))]] = some (.exit 1, fr, [.box (mA c s3), .box [.i (.v (.bool false)), .i (.v (.bool false)), .i (.v (.bool false)), .i (.v (.bool false)), .i (.v (.bool false)), .i (.v (.bool false)), .i (.v (.bool false)), .i (.v (.bool false)), .i (.v (.bool false)), .i (.v (.bool false)), .i (.v (.bool false)), .i (.v (.bool false)), .i (.v (.bool false)), .i (.v (.bool false)), .i (.v (.bool false)), .i (.v (.bool false)), .i (.v (.bool false))]]) := e
 clear e
 have hs3 : s3.length = 16 := by omega
 have ht := mA_take (c := c) (s := s3) (n := 17) (by omega)
 cases x
 ·simp only [Bool.true_or, Bool.false_or] at hput0
  rw [callT_eq Tryd.func15 rfl fok15 (by simp [Tryd.ntmps15])]
  simp (disch := first | omega | (simp only [vlen, mA_len]; omega)) only [vall, reduceCtorEq, ↓reduceIte, zq0, zq1, zq2, zq3, zq4, zq5, zq6, zq7, zq8, zq9, zq10, zq11, zq12, zq13, zq14, zq15, zq16, zq17, en15, h3.1, h3.2, hpo, hpu, hput0, hgx, hgy, e', f3, f6, ht, hs3, mA_len, mA_get0, mA_put0, mA_cn, mA_refs, mA_ren, mA_all, mA_frz, mI_ivs, mI_map, Nat.mul_one, Bool.true_or, Bool.false_or, lp15_15]
  exact ⟨_, rfl⟩
 ·simp only [Bool.true_or, Bool.false_or] at hput0
  rw [callT_eq Tryd.func15 rfl fok15 (by simp [Tryd.ntmps15])]
  simp (disch := first | omega | (simp only [vlen, mA_len]; omega)) only [vall, reduceCtorEq, ↓reduceIte, zq0, zq1, zq2, zq3, zq4, zq5, zq6, zq7, zq8, zq9, zq10, zq11, zq12, zq13, zq14, zq15, zq16, zq17, en15, h3.1, h3.2, hpo, hpu, hput0, hgx, hgy, e', f3, f6, ht, hs3, mA_len, mA_get0, mA_put0, mA_cn, mA_refs, mA_ren, mA_all, mA_frz, mI_ivs, mI_map, Nat.mul_one, Bool.true_or, Bool.false_or, lp15_15]
  exact ⟨_, rfl⟩
theorem c15_3 (op d : Int) (h0 : 0 ≤ op) (h1 : op ≤ 20) (hp : popS op ≤ d) (hq : d - popS op + pushS op ≤ 16) (hd : d ≤ 16) (c : Bool) (s : List Bool) (hs : s.length = 16) (h3 : op = 14) :
  ∃ L, callT E 15 [.agg (mA c s), .i (.v (.int .i64 op)), .i (.v (.int .i64 d))] [] = some (.agg (mA (aft op d c s).1 (aft op d c s).2), L) := by
 obtain ⟨b1, b2⟩ := (pop_push op h0 h1).2.2.1 h3
 have p1 := popS_r op
 have p2 := pushS_r op
 have hpo := pops_at h0 h1
 have hpu := pushes_at h0 h1
 have hal := aft_len op d c s
 have hal1 := aft1_len op d c s
 unfold aft at hal ⊢
 have ha : aft1 op d c s = (c, s.set d.toNat (s.getD (d - 1).toNat false)) := by unfold aft1; rw [if_neg (by omega), if_neg (by omega), if_pos h3]
 rw [ha] at hal1 hal ⊢
 simp only at hal1 hal ⊢
 have hgy := mA_get' (c := c) (s := s) (k := (d - 1).toNat) (by omega)
 generalize s.getD (d - 1).toNat false = y at *
 clear ha
 generalize popS op = po at *
 generalize pushS op = pu at *
 obtain ⟨fr, e, f3, f6⟩ := l15 c (List.replicate 16 false) (16 - (d - po + pu).toNat) (d - po + pu).toNat (by omega) (s.set d.toNat y) (by omega)
 have hc : (((d - po + pu).toNat : Nat) : Int) = d - po + pu := by omega
 rw [hc] at e
 have hput0 := mA_put (c := c) (s := s) (k := d.toNat) (by first | omega | (simp only [List.length_set]; omega)) y
 generalize clr (16 - (d - po + pu).toNat) (d - po + pu).toNat (s.set d.toNat y) = s3 at *
 generalize s.set d.toNat y = s2 at *
 have e' : rl E 0 15 (loopAt Tryd.f15 0) [(3, .ptr 0 0 0 0), (6, .ptr 1 0 0 0), (8, .i (.v (.int .i64 (d - po + pu))))] [.box (mA c s2), .box [.i (.v (.bool false)), .i (.v (.bool false)), .i (.v (.bool false)), .i (.v (.bool false)), .i (.v (.bool false)), .i (.v (.bool false)), .i (.v (.bool false)), .i (.v (.bool false)), .i (.v (.bool false)), .i (.v (.bool false)), .i (.v (.bool false)), .i (.v (.bool false)), .i (.v (.bool false)), .i (.v (.bool false)), .i (.v (.bool false)), .i (.v (.bool false)), .i (.v (.bool false))]] = some (.exit 1, fr, [.box (mA c s3), .box [.i (.v (.bool false)), .i (.v (.bool false)), .i (.v (.bool false)), .i (.v (.bool false)), .i (.v (.bool false)), .i (.v (.bool false)), .i (.v (.bool false)), .i (.v (.bool false)), .i (.v (.bool false)), .i (.v (.bool false)), .i (.v (.bool false)), .i (.v (.bool false)), .i (.v (.bool false)), .i (.v (.bool false)), .i (.v (.bool false)), .i (.v (.bool false)), .i (.v (.bool false))]]) := e
 clear e
 have hs3 : s3.length = 16 := by omega
 have ht := mA_take (c := c) (s := s3) (n := 17) (by omega)
 rw [callT_eq Tryd.func15 rfl fok15 (by simp [Tryd.ntmps15])]
 simp (disch := first | omega | (simp only [vlen, mA_len]; omega)) only [vall, reduceCtorEq, ↓reduceIte, zq0, zq1, zq2, zq3, zq4, zq5, zq6, zq7, zq8, zq9, zq10, zq11, zq12, zq13, zq14, zq15, zq16, zq17, en15, hd, hpo, hpu, hput0, hgy, e', f3, f6, ht, hs3, mA_len, mA_get0, mA_put0, mA_cn, mA_refs, mA_ren, mA_all, mA_frz, mI_ivs, mI_map, Nat.mul_one, Bool.true_or, Bool.false_or, lp15_15]
 exact ⟨_, rfl⟩
theorem c15_4 (op d : Int) (h0 : 0 ≤ op) (h1 : op ≤ 20) (hp : popS op ≤ d) (hq : d - popS op + pushS op ≤ 16) (hd : d ≤ 16) (c : Bool) (s : List Bool) (hs : s.length = 16) (h3 : op = 16) :
  ∃ L, callT E 15 [.agg (mA c s), .i (.v (.int .i64 op)), .i (.v (.int .i64 d))] [] = some (.agg (mA (aft op d c s).1 (aft op d c s).2), L) := by
 have b1 := (pop_push op h0 h1).2.2.2.1 h3
 have p1 := popS_r op
 have p2 := pushS_r op
 have hpo := pops_at h0 h1
 have hpu := pushes_at h0 h1
 have hal := aft_len op d c s
 have hal1 := aft1_len op d c s
 unfold aft at hal ⊢
 have ha : aft1 op d c s = (c, (s.set (d - 1 - 1).toNat (s.getD (d - 1).toNat false)).set (d - 1).toNat (s.getD (d - 1 - 1).toNat false)) := by unfold aft1; rw [if_neg (by omega), if_neg (by omega), if_neg (by omega), if_pos h3]
 rw [ha] at hal1 hal ⊢
 simp only at hal1 hal ⊢
 have hgx := mA_get' (c := c) (s := s) (k := (d - 1 - 1).toNat) (by omega)
 generalize s.getD (d - 1 - 1).toNat false = x at *
 have hgy := mA_get' (c := c) (s := s) (k := (d - 1).toNat) (by omega)
 generalize s.getD (d - 1).toNat false = y at *
 clear ha
 generalize popS op = po at *
 generalize pushS op = pu at *
 obtain ⟨fr, e, f3, f6⟩ := l15 c (List.replicate 16 false) (16 - (d - po + pu).toNat) (d - po + pu).toNat (by omega) ((s.set (d - 1 - 1).toNat y).set (d - 1).toNat x) (by omega)
 have hc : (((d - po + pu).toNat : Nat) : Int) = d - po + pu := by omega
 rw [hc] at e
 have hput0 := mA_put (c := c) (s := s) (k := (d - 1 - 1).toNat) (by first | omega | (simp only [List.length_set]; omega)) y
 have hput1 := mA_put (c := c) (s := (s.set (d - 1 - 1).toNat y)) (k := (d - 1).toNat) (by first | omega | (simp only [List.length_set]; omega)) x
 generalize clr (16 - (d - po + pu).toNat) (d - po + pu).toNat ((s.set (d - 1 - 1).toNat y).set (d - 1).toNat x) = s3 at *
 have e' : rl E 0 15 (loopAt Tryd.f15 0) [(3, .ptr 0 0 0 0), (6, .ptr 1 0 0 0), (8, .i (.v (.int .i64 (d - po + pu))))] [.box (mA c ((s.set (d - 1 - 1).toNat y).set (d - 1).toNat x)), .box [.i (.v (.bool false)), .i (.v (.bool false)), .i (.v (.bool false)), .i (.v (.bool false)), .i (.v (.bool false)), .i (.v (.bool false)), .i (.v (.bool false)), .i (.v (.bool false)), .i (.v (.bool false)), .i (.v (.bool false)), .i (.v (.bool false)), .i (.v (.bool false)), .i (.v (.bool false)), .i (.v (.bool false)), .i (.v (.bool false)), .i (.v (.bool false)), .i (.v (.bool false))]] = some (.exit 1, fr, [.box (mA c s3), .box [.i (.v (.bool false)), .i (.v (.bool false)), .i (.v (.bool false)), .i (.v (.bool false)), .i (.v (.bool false)), .i (.v (.bool false)), .i (.v (.bool false)), .i (.v (.bool false)), .i (.v (.bool false)), .i (.v (.bool false)), .i (.v (.bool false)), .i (.v (.bool false)), .i (.v (.bool false)), .i (.v (.bool false)), .i (.v (.bool false)), .i (.v (.bool false)), .i (.v (.bool false))]]) := e
 clear e
 have hs3 : s3.length = 16 := by omega
 have ht := mA_take (c := c) (s := s3) (n := 17) (by omega)
 rw [callT_eq Tryd.func15 rfl fok15 (by simp [Tryd.ntmps15])]
 simp (disch := first | omega | (simp only [vlen, mA_len]; omega)) only [vall, reduceCtorEq, ↓reduceIte, zq0, zq1, zq2, zq3, zq4, zq5, zq6, zq7, zq8, zq9, zq10, zq11, zq12, zq13, zq14, zq15, zq16, zq17, en15, hd, hpo, hpu, hput0, hput1, hgx, hgy, e', f3, f6, ht, hs3, mA_len, mA_get0, mA_put0, mA_cn, mA_refs, mA_ren, mA_all, mA_frz, mI_ivs, mI_map, Nat.mul_one, Bool.true_or, Bool.false_or, lp15_15]
 exact ⟨_, rfl⟩
theorem c15_5 (op d : Int) (h0 : 0 ≤ op) (h1 : op ≤ 20) (hp : popS op ≤ d) (hq : d - popS op + pushS op ≤ 16) (hd : d ≤ 16) (c : Bool) (s : List Bool) (hs : s.length = 16) (h3 : op = 18) :
  ∃ L, callT E 15 [.agg (mA c s), .i (.v (.int .i64 op)), .i (.v (.int .i64 d))] [] = some (.agg (mA (aft op d c s).1 (aft op d c s).2), L) := by
 have b1 := (pop_push op h0 h1).2.2.2.2.1 h3
 have p1 := popS_r op
 have p2 := pushS_r op
 have hpo := pops_at h0 h1
 have hpu := pushes_at h0 h1
 have hal := aft_len op d c s
 have hal1 := aft1_len op d c s
 unfold aft at hal ⊢
 have ha : aft1 op d c s = ((c || s.getD (d - 1).toNat false), s) := by unfold aft1; rw [if_neg (by omega), if_neg (by omega), if_neg (by omega), if_neg (by omega), if_pos h3]
 rw [ha] at hal1 hal ⊢
 simp only at hal1 hal ⊢
 have hgy := mA_get' (c := c) (s := s) (k := (d - 1).toNat) (by omega)
 generalize s.getD (d - 1).toNat false = y at *
 clear ha
 generalize popS op = po at *
 generalize pushS op = pu at *
 obtain ⟨fr, e, f3, f6⟩ := l15 (c || y) (List.replicate 16 false) (16 - (d - po + pu).toNat) (d - po + pu).toNat (by omega) (s) (by omega)
 have hc : (((d - po + pu).toNat : Nat) : Int) = d - po + pu := by omega
 rw [hc] at e
 generalize clr (16 - (d - po + pu).toNat) (d - po + pu).toNat s = s3 at *
 have e' : rl E 0 15 (loopAt Tryd.f15 0) [(3, .ptr 0 0 0 0), (6, .ptr 1 0 0 0), (8, .i (.v (.int .i64 (d - po + pu))))] [.box (mA (c || y) s), .box [.i (.v (.bool false)), .i (.v (.bool false)), .i (.v (.bool false)), .i (.v (.bool false)), .i (.v (.bool false)), .i (.v (.bool false)), .i (.v (.bool false)), .i (.v (.bool false)), .i (.v (.bool false)), .i (.v (.bool false)), .i (.v (.bool false)), .i (.v (.bool false)), .i (.v (.bool false)), .i (.v (.bool false)), .i (.v (.bool false)), .i (.v (.bool false)), .i (.v (.bool false))]] = some (.exit 1, fr, [.box (mA (c || y) s3), .box [.i (.v (.bool false)), .i (.v (.bool false)), .i (.v (.bool false)), .i (.v (.bool false)), .i (.v (.bool false)), .i (.v (.bool false)), .i (.v (.bool false)), .i (.v (.bool false)), .i (.v (.bool false)), .i (.v (.bool false)), .i (.v (.bool false)), .i (.v (.bool false)), .i (.v (.bool false)), .i (.v (.bool false)), .i (.v (.bool false)), .i (.v (.bool false)), .i (.v (.bool false))]]) := e
 clear e
 have hs3 : s3.length = 16 := by omega
 have ht := mA_take (c := (c || y)) (s := s3) (n := 17) (by omega)
 cases c
 ·simp only [Bool.true_or, Bool.false_or] at e' ht ⊢
  rw [callT_eq Tryd.func15 rfl fok15 (by simp [Tryd.ntmps15])]
  simp (disch := first | omega | (simp only [vlen, mA_len]; omega)) only [vall, reduceCtorEq, ↓reduceIte, zq0, zq1, zq2, zq3, zq4, zq5, zq6, zq7, zq8, zq9, zq10, zq11, zq12, zq13, zq14, zq15, zq16, zq17, en15, hd, hpo, hpu, hgy, e', f3, f6, ht, hs3, mA_len, mA_get0, mA_put0, mA_cn, mA_refs, mA_ren, mA_all, mA_frz, mI_ivs, mI_map, Nat.mul_one, Bool.true_or, Bool.false_or, lp15_15]
  exact ⟨_, rfl⟩
 ·simp only [Bool.true_or, Bool.false_or] at e' ht ⊢
  rw [callT_eq Tryd.func15 rfl fok15 (by simp [Tryd.ntmps15])]
  simp (disch := first | omega | (simp only [vlen, mA_len]; omega)) only [vall, reduceCtorEq, ↓reduceIte, zq0, zq1, zq2, zq3, zq4, zq5, zq6, zq7, zq8, zq9, zq10, zq11, zq12, zq13, zq14, zq15, zq16, zq17, en15, hd, hpo, hpu, hgy, e', f3, f6, ht, hs3, mA_len, mA_get0, mA_put0, mA_cn, mA_refs, mA_ren, mA_all, mA_frz, mI_ivs, mI_map, Nat.mul_one, Bool.true_or, Bool.false_or, lp15_15]
  exact ⟨_, rfl⟩
theorem c15_6 (op d : Int) (h0 : 0 ≤ op) (h1 : op ≤ 20) (hp : popS op ≤ d) (hq : d - popS op + pushS op ≤ 16) (hd : d ≤ 16) (c : Bool) (s : List Bool) (hs : s.length = 16) (h3 : op < 3 ∨ 5 < op ∧ op < 8) (h4 : pushS op = 1) :
  ∃ L, callT E 15 [.agg (mA c s), .i (.v (.int .i64 op)), .i (.v (.int .i64 d))] [] = some (.agg (mA (aft op d c s).1 (aft op d c s).2), L) := by
 have b1 := (pop_push op h0 h1).2.2.2.2.2.2 ⟨h4, by omega, by omega, by omega⟩
 have p1 := popS_r op
 have p2 := pushS_r op
 have hpo := pops_at h0 h1
 have hpu := pushes_at h0 h1
 have hal := aft_len op d c s
 have hal1 := aft1_len op d c s
 unfold aft at hal ⊢
 have ha : aft1 op d c s = (c, s.set d.toNat false) := by unfold aft1; rw [if_neg (by omega), if_neg (by omega), if_neg (by omega), if_neg (by omega), if_neg (by omega), if_pos ⟨by omega, h4⟩]
 rw [ha] at hal1 hal ⊢
 simp only at hal1 hal ⊢
 clear ha
 generalize popS op = po at *
 generalize pushS op = pu at *
 obtain ⟨fr, e, f3, f6⟩ := l15 c (List.replicate 16 false) (16 - (d - po + pu).toNat) (d - po + pu).toNat (by omega) (s.set d.toNat false) (by omega)
 have hc : (((d - po + pu).toNat : Nat) : Int) = d - po + pu := by omega
 rw [hc] at e
 have hput0 := mA_put (c := c) (s := s) (k := d.toNat) (by first | omega | (simp only [List.length_set]; omega)) false
 generalize clr (16 - (d - po + pu).toNat) (d - po + pu).toNat (s.set d.toNat false) = s3 at *
 generalize s.set d.toNat false = s2 at *
 have e' : rl E 0 15 (loopAt Tryd.f15 0) [(3, .ptr 0 0 0 0), (6, .ptr 1 0 0 0), (8, .i (.v (.int .i64 (d - po + pu))))] [.box (mA c s2), .box [.i (.v (.bool false)), .i (.v (.bool false)), .i (.v (.bool false)), .i (.v (.bool false)), .i (.v (.bool false)), .i (.v (.bool false)), .i (.v (.bool false)), .i (.v (.bool false)), .i (.v (.bool false)), .i (.v (.bool false)), .i (.v (.bool false)), .i (.v (.bool false)), .i (.v (.bool false)), .i (.v (.bool false)), .i (.v (.bool false)), .i (.v (.bool false)), .i (.v (.bool false))]] = some (.exit 1, fr, [.box (mA c s3), .box [.i (.v (.bool false)), .i (.v (.bool false)), .i (.v (.bool false)), .i (.v (.bool false)), .i (.v (.bool false)), .i (.v (.bool false)), .i (.v (.bool false)), .i (.v (.bool false)), .i (.v (.bool false)), .i (.v (.bool false)), .i (.v (.bool false)), .i (.v (.bool false)), .i (.v (.bool false)), .i (.v (.bool false)), .i (.v (.bool false)), .i (.v (.bool false)), .i (.v (.bool false))]]) := e
 clear e
 have hs3 : s3.length = 16 := by omega
 have ht := mA_take (c := c) (s := s3) (n := 17) (by omega)
 rcases h3 with h3 | h3
 ·have h5 : ¬ 3 ≤ op := by omega
  rw [callT_eq Tryd.func15 rfl fok15 (by simp [Tryd.ntmps15])]
  simp (disch := first | omega | (simp only [vlen, mA_len]; omega)) only [vall, reduceCtorEq, ↓reduceIte, zq0, zq1, zq2, zq3, zq4, zq5, zq6, zq7, zq8, zq9, zq10, zq11, zq12, zq13, zq14, zq15, zq16, zq17, en15, h5, hpo, hpu, hput0, e', f3, f6, ht, hs3, mA_len, mA_get0, mA_put0, mA_cn, mA_refs, mA_ren, mA_all, mA_frz, mI_ivs, mI_map, Nat.mul_one, Bool.true_or, Bool.false_or, lp15_15]
  exact ⟨_, rfl⟩
 ·have h5 : 3 ≤ op := by omega
  rw [callT_eq Tryd.func15 rfl fok15 (by simp [Tryd.ntmps15])]
  simp (disch := first | omega | (simp only [vlen, mA_len]; omega)) only [vall, reduceCtorEq, ↓reduceIte, zq0, zq1, zq2, zq3, zq4, zq5, zq6, zq7, zq8, zq9, zq10, zq11, zq12, zq13, zq14, zq15, zq16, zq17, en15, h5, h3.1, h3.2, hpo, hpu, hput0, e', f3, f6, ht, hs3, mA_len, mA_get0, mA_put0, mA_cn, mA_refs, mA_ren, mA_all, mA_frz, mI_ivs, mI_map, Nat.mul_one, Bool.true_or, Bool.false_or, lp15_15]
  exact ⟨_, rfl⟩
theorem c15_7 (op d : Int) (h0 : 0 ≤ op) (h1 : op ≤ 20) (hp : popS op ≤ d) (hq : d - popS op + pushS op ≤ 16) (hd : d ≤ 16) (c : Bool) (s : List Bool) (hs : s.length = 16) (h3 : op < 3 ∨ 12 < op ∧ op ≠ 14 ∧ op ≠ 16 ∧ op ≠ 18) (h4 : op = 13 ∨ pushS op ≠ 1) :
  ∃ L, callT E 15 [.agg (mA c s), .i (.v (.int .i64 op)), .i (.v (.int .i64 d))] [] = some (.agg (mA (aft op d c s).1 (aft op d c s).2), L) := by
 have p1 := popS_r op
 have p2 := pushS_r op
 have hpo := pops_at h0 h1
 have hpu := pushes_at h0 h1
 have hal := aft_len op d c s
 have hal1 := aft1_len op d c s
 unfold aft at hal ⊢
 have ha : aft1 op d c s = (c, s) := by unfold aft1; rw [if_neg (by omega), if_neg (by omega), if_neg (by omega), if_neg (by omega), if_neg (by omega), if_neg (by omega)]
 rw [ha] at hal1 hal ⊢
 simp only at hal1 hal ⊢
 clear ha
 generalize popS op = po at *
 generalize pushS op = pu at *
 obtain ⟨fr, e, f3, f6⟩ := l15 c (List.replicate 16 false) (16 - (d - po + pu).toNat) (d - po + pu).toNat (by omega) (s) (by omega)
 have hc : (((d - po + pu).toNat : Nat) : Int) = d - po + pu := by omega
 rw [hc] at e
 generalize clr (16 - (d - po + pu).toNat) (d - po + pu).toNat s = s3 at *
 have e' : rl E 0 15 (loopAt Tryd.f15 0) [(3, .ptr 0 0 0 0), (6, .ptr 1 0 0 0), (8, .i (.v (.int .i64 (d - po + pu))))] [.box (mA c s), .box [.i (.v (.bool false)), .i (.v (.bool false)), .i (.v (.bool false)), .i (.v (.bool false)), .i (.v (.bool false)), .i (.v (.bool false)), .i (.v (.bool false)), .i (.v (.bool false)), .i (.v (.bool false)), .i (.v (.bool false)), .i (.v (.bool false)), .i (.v (.bool false)), .i (.v (.bool false)), .i (.v (.bool false)), .i (.v (.bool false)), .i (.v (.bool false)), .i (.v (.bool false))]] = some (.exit 1, fr, [.box (mA c s3), .box [.i (.v (.bool false)), .i (.v (.bool false)), .i (.v (.bool false)), .i (.v (.bool false)), .i (.v (.bool false)), .i (.v (.bool false)), .i (.v (.bool false)), .i (.v (.bool false)), .i (.v (.bool false)), .i (.v (.bool false)), .i (.v (.bool false)), .i (.v (.bool false)), .i (.v (.bool false)), .i (.v (.bool false)), .i (.v (.bool false)), .i (.v (.bool false)), .i (.v (.bool false))]]) := e
 clear e
 have hs3 : s3.length = 16 := by omega
 have ht := mA_take (c := c) (s := s3) (n := 17) (by omega)
 rcases h3 with h3 | h3
 ·have h5 : ¬ 3 ≤ op := by omega
  have h6 := h4.resolve_left (by omega)
  rw [callT_eq Tryd.func15 rfl fok15 (by simp [Tryd.ntmps15])]
  simp (disch := first | omega | (simp only [vlen, mA_len]; omega)) only [vall, reduceCtorEq, ↓reduceIte, zq0, zq1, zq2, zq3, zq4, zq5, zq6, zq7, zq8, zq9, zq10, zq11, zq12, zq13, zq14, zq15, zq16, zq17, en15, h6, h5, hpo, hpu, e', f3, f6, ht, hs3, mA_len, mA_get0, mA_put0, mA_cn, mA_refs, mA_ren, mA_all, mA_frz, mI_ivs, mI_map, Nat.mul_one, Bool.true_or, Bool.false_or, lp15_15]
  exact ⟨_, rfl⟩
 ·obtain ⟨h5, h6, h7, h8⟩ := h3
  by_cases h9 : op = 13
  ·have h10 : 3 ≤ op := by omega
   rw [callT_eq Tryd.func15 rfl fok15 (by simp [Tryd.ntmps15])]
   simp (disch := first | omega | (simp only [vlen, mA_len]; omega)) only [vall, reduceCtorEq, ↓reduceIte, zq0, zq1, zq2, zq3, zq4, zq5, zq6, zq7, zq8, zq9, zq10, zq11, zq12, zq13, zq14, zq15, zq16, zq17, en15, h10, h5, h6, h7, h8, hpo, hpu, e', f3, f6, ht, hs3, mA_len, mA_get0, mA_put0, mA_cn, mA_refs, mA_ren, mA_all, mA_frz, mI_ivs, mI_map, Nat.mul_one, Bool.true_or, Bool.false_or, lp15_15]
   exact ⟨_, rfl⟩
  ·have h10 := h4.resolve_left h9
   rw [callT_eq Tryd.func15 rfl fok15 (by simp [Tryd.ntmps15])]
   simp (disch := first | omega | (simp only [vlen, mA_len]; omega)) only [vall, reduceCtorEq, ↓reduceIte, zq0, zq1, zq2, zq3, zq4, zq5, zq6, zq7, zq8, zq9, zq10, zq11, zq12, zq13, zq14, zq15, zq16, zq17, en15, h9, h10, h5, h6, h7, h8, hpo, hpu, e', f3, f6, ht, hs3, mA_len, mA_get0, mA_put0, mA_cn, mA_refs, mA_ren, mA_all, mA_frz, mI_ivs, mI_map, Nat.mul_one, Bool.true_or, Bool.false_or, lp15_15]
   exact ⟨_, rfl⟩
theorem c15 (op d : Int) (h0 : 0 ≤ op) (h1 : op ≤ 20) (hp : popS op ≤ d) (hq : d - popS op + pushS op ≤ 16) (hd : d ≤ 16) (c : Bool) (s : List Bool) (hs : s.length = 16) :
  ∃ L, callT E 15 [.agg (mA c s), .i (.v (.int .i64 op)), .i (.v (.int .i64 d))] [] = some (.agg (mA (aft op d c s).1 (aft op d c s).2), L) := by
 by_cases a1 : 3 ≤ op ∧ op ≤ 5
 ·exact c15_1 op d h0 h1 hp hq hd c s hs a1
 by_cases a2 : 8 ≤ op ∧ op ≤ 12
 ·exact c15_2 op d h0 h1 hp hq hd c s hs a2
 by_cases a3 : op = 14
 ·exact c15_3 op d h0 h1 hp hq hd c s hs a3
 by_cases a4 : op = 16
 ·exact c15_4 op d h0 h1 hp hq hd c s hs a4
 by_cases a5 : op = 18
 ·exact c15_5 op d h0 h1 hp hq hd c s hs a5
 by_cases a6 : op < 3 ∨ 5 < op ∧ op < 8
 ·by_cases a7 : pushS op = 1
  ·exact c15_6 op d h0 h1 hp hq hd c s hs a6 a7
  ·by_cases a8 : op < 3
   ·exact c15_7 op d h0 h1 hp hq hd c s hs (.inl a8) (.inr a7)
   ·exfalso
    have : op = 6 ∨ op = 7 := by omega
    rcases this with h | h <;> subst h <;> exact a7 (by decide)
 ·refine c15_7 op d h0 h1 hp hq hd c s hs (.inr ⟨by omega, a3, a4, a5⟩) ?_
  have : op = 13 ∨ op = 15 ∨ op = 17 ∨ op = 19 ∨ op = 20 := by omega
  rcases this with h | h | h | h | h <;> subst h <;> decide
end Go.VI

namespace Go.VI
open Go.Proofs
set_option maxRecDepth 100000
set_option linter.unusedSimpArgs false
set_option linter.unusedVariables false
set_option maxHeartbeats 4000000
section
variable {E : Env} {B : Nat} {f : FuncId} {fn : Func} {k j : Nat} {c : Code} {hd : List Nat}
def loopIn (fn : Func) (k j : Nat) : Code := (loops (rfAt fn k).2).getD j .skip
theorem rl_introI (hc : loopIn fn k j = .loop c) (hm : E.mat f ((firstRegion c).getD 0) = []) (hb : E.matb f ((firstRegion c).getD 0) = []) (hz : E.frz f ((firstRegion c).getD 0) = []) (hh : E.head f ((firstRegion c).getD 0) = hd) (fr : Fr) (H : Hp) : execT E B f (.loop c) fr H = rlG E B f (loopIn fn k j) (gcn B (norm hd fr) H) := by
 unfold rlG rl
 rw [hc, execT_loop]
 simp only [hdE, hm, hb, hz, hh, matF_nil, matB_nil, frzF_nil]
theorem rl_stepI (hc : loopIn fn k j = .loop c) (fr : Fr) (H : Hp) : rl E B f (loopIn fn k j) fr H = seqK (execT E B f (.loop c)) (execT E B f c fr H) := by
 unfold rl
 rw [hc]
end
abbrev Mk := Bool × List Bool
def rowsM (ms : List Mk) : List (List IV) := ms.map fun m => mI m.1 m.2
def getM (ms : List Mk) (k : Nat) : Mk := ms.getD k (false, [])
theorem rowsM_len (ms : List Mk) : (rowsM ms).length = ms.length := by simp [rowsM]
theorem rowsM_get {ms : List Mk} {k : Nat} (h : k < ms.length) : (rowsM ms)[k]? = some (mI (getM ms k).1 (getM ms k).2) := by
 rw [getM, List.getD_eq_getElem?_getD, List.getElem?_eq_getElem h]; simp [rowsM, h]
theorem rowsM_set (ms : List Mk) (k : Nat) (c : Bool) (s : List Bool) : (rowsM ms).set k (mI c s) = rowsM (ms.set k (c, s)) := by simp [rowsM, List.map_set]
theorem mI_get {c : Bool} {s : List Bool} {k : Nat} (h : k < s.length) : (mI c s)[1 + k]? = some (.v (.bool (s.getD k false))) := by
 rw [Nat.add_comm, List.getD_eq_getElem?_getD, List.getElem?_eq_getElem h]; simp [mI, h]
theorem mI_get0 (c : Bool) (s : List Bool) : (mI c s)[0]? = some (.v (.bool c)) := rfl
theorem mI_put {c : Bool} {s : List Bool} {k : Nat} (h : k < s.length) (x : Bool) : List.take (1 + k) (mI c s) ++ [.v (.bool x)] ++ List.drop (1 + k + 1) (mI c s) = mI c (s.set k x) := by
 have h1 : (mI c s).set (k + 1) (.v (.bool x)) = mI c (s.set k x) := by simp [mI, List.map_set]
 rw [← h1, List.set_eq_take_append_cons_drop, if_pos (by rw [mI_len]; omega), Nat.add_comm 1 k]
 simp
theorem mI_tail (c x : Bool) (s : List Bool) : IV.v (.bool x) :: List.drop 1 (mI c s) = mI x s := rfl
def orR : Nat → Nat → List Bool → List Bool → List Bool
 | 0, _, _, t => t
 | r + 1, j, s, t => orR r (j + 1) s (t.set j (t.getD j false || s.getD j false))
theorem orR_len : ∀ (r j : Nat) (s t : List Bool), (orR r j s t).length = t.length
 | 0, j, s, t => rfl
 | r + 1, j, s, t => by rw [orR, orR_len r, List.length_set]
theorem getM_set {ms : List Mk} {k : Nat} (h : k < ms.length) (m : Mk) : getM (ms.set k m) k = m := by
 rw [getM, List.getD_eq_getElem?_getD, List.getElem?_set_self (by simpa using h)]; rfl
def arr (s : List Bool) : List AV := s.map fun b => .i (.v (.bool b))
theorem arr_get {s : List Bool} {k : Nat} (h : k < s.length) : (arr s)[k]? = some (.i (.v (.bool (s.getD k false)))) := by
 rw [List.getD_eq_getElem?_getD, List.getElem?_eq_getElem h]; simp [arr, h]
theorem arr_len (s : List Bool) : (arr s).length = s.length := by simp [arr]
theorem arr_cn (B : Nat) (H : Hp) : ∀ s : List Bool, cnL B H (arr s) = arr s
 | [] => rfl
 | b :: s => by
  have ih := arr_cn B H s
  unfold arr at ih ⊢
  rw [List.map_cons, cnL, ih]; rfl
theorem arr_refs : ∀ s : List Bool, refsL (arr s) = []
 | [] => rfl
 | b :: s => by
  have ih := arr_refs s
  unfold arr at ih ⊢
  rw [List.map_cons, refsL, ih]; rfl
theorem arr_ren (ρ : Nat → Option Nat) : ∀ s : List Bool, renL ρ (arr s) = arr s
 | [] => rfl
 | b :: s => by
  have ih := arr_ren ρ s
  unfold arr at ih ⊢
  rw [List.map_cons, renL, ih]; rfl
set_option linter.defProp false in
def lp6_17 := show ∀ B fr H, execT E B 6 (Code.loop _) fr H = rlG E B 6 (loopIn Tryd.f6 0 0) (gcn B (norm [6, 10, 89, 90] fr) H) from fun B fr H => rl_introI rfl mt6_17 mb6_17 zf6_17 hd6_17 fr H
theorem l6_1 (n : Nat) (hn : n < 10000) (op arg i : Int) (c : Bool) (s : List Bool) (hs : s.length = 16) (x : Nat) (hx : x < n) : ∀ (r j : Nat) (hj : j + r = 16) (ms : List Mk) (hm : ms.length = n) (t : Mk) (ht : getM ms x = t) (htl : t.2.length = 16),
  ∃ fr, rl E 6 6 (loopIn Tryd.f6 0 0) [(6, .ptr 0 0 0 0), (10, .i (.v (.int .i64 x))), (89, .agg (arr s)), (90, .i (.v (.int .i64 j)))] [.box [.ref 1 0 0 (n)], .sl 17 0 (rowsM (ms)) false, .box [.i (.v (.int .i64 (op))), .i (.v (.int .i64 (arg)))], .box (mA (c) (s)), .box [.i (.v (.int .i64 (op))), .i (.v (.int .i64 (arg)))], .box [.i (.v (.int .i64 (i)))]] = some (.exit 4, fr, [.box [.ref 1 0 0 (n)], .sl 17 0 (rowsM (ms.set x (t.1, orR r j s t.2))) false, .box [.i (.v (.int .i64 (op))), .i (.v (.int .i64 (arg)))], .box (mA (c) (s)), .box [.i (.v (.int .i64 (op))), .i (.v (.int .i64 (arg)))], .box [.i (.v (.int .i64 (i)))]])
 | 0, j, hj, ms, hm, t, ht, htl => by
  rw [rl_stepI (fn := Tryd.f6) (k := 0) (j := 0) rfl]
  obtain rfl : j = 16 := by omega
  have hset : ms.set x (t.1, t.2) = ms := by
   rw [← ht, getM, List.getD_eq_getElem?_getD, List.getElem?_eq_getElem (by omega)]
   exact List.set_getElem_self (by omega)
  rw [orR, hset]
  simp (disch := first | omega | (simp only [vlen]; omega)) only [vall, reduceCtorEq, ↓reduceIte, zq0, zq1, zq2, zq3, zq4, zq5, zq6, zq7, zq8, zq9, zq10, zq11, zq12, zq13, zq14, zq15, zq16, zq17, en6, bs22, bs45, bs48, show List.range 6 = [0, 1, 2, 3, 4, 5] from rfl, arr_cn, arr_refs, arr_ren, mA_cn, mA_refs, mA_ren, lp6_17]
  exact ⟨_, rfl⟩
 | r + 1, j, hj, ms, hm, t, ht, htl => by
  rw [rl_stepI (fn := Tryd.f6) (k := 0) (j := 0) rfl]
  rw [orR]
  have hrow := rowsM_get (ms := ms) (k := x) (by omega)
  rw [ht] at hrow
  obtain ⟨tc, ts⟩ := t
  simp only at hrow htl ⊢
  obtain ⟨fr, e⟩ := l6_1 n hn op arg i c s hs x hx r (j + 1) (by omega) (ms.set x (tc, ts.set j (ts.getD j false || s.getD j false))) (by rw [List.length_set]; exact hm) (tc, ts.set j (ts.getD j false || s.getD j false)) (getM_set (by omega) _) (by rw [List.length_set]; exact htl)
  rw [List.set_set] at e
  refine ⟨fr, Eq.trans ?_ e⟩
  clear e ht
  have hg := mI_get (c := tc) (s := ts) (k := j) (by omega)
  have ha := arr_get (s := s) (k := j) (by omega)
  have hput := mI_put (c := tc) (s := ts) (k := j) (by omega) (ts.getD j false || s.getD j false)
  have hst := rowsM_set ms x tc (ts.set j (ts.getD j false || s.getD j false))
  generalize ts.getD j false = tb at *
  generalize s.getD j false = sb at *
  have hal := arr_len s
  cases tb
  ·simp only [Bool.false_or] at hput hst ⊢
   simp (disch := first | omega | (simp only [vlen, rowsM_len, mI_len]; omega)) only [vall, reduceCtorEq, ↓reduceIte, zq0, zq1, zq2, zq3, zq4, zq5, zq6, zq7, zq8, zq9, zq10, zq11, zq12, zq13, zq14, zq15, zq16, zq17, en6, bs22, bs45, bs48, hrow, hg, ha, hput, hst, hal, hs, rowsM_len, mI_len, Nat.mul_one, show List.range 6 = [0, 1, 2, 3, 4, 5] from rfl, arr_cn, arr_refs, arr_ren, mA_cn, mA_refs, mA_ren, lp6_17]
  ·simp only [Bool.true_or] at hput hst ⊢
   simp (disch := first | omega | (simp only [vlen, rowsM_len, mI_len]; omega)) only [vall, reduceCtorEq, ↓reduceIte, zq0, zq1, zq2, zq3, zq4, zq5, zq6, zq7, zq8, zq9, zq10, zq11, zq12, zq13, zq14, zq15, zq16, zq17, en6, bs22, bs45, bs48, hrow, hg, ha, hput, hst, hal, hs, rowsM_len, mI_len, Nat.mul_one, show List.range 6 = [0, 1, 2, 3, 4, 5] from rfl, arr_cn, arr_refs, arr_ren, mA_cn, mA_refs, mA_ren, lp6_17]
end Go.VI

namespace Go.VI
open Go.Proofs
set_option maxRecDepth 100000
set_option linter.unusedSimpArgs false
set_option linter.unusedVariables false
set_option maxHeartbeats 4000000
def joinM (m t : Mk) : Mk := (t.1 || m.1, orR 16 0 m.2 t.2)
def hSet (m : Mk) : List Int → List Mk → List Mk
 | [], ms => ms
 | x :: xs, ms => hSet m xs (ms.set x.toNat (joinM m (getM ms x.toNat)))
theorem hSet_len (m : Mk) : ∀ (xs : List Int) (ms : List Mk), (hSet m xs ms).length = ms.length
 | [], ms => rfl
 | x :: xs, ms => by rw [hSet, hSet_len m xs, List.length_set]
def Wf (ms : List Mk) : Prop := ∀ m ∈ ms, m.2.length = 16
theorem Wf.get {ms : List Mk} (h : Wf ms) {k : Nat} (hk : k < ms.length) : (getM ms k).2.length = 16 := by
 rw [getM, List.getD_eq_getElem?_getD, List.getElem?_eq_getElem hk]; exact h _ (List.getElem_mem _)
theorem Wf.set {ms : List Mk} (h : Wf ms) (k : Nat) {m : Mk} (hm : m.2.length = 16) : Wf (ms.set k m) := fun x hx => by
 rcases List.mem_or_eq_of_mem_set hx with h1 | h1
 ·exact h x h1
 ·rw [h1]; exact hm
theorem Wf.hSet {m : Mk} : ∀ (xs : List Int) {ms : List Mk}, Wf ms → (∀ x ∈ xs, 0 ≤ x ∧ x < ms.length) → Wf (hSet m xs ms)
 | [], ms, h, hx => h
 | x :: xs, ms, h, hx => by
  rw [VI.hSet]
  have := hx x (.head _)
  exact Wf.hSet xs (h.set _ (by rw [joinM, orR_len]; exact h.get (by omega))) (fun y hy => by rw [List.length_set]; exact hx y (.tail _ hy))
theorem rd6 (l : List Ins) (ds : List Int) (n : Nat) (hn : n < 10000) (op arg i k : Int) (c : Bool) (s : List Bool) (hs : s.length = 16) (x : Int) (hx : 0 ≤ x ∧ x < n) (ms : List Mk) (hm : ms.length = n) (hw : Wf ms) :
  rdF E 6 (rfAt Tryd.f6 0) ((74, .i (.v (.int .i64 x))) :: [(2, .i (.v (.bool false))), (3, .i (.v (.int .i64 0))), (4, .i (.sl 1 (rows64 ds) false)), (6, .ptr 0 0 0 0), (9, .ptr 3 0 0 0), (25, .i (.sl 2 (rowsI l) false)), (26, .i (.v (.int .i64 l.length))), (27, .i (.v (.int .i64 (k)))), (73, .clo (.func 29) [] [.ptr 4 0 0 0, .ptr 5 0 0 0])]) [.box [.ref 1 0 0 (n)], .sl 17 0 (rowsM (ms)) false, .box [.i (.v (.int .i64 (op))), .i (.v (.int .i64 (arg)))], .box (mA (c) (s)), .box [.i (.v (.int .i64 (op))), .i (.v (.int .i64 (arg)))], .box [.i (.v (.int .i64 (i)))]] = some (.normal, [.box [.ref 1 0 0 (n)], .sl 17 0 (rowsM (ms.set x.toNat (joinM (c, s) (getM ms x.toNat)))) false, .box [.i (.v (.int .i64 (op))), .i (.v (.int .i64 (arg)))], .box (mA (c) (s)), .box [.i (.v (.int .i64 (op))), .i (.v (.int .i64 (arg)))], .box [.i (.v (.int .i64 (i)))]]) := by
 have hxn : x.toNat < ms.length := by omega
 have hrow := rowsM_get hxn
 have htl := hw.get hxn
 generalize ht : getM ms x.toNat = t at *
 obtain ⟨tc, ts⟩ := t
 simp only [joinM] at hrow htl ⊢
 obtain ⟨fr, e⟩ := l6_1 n hn op arg i c s hs x.toNat (by omega) 16 0 rfl (ms.set x.toNat (tc || c, ts)) (by rw [List.length_set]; exact hm) (tc || c, ts) (getM_set hxn _) htl
 rw [List.set_set] at e
 have hc : ((x.toNat : Nat) : Int) = x := by omega
 rw [hc] at e
 have e' : rl E 6 6 (loopIn Tryd.f6 0 0) [(6, .ptr 0 0 0 0), (10, .i (.v (.int .i64 x))), (89, .agg (arr s)), (90, .i (.v (.int .i64 0)))] [.box [.ref 1 0 0 (n)], .sl 17 0 (rowsM (ms.set x.toNat (tc || c, ts))) false, .box [.i (.v (.int .i64 (op))), .i (.v (.int .i64 (arg)))], .box (mA (c) (s)), .box [.i (.v (.int .i64 (op))), .i (.v (.int .i64 (arg)))], .box [.i (.v (.int .i64 (i)))]] = _ := e
 clear e
 have hst := rowsM_set ms x.toNat (tc || c) ts
 have harr : List.drop 1 (mA c s) = arr s := rfl
 have hart : List.take 16 (arr s) = arr s := List.take_of_length_le (by rw [arr_len, hs]; exact Nat.le_refl _)
 generalize orR 16 0 s ts = ts2 at *
 cases tc
 ·simp only [Bool.false_or] at hst e' ⊢
  rw [rd_step (fn := Tryd.f6) (k := 0) rfl]
  simp (disch := first | omega | (simp only [vlen, rowsM_len, mI_len, mA_len]; omega)) only [vall, reduceCtorEq, ↓reduceIte, zq0, zq1, zq2, zq3, zq4, zq5, zq6, zq7, zq8, zq9, zq10, zq11, zq12, zq13, zq14, zq15, zq16, zq17, en6, bs22, bs45, bs48, hrow, hst, hs, harr, hart, e', rowsM_len, mI_len, mA_len, mI_get0, mA_get0, mI_tail, Nat.mul_one, show List.range 6 = [0, 1, 2, 3, 4, 5] from rfl, arr_cn, arr_refs, arr_ren, mA_cn, mA_refs, mA_ren, lp6_17]
 ·simp only [Bool.true_or] at hst e' ⊢
  rw [rd_step (fn := Tryd.f6) (k := 0) rfl]
  simp (disch := first | omega | (simp only [vlen, rowsM_len, mI_len, mA_len]; omega)) only [vall, reduceCtorEq, ↓reduceIte, zq0, zq1, zq2, zq3, zq4, zq5, zq6, zq7, zq8, zq9, zq10, zq11, zq12, zq13, zq14, zq15, zq16, zq17, en6, bs22, bs45, bs48, hrow, hst, hs, harr, hart, e', rowsM_len, mI_len, mA_len, mI_get0, mA_get0, mI_tail, Nat.mul_one, show List.range 6 = [0, 1, 2, 3, 4, 5] from rfl, arr_cn, arr_refs, arr_ren, mA_cn, mA_refs, mA_ren, lp6_17]
theorem rg6 (l : List Ins) (ds : List Int) (n : Nat) (hn : n < 10000) (op arg k : Int) (i : Int) (c : Bool) (s : List Bool) (hs : s.length = 16) : ∀ (xs : List Int), (∀ x ∈ xs, 0 ≤ x ∧ x < n) → ∀ ms : List Mk, ms.length = n → Wf ms →
  rgE (rdF E 6 (rfAt Tryd.f6 0)) 74 [(2, .i (.v (.bool false))), (3, .i (.v (.int .i64 0))), (4, .i (.sl 1 (rows64 ds) false)), (6, .ptr 0 0 0 0), (9, .ptr 3 0 0 0), (25, .i (.sl 2 (rowsI l) false)), (26, .i (.v (.int .i64 l.length))), (27, .i (.v (.int .i64 (k)))), (73, .clo (.func 29) [] [.ptr 4 0 0 0, .ptr 5 0 0 0])] [.ptr 4 0 0 0, .ptr 5 0 0 0] [[op, arg], [i]] xs [.box [.ref 1 0 0 (n)], .sl 17 0 (rowsM (ms)) false, .box [.i (.v (.int .i64 (op))), .i (.v (.int .i64 (arg)))], .box (mA (c) (s)), .box [.i (.v (.int .i64 (op))), .i (.v (.int .i64 (arg)))], .box [.i (.v (.int .i64 (i)))]] = some (.normal, [(2, .i (.v (.bool false))), (3, .i (.v (.int .i64 0))), (4, .i (.sl 1 (rows64 ds) false)), (6, .ptr 0 0 0 0), (9, .ptr 3 0 0 0), (25, .i (.sl 2 (rowsI l) false)), (26, .i (.v (.int .i64 l.length))), (27, .i (.v (.int .i64 (k)))), (73, .clo (.func 29) [] [.ptr 4 0 0 0, .ptr 5 0 0 0])], [.box [.ref 1 0 0 (n)], .sl 17 0 (rowsM (hSet (c, s) xs ms)) false, .box [.i (.v (.int .i64 (op))), .i (.v (.int .i64 (arg)))], .box (mA (c) (s)), .box [.i (.v (.int .i64 (op))), .i (.v (.int .i64 (arg)))], .box [.i (.v (.int .i64 (i)))]])
 | [], _, ms, hm, hw => rfl
 | x :: xs, hx, ms, hm, hw => by
  have hx0 := hx x (.head _)
  have h1 := rd6 l ds n hn op arg i k c s hs x hx0 ms hm hw
  rw [rgE_cons, h1, rgN_n, if_pos (show capsI _ [.ptr 4 0 0 0, .ptr 5 0 0 0] = some [[op, arg], [i]] from rfl), hSet]
  exact rg6 l ds n hn op arg k i c s hs xs (fun y hy => hx y (.tail _ hy)) _ (by simpa using hm) (hw.set _ (by rw [joinM, orR_len]; exact hw.get (by omega)))
end Go.VI

namespace Go.VI
open Go.Proofs
set_option maxRecDepth 100000
set_option linter.unusedSimpArgs false
set_option linter.unusedVariables false
set_option maxHeartbeats 4000000
theorem ik15 (op d : Int) (h0 : 0 ≤ op) (h1 : op ≤ 20) (hp : popS op ≤ d) (hq : d - popS op + pushS op ≤ 16) (hd : d ≤ 16) (c : Bool) (s : List Bool) (hs : s.length = 16) (H : Hp) :
  isoK E (callT E) 15 [.agg (mA c s), .i (.v (.int .i64 op)), .i (.v (.int .i64 d))] H = some (.agg (mA (aft op d c s).1 (aft op d c s).2), H) :=
 isoK_val rfl (by simp [refsL, refsA, mA_refs]) (by simp [refsA, mA_refs]) (c15 op d h0 h1 hp hq hd c s hs)
structure DOK (l : List Ins) (ds : List Int) : Prop where
 len : ds.length = l.length
 ok : ∀ k, k < l.length → 0 ≤ ds.getD k 0 → popS (l.getD k (0, 0)).1 ≤ ds.getD k 0 ∧ ds.getD k 0 - popS (l.getD k (0, 0)).1 + pushS (l.getD k (0, 0)).1 ≤ 16 ∧ ds.getD k 0 ≤ 16
theorem dStep_r {n i : Nat} {p : Ins} {out out' : List Int} (h : dStep n i p out = some out') (hr : ∀ x ∈ out, -1 ≤ x ∧ x ≤ 16) : ∀ x ∈ out', -1 ≤ x ∧ x ≤ 16 := by
 have p1 := popS_r p.1
 have p2 := pushS_r p.1
 unfold dStep at h
 split at h
 ·injection h with h; rw [← h]; exact hr
 split at h
 ·cases h
 ·exact dSet_r (by omega) _ _ _ h hr
theorem dRun_r {n : Nat} : ∀ (l : List Ins) (k : Nat) (out fin : List Int), dRun n k l out = some fin → (∀ x ∈ out, -1 ≤ x ∧ x ≤ 16) → ∀ x ∈ fin, -1 ≤ x ∧ x ≤ 16
 | [], k, out, fin, h, hr => by rw [dRun, Option.some.injEq] at h; rw [← h]; exact hr
 | p :: r, k, out, fin, h, hr => by
  rw [dRun] at h
  cases hd : dStep n k p out with
  | none => rw [hd] at h; cases h
  | some o => rw [hd] at h; exact dRun_r r (k + 1) o fin h (dStep_r hd hr)
theorem dRun_low {l : List Ins} (g : Good l) {fin : List Int} (a : Nat) (ha : a ≤ l.length) (out : List Int) (h : dRun l.length a (l.drop a) out = some fin) (j : Nat) (hj : j < a) : fin.getD j 0 = out.getD j 0 := by
 by_cases hlt : a < l.length
 ·obtain ⟨o1, g1, g2⟩ := dRun_next hlt h
  rw [dRun_low g (a + 1) hlt o1 g2 j (by omega)]
  unfold dStep at g1
  split at g1
  ·injection g1 with g1; rw [g1]
  split at g1
  ·cases g1
  ·have hs := (good_suc g hlt).2
   exact dSet_new _ _ _ g1 (fun x hx => by have := hs x hx; omega) j (fun hx => by have := hs _ hx; omega)
 ·obtain rfl : a = l.length := by omega
  rw [List.drop_length, dRun, Option.some.injEq] at h
  rw [h]
termination_by l.length - a
theorem depths_dok {l : List Ins} (h : (depthsS l).2 = 0) : DOK l (depthsS l).1 := by
 obtain ⟨fin, h0, hd, hf1, hf2⟩ := depths_ok h
 have g := good_of h0
 rw [hf1]
 refine ⟨by rw [List.length_take, hf2]; omega, fun k hk hx => ?_⟩
 rw [getD_take _ _ _ hk] at hx ⊢
 obtain ⟨o, g1, g2, g3⟩ := dRun_to g k (by omega) 0 (Nat.zero_le _) (0 :: List.replicate l.length (-1)) (by simp) (by rw [List.drop_zero]; exact hd)
 obtain ⟨o1, s1, s2⟩ := dRun_next hk g1
 have hlow := dRun_low g (k + 1) hk o1 s2 k (by omega)
 have hr := dRun_r _ _ _ _ hd (fun x hx => by
  rcases List.mem_cons.1 hx with rfl | hx
  ·omega
  ·have := List.eq_of_mem_replicate hx; omega)
 have hb := getD_mem_b (P := fun x => -1 ≤ x ∧ x ≤ 16) ⟨by omega, by omega⟩ hr k
 unfold dStep at s1
 split at s1
 ·rename_i hneg
  injection s1 with s1
  rw [← s1] at hlow
  omega
 rename_i hnn
 split at s1
 ·cases s1
 rename_i hc
 have hs := (good_suc g hk).2
 have hnew := dSet_new _ _ _ s1 (fun x hx => by have := hs x hx; omega) k (fun hx => by have := hs _ hx; omega)
 rw [hlow, hnew] at hx hb ⊢
 exact ⟨by omega, by omega, hb.2⟩
def hRun (ds : List Int) : Nat → List Ins → List Mk → Bool
 | _, [], _ => false
 | k, p :: r, ms => if ds.getD k 0 < 0 then hRun ds (k + 1) r ms
  else if (p.1 = 19 ∨ p.1 = 20) ∧ ((getM ms k).1 = true ∨ (getM ms k).2.getD (ds.getD k 0 - 1).toNat false = true) then true
  else hRun ds (k + 1) r (hSet (aft p.1 (ds.getD k 0) (getM ms k).1 (getM ms k).2) (sucL p.1 p.2 k) ms)
def hP (fr : Fr) (ex : Ex) : Bool → Prop
 | true => ex = .ret ∧ get 2 fr = .i (.v (.bool true)) ∧ get 3 fr = .i (.v (.int .i64 0))
 | false => ex = .exit 0
theorem mI_take {c : Bool} {s : List Bool} {n : Nat} (h : s.length + 1 ≤ n) : (mI c s).take n = mI c s := List.take_of_length_le (by rw [mI_len]; exact h)
set_option linter.defProp false in
def lp6_6 := show ∀ B fr H, execT E B 6 (Code.loop _) fr H = rlG E B 6 (loopAt Tryd.f6 0) (gcn B (norm [2, 3, 4, 6, 25, 26, 27] fr) H) from fun B fr H => rl_intro rfl mt6_6 mb6_6 zf6_6 hd6_6 fr H
theorem l6_0 (l : List Ins) (hl : l.length ≤ 500) (g : Good l) (ds : List Int) (hd : DOK l ds) (n : Nat) (hn : n = l.length + 1) (k : Nat) (hk : k ≤ l.length) (ms : List Mk) (hm : ms.length = n) (hw : Wf ms) :
  ∃ fr ex H', rl E 0 6 (loopAt Tryd.f6 0) [(2, .i (.v (.bool false))), (3, .i (.v (.int .i64 0))), (4, .i (.sl 1 (rows64 ds) false)), (6, .ptr 0 0 0 0), (25, .i (.sl 2 (rowsI l) false)), (26, .i (.v (.int .i64 l.length))), (27, .i (.v (.int .i64 (k))))] [.box [.ref 1 0 0 (n)], .sl 17 0 (rowsM (ms)) false] = some (ex, fr, H') ∧ hP fr ex (hRun ds k (l.drop k) ms) := by
 rw [rl_step (fn := Tryd.f6) (k := 0) rfl]
 by_cases hlt : k < l.length
 ·have hrow := rowsI_at hlt
  obtain ⟨⟨o1, o2⟩, hsuc⟩ := good_suc g hlt
  have hdk := hd.ok k hlt
  have hdl := hd.len
  have hrd := rows64_get (l := ds) (k := k) (by omega)
  rw [List.drop_eq_getElem_cons hlt, hRun]
  rw [good_getD hlt] at o1 o2 hsuc hdk
  have ih := fun ms hm hw => l6_0 l hl g ds hd n hn (k + 1) hlt ms hm hw
  obtain ⟨op, arg, hp⟩ : ∃ op arg, l[k] = (op, arg) := ⟨_, _, rfl⟩
  rw [hp] at hrow hdk o1 o2 hsuc ⊢
  simp only at hrow hdk o1 o2 hsuc ⊢
  have hxn : k < ms.length := by omega
  have hrm := rowsM_get hxn
  have htl := hw.get hxn
  generalize ds.getD k 0 = d at *
  generalize ht : getM ms k = t at *
  obtain ⟨c, s⟩ := t
  simp only at hrm htl ⊢
  by_cases h1 : d < 0
  ·rw [if_pos h1]
   obtain ⟨fr, ex, H', e, hh⟩ := ih ms hm hw
   refine ⟨fr, ex, H', Eq.trans ?_ e, hh⟩
   clear e hh ih
   simp (disch := first | omega | (simp only [vlen, rowsI_len, rows64_len, rowsM_len]; omega)) only [vall, reduceCtorEq, ↓reduceIte, zq0, zq1, zq2, zq3, zq4, zq5, zq6, zq7, zq8, zq9, zq10, zq11, zq12, zq13, zq14, zq15, zq16, zq17, en6, bs22, bs45, bs48, hrow, hrd, rowsI_len, rows64_len, rowsM_len, h1, lp6_6]
  ·rw [if_neg h1]
   obtain ⟨d1, d2, d3⟩ := hdk (by omega)
   have hmt := mI_take (c := c) (s := s) (n := 17) (by omega)
   have pp := pop_push op o1 o2
   have ha := fun H => ik15 op d o1 o2 d1 d2 d3 c s htl H
   have hal := aft_len op d c s
   have hsq := seqSucc_eq op arg k (by omega) (by omega)
   have hrg := rg6 l ds n (by omega) op arg k k (aft op d c s).1 (aft op d c s).2 (by omega) (sucL op arg k) (fun x hx => by have := hsuc x hx; omega) ms hm hw
   have ih := ih (hSet (aft op d c s) (sucL op arg k) ms) (by rw [hSet_len]; exact hm) (hw.hSet _ (fun x hx => by have := hsuc x hx; omega))
   rw [show ((aft op d c s).1, (aft op d c s).2) = aft op d c s from rfl] at hrg
   generalize hSet (aft op d c s) (sucL op arg k) ms = ms2 at *
   generalize (aft op d c s).1 = c2 at *
   generalize (aft op d c s).2 = s2 at *
   generalize sucL op arg k = xs at *
   have hdr : mA c2 s2 ++ List.drop 17 (mA c s) = mA c2 s2 := by rw [List.drop_eq_nil_of_le (by rw [mA_len, htl]; exact Nat.le_refl _), List.append_nil]
   have hmt2 := mA_take (c := c2) (s := s2) (n := 17) (by omega)
   by_cases h2 : op = 19 ∨ op = 20
   ·have hpop : popS op = 1 := pp.2.2.2.2.2.1 h2
    have hgs := mA_get' (c := c) (s := s) (k := (d - 1).toNat) (by omega)
    generalize s.getD (d - 1).toNat false = sb at *
    by_cases h3 : c = true ∨ sb = true
    ·rw [if_pos ⟨h2, h3⟩]
     clear ih hrg
     rcases h2 with h2 | h2
     ·cases c
      ·have h3 := h3.resolve_left (by decide)
       subst h3
       simp (disch := first | omega | (simp only [vlen, rowsI_len, rows64_len, rowsM_len, mI_len, mA_len]; omega)) only [vall, reduceCtorEq, ↓reduceIte, zq0, zq1, zq2, zq3, zq4, zq5, zq6, zq7, zq8, zq9, zq10, zq11, zq12, zq13, zq14, zq15, zq16, zq17, en6, bs22, bs45, bs48, hrow, hrd, hrm, hmt, htl, hgs, rowsI_len, rows64_len, rowsM_len, mI_len, mA_len, mI_map, mA_get0, mA_all, Nat.mul_one, lp6_6]
       refine ⟨_, _, _, rfl, ?_⟩
       exact ⟨rfl, rfl, rfl⟩
      ·simp (disch := first | omega | (simp only [vlen, rowsI_len, rows64_len, rowsM_len, mI_len, mA_len]; omega)) only [vall, reduceCtorEq, ↓reduceIte, zq0, zq1, zq2, zq3, zq4, zq5, zq6, zq7, zq8, zq9, zq10, zq11, zq12, zq13, zq14, zq15, zq16, zq17, en6, bs22, bs45, bs48, hrow, hrd, hrm, hmt, htl, hgs, rowsI_len, rows64_len, rowsM_len, mI_len, mA_len, mI_map, mA_get0, mA_all, Nat.mul_one, lp6_6]
       refine ⟨_, _, _, rfl, ?_⟩
       exact ⟨rfl, rfl, rfl⟩
     ·cases c
      ·have h3 := h3.resolve_left (by decide)
       subst h3
       simp (disch := first | omega | (simp only [vlen, rowsI_len, rows64_len, rowsM_len, mI_len, mA_len]; omega)) only [vall, reduceCtorEq, ↓reduceIte, zq0, zq1, zq2, zq3, zq4, zq5, zq6, zq7, zq8, zq9, zq10, zq11, zq12, zq13, zq14, zq15, zq16, zq17, en6, bs22, bs45, bs48, hrow, hrd, hrm, hmt, htl, hgs, rowsI_len, rows64_len, rowsM_len, mI_len, mA_len, mI_map, mA_get0, mA_all, Nat.mul_one, lp6_6]
       refine ⟨_, _, _, rfl, ?_⟩
       exact ⟨rfl, rfl, rfl⟩
      ·simp (disch := first | omega | (simp only [vlen, rowsI_len, rows64_len, rowsM_len, mI_len, mA_len]; omega)) only [vall, reduceCtorEq, ↓reduceIte, zq0, zq1, zq2, zq3, zq4, zq5, zq6, zq7, zq8, zq9, zq10, zq11, zq12, zq13, zq14, zq15, zq16, zq17, en6, bs22, bs45, bs48, hrow, hrd, hrm, hmt, htl, hgs, rowsI_len, rows64_len, rowsM_len, mI_len, mA_len, mI_map, mA_get0, mA_all, Nat.mul_one, lp6_6]
       refine ⟨_, _, _, rfl, ?_⟩
       exact ⟨rfl, rfl, rfl⟩
    ·rw [if_neg (fun h => h3 h.2)]
     obtain ⟨fr, ex, H', e, hh⟩ := ih
     refine ⟨fr, ex, H', Eq.trans ?_ e, hh⟩
     clear e hh
     cases c
     rotate_left
     ·exact absurd (.inl rfl) h3
     cases sb
     rotate_left
     ·exact absurd (.inr rfl) h3
     rcases h2 with h2 | h2
     ·simp (disch := first | omega | (simp only [vlen, rowsI_len, rows64_len, rowsM_len, mI_len, mA_len]; omega)) only [vall, reduceCtorEq, ↓reduceIte, zq0, zq1, zq2, zq3, zq4, zq5, zq6, zq7, zq8, zq9, zq10, zq11, zq12, zq13, zq14, zq15, zq16, zq17, en6, bs22, bs45, bs48, hrow, hrd, hrm, hmt, hmt2, hdr, htl, hal, hgs, ha, hsq, hrg, ik16, rowsI_len, rows64_len, rowsM_len, mI_len, mA_len, mI_map, mA_get0, mA_all, mA_frz, mA_cn, mA_refs, mA_ren, mI_ivs, Nat.mul_one, show ∀ B fr H, execT E B 6 (Code.rangeFunc _ _ _ _) fr H = rgO (rdF E 6 (rfAt Tryd.f6 0)) 74 fr H (seqE E H (opd E fr _)) from fun B fr H => rf_intro rfl rfl fr H, lp6_6]
     ·simp (disch := first | omega | (simp only [vlen, rowsI_len, rows64_len, rowsM_len, mI_len, mA_len]; omega)) only [vall, reduceCtorEq, ↓reduceIte, zq0, zq1, zq2, zq3, zq4, zq5, zq6, zq7, zq8, zq9, zq10, zq11, zq12, zq13, zq14, zq15, zq16, zq17, en6, bs22, bs45, bs48, hrow, hrd, hrm, hmt, hmt2, hdr, htl, hal, hgs, ha, hsq, hrg, ik16, rowsI_len, rows64_len, rowsM_len, mI_len, mA_len, mI_map, mA_get0, mA_all, mA_frz, mA_cn, mA_refs, mA_ren, mI_ivs, Nat.mul_one, show ∀ B fr H, execT E B 6 (Code.rangeFunc _ _ _ _) fr H = rgO (rdF E 6 (rfAt Tryd.f6 0)) 74 fr H (seqE E H (opd E fr _)) from fun B fr H => rf_intro rfl rfl fr H, lp6_6]
   ·rw [if_neg (fun h => h2 h.1)]
    obtain ⟨fr, ex, H', e, hh⟩ := ih
    refine ⟨fr, ex, H', Eq.trans ?_ e, hh⟩
    clear e hh
    simp (disch := first | omega | (simp only [vlen, rowsI_len, rows64_len, rowsM_len, mI_len, mA_len]; omega)) only [vall, reduceCtorEq, ↓reduceIte, zq0, zq1, zq2, zq3, zq4, zq5, zq6, zq7, zq8, zq9, zq10, zq11, zq12, zq13, zq14, zq15, zq16, zq17, en6, bs22, bs45, bs48, hrow, hrd, hrm, hmt, hmt2, hdr, htl, hal, ha, hsq, hrg, ik16, rowsI_len, rows64_len, rowsM_len, mI_len, mA_len, mI_map, mA_get0, mA_all, mA_frz, mA_cn, mA_refs, mA_ren, mI_ivs, Nat.mul_one, show ∀ B fr H, execT E B 6 (Code.rangeFunc _ _ _ _) fr H = rgO (rdF E 6 (rfAt Tryd.f6 0)) 74 fr H (seqE E H (opd E fr _)) from fun B fr H => rf_intro rfl rfl fr H, lp6_6]
 ·obtain rfl : k = l.length := by omega
  rw [List.drop_length, hRun]
  simp (disch := first | omega | (simp only [vlen, rows64_len, rowsI_len, rowsM_len]; omega)) only [vall, reduceCtorEq, ↓reduceIte, zq0, zq1, zq2, zq3, zq4, zq5, zq6, zq7, zq8, zq9, zq10, zq11, zq12, zq13, zq14, zq15, zq16, zq17, en6, bs22, bs45, bs48, rows64_len, rowsI_len, rowsM_len, lp6_6]
  refine ⟨_, _, _, rfl, ?_⟩
  rfl
termination_by l.length - k
end Go.VI

namespace Go.VI
open Go.Proofs
set_option maxRecDepth 100000
set_option linter.unusedSimpArgs false
set_option linter.unusedVariables false
set_option maxHeartbeats 4000000
def z0 : Mk := (false, List.replicate 16 false)
def hiddenS (l : List Ins) : Bool × Int := if (depthsS l).2 = 0 then (hRun (depthsS l).1 0 l (List.replicate (l.length + 1) z0), 0) else (false, (depthsS l).2)
theorem rowsM_rep (n : Nat) : List.replicate n [IV.v (.bool false), .v (.bool false), .v (.bool false), .v (.bool false), .v (.bool false), .v (.bool false), .v (.bool false), .v (.bool false), .v (.bool false), .v (.bool false), .v (.bool false), .v (.bool false), .v (.bool false), .v (.bool false), .v (.bool false), .v (.bool false), .v (.bool false)] = rowsM (List.replicate n z0) := by simp [rowsM, mI, z0, List.replicate]
theorem wf_rep (n : Nat) : Wf (List.replicate n z0) := fun m hm => by rw [List.eq_of_mem_replicate hm]; rfl
theorem c6 (l : List Ins) (hl : (l.length : Int) < 9223372036854775808) : ∃ L, callT E 6 [.i (.sl 2 (rowsI l) false)] [] = some (.tup [.i (.v (.bool (hiddenS l).1)), .i (.v (.int .i64 (hiddenS l).2))], L) := by
 have hD := fun H => ik14 l hl H
 unfold hiddenS
 by_cases h0 : (depthsS l).2 = 0
 rotate_left
 ·rw [if_neg h0]
  generalize depthsS l = q at *
  rw [callT_eq Tryd.func6 rfl fok6 (by simp [Tryd.ntmps6])]
  simp (disch := first | omega | (simp only [vlen]; omega)) only [vall, reduceCtorEq, ↓reduceIte, zq0, zq1, zq2, zq3, zq4, zq5, zq6, zq7, zq8, zq9, zq10, zq11, zq12, zq13, zq14, zq15, zq16, zq17, en6, bs22, bs45, bs48, hD, h0]
  exact ⟨_, rfl⟩
 ·rw [if_pos h0]
  obtain ⟨fin, hc0, hdr, hf1, hf2⟩ := depths_ok h0
  have h5 := check_len hc0
  have hdok := depths_dok h0
  rw [h0] at hD
  generalize (depthsS l).1 = ds at *
  have hnn : ((l.length : Int) + 1).toNat = l.length + 1 := by omega
  obtain ⟨fr, ex, H', e, hh⟩ := l6_0 l h5 (good_of hc0) ds hdok (l.length + 1) rfl 0 (Nat.zero_le _) (List.replicate (l.length + 1) z0) (by simp) (wf_rep _)
  rw [List.drop_zero] at hh
  generalize hRun ds 0 l (List.replicate (l.length + 1) z0) = b at *
  have e' : rl E 0 6 (loopAt Tryd.f6 0) [(2, .i (.v (.bool false))), (3, .i (.v (.int .i64 0))), (4, .i (.sl 1 (rows64 ds) false)), (6, .ptr 0 0 0 0), (25, .i (.sl 2 (rowsI l) false)), (26, .i (.v (.int .i64 l.length))), (27, .i (.v (.int .i64 (0))))] [.box [.ref 1 0 0 (l.length + 1)], .sl 17 0 ([IV.v (.bool false), .v (.bool false), .v (.bool false), .v (.bool false), .v (.bool false), .v (.bool false), .v (.bool false), .v (.bool false), .v (.bool false), .v (.bool false), .v (.bool false), .v (.bool false), .v (.bool false), .v (.bool false), .v (.bool false), .v (.bool false), .v (.bool false)] :: rowsM (List.replicate l.length z0)) false] = _ := e
  clear e
  cases b
  ·obtain rfl : ex = .exit 0 := hh
   rw [callT_eq Tryd.func6 rfl fok6 (by simp [Tryd.ntmps6])]
   simp (disch := first | omega | (simp only [vlen, rowsI_len, rowsM_len]; omega)) only [vall, reduceCtorEq, ↓reduceIte, zq0, zq1, zq2, zq3, zq4, zq5, zq6, zq7, zq8, zq9, zq10, zq11, zq12, zq13, zq14, zq15, zq16, zq17, en6, bs22, bs45, bs48, hD, hnn, rowsI_len, rowsM_len, rowsM_rep, e', lp6_6]
   exact ⟨_, rfl⟩
  ·obtain ⟨rfl, g2, g3⟩ := hh
   rw [callT_eq Tryd.func6 rfl fok6 (by simp [Tryd.ntmps6])]
   simp (disch := first | omega | (simp only [vlen, rowsI_len, rowsM_len]; omega)) only [vall, reduceCtorEq, ↓reduceIte, zq0, zq1, zq2, zq3, zq4, zq5, zq6, zq7, zq8, zq9, zq10, zq11, zq12, zq13, zq14, zq15, zq16, zq17, en6, bs22, bs45, bs48, hD, hnn, rowsI_len, rowsM_len, rowsM_rep, e', g2, g3, lp6_6]
   exact ⟨_, rfl⟩
theorem ik6 (l : List Ins) (hl : (l.length : Int) < 9223372036854775808) (H : Hp) : isoK E (callT E) 6 [.i (.sl 2 (rowsI l) false)] H = some (.tup [.i (.v (.bool (hiddenS l).1)), .i (.v (.int .i64 (hiddenS l).2))], H) := isoK_val rfl rfl rfl (c6 l hl)
end Go.VI

namespace Go.VI
open Go.Proofs
set_option maxRecDepth 100000
set_option linter.unusedSimpArgs false
set_option linter.unusedVariables false
set_option maxHeartbeats 4000000
def FB (s : List Bool) : Prop := ∀ j, s.getD j false = false
theorem FB.set {s : List Bool} (h : FB s) (i : Nat) {a : Bool} (ha : a = false) : FB (s.set i a) := fun j => by
 rw [getD_set_bool]; split
 ·exact ha
 ·exact h j
theorem FB.clr : ∀ (r k : Nat) {s : List Bool}, FB s → FB (clr r k s)
 | 0, k, s, h => h
 | r + 1, k, s, h => by rw [VI.clr]; exact FB.clr r (k + 1) (h.set k rfl)
theorem FB.orR : ∀ (r j : Nat) {s t : List Bool}, FB s → FB t → FB (orR r j s t)
 | 0, j, s, t, hs, ht => ht
 | r + 1, j, s, t, hs, ht => by rw [VI.orR]; exact FB.orR r (j + 1) hs (ht.set j (by rw [ht j, hs j]; rfl))
def FM (m : Mk) : Prop := m.1 = false ∧ FB m.2
theorem FM.aft {m : Mk} (h : FM m) {op d : Int} (ho : ¬ (3 ≤ op ∧ op ≤ 5)) : FM (aft op d m.1 m.2) := by
 have h1 : FM (aft1 op d m.1 m.2) := by
  obtain ⟨h1, h2⟩ := h
  unfold aft1
  rw [if_neg ho]
  repeat' split
  ·exact ⟨h1, h2.set _ (by rw [h2, h2]; rfl)⟩
  ·exact ⟨h1, h2.set _ (h2 _)⟩
  ·exact ⟨h1, (h2.set _ (h2 _)).set _ (h2 _)⟩
  ·exact ⟨by rw [h1, h2]; rfl, h2⟩
  ·exact ⟨h1, h2.set _ rfl⟩
  ·exact ⟨h1, h2⟩
 exact ⟨h1.1, FB.clr _ _ h1.2⟩
theorem FM.join {m t : Mk} (h : FM m) (ht : FM t) : FM (joinM m t) := ⟨by rw [joinM, h.1, ht.1]; rfl, FB.orR _ _ h.2 ht.2⟩
def FL (ms : List Mk) : Prop := ∀ k, FM (getM ms k)
theorem getM_set_ne {ms : List Mk} {k j : Nat} (h : k ≠ j) (m : Mk) : getM (ms.set k m) j = getM ms j := by
 rw [getM, getM, List.getD_eq_getElem?_getD, List.getD_eq_getElem?_getD, List.getElem?_set_ne h]
theorem FL.set {ms : List Mk} (h : FL ms) (k : Nat) {m : Mk} (hm : FM m) : FL (ms.set k m) := fun j => by
 by_cases hk : k = j
 ·subst hk
  by_cases hl : k < ms.length
  ·rw [getM_set hl]; exact hm
  ·rw [List.set_eq_of_length_le (by omega)]; exact h k
 ·rw [getM_set_ne hk]; exact h j
theorem FL.hSet {m : Mk} (hm : FM m) : ∀ (xs : List Int) {ms : List Mk}, FL ms → FL (hSet m xs ms)
 | [], ms, h => h
 | x :: xs, ms, h => by rw [VI.hSet]; exact FL.hSet hm xs (h.set _ (hm.join (h _)))
def LB (s t : List Bool) : Prop := s.length = t.length ∧ ∀ j, s.getD j false = true → t.getD j false = true
theorem LB.set {s t : List Bool} (h : LB s t) (i : Nat) {a b : Bool} (hab : a = true → b = true) : LB (s.set i a) (t.set i b) := ⟨by simp [h.1], fun j => by
 rw [getD_set_bool, getD_set_bool, h.1]
 split
 ·exact hab
 ·exact h.2 j⟩
theorem LB.clr : ∀ (r k : Nat) {s t : List Bool}, LB s t → LB (clr r k s) (clr r k t)
 | 0, k, s, t, h => h
 | r + 1, k, s, t, h => by rw [VI.clr, VI.clr]; exact LB.clr r (k + 1) (h.set k id)
theorem LB.orR : ∀ (r j : Nat) {s s' t t' : List Bool}, LB s s' → LB t t' → LB (orR r j s t) (orR r j s' t')
 | 0, j, s, s', t, t', hs, ht => ht
 | r + 1, j, s, s', t, t', hs, ht => by
  rw [VI.orR, VI.orR]
  refine LB.orR r (j + 1) hs (ht.set j fun h => ?_)
  rw [Bool.or_eq_true] at h ⊢
  exact h.imp (ht.2 j) (hs.2 j)
def LM (m t : Mk) : Prop := (m.1 = true → t.1 = true) ∧ LB m.2 t.2
theorem LM.aft {m t : Mk} (h : LM m t) (op d : Int) : LM (aft op d m.1 m.2) (aft op d t.1 t.2) := by
 have h1 : LM (aft1 op d m.1 m.2) (aft1 op d t.1 t.2) := by
  obtain ⟨h1, h2⟩ := h
  unfold aft1
  repeat' split
  ·exact ⟨h1, h2.set _ id⟩
  ·exact ⟨h1, h2.set _ fun h => by rw [Bool.or_eq_true] at h ⊢; exact h.imp (h2.2 _) (h2.2 _)⟩
  ·exact ⟨h1, h2.set _ (h2.2 _)⟩
  ·exact ⟨h1, (h2.set _ (h2.2 _)).set _ (h2.2 _)⟩
  ·exact ⟨fun h => by rw [Bool.or_eq_true] at h ⊢; exact h.imp h1 (h2.2 _), h2⟩
  ·exact ⟨h1, h2.set _ id⟩
  ·exact ⟨h1, h2⟩
 exact ⟨h1.1, LB.clr _ _ h1.2⟩
theorem LM.join {m m' t t' : Mk} (h : LM m m') (ht : LM t t') : LM (joinM m t) (joinM m' t') := ⟨fun h1 => by
 simp only [joinM, Bool.or_eq_true] at h1 ⊢
 exact h1.imp ht.1 h.1, LB.orR _ _ h.2 ht.2⟩
def LL (ms ns : List Mk) : Prop := ms.length = ns.length ∧ ∀ k, LM (getM ms k) (getM ns k)
theorem LL.set {ms ns : List Mk} (h : LL ms ns) (k : Nat) {m t : Mk} (hm : LM m t) : LL (ms.set k m) (ns.set k t) := ⟨by simp [h.1], fun j => by
 by_cases hk : k = j
 ·subst hk
  by_cases hl : k < ms.length
  ·rw [getM_set hl, getM_set (by rw [← h.1]; exact hl)]; exact hm
  ·rw [List.set_eq_of_length_le (by omega), List.set_eq_of_length_le (by rw [← h.1]; omega)]; exact h.2 k
 ·rw [getM_set_ne hk, getM_set_ne hk]; exact h.2 j⟩
theorem LL.hSet {m t : Mk} (hm : LM m t) : ∀ (xs : List Int) {ms ns : List Mk}, LL ms ns → LL (hSet m xs ms) (hSet t xs ns)
 | [], ms, ns, h => h
 | x :: xs, ms, ns, h => by rw [VI.hSet, VI.hSet]; exact LL.hSet hm xs (h.set _ (hm.join (h.2 _)))
theorem LL.refl (ms : List Mk) : LL ms ms := ⟨rfl, fun k => ⟨id, rfl, fun j => id⟩⟩
def moreI (p q : Ins) : Prop := q = p ∨ p.1 = 1 ∧ q = (3, 0)
inductive F2 : List Ins → List Ins → Prop
 | nil : F2 [] []
 | cons {p q : Ins} {l m : List Ins} : moreI p q → F2 l m → F2 (p :: l) (q :: m)
theorem F2.refl : ∀ l : List Ins, F2 l l
 | [] => .nil
 | p :: r => .cons (.inl rfl) (F2.refl r)
theorem F2.set : ∀ (l : List Ins) (k : Nat), (l.getD k (0, 0)).1 = 1 → F2 l (l.set k (3, 0))
 | [], k, h => by rw [List.getD_nil] at h; cases h
 | p :: r, 0, h => .cons (.inr ⟨h, rfl⟩) (F2.refl r)
 | p :: r, k + 1, h => .cons (.inl rfl) (F2.set r k h)
end Go.VI

namespace Go.VI
open Go.Proofs
set_option maxRecDepth 100000
set_option linter.unusedSimpArgs false
set_option linter.unusedVariables false
set_option maxHeartbeats 4000000
def StEq (s : List Bool) (x y : List Int) : Prop := x.length = y.length ∧ ∀ j, j < x.length → s.getD j false = false → x.getD j 0 = y.getD j 0
theorem StEq.mono {s t : List Bool} {x y : List Int} (h : StEq s x y) (hl : LB s t) : StEq t x y := ⟨h.1, fun j hj ht => h.2 j hj (by
 cases e : s.getD j false with
 | false => rfl
 | true => rw [hl.2 j e] at ht; cases ht)⟩
theorem clr_lo : ∀ (r k : Nat) (s : List Bool) (j : Nat), j < k → (clr r k s).getD j false = s.getD j false
 | 0, k, s, j, h => rfl
 | r + 1, k, s, j, h => by
  rw [clr, clr_lo r (k + 1) _ j (by omega), getD_set_bool, if_neg (by omega)]
theorem getD_app_lo {a p : List Int} {j : Nat} (h : j < a.length) : (a ++ p).getD j 0 = a.getD j 0 := by
 rw [List.getD_eq_getElem?_getD, List.getD_eq_getElem?_getD, List.getElem?_append_left h]
theorem getD_app_hi {a p : List Int} (t : Nat) : (a ++ p).getD (a.length + t) 0 = p.getD t 0 := by
 rw [List.getD_eq_getElem?_getD, List.getD_eq_getElem?_getD, List.getElem?_append_right (by omega), Nat.add_sub_cancel_left]
theorem getD_lim (l : List Int) (t : Nat) : (l.map limS).getD t 0 = limS (l.getD t 0) := by
 rw [List.getD_eq_getElem?_getD, List.getD_eq_getElem?_getD, List.getElem?_map]
 cases l[t]? <;> rfl
theorem aft1_lo {op d : Int} {c : Bool} {s : List Bool} (h0 : 0 ≤ op) (h1 : op ≤ 20) {j : Nat} (hj : (j : Int) < d - popS op) : (aft1 op d c s).2.getD j false = s.getD j false := by
 have hb := pp_b h0 h1
 obtain ⟨q1, q2, q3, q4, q5, q6, q7⟩ := pop_push op h0 h1
 unfold aft1
 split
 ·rw [getD_set_bool, if_neg (by omega)]
 split
 ·have := q2 (by assumption); rw [getD_set_bool, if_neg (by omega)]
 split
 ·have := q3 (by assumption); rw [getD_set_bool, if_neg (by omega)]
 split
 ·have := q4 (by assumption); rw [getD_set_bool, if_neg (by omega), getD_set_bool, if_neg (by omega)]
 split
 ·rfl
 split
 ·rw [getD_set_bool, if_neg (by omega)]
 ·rfl
theorem list_1 {p : List Int} (h : (p.length : Int) = 1) : ∃ x, p = [x] := List.length_eq_one_iff.1 (by omega)
theorem list_2 {p : List Int} (h : (p.length : Int) = 2) : ∃ y x, p = [y, x] := by
 match p, h with
 | [y, x], _ => exact ⟨y, x, rfl⟩
theorem push_eq {row : Int} {gA gB : List Gl} {c w op arg : Int} {cc : Bool} {s : List Bool} {a b p q : List Int} (h0 : 0 ≤ op) (h1 : op ≤ 20) (hab : a.length = b.length) (hp : (p.length : Int) = popS op) (hq : (q.length : Int) = popS op) (hs : s.length = 16) (hd : a.length + p.length ≤ 16) (hn : (a.length : Int) + pushS op ≤ 16)
  (h : StEq s (a ++ p) (b ++ q)) {t : Nat} (ht : (t : Int) < pushS op) (hm : (aft1 op ((a.length + p.length : Nat) : Int) cc s).2.getD (a.length + t) false = false) : (pushedR row gA c w op arg p).getD t 0 = (pushedR row gB c w op arg q).getD t 0 := by
 have key : ∀ u, u < p.length → s.getD (a.length + u) false = false → p.getD u 0 = q.getD u 0 := by
  intro u hu hz
  have := h.2 (a.length + u) (by rw [List.length_append]; omega) hz
  rw [getD_app_hi, hab, getD_app_hi] at this
  exact this
 obtain ⟨n, rfl⟩ := Int.eq_ofNat_of_zero_le h0
 have hcs : n = 0 ∨ n = 1 ∨ n = 2 ∨ n = 3 ∨ n = 4 ∨ n = 5 ∨ n = 6 ∨ n = 7 ∨ n = 8 ∨ n = 9 ∨ n = 10 ∨ n = 11 ∨ n = 12 ∨ n = 13 ∨ n = 14 ∨ n = 15 ∨ n = 16 ∨ n = 17 ∨ n = 18 ∨ n = 19 ∨ n = 20 := by omega
 have zero : ∀ m : Nat, pushS m = 0 → n = m → False := fun m h1 h2 => by rw [h2, h1] at ht; omega
 have secret : ∀ m : Nat, pushS m = 1 → (3 ≤ (m : Int) ∧ (m : Int) ≤ 5) → n = m → False := fun m h1 h2 h3 => by
  subst h3
  rw [h1] at ht hn
  obtain rfl : t = 0 := by omega
  unfold aft1 at hm
  rw [if_pos h2] at hm
  simp only at hm
  rw [getD_set_bool, if_pos ⟨by omega, by omega⟩] at hm
  cases hm
 rcases hcs with rfl | rfl | rfl | rfl | rfl | rfl | rfl | rfl | rfl | rfl | rfl | rfl | rfl | rfl | rfl | rfl | rfl | rfl | rfl | rfl | rfl
 ·exact (zero 0 rfl rfl).elim
 ·rfl
 ·rfl
 ·exact (secret 3 rfl (by omega) rfl).elim
 ·exact (secret 4 rfl (by omega) rfl).elim
 ·exact (secret 5 rfl (by omega) rfl).elim
 ·rfl
 ·rfl
 iterate 5
  ·obtain ⟨y, x, rfl⟩ := list_2 hp
   obtain ⟨y2, x2, rfl⟩ := list_2 hq
   obtain rfl : t = 0 := by have : pushS (8 : Int) = 1 := rfl; have : (t : Int) < 1 := ht; omega
   unfold aft1 at hm
   rw [if_neg (by omega), if_pos (by omega)] at hm
   simp only at hm
   have e1 : (((a.length + [y, x].length : Nat) : Int) - 1 - 1).toNat = a.length := by simp only [List.length_cons, List.length_nil]; omega
   have e2 : (((a.length + [y, x].length : Nat) : Int) - 1).toNat = a.length + 1 := by simp only [List.length_cons, List.length_nil]; omega
   rw [e1, e2, getD_set_bool, if_pos ⟨rfl, by simp only [List.length_cons, List.length_nil] at hd; omega⟩, Bool.or_eq_false_iff] at hm
   have k0 := key 0 (by simp) hm.1
   have k1 := key 1 (by simp) hm.2
   obtain rfl : y = y2 := k0
   obtain rfl : x = x2 := k1
   rfl
 ·obtain ⟨x, rfl⟩ := list_1 hp
  obtain ⟨x2, rfl⟩ := list_1 hq
  obtain rfl : t = 0 := by have : (t : Int) < 1 := ht; omega
  have hm2 : s.getD (a.length + 0) false = false := hm
  obtain rfl : x = x2 := key 0 (by simp) hm2
  rfl
 ·obtain ⟨x, rfl⟩ := list_1 hp
  obtain ⟨x2, rfl⟩ := list_1 hq
  have ht2 : (t : Int) < 2 := ht
  have hm2 : (s.set (((a.length + [x].length : Nat) : Int)).toNat (s.getD ((((a.length + [x].length : Nat) : Int)) - 1).toNat false)).getD (a.length + t) false = false := hm
  have e1 : ((((a.length + [x].length : Nat) : Int)) - 1).toNat = a.length := by simp only [List.length_cons, List.length_nil]; omega
  have e2 : (((a.length + [x].length : Nat) : Int)).toNat = a.length + 1 := by simp only [List.length_cons, List.length_nil]; omega
  have hn2 : (a.length : Int) + 2 ≤ 16 := hn
  rw [e1, e2, getD_set_bool] at hm2
  have hx : s.getD (a.length + 0) false = false := by
   by_cases h : t = 0
   ·subst h; rw [if_neg (by omega)] at hm2; exact hm2
   ·rw [if_pos ⟨by omega, by omega⟩] at hm2; exact hm2
  obtain rfl : x = x2 := key 0 (by simp) hx
  rfl
 ·exact (zero 15 rfl rfl).elim
 ·obtain ⟨y, x, rfl⟩ := list_2 hp
  obtain ⟨y2, x2, rfl⟩ := list_2 hq
  have ht2 : (t : Int) < 2 := ht
  have e1 : (((a.length + [y, x].length : Nat) : Int) - 1 - 1).toNat = a.length := by simp only [List.length_cons, List.length_nil]; omega
  have e2 : (((a.length + [y, x].length : Nat) : Int) - 1).toNat = a.length + 1 := by simp only [List.length_cons, List.length_nil]; omega
  have hm2 : ((s.set (((a.length + [y, x].length : Nat) : Int) - 1 - 1).toNat (s.getD (((a.length + [y, x].length : Nat) : Int) - 1).toNat false)).set (((a.length + [y, x].length : Nat) : Int) - 1).toNat (s.getD (((a.length + [y, x].length : Nat) : Int) - 1 - 1).toNat false)).getD (a.length + t) false = false := hm
  have hd2 : a.length + 2 ≤ 16 := hd
  rw [e1, e2, getD_set_bool, getD_set_bool, List.length_set] at hm2
  by_cases h : t = 0
  ·subst h
   rw [if_neg (by omega), if_pos ⟨by omega, by omega⟩] at hm2
   exact key 1 (by simp) hm2
  ·obtain rfl : t = 1 := by omega
   rw [if_pos ⟨by omega, by omega⟩] at hm2
   exact key 0 (by simp) hm2
 ·exact (zero 17 rfl rfl).elim
 ·exact (zero 18 rfl rfl).elim
 ·exact (zero 19 rfl rfl).elim
 ·exact (zero 20 rfl rfl).elim
theorem low_push {row : Int} {gA gB : List Gl} {c w op arg : Int} {cc : Bool} {s : List Bool} {a b p q : List Int} (h0 : 0 ≤ op) (h1 : op ≤ 20) (hp : (p.length : Int) = popS op) (hq : (q.length : Int) = popS op) (hs : s.length = 16) (hd : a.length + p.length ≤ 16) (hn : (a.length : Int) + pushS op ≤ 16)
  (h : StEq s (a ++ p) (b ++ q)) : StEq (aft op ((a.length + p.length : Nat) : Int) cc s).2 (a ++ (pushedR row gA c w op arg p).map limS) (b ++ (pushedR row gB c w op arg q).map limS) := by
 have hl := h.1
 rw [List.length_append, List.length_append] at hl
 have hab : a.length = b.length := by omega
 have lA := pushedR_len row gA c w arg p h0 h1
 have lB := pushedR_len row gB c w arg q h0 h1
 refine ⟨by rw [List.length_append, List.length_append, List.length_map, List.length_map]; omega, fun j hj hm => ?_⟩
 rw [List.length_append, List.length_map] at hj
 have hm1 : (aft1 op ((a.length + p.length : Nat) : Int) cc s).2.getD j false = false := by
  unfold aft at hm
  simp only at hm
  rw [clr_lo _ _ _ _ (by omega)] at hm
  exact hm
 by_cases hja : j < a.length
 ·rw [aft1_lo h0 h1 (by omega)] at hm1
  rw [getD_app_lo hja, getD_app_lo (by omega)]
  have := h.2 j (by rw [List.length_append]; omega) hm1
  rw [getD_app_lo hja, getD_app_lo (by omega)] at this
  exact this
 ·obtain ⟨t, rfl⟩ : ∃ t, j = a.length + t := ⟨j - a.length, by omega⟩
  rw [getD_app_hi, hab, getD_app_hi, getD_lim, getD_lim]
  rw [push_eq h0 h1 hab hp hq hs hd hn h (by omega) hm1]
end Go.VI

namespace Go.VI
open Go.Proofs
set_option maxRecDepth 100000
set_option linter.unusedSimpArgs false
set_option linter.unusedVariables false
set_option maxHeartbeats 4000000
theorem LB.trans {a b c : List Bool} (h : LB a b) (h2 : LB b c) : LB a c := ⟨h.1.trans h2.1, fun j hj => h2.2 j (h.2 j hj)⟩
theorem LM.trans {a b c : Mk} (h : LM a b) (h2 : LM b c) : LM a c := ⟨fun x => h2.1 (h.1 x), h.2.trans h2.2⟩
theorem LM.refl (a : Mk) : LM a a := ⟨id, rfl, fun _ => id⟩
theorem orR_keep : ∀ (r j : Nat) (s t : List Bool) (i : Nat), t.getD i false = true → (orR r j s t).getD i false = true
 | 0, j, s, t, i, h => h
 | r + 1, j, s, t, i, h => by
  rw [orR]
  refine orR_keep r (j + 1) s _ i ?_
  rw [getD_set_bool]
  split
  ·rename_i hh; rw [hh.1, h]; rfl
  ·exact h
theorem orR_src : ∀ (r j : Nat) (s t : List Bool) (i : Nat), s.getD i false = true → j ≤ i → i < j + r → i < t.length → (orR r j s t).getD i false = true
 | 0, j, s, t, i, h, h1, h2, h3 => by omega
 | r + 1, j, s, t, i, h, h1, h2, h3 => by
  rw [orR]
  by_cases hij : j = i
  ·refine orR_keep r (j + 1) s _ i ?_
   rw [getD_set_bool, if_pos ⟨hij, by omega⟩, hij, h, Bool.or_true]
  ·exact orR_src r (j + 1) s _ i h (by omega) (by omega) (by rw [List.length_set]; exact h3)
theorem join_keep (m t : Mk) : LM t (joinM m t) := ⟨fun h => by simp [joinM, h], by rw [joinM]; exact (orR_len _ _ _ _).symm, fun j h => orR_keep _ _ _ _ j h⟩
theorem join_src {m t : Mk} (hm : m.2.length = 16) (ht : t.2.length = 16) : LM m (joinM m t) := ⟨fun h => by simp [joinM, h], by rw [joinM]; show _ = (orR 16 0 m.2 t.2).length; rw [orR_len]; omega, fun j h => by
 have hj : j < 16 := by
  by_cases hj : j < 16
  ·exact hj
  ·rw [List.getD_eq_getElem?_getD, List.getElem?_eq_none (by omega)] at h; cases h
 exact orR_src _ _ _ _ j h (by omega) (by omega) (by omega)⟩
theorem join_len {m t : Mk} (ht : t.2.length = 16) : (joinM m t).2.length = 16 := by rw [joinM]; show (orR 16 0 m.2 t.2).length = 16; rw [orR_len]; exact ht
theorem hSet_grow (m : Mk) : ∀ (xs : List Int) (ms : List Mk) (j : Nat), LM (getM ms j) (getM (hSet m xs ms) j)
 | [], ms, j => LM.refl _
 | x :: xs, ms, j => by
  rw [VI.hSet]
  refine LM.trans ?_ (hSet_grow m xs _ j)
  by_cases h : x.toNat = j
  ·subst h
   by_cases hl : x.toNat < ms.length
   ·rw [getM_set hl]; exact join_keep _ _
   ·rw [List.set_eq_of_length_le (by omega)]; exact LM.refl _
  ·rw [getM_set_ne h]; exact LM.refl _
theorem hSet_wf {m : Mk} : ∀ (xs : List Int) (ms : List Mk), Wf ms → (∀ x ∈ xs, x.toNat < ms.length) → Wf (hSet m xs ms)
 | [], ms, h, hx => h
 | x :: xs, ms, h, hx => by
  rw [VI.hSet]
  exact hSet_wf xs _ (h.set _ (join_len (h.get (hx x (.head _))))) (fun y hy => by rw [List.length_set]; exact hx y (.tail _ hy))
theorem hSet_hit {m : Mk} (hm : m.2.length = 16) : ∀ (xs : List Int) (ms : List Mk), Wf ms → (∀ x ∈ xs, x.toNat < ms.length) → ∀ x ∈ xs, LM m (getM (hSet m xs ms) x.toNat)
 | [], ms, h, hx, x, hm2 => by cases hm2
 | y :: xs, ms, h, hx, x, hm2 => by
  rw [VI.hSet]
  have hy := hx y (.head _)
  rcases List.mem_cons.1 hm2 with rfl | hm2
  ·refine LM.trans ?_ (hSet_grow m xs _ x.toNat)
   rw [getM_set hy]
   exact join_src hm (h.get hy)
  ·exact hSet_hit hm xs _ (h.set _ (join_len (h.get hy))) (fun z hz => by rw [List.length_set]; exact hx z (.tail _ hz)) x hm2
def ExR (l : List Ins) (ds : List Int) (row : Int) (g : List Gl) (c0 w0 : Int) (n i s : Nat) (c w : Int) (stk : List Int) : Prop :=
 okS stk ∧ (∀ f q, pathOK ds l (walkF l f i q) stk.length) ∧ (runR l row g c0 w0 n i s c w stk).2.2.2 = 0 ∧ i ≤ l.length
def jR (l : List Ins) (i : Nat) (p : Ins) (pp : List Int) : Nat := (nextR p.1 p.2 i l.length (pp.getD 0 0)).toNat
theorem ExR.adv {l : List Ins} (hl : checkI l = 0) {ds : List Int} {row : Int} {g : List Gl} {c0 w0 : Int} {n i s : Nat} {c w : Int} {stk : List Int} (h : ExR l ds row g c0 w0 n i s c w stk) {p : Ins} (e : l[i]? = some p) :
  ∃ n' a pp, stk = a ++ pp ∧ (pp.length : Int) = popS p.1 ∧ ds.getD i 0 = stk.length ∧ (a.length : Int) + pushS p.1 ≤ 16 ∧ i < jR l i p pp ∧ jR l i p pp ≤ l.length ∧ (p.1 ≠ 0 → ((jR l i p pp : Nat) : Int) ∈ sucL p.1 p.2 i) ∧ (p.1 = 0 → jR l i p pp = l.length) ∧
   runR l row g c0 w0 n i s c w stk = runR l row g c0 w0 n' (jR l i p pp) (s + 1) (clsR p.1 c (pp.getD 0 0)) (waiR p.1 w (pp.getD 0 0)) (a ++ (pushedR row g c w p.1 p.2 pp).map limS) ∧
   ExR l ds row g c0 w0 n' (jR l i p pp) (s + 1) (clsR p.1 c (pp.getD 0 0)) (waiR p.1 w (pp.getD 0 0)) (a ++ (pushedR row g c w p.1 p.2 pp).map limS) := by
 obtain ⟨hk, hp, herr, hi⟩ := h
 have hi : i < l.length := (List.getElem?_eq_some_iff.1 e).1
 obtain ⟨a1, a2, a3, a4, a5⟩ := chk_at hl e
 have hgd := getD_some e
 have hp1 := hp 1 0
 rw [walk_step 0 0 hi] at hp1
 have hp1 := hp1.1
 rw [Int.toNat_natCast, hgd] at hp1
 obtain ⟨_, _, b0, b1, b2, _⟩ := hp1
 have hf : ¬ failR stk p.1 := by unfold failR; omega
 cases n with
 | zero => rw [runR_fuel e] at herr; exact absurd herr (by decide : (14 : Int) ≠ 0)
 | succ n =>
  obtain ⟨a, pp, rfl, hrs, hpl⟩ := okS_split hk a1 a2 hf
  have hst := runR_step (row := row) (g := g) (c0 := c0) (w0 := w0) (n := n) (s := s) (c := c) (w := w) e hf hrs
  rw [hst] at herr
  have hkn := okS_next (row := row) (g := g) (c := c) (w := w) (arg := p.2) hk a1 a2 hf hpl
  have hml := pushedR_len row g c w p.2 pp a1 a2
  have hla : (a ++ pp).length = a.length + pp.length := List.length_append
  refine ⟨n, a, pp, rfl, hpl, b0, by omega, ?_, ?_, ?_, ?_, hst, hkn, ?_, herr, ?_⟩
  ·unfold jR nextR; split
   ·omega
   split
   ·omega
   split
   ·omega
   ·omega
  ·unfold jR nextR; split
   ·omega
   split
   ·omega
   split
   ·omega
   ·omega
  ·intro h0
   unfold jR nextR sucL
   rw [if_neg h0, List.mem_append]
   by_cases h17 : p.1 = 17
   ·refine .inr ?_
    rw [if_pos h17, if_pos (.inl h17), List.mem_singleton]; have := a5 (.inl h17); omega
   ·rw [if_neg h17]
    by_cases h18 : p.1 = 18 ∧ pp.getD 0 0 = 0
    ·refine .inr ?_
     rw [if_pos h18, if_pos (.inr h18.1), List.mem_singleton]; have := a5 (.inr h18.1); omega
    ·refine .inl ?_
     rw [if_neg h18, if_neg (fun h => h.elim h0 h17), List.mem_singleton]; omega
  ·intro h0
   unfold jR nextR; rw [if_pos h0]; omega
  ·intro f q
   by_cases h0 : p.1 = 0
   ·have : jR l i p pp = l.length := by unfold jR nextR; rw [if_pos h0]; omega
    rw [this, walk_end _ _ (Nat.le_refl _)]
    trivial
   ·obtain ⟨q2, hq⟩ := walk_enc e h0 (fun h => by have := a5 h; omega) (pp.getD 0 0) q
    have := hp (f + 1) q2
    rw [hq f] at this
    have := this.2
    rw [Int.toNat_natCast, hgd] at this
    rw [List.length_append, List.length_map]
    rw [List.length_append] at this
    rw [show ((a.length + (pushedR row g c w p.1 p.2 pp).length : Nat) : Int) = ((a.length + pp.length : Nat) : Int) - popS p.1 + pushS p.1 from by omega]
    exact this
  ·unfold jR nextR; split
   ·omega
   split
   ·omega
   split
   ·omega
   ·omega
def RelM (l : List Ins) (ms : List Mk) (iA iB : Nat) (sA sB : List Int) : Prop := (iA = iB ∧ StEq (getM ms iA).2 sA sB) ∨ ((iA = l.length ∨ (getM ms iA).1 = true) ∧ (iB = l.length ∨ (getM ms iB).1 = true))
theorem RelM.grow {l : List Ins} {ms ns : List Mk} {iA iB : Nat} {sA sB : List Int} (h : RelM l ms iA iB sA sB) (hg : ∀ j, LM (getM ms j) (getM ns j)) : RelM l ns iA iB sA sB := by
 rcases h with ⟨h1, h2⟩ | ⟨h1, h2⟩
 ·exact .inl ⟨h1, h2.mono (hg iA).2⟩
 ·exact .inr ⟨h1.imp id (hg iA).1, h2.imp id (hg iB).1⟩
theorem aft_ctl {op d : Int} {c : Bool} {s : List Bool} (h : c = true) : (aft op d c s).1 = true := by
 subst h
 unfold aft aft1
 simp only
 repeat' split
 all_goals first | rfl | simp
theorem ni {l : List Ins} (hl : checkI l = 0) {ds : List Int} {row : Int} {gA gB : List Gl} {c0 w0 : Int} : ∀ (m k : Nat) (ms : List Mk), k + m = l.length → ms.length = l.length + 1 → Wf ms → hRun ds k (l.drop k) ms = false →
  ∀ (nA iA tA nB iB tB : Nat) (c w : Int) (sA sB : List Int), ExR l ds row gA c0 w0 nA iA tA c w sA → ExR l ds row gB c0 w0 nB iB tB c w sB → k ≤ iA → k ≤ iB → RelM l ms iA iB sA sB →
  (runR l row gA c0 w0 nA iA tA c w sA).1 = (runR l row gB c0 w0 nB iB tB c w sB).1 ∧ (runR l row gA c0 w0 nA iA tA c w sA).2.1 = (runR l row gB c0 w0 nB iB tB c w sB).2.1 := by
 intro m
 induction m with
 | zero =>
  intro k ms hk hms hwf hr nA iA tA nB iB tB c w sA sB hA hB h1 h2 hrel
  have := hA.2.2.2
  have := hB.2.2.2
  rw [runR_none (List.getElem?_eq_none (by omega)), runR_none (List.getElem?_eq_none (by omega))]
  exact ⟨rfl, rfl⟩
 | succ m ih =>
  intro k ms hk hms hwf hr nA iA tA nB iB tB c w sA sB hA hB h1 h2 hrel
  have hlt : k < l.length := by omega
  obtain ⟨p, e⟩ : ∃ p, l[k]? = some p := ⟨_, List.getElem?_eq_getElem hlt⟩
  have hdrop : l.drop k = p :: l.drop (k + 1) := by
   rw [List.drop_eq_getElem_cons hlt]
   rw [List.getElem?_eq_getElem hlt] at e
   injection e with e; rw [e]
  rw [hdrop, hRun] at hr
  obtain ⟨a1, a2, a3, a4, a5⟩ := chk_at hl e
  have hsu := good_suc (good_of hl) hlt
  rw [getD_some e] at hsu
  have hml : (getM ms k).2.length = 16 := hwf.get (by omega)
  have hal : (aft p.1 (ds.getD k 0) (getM ms k).1 (getM ms k).2).2.length = 16 := by rw [aft_len]; exact hml
  have hsr : ∀ x ∈ sucL p.1 p.2 k, x.toNat < ms.length := fun x hx => by have := hsu.2 x hx; omega
  have hgrow := hSet_grow (aft p.1 (ds.getD k 0) (getM ms k).1 (getM ms k).2) (sucL p.1 p.2 k) ms
  have hhit := hSet_hit hal (sucL p.1 p.2 k) ms hwf hsr
  have hwf2 := hSet_wf (m := aft p.1 (ds.getD k 0) (getM ms k).1 (getM ms k).2) (sucL p.1 p.2 k) ms hwf hsr
  have hlen2 : (hSet (aft p.1 (ds.getD k 0) (getM ms k).1 (getM ms k).2) (sucL p.1 p.2 k) ms).length = l.length + 1 := by rw [hSet_len]; exact hms
  by_cases hAk : iA = k
  ·obtain ⟨n', a, pp, r1, r2, r3, r4, r5, r6, r7, r8, r9, r10⟩ := hA.adv hl (by rw [hAk]; exact e)
   rw [hAk] at r3 r5 r6 r7 r8
   rw [if_neg (by omega)] at hr
   split at hr
   ·cases hr
   rename_i hflag
   have hjA : jR l k p pp ≠ l.length → LM (aft p.1 (ds.getD k 0) (getM ms k).1 (getM ms k).2) (getM (hSet (aft p.1 (ds.getD k 0) (getM ms k).1 (getM ms k).2) (sucL p.1 p.2 k) ms) (jR l k p pp)) := by
    intro hne
    have := hhit _ (r7 (fun h0 => hne (r8 h0)))
    rwa [Int.toNat_natCast] at this
   by_cases hBk : iB = k
   ·obtain ⟨m', b, qq, u1, u2, u3, u4, u5, u6, u7, u8, u9, u10⟩ := hB.adv hl (by rw [hBk]; exact e)
    rw [hBk] at u3 u5 u6 u7 u8
    have hjB : jR l k p qq ≠ l.length → LM (aft p.1 (ds.getD k 0) (getM ms k).1 (getM ms k).2) (getM (hSet (aft p.1 (ds.getD k 0) (getM ms k).1 (getM ms k).2) (sucL p.1 p.2 k) ms) (jR l k p qq)) := by
     intro hne
     have := hhit _ (u7 (fun h0 => hne (u8 h0)))
     rwa [Int.toNat_natCast] at this
    rw [r9, u9, hAk, hBk]
    rw [hAk] at r10
    rw [hBk] at u10
    rw [hAk, hBk] at hrel
    by_cases hc : (getM ms k).1 = true
    ·have n19 : p.1 ≠ 19 := fun h => hflag ⟨.inl h, .inl hc⟩
     have n20 : p.1 ≠ 20 := fun h => hflag ⟨.inr h, .inl hc⟩
     have ec : ∀ x, clsR p.1 c x = c := fun x => by unfold clsR; rw [if_neg (fun h => n19 h.1)]
     have ew : ∀ x, waiR p.1 w x = w := fun x => by unfold waiR; rw [if_neg (fun h => n20 h.1)]
     rw [ec, ew] at r10 u10 ⊢
     rw [ec, ew]
     refine ih (k + 1) _ (by omega) hlen2 hwf2 hr _ _ _ _ _ _ _ _ _ _ r10 u10 r5 u5 (.inr ⟨?_, ?_⟩)
     ·by_cases hne : jR l k p pp = l.length
      ·exact .inl hne
      ·exact .inr ((hjA hne).1 (aft_ctl hc))
     ·by_cases hne : jR l k p qq = l.length
      ·exact .inl hne
      ·exact .inr ((hjB hne).1 (aft_ctl hc))
    ·have hst : StEq (getM ms k).2 sA sB := by
      rcases hrel with ⟨_, h⟩ | ⟨h, _⟩
      ·exact h
      ·rcases h with h | h
       ·omega
       ·exact absurd h hc
     have hsl := hst.1
     rw [r1, u1, List.length_append, List.length_append] at hsl
     have htop : (p.1 = 18 ∨ p.1 = 19 ∨ p.1 = 20) → (getM ms k).2.getD (ds.getD k 0 - 1).toNat false = false → pp.getD 0 0 = qq.getD 0 0 := by
      intro hop hz
      have hpo : popS p.1 = 1 := by rcases hop with h | h | h <;> rw [h] <;> rfl
      obtain ⟨x, hx⟩ := list_1 (r2.trans hpo)
      obtain ⟨y, hy⟩ := list_1 (u2.trans hpo)
      rw [hx] at hsl r1
      rw [hy] at hsl u1
      simp only [List.length_singleton] at hsl
      have hlA : sA.length = a.length + 1 := by rw [r1, List.length_append]; rfl
      have h3 := hst.2 a.length (by omega) (by rw [show a.length = (ds.getD k 0 - 1).toNat from by omega]; exact hz)
      have e1 := getD_app_hi (a := a) (p := [x]) 0
      have e2 := getD_app_hi (a := b) (p := [y]) 0
      rw [Nat.add_zero] at e1 e2
      rw [r1, u1, e1, show a.length = b.length from by omega, e2] at h3
      rw [hx, hy]; exact h3
     have hlow : jR l k p pp = jR l k p qq → clsR p.1 c (pp.getD 0 0) = clsR p.1 c (qq.getD 0 0) → waiR p.1 w (pp.getD 0 0) = waiR p.1 w (qq.getD 0 0) →
       (runR l row gA c0 w0 n' (jR l k p pp) (tA + 1) (clsR p.1 c (pp.getD 0 0)) (waiR p.1 w (pp.getD 0 0)) (a ++ (pushedR row gA c w p.1 p.2 pp).map limS)).1 = (runR l row gB c0 w0 m' (jR l k p qq) (tB + 1) (clsR p.1 c (qq.getD 0 0)) (waiR p.1 w (qq.getD 0 0)) (b ++ (pushedR row gB c w p.1 p.2 qq).map limS)).1 ∧
       (runR l row gA c0 w0 n' (jR l k p pp) (tA + 1) (clsR p.1 c (pp.getD 0 0)) (waiR p.1 w (pp.getD 0 0)) (a ++ (pushedR row gA c w p.1 p.2 pp).map limS)).2.1 = (runR l row gB c0 w0 m' (jR l k p qq) (tB + 1) (clsR p.1 c (qq.getD 0 0)) (waiR p.1 w (qq.getD 0 0)) (b ++ (pushedR row gB c w p.1 p.2 qq).map limS)).2.1 := by
      intro h hc1 hw1
      rw [← h, ← hc1, ← hw1] at u10 ⊢
      have hstk : RelM l (hSet (aft p.1 (ds.getD k 0) (getM ms k).1 (getM ms k).2) (sucL p.1 p.2 k) ms) (jR l k p pp) (jR l k p pp) (a ++ (pushedR row gA c w p.1 p.2 pp).map limS) (b ++ (pushedR row gB c w p.1 p.2 qq).map limS) := by
       by_cases hne : jR l k p pp = l.length
       ·exact .inr ⟨.inl hne, .inl hne⟩
       ·have hsA16 := hA.1.1
        rw [r1] at hst hsA16 r3
        rw [u1] at hst
        have h4 := low_push (row := row) (gA := gA) (gB := gB) (c := c) (w := w) (arg := p.2) (cc := (getM ms k).1) a1 a2 r2 u2 hml (by rw [List.length_append] at hsA16; exact hsA16) r4 hst
        rw [List.length_append] at r3
        rw [← r3] at h4
        exact .inl ⟨rfl, h4.mono (hjA hne).2⟩
      exact ih (k + 1) _ (by omega) hlen2 hwf2 hr _ _ _ _ _ _ _ _ _ _ r10 u10 r5 r5 hstk
     by_cases hop18 : p.1 = 18
     ·have ec : ∀ x, clsR p.1 c x = c := fun x => by unfold clsR; rw [if_neg (fun h => by omega)]
      have ew : ∀ x, waiR p.1 w x = w := fun x => by unfold waiR; rw [if_neg (fun h => by omega)]
      by_cases hz : (getM ms k).2.getD (ds.getD k 0 - 1).toNat false = false
      ·have hx := htop (.inl hop18) hz
       have hj : jR l k p pp = jR l k p qq := by unfold jR; rw [hx]
       exact hlow hj (by rw [hx]) (by rw [hx])
      ·have hz : (getM ms k).2.getD (ds.getD k 0 - 1).toNat false = true := by simpa using hz
       have hct : (aft p.1 (ds.getD k 0) (getM ms k).1 (getM ms k).2).1 = true := by
        rw [hop18]
        show ((getM ms k).1 || (getM ms k).2.getD (ds.getD k 0 - 1).toNat false) = true
        rw [hz, Bool.or_true]
       rw [ec, ew] at r10 u10 ⊢
       rw [ec, ew]
       refine ih (k + 1) _ (by omega) hlen2 hwf2 hr _ _ _ _ _ _ _ _ _ _ r10 u10 r5 u5 (.inr ⟨?_, ?_⟩)
       ·by_cases hne : jR l k p pp = l.length
        ·exact .inl hne
        ·exact .inr ((hjA hne).1 hct)
       ·by_cases hne : jR l k p qq = l.length
        ·exact .inl hne
        ·exact .inr ((hjB hne).1 hct)
     ·have hj : jR l k p pp = jR l k p qq := by
       have hnn : ∀ x, nextR p.1 p.2 k l.length x = if p.1 = 0 then (l.length : Int) else if p.1 = 17 then p.2 else (k : Int) + 1 := fun x => by
        unfold nextR
        rw [if_neg (show ¬ (p.1 = 18 ∧ x = 0) from fun h => hop18 h.1)]
       unfold jR
       rw [hnn, hnn]
      have hcw : clsR p.1 c (pp.getD 0 0) = clsR p.1 c (qq.getD 0 0) ∧ waiR p.1 w (pp.getD 0 0) = waiR p.1 w (qq.getD 0 0) := by
       by_cases h19 : p.1 = 19 ∨ p.1 = 20
       ·have hz : (getM ms k).2.getD (ds.getD k 0 - 1).toNat false = false := by
         cases hb : (getM ms k).2.getD (ds.getD k 0 - 1).toNat false with
         | false => rfl
         | true => exact absurd ⟨h19, .inr hb⟩ hflag
        rw [htop (.inr h19) hz]
        exact ⟨rfl, rfl⟩
       ·unfold clsR waiR
        rw [if_neg (fun h => h19 (.inl h.1)), if_neg (fun h => h19 (.inl h.1)), if_neg (fun h => h19 (.inr h.1)), if_neg (fun h => h19 (.inr h.1))]
        exact ⟨rfl, rfl⟩
      exact hlow hj hcw.1 hcw.2
   ·have hBgt : k + 1 ≤ iB := by omega
    have hhigh : (getM ms k).1 = true ∧ (iB = l.length ∨ (getM ms iB).1 = true) := by
     rcases hrel with ⟨h, _⟩ | ⟨h, h'⟩
     ·omega
     ·rw [hAk] at h
      exact ⟨h.resolve_left (by omega), h'⟩
    have n19 : p.1 ≠ 19 := fun h => hflag ⟨.inl h, .inl hhigh.1⟩
    have n20 : p.1 ≠ 20 := fun h => hflag ⟨.inr h, .inl hhigh.1⟩
    have ec : ∀ x, clsR p.1 c x = c := fun x => by unfold clsR; rw [if_neg (fun h => n19 h.1)]
    have ew : ∀ x, waiR p.1 w x = w := fun x => by unfold waiR; rw [if_neg (fun h => n20 h.1)]
    rw [r9, hAk]
    rw [hAk] at r10
    rw [ec, ew] at r10 ⊢
    refine ih (k + 1) _ (by omega) hlen2 hwf2 hr _ _ _ _ _ _ _ _ _ _ r10 hB r5 hBgt (.inr ⟨?_, hhigh.2.imp id (hgrow iB).1⟩)
    by_cases hne : jR l k p pp = l.length
    ·exact .inl hne
    ·exact .inr ((hjA hne).1 (aft_ctl hhigh.1))
  ·have hAgt : k + 1 ≤ iA := by omega
   by_cases hBk : iB = k
   ·obtain ⟨m', b, qq, u1, u2, u3, u4, u5, u6, u7, u8, u9, u10⟩ := hB.adv hl (by rw [hBk]; exact e)
    rw [hBk] at u3 u5 u6 u7 u8
    rw [if_neg (by omega)] at hr
    split at hr
    ·cases hr
    rename_i hflag
    have hjB : jR l k p qq ≠ l.length → LM (aft p.1 (ds.getD k 0) (getM ms k).1 (getM ms k).2) (getM (hSet (aft p.1 (ds.getD k 0) (getM ms k).1 (getM ms k).2) (sucL p.1 p.2 k) ms) (jR l k p qq)) := by
     intro hne
     have := hhit _ (u7 (fun h0 => hne (u8 h0)))
     rwa [Int.toNat_natCast] at this
    have hhigh : (getM ms k).1 = true ∧ (iA = l.length ∨ (getM ms iA).1 = true) := by
     rcases hrel with ⟨h, _⟩ | ⟨h, h'⟩
     ·omega
     ·rw [hBk] at h'
      exact ⟨h'.resolve_left (by omega), h⟩
    have n19 : p.1 ≠ 19 := fun h => hflag ⟨.inl h, .inl hhigh.1⟩
    have n20 : p.1 ≠ 20 := fun h => hflag ⟨.inr h, .inl hhigh.1⟩
    have ec : ∀ x, clsR p.1 c x = c := fun x => by unfold clsR; rw [if_neg (fun h => n19 h.1)]
    have ew : ∀ x, waiR p.1 w x = w := fun x => by unfold waiR; rw [if_neg (fun h => n20 h.1)]
    rw [u9, hBk]
    rw [hBk] at u10
    rw [ec, ew] at u10 ⊢
    refine ih (k + 1) _ (by omega) hlen2 hwf2 hr _ _ _ _ _ _ _ _ _ _ hA u10 hAgt u5 (.inr ⟨hhigh.2.imp id (hgrow iA).1, ?_⟩)
    by_cases hne : jR l k p qq = l.length
    ·exact .inl hne
    ·exact .inr ((hjB hne).1 (aft_ctl hhigh.1))
   ·have hBgt : k + 1 ≤ iB := by omega
    split at hr
    ·exact ih (k + 1) ms (by omega) hms hwf hr _ _ _ _ _ _ _ _ _ _ hA hB hAgt hBgt hrel
    ·split at hr
     ·cases hr
     ·exact ih (k + 1) _ (by omega) hlen2 hwf2 hr _ _ _ _ _ _ _ _ _ _ hA hB hAgt hBgt (hrel.grow hgrow)
end Go.VI

namespace Go.VI
open Go.Proofs
set_option maxRecDepth 100000
set_option linter.unusedSimpArgs false
set_option linter.unusedVariables false
set_option maxHeartbeats 4000000
theorem run_5000 {l : List Ins} (h : (depthsS l).2 = 0) (row : Int) (g : List Gl) (c w : Int) : checkI l = 0 ∧ ExR l (depthsS l).1 row g c w 5000 0 0 c w [] := by
 obtain ⟨fin, hck, _⟩ := depths_ok h
 have hf := fuel_501 hck
 obtain ⟨q, hq⟩ := run_path hck row g c w (depthsS l).1 5000 0 0 c w [] ⟨by decide, by simp⟩ (fun f q => depths_path h f q)
 refine ⟨hck, ⟨by decide, by simp⟩, fun f q => depths_path h f q, ?_, Nat.zero_le _⟩
 rcases hq with ⟨r1, _⟩ | ⟨r1, r2⟩
 ·exact r1
 ·have := (fuel_ge hck (5000 + 1) q).2
  omega
theorem independent {l : List Ins} (h1 : (hiddenS l).1 = false) (h2 : (hiddenS l).2 = 0) (row : Int) (ga1 gb1 : List Gl) (c w r : Int) :
  (runT l row ga1 c w r 5000).c = (runT l row gb1 c w r 5000).c ∧ (runT l row ga1 c w r 5000).w = (runT l row gb1 c w r 5000).w ∧ (runT l row ga1 c w r 5000).r = r ∧ (runT l row gb1 c w r 5000).r = r := by
 have hd : (depthsS l).2 = 0 := by
  unfold hiddenS at h2
  by_cases h : (depthsS l).2 = 0
  ·exact h
  ·rw [if_neg h] at h2; exact absurd h2 h
 have hr : hRun (depthsS l).1 0 l (List.replicate (l.length + 1) z0) = false := by
  unfold hiddenS at h1
  rw [if_pos hd] at h1
  exact h1
 obtain ⟨hck, hA⟩ := run_5000 hd row ga1 c w
 obtain ⟨_, hB⟩ := run_5000 hd row gb1 c w
 have := ni hck l.length 0 (List.replicate (l.length + 1) z0) (by omega) (by simp) (wf_rep _) (by rw [List.drop_zero]; exact hr) 5000 0 0 5000 0 0 c w [] [] hA hB (Nat.le_refl _) (Nat.le_refl _) (.inl ⟨rfl, rfl, fun j hj => absurd hj (Nat.not_lt_zero _)⟩)
 unfold runT
 simp only [if_pos hck, limI_5000]
 exact ⟨this.1, this.2, by trivial, by trivial⟩
end Go.VI

namespace Go.VI
open Go.Proofs
set_option maxRecDepth 100000
set_option linter.unusedSimpArgs false
set_option linter.unusedVariables false
set_option maxHeartbeats 4000000
theorem ik21 (n : Int) (h : -9223372036854775808 ≤ n ∧ n ≤ 9223372036854775807) (H : Hp) : isoK E (callT E) 21 [.i (.v (.int .i64 n))] H = some (.i (.str (Lib.itoa n)), H) :=
 isoK_ext (show E.ext 21 = some extItoa from rfl) rfl rfl ⟨[], by simp only [extItoa]; rw [if_pos h]⟩
theorem ik57 (s : List UInt8) (b : UInt8) (H : Hp) : isoK E (callT E) 57 [.i (.str s), .i (.str [b])] H = some (.i (.v (.int .i64 (Lib.countByte s b))), H) :=
 isoK_ext (show E.ext 57 = some extCount from rfl) rfl rfl ⟨[], rfl⟩
theorem ik81 (s : List UInt8) (b : Int) (H : Hp) : isoK E (callT E) 81 [.i (.str s), .i (.v (.int .u8 b))] H = some (.i (.v (.int .i64 (Lib.indexByte s b.toNat.toUInt8))), H) :=
 isoK_ext (show E.ext 81 = some extIndexByte from rfl) rfl rfl ⟨[], rfl⟩
section
variable (x : Chunk) (s out : List UInt8)
theorem wsF (h0' : 0 < s.length) (h1 : s.length ≤ 1000000) : isoK E (callT E) 20 [.mref 1, .i (.str s)] [x, .tb 66 [.i (.v (.pointer none)), .i (.v (.slice none 0 0))]] = some (.tup [.i (.v (.int .i64 s.length)), .dead], [x, .tb 66 [.mref (1), .mref (2)], .buf 5 s]) := by
 rw [isoK_cl (show E.ext 20 = some (extWS 66 5) from rfl)]
 unfold isoK
 simp [exCl, refsL, refsA, reach, posIn, Chunk.refs, Chunk.ren, renL, renA, extWS, h0', h1, backRen, setAll]
theorem ws0 (h0' : 0 < s.length) (h1' : 0 < out.length) (h2 : s.length + out.length ≤ 1000000) : isoK E (callT E) 20 [.mref 1, .i (.str s)] [x, .tb 66 [.mref (1), .mref (2)], .buf 5 out] = some (.tup [.i (.v (.int .i64 s.length)), .dead], [x, .tb 66 [.mref (1), .mref (3)], .gone, .buf 5 (out ++ s)]) := by
 rw [isoK_cl (show E.ext 20 = some (extWS 66 5) from rfl)]
 unfold isoK
 simp [exCl, refsL, refsA, reach, posIn, Chunk.refs, Chunk.ren, renL, renA, extWS, h0', h1', h2, backRen, setAll]
theorem ws1 (h0' : 0 < s.length) (h1' : 0 < out.length) (h2 : s.length + out.length ≤ 1000000) : isoK E (callT E) 20 [.mref 1, .i (.str s)] [x, .tb 66 [.mref (1), .mref (3)], .gone, .buf 5 out] = some (.tup [.i (.v (.int .i64 s.length)), .dead], [x, .tb 66 [.mref (1), .mref (4)], .gone, .gone, .buf 5 (out ++ s)]) := by
 rw [isoK_cl (show E.ext 20 = some (extWS 66 5) from rfl)]
 unfold isoK
 simp [exCl, refsL, refsA, reach, posIn, Chunk.refs, Chunk.ren, renL, renA, extWS, h0', h1', h2, backRen, setAll]
theorem ws2 (h0' : 0 < s.length) (h1' : 0 < out.length) (h2 : s.length + out.length ≤ 1000000) : isoK E (callT E) 20 [.mref 1, .i (.str s)] [x, .tb 66 [.mref (1), .mref (4)], .gone, .gone, .buf 5 out] = some (.tup [.i (.v (.int .i64 s.length)), .dead], [x, .tb 66 [.mref (1), .mref (5)], .gone, .gone, .gone, .buf 5 (out ++ s)]) := by
 rw [isoK_cl (show E.ext 20 = some (extWS 66 5) from rfl)]
 unfold isoK
 simp [exCl, refsL, refsA, reach, posIn, Chunk.refs, Chunk.ren, renL, renA, extWS, h0', h1', h2, backRen, setAll]
theorem ws3 (h0' : 0 < s.length) (h1' : 0 < out.length) (h2 : s.length + out.length ≤ 1000000) : isoK E (callT E) 20 [.mref 1, .i (.str s)] [x, .tb 66 [.mref (1), .mref (5)], .gone, .gone, .gone, .buf 5 out] = some (.tup [.i (.v (.int .i64 s.length)), .dead], [x, .tb 66 [.mref (1), .mref (6)], .gone, .gone, .gone, .gone, .buf 5 (out ++ s)]) := by
 rw [isoK_cl (show E.ext 20 = some (extWS 66 5) from rfl)]
 unfold isoK
 simp [exCl, refsL, refsA, reach, posIn, Chunk.refs, Chunk.ren, renL, renA, extWS, h0', h1', h2, backRen, setAll]
theorem bsN : isoK E (callT E) 23 [.mref 1] [x, .tb 66 [.i (.v (.pointer none)), .i (.v (.slice none 0 0))]] = some (.i (.str []), [x, .tb 66 [.i (.v (.pointer none)), .i (.v (.slice none 0 0))]]) := by
 rw [isoK_cl (show E.ext 23 = some (extBS 66 5) from rfl)]
 unfold isoK
 simp [exCl, refsL, refsA, reach, posIn, Chunk.refs, Chunk.ren, renL, renA, extBS, backRen, setAll]
theorem bs0 (h1' : 0 < out.length) (h2 : out.length ≤ 1000000) : isoK E (callT E) 23 [.mref 1] [x, .tb 66 [.mref (1), .mref (2)], .buf 5 out] = some (.i (.str out), [x, .tb 66 [.mref 1, .dead], .gone]) := by
 rw [isoK_cl (show E.ext 23 = some (extBS 66 5) from rfl)]
 unfold isoK
 simp [exCl, refsL, refsA, reach, posIn, Chunk.refs, Chunk.ren, renL, renA, extBS, h1', h2, backRen, setAll]
theorem bs1 (h1' : 0 < out.length) (h2 : out.length ≤ 1000000) : isoK E (callT E) 23 [.mref 1] [x, .tb 66 [.mref (1), .mref (3)], .gone, .buf 5 out] = some (.i (.str out), [x, .tb 66 [.mref 1, .dead], .gone, .gone]) := by
 rw [isoK_cl (show E.ext 23 = some (extBS 66 5) from rfl)]
 unfold isoK
 simp [exCl, refsL, refsA, reach, posIn, Chunk.refs, Chunk.ren, renL, renA, extBS, h1', h2, backRen, setAll]
end
def mJ (m : List (Int × IV)) : List (IV × IV) := m.map fun p => (.v (.int .i64 p.1), p.2)
def getI (m : List (Int × IV)) (n : Int) : Option IV := match m with
 | [] => none
 | (k, v) :: r => if n = k then some v else getI r n
def putI (m : List (Int × IV)) (n : Int) (v : IV) : List (Int × IV) := match m with
 | [] => [(n, v)]
 | (k, u) :: r => if n = k then (n, v) :: r else (k, u) :: putI r n v
theorem findK_I (m : List (Int × IV)) (n : Int) : findK (.v (.int .i64 n)) (mJ m) = some (getI m n) := by
 induction m with
 | nil => rfl
 | cons p r ih =>
  obtain ⟨k, v⟩ := p
  simp only [mJ, List.map_cons, findK, sameK, getI] at *
  by_cases h : n = k
  ·simp [h]
  ·simp [h, ih]
theorem putK_I (m : List (Int × IV)) (n : Int) (v : IV) : putK (.v (.int .i64 n)) v (mJ m) = some (mJ (putI m n v)) := by
 induction m with
 | nil => rfl
 | cons p r ih =>
  obtain ⟨k, u⟩ := p
  simp only [mJ, List.map_cons, putK, sameK, putI] at *
  by_cases h : n = k
  ·simp [h]
  ·simp [h, ih]
theorem getI_put (m : List (Int × IV)) (n k : Int) (v : IV) : getI (putI m n v) k = if k = n then some v else getI m k := by
 induction m with
 | nil => simp [putI, getI]
 | cons p r ih =>
  obtain ⟨j, u⟩ := p
  simp only [putI]
  by_cases h : n = j
  ·subst h
   simp only [if_true, getI]
   split <;> simp_all
  ·simp only [if_neg h, getI, ih]
   by_cases h2 : k = j
   ·subst h2
    rw [if_pos rfl, if_pos rfl, if_neg (by omega)]
   ·simp [h2]
def mS (m : List (List UInt8 × IV)) : List (IV × IV) := m.map fun p => (.str p.1, p.2)
def getS (m : List (List UInt8 × IV)) (n : List UInt8) : Option IV := match m with
 | [] => none
 | (k, v) :: r => if n = k then some v else getS r n
def putS (m : List (List UInt8 × IV)) (n : List UInt8) (v : IV) : List (List UInt8 × IV) := match m with
 | [] => [(n, v)]
 | (k, u) :: r => if n = k then (n, v) :: r else (k, u) :: putS r n v
theorem findK_S (m : List (List UInt8 × IV)) (n : List UInt8) : findK (.str n) (mS m) = some (getS m n) := by
 induction m with
 | nil => rfl
 | cons p r ih =>
  obtain ⟨k, v⟩ := p
  simp only [mS, List.map_cons, findK, sameK, getS] at *
  by_cases h : n = k
  ·simp [h]
  ·simp [h, ih]
theorem putK_S (m : List (List UInt8 × IV)) (n : List UInt8) (v : IV) : putK (.str n) v (mS m) = some (mS (putS m n v)) := by
 induction m with
 | nil => rfl
 | cons p r ih =>
  obtain ⟨k, u⟩ := p
  simp only [mS, List.map_cons, putK, sameK, putS] at *
  by_cases h : n = k
  ·simp [h]
  ·simp [h, ih]
theorem getS_put (m : List (List UInt8 × IV)) (n k : List UInt8) (v : IV) : getS (putS m n v) k = if k = n then some v else getS m k := by
 induction m with
 | nil => simp [putS, getS]
 | cons p r ih =>
  obtain ⟨j, u⟩ := p
  simp only [putS]
  by_cases h : n = j
  ·subst h
   simp only [if_true, getS]
   split <;> simp_all
  ·simp only [if_neg h, getS, ih]
   by_cases h2 : k = j
   ·subst h2
    rw [if_pos rfl, if_pos rfl, if_neg (fun e => h e.symm)]
   ·simp [h2]
theorem mJ_nil : mJ [] = [] := rfl
def namesB : List (List UInt8) := [[104, 97, 108, 116], [112, 117, 115, 104], [114, 111, 119], [108, 101, 110, 103, 116, 104], [99, 104, 97, 114], [115, 116, 121, 108, 101], [99, 108, 97, 115, 115], [119, 97, 105, 116], [97, 100, 100], [115, 117, 98], [109, 117, 108], [101, 113, 117, 97, 108], [108, 101, 115, 115], [110, 111, 116], [100, 117, 112], [100, 114, 111, 112], [115, 119, 97, 112], [106, 117, 109, 112], [106, 117, 109, 112, 122, 101, 114, 111], [115, 101, 116, 99, 108, 97, 115, 115], [115, 101, 116, 119, 97, 105, 116]]
def rowsW (l : List (List UInt8)) : List (List IV) := l.map fun s => [.str s]
theorem rowsW_len (l : List (List UInt8)) : (rowsW l).length = l.length := by simp [rowsW]
theorem rowsW_at {l : List (List UInt8)} {k : Nat} (h : k < l.length) : (rowsW l)[k]? = some [.str l[k]] := by simp [rowsW, h]
theorem names_ex : (call E 60 22 [] []).map (·.1) = some (.i (.sl 1 (rowsW namesB) false)) := by kernel_rfl
theorem ikN (H : Hp) : isoK E (callT E) 22 [] H = some (.i (.sl 1 (rowsW namesB) false), H) := by
 have h := names_ex
 cases hc : call E 60 22 [] [] with
 | none => rw [hc] at h; cases h
 | some p =>
  obtain ⟨r, L⟩ := p
  rw [hc] at h
  simp only [Option.map_some, Option.some.injEq] at h
  subst h
  exact isoK_val rfl rfl rfl ⟨L, callT_of hc⟩
end Go.VI

namespace Go.VI
open Go.Proofs
set_option maxRecDepth 100000
set_option linter.unusedSimpArgs false
set_option linter.unusedVariables false
set_option maxHeartbeats 8000000
theorem ixB_self (b : UInt8) : Lib.indexByte [b] b = 0 := by simp [Lib.indexByte]
theorem c71 (s : List UInt8) (b : UInt8) : ∃ L, callT E 71 [.i (.str s), .i (.str [b])] [] = some (.i (.v (.int .i64 (Lib.indexByte s b))), L) := by
 have hI := fun H => ik81 s b.toNat H
 rw [show ((b.toNat : Int)).toNat.toUInt8 = b by simp] at hI
 by_cases hs : s = [b]
 ·have h1 : ([b] == s) = true := by subst hs; simp
  have h2 : Lib.indexByte s b = 0 := by subst hs; exact ixB_self b
  rw [h2]
  rw [callT_eq Tryd.func71 rfl fok71 (by simp [Tryd.ntmps71])]
  simp (disch := first | omega | (simp only [vlen]; omega)) only [vall, reduceCtorEq, ↓reduceIte, zq0, zq1, zq2, zq3, zq4, zq5, zq6, zq7, zq8, zq9, zq10, zq11, zq12, zq13, zq14, zq15, zq16, zq17, en71, h1]
  exact ⟨_, rfl⟩
 ·have h1 : ([b] == s) = false := by simp; exact fun e => hs e.symm
  generalize Lib.indexByte s b = q at *
  rw [callT_eq Tryd.func71 rfl fok71 (by simp [Tryd.ntmps71])]
  simp (disch := first | omega | (simp only [vlen]; omega)) only [vall, reduceCtorEq, ↓reduceIte, zq0, zq1, zq2, zq3, zq4, zq5, zq6, zq7, zq8, zq9, zq10, zq11, zq12, zq13, zq14, zq15, zq16, zq17, en71, h1, hI]
  exact ⟨_, rfl⟩
theorem ik71 (s : List UInt8) (b : UInt8) (H : Hp) : isoK E (callT E) 71 [.i (.str s), .i (.str [b])] H = some (.i (.v (.int .i64 (Lib.indexByte s b))), H) := isoK_val rfl rfl rfl (c71 s b)
theorem c58 (s : List UInt8) (b : UInt8) : ∃ L, callT E 58 [.i (.str s), .i (.str [b])] [] = some (.i (.v (.int .i64 (Lib.indexByte s b))), L) := by
 have hI := fun H => ik71 s b H
 generalize Lib.indexByte s b = q at *
 rw [callT_eq Tryd.func58 rfl fok58 (by simp [Tryd.ntmps58])]
 simp (disch := first | omega | (simp only [vlen]; omega)) only [vall, reduceCtorEq, ↓reduceIte, zq0, zq1, zq2, zq3, zq4, zq5, zq6, zq7, zq8, zq9, zq10, zq11, zq12, zq13, zq14, zq15, zq16, zq17, en58, hI]
 exact ⟨_, rfl⟩
theorem ik58 (s : List UInt8) (b : UInt8) (H : Hp) : isoK E (callT E) 58 [.i (.str s), .i (.str [b])] H = some (.i (.v (.int .i64 (Lib.indexByte s b))), H) := isoK_val rfl rfl rfl (c58 s b)
def cutB (b : UInt8) : List UInt8 → List (List UInt8)
 | [] => [[]]
 | x :: r => if x = b then [] :: cutB b r else match cutB b r with
  | p :: q => (x :: p) :: q
  | [] => [[x]]
theorem cutB_none {b : UInt8} : ∀ {s : List UInt8}, Lib.countByte s b = 0 → cutB b s = [s]
 | [], _ => rfl
 | x :: r, h => by
  have h1 : x ≠ b := by
   rintro rfl
   simp [Lib.countByte] at h
  have h2 : Lib.countByte r b = 0 := by
   unfold Lib.countByte at h ⊢
   rw [List.count_cons_of_ne h1] at h
   exact h
  rw [cutB, if_neg h1, cutB_none h2]
theorem cutB_first {b : UInt8} : ∀ {s : List UInt8} {c : Nat}, Lib.countByte s b = c + 1 → ∃ a t, s = a ++ b :: t ∧ Lib.indexByte s b = a.length ∧ Lib.countByte t b = c ∧ cutB b s = a :: cutB b t
 | [], c, h => by simp [Lib.countByte] at h
 | x :: r, c, h => by
  by_cases h1 : x = b
  ·subst h1
   refine ⟨[], r, rfl, by simp [Lib.indexByte], ?_, by rw [cutB, if_pos rfl]⟩
   unfold Lib.countByte at h ⊢
   rw [List.count_cons_self] at h
   omega
  ·have h2 : Lib.countByte r b = c + 1 := by
    unfold Lib.countByte at h ⊢
    rw [List.count_cons_of_ne h1] at h
    exact h
   obtain ⟨a, t, e1, e2, e3, e4⟩ := cutB_first h2
   refine ⟨x :: a, t, by rw [e1]; rfl, ?_, e3, by rw [cutB, if_neg h1, e4]⟩
   have hx : (x == b) = false := by simpa using h1
   unfold Lib.indexByte
   rw [hx, e2]
   have : ((a.length : Int) == -1) = false := by
    have : (a.length : Int) ≠ -1 := by omega
    exact beq_eq_false_iff_ne.2 this
   simp [this]
theorem rowsW_app (a c : List (List UInt8)) : rowsW (a ++ c) = rowsW a ++ rowsW c := by simp [rowsW]
theorem rowsW_set (done : List (List UInt8)) (x : List UInt8) (z : List IV) (R : List (List IV)) : (rowsW done ++ z :: R).set done.length [.str x] = rowsW (done ++ [x]) ++ R := by
 rw [List.set_append_right _ _ (by rw [rowsW_len]; exact Nat.le_refl _), rowsW_len, Nat.sub_self, List.set_cons_zero, rowsW_app]
 simp [rowsW]
set_option linter.defProp false in
def lp39_11 := show ∀ B fr H, execT E B 39 (Code.loop _) fr H = rlG E B 39 (loopAt Tryd.f39 0) (gcn B (norm [0, 1, 2, 3, 9, 10] fr) H) from fun B fr H => rl_intro rfl mt39_11 mb39_11 zf39_11 hd39_11 fr H
theorem l39 (b : UInt8) : ∀ (c : Nat) (s : List UInt8) (hs : s.length ≤ 1000000) (hc : Lib.countByte s b = c) (done : List (List UInt8)) (hd : done.length + c ≤ 1000000),
  ∃ init last, cutB b s = init ++ [last] ∧ init.length = c ∧ last.length ≤ s.length ∧ rl E 0 39 (loopAt Tryd.f39 0) [(0, .i (.str s)), (1, .i (.str [b])), (2, .i (.v (.int .i64 0))), (3, .i (.v (.int .i64 ((done.length + c : Nat))))), (9, .ref 0 0 0 (done.length + c + 1)), (10, .i (.v (.int .i64 done.length)))] [.sl 1 0 (rowsW done ++ List.replicate (c + 1) [.str []]) false] =
   some (.exit 0, [(0, .i (.str last)), (1, .i (.str [b])), (2, .i (.v (.int .i64 0))), (3, .i (.v (.int .i64 ((done.length + c : Nat))))), (9, .ref 0 0 0 (done.length + c + 1)), (10, .i (.v (.int .i64 ((done.length + c : Nat))))), (36, .i (.v (.bool false)))], [.sl 1 0 (rowsW (done ++ init) ++ [[.str []]]) false]) := by
 intro c
 induction c with
 | zero =>
  intro s hs hc done hd
  refine ⟨[], s, cutB_none hc, rfl, Nat.le_refl _, ?_⟩
  rw [List.append_nil]
  rw [rl_step (fn := Tryd.f39) (k := 0) rfl]
  simp (disch := first | omega | (simp only [vlen, rowsW_len]; omega)) only [vall, reduceCtorEq, ↓reduceIte, zq0, zq1, zq2, zq3, zq4, zq5, zq6, zq7, zq8, zq9, zq10, zq11, zq12, zq13, zq14, zq15, zq16, zq17, en39, bs72, rowsW_len, lp39_11]
 | succ c ih =>
  intro s hs hc done hd
  obtain ⟨a, t, rfl, hix, hct, hcut⟩ := cutB_first hc
  have hlt : (a ++ b :: t).length = a.length + (t.length + 1) := by simp
  obtain ⟨init, last, h1, h2, h3, h4⟩ := ih t (by omega) hct (done ++ [a]) (by simp; omega)
  refine ⟨a :: init, last, by rw [hcut, h1]; rfl, by simp [h2], by omega, ?_⟩
  have hl1 : (done ++ [a]).length = done.length + 1 := by simp
  rw [hl1, show done.length + 1 + c = done.length + (c + 1) by omega, List.append_assoc, show [a] ++ init = a :: init from rfl] at h4
  rw [← h4]
  clear h4 ih hcut h1
  have hI := fun H => ik58 (a ++ b :: t) b H
  rw [hix] at hI
  have ht1 : (a ++ b :: t).take a.length = a := List.take_left
  have ht2 : (a ++ b :: t).drop (a.length + 1) = t := by rw [List.drop_append, List.drop_of_length_le (by omega)]; simp
  generalize a ++ b :: t = S at *
  have hset := rowsW_set done a [.str []] (List.replicate (c + 1) [.str []])
  rw [show List.replicate (c + 1 + 1) ([.str []] : List IV) = [.str []] :: List.replicate (c + 1) [.str []] from rfl]
  have hrow : (rowsW done ++ [.str []] :: List.replicate (c + 1) [.str []])[done.length]? = some [IV.str []] := by
   rw [List.getElem?_append_right (by rw [rowsW_len]; exact Nat.le_refl _), rowsW_len, Nat.sub_self]; rfl
  generalize List.replicate (c + 1) ([.str []] : List IV) = RR at *
  rw [rl_step (fn := Tryd.f39) (k := 0) rfl]
  have e0 : ((a.length : Int) + 0).toNat - 0 = a.length := by omega
  simp (disch := first | omega | (simp only [vlen, rowsW_len]; omega)) only [vall, reduceCtorEq, ↓reduceIte, zq0, zq1, zq2, zq3, zq4, zq5, zq6, zq7, zq8, zq9, zq10, zq11, zq12, zq13, zq14, zq15, zq16, zq17, en39, bs72, e0, rowsW_len, hI, hlt, ht1, ht2, hset, hrow, lp39_11]
theorem c39 (b : UInt8) (s : List UInt8) (hs : s.length ≤ 900000) : ∃ L, callT E 39 [.i (.str s), .i (.str [b]), .i (.v (.int .i64 0)), .i (.v (.int .i64 (-1)))] [] = some (.i (.sl 1 (rowsW (cutB b s)) false), L) := by
 have hcl : Lib.countByte s b ≤ s.length := List.count_le_length
 obtain ⟨init, last, h1, h2, h3, h4⟩ := l39 b (Lib.countByte s b) s (by omega) rfl [] (by simp; omega)
 have hC := fun H => ik57 s b H
 rw [h1]
 rw [List.length_nil, Nat.zero_add, List.nil_append, show rowsW [] = [] from rfl, List.nil_append] at h4
 generalize Lib.countByte s b = c at *
 have hm : min ((c + 1 : Nat) : Int) ((s.length + 1 : Nat) : Int) = ((c + 1 : Nat) : Int) := by omega
 have hset := rowsW_set init last [.str []] []
 have hrow : (rowsW init ++ [[IV.str []]])[c]? = some [IV.str []] := by
  rw [List.getElem?_append_right (by rw [rowsW_len, h2]; exact Nat.le_refl _), rowsW_len, h2, Nat.sub_self]; rfl
 have hrl : (rowsW init ++ [[IV.str []]]).length = c + 1 := by rw [List.length_append, rowsW_len, h2]; rfl
 have hrl2 : (rowsW (init ++ [last])).length = c + 1 := by rw [rowsW_len, List.length_append, h2]; rfl
 have htk : (rowsW (init ++ [last])).take (c + 1) = rowsW (init ++ [last]) := List.take_of_length_le (by rw [hrl2]; exact Nat.le_refl _)
 rw [h2, List.append_nil] at hset
 have h4' : rl E 0 39 (loopAt Tryd.f39 0) [(0, .i (.str s)), (1, .i (.str [b])), (2, .i (.v (.int .i64 0))), (3, .i (.v (.int .i64 c))), (9, .ref 0 0 0 (c + 1)), (10, .i (.v (.int .i64 0)))] [.sl 1 0 ([.str []] :: List.replicate c [.str []]) false] = _ := h4
 have e2 : ((c + 1 : Nat) : Int) - 1 = c := by omega
 rw [callT_eq Tryd.func39 rfl fok39 (by simp [Tryd.ntmps39])]
 simp (disch := first | omega | (simp only [vlen, rowsW_len, hrl, hrl2]; omega)) only [vall, reduceCtorEq, ↓reduceIte, zq0, zq1, zq2, zq3, zq4, zq5, zq6, zq7, zq8, zq9, zq10, zq11, zq12, zq13, zq14, zq15, zq16, zq17, en39, bs72, hC, hm, e2, h4', hset, hrow, hrl, hrl2, htk, rowsW_len, lp39_11]
 exact ⟨_, rfl⟩
theorem ik39 (b : UInt8) (s : List UInt8) (hs : s.length ≤ 900000) (H : Hp) : isoK E (callT E) 39 [.i (.str s), .i (.str [b]), .i (.v (.int .i64 0)), .i (.v (.int .i64 (-1)))] H = some (.i (.sl 1 (rowsW (cutB b s)) false), H) := isoK_val rfl rfl rfl (c39 b s hs)
theorem c24 (b : UInt8) (s : List UInt8) (hs : s.length ≤ 900000) : ∃ L, callT E 24 [.i (.str s), .i (.str [b])] [] = some (.i (.sl 1 (rowsW (cutB b s)) false), L) := by
 have h := fun H => ik39 b s hs H
 generalize cutB b s = q at *
 rw [callT_eq Tryd.func24 rfl fok24 (by simp [Tryd.ntmps24])]
 simp (disch := first | omega | (simp only [vlen]; omega)) only [vall, reduceCtorEq, ↓reduceIte, zq0, zq1, zq2, zq3, zq4, zq5, zq6, zq7, zq8, zq9, zq10, zq11, zq12, zq13, zq14, zq15, zq16, zq17, en24, h]
 exact ⟨_, rfl⟩
theorem ik24 (b : UInt8) (s : List UInt8) (hs : s.length ≤ 900000) (H : Hp) : isoK E (callT E) 24 [.i (.str s), .i (.str [b])] H = some (.i (.sl 1 (rowsW (cutB b s)) false), H) := isoK_val rfl rfl rfl (c24 b s hs)
end Go.VI

namespace Go.VI
open Go.Proofs
set_option maxRecDepth 100000
set_option linter.unusedSimpArgs false
set_option linter.unusedVariables false
set_option maxHeartbeats 8000000
def Asc (s : List UInt8) : Prop := ∀ x ∈ s, x.toNat < 128
theorem dec_lo' (s : List UInt8) (pos : Nat) (h : pos < s.length) (ha : s[pos].toNat < 128) : Utf8.decode ⟨⟨s⟩⟩ pos = (s[pos].toNat, 1) := decode_ascii ⟨⟨s⟩⟩ pos h ha
theorem xor_nat (m : Nat) (h : m < 4611686018427387904) : (BitVec.ofInt 64 (-1) ^^^ BitVec.ofInt 64 (m : Int)).toNat = 18446744073709551615 - m := by
 have e1 : BitVec.ofInt 64 (-1) = BitVec.allOnes 64 := rfl
 have e2 : BitVec.ofInt 64 (m : Int) = BitVec.ofNat 64 m := rfl
 rw [e1, e2, BitVec.allOnes_xor, BitVec.toNat_not, BitVec.toNat_ofNat, Nat.mod_eq_of_lt (by omega)]
theorem xor_neg {n : Int} (h0 : 0 ≤ n) (h1 : n < 4611686018427387904) : bitsE .xor .i64 (-1) n = some (-1 - n) := by
 obtain ⟨m, rfl⟩ : ∃ m : Nat, n = m := ⟨n.toNat, by omega⟩
 have h := xor_nat m (by omega)
 have h2 : bitsE .xor .i64 (-1) (m : Int) = some (IntKind.i64.wrap (((BitVec.ofInt IntKind.i64.bits (-1) ^^^ BitVec.ofInt IntKind.i64.bits (m : Int)).toNat : Nat) : Int)) := rfl
 rw [h2, show (BitVec.ofInt IntKind.i64.bits (-1) ^^^ BitVec.ofInt IntKind.i64.bits (m : Int)).toNat = 18446744073709551615 - m from h, IntKind.wrap_i64]
 refine congrArg some ?_
 omega
theorem c45 (n : Int) : ∃ L, callT E 45 [.i (.v (.int .i32 n))] [] = some (.i (.v (.bool (decide (n = 32)))), L) := by
 rw [callT_eq Tryd.func45 rfl fok45 (by simp [Tryd.ntmps45])]
 simp (disch := first | omega | (simp only [vlen]; omega)) only [vall, reduceCtorEq, ↓reduceIte, zq0, zq1, zq2, zq3, zq4, zq5, zq6, zq7, zq8, zq9, zq10, zq11, zq12, zq13, zq14, zq15, zq16, zq17, en45]
 exact ⟨_, rfl⟩
theorem ik45 (n : Int) (H : Hp) : isoK E (callT E) 45 [.i (.v (.int .i32 n))] H = some (.i (.v (.bool (decide (n = 32)))), H) := isoK_val rfl rfl rfl (c45 n)
def fS : Nat → Int → List UInt8 → List Ins × Int
 | _, st, [] => ([], st)
 | pos, st, x :: r => if x = 32 then (if 0 ≤ st then ((st, (pos : Int)) :: (fS (pos + 1) (-1 - st) r).1, (fS (pos + 1) (-1 - st) r).2) else fS (pos + 1) st r)
  else (if st < 0 then fS (pos + 1) pos r else fS (pos + 1) st r)
theorem fS_len : ∀ (s : List UInt8) (pos : Nat) (st : Int), (fS pos st s).1.length ≤ s.length
 | [], _, _ => Nat.le_refl _
 | x :: r, pos, st => by
  have h1 := fS_len r (pos + 1) (-1 - st)
  have h2 := fS_len r (pos + 1) st
  have h3 := fS_len r (pos + 1) pos
  rw [fS, List.length_cons]
  split
  ·split
   ·simp; omega
   ·omega
  ·split <;> omega
set_option linter.defProp false in
def lp44_4 := show ∀ B fr H, execT E B 44 (Code.loop _) fr H = rlM E B 44 (loopAt Tryd.f44 0) [0, 1, 5, 6, 14] [] (matF [(5, 2)] fr H).1 (matB [] (matF [(5, 2)] fr H).1 (matF [(5, 2)] fr H).2) from fun B fr H => rl_introM rfl mt44_4 mb44_4 zf44_4 hd44_4 fr H
theorem l044 (s : List UInt8) (hs : s.length ≤ 900000) (ha : Asc s) : ∀ (k : Nat) (hk : k ≤ s.length) (st : Int) (hst : -1000001 ≤ st ∧ st ≤ 1000000) (acc : List Ins) (hac : acc.length ≤ k),
  rl E 0 44 (loopAt Tryd.f44 0) [(0, .i (.str s)), (1, .clo (.func 45) [] []), (5, .ref 0 0 0 acc.length), (6, .i (.v (.int .i64 st))), (14, .ptr 1 0 0 0)] [.sl 2 0 (rowsI acc) false, .iter s k] =
   some (.exit 0, [(0, .i (.str s)), (1, .clo (.func 45) [] []), (5, .ref 0 0 0 (acc ++ (fS k st (s.drop k)).1).length), (6, .i (.v (.int .i64 (fS k st (s.drop k)).2))), (14, .ptr 1 0 0 0), (15, .tup [.i (.v (.bool false))]), (16, .i (.v (.bool false)))], [.sl 2 0 (rowsI (acc ++ (fS k st (s.drop k)).1)) false, .iter s s.length]) := by
 intro k hk st hst acc hac
 have htk : (rowsI acc).take acc.length = rowsI acc := List.take_of_length_le (by rw [rowsI_len]; exact Nat.le_refl _)
 rw [rl_step (fn := Tryd.f44) (k := 0) rfl]
 by_cases hlt : k < s.length
 ·have hd := dec_lo' s k hlt (ha _ (List.getElem_mem hlt))
  have hb := ha _ (List.getElem_mem hlt)
  rw [List.drop_eq_getElem_cons hlt, fS]
  generalize s[k] = x at *
  by_cases hx : x = 32
  ·rw [if_pos hx]
   subst hx
   rw [show ((32 : UInt8).toNat) = 32 from rfl] at hd
   by_cases h0 : 0 ≤ st
   ·rw [if_pos h0]
    have ih := l044 s hs ha (k + 1) hlt (-1 - st) (by omega) (acc ++ [(st, (k : Int))]) (by simp; omega)
    have hsn : rowsI acc ++ [[.v (.int .i64 st), .v (.int .i64 (k : Int))]] = rowsI (acc ++ [(st, (k : Int))]) := by simp [rowsI, insC]
    have hl1 : (acc ++ [(st, (k : Int))]).length = acc.length + 1 := by simp
    rw [List.append_assoc, hl1] at ih
    rw [← show ([(st, (k : Int))] ++ (fS (k + 1) (-1 - st) (s.drop (k + 1))).1) = (st, (k : Int)) :: (fS (k + 1) (-1 - st) (s.drop (k + 1))).1 from rfl]
    simp only
    rw [← ih]
    clear ih
    have hxo : bitsE .xor .i64 (if IntKind.i64.signed = true then -1 else IntKind.i64.max) st = some (-1 - st) := xor_neg (n := st) h0 (by omega)
    simp (disch := first | omega | (simp only [vlen, rowsI_len]; omega)) only [vall, reduceCtorEq, ↓reduceIte, zq0, zq1, zq2, zq3, zq4, zq5, zq6, zq7, zq8, zq9, zq10, zq11, zq12, zq13, zq14, zq15, zq16, zq17, en44, bs120, bs72, hd, ik45, h0, hxo, htk, hsn, rowsI_len, hlt, lp44_4, ca45]
   ·rw [if_neg h0]
    have ih := l044 s hs ha (k + 1) hlt st hst acc (by omega)
    rw [← ih]
    clear ih
    simp (disch := first | omega | (simp only [vlen, rowsI_len]; omega)) only [vall, reduceCtorEq, ↓reduceIte, zq0, zq1, zq2, zq3, zq4, zq5, zq6, zq7, zq8, zq9, zq10, zq11, zq12, zq13, zq14, zq15, zq16, zq17, en44, bs120, bs72, hd, ik45, h0, htk, rowsI_len, hlt, lp44_4, ca45]
  ·rw [if_neg hx]
   have hx2 : ¬ ((x.toNat : Int) = 32) := by
    intro e
    apply hx
    have : x.toNat = 32 := by omega
    exact UInt8.toNat_inj.1 this
   by_cases h0 : st < 0
   ·rw [if_pos h0]
    have ih := l044 s hs ha (k + 1) hlt k (by omega) acc (by omega)
    rw [← ih]
    clear ih
    simp (disch := first | omega | (simp only [vlen, rowsI_len]; omega)) only [vall, reduceCtorEq, ↓reduceIte, zq0, zq1, zq2, zq3, zq4, zq5, zq6, zq7, zq8, zq9, zq10, zq11, zq12, zq13, zq14, zq15, zq16, zq17, en44, bs120, bs72, hd, ik45, h0, hx2, htk, rowsI_len, hlt, lp44_4, ca45]
   ·rw [if_neg h0]
    have ih := l044 s hs ha (k + 1) hlt st hst acc (by omega)
    rw [← ih]
    clear ih
    simp (disch := first | omega | (simp only [vlen, rowsI_len]; omega)) only [vall, reduceCtorEq, ↓reduceIte, zq0, zq1, zq2, zq3, zq4, zq5, zq6, zq7, zq8, zq9, zq10, zq11, zq12, zq13, zq14, zq15, zq16, zq17, en44, bs120, bs72, hd, ik45, h0, hx2, htk, rowsI_len, hlt, lp44_4, ca45]
 ·obtain rfl : k = s.length := by omega
  rw [List.drop_length, fS]
  simp only [List.append_nil]
  simp (disch := first | omega | (simp only [vlen, rowsI_len]; omega)) only [vall, reduceCtorEq, ↓reduceIte, zq0, zq1, zq2, zq3, zq4, zq5, zq6, zq7, zq8, zq9, zq10, zq11, zq12, zq13, zq14, zq15, zq16, zq17, en44, bs120, bs72, rowsI_len, htk, lp44_4]
termination_by k => s.length - k
def bndS (n : Nat) (q : List Ins × Int) : List Ins := if 0 ≤ q.2 then q.1 ++ [(q.2, (n : Int))] else q.1
def cutP (s : List UInt8) (p : Ins) : List UInt8 := (s.take p.2.toNat).drop p.1.toNat
def fieldsS (s : List UInt8) : List (List UInt8) := (bndS s.length (fS 0 (-1) s)).map (cutP s)
set_option linter.defProp false in
def lp44_16 := show ∀ B fr H, execT E B 44 (Code.loop _) fr H = rlG E B 44 (loopAt Tryd.f44 1) (gcn B (norm [0, 9, 47, 48, 49] fr) H) from fun B fr H => rl_intro rfl mt44_16 mb44_16 zf44_16 hd44_16 fr H
theorem l144 (s : List UInt8) (hs : s.length ≤ 900000) (L : List Ins) (hL : L.length ≤ 900001) (hok : ∀ p ∈ L, 0 ≤ p.1 ∧ p.1 ≤ p.2 ∧ p.2 ≤ s.length) : ∀ (k : Nat) (hk : k ≤ L.length) (done : List (List UInt8)) (hd : done.length = k),
  rl E 0 44 (loopAt Tryd.f44 1) [(0, .i (.str s)), (9, .ref 0 0 0 L.length), (47, .ref 1 0 0 L.length), (48, .i (.v (.int .i64 L.length))), (49, .i (.v (.int .i64 k)))] [.sl 1 0 (rowsW done ++ List.replicate (L.length - k) [.str []]) false, .sl 2 0 (rowsI L) false] =
   some (.exit 2, [(0, .i (.str s)), (9, .ref 0 0 0 L.length), (47, .ref 1 0 0 L.length), (48, .i (.v (.int .i64 L.length))), (49, .i (.v (.int .i64 L.length))), (50, .i (.v (.bool false)))], [.sl 1 0 (rowsW (done ++ (L.drop k).map (cutP s))) false, .sl 2 0 (rowsI L) false]) := by
 intro k hk done hd
 rw [rl_step (fn := Tryd.f44) (k := 1) rfl]
 by_cases hlt : k < L.length
 ·have hrow := rowsI_at hlt
  obtain ⟨p1, p2, p3⟩ := hok L[k] (List.getElem_mem hlt)
  rw [List.drop_eq_getElem_cons hlt, List.map_cons]
  generalize L[k] = p at *
  obtain ⟨a, b⟩ := p
  simp only at hrow p1 p2 p3 ⊢
  have ih := l144 s hs L hL hok (k + 1) hlt (done ++ [cutP s (a, b)]) (by simp [hd])
  rw [List.append_assoc, show [cutP s (a, b)] ++ (L.drop (k + 1)).map (cutP s) = cutP s (a, b) :: (L.drop (k + 1)).map (cutP s) from rfl] at ih
  rw [← ih]
  clear ih
  have hcut : (s.drop a.toNat).take (b.toNat - a.toNat) = cutP s (a, b) := by unfold cutP; rw [List.drop_take]
  generalize cutP s (a, b) = x at *
  have hset := rowsW_set done x [.str []] (List.replicate (L.length - (k + 1)) [.str []])
  rw [hd] at hset
  have hsub : L.length - k = (L.length - (k + 1)) + 1 := by omega
  have hrep : List.replicate (L.length - k) ([.str []] : List IV) = [.str []] :: List.replicate (L.length - (k + 1)) [.str []] := by rw [hsub]; rfl
  rw [hrep]
  have hrow2 : (rowsW done ++ [.str []] :: List.replicate (L.length - (k + 1)) [.str []])[k]? = some [IV.str []] := by
   rw [List.getElem?_append_right (by rw [rowsW_len]; omega), rowsW_len, hd, Nat.sub_self]; rfl
  generalize List.replicate (L.length - (k + 1)) ([.str []] : List IV) = RR at *
  simp (disch := first | omega | (simp only [vlen, rowsI_len]; omega)) only [vall, reduceCtorEq, ↓reduceIte, zq0, zq1, zq2, zq3, zq4, zq5, zq6, zq7, zq8, zq9, zq10, zq11, zq12, zq13, zq14, zq15, zq16, zq17, en44, bs120, bs72, hrow, hrow2, hset, hcut, rowsW_len, rowsI_len, lp44_16]
 ·obtain rfl : k = L.length := by omega
  rw [List.drop_length, List.map_nil, List.append_nil, Nat.sub_self]
  simp only [List.replicate_zero, List.append_nil]
  simp (disch := first | omega | (simp only [vlen, rowsI_len]; omega)) only [vall, reduceCtorEq, ↓reduceIte, zq0, zq1, zq2, zq3, zq4, zq5, zq6, zq7, zq8, zq9, zq10, zq11, zq12, zq13, zq14, zq15, zq16, zq17, en44, bs120, bs72, rowsI_len, rowsW_len, lp44_16]
termination_by k => L.length - k
theorem fS_ok (n : Nat) : ∀ (s : List UInt8) (pos : Nat) (st : Int), pos + s.length = n → st ≤ pos → (∀ p ∈ (fS pos st s).1, 0 ≤ p.1 ∧ p.1 ≤ p.2 ∧ p.2 ≤ n) ∧ (fS pos st s).2 ≤ n
 | [], pos, st, h, h1 => by
  simp only [fS, List.length_nil] at *
  exact ⟨by simp, by omega⟩
 | x :: r, pos, st, h, h1 => by
  rw [List.length_cons] at h
  rw [fS]
  by_cases hx : x = 32
  ·rw [if_pos hx]
   by_cases h0 : 0 ≤ st
   ·rw [if_pos h0]
    obtain ⟨a, b⟩ := fS_ok n r (pos + 1) (-1 - st) (by omega) (by omega)
    refine ⟨fun p hp => ?_, b⟩
    rcases List.mem_cons.1 hp with rfl | hp
    ·exact ⟨h0, h1, by simp only; omega⟩
    ·exact a p hp
   ·rw [if_neg h0]
    exact fS_ok n r (pos + 1) st (by omega) (by omega)
  ·rw [if_neg hx]
   split
   ·exact fS_ok n r (pos + 1) pos (by omega) (by omega)
   ·exact fS_ok n r (pos + 1) st (by omega) (by omega)
theorem c44 (s : List UInt8) (hs : s.length ≤ 900000) (ha : Asc s) : ∃ L, callT E 44 [.i (.str s), .clo (.func 45) [] []] [] = some (.i (.sl 1 (rowsW (fieldsS s)) false), L) := by
 have h0 := l044 s hs ha 0 (Nat.zero_le _) (-1) (by omega) [] (Nat.zero_le _)
 obtain ⟨k1, k2⟩ := fS_ok s.length s 0 (-1) (by omega) (by omega)
 have hlen := fS_len s 0 (-1)
 rw [List.drop_zero, List.nil_append, List.length_nil, show rowsI [] = [] from rfl] at h0
 unfold fieldsS bndS
 generalize fS 0 (-1) s = q at *
 obtain ⟨acc, st⟩ := q
 simp only at h0 k1 k2 hlen ⊢
 have htk : (rowsI acc).take acc.length = rowsI acc := List.take_of_length_le (by rw [rowsI_len]; exact Nat.le_refl _)
 by_cases hst : 0 ≤ st
 ·rw [if_pos hst]
  have hsn : rowsI acc ++ [[.v (.int .i64 st), .v (.int .i64 (s.length : Int))]] = rowsI (acc ++ [(st, (s.length : Int))]) := by simp [rowsI, insC]
  have hl1 : (acc ++ [(st, (s.length : Int))]).length = acc.length + 1 := by simp
  have h1 := l144 s hs (acc ++ [(st, (s.length : Int))]) (by rw [hl1]; omega) (fun p hp => by
   rcases List.mem_append.1 hp with hp | hp
   ·exact k1 p hp
   ·simp at hp; subst hp; exact ⟨hst, k2, Int.le_refl _⟩) 0 (Nat.zero_le _) [] rfl
  rw [List.drop_zero, List.nil_append, Nat.sub_zero, hl1, show rowsW [] = [] from rfl, List.nil_append, show List.replicate (acc.length + 1) ([.str []] : List IV) = [.str []] :: List.replicate acc.length [.str []] from rfl, show ((0 : Nat) : Int) = 0 from rfl] at h1
  generalize hfin : (acc ++ [(st, (s.length : Int))]).map (cutP s) = fin at *
  have hfl : fin.length = acc.length + 1 := by rw [← hfin, List.length_map, hl1]
  have htk2 : (rowsW fin).take (acc.length + 1) = rowsW fin := List.take_of_length_le (by rw [rowsW_len, hfl]; exact Nat.le_refl _)
  have htk3 : (rowsI (acc ++ [(st, (s.length : Int))])).take (acc.length + 1) = rowsI (acc ++ [(st, (s.length : Int))]) := List.take_of_length_le (by rw [rowsI_len, hl1]; exact Nat.le_refl _)
  have hrl : (rowsI (acc ++ [(st, (s.length : Int))])).length = acc.length + 1 := by rw [rowsI_len, hl1]
  have hrl2 : (rowsW fin).length = acc.length + 1 := by rw [rowsW_len, hfl]
  rw [callT_eq Tryd.func44 rfl fok44 (by simp [Tryd.ntmps44])]
  simp (disch := first | omega | (simp only [vlen, rowsI_len, hrl, hrl2]; omega)) only [vall, reduceCtorEq, ↓reduceIte, zq0, zq1, zq2, zq3, zq4, zq5, zq6, zq7, zq8, zq9, zq10, zq11, zq12, zq13, zq14, zq15, zq16, zq17, en44, bs120, bs72, h0, h1, hst, hsn, hl1, htk, htk2, htk3, hrl, hrl2, rowsI_len, rowsW_len, lp44_4, lp44_16]
  exact ⟨_, rfl⟩
 ·rw [if_neg hst]
  have h1 := l144 s hs acc (by omega) k1 0 (Nat.zero_le _) [] rfl
  rw [List.drop_zero, List.nil_append, Nat.sub_zero, show rowsW [] = [] from rfl, List.nil_append, show ((0 : Nat) : Int) = 0 from rfl] at h1
  generalize hfin : acc.map (cutP s) = fin at *
  have hfl : fin.length = acc.length := by rw [← hfin, List.length_map]
  have htk2 : (rowsW fin).take acc.length = rowsW fin := List.take_of_length_le (by rw [rowsW_len, hfl]; exact Nat.le_refl _)
  have hrl2 : (rowsW fin).length = acc.length := by rw [rowsW_len, hfl]
  rw [callT_eq Tryd.func44 rfl fok44 (by simp [Tryd.ntmps44])]
  simp (disch := first | omega | (simp only [vlen, rowsI_len, hrl2]; omega)) only [vall, reduceCtorEq, ↓reduceIte, zq0, zq1, zq2, zq3, zq4, zq5, zq6, zq7, zq8, zq9, zq10, zq11, zq12, zq13, zq14, zq15, zq16, zq17, en44, bs120, bs72, h0, h1, hst, htk, htk2, hrl2, rowsI_len, rowsW_len, lp44_4, lp44_16]
  exact ⟨_, rfl⟩
theorem ik44 (s : List UInt8) (hs : s.length ≤ 900000) (ha : Asc s) (H : Hp) : isoK E (callT E) 44 [.i (.str s), .clo (.func 45) [] []] H = some (.i (.sl 1 (rowsW (fieldsS s)) false), H) := isoK_val rfl rfl rfl (c44 s hs ha)
theorem c26 (s : List UInt8) (hs : s.length ≤ 900000) (ha : Asc s) : ∃ L, callT E 26 [.i (.str s)] [] = some (.i (.sl 1 (rowsW (fieldsS s)) false), L) := by
 have h := fun H => ik44 s hs ha H
 generalize fieldsS s = q at *
 rw [callT_eq Tryd.func26 rfl fok26 (by simp [Tryd.ntmps26])]
 simp (disch := first | omega | (simp only [vlen]; omega)) only [vall, reduceCtorEq, ↓reduceIte, zq0, zq1, zq2, zq3, zq4, zq5, zq6, zq7, zq8, zq9, zq10, zq11, zq12, zq13, zq14, zq15, zq16, zq17, en26, h]
 exact ⟨_, rfl⟩
theorem ik26 (s : List UInt8) (hs : s.length ≤ 900000) (ha : Asc s) (H : Hp) : isoK E (callT E) 26 [.i (.str s)] H = some (.i (.sl 1 (rowsW (fieldsS s)) false), H) := isoK_val rfl rfl rfl (c26 s hs ha)
end Go.VI

namespace Go.VI
open Go.Proofs
set_option maxRecDepth 100000
set_option linter.unusedSimpArgs false
set_option linter.unusedVariables false
set_option maxHeartbeats 4000000
def rowsB (s : List UInt8) : List (List IV) := s.map fun b => [IV.v (.int .u8 b.toNat)]
theorem rowsB_len (s : List UInt8) : (rowsB s).length = s.length := by simp [rowsB]
theorem rowsB_at {s : List UInt8} {k : Nat} (h : k < s.length) : (rowsB s)[k]? = some [.v (.int .u8 s[k].toNat)] := by simp [rowsB, h]
theorem rowsB_snoc (a : List UInt8) (n : Int) (b : UInt8) (h : n = b.toNat) : rowsB a ++ [[.v (.int .u8 n)]] = rowsB (a ++ [b]) := by subst h; simp [rowsB]
theorem rowsB_num (a : List UInt8) : numsOf (rowsB a) = some (a.map fun b => (b.toNat : Int)) := numsOf_bytes a
theorem rowsB_take (a : List UInt8) (n : Nat) (h : a.length ≤ n) : (rowsB a).take n = rowsB a := List.take_of_length_le (by rw [rowsB_len]; exact h)
theorem bytes_map (a : List UInt8) : (a.map fun b => [IV.v (.int .u8 b.toNat)]) = rowsB a := rfl
end Go.VI

namespace Go.VI
open Go.Proofs
set_option maxRecDepth 100000
set_option linter.unusedSimpArgs false
set_option linter.unusedVariables false
set_option maxHeartbeats 8000000
def endsB (s : List UInt8) (b : UInt8) : Bool := s.drop (s.length - 1) == [b]
def begB (s : List UInt8) (b : UInt8) : Bool := s.take 1 == [b]
theorem c72 (s : List UInt8) (hs : s.length ≤ 1000000) (b : UInt8) : ∃ L, callT E 72 [.i (.str s), .i (.str [b])] [] = some (.i (.v (.bool (endsB s b))), L) := by
 by_cases h0 : s.length = 0
 ·have hs0 : s = [] := List.eq_nil_of_length_eq_zero h0
  subst hs0
  have he : endsB [] b = false := rfl
  rw [he]
  rw [callT_eq Tryd.func72 rfl fok72 (by simp [Tryd.ntmps72])]
  simp (disch := first | omega | (simp only [vlen]; omega)) only [vall, reduceCtorEq, ↓reduceIte, zq0, zq1, zq2, zq3, zq4, zq5, zq6, zq7, zq8, zq9, zq10, zq11, zq12, zq13, zq14, zq15, zq16, zq17, en72]
  exact ⟨_, rfl⟩
 ·have e1 : ((s.length : Int) - 1).toNat = s.length - 1 := by omega
  have e3 : s.length - (s.length - 1) = 1 := by omega
  have e2 : ((s.drop (s.length - 1)).take 1 == [b]) = endsB s b := by
   unfold endsB
   rw [List.take_of_length_le (by rw [List.length_drop]; omega)]
  have e4 : (s.drop (s.length - 1) == [b]) = endsB s b := rfl
  have e5 : s.take (s.length - (s.length - 1)) = s.take 1 := by rw [e3]
  generalize endsB s b = q at *
  rw [callT_eq Tryd.func72 rfl fok72 (by simp [Tryd.ntmps72])]
  simp (disch := first | omega | (simp only [vlen]; omega)) only [vall, reduceCtorEq, ↓reduceIte, zq0, zq1, zq2, zq3, zq4, zq5, zq6, zq7, zq8, zq9, zq10, zq11, zq12, zq13, zq14, zq15, zq16, zq17, en72, e1, e3, e2, e4]
  exact ⟨_, rfl⟩
theorem ik72 (s : List UInt8) (hs : s.length ≤ 1000000) (b : UInt8) (H : Hp) : isoK E (callT E) 72 [.i (.str s), .i (.str [b])] H = some (.i (.v (.bool (endsB s b))), H) := isoK_val rfl rfl rfl (c72 s hs b)
theorem c86 (s : List UInt8) (hs : s.length ≤ 1000000) (b : UInt8) : ∃ L, callT E 86 [.i (.str s), .i (.str [b])] [] = some (.i (.v (.bool (begB s b))), L) := by
 by_cases h0 : s.length = 0
 ·have hs0 : s = [] := List.eq_nil_of_length_eq_zero h0
  subst hs0
  have he : begB [] b = false := rfl
  rw [he]
  rw [callT_eq Tryd.func86 rfl fok86 (by simp [Tryd.ntmps86])]
  simp (disch := first | omega | (simp only [vlen]; omega)) only [vall, reduceCtorEq, ↓reduceIte, zq0, zq1, zq2, zq3, zq4, zq5, zq6, zq7, zq8, zq9, zq10, zq11, zq12, zq13, zq14, zq15, zq16, zq17, en86]
  exact ⟨_, rfl⟩
 ·have e4 : (s.take 1 == [b]) = begB s b := rfl
  generalize begB s b = q at *
  rw [callT_eq Tryd.func86 rfl fok86 (by simp [Tryd.ntmps86])]
  simp (disch := first | omega | (simp only [vlen]; omega)) only [vall, reduceCtorEq, ↓reduceIte, zq0, zq1, zq2, zq3, zq4, zq5, zq6, zq7, zq8, zq9, zq10, zq11, zq12, zq13, zq14, zq15, zq16, zq17, en86, e4]
  exact ⟨_, rfl⟩
theorem ik86 (s : List UInt8) (hs : s.length ≤ 1000000) (b : UInt8) (H : Hp) : isoK E (callT E) 86 [.i (.str s), .i (.str [b])] H = some (.i (.v (.bool (begB s b))), H) := isoK_val rfl rfl rfl (c86 s hs b)
theorem endsB_len {s : List UInt8} {b : UInt8} (h : endsB s b = true) : 1 ≤ s.length := by
 cases s with
 | nil => cases h
 | cons => simp
theorem begB_len {s : List UInt8} {b : UInt8} (h : begB s b = true) : 1 ≤ s.length := by
 cases s with
 | nil => cases h
 | cons => simp
theorem c40 (s : List UInt8) (hs : s.length ≤ 1000000) (b : UInt8) : ∃ L, callT E 40 [.i (.str s), .i (.str [b])] [] = some (.tup [.i (.str (if endsB s b = true then s.take (s.length - 1) else s)), .i (.v (.bool (endsB s b)))], L) := by
 have hin : ∀ H, isoK E (callT E) 59 [.i (.str s), .i (.str [b])] H = some (.tup [.i (.str (if endsB s b = true then s.take (s.length - 1) else s)), .i (.v (.bool (endsB s b)))], H) := fun H => isoK_val rfl rfl rfl (by
  have h := fun H => ik72 s hs b H
  cases he : endsB s b with
  | true =>
   rw [he] at h
   have hl := endsB_len he
   have e1 : ((s.length : Int) - 1).toNat - 0 = s.length - 1 := by omega
   rw [if_pos rfl]
   rw [callT_eq Tryd.func59 rfl fok59 (by simp [Tryd.ntmps59])]
   simp (disch := first | omega | (simp only [vlen]; omega)) only [vall, reduceCtorEq, ↓reduceIte, zq0, zq1, zq2, zq3, zq4, zq5, zq6, zq7, zq8, zq9, zq10, zq11, zq12, zq13, zq14, zq15, zq16, zq17, en59, h, e1]
   exact ⟨_, rfl⟩
  | false =>
   rw [he] at h
   rw [if_neg (by decide)]
   rw [callT_eq Tryd.func59 rfl fok59 (by simp [Tryd.ntmps59])]
   simp (disch := first | omega | (simp only [vlen]; omega)) only [vall, reduceCtorEq, ↓reduceIte, zq0, zq1, zq2, zq3, zq4, zq5, zq6, zq7, zq8, zq9, zq10, zq11, zq12, zq13, zq14, zq15, zq16, zq17, en59, h]
   exact ⟨_, rfl⟩)
 generalize (if endsB s b = true then s.take (s.length - 1) else s) = q at *
 generalize endsB s b = p at *
 rw [callT_eq Tryd.func40 rfl fok40 (by simp [Tryd.ntmps40])]
 simp (disch := first | omega | (simp only [vlen]; omega)) only [vall, reduceCtorEq, ↓reduceIte, zq0, zq1, zq2, zq3, zq4, zq5, zq6, zq7, zq8, zq9, zq10, zq11, zq12, zq13, zq14, zq15, zq16, zq17, en40, hin]
 exact ⟨_, rfl⟩
theorem ik40 (s : List UInt8) (hs : s.length ≤ 1000000) (b : UInt8) (H : Hp) : isoK E (callT E) 40 [.i (.str s), .i (.str [b])] H = some (.tup [.i (.str (if endsB s b = true then s.take (s.length - 1) else s)), .i (.v (.bool (endsB s b)))], H) := isoK_val rfl rfl rfl (c40 s hs b)
theorem c62 (s : List UInt8) (hs : s.length ≤ 1000000) (b : UInt8) : ∃ L, callT E 62 [.i (.str s), .i (.str [b])] [] = some (.tup [.i (.str (if begB s b = true then s.drop 1 else s)), .i (.v (.bool (begB s b)))], L) := by
 have hin : ∀ H, isoK E (callT E) 74 [.i (.str s), .i (.str [b])] H = some (.tup [.i (.str (if begB s b = true then s.drop 1 else s)), .i (.v (.bool (begB s b)))], H) := fun H => isoK_val rfl rfl rfl (by
  have h := fun H => ik86 s hs b H
  cases he : begB s b with
  | true =>
   rw [he] at h
   have hl := begB_len he
   rw [if_pos rfl]
   have e1 : (s.drop 1).take (s.length - 1) = s.drop 1 := List.take_of_length_le (by rw [List.length_drop]; omega)
   rw [callT_eq Tryd.func74 rfl fok74 (by simp [Tryd.ntmps74])]
   simp (disch := first | omega | (simp only [vlen]; omega)) only [vall, reduceCtorEq, ↓reduceIte, zq0, zq1, zq2, zq3, zq4, zq5, zq6, zq7, zq8, zq9, zq10, zq11, zq12, zq13, zq14, zq15, zq16, zq17, en74, h, e1]
   exact ⟨_, rfl⟩
  | false =>
   rw [he] at h
   rw [if_neg (by decide)]
   rw [callT_eq Tryd.func74 rfl fok74 (by simp [Tryd.ntmps74])]
   simp (disch := first | omega | (simp only [vlen]; omega)) only [vall, reduceCtorEq, ↓reduceIte, zq0, zq1, zq2, zq3, zq4, zq5, zq6, zq7, zq8, zq9, zq10, zq11, zq12, zq13, zq14, zq15, zq16, zq17, en74, h]
   exact ⟨_, rfl⟩)
 generalize (if begB s b = true then s.drop 1 else s) = q at *
 generalize begB s b = p at *
 rw [callT_eq Tryd.func62 rfl fok62 (by simp [Tryd.ntmps62])]
 simp (disch := first | omega | (simp only [vlen]; omega)) only [vall, reduceCtorEq, ↓reduceIte, zq0, zq1, zq2, zq3, zq4, zq5, zq6, zq7, zq8, zq9, zq10, zq11, zq12, zq13, zq14, zq15, zq16, zq17, en62, hin]
 exact ⟨_, rfl⟩
theorem ik62 (s : List UInt8) (hs : s.length ≤ 1000000) (b : UInt8) (H : Hp) : isoK E (callT E) 62 [.i (.str s), .i (.str [b])] H = some (.tup [.i (.str (if begB s b = true then s.drop 1 else s)), .i (.v (.bool (begB s b)))], H) := isoK_val rfl rfl rfl (c62 s hs b)
def goodL (n : Int) : Prop := (97 ≤ n ∧ n ≤ 122) ∨ (48 ≤ n ∧ n ≤ 57)
theorem c61 (n : Int) (h : goodL n) : ∃ L, callT E 61 [.i (.v (.int .i32 n))] [] = some (.i (.v (.bool false)), L) := by
 rcases h with ⟨h1, h2⟩ | ⟨h1, h2⟩
 ·rw [callT_eq Tryd.func61 rfl fok61 (by simp [Tryd.ntmps61])]
  simp (disch := first | omega | (simp only [vlen]; omega)) only [vall, reduceCtorEq, ↓reduceIte, zq0, zq1, zq2, zq3, zq4, zq5, zq6, zq7, zq8, zq9, zq10, zq11, zq12, zq13, zq14, zq15, zq16, zq17, en61]
  exact ⟨_, rfl⟩
 ·rw [callT_eq Tryd.func61 rfl fok61 (by simp [Tryd.ntmps61])]
  simp (disch := first | omega | (simp only [vlen]; omega)) only [vall, reduceCtorEq, ↓reduceIte, zq0, zq1, zq2, zq3, zq4, zq5, zq6, zq7, zq8, zq9, zq10, zq11, zq12, zq13, zq14, zq15, zq16, zq17, en61]
  exact ⟨_, rfl⟩
theorem ik61 (n : Int) (h : goodL n) (H : Hp) : isoK E (callT E) 61 [.i (.v (.int .i32 n))] H = some (.i (.v (.bool false)), H) := isoK_val rfl rfl rfl (c61 n h)
def GoodS (s : List UInt8) : Prop := ∀ x ∈ s, goodL x.toNat
set_option linter.defProp false in
def lp85_2 := show ∀ B fr H, execT E B 85 (Code.loop _) fr H = rlG E B 85 (loopAt Tryd.f85 0) (gcn B (norm [1, 2, 10] fr) H) from fun B fr H => rl_intro rfl mt85_2 mb85_2 zf85_2 hd85_2 fr H
theorem ll85 (s : List UInt8) (hs : s.length ≤ 1000000) (hg : GoodS s) : ∀ (k : Nat) (hk : k ≤ s.length), rl E 0 85 (loopAt Tryd.f85 0) [(1, .clo (.func 61) [] []), (2, .i (.v (.bool true))), (10, .ptr 0 0 0 0)] [.iter s k] =
  some (.exit 0, [(1, .clo (.func 61) [] []), (2, .i (.v (.bool true))), (10, .ptr 0 0 0 0), (11, .tup [.i (.v (.bool false))]), (12, .i (.v (.bool false)))], [.iter s s.length]) := by
 intro k hk
 rw [rl_step (fn := Tryd.f85) (k := 0) rfl]
 by_cases hlt : k < s.length
 ·have hb := hg _ (List.getElem_mem hlt)
  have hd := dec_lo' s k hlt (by unfold goodL at hb; omega)
  have hl := fun H => ik61 (s[k].toNat : Int) hb H
  have ih := ll85 s hs hg (k + 1) hlt
  rw [← ih]
  clear ih
  generalize s[k] = x at *
  simp (disch := first | omega | (simp only [vlen]; omega)) only [vall, reduceCtorEq, ↓reduceIte, zq0, zq1, zq2, zq3, zq4, zq5, zq6, zq7, zq8, zq9, zq10, zq11, zq12, zq13, zq14, zq15, zq16, zq17, en85, hd, hl, hlt, lp85_2, ca61]
 ·obtain rfl : k = s.length := by omega
  simp (disch := first | omega | (simp only [vlen]; omega)) only [vall, reduceCtorEq, ↓reduceIte, zq0, zq1, zq2, zq3, zq4, zq5, zq6, zq7, zq8, zq9, zq10, zq11, zq12, zq13, zq14, zq15, zq16, zq17, en85, lp85_2]
termination_by k => s.length - k
theorem c41 (s : List UInt8) (h1 : 1 ≤ s.length) (h2 : s.length ≤ 16) (hg : GoodS s) (b : UInt8) (hb : s[0]? = some b) (hb2 : 97 ≤ b.toNat ∧ b.toNat ≤ 122) : ∃ L, callT E 41 [.i (.str s)] [] = some (.i (.v (.bool true)), L) := by
 have i1 : ∀ H, isoK E (callT E) 85 [.i (.str s), .clo (.func 61) [] [], .i (.v (.bool true))] H = some (.i (.v (.int .i64 (-1))), H) := fun H => isoK_val rfl rfl rfl (by
  have h := ll85 s (by omega) hg 0 (Nat.zero_le _)
  rw [callT_eq Tryd.func85 rfl fok85 (by simp [Tryd.ntmps85])]
  simp (disch := first | omega | (simp only [vlen]; omega)) only [vall, reduceCtorEq, ↓reduceIte, zq0, zq1, zq2, zq3, zq4, zq5, zq6, zq7, zq8, zq9, zq10, zq11, zq12, zq13, zq14, zq15, zq16, zq17, en85, h, lp85_2]
  exact ⟨_, rfl⟩)
 have i2 : ∀ H, isoK E (callT E) 73 [.i (.str s), .clo (.func 61) [] []] H = some (.i (.v (.int .i64 (-1))), H) := fun H => isoK_val rfl rfl rfl (by
  rw [callT_eq Tryd.func73 rfl fok73 (by simp [Tryd.ntmps73])]
  simp (disch := first | omega | (simp only [vlen]; omega)) only [vall, reduceCtorEq, ↓reduceIte, zq0, zq1, zq2, zq3, zq4, zq5, zq6, zq7, zq8, zq9, zq10, zq11, zq12, zq13, zq14, zq15, zq16, zq17, en73, i1]
  exact ⟨_, rfl⟩)
 have i3 : ∀ H, isoK E (callT E) 60 [.i (.str s), .clo (.func 61) [] []] H = some (.i (.v (.bool false)), H) := fun H => isoK_val rfl rfl rfl (by
  rw [callT_eq Tryd.func60 rfl fok60 (by simp [Tryd.ntmps60])]
  simp (disch := first | omega | (simp only [vlen]; omega)) only [vall, reduceCtorEq, ↓reduceIte, zq0, zq1, zq2, zq3, zq4, zq5, zq6, zq7, zq8, zq9, zq10, zq11, zq12, zq13, zq14, zq15, zq16, zq17, en60, i2]
  exact ⟨_, rfl⟩)
 obtain ⟨hb3, hb4⟩ := hb2
 rw [callT_eq Tryd.func41 rfl fok41 (by simp [Tryd.ntmps41])]
 simp (disch := first | omega | (simp only [vlen]; omega)) only [vall, reduceCtorEq, ↓reduceIte, zq0, zq1, zq2, zq3, zq4, zq5, zq6, zq7, zq8, zq9, zq10, zq11, zq12, zq13, zq14, zq15, zq16, zq17, en41, i3, hb]
 exact ⟨_, rfl⟩
theorem ik41 (s : List UInt8) (h1 : 1 ≤ s.length) (h2 : s.length ≤ 16) (hg : GoodS s) (b : UInt8) (hb : s[0]? = some b) (hb2 : 97 ≤ b.toNat ∧ b.toNat ≤ 122) (H : Hp) : isoK E (callT E) 41 [.i (.str s)] H = some (.i (.v (.bool true)), H) := isoK_val rfl rfl rfl (c41 s h1 h2 hg b hb hb2)
set_option linter.defProp false in
def lp42_2 := show ∀ B fr H, execT E B 42 (Code.loop _) fr H = rlG E B 42 (loopAt Tryd.f42 0) (gcn B (norm [0, 1, 7, 8] fr) H) from fun B fr H => rl_intro rfl mt42_2 mb42_2 zf42_2 hd42_2 fr H
theorem l42 (l : List (List UInt8)) (hl : l.length ≤ 1000) (x : List UInt8) (j : Nat) (hj : l[j]? = some x) (hn : ∀ i, i < j → l[i]? ≠ some x) : ∀ (k : Nat) (hk : k ≤ j), 
  rl E 0 42 (loopAt Tryd.f42 0) [(0, .i (.sl 1 (rowsW l) false)), (1, .i (.str x)), (7, .i (.v (.int .i64 l.length))), (8, .i (.v (.int .i64 k)))] [] = some (.ret, [(4, .i (.v (.int .i64 j)))], []) := by
 intro k hk
 rw [rl_step (fn := Tryd.f42) (k := 0) rfl]
 have hjl : j < l.length := (List.getElem?_eq_some_iff.1 hj).1
 have hlt : k < l.length := by omega
 have hrow := rowsW_at hlt
 by_cases he : k = j
 ·subst he
  have hx : l[k] = x := (List.getElem?_eq_some_iff.1 hj).2
  rw [hx] at hrow
  have hxx : (x == x) = true := beq_self_eq_true x
  simp (disch := first | omega | (simp only [vlen, rowsW_len]; omega)) only [vall, reduceCtorEq, ↓reduceIte, zq0, zq1, zq2, zq3, zq4, zq5, zq6, zq7, zq8, zq9, zq10, zq11, zq12, zq13, zq14, zq15, zq16, zq17, en42, bs72, hrow, hxx, rowsW_len, lp42_2]
 ·have hx : (x == l[k]) = false := by
   apply beq_eq_false_iff_ne.2
   intro e
   exact hn k (by omega) (by rw [List.getElem?_eq_getElem hlt, e])
  have ih := l42 l hl x j hj hn (k + 1) (by omega)
  rw [← ih]
  clear ih
  generalize l[k] = y at *
  simp (disch := first | omega | (simp only [vlen, rowsW_len]; omega)) only [vall, reduceCtorEq, ↓reduceIte, zq0, zq1, zq2, zq3, zq4, zq5, zq6, zq7, zq8, zq9, zq10, zq11, zq12, zq13, zq14, zq15, zq16, zq17, en42, bs72, hrow, hx, rowsW_len, lp42_2]
termination_by k => j - k
theorem c42 (l : List (List UInt8)) (hl : l.length ≤ 1000) (x : List UInt8) (j : Nat) (hj : l[j]? = some x) (hn : ∀ i, i < j → l[i]? ≠ some x) : ∃ L, callT E 42 [.i (.sl 1 (rowsW l) false), .i (.str x)] [] = some (.i (.v (.int .i64 j)), L) := by
 have h := l42 l hl x j hj hn 0 (Nat.zero_le _)
 rw [show ((0 : Nat) : Int) = 0 from rfl] at h
 rw [callT_eq Tryd.func42 rfl fok42 (by simp [Tryd.ntmps42])]
 simp (disch := first | omega | (simp only [vlen, rowsW_len]; omega)) only [vall, reduceCtorEq, ↓reduceIte, zq0, zq1, zq2, zq3, zq4, zq5, zq6, zq7, zq8, zq9, zq10, zq11, zq12, zq13, zq14, zq15, zq16, zq17, en42, bs72, h, rowsW_len, lp42_2]
 exact ⟨_, rfl⟩
theorem ik42 (l : List (List UInt8)) (hl : l.length ≤ 1000) (x : List UInt8) (j : Nat) (hj : l[j]? = some x) (hn : ∀ i, i < j → l[i]? ≠ some x) (H : Hp) : isoK E (callT E) 42 [.i (.sl 1 (rowsW l) false), .i (.str x)] H = some (.i (.v (.int .i64 j)), H) := isoK_val rfl rfl rfl (c42 l hl x j hj hn)
theorem names_index {op : Int} (h0 : 0 ≤ op) (h1 : op ≤ 20) : namesB[op.toNat]? = some (namesB.getD op.toNat []) ∧ ∀ i, i < op.toNat → namesB[i]? ≠ some (namesB.getD op.toNat []) := by
 have key : ∀ k : Nat, k < 21 → namesB[k]? = some (namesB.getD k []) ∧ ∀ i, i < k → namesB[i]? ≠ some (namesB.getD k []) := by decide
 exact key op.toNat (by omega)
end Go.VI

namespace Go.VI
open Go.Proofs
set_option maxRecDepth 100000
set_option linter.unusedSimpArgs false
set_option linter.unusedVariables false
set_option maxHeartbeats 8000000
def valD : Int → List UInt8 → Int
 | n, [] => n
 | n, c :: r => valD (10 * n + (c.toNat - 48)) r
theorem valD_app : ∀ (a : List UInt8) (n : Int) (b : List UInt8), valD n (a ++ b) = valD (valD n a) b
 | [], _, _ => rfl
 | c :: r, n, b => valD_app r _ b
def DigS (s : List UInt8) : Prop := ∀ x ∈ s, 48 ≤ x.toNat ∧ x.toNat ≤ 57
theorem valD_ge : ∀ (s : List UInt8) (n : Int), DigS s → 0 ≤ n → n ≤ valD n s
 | [], n, _, _ => Int.le_refl _
 | c :: r, n, h, h0 => by
  have hc := h c (List.mem_cons_self ..)
  have := valD_ge r (10 * n + (c.toNat - 48)) (fun x hx => h x (List.mem_cons_of_mem _ hx)) (by omega)
  rw [valD]
  omega
theorem dig_ok : ∀ (u : Nat), DigS (Lib.decDigits u) ∧ Lib.decDigits u ≠ [] ∧ valD 0 (Lib.decDigits u) = u ∧ ∀ b r, Lib.decDigits u = b :: r → b.toNat = 48 → u = 0 := by
 intro u
 induction u using Nat.strongRecOn with
 | ind u ih =>
  rw [Lib.decDigits]
  by_cases h : u < 10
  ·rw [dif_pos h]
   have hb : (UInt8.ofNat (48 + u)).toNat = 48 + u := by rw [UInt8.toNat_ofNat']; omega
   refine ⟨?_, by simp, ?_, ?_⟩
   ·intro x hx
    simp only [List.mem_singleton] at hx
    subst hx
    omega
   ·simp only [valD, hb]; omega
   ·intro b r he hb2
    simp only [List.cons.injEq] at he
    rw [← he.1, hb] at hb2
    omega
  ·rw [dif_neg h]
   obtain ⟨i1, i2, i3, i4⟩ := ih (u / 10) (by omega)
   have hb : (UInt8.ofNat (48 + u % 10)).toNat = 48 + u % 10 := by rw [UInt8.toNat_ofNat']; omega
   refine ⟨?_, by simp, ?_, ?_⟩
   ·intro x hx
    rcases List.mem_append.1 hx with hx | hx
    ·exact i1 x hx
    ·simp only [List.mem_singleton] at hx
     subst hx
     omega
   ·rw [valD_app, i3]
    simp only [valD, hb]
    omega
   ·intro b r he hb2
    cases hd : Lib.decDigits (u / 10) with
    | nil => exact absurd hd i2
    | cons b2 r2 =>
     rw [hd, List.cons_append, List.cons.injEq] at he
     have := i4 b2 r2 hd (by rw [he.1]; exact hb2)
     omega
theorem dig_zero : Lib.decDigits 0 = [48] := by rw [Lib.decDigits, dif_pos (by decide)]; rfl
theorem dig_len {u : Nat} (h : u ≤ 999999999) : (Lib.decDigits u).length ≤ 20 := by
 rw [Lib.decDigits_length]
 by_cases h0 : u = 0
 ·rw [h0, Lib.nDigits_small (by decide)]; decide
 ·have := Lib.numDigits_eq u (by omega) (by omega)
  split at this <;> omega
theorem itoaL {n : Int} (h1 : -999999999 ≤ n) (h2 : n ≤ 999999999) : (Lib.itoa n).length ≤ 1000000 := by
 unfold Lib.itoa
 split
 ·have := dig_len (u := n.natAbs) (by omega); simp; omega
 ·have := dig_len (u := n.toNat) (by omega); omega
set_option linter.defProp false in
def lp43_6 := show ∀ B fr H, execT E B 43 (Code.loop _) fr H = rlG E B 43 (loopAt Tryd.f43 0) (gcn B (norm [5, 6, 34, 35, 36] fr) H) from fun B fr H => rl_intro rfl mt43_6 mb43_6 zf43_6 hd43_6 fr H
theorem l43 (D : List UInt8) (hD : D.length ≤ 100) (hg : DigS D) (neg : Bool) : ∀ (k : Nat) (hk : k ≤ D.length) (n : Int) (h0 : 0 ≤ n) (h9 : valD n (D.drop k) ≤ 999999999), 
  rl E 0 43 (loopAt Tryd.f43 0) [(5, .i (.v (.bool neg))), (6, .i (.v (.int .i64 n))), (34, .ref 0 0 0 D.length), (35, .i (.v (.int .i64 D.length))), (36, .i (.v (.int .i64 k)))] [.sl 1 0 (rowsB D) false] =
   some (.exit 0, [(5, .i (.v (.bool neg))), (6, .i (.v (.int .i64 (valD n (D.drop k))))), (34, .ref 0 0 0 D.length), (35, .i (.v (.int .i64 D.length))), (36, .i (.v (.int .i64 D.length))), (37, .i (.v (.bool false)))], [.sl 1 0 (rowsB D) false]) := by
 intro k hk n h0 h9
 rw [rl_step (fn := Tryd.f43) (k := 0) rfl]
 by_cases hlt : k < D.length
 ·have hrow := rowsB_at hlt
  have hb := hg _ (List.getElem_mem hlt)
  rw [List.drop_eq_getElem_cons hlt, valD] at h9 ⊢
  generalize D[k] = b at *
  have hge := valD_ge (D.drop (k + 1)) (10 * n + (b.toNat - 48)) (fun x hx => hg x (List.mem_of_mem_drop hx)) (by omega)
  have ih := l43 D hD hg neg (k + 1) hlt (10 * n + (b.toNat - 48)) (by omega) h9
  rw [← ih]
  clear ih
  have w1 : IntKind.u8.wrap ((b.toNat : Int) - 48) = (b.toNat : Int) - 48 := by rw [IntKind.wrap_u8']; omega
  have w2 : IntKind.i64.wrap (10 * n) = 10 * n := by rw [IntKind.wrap_i64]; omega
  have w3 : min (10 * n + ((b.toNat : Int) - 48)) 1000000000 = 10 * n + (b.toNat - 48) := by omega
  simp (disch := first | omega | (simp only [vlen, rowsB_len]; omega)) only [vall, reduceCtorEq, ↓reduceIte, zq0, zq1, zq2, zq3, zq4, zq5, zq6, zq7, zq8, zq9, zq10, zq11, zq12, zq13, zq14, zq15, zq16, zq17, en43, bs64, hrow, w1, w2, w3, rowsB_len, lp43_6]
 ·obtain rfl : k = D.length := by omega
  rw [List.drop_length, valD]
  simp (disch := first | omega | (simp only [vlen, rowsB_len]; omega)) only [vall, reduceCtorEq, ↓reduceIte, zq0, zq1, zq2, zq3, zq4, zq5, zq6, zq7, zq8, zq9, zq10, zq11, zq12, zq13, zq14, zq15, zq16, zq17, en43, bs64, rowsB_len, lp43_6]
termination_by k => D.length - k
theorem c43 (n : Int) (h1 : -999999999 ≤ n) (h2 : n ≤ 999999999) : ∃ L, callT E 43 [.i (.str (Lib.itoa n))] [] = some (.tup [.i (.v (.int .i64 n)), .i (.v (.bool true))], L) := by
 have hil := (itoaL h1 h2)
 have hP := fun H => ik62 (Lib.itoa n) hil 45 H
 unfold Lib.itoa at *
 by_cases hn : n < 0
 ·rw [if_pos hn] at hP ⊢
  obtain ⟨d1, d2, d3, d4⟩ := dig_ok n.natAbs
  have hdl := dig_len (u := n.natAbs) (by omega)
  generalize hD : Lib.decDigits n.natAbs = D at *
  have hb : begB (45 :: D) 45 = true := rfl
  rw [hb] at hP
  simp only [if_true, List.drop_succ_cons, List.drop_zero] at hP
  have hl := l43 D (by omega) d1 true 0 (Nat.zero_le _) 0 (by decide) (by rw [List.drop_zero, d3]; omega)
  rw [List.drop_zero, d3, show ((0 : Nat) : Int) = 0 from rfl] at hl
  have hu : n.natAbs ≠ 0 := by omega
  have hne : (D == []) = false := by cases D with
   | nil => exact absurd rfl d2
   | cons => rfl
  have hn0 : (D == [48]) = false := by
   apply beq_eq_false_iff_ne.2
   intro e
   exact hu (d4 48 [] e rfl)
  obtain ⟨c, r, hDc⟩ : ∃ c r, D = c :: r := by cases D with
   | nil => exact absurd rfl d2
   | cons c r => exact ⟨c, r, rfl⟩
  have hc0 : D[0]? = some c := by rw [hDc]; rfl
  have hc48 : c.toNat ≠ 48 := fun e => hu (d4 c r hDc e)
  have hc48' : ¬ ((c.toNat : Int) = 48) := by omega
  have hng : -((n.natAbs : Nat) : Int) = n := by omega
  have hng' : 0 - ((n.natAbs : Nat) : Int) = n := by omega
  have hDpos : 0 < D.length := by rw [hDc]; simp
  generalize 45 :: D = S at *
  clear hDc hD
  by_cases hl1 : 1 < D.length
  ·rw [callT_eq Tryd.func43 rfl fok43 (by simp [Tryd.ntmps43])]
   simp (disch := first | omega | (simp only [vlen, rowsB_len]; omega)) only [vall, reduceCtorEq, ↓reduceIte, zq0, zq1, zq2, zq3, zq4, zq5, zq6, zq7, zq8, zq9, zq10, zq11, zq12, zq13, zq14, zq15, zq16, zq17, en43, bs64, hP, hl, hne, hn0, hc0, hc48', hng, hng', hl1, rowsB_len, bytes_map, lp43_6]
   exact ⟨_, rfl⟩
  ·rw [callT_eq Tryd.func43 rfl fok43 (by simp [Tryd.ntmps43])]
   simp (disch := first | omega | (simp only [vlen, rowsB_len]; omega)) only [vall, reduceCtorEq, ↓reduceIte, zq0, zq1, zq2, zq3, zq4, zq5, zq6, zq7, zq8, zq9, zq10, zq11, zq12, zq13, zq14, zq15, zq16, zq17, en43, bs64, hP, hl, hne, hn0, hc0, hc48', hng, hng', hl1, rowsB_len, bytes_map, lp43_6]
   exact ⟨_, rfl⟩
 ·rw [if_neg hn] at hP ⊢
  obtain ⟨d1, d2, d3, d4⟩ := dig_ok n.toNat
  have hdl := dig_len (u := n.toNat) (by omega)
  generalize hD : Lib.decDigits n.toNat = D at *
  obtain ⟨c, r, hDc⟩ : ∃ c r, D = c :: r := by cases D with
   | nil => exact absurd rfl d2
   | cons c r => exact ⟨c, r, rfl⟩
  have hcd := d1 c (by rw [hDc]; exact List.mem_cons_self ..)
  have hb : begB D 45 = false := by
   rw [hDc]
   unfold begB
   apply beq_eq_false_iff_ne.2
   intro e
   simp only [List.take_succ_cons, List.take_zero, List.cons.injEq] at e
   rw [e.1] at hcd
   exact absurd hcd.1 (by decide)
  rw [hb] at hP
  simp only [Bool.false_eq_true, if_false] at hP
  have hl := l43 D (by omega) d1 false 0 (Nat.zero_le _) 0 (by decide) (by rw [List.drop_zero, d3]; omega)
  rw [List.drop_zero, d3, show ((0 : Nat) : Int) = 0 from rfl, show ((n.toNat : Nat) : Int) = n by omega] at hl
  have hne : (D == []) = false := by rw [hDc]; rfl
  have hc0 : D[0]? = some c := by rw [hDc]; rfl
  have hDpos : 0 < D.length := by rw [hDc]; simp
  by_cases hl1 : 1 < D.length
  ·have hc48' : ¬ ((c.toNat : Int) = 48) := by
    intro e
    have hu := d4 c r hDc (by omega)
    rw [hu, dig_zero] at hD
    rw [← hD] at hl1
    exact absurd hl1 (by decide)
   clear hDc hD
   rw [callT_eq Tryd.func43 rfl fok43 (by simp [Tryd.ntmps43])]
   simp (disch := first | omega | (simp only [vlen, rowsB_len]; omega)) only [vall, reduceCtorEq, ↓reduceIte, zq0, zq1, zq2, zq3, zq4, zq5, zq6, zq7, zq8, zq9, zq10, zq11, zq12, zq13, zq14, zq15, zq16, zq17, en43, bs64, hP, hl, hne, hc0, hc48', hl1, rowsB_len, bytes_map, lp43_6]
   exact ⟨_, rfl⟩
  ·clear hDc hD
   rw [callT_eq Tryd.func43 rfl fok43 (by simp [Tryd.ntmps43])]
   simp (disch := first | omega | (simp only [vlen, rowsB_len]; omega)) only [vall, reduceCtorEq, ↓reduceIte, zq0, zq1, zq2, zq3, zq4, zq5, zq6, zq7, zq8, zq9, zq10, zq11, zq12, zq13, zq14, zq15, zq16, zq17, en43, bs64, hP, hl, hne, hc0, hl1, rowsB_len, bytes_map, lp43_6]
   exact ⟨_, rfl⟩
theorem ik43 (n : Int) (h1 : -999999999 ≤ n) (h2 : n ≤ 999999999) (H : Hp) : isoK E (callT E) 43 [.i (.str (Lib.itoa n))] H = some (.tup [.i (.v (.int .i64 n)), .i (.v (.bool true))], H) := isoK_val rfl rfl rfl (c43 n h1 h2)
end Go.VI

namespace Go.VI
open Go.Proofs
set_option maxRecDepth 100000
set_option linter.unusedSimpArgs false
set_option linter.unusedVariables false
set_option maxHeartbeats 4000000
def sizeS (op : Int) : Nat := if op = 1 then 4 else if op = 17 ∨ op = 18 then 2 else 0
def baseS (op i : Int) : Int := (boundsS op i 0).1
theorem sizeS_le (op : Int) : sizeS op ≤ 4 := by unfold sizeS; split <;> (try split) <;> omega
theorem c28 (op : Int) : ∃ L, callT E 28 [.i (.v (.int .i64 op))] [] = some (.i (.v (.int .i64 (sizeS op))), L) := by
 unfold sizeS
 by_cases h1 : op = 1
 ·subst h1; rw [callT_eq Tryd.func28 rfl fok28 (by simp [Tryd.ntmps28])]; simp (disch := first | omega | (simp only [vlen]; omega)) only [vall, reduceCtorEq, ↓reduceIte, zq0, zq1, zq2, zq3, zq4, zq5, zq6, zq7, zq8, zq9, zq10, zq11, zq12, zq13, zq14, zq15, zq16, zq17, en28]; exact ⟨_, rfl⟩
 ·by_cases h2 : op = 17
  ·subst h2; rw [callT_eq Tryd.func28 rfl fok28 (by simp [Tryd.ntmps28])]; simp (disch := first | omega | (simp only [vlen]; omega)) only [vall, reduceCtorEq, ↓reduceIte, zq0, zq1, zq2, zq3, zq4, zq5, zq6, zq7, zq8, zq9, zq10, zq11, zq12, zq13, zq14, zq15, zq16, zq17, en28]; exact ⟨_, rfl⟩
  ·by_cases h3 : op = 18
   ·subst h3; rw [callT_eq Tryd.func28 rfl fok28 (by simp [Tryd.ntmps28])]; simp (disch := first | omega | (simp only [vlen]; omega)) only [vall, reduceCtorEq, ↓reduceIte, zq0, zq1, zq2, zq3, zq4, zq5, zq6, zq7, zq8, zq9, zq10, zq11, zq12, zq13, zq14, zq15, zq16, zq17, en28]; exact ⟨_, rfl⟩
   ·rw [if_neg h1, if_neg (by omega)]; rw [callT_eq Tryd.func28 rfl fok28 (by simp [Tryd.ntmps28])]; simp (disch := first | omega | (simp only [vlen]; omega)) only [vall, reduceCtorEq, ↓reduceIte, zq0, zq1, zq2, zq3, zq4, zq5, zq6, zq7, zq8, zq9, zq10, zq11, zq12, zq13, zq14, zq15, zq16, zq17, en28, h1, h2, h3]; exact ⟨_, rfl⟩
theorem ik28 (op : Int) (H : Hp) : isoK E (callT E) 28 [.i (.v (.int .i64 op))] H = some (.i (.v (.int .i64 (sizeS op))), H) := isoK_val rfl rfl rfl (c28 op)
theorem c27 (op i : Int) (hi : -9223372036854775808 ≤ i + 1 ∧ i + 1 ≤ 9223372036854775807) : ∃ L, callT E 27 [.i (.v (.int .i64 op)), .i (.v (.int .i64 i))] [] = some (.i (.v (.int .i64 (baseS op i))), L) := by
 have h := fun H => ik30 op i 0 hi H
 unfold baseS
 generalize boundsS op i 0 = q at *
 rw [callT_eq Tryd.func27 rfl fok27 (by simp [Tryd.ntmps27])]; simp (disch := first | omega | (simp only [vlen]; omega)) only [vall, reduceCtorEq, ↓reduceIte, zq0, zq1, zq2, zq3, zq4, zq5, zq6, zq7, zq8, zq9, zq10, zq11, zq12, zq13, zq14, zq15, zq16, zq17, en27, h]; exact ⟨_, rfl⟩
theorem ik27 (op i : Int) (hi : -9223372036854775808 ≤ i + 1 ∧ i + 1 ≤ 9223372036854775807) (H : Hp) : isoK E (callT E) 27 [.i (.v (.int .i64 op)), .i (.v (.int .i64 i))] H = some (.i (.v (.int .i64 (baseS op i))), H) := isoK_val rfl rfl rfl (c27 op i hi)
def byteK (n : Int) (k : Nat) : UInt8 := UInt8.ofNat (n / 256 ^ k % 256).toNat
def encB (n : Int) : Nat → List UInt8
 | 0 => []
 | k + 1 => byteK n k :: encB n k
theorem encB_len (n : Int) : ∀ k, (encB n k).length = k
 | 0 => rfl
 | k + 1 => by rw [encB, List.length_cons, encB_len n k]
theorem byteK_wrap (n : Int) (k : Nat) (hk : k < 4) : IntKind.u8.wrap (n.fdiv (2 ^ min (8 * (k : Int)).toNat IntKind.i64.bits)) = ((byteK n k).toNat : Int) := by
 have e0 : IntKind.i64.bits = 64 := rfl
 rw [e0]
 have e2 : min (8 * (k : Int)).toNat 64 = 8 * k := by omega
 have e3 : (2 : Int) ^ (8 * k) = 256 ^ k := by rw [Int.pow_mul]; rfl
 have e4 : (0 : Int) ≤ 256 ^ k := Int.pow_nonneg (by decide)
 rw [e2, e3, IntKind.wrap_u8', Int.fdiv_eq_ediv_of_nonneg _ e4]
 unfold byteK
 have h1 : 0 ≤ n / 256 ^ k % 256 := Int.emod_nonneg _ (by decide)
 have h2 : n / 256 ^ k % 256 < 256 := Int.emod_lt_of_pos _ (by decide)
 rw [UInt8.toNat_ofNat']
 generalize n / 256 ^ k % 256 = q at *
 omega
set_option linter.defProp false in
def lp10_11 := show ∀ B fr H, execT E B 10 (Code.loop _) fr H = rlM E B 10 (loopAt Tryd.f10 1) [5, 8, 9, 15, 16, 17] [] (matF [(5, 1)] fr H).1 (matB [] (matF [(5, 1)] fr H).1 (matF [(5, 1)] fr H).2) from fun B fr H => rl_introM rfl mt10_11 mb10_11 zf10_11 hd10_11 fr H
theorem l110 (n : Int) (R : List (List IV)) (m i : Int) : ∀ (k : Nat) (hk : k ≤ 4) (out : List UInt8) (ho : out.length + k ≤ 1000000),
  rl E 0 10 (loopAt Tryd.f10 1) [(5, .ref 0 0 0 out.length), (8, .i (.v (.int .i64 n))), (9, .i (.v (.int .i64 ((k : Int) - 1)))), (15, .i (.sl 2 R false)), (16, .i (.v (.int .i64 m))), (17, .i (.v (.int .i64 i)))] [.sl 1 0 (rowsB out) false] =
   some (.exit 2, [(5, .ref 0 0 0 (out ++ encB n k).length), (8, .i (.v (.int .i64 n))), (9, .i (.v (.int .i64 (-1)))), (15, .i (.sl 2 R false)), (16, .i (.v (.int .i64 m))), (17, .i (.v (.int .i64 i))), (40, .i (.v (.bool false)))], [.sl 1 0 (rowsB (out ++ encB n k)) false]) := by
 intro k
 induction k with
 | zero =>
  intro hk out ho
  rw [encB, List.append_nil]
  rw [rl_step (fn := Tryd.f10) (k := 1) rfl]
  simp (disch := first | omega | (simp only [vlen]; omega)) only [vall, reduceCtorEq, ↓reduceIte, zq0, zq1, zq2, zq3, zq4, zq5, zq6, zq7, zq8, zq9, zq10, zq11, zq12, zq13, zq14, zq15, zq16, zq17, en10, bs22, bs64, lp10_11]
  rfl
 | succ k ih =>
  intro hk out ho
  have ih := ih (by omega) (out ++ [byteK n k]) (by simp; omega)
  rw [List.append_assoc, show [byteK n k] ++ encB n k = encB n (k + 1) from rfl] at ih
  rw [← ih]
  clear ih
  have hb := byteK_wrap n k (by omega)
  have hs := rowsB_snoc out _ (byteK n k) rfl
  have e1 : ((k + 1 : Nat) : Int) - 1 = k := by omega
  rw [e1]
  rw [rl_step (fn := Tryd.f10) (k := 1) rfl]
  simp (disch := first | omega | (simp only [vlen, rowsB_len]; omega)) only [vall, reduceCtorEq, ↓reduceIte, zq0, zq1, zq2, zq3, zq4, zq5, zq6, zq7, zq8, zq9, zq10, zq11, zq12, zq13, zq14, zq15, zq16, zq17, en10, bs22, bs64, hb, rowsB_len, rowsB_take, hs, lp10_11]
def encL : Int → List Ins → List UInt8
 | _, [] => []
 | i, p :: r => UInt8.ofNat p.1.toNat :: encB (p.2 - baseS p.1 i) (sizeS p.1) ++ encL (i + 1) r
def okI (n i : Int) (p : Ins) : Prop := 0 ≤ p.1 ∧ p.1 ≤ 20 ∧ -999999999 ≤ p.2 ∧ p.2 ≤ 999999999
set_option linter.defProp false in
def lp10_6 := show ∀ B fr H, execT E B 10 (Code.loop _) fr H = rlM E B 10 (loopAt Tryd.f10 0) [5, 15, 16, 17] [] (matF [(5, 1)] fr H).1 (matB [] (matF [(5, 1)] fr H).1 (matF [(5, 1)] fr H).2) from fun B fr H => rl_introM rfl mt10_6 mb10_6 zf10_6 hd10_6 fr H
theorem l010 (l : List Ins) (hl : l.length ≤ 500) (hok : ∀ p ∈ l, okI 0 0 p) : ∀ (k : Nat) (hk : k ≤ l.length) (out : List UInt8) (ho : out.length ≤ 5 * k),
  rl E 0 10 (loopAt Tryd.f10 0) [(5, .ref 0 0 0 out.length), (15, .i (.sl 2 (rowsI l) false)), (16, .i (.v (.int .i64 l.length))), (17, .i (.v (.int .i64 k)))] [.sl 1 0 (rowsB out) false] =
   some (.exit 0, [(5, .ref 0 0 0 (out ++ encL k (l.drop k)).length), (15, .i (.sl 2 (rowsI l) false)), (16, .i (.v (.int .i64 l.length))), (17, .i (.v (.int .i64 l.length))), (18, .i (.v (.bool false)))], [.sl 1 0 (rowsB (out ++ encL k (l.drop k))) false]) := by
 intro k hk out ho
 rw [rl_step (fn := Tryd.f10) (k := 0) rfl]
 by_cases hlt : k < l.length
 ·have hrow := rowsI_at hlt
  have hp := hok l[k] (List.getElem_mem hlt)
  rw [List.drop_eq_getElem_cons hlt, encL]
  generalize l[k] = p at *
  obtain ⟨op, arg⟩ := p
  obtain ⟨p1, p2, p3, p4⟩ := hp
  simp only at hrow p1 p2 p3 p4 ⊢
  have hsz := sizeS_le op
  have hb : -999999999 ≤ baseS op k ∧ baseS op k ≤ 501 := by unfold baseS boundsS; split <;> (try split) <;> simp only <;> omega
  have ih := l010 l hl hok (k + 1) hlt (out ++ (UInt8.ofNat op.toNat :: encB (arg - baseS op k) (sizeS op))) (by simp [encB_len]; omega)
  have h1 := l110 (arg - baseS op k) (rowsI l) l.length k (sizeS op) (by omega) (out ++ [UInt8.ofNat op.toNat]) (by simp; omega)
  have hB := fun H => ik27 op k (by omega) H
  have hS := fun H => ik28 op H
  have hw : IntKind.u8.wrap op = ((UInt8.ofNat op.toNat).toNat : Int) := by rw [IntKind.wrap_u8', UInt8.toNat_ofNat']; omega
  have hs := rowsB_snoc out _ (UInt8.ofNat op.toNat) rfl
  have hw2 : IntKind.i64.wrap (arg - baseS op k) = arg - baseS op k := by rw [IntKind.wrap_i64]; omega
  have ea : out ++ [UInt8.ofNat op.toNat] ++ encB (arg - baseS op k) (sizeS op) = out ++ (UInt8.ofNat op.toNat :: encB (arg - baseS op k) (sizeS op)) := by simp
  rw [ea] at h1
  rw [show out ++ (UInt8.ofNat op.toNat :: encB (arg - baseS op k) (sizeS op) ++ encL (k + 1) (l.drop (k + 1))) = out ++ (UInt8.ofNat op.toNat :: encB (arg - baseS op k) (sizeS op)) ++ encL (k + 1) (l.drop (k + 1)) by simp]
  rw [show (((k + 1 : Nat)) : Int) = (k : Int) + 1 by omega] at ih
  rw [← ih]
  clear ih ea
  generalize out ++ (UInt8.ofNat op.toNat :: encB (arg - baseS op k) (sizeS op)) = o2 at *
  generalize sizeS op = z at *
  generalize baseS op k = bs at *
  have hl1 : (out ++ [UInt8.ofNat op.toNat]).length = out.length + 1 := by simp
  rw [hl1] at h1
  simp (disch := first | omega | (simp only [vlen, rowsI_len, rowsB_len]; omega)) only [vall, reduceCtorEq, ↓reduceIte, zq0, zq1, zq2, zq3, zq4, zq5, zq6, zq7, zq8, zq9, zq10, zq11, zq12, zq13, zq14, zq15, zq16, zq17, en10, bs22, bs64, hrow, rowsI_len, hB, hS, hw, hs, hw2, h1, rowsB_len, rowsB_take, lp10_11, lp10_6]
 ·obtain rfl : k = l.length := by omega
  rw [List.drop_length, encL, List.append_nil]
  simp (disch := first | omega | (simp only [vlen, rowsI_len]; omega)) only [vall, reduceCtorEq, ↓reduceIte, zq0, zq1, zq2, zq3, zq4, zq5, zq6, zq7, zq8, zq9, zq10, zq11, zq12, zq13, zq14, zq15, zq16, zq17, en10, bs22, bs64, rowsI_len, lp10_6]
termination_by k => l.length - k
end Go.VI

namespace Go.VI
open Go.Proofs
set_option maxRecDepth 100000
set_option linter.unusedSimpArgs false
set_option linter.unusedVariables false
set_option maxHeartbeats 4000000
theorem chk_okI {l : List Ins} (h : checkI l = 0) : ∀ p ∈ l, okI 0 0 p := by
 intro p hp
 obtain ⟨i, hi⟩ := List.getElem?_of_mem hp
 obtain ⟨h1, h2, h3, h4, _⟩ := chk_at h hi
 exact ⟨h1, h2, h3, h4⟩
theorem chk_full {l : List Ins} (h : checkI l = 0) {i : Nat} {p : Ins} (hp : l[i]? = some p) : (p.1 ≠ 1 ∧ p.1 ≠ 17 ∧ p.1 ≠ 18) → p.2 = 0 := by
 obtain ⟨hi, rfl⟩ := List.getElem?_eq_some_iff.1 hp
 have h1 := check_ok h i hi
 unfold chk1 at h1
 generalize l[i] = q at *
 intro ⟨a, b, c⟩
 split at h1
 ·cases h1
 ·split at h1
  ·cases h1
  ·rename_i h3 h4
   unfold boundsS at h4
   rw [if_neg a, if_neg (by omega)] at h4
   simp only at h4
   omega
theorem c10 (l : List Ins) (hl : (l.length : Int) < 9223372036854775808) (hc : checkI l = 0) : ∃ L, callT E 10 [.i (.sl 2 (rowsI l) false)] [] = some (.tup [.i (.str (encL 0 l)), .i (.v (.int .i64 0))], L) := by
 have h5 := check_len hc
 have h := l010 l h5 (chk_okI hc) 0 (Nat.zero_le _) [] (by simp)
 have hC := fun H => ik17 l hl H
 rw [hc] at hC
 rw [List.drop_zero, List.nil_append] at h
 have h' : rl E 0 10 (loopAt Tryd.f10 0) [(5, .ref 0 0 0 0), (15, .i (.sl 2 (rowsI l) false)), (16, .i (.v (.int .i64 l.length))), (17, .i (.v (.int .i64 0)))] [.sl 1 0 [] false] = _ := h
 have hn := rowsB_num (encL 0 l)
 have hb : (List.map (fun n : Int => UInt8.ofNat n.toNat) (List.map (fun b : UInt8 => (b.toNat : Int)) (encL 0 l))) = encL 0 l := by
  rw [List.map_map]
  conv => rhs; rw [← List.map_id (encL 0 l)]
  apply List.map_congr_left
  intro b _
  simp
 generalize encL 0 l = out at *
 rw [callT_eq Tryd.func10 rfl fok10 (by simp [Tryd.ntmps10])]
 simp (disch := first | omega | (simp only [vlen, rowsI_len, rowsB_len]; omega)) only [vall, reduceCtorEq, ↓reduceIte, zq0, zq1, zq2, zq3, zq4, zq5, zq6, zq7, zq8, zq9, zq10, zq11, zq12, zq13, zq14, zq15, zq16, zq17, en10, bs22, bs64, hC, rowsI_len, h', hn, hb, rowsB_len, rowsB_take, lp10_6]
 exact ⟨_, rfl⟩
theorem ik10 (l : List Ins) (hl : (l.length : Int) < 9223372036854775808) (hc : checkI l = 0) (H : Hp) : isoK E (callT E) 10 [.i (.sl 2 (rowsI l) false)] H = some (.tup [.i (.str (encL 0 l)), .i (.v (.int .i64 0))], H) := isoK_val rfl rfl rfl (c10 l hl hc)
theorem or256 {v c : Int} (h0 : 0 ≤ v) (h1 : v < 1099511627776) (h2 : 0 ≤ c) (h3 : c < 256) : bitsE .or .i64 (v * 256) c = some (v * 256 + c) := by
 obtain ⟨n, rfl⟩ : ∃ n : Nat, v = n := ⟨v.toNat, by omega⟩
 obtain ⟨m, rfl⟩ : ∃ m : Nat, c = m := ⟨c.toNat, by omega⟩
 have e1 : BitVec.ofInt 64 ((n : Int) * 256) = BitVec.ofNat 64 (n * 256) := by
  rw [show (n : Int) * 256 = ((n * 256 : Nat) : Int) by omega]; rfl
 have e2 : BitVec.ofInt 64 (m : Int) = BitVec.ofNat 64 m := rfl
 have e3 : n * 256 ||| m = n * 256 + m := by
  have := Nat.two_pow_add_eq_or_of_lt (i := 8) (b := m) (by omega) n
  rw [show n * 256 = 2 ^ 8 * n by omega]
  exact this.symm
 show some (IntKind.i64.wrap ((BitVec.ofInt 64 ((n : Int) * 256) ||| BitVec.ofInt 64 (m : Int)).toNat : Nat)) = _
 rw [e1, e2, BitVec.toNat_or, BitVec.toNat_ofNat, BitVec.toNat_ofNat, Nat.mod_eq_of_lt (by omega), Nat.mod_eq_of_lt (by omega), e3, w_i64 (by omega) (by omega)]
 congr 1
def decN : Int → List UInt8 → Int
 | n, [] => n
 | n, b :: r => decN (n * 256 + b.toNat) r
set_option linter.defProp false in
def lp11_12 := show ∀ B fr H, execT E B 11 (Code.loop _) fr H = rlM E B 11 (loopAt Tryd.f11 1) [0, 4, 5, 6, 35, 36, 37] [] (matF [(4, 2)] fr H).1 (matB [] (matF [(4, 2)] fr H).1 (matF [(4, 2)] fr H).2) from fun B fr H => rl_introM rfl mt11_12 mb11_12 zf11_12 hd11_12 fr H
theorem l111 (S : List UInt8) (R : List (List IV)) (n : Nat) (op : Int) (B : List UInt8) (hB : B.length ≤ 4) : ∀ (j : Nat) (hj : j ≤ B.length) (acc : Int) (h0 : 0 ≤ acc) (h1 : acc < 256 ^ j),
  rl E 0 11 (loopAt Tryd.f11 1) [(0, .i (.str S)), (4, .ref 0 0 0 n), (5, .i (.v (.int .i64 op))), (6, .i (.v (.int .i64 acc))), (35, .ref 1 0 0 B.length), (36, .i (.v (.int .i64 B.length))), (37, .i (.v (.int .i64 j)))] [.sl 2 0 R false, .sl 1 0 (rowsB B) false] =
   some (.exit 3, [(0, .i (.str S)), (4, .ref 0 0 0 n), (5, .i (.v (.int .i64 op))), (6, .i (.v (.int .i64 (decN acc (B.drop j))))), (35, .ref 1 0 0 B.length), (36, .i (.v (.int .i64 B.length))), (37, .i (.v (.int .i64 B.length))), (38, .i (.v (.bool false)))], [.sl 2 0 R false, .sl 1 0 (rowsB B) false]) := by
 intro j hj acc h0 h1
 rw [rl_step (fn := Tryd.f11) (k := 1) rfl]
 by_cases hlt : j < B.length
 ·have hrow := rowsB_at hlt
  rw [List.drop_eq_getElem_cons hlt, decN]
  generalize B[j] = b at *
  have hb : b.toNat < 256 := b.toNat_lt
  have hp : (256 : Int) ^ j ≤ 256 ^ 3 := by exact_mod_cast Nat.pow_le_pow_right (by decide) (by omega : j ≤ 3)
  have hp1 : (256 : Int) ^ (j + 1) = 256 ^ j * 256 := Int.pow_succ ..
  have ih := l111 S R n op B hB (j + 1) hlt (acc * 256 + b.toNat) (by omega) (by rw [hp1]; omega)
  rw [show (((j + 1 : Nat)) : Int) = (j : Int) + 1 by omega] at ih
  rw [← ih]
  clear ih
  have hor := or256 (v := acc) (c := (b.toNat : Int)) h0 (by omega) (by omega) (by omega)
  have hw : IntKind.i64.wrap (acc * 2 ^ min (8 : Int).toNat IntKind.i64.bits) = acc * 256 := by
   rw [show (2 : Int) ^ min (8 : Int).toNat IntKind.i64.bits = 256 from rfl, IntKind.wrap_i64]; omega
  have hw' : IntKind.i64.wrap (acc * 2 ^ min 8 IntKind.i64.bits) = acc * 256 := hw
  simp (disch := first | omega | (simp only [vlen, rowsB_len]; omega)) only [vall, reduceCtorEq, ↓reduceIte, zq0, zq1, zq2, zq3, zq4, zq5, zq6, zq7, zq8, zq9, zq10, zq11, zq12, zq13, zq14, zq15, zq16, zq17, en11, bs22, bs64, bs72, hrow, rowsB_len, hw, hw', hor, lp11_12]
 ·obtain rfl : j = B.length := by omega
  rw [List.drop_length, decN]
  simp (disch := first | omega | (simp only [vlen, rowsB_len]; omega)) only [vall, reduceCtorEq, ↓reduceIte, zq0, zq1, zq2, zq3, zq4, zq5, zq6, zq7, zq8, zq9, zq10, zq11, zq12, zq13, zq14, zq15, zq16, zq17, en11, bs22, bs64, bs72, rowsB_len, lp11_12]
termination_by j => B.length - j
theorem emod_256 (n a : Int) (ha : 0 < a) : n % (a * 256) = n % a + a * (n / a % 256) := by
 have e1 := Int.emod_add_mul_ediv n a
 have e2 := Int.emod_add_mul_ediv (n / a) 256
 have e3 : a * (n / a) = a * (n / a % 256) + a * (256 * (n / a / 256)) := by rw [← Int.mul_add, e2]
 have e4 : a * 256 * (n / a / 256) = a * (256 * (n / a / 256)) := Int.mul_assoc ..
 have h1 := Int.emod_nonneg n (by omega : a ≠ 0)
 have h2 := Int.emod_lt_of_pos n ha
 have h3 := Int.mul_nonneg (Int.le_of_lt ha) (Int.emod_nonneg (n / a) (by decide : (256 : Int) ≠ 0))
 have h4 : a * (n / a % 256) ≤ a * 255 := Int.mul_le_mul_of_nonneg_left (by have := Int.emod_lt_of_pos (n / a) (by decide : (0 : Int) < 256); omega) (Int.le_of_lt ha)
 exact ((Int.ediv_emod_unique (q := n / a / 256) (by omega : 0 < a * 256)).2 ⟨by omega, by omega, by omega⟩).2
theorem decN_encB (n : Int) : ∀ (k : Nat) (a : Int), decN a (encB n k) = a * 256 ^ k + n % 256 ^ k
 | 0, a => by simp [encB, decN, Int.emod_one]
 | k + 1, a => by
  rw [encB, decN, decN_encB n k]
  have h1 : ((byteK n k).toNat : Int) = n / 256 ^ k % 256 := by
   unfold byteK
   have h1 : 0 ≤ n / 256 ^ k % 256 := Int.emod_nonneg _ (by decide)
   have h2 : n / 256 ^ k % 256 < 256 := Int.emod_lt_of_pos _ (by decide)
   rw [UInt8.toNat_ofNat']
   generalize n / 256 ^ k % 256 = q at *
   omega
  rw [h1, Int.pow_succ]
  have h2 := emod_256 n (256 ^ k) (Int.pow_pos (by decide))
  rw [h2, Int.add_mul, Int.mul_assoc, Int.mul_comm (256 : Int), Int.mul_comm (n / 256 ^ k % 256)]
  omega
theorem ins_back {l : List Ins} (h : checkI l = 0) {i : Nat} {p : Ins} (hp : l[i]? = some p) : decN 0 (encB (p.2 - baseS p.1 i) (sizeS p.1)) + baseS p.1 i = p.2 ∧ 0 ≤ p.2 - baseS p.1 i ∧ p.2 - baseS p.1 i < 256 ^ sizeS p.1 := by
 obtain ⟨h1, h2, h3, h4, h5⟩ := chk_at h hp
 have h6 := chk_full h hp
 have h7 := check_len h
 have hk : 0 ≤ p.2 - baseS p.1 i ∧ p.2 - baseS p.1 i < 256 ^ sizeS p.1 := by
  unfold baseS sizeS boundsS
  by_cases a1 : p.1 = 1
  ·rw [if_pos a1, if_pos a1]; simp only; omega
  ·by_cases a2 : p.1 = 17 ∨ p.1 = 18
   ·have := h5 a2
    rw [if_neg a1, if_neg a1, if_pos a2, if_pos a2]; simp only; omega
   ·have := h6 ⟨a1, by omega, by omega⟩
    rw [if_neg a1, if_neg a1, if_neg a2, if_neg a2]; simp only; omega
 refine ⟨?_, hk⟩
 rw [decN_encB, Int.emod_eq_of_lt hk.1 hk.2]
 omega
theorem byte_op {op : Int} (h0 : 0 ≤ op) (h1 : op ≤ 20) : ((UInt8.ofNat op.toNat).toNat : Int) = op := by rw [UInt8.toNat_ofNat']; omega
theorem rowsI_snoc {l : List Ins} {k : Nat} (h : k < l.length) : rowsI (l.take k) ++ [[.v (.int .i64 l[k].1), .v (.int .i64 l[k].2)]] = rowsI (l.take (k + 1)) := by
 rw [List.take_succ_eq_append_getElem h, rowsI, rowsI, List.map_append]
 rfl
set_option linter.defProp false in
def lp11_2 := show ∀ B fr H, execT E B 11 (Code.loop _) fr H = rlM E B 11 (loopAt Tryd.f11 0) [0, 4] [] (matF [(4, 2)] fr H).1 (matB [] (matF [(4, 2)] fr H).1 (matF [(4, 2)] fr H).2) from fun B fr H => rl_introM rfl mt11_2 mb11_2 zf11_2 hd11_2 fr H
theorem l011 (l : List Ins) (hc : checkI l = 0) : ∀ (k : Nat) (hk : k ≤ l.length), 
  rl E 0 11 (loopAt Tryd.f11 0) [(0, .i (.str (encL k (l.drop k)))), (4, .ref 0 0 0 k)] [.sl 2 0 (rowsI (l.take k)) false] =
   some (.exit 0, [(0, .i (.str [])), (4, .ref 0 0 0 l.length), (11, .i (.v (.bool false)))], [.sl 2 0 (rowsI l) false]) := by
 intro k hk
 have h5 := check_len hc
 rw [rl_step (fn := Tryd.f11) (k := 0) rfl]
 by_cases hlt : k < l.length
 ·have hp := List.getElem?_eq_getElem hlt
  obtain ⟨i1, i2, i3⟩ := ins_back hc hp
  obtain ⟨c1, c2, c3, c4, _⟩ := chk_at hc hp
  have ih := l011 l hc (k + 1) hlt
  have hsn := rowsI_snoc hlt
  have htl : (rowsI (l.take k)).length = k := by rw [rowsI_len, List.length_take]; omega
  rw [List.drop_eq_getElem_cons hlt, encL]
  generalize l[k] = p at *
  obtain ⟨op, arg⟩ := p
  simp only at i1 i2 i3 c1 c2 c3 c4 hsn ⊢
  have hsz := sizeS_le op
  have hbb : -999999999 ≤ baseS op k ∧ baseS op k ≤ 501 := by unfold baseS boundsS; split <;> (try split) <;> simp only <;> omega
  have hBl := encB_len (arg - baseS op k) (sizeS op)
  have hop := byte_op c1 c2
  have hB := fun H => ik27 op k (by omega) H
  have hS := fun H => ik28 op H
  rw [show (((k + 1 : Nat)) : Int) = (k : Int) + 1 by omega] at ih
  rw [← ih]
  clear ih
  generalize hrs : encL ((k : Int) + 1) (l.drop (k + 1)) = rest at *
  have hl1 := l111 (UInt8.ofNat op.toNat :: encB (arg - baseS op k) (sizeS op) ++ rest) (rowsI (l.take k)) k op (encB (arg - baseS op k) (sizeS op)) (by omega) 0 (Nat.zero_le _) 0 (by decide) (by decide)
  rw [List.drop_zero, show ((0 : Nat) : Int) = 0 from rfl] at hl1
  generalize hNN : decN 0 (encB (arg - baseS op k) (sizeS op)) = nn at *
  generalize encB (arg - baseS op k) (sizeS op) = B at *
  have hS0 : (UInt8.ofNat op.toNat :: B ++ rest)[0]? = some (UInt8.ofNat op.toNat) := rfl
  have hlen : (UInt8.ofNat op.toNat :: B ++ rest).length = 1 + sizeS op + rest.length := by simp; omega
  have hd1 : ((UInt8.ofNat op.toNat :: B ++ rest).drop 1).take (sizeS op) = B := by simp [← hBl]
  have hd2 : (UInt8.ofNat op.toNat :: B ++ rest).drop (1 + sizeS op) = rest := by rw [Nat.add_comm]; simp [← hBl]
  have hne : ((UInt8.ofNat op.toNat :: B ++ rest) == []) = false := rfl
  generalize UInt8.ofNat op.toNat = ob at *
  generalize ob :: B ++ rest = S at *
  generalize baseS op k = bs at *
  generalize sizeS op = z at *
  have hwa : IntKind.i64.wrap (nn + bs) = arg := by rw [i1, IntKind.wrap_i64]; omega
  have hN21 : (rowsW namesB).length = 21 := rfl
  rw [hBl] at hl1
  have ht1 : (1 + (z : Int)).toNat = 1 + z := by omega
  have ht2 : 1 + z - 1 = z := by omega
  simp (disch := first | omega | (simp only [vlen, htl, hlen, hBl]; omega)) only [vall, reduceCtorEq, ↓reduceIte, zq0, zq1, zq2, zq3, zq4, zq5, zq6, zq7, zq8, zq9, zq10, zq11, zq12, zq13, zq14, zq15, zq16, zq17, en11, bs22, bs64, bs72, ht1, ht2, hS0, hlen, hd1, hd2, hne, hop, ikN, hN21, hS, hB, hBl, htl, hl1, hwa, hsn, rowsI_len, rowsB_len, rowsB_take, bytes_map, lp11_12, lp11_2]
 ·obtain rfl : k = l.length := by omega
  rw [List.drop_length, encL, List.take_length]
  simp (disch := first | omega | (simp only [vlen, rowsI_len]; omega)) only [vall, reduceCtorEq, ↓reduceIte, zq0, zq1, zq2, zq3, zq4, zq5, zq6, zq7, zq8, zq9, zq10, zq11, zq12, zq13, zq14, zq15, zq16, zq17, en11, bs22, bs64, bs72, rowsI_len, lp11_2]
termination_by k => l.length - k
theorem c11 (l : List Ins) (hc : checkI l = 0) : ∃ L, callT E 11 [.i (.str (encL 0 l))] [] = some (.tup [.i (.sl 2 (rowsI l) false), .i (.v (.int .i64 0))], L) := by
 have h5 := check_len hc
 have h := l011 l hc 0 (Nat.zero_le _)
 rw [List.drop_zero] at h
 have h' : rl E 0 11 (loopAt Tryd.f11 0) [(0, .i (.str (encL 0 l))), (4, .ref 0 0 0 0)] [.sl 2 0 [] false] = _ := h
 have hC := fun H => ik17 l (by omega) H
 rw [hc] at hC
 have hlen := rowsI_len l
 have ht : (rowsI l).take l.length = rowsI l := List.take_of_length_le (by rw [hlen]; exact Nat.le_refl _)
 generalize encL 0 l = S at *
 rw [callT_eq Tryd.func11 rfl fok11 (by simp [Tryd.ntmps11])]
 simp (disch := first | omega | (simp only [vlen, hlen]; omega)) only [vall, reduceCtorEq, ↓reduceIte, zq0, zq1, zq2, zq3, zq4, zq5, zq6, zq7, zq8, zq9, zq10, zq11, zq12, zq13, zq14, zq15, zq16, zq17, en11, bs22, bs64, bs72, hC, hlen, ht, h', lp11_2]
 exact ⟨_, rfl⟩
theorem ik11 (l : List Ins) (hc : checkI l = 0) (H : Hp) : isoK E (callT E) 11 [.i (.str (encL 0 l))] H = some (.tup [.i (.sl 2 (rowsI l) false), .i (.v (.int .i64 0))], H) := isoK_val rfl rfl rfl (c11 l hc)
end Go.VI

namespace Go.VI
open Go.Proofs
set_option maxRecDepth 100000
set_option linter.unusedSimpArgs false
set_option linter.unusedVariables false
set_option maxHeartbeats 8000000
def isJ (op : Int) : Prop := op = 17 ∨ op = 18
instance (op : Int) : Decidable (isJ op) := inferInstanceAs (Decidable (_ ∨ _))
def tgtM : List Ins → List (Int × IV) → List (Int × IV)
 | [], m => m
 | p :: r, m => tgtM r (if isJ p.1 then putI m p.2 (.v (.bool true)) else m)
set_option linter.defProp false in
def lp8_6 := show ∀ B fr H, execT E B 8 (Code.loop _) fr H = rlG E B 8 (loopAt Tryd.f8 0) (gcn B (norm [0, 5, 16, 17, 18] fr) H) from fun B fr H => rl_intro rfl mt8_6 mb8_6 zf8_6 hd8_6 fr H
theorem lt8 (l : List Ins) (hl : l.length ≤ 500) : ∀ (k : Nat) (hk : k ≤ l.length) (m : List (Int × IV)),
  rl E 0 8 (loopAt Tryd.f8 0) [(0, .i (.sl 2 (rowsI l) false)), (5, .mref 0), (16, .i (.sl 2 (rowsI l) false)), (17, .i (.v (.int .i64 l.length))), (18, .i (.v (.int .i64 k)))] [.map (mJ m)] =
   some (.exit 0, [(0, .i (.sl 2 (rowsI l) false)), (5, .mref 0), (16, .i (.sl 2 (rowsI l) false)), (17, .i (.v (.int .i64 l.length))), (18, .i (.v (.int .i64 l.length))), (19, .i (.v (.bool false)))], [.map (mJ (tgtM (l.drop k) m))]) := by
 intro k hk m
 rw [rl_step (fn := Tryd.f8) (k := 0) rfl]
 by_cases hlt : k < l.length
 ·have hrow := rowsI_at hlt
  rw [List.drop_eq_getElem_cons hlt, tgtM]
  generalize l[k] = p at *
  obtain ⟨op, arg⟩ := p
  simp only at hrow ⊢
  by_cases h1 : op = 17
  ·have ih := lt8 l hl (k + 1) hlt (putI m arg (.v (.bool true)))
   rw [show (((k + 1 : Nat)) : Int) = (k : Int) + 1 by omega] at ih
   rw [if_pos (.inl h1), ← ih]
   clear ih
   subst h1
   simp (disch := first | omega | (simp only [vlen, rowsI_len]; omega)) only [vall, reduceCtorEq, ↓reduceIte, zq0, zq1, zq2, zq3, zq4, zq5, zq6, zq7, zq8, zq9, zq10, zq11, zq12, zq13, zq14, zq15, zq16, zq17, en8, bs22, bs72, hrow, rowsI_len, putK_I, lp8_6]
  ·by_cases h2 : op = 18
   ·have ih := lt8 l hl (k + 1) hlt (putI m arg (.v (.bool true)))
    rw [show (((k + 1 : Nat)) : Int) = (k : Int) + 1 by omega] at ih
    rw [if_pos (.inr h2), ← ih]
    clear ih
    subst h2
    simp (disch := first | omega | (simp only [vlen, rowsI_len]; omega)) only [vall, reduceCtorEq, ↓reduceIte, zq0, zq1, zq2, zq3, zq4, zq5, zq6, zq7, zq8, zq9, zq10, zq11, zq12, zq13, zq14, zq15, zq16, zq17, en8, bs22, bs72, hrow, rowsI_len, putK_I, lp8_6]
   ·have ih := lt8 l hl (k + 1) hlt m
    rw [show (((k + 1 : Nat)) : Int) = (k : Int) + 1 by omega] at ih
    rw [if_neg (by unfold isJ; omega), ← ih]
    clear ih
    simp (disch := first | omega | (simp only [vlen, rowsI_len]; omega)) only [vall, reduceCtorEq, ↓reduceIte, zq0, zq1, zq2, zq3, zq4, zq5, zq6, zq7, zq8, zq9, zq10, zq11, zq12, zq13, zq14, zq15, zq16, zq17, en8, bs22, bs72, hrow, h1, h2, rowsI_len, lp8_6]
 ·obtain rfl : k = l.length := by omega
  rw [List.drop_length, tgtM]
  simp (disch := first | omega | (simp only [vlen, rowsI_len]; omega)) only [vall, reduceCtorEq, ↓reduceIte, zq0, zq1, zq2, zq3, zq4, zq5, zq6, zq7, zq8, zq9, zq10, zq11, zq12, zq13, zq14, zq15, zq16, zq17, en8, bs22, bs72, rowsI_len, lp8_6]
termination_by k => l.length - k
def lblB (n : Int) : List UInt8 := 108 :: Lib.itoa n
def argB (p : Ins) : List UInt8 := if p.1 = 1 then 32 :: Lib.itoa p.2 else if isJ p.1 then 32 :: lblB p.2 else []
def nameB (op : Int) : List UInt8 := namesB.getD op.toNat []
def lineB (m : List (Int × IV)) (k : Int) : List UInt8 := if getI m k = none then [] else lblB k ++ [58, 10]
def insB (p : Ins) : List UInt8 := nameB p.1 ++ argB p ++ [10]
def disR (m : List (Int × IV)) : Int → List Ins → List UInt8
 | k, [] => lineB m k
 | k, p :: r => lineB m k ++ insB p ++ disR m (k + 1) r
theorem itoa_len {n : Int} (h : -9223372036854775808 ≤ n ∧ n ≤ 9223372036854775807) : 0 < (Lib.itoa n).length ∧ (Lib.itoa n).length ≤ 21 := by
 have hd : ∀ u, u ≤ 9223372036854775808 → 0 < (Lib.decDigits u).length ∧ (Lib.decDigits u).length ≤ 20 := by
  intro u hu
  rw [Lib.decDigits_length]
  by_cases h0 : u = 0
  ·rw [h0, Lib.nDigits_small (by decide)]; decide
  ·have := Lib.numDigits_eq u (by omega) (by omega)
   have h9 := Lib.lt_pow_nDigits u
   refine ⟨?_, by split at this <;> omega⟩
   rcases Nat.eq_zero_or_pos (Lib.nDigits u) with e | e
   ·rw [e] at h9; omega
   ·exact e
 unfold Lib.itoa
 split
 ·have := hd n.natAbs (by omega); simp; omega
 ·have := hd n.toNat (by omega); omega
theorem name_at {op : Int} (h0 : 0 ≤ op) (h1 : op ≤ 20) : (rowsW namesB)[op.toNat]? = some [.str (nameB op)] ∧ 0 < (nameB op).length ∧ (nameB op).length ≤ 8 := by
 have key : ∀ k : Nat, k < 21 → (rowsW namesB)[k]? = some [.str (namesB.getD k [])] ∧ 0 < (namesB.getD k []).length ∧ (namesB.getD k []).length ≤ 8 := by
  intro k hk
  have h2 : ∀ k : Nat, k < 21 → 0 < (namesB.getD k []).length ∧ (namesB.getD k []).length ≤ 8 := by decide
  refine ⟨?_, h2 k hk⟩
  have hl : k < namesB.length := hk
  rw [rowsW_at hl]
  simp [List.getD, hl]
 exact key op.toNat (by omega)
def TrueM (m : List (Int × IV)) : Prop := ∀ k, getI m k = none ∨ getI m k = some (.v (.bool true))
def bldH (m : List (Int × IV)) (out : List UInt8) : Hp := match out with
 | [] => [.map (mJ m), .tb 66 [.i (.v (.pointer none)), .i (.v (.slice none 0 0))]]
 | b :: r => [.map (mJ m), .tb 66 [.mref (1), .mref (2)], .buf 5 (b :: r)]
theorem bldH_ne (m : List (Int × IV)) (out : List UInt8) (h : 0 < out.length) : bldH m out = [.map (mJ m), .tb 66 [.mref (1), .mref (2)], .buf 5 out] := by
 cases out with
 | nil => cases h
 | cons b r => rfl
set_option linter.defProp false in
def lp8_13 := show ∀ B fr H, execT E B 8 (Code.loop _) fr H = rlG E B 8 (loopAt Tryd.f8 1) (gcn B (norm [0, 5, 8, 36, 37] fr) H) from fun B fr H => rl_intro rfl mt8_13 mb8_13 zf8_13 hd8_13 fr H
theorem ld8 (l : List Ins) (hc : checkI l = 0) (m : List (Int × IV)) (hm : TrueM m) : ∀ (k : Nat) (hk : k ≤ l.length) (out : List UInt8) (ho : out.length ≤ 100 * k),
  ∃ fr H' H'', rl E 0 8 (loopAt Tryd.f8 1) [(0, .i (.sl 2 (rowsI l) false)), (5, .mref 0), (8, .mref 1), (36, .i (.v (.int .i64 ((l.length : Int) + 1)))), (37, .i (.v (.int .i64 k)))] (bldH m out) =
   some (.exit 2, fr, H') ∧ get 8 fr = .mref 1 ∧ isoK E (callT E) 23 [.mref 1] H' = some (.i (.str (out ++ disR m k (l.drop k))), H'') := by
 intro k hk out ho
 have h5 := check_len hc
 have hik := itoa_len (n := (k : Int)) (by omega)
 have hI1 := fun H => ik21 (k : Int) (by omega) H
 by_cases hlt : k < l.length
 ·have hp := List.getElem?_eq_getElem hlt
  have hrow := rowsI_at hlt
  obtain ⟨c1, c2, c3, c4, _⟩ := chk_at hc hp
  have ih := ld8 l hc m hm (k + 1) hlt
  rw [List.drop_eq_getElem_cons hlt, disR]
  generalize l[k] = p at *
  obtain ⟨op, arg⟩ := p
  simp only at hrow c1 c2 c3 c4 ⊢
  obtain ⟨n1, n2, n3⟩ := name_at c1 c2
  have hia := itoa_len (n := arg) (by omega)
  have hI2 := fun H => ik21 arg (by omega) H
  unfold insB
  rw [show (((k + 1 : Nat)) : Int) = (k : Int) + 1 by omega] at ih
  generalize hrest : disR m ((k : Int) + 1) (l.drop (k + 1)) = rest at *
  unfold lineB argB lblB
  generalize Lib.itoa arg = A at *
  generalize Lib.itoa k = K at *
  generalize nameB op = nm at *
  -- cases, printed by a4.py
  rcases hm k with hT | hT
  ·rw [if_pos hT]
   by_cases h1 : op = 1
   ·subst h1
    rw [if_pos rfl]
    rw [show Int.toNat 1 = 1 from rfl] at n1
    cases out with
    | nil =>
     obtain ⟨fr, H', H'', e1, e2, e3⟩ := ih (nm ++ (32 :: A) ++ [10]) (by simp at ho ⊢; omega)
     rw [bldH_ne _ _ (by simp; try omega)] at e1
     refine ⟨fr, H', H'', Eq.trans ?_ e1, e2, by simpa using e3⟩
     clear e1 e2 e3 ih
     unfold bldH
     rw [rl_step (fn := Tryd.f8) (k := 1) rfl]
     simp (disch := first | omega | (simp only [vlen, rowsI_len]; omega)) only [vall, reduceCtorEq, ↓reduceIte, zq0, zq1, zq2, zq3, zq4, zq5, zq6, zq7, zq8, zq9, zq10, zq11, zq12, zq13, zq14, zq15, zq16, zq17, en8, bs22, bs72, hrow, n1, hI1, hI2, hT, ikN, wsF, ws0, ws1, ws2, rowsI_len, findK_I, lp8_13]
     all_goals simp only [List.append_assoc, List.cons_append, List.nil_append]
    | cons b r =>
     obtain ⟨fr, H', H'', e1, e2, e3⟩ := ih ((b :: r) ++ nm ++ (32 :: A) ++ [10]) (by simp at ho ⊢; omega)
     rw [bldH_ne _ _ (by simp; try omega)] at e1
     refine ⟨fr, H', H'', Eq.trans ?_ e1, e2, by simpa using e3⟩
     clear e1 e2 e3 ih
     unfold bldH
     rw [List.length_cons] at ho
     rw [rl_step (fn := Tryd.f8) (k := 1) rfl]
     simp (disch := first | omega | (simp only [vlen, rowsI_len]; omega)) only [vall, reduceCtorEq, ↓reduceIte, zq0, zq1, zq2, zq3, zq4, zq5, zq6, zq7, zq8, zq9, zq10, zq11, zq12, zq13, zq14, zq15, zq16, zq17, en8, bs22, bs72, hrow, n1, hI1, hI2, hT, ikN, ws0, ws1, ws2, ws3, rowsI_len, findK_I, lp8_13]
     all_goals simp only [List.append_assoc, List.cons_append, List.nil_append]
   ·skip
    by_cases h2 : op = 17
    ·subst h2
     rw [if_neg (show ¬ (17 : Int) = 1 by decide), if_pos (show isJ 17 from .inl rfl)]
     rw [show Int.toNat 17 = 17 from rfl] at n1
     cases out with
     | nil =>
      obtain ⟨fr, H', H'', e1, e2, e3⟩ := ih (nm ++ (32 :: 108 :: A) ++ [10]) (by simp at ho ⊢; omega)
      rw [bldH_ne _ _ (by simp; try omega)] at e1
      refine ⟨fr, H', H'', Eq.trans ?_ e1, e2, by simpa using e3⟩
      clear e1 e2 e3 ih
      unfold bldH
      rw [rl_step (fn := Tryd.f8) (k := 1) rfl]
      simp (disch := first | omega | (simp only [vlen, rowsI_len]; omega)) only [vall, reduceCtorEq, ↓reduceIte, zq0, zq1, zq2, zq3, zq4, zq5, zq6, zq7, zq8, zq9, zq10, zq11, zq12, zq13, zq14, zq15, zq16, zq17, en8, bs22, bs72, hrow, n1, hI1, hI2, hT, ikN, wsF, ws0, ws1, ws2, rowsI_len, findK_I, lp8_13]
      all_goals simp only [List.append_assoc, List.cons_append, List.nil_append]
     | cons b r =>
      obtain ⟨fr, H', H'', e1, e2, e3⟩ := ih ((b :: r) ++ nm ++ (32 :: 108 :: A) ++ [10]) (by simp at ho ⊢; omega)
      rw [bldH_ne _ _ (by simp; try omega)] at e1
      refine ⟨fr, H', H'', Eq.trans ?_ e1, e2, by simpa using e3⟩
      clear e1 e2 e3 ih
      unfold bldH
      rw [List.length_cons] at ho
      rw [rl_step (fn := Tryd.f8) (k := 1) rfl]
      simp (disch := first | omega | (simp only [vlen, rowsI_len]; omega)) only [vall, reduceCtorEq, ↓reduceIte, zq0, zq1, zq2, zq3, zq4, zq5, zq6, zq7, zq8, zq9, zq10, zq11, zq12, zq13, zq14, zq15, zq16, zq17, en8, bs22, bs72, hrow, n1, hI1, hI2, hT, ikN, ws0, ws1, ws2, ws3, rowsI_len, findK_I, lp8_13]
      all_goals simp only [List.append_assoc, List.cons_append, List.nil_append]
    ·skip
     by_cases h3 : op = 18
     ·subst h3
      rw [if_neg (show ¬ (18 : Int) = 1 by decide), if_pos (show isJ 18 from .inr rfl)]
      rw [show Int.toNat 18 = 18 from rfl] at n1
      cases out with
      | nil =>
       obtain ⟨fr, H', H'', e1, e2, e3⟩ := ih (nm ++ (32 :: 108 :: A) ++ [10]) (by simp at ho ⊢; omega)
       rw [bldH_ne _ _ (by simp; try omega)] at e1
       refine ⟨fr, H', H'', Eq.trans ?_ e1, e2, by simpa using e3⟩
       clear e1 e2 e3 ih
       unfold bldH
       rw [rl_step (fn := Tryd.f8) (k := 1) rfl]
       simp (disch := first | omega | (simp only [vlen, rowsI_len]; omega)) only [vall, reduceCtorEq, ↓reduceIte, zq0, zq1, zq2, zq3, zq4, zq5, zq6, zq7, zq8, zq9, zq10, zq11, zq12, zq13, zq14, zq15, zq16, zq17, en8, bs22, bs72, hrow, n1, hI1, hI2, hT, ikN, wsF, ws0, ws1, ws2, rowsI_len, findK_I, lp8_13]
       all_goals simp only [List.append_assoc, List.cons_append, List.nil_append]
      | cons b r =>
       obtain ⟨fr, H', H'', e1, e2, e3⟩ := ih ((b :: r) ++ nm ++ (32 :: 108 :: A) ++ [10]) (by simp at ho ⊢; omega)
       rw [bldH_ne _ _ (by simp; try omega)] at e1
       refine ⟨fr, H', H'', Eq.trans ?_ e1, e2, by simpa using e3⟩
       clear e1 e2 e3 ih
       unfold bldH
       rw [List.length_cons] at ho
       rw [rl_step (fn := Tryd.f8) (k := 1) rfl]
       simp (disch := first | omega | (simp only [vlen, rowsI_len]; omega)) only [vall, reduceCtorEq, ↓reduceIte, zq0, zq1, zq2, zq3, zq4, zq5, zq6, zq7, zq8, zq9, zq10, zq11, zq12, zq13, zq14, zq15, zq16, zq17, en8, bs22, bs72, hrow, n1, hI1, hI2, hT, ikN, ws0, ws1, ws2, ws3, rowsI_len, findK_I, lp8_13]
       all_goals simp only [List.append_assoc, List.cons_append, List.nil_append]
     ·skip
      rw [if_neg h1, if_neg (show ¬ isJ op by unfold isJ; omega)]
      cases out with
      | nil =>
       obtain ⟨fr, H', H'', e1, e2, e3⟩ := ih (nm ++ [10]) (by simp at ho ⊢; omega)
       rw [bldH_ne _ _ (by simp; try omega)] at e1
       refine ⟨fr, H', H'', Eq.trans ?_ e1, e2, by simpa using e3⟩
       clear e1 e2 e3 ih
       unfold bldH
       rw [rl_step (fn := Tryd.f8) (k := 1) rfl]
       simp (disch := first | omega | (simp only [vlen, rowsI_len]; omega)) only [vall, reduceCtorEq, ↓reduceIte, zq0, zq1, zq2, zq3, zq4, zq5, zq6, zq7, zq8, zq9, zq10, zq11, zq12, zq13, zq14, zq15, zq16, zq17, en8, bs22, bs72, hrow, n1, h1, h2, h3, hI1, hI2, hT, ikN, wsF, ws0, ws1, ws2, rowsI_len, findK_I, lp8_13]
       all_goals simp only [List.append_assoc, List.cons_append, List.nil_append]
      | cons b r =>
       obtain ⟨fr, H', H'', e1, e2, e3⟩ := ih ((b :: r) ++ nm ++ [10]) (by simp at ho ⊢; omega)
       rw [bldH_ne _ _ (by simp; try omega)] at e1
       refine ⟨fr, H', H'', Eq.trans ?_ e1, e2, by simpa using e3⟩
       clear e1 e2 e3 ih
       unfold bldH
       rw [List.length_cons] at ho
       rw [rl_step (fn := Tryd.f8) (k := 1) rfl]
       simp (disch := first | omega | (simp only [vlen, rowsI_len]; omega)) only [vall, reduceCtorEq, ↓reduceIte, zq0, zq1, zq2, zq3, zq4, zq5, zq6, zq7, zq8, zq9, zq10, zq11, zq12, zq13, zq14, zq15, zq16, zq17, en8, bs22, bs72, hrow, n1, h1, h2, h3, hI1, hI2, hT, ikN, ws0, ws1, ws2, ws3, rowsI_len, findK_I, lp8_13]
       all_goals simp only [List.append_assoc, List.cons_append, List.nil_append]
  ·rw [if_neg (show ¬ getI m (k : Int) = none by rw [hT]; simp)]
   by_cases h1 : op = 1
   ·subst h1
    rw [if_pos rfl]
    rw [show Int.toNat 1 = 1 from rfl] at n1
    cases out with
    | nil =>
     obtain ⟨fr, H', H'', e1, e2, e3⟩ := ih ((108 :: K ++ [58, 10]) ++ nm ++ (32 :: A) ++ [10]) (by simp at ho ⊢; omega)
     rw [bldH_ne _ _ (by simp; try omega)] at e1
     refine ⟨fr, H', H'', Eq.trans ?_ e1, e2, by simpa using e3⟩
     clear e1 e2 e3 ih
     unfold bldH
     rw [rl_step (fn := Tryd.f8) (k := 1) rfl]
     simp (disch := first | omega | (simp only [vlen, rowsI_len]; omega)) only [vall, reduceCtorEq, ↓reduceIte, zq0, zq1, zq2, zq3, zq4, zq5, zq6, zq7, zq8, zq9, zq10, zq11, zq12, zq13, zq14, zq15, zq16, zq17, en8, bs22, bs72, hrow, n1, hI1, hI2, hT, ikN, wsF, ws0, ws1, ws2, rowsI_len, findK_I, lp8_13]
     all_goals simp only [List.append_assoc, List.cons_append, List.nil_append]
    | cons b r =>
     obtain ⟨fr, H', H'', e1, e2, e3⟩ := ih ((b :: r) ++ (108 :: K ++ [58, 10]) ++ nm ++ (32 :: A) ++ [10]) (by simp at ho ⊢; omega)
     rw [bldH_ne _ _ (by simp; try omega)] at e1
     refine ⟨fr, H', H'', Eq.trans ?_ e1, e2, by simpa using e3⟩
     clear e1 e2 e3 ih
     unfold bldH
     rw [List.length_cons] at ho
     rw [rl_step (fn := Tryd.f8) (k := 1) rfl]
     simp (disch := first | omega | (simp only [vlen, rowsI_len]; omega)) only [vall, reduceCtorEq, ↓reduceIte, zq0, zq1, zq2, zq3, zq4, zq5, zq6, zq7, zq8, zq9, zq10, zq11, zq12, zq13, zq14, zq15, zq16, zq17, en8, bs22, bs72, hrow, n1, hI1, hI2, hT, ikN, ws0, ws1, ws2, ws3, rowsI_len, findK_I, lp8_13]
     all_goals simp only [List.append_assoc, List.cons_append, List.nil_append]
   ·skip
    by_cases h2 : op = 17
    ·subst h2
     rw [if_neg (show ¬ (17 : Int) = 1 by decide), if_pos (show isJ 17 from .inl rfl)]
     rw [show Int.toNat 17 = 17 from rfl] at n1
     cases out with
     | nil =>
      obtain ⟨fr, H', H'', e1, e2, e3⟩ := ih ((108 :: K ++ [58, 10]) ++ nm ++ (32 :: 108 :: A) ++ [10]) (by simp at ho ⊢; omega)
      rw [bldH_ne _ _ (by simp; try omega)] at e1
      refine ⟨fr, H', H'', Eq.trans ?_ e1, e2, by simpa using e3⟩
      clear e1 e2 e3 ih
      unfold bldH
      rw [rl_step (fn := Tryd.f8) (k := 1) rfl]
      simp (disch := first | omega | (simp only [vlen, rowsI_len]; omega)) only [vall, reduceCtorEq, ↓reduceIte, zq0, zq1, zq2, zq3, zq4, zq5, zq6, zq7, zq8, zq9, zq10, zq11, zq12, zq13, zq14, zq15, zq16, zq17, en8, bs22, bs72, hrow, n1, hI1, hI2, hT, ikN, wsF, ws0, ws1, ws2, rowsI_len, findK_I, lp8_13]
      all_goals simp only [List.append_assoc, List.cons_append, List.nil_append]
     | cons b r =>
      obtain ⟨fr, H', H'', e1, e2, e3⟩ := ih ((b :: r) ++ (108 :: K ++ [58, 10]) ++ nm ++ (32 :: 108 :: A) ++ [10]) (by simp at ho ⊢; omega)
      rw [bldH_ne _ _ (by simp; try omega)] at e1
      refine ⟨fr, H', H'', Eq.trans ?_ e1, e2, by simpa using e3⟩
      clear e1 e2 e3 ih
      unfold bldH
      rw [List.length_cons] at ho
      rw [rl_step (fn := Tryd.f8) (k := 1) rfl]
      simp (disch := first | omega | (simp only [vlen, rowsI_len]; omega)) only [vall, reduceCtorEq, ↓reduceIte, zq0, zq1, zq2, zq3, zq4, zq5, zq6, zq7, zq8, zq9, zq10, zq11, zq12, zq13, zq14, zq15, zq16, zq17, en8, bs22, bs72, hrow, n1, hI1, hI2, hT, ikN, ws0, ws1, ws2, ws3, rowsI_len, findK_I, lp8_13]
      all_goals simp only [List.append_assoc, List.cons_append, List.nil_append]
    ·skip
     by_cases h3 : op = 18
     ·subst h3
      rw [if_neg (show ¬ (18 : Int) = 1 by decide), if_pos (show isJ 18 from .inr rfl)]
      rw [show Int.toNat 18 = 18 from rfl] at n1
      cases out with
      | nil =>
       obtain ⟨fr, H', H'', e1, e2, e3⟩ := ih ((108 :: K ++ [58, 10]) ++ nm ++ (32 :: 108 :: A) ++ [10]) (by simp at ho ⊢; omega)
       rw [bldH_ne _ _ (by simp; try omega)] at e1
       refine ⟨fr, H', H'', Eq.trans ?_ e1, e2, by simpa using e3⟩
       clear e1 e2 e3 ih
       unfold bldH
       rw [rl_step (fn := Tryd.f8) (k := 1) rfl]
       simp (disch := first | omega | (simp only [vlen, rowsI_len]; omega)) only [vall, reduceCtorEq, ↓reduceIte, zq0, zq1, zq2, zq3, zq4, zq5, zq6, zq7, zq8, zq9, zq10, zq11, zq12, zq13, zq14, zq15, zq16, zq17, en8, bs22, bs72, hrow, n1, hI1, hI2, hT, ikN, wsF, ws0, ws1, ws2, rowsI_len, findK_I, lp8_13]
       all_goals simp only [List.append_assoc, List.cons_append, List.nil_append]
      | cons b r =>
       obtain ⟨fr, H', H'', e1, e2, e3⟩ := ih ((b :: r) ++ (108 :: K ++ [58, 10]) ++ nm ++ (32 :: 108 :: A) ++ [10]) (by simp at ho ⊢; omega)
       rw [bldH_ne _ _ (by simp; try omega)] at e1
       refine ⟨fr, H', H'', Eq.trans ?_ e1, e2, by simpa using e3⟩
       clear e1 e2 e3 ih
       unfold bldH
       rw [List.length_cons] at ho
       rw [rl_step (fn := Tryd.f8) (k := 1) rfl]
       simp (disch := first | omega | (simp only [vlen, rowsI_len]; omega)) only [vall, reduceCtorEq, ↓reduceIte, zq0, zq1, zq2, zq3, zq4, zq5, zq6, zq7, zq8, zq9, zq10, zq11, zq12, zq13, zq14, zq15, zq16, zq17, en8, bs22, bs72, hrow, n1, hI1, hI2, hT, ikN, ws0, ws1, ws2, ws3, rowsI_len, findK_I, lp8_13]
       all_goals simp only [List.append_assoc, List.cons_append, List.nil_append]
     ·skip
      rw [if_neg h1, if_neg (show ¬ isJ op by unfold isJ; omega)]
      cases out with
      | nil =>
       obtain ⟨fr, H', H'', e1, e2, e3⟩ := ih ((108 :: K ++ [58, 10]) ++ nm ++ [10]) (by simp at ho ⊢; omega)
       rw [bldH_ne _ _ (by simp; try omega)] at e1
       refine ⟨fr, H', H'', Eq.trans ?_ e1, e2, by simpa using e3⟩
       clear e1 e2 e3 ih
       unfold bldH
       rw [rl_step (fn := Tryd.f8) (k := 1) rfl]
       simp (disch := first | omega | (simp only [vlen, rowsI_len]; omega)) only [vall, reduceCtorEq, ↓reduceIte, zq0, zq1, zq2, zq3, zq4, zq5, zq6, zq7, zq8, zq9, zq10, zq11, zq12, zq13, zq14, zq15, zq16, zq17, en8, bs22, bs72, hrow, n1, h1, h2, h3, hI1, hI2, hT, ikN, wsF, ws0, ws1, ws2, rowsI_len, findK_I, lp8_13]
       all_goals simp only [List.append_assoc, List.cons_append, List.nil_append]
      | cons b r =>
       obtain ⟨fr, H', H'', e1, e2, e3⟩ := ih ((b :: r) ++ (108 :: K ++ [58, 10]) ++ nm ++ [10]) (by simp at ho ⊢; omega)
       rw [bldH_ne _ _ (by simp; try omega)] at e1
       refine ⟨fr, H', H'', Eq.trans ?_ e1, e2, by simpa using e3⟩
       clear e1 e2 e3 ih
       unfold bldH
       rw [List.length_cons] at ho
       rw [rl_step (fn := Tryd.f8) (k := 1) rfl]
       simp (disch := first | omega | (simp only [vlen, rowsI_len]; omega)) only [vall, reduceCtorEq, ↓reduceIte, zq0, zq1, zq2, zq3, zq4, zq5, zq6, zq7, zq8, zq9, zq10, zq11, zq12, zq13, zq14, zq15, zq16, zq17, en8, bs22, bs72, hrow, n1, h1, h2, h3, hI1, hI2, hT, ikN, ws0, ws1, ws2, ws3, rowsI_len, findK_I, lp8_13]
       all_goals simp only [List.append_assoc, List.cons_append, List.nil_append]
  -- end of the cases
 ·obtain rfl : k = l.length := by omega
  rw [List.drop_length, disR]
  unfold lineB lblB
  generalize Lib.itoa l.length = K at *
  rcases hm l.length with hT | hT
  ·rw [if_pos hT, List.append_nil]
   cases out with
   | nil =>
    unfold bldH
    rw [rl_step (fn := Tryd.f8) (k := 1) rfl]
    simp (disch := first | omega | (simp only [vlen, rowsI_len]; omega)) only [vall, reduceCtorEq, ↓reduceIte, zq0, zq1, zq2, zq3, zq4, zq5, zq6, zq7, zq8, zq9, zq10, zq11, zq12, zq13, zq14, zq15, zq16, zq17, en8, bs22, bs72, rowsI_len, findK_I, hT, lp8_13]
    exact ⟨_, _, _, rfl, by rfl, bsN _⟩
   | cons b r =>
    unfold bldH
    rw [rl_step (fn := Tryd.f8) (k := 1) rfl]
    simp (disch := first | omega | (simp only [vlen, rowsI_len]; omega)) only [vall, reduceCtorEq, ↓reduceIte, zq0, zq1, zq2, zq3, zq4, zq5, zq6, zq7, zq8, zq9, zq10, zq11, zq12, zq13, zq14, zq15, zq16, zq17, en8, bs22, bs72, rowsI_len, findK_I, hT, lp8_13]
    exact ⟨_, _, _, rfl, by rfl, bs0 _ _ (by simp) (by simp at ho ⊢; omega)⟩
  ·rw [if_neg (by rw [hT]; simp)]
   cases out with
   | nil =>
    unfold bldH
    rw [rl_step (fn := Tryd.f8) (k := 1) rfl]
    simp (disch := first | omega | (simp only [vlen, rowsI_len]; omega)) only [vall, reduceCtorEq, ↓reduceIte, zq0, zq1, zq2, zq3, zq4, zq5, zq6, zq7, zq8, zq9, zq10, zq11, zq12, zq13, zq14, zq15, zq16, zq17, en8, bs22, bs72, rowsI_len, findK_I, hT, hI1, wsF, lp8_13]
    exact ⟨_, _, _, rfl, by rfl, bs0 _ _ (by simp) (by simp; omega)⟩
   | cons b r =>
    unfold bldH
    rw [List.length_cons] at ho
    rw [rl_step (fn := Tryd.f8) (k := 1) rfl]
    simp (disch := first | omega | (simp only [vlen, rowsI_len]; omega)) only [vall, reduceCtorEq, ↓reduceIte, zq0, zq1, zq2, zq3, zq4, zq5, zq6, zq7, zq8, zq9, zq10, zq11, zq12, zq13, zq14, zq15, zq16, zq17, en8, bs22, bs72, rowsI_len, findK_I, hT, hI1, ws0, lp8_13]
    exact ⟨_, _, _, rfl, by rfl, bs1 _ _ (by simp) (by simp at ho ⊢; omega)⟩
termination_by k => l.length - k
theorem tgtM_true : ∀ (l : List Ins) (m : List (Int × IV)), TrueM m → TrueM (tgtM l m)
 | [], m, h => h
 | p :: r, m, h => by
  rw [tgtM]
  refine tgtM_true r _ ?_
  split
  ·intro k
   rw [getI_put]
   split
   ·exact .inr rfl
   ·exact h k
  ·exact h
def disS (l : List Ins) : List UInt8 := disR (tgtM l []) 0 l
theorem c8 (l : List Ins) (hc : checkI l = 0) : ∃ L, callT E 8 [.i (.sl 2 (rowsI l) false)] [] = some (.tup [.i (.str (disS l)), .i (.v (.int .i64 0))], L) := by
 have h5 := check_len hc
 have hC := fun H => ik17 l (by omega) H
 rw [hc] at hC
 have h1 := lt8 l h5 0 (Nat.zero_le _) []
 obtain ⟨fr, H', H'', e1, e2, e3⟩ := ld8 l hc (tgtM l []) (tgtM_true l [] (fun k => .inl rfl)) 0 (Nat.zero_le _) [] (Nat.zero_le _)
 rw [List.drop_zero] at h1 e3
 rw [List.nil_append, show ((0 : Nat) : Int) = 0 from rfl] at e3
 rw [show ((0 : Nat) : Int) = 0 from rfl] at h1 e1
 unfold bldH at e1
 rw [show ((l.length : Int) + 1) = ((l.length + 1 : Nat) : Int) by omega] at e1
 unfold disS
 generalize disR (tgtM l []) 0 l = S at *
 generalize tgtM l [] = m at *
 rw [mJ_nil] at h1
 rw [callT_eq Tryd.func8 rfl fok8 (by simp [Tryd.ntmps8])]
 simp (disch := first | omega | (simp only [vlen, rowsI_len]; omega)) only [vall, reduceCtorEq, ↓reduceIte, zq0, zq1, zq2, zq3, zq4, zq5, zq6, zq7, zq8, zq9, zq10, zq11, zq12, zq13, zq14, zq15, zq16, zq17, en8, bs22, bs72, hC, rowsI_len, h1, e1, e2, e3, lp8_6, lp8_13]
 exact ⟨_, rfl⟩
theorem ik8 (l : List Ins) (hc : checkI l = 0) (H : Hp) : isoK E (callT E) 8 [.i (.sl 2 (rowsI l) false)] H = some (.tup [.i (.str (disS l)), .i (.v (.int .i64 0))], H) := isoK_val rfl rfl rfl (c8 l hc)
end Go.VI

namespace Go.VI
open Go.Proofs
set_option maxRecDepth 100000
set_option linter.unusedSimpArgs false
set_option linter.unusedVariables false
set_option maxHeartbeats 16000000
def rows64' (l : List Int) : List (List IV) := l.map fun n => [.v (.int .i64 n)]
theorem rows64'_len (l : List Int) : (rows64' l).length = l.length := by simp [rows64']
theorem rows64'_snoc (l : List Int) (n : Int) : rows64' l ++ [[.v (.int .i64 n)]] = rows64' (l ++ [n]) := by simp [rows64']
theorem rows64'_take (l : List Int) : (rows64' l).take l.length = rows64' l := List.take_of_length_le (by rw [rows64'_len]; exact Nat.le_refl _)
theorem rowsI_take (l : List Ins) : (rowsI l).take l.length = rowsI l := List.take_of_length_le (by rw [rowsI_len]; exact Nat.le_refl _)
theorem rowsI_snoc' (l : List Ins) (a b : Int) : rowsI l ++ [[.v (.int .i64 a), .v (.int .i64 b)]] = rowsI (l ++ [(a, b)]) := by simp [rowsI, insC]
theorem name_facts {op : Int} (h0 : 0 ≤ op) (h1 : op ≤ 20) : ∃ c, (nameB op)[0]? = some c ∧ ¬ ((c.toNat : Int) = 35) ∧ endsB (nameB op) 58 = false ∧ (nameB op).length ≤ 8 := by
 have key : ∀ k : Nat, k < 21 → ∃ c, (namesB.getD k [])[0]? = some c ∧ c.toNat ≠ 35 ∧ endsB (namesB.getD k []) 58 = false ∧ (namesB.getD k []).length ≤ 8 := by
  intro k hk
  have h2 : ∀ k : Nat, k < 21 → ((namesB.getD k [])[0]?).isSome = true ∧ (((namesB.getD k [])[0]?).getD 35).toNat ≠ 35 ∧ endsB (namesB.getD k []) 58 = false ∧ (namesB.getD k []).length ≤ 8 := by decide
  obtain ⟨a, b, c, d⟩ := h2 k hk
  obtain ⟨x, hx⟩ := Option.isSome_iff_exists.1 a
  rw [hx] at b
  exact ⟨x, hx, b, c, d⟩
 obtain ⟨c, k1, k2, k3, k4⟩ := key op.toNat (by omega)
 exact ⟨c, k1, by omega, k3, k4⟩
theorem lbl_good {n : Int} (h0 : 0 ≤ n) (h1 : n ≤ 999) : GoodS (lblB n) ∧ (lblB n).length ≤ 16 ∧ 1 ≤ (lblB n).length ∧ (lblB n)[0]? = some 108 := by
 obtain ⟨d1, _, _, _⟩ := dig_ok n.toNat
 have hl : (Lib.decDigits n.toNat).length ≤ 10 := by
  rw [Lib.decDigits]
  split
  ·simp
  ·rw [Lib.decDigits]
   split
   ·simp
   ·rw [Lib.decDigits]
    split
    ·simp
    ·omega
 unfold lblB Lib.itoa
 rw [if_neg (by omega)]
 refine ⟨fun x hx => ?_, by simp; omega, by simp, rfl⟩
 rcases List.mem_cons.1 hx with rfl | hx
 ·exact .inl (by decide)
 ·have := d1 x hx
  exact .inr (by omega)
theorem c25_0 (C : List Ins) (Ls : List Int) (T : List (Int × IV)) (M : List (List UInt8 × IV)) (no : Int) :
  ∃ L, callT E 25 [.ptr 0 0 0 0, .i (.v (.int .i64 no)), .i (.sl 1 (rowsW []) false)] [.box [.ref 1 (0) 0 (C).length, .ref 2 (0) 0 (Ls).length, .mref 3, .mref 4], .sl 2 (0) (rowsI (C)) false, .sl 1 (0) (rows64' (Ls)) false, .map (mJ (T)), .map (mS (M))] = some (.i (.v (.int .i64 0)), [.box [.ref 1 (0) 0 (C).length, .ref 2 (0) 0 (Ls).length, .mref 3, .mref 4], .sl 2 (0) (rowsI (C)) false, .sl 1 (0) (rows64' (Ls)) false, .map (mJ (T)), .map (mS (M))] ++ L) := by
 rw [callT_eq Tryd.func25 rfl fok25 (by simp [Tryd.ntmps25])]
 simp (disch := first | omega | (simp only [vlen]; omega)) only [vall, reduceCtorEq, ↓reduceIte, zq0, zq1, zq2, zq3, zq4, zq5, zq6, zq7, zq8, zq9, zq10, zq11, zq12, zq13, zq14, zq15, zq16, zq17, en25, bs22, bs45, bs72, rowsW_len]
 exact ⟨[], rfl⟩
theorem c25_1 (C : List Ins) (hC : C.length ≤ 500) (Ls : List Int) (T : List (Int × IV)) (M : List (List UInt8 × IV)) (no : Int) (k : Int) (h0 : 0 ≤ k) (h1 : k ≤ 999) (hM : getS M (lblB k) = none) :
  ∃ L, callT E 25 [.ptr 0 0 0 0, .i (.v (.int .i64 no)), .i (.sl 1 (rowsW [lblB k ++ [58]]) false)] [.box [.ref 1 (0) 0 (C).length, .ref 2 (0) 0 (Ls).length, .mref 3, .mref 4], .sl 2 (0) (rowsI (C)) false, .sl 1 (0) (rows64' (Ls)) false, .map (mJ (T)), .map (mS (M))] = some (.i (.v (.int .i64 0)), [.box [.ref 1 (0) 0 (C).length, .ref 2 (0) 0 (Ls).length, .mref 3, .mref 4], .sl 2 (0) (rowsI (C)) false, .sl 1 (0) (rows64' (Ls)) false, .map (mJ (T)), .map (mS (putS M (lblB k) (.v (.int .i64 C.length))))] ++ L) := by
 obtain ⟨g1, g2, g3, g4⟩ := lbl_good h0 h1
 have hl := fun H => ik41 (lblB k) g3 g2 g1 108 g4 (by decide) H
 have hcs := fun H => ik40 (lblB k ++ [58]) (by simp; omega) 58 H
 have he : endsB (lblB k ++ [58]) 58 = true := by unfold endsB; simp
 have ht : (lblB k ++ [58]).take ((lblB k ++ [58]).length - 1) = lblB k := by simp
 rw [he, if_pos rfl, ht] at hcs
 have hi : (lblB k ++ [58])[0]? = some 108 := by unfold lblB; rfl
 have hr : (rowsW [lblB k ++ [58]])[0]? = some [.str (lblB k ++ [58])] := rfl
 have hrl : (rowsW [lblB k ++ [58]]).length = 1 := rfl
 generalize rowsW [lblB k ++ [58]] = R at *
 generalize lblB k ++ [58] = W at *
 generalize lblB k = N at *
 rw [callT_eq Tryd.func25 rfl fok25 (by simp [Tryd.ntmps25])]
 simp (disch := first | omega | (simp only [vlen, hrl]; omega)) only [vall, reduceCtorEq, ↓reduceIte, zq0, zq1, zq2, zq3, zq4, zq5, zq6, zq7, zq8, zq9, zq10, zq11, zq12, zq13, zq14, zq15, zq16, zq17, en25, bs22, bs45, bs72, hl, hcs, hi, hr, hrl, findK_S, hM, putK_S]
 exact ⟨[], rfl⟩
theorem c25_2 (C : List Ins) (hC : C.length < 500) (Ls : List Int) (hL : Ls.length ≤ 500) (T : List (Int × IV)) (M : List (List UInt8 × IV)) (no : Int) (op : Int) (o0 : 0 ≤ op) (o1 : op ≤ 20) (n1 : op ≠ 1) (n2 : op ≠ 17) (n3 : op ≠ 18) :
  ∃ L, callT E 25 [.ptr 0 0 0 0, .i (.v (.int .i64 no)), .i (.sl 1 (rowsW [nameB op]) false)] [.box [.ref 1 (0) 0 (C).length, .ref 2 (0) 0 (Ls).length, .mref 3, .mref 4], .sl 2 (0) (rowsI (C)) false, .sl 1 (0) (rows64' (Ls)) false, .map (mJ (T)), .map (mS (M))] = some (.i (.v (.int .i64 0)), [.box [.ref 1 (1) 0 (C ++ [(op, 0)]).length, .ref 2 (1) 0 (Ls ++ [no]).length, .mref 3, .mref 4], .sl 2 (1) (rowsI (C ++ [(op, 0)])) false, .sl 1 (1) (rows64' (Ls ++ [no])) false, .map (mJ (T)), .map (mS (M))] ++ L) := by
 obtain ⟨c0, i1, i2, i3, i4⟩ := name_facts o0 o1 
 obtain ⟨x1, x2⟩ := names_index o0 o1 
 have hix := fun H => ik42 namesB (by decide) (nameB op) op.toNat x1 x2 H 
 rw [show ((op.toNat : Nat) : Int) = op by omega] at hix 
 have hcs := fun H => ik40 (nameB op) (by omega) 58 H 
 rw [i3, if_neg (by decide)] at hcs
 have hr : (rowsW [nameB op])[0]? = some [.str (nameB op)] := rfl
 have hrl : (rowsW [nameB op]).length = 1 := rfl
 have hn1 : ¬ (op = -1) := by omega
 have s1 := rowsI_snoc' C op 0
 have s2 := rows64'_snoc Ls no
 have t1 := rowsI_take C
 have t2 := rows64'_take Ls
 rw [List.length_append, List.length_append, List.length_singleton, List.length_singleton]
 generalize rowsW [nameB op] = R at *
 generalize nameB op = N at *
 rw [callT_eq Tryd.func25 rfl fok25 (by simp [Tryd.ntmps25])]
 simp (disch := first | omega | (simp only [vlen, hrl, rowsI_len, rows64'_len]; omega)) only [vall, reduceCtorEq, ↓reduceIte, zq0, zq1, zq2, zq3, zq4, zq5, zq6, zq7, zq8, zq9, zq10, zq11, zq12, zq13, zq14, zq15, zq16, zq17, en25, bs22, bs45, bs72, ikN, hix, hcs, i1, i2, hr, hrl, hn1, n1, n2, n3, s1, s2, t1, t2, rowsI_len, rows64'_len]
 exact ⟨[_, _, _], rfl⟩
theorem c25_3 (C : List Ins) (hC : C.length < 500) (Ls : List Int) (hL : Ls.length ≤ 500) (T : List (Int × IV)) (M : List (List UInt8 × IV)) (no : Int) (arg : Int) (a1 : -999999999 ≤ arg) (a2 : arg ≤ 999999999) :
  ∃ L, callT E 25 [.ptr 0 0 0 0, .i (.v (.int .i64 no)), .i (.sl 1 (rowsW [nameB 1, Lib.itoa arg]) false)] [.box [.ref 1 (0) 0 (C).length, .ref 2 (0) 0 (Ls).length, .mref 3, .mref 4], .sl 2 (0) (rowsI (C)) false, .sl 1 (0) (rows64' (Ls)) false, .map (mJ (T)), .map (mS (M))] = some (.i (.v (.int .i64 0)), [.box [.ref 1 (1) 0 (C ++ [(1, arg)]).length, .ref 2 (1) 0 (Ls ++ [no]).length, .mref 3, .mref 4], .sl 2 (1) (rowsI (C ++ [(1, arg)])) false, .sl 1 (1) (rows64' (Ls ++ [no])) false, .map (mJ (T)), .map (mS (M))] ++ L) := by
 obtain ⟨op, hop⟩ : ∃ op : Int, op = 1 := ⟨1, rfl⟩
 have o0 : 0 ≤ op := by omega
 have o1 : op ≤ 20 := by omega
 rw [← hop]
 obtain ⟨c0, i1, i2, i3, i4⟩ := name_facts o0 o1 
 obtain ⟨x1, x2⟩ := names_index o0 o1 
 have hix := fun H => ik42 namesB (by decide) (nameB op) op.toNat x1 x2 H 
 rw [show ((op.toNat : Nat) : Int) = op by omega] at hix 
 have hcs := fun H => ik40 (nameB op) (by omega) 58 H 
 rw [i3, if_neg (by decide)] at hcs
 subst hop
 have hnu := fun H => ik43 arg a1 a2 H
 have hr : (rowsW [nameB 1, Lib.itoa arg])[0]? = some [.str (nameB 1)] := rfl
 have hr1 : (rowsW [nameB 1, Lib.itoa arg])[1]? = some [.str (Lib.itoa arg)] := rfl
 have hrl : (rowsW [nameB 1, Lib.itoa arg]).length = 2 := rfl
 have s1 := rowsI_snoc' C 1 arg
 have s2 := rows64'_snoc Ls no
 have t1 := rowsI_take C
 have t2 := rows64'_take Ls
 rw [List.length_append, List.length_append, List.length_singleton, List.length_singleton]
 generalize rowsW [nameB 1, Lib.itoa arg] = R at *
 generalize nameB 1 = N at *
 generalize Lib.itoa arg = A at *
 rw [callT_eq Tryd.func25 rfl fok25 (by simp [Tryd.ntmps25])]
 simp (disch := first | omega | (simp only [vlen, hrl, rowsI_len, rows64'_len]; omega)) only [vall, reduceCtorEq, ↓reduceIte, zq0, zq1, zq2, zq3, zq4, zq5, zq6, zq7, zq8, zq9, zq10, zq11, zq12, zq13, zq14, zq15, zq16, zq17, en25, bs22, bs45, bs72, ikN, hix, hcs, hnu, i1, i2, hr, hr1, hrl, s1, s2, t1, t2, rowsI_len, rows64'_len]
 exact ⟨[_, _, _], rfl⟩
theorem c25_4 (C : List Ins) (hC : C.length < 500) (Ls : List Int) (hL : Ls.length ≤ 500) (T : List (Int × IV)) (M : List (List UInt8 × IV)) (no : Int) (arg : Int) (a1 : 0 ≤ arg) (a2 : arg ≤ 999) :
  ∃ L, callT E 25 [.ptr 0 0 0 0, .i (.v (.int .i64 no)), .i (.sl 1 (rowsW [nameB 17, lblB arg]) false)] [.box [.ref 1 (0) 0 (C).length, .ref 2 (0) 0 (Ls).length, .mref 3, .mref 4], .sl 2 (0) (rowsI (C)) false, .sl 1 (0) (rows64' (Ls)) false, .map (mJ (T)), .map (mS (M))] = some (.i (.v (.int .i64 0)), [.box [.ref 1 (1) 0 (C ++ [(17, 0)]).length, .ref 2 (1) 0 (Ls ++ [no]).length, .mref 3, .mref 4], .sl 2 (1) (rowsI (C ++ [(17, 0)])) false, .sl 1 (1) (rows64' (Ls ++ [no])) false, .map (mJ (putI T C.length (.str (lblB arg)))), .map (mS (M))] ++ L) := by
 obtain ⟨op, hop⟩ : ∃ op : Int, op = 17 := ⟨17, rfl⟩
 have o0 : 0 ≤ op := by omega
 have o1 : op ≤ 20 := by omega
 rw [← hop]
 obtain ⟨c0, i1, i2, i3, i4⟩ := name_facts o0 o1 
 obtain ⟨x1, x2⟩ := names_index o0 o1 
 have hix := fun H => ik42 namesB (by decide) (nameB op) op.toNat x1 x2 H 
 rw [show ((op.toNat : Nat) : Int) = op by omega] at hix 
 have hcs := fun H => ik40 (nameB op) (by omega) 58 H 
 rw [i3, if_neg (by decide)] at hcs
 subst hop
 obtain ⟨g1, g2, g3, g4⟩ := lbl_good a1 a2
 have hlb := fun H => ik41 (lblB arg) g3 g2 g1 108 g4 (by decide) H
 have hr : (rowsW [nameB 17, lblB arg])[0]? = some [.str (nameB 17)] := rfl
 have hr1 : (rowsW [nameB 17, lblB arg])[1]? = some [.str (lblB arg)] := rfl
 have hrl : (rowsW [nameB 17, lblB arg]).length = 2 := rfl
 have s1 := rowsI_snoc' C 17 0
 have s2 := rows64'_snoc Ls no
 have t1 := rowsI_take C
 have t2 := rows64'_take Ls
 rw [List.length_append, List.length_append, List.length_singleton, List.length_singleton]
 generalize rowsW [nameB 17, lblB arg] = R at *
 generalize nameB 17 = N at *
 generalize lblB arg = A at *
 rw [callT_eq Tryd.func25 rfl fok25 (by simp [Tryd.ntmps25])]
 simp (disch := first | omega | (simp only [vlen, hrl, rowsI_len, rows64'_len]; omega)) only [vall, reduceCtorEq, ↓reduceIte, zq0, zq1, zq2, zq3, zq4, zq5, zq6, zq7, zq8, zq9, zq10, zq11, zq12, zq13, zq14, zq15, zq16, zq17, en25, bs22, bs45, bs72, ikN, hix, hcs, hlb, putK_I, i1, i2, hr, hr1, hrl, s1, s2, t1, t2, rowsI_len, rows64'_len]
 exact ⟨[_, _, _], rfl⟩
theorem c25_5 (C : List Ins) (hC : C.length < 500) (Ls : List Int) (hL : Ls.length ≤ 500) (T : List (Int × IV)) (M : List (List UInt8 × IV)) (no : Int) (arg : Int) (a1 : 0 ≤ arg) (a2 : arg ≤ 999) :
  ∃ L, callT E 25 [.ptr 0 0 0 0, .i (.v (.int .i64 no)), .i (.sl 1 (rowsW [nameB 18, lblB arg]) false)] [.box [.ref 1 (0) 0 (C).length, .ref 2 (0) 0 (Ls).length, .mref 3, .mref 4], .sl 2 (0) (rowsI (C)) false, .sl 1 (0) (rows64' (Ls)) false, .map (mJ (T)), .map (mS (M))] = some (.i (.v (.int .i64 0)), [.box [.ref 1 (1) 0 (C ++ [(18, 0)]).length, .ref 2 (1) 0 (Ls ++ [no]).length, .mref 3, .mref 4], .sl 2 (1) (rowsI (C ++ [(18, 0)])) false, .sl 1 (1) (rows64' (Ls ++ [no])) false, .map (mJ (putI T C.length (.str (lblB arg)))), .map (mS (M))] ++ L) := by
 obtain ⟨op, hop⟩ : ∃ op : Int, op = 18 := ⟨18, rfl⟩
 have o0 : 0 ≤ op := by omega
 have o1 : op ≤ 20 := by omega
 rw [← hop]
 obtain ⟨c0, i1, i2, i3, i4⟩ := name_facts o0 o1 
 obtain ⟨x1, x2⟩ := names_index o0 o1 
 have hix := fun H => ik42 namesB (by decide) (nameB op) op.toNat x1 x2 H 
 rw [show ((op.toNat : Nat) : Int) = op by omega] at hix 
 have hcs := fun H => ik40 (nameB op) (by omega) 58 H 
 rw [i3, if_neg (by decide)] at hcs
 subst hop
 obtain ⟨g1, g2, g3, g4⟩ := lbl_good a1 a2
 have hlb := fun H => ik41 (lblB arg) g3 g2 g1 108 g4 (by decide) H
 have hr : (rowsW [nameB 18, lblB arg])[0]? = some [.str (nameB 18)] := rfl
 have hr1 : (rowsW [nameB 18, lblB arg])[1]? = some [.str (lblB arg)] := rfl
 have hrl : (rowsW [nameB 18, lblB arg]).length = 2 := rfl
 have s1 := rowsI_snoc' C 18 0
 have s2 := rows64'_snoc Ls no
 have t1 := rowsI_take C
 have t2 := rows64'_take Ls
 rw [List.length_append, List.length_append, List.length_singleton, List.length_singleton]
 generalize rowsW [nameB 18, lblB arg] = R at *
 generalize nameB 18 = N at *
 generalize lblB arg = A at *
 rw [callT_eq Tryd.func25 rfl fok25 (by simp [Tryd.ntmps25])]
 simp (disch := first | omega | (simp only [vlen, hrl, rowsI_len, rows64'_len]; omega)) only [vall, reduceCtorEq, ↓reduceIte, zq0, zq1, zq2, zq3, zq4, zq5, zq6, zq7, zq8, zq9, zq10, zq11, zq12, zq13, zq14, zq15, zq16, zq17, en25, bs22, bs45, bs72, ikN, hix, hcs, hlb, putK_I, i1, i2, hr, hr1, hrl, s1, s2, t1, t2, rowsI_len, rows64'_len]
 exact ⟨[_, _, _], rfl⟩
end Go.VI

namespace Go.VI
open Go.Proofs
set_option maxRecDepth 100000
set_option linter.unusedSimpArgs false
set_option linter.unusedVariables false
set_option maxHeartbeats 16000000
theorem isoK_as {f : FuncId} {args : List AV} (he : E.ext f = none) (ha : refsL args = []) {C C' : List Ins} {Ls Ls' : List Int} {T T' : List (Int × IV)} {M M' : List (List UInt8 × IV)} {g h : Nat} {r : IV}
  (hc : ∃ L, callT E f (.ptr 0 0 0 0 :: args) [.box [.ref 1 (0) 0 (C).length, .ref 2 (0) 0 (Ls).length, .mref 3, .mref 4], .sl 2 (0) (rowsI (C)) false, .sl 1 (0) (rows64' (Ls)) false, .map (mJ (T)), .map (mS (M))] = some (.i r, [.box [.ref 1 (g) 0 (C').length, .ref 2 (h) 0 (Ls').length, .mref 3, .mref 4], .sl 2 (g) (rowsI (C')) false, .sl 1 (h) (rows64' (Ls')) false, .map (mJ (T')), .map (mS (M'))] ++ L)) : isoK E (callT E) f (.ptr 0 0 0 0 :: args) [.box [.ref 1 (0) 0 (C).length, .ref 2 (0) 0 (Ls).length, .mref 3, .mref 4], .sl 2 (0) (rowsI (C)) false, .sl 1 (0) (rows64' (Ls)) false, .map (mJ (T)), .map (mS (M))] = some (.i r, [.box [.ref 1 (g) 0 (C').length, .ref 2 (h) 0 (Ls').length, .mref 3, .mref 4], .sl 2 (g) (rowsI (C')) false, .sl 1 (h) (rows64' (Ls')) false, .map (mJ (T')), .map (mS (M'))]) := by
 obtain ⟨L, hc⟩ := hc
 have hr : ∀ ρ, renL ρ args = args := fun ρ => (refs_ren ρ).2 args ha
 unfold isoK
 simp [refsL, refsA, ha, reach, posIn, Chunk.refs, Chunk.ren, renL, renA, hr, exCl, he, hc, backRen, setAll]
inductive LK where
 | lab (k : Nat) | ins (p : Ins) | emp
def textK : LK → List UInt8
 | .lab k => lblB k ++ [58]
 | .ins p => nameB p.1 ++ argB p
 | .emp => []
def wordsK : LK → List (List UInt8)
 | .lab k => [lblB k ++ [58]]
 | .ins p => if p.1 = 1 then [nameB p.1, Lib.itoa p.2] else if isJ p.1 then [nameB p.1, lblB p.2] else [nameB p.1]
 | .emp => []
structure St where
 C : List Ins
 L : List Int
 T : List (Int × IV)
 M : List (List UInt8 × IV)
def stepK (no : Int) : LK → St → Option St
 | .lab k, s => if k ≤ 999 ∧ s.C.length ≤ 500 ∧ getS s.M (lblB k) = none then some { s with M := putS s.M (lblB k) (.v (.int .i64 s.C.length)) } else none
 | .ins p, s => if s.C.length < 500 ∧ s.L.length ≤ 500 ∧ (0 ≤ p.1 ∧ p.1 ≤ 20) ∧ (-999999999 ≤ p.2 ∧ p.2 ≤ 999999999) ∧ (isJ p.1 → 0 ≤ p.2 ∧ p.2 ≤ 999) then
   some { s with C := s.C ++ [(p.1, if p.1 = 1 then p.2 else 0)], L := s.L ++ [no], T := if isJ p.1 then putI s.T s.C.length (.str (lblB p.2)) else s.T } else none
 | .emp, s => some s
def runK : Int → List LK → St → Option St
 | _, [], s => some s
 | no, x :: r, s => match stepK no x s with
  | some s1 => runK (no + 1) r s1
  | none => none
theorem step_line {no : Int} {x : LK} {s s1 : St} (h : stepK no x s = some s1) : ∃ g h', isoK E (callT E) 25 [.ptr 0 0 0 0, .i (.v (.int .i64 no)), .i (.sl 1 (rowsW (wordsK x)) false)] [.box [.ref 1 (0) 0 (s.C).length, .ref 2 (0) 0 (s.L).length, .mref 3, .mref 4], .sl 2 (0) (rowsI (s.C)) false, .sl 1 (0) (rows64' (s.L)) false, .map (mJ (s.T)), .map (mS (s.M))] = some (.i (.v (.int .i64 0)), [.box [.ref 1 (g) 0 (s1.C).length, .ref 2 (h') 0 (s1.L).length, .mref 3, .mref 4], .sl 2 (g) (rowsI (s1.C)) false, .sl 1 (h') (rows64' (s1.L)) false, .map (mJ (s1.T)), .map (mS (s1.M))]) := by
 cases x with
 | emp =>
  cases h
  exact ⟨0, 0, isoK_as (by rfl) rfl (c25_0 _ _ _ _ _)⟩
 | lab k =>
  simp only [stepK] at h
  split at h
  ·rename_i hc
   obtain ⟨h1, h2, h3⟩ := hc
   cases h
   exact ⟨0, 0, isoK_as (by rfl) rfl (c25_1 _ h2 _ _ _ _ k (by omega) (by omega) h3)⟩
  ·cases h
 | ins p =>
  simp only [stepK] at h
  split at h
  ·rename_i hc
   obtain ⟨h1, h2, ⟨h3, h4⟩, ⟨h5, h6⟩, h7⟩ := hc
   cases h
   obtain ⟨op, arg⟩ := p
   simp only at h3 h4 h5 h6 h7 ⊢
   by_cases n1 : op = 1
   ·subst n1
    have : ¬ isJ 1 := by decide
    simp only [wordsK, if_true, if_neg this]
    exact ⟨1, 1, isoK_as (by rfl) rfl (c25_3 _ h1 _ h2 _ _ _ arg h5 h6)⟩
   ·by_cases n2 : op = 17
    ·subst n2
     have hj : isJ 17 := .inl rfl
     obtain ⟨a1, a2⟩ := h7 hj
     simp only [wordsK, if_pos hj, if_neg n1]
     exact ⟨1, 1, isoK_as (by rfl) rfl (c25_4 _ h1 _ h2 _ _ _ arg a1 a2)⟩
    ·by_cases n3 : op = 18
     ·subst n3
      have hj : isJ 18 := .inr rfl
      obtain ⟨a1, a2⟩ := h7 hj
      simp only [wordsK, if_pos hj, if_neg n1]
      exact ⟨1, 1, isoK_as (by rfl) rfl (c25_5 _ h1 _ h2 _ _ _ arg a1 a2)⟩
     ·have hj : ¬ isJ op := by unfold isJ; omega
      simp only [wordsK, if_neg hj, if_neg n1]
      exact ⟨1, 1, isoK_as (by rfl) rfl (c25_2 _ h1 _ h2 _ _ _ op h3 h4 n1 n2 n3)⟩
  ·cases h
set_option linter.defProp false in
def lp9_3 := show ∀ B fr H, execT E B 9 (Code.loop _) fr H = rlM E B 9 (loopAt Tryd.f9 0) [5, 18, 19, 20] [] (matF [] fr H).1 (matB [(5, 0, 2), (5, 1, 1)] (matF [] fr H).1 (matF [] fr H).2) from fun B fr H => rl_introM rfl mt9_3 mb9_3 zf9_3 hd9_3 fr H
theorem l09 (all : List (List UInt8)) (hall : all.length ≤ 100000) : ∀ (rest : List LK) (pre : List (List UInt8)) (he : all = pre ++ rest.map textK) (hw : ∀ x ∈ rest, fieldsS (textK x) = wordsK x ∧ Asc (textK x) ∧ (textK x).length ≤ 900000) (s s' : St) (hr : runK (pre.length + 1) rest s = some s'),
  rl E 0 9 (loopAt Tryd.f9 0) [(5, .ptr 0 0 0 0), (18, .i (.sl 1 (rowsW all) false)), (19, .i (.v (.int .i64 all.length))), (20, .i (.v (.int .i64 pre.length)))] [.box [.ref 1 (0) 0 (s.C).length, .ref 2 (0) 0 (s.L).length, .mref 3, .mref 4], .sl 2 (0) (rowsI (s.C)) false, .sl 1 (0) (rows64' (s.L)) false, .map (mJ (s.T)), .map (mS (s.M))] =
   some (.exit 0, [(5, .ptr 0 0 0 0), (18, .i (.sl 1 (rowsW all) false)), (19, .i (.v (.int .i64 all.length))), (20, .i (.v (.int .i64 all.length))), (21, .i (.v (.bool false)))], [.box [.ref 1 (0) 0 (s'.C).length, .ref 2 (0) 0 (s'.L).length, .mref 3, .mref 4], .sl 2 (0) (rowsI (s'.C)) false, .sl 1 (0) (rows64' (s'.L)) false, .map (mJ (s'.T)), .map (mS (s'.M))]) := by
 intro rest
 induction rest with
 | nil =>
  intro pre he hw s s' hr
  rw [List.map_nil, List.append_nil] at he
  subst he
  cases hr
  rw [rl_step (fn := Tryd.f9) (k := 0) rfl]
  simp (disch := first | omega | (simp only [vlen, rowsW_len]; omega)) only [vall, reduceCtorEq, ↓reduceIte, zq0, zq1, zq2, zq3, zq4, zq5, zq6, zq7, zq8, zq9, zq10, zq11, zq12, zq13, zq14, zq15, zq16, zq17, en9, bs22, bs45, bs72, rowsW_len, rowsI_len, rows64'_len, rowsI_take, rows64'_take, lp9_3]
 | cons x rest ih =>
  intro pre he hw s s' hr
  rw [List.map_cons] at he
  have hlen : all.length = pre.length + (rest.length + 1) := by rw [he]; simp
  have hat : (rowsW all)[pre.length]? = some [.str (textK x)] := by
   rw [he, rowsW_app, List.getElem?_append_right (by rw [rowsW_len]; exact Nat.le_refl _), rowsW_len, Nat.sub_self]; rfl
  obtain ⟨w1, w2, w3⟩ := hw x (List.mem_cons_self ..)
  rw [runK] at hr
  split at hr
  ·rename_i s1 hs1
   have ih := ih (pre ++ [textK x]) (by rw [he]; simp) (fun y hy => hw y (List.mem_cons_of_mem _ hy)) s1 s' (by rw [List.length_append, List.length_singleton]; exact_mod_cast hr)
   rw [List.length_append, List.length_singleton] at ih
   rw [← ih]
   clear ih he
   obtain ⟨g, h', hli⟩ := step_line hs1
   rw [show ((pre.length : Int) + 1) = ((pre.length + 1 : Nat) : Int) by omega] at hli
   have hwd := fun H => ik26 (textK x) w3 w2 H
   rw [w1] at hwd
   have htl : (rowsW all).length = all.length := rowsW_len all
   have u1 := rowsI_take s1.C
   have u2 := rows64'_take s1.L
   have u3 := rowsI_len s1.C
   have u4 := rows64'_len s1.L
   generalize rowsW (wordsK x) = W at *
   generalize textK x = X at *
   generalize rowsW all = R at *
   rw [rl_step (fn := Tryd.f9) (k := 0) rfl]
   simp (disch := first | omega | (simp only [vlen, htl, u3, u4]; omega)) only [vall, reduceCtorEq, ↓reduceIte, zq0, zq1, zq2, zq3, zq4, zq5, zq6, zq7, zq8, zq9, zq10, zq11, zq12, zq13, zq14, zq15, zq16, zq17, en9, bs22, bs45, bs72, hat, hwd, hli, htl, u1, u2, u3, u4, lp9_3]
  ·cases hr
def zJ (p : Ins) : Ins := (p.1, if isJ p.1 then 0 else p.2)
theorem mix_at {l : List Ins} {i : Nat} (h : i < l.length) : (rowsI (l.take i ++ (l.drop i).map zJ))[i]? = some (insC (zJ l[i])) ∧ (l.take i ++ (l.drop i).map zJ).length = l.length := by
 constructor
 ·rw [List.drop_eq_getElem_cons h, List.map_cons]
  unfold rowsI
  rw [List.map_append, List.getElem?_append_right (by simp; omega)]
  simp [List.length_take, Nat.min_eq_left (Nat.le_of_lt h)]
 ·simp; omega
theorem mix_set {l : List Ins} {i : Nat} (h : i < l.length) (R : List IV) (hR : R = insC l[i]) : (rowsI (l.take i ++ (l.drop i).map zJ)).set i R = rowsI (l.take (i + 1) ++ (l.drop (i + 1)).map zJ) := by
 subst hR
 rw [List.drop_eq_getElem_cons h, List.map_cons, List.take_succ_eq_append_getElem h]
 unfold rowsI
 rw [List.map_append, List.set_append_right _ _ (by simp; omega), List.length_map, List.length_take, Nat.min_eq_left (Nat.le_of_lt h), Nat.sub_self, List.map_cons, List.set_cons_zero, List.map_append, List.map_append, List.append_assoc]
 rfl
theorem mix_same {l : List Ins} {i : Nat} (h : i < l.length) (hj : ¬ isJ l[i].1) : l.take i ++ (l.drop i).map zJ = l.take (i + 1) ++ (l.drop (i + 1)).map zJ := by
 rw [List.drop_eq_getElem_cons h, List.map_cons, List.take_succ_eq_append_getElem h]
 have : zJ l[i] = l[i] := by unfold zJ; rw [if_neg hj]
 rw [this, List.append_assoc]
 rfl
set_option linter.defProp false in
def lp9_10 := show ∀ B fr H, execT E B 9 (Code.loop _) fr H = rlG E B 9 (loopAt Tryd.f9 1) (gcn B (norm [5, 41, 42] fr) H) from fun B fr H => rl_intro rfl mt9_10 mb9_10 zf9_10 hd9_10 fr H
theorem l19 (l : List Ins) (hc : checkI l = 0) (Ls : List Int) (T : List (Int × IV)) (M : List (List UInt8 × IV))
  (hT : ∀ j (h : j < l.length), getI T j = if isJ l[j].1 then some (.str (lblB l[j].2)) else none) (hM : ∀ j (h : j < l.length), isJ l[j].1 → getS M (lblB l[j].2) = some (.v (.int .i64 l[j].2))) : ∀ (i : Nat) (hi : i ≤ l.length),
  rl E 0 9 (loopAt Tryd.f9 1) [(5, .ptr 0 0 0 0), (41, .i (.v (.int .i64 l.length))), (42, .i (.v (.int .i64 i)))] [.box [.ref 1 0 0 l.length, .ref 2 0 0 Ls.length, .mref 3, .mref 4], .sl 2 0 (rowsI (l.take i ++ (l.drop i).map zJ)) false, .sl 1 0 (rows64' Ls) false, .map (mJ T), .map (mS M)] =
   some (.exit 2, [(5, .ptr 0 0 0 0), (41, .i (.v (.int .i64 l.length))), (42, .i (.v (.int .i64 l.length))), (43, .i (.v (.bool false)))], [.box [.ref 1 0 0 l.length, .ref 2 0 0 Ls.length, .mref 3, .mref 4], .sl 2 0 (rowsI l) false, .sl 1 0 (rows64' Ls) false, .map (mJ T), .map (mS M)]) := by
 intro i hi
 have h5 := check_len hc
 rw [rl_step (fn := Tryd.f9) (k := 1) rfl]
 by_cases hlt : i < l.length
 ·have hp := List.getElem?_eq_getElem hlt
  obtain ⟨c1, c2, c3, c4, c5⟩ := chk_at hc hp
  have ih := l19 l hc Ls T M hT hM (i + 1) hlt
  obtain ⟨hat, hml⟩ := mix_at hlt
  have hTi := hT i hlt
  have hMi := hM i hlt
  by_cases hj : isJ l[i].1
  ·rw [if_pos hj] at hTi
   replace hMi := hMi hj
   obtain ⟨b1, b2⟩ := c5 hj
   have hset := fun R h => mix_set hlt R h
   have hzj : insC (zJ l[i]) = [.v (.int .i64 l[i].1), .v (.int .i64 0)] := by unfold zJ; rw [if_pos hj]; rfl
   rw [hzj] at hat
   have hset := hset [.v (.int .i64 l[i].1), .v (.int .i64 l[i].2)] rfl
   have ht := rowsI_take (l.take i ++ (l.drop i).map zJ)
   have htl := rowsI_len (l.take i ++ (l.drop i).map zJ)
   rw [hml] at htl
   generalize rowsI (l.take i ++ (l.drop i).map zJ) = Q at *
   generalize rowsI (l.take (i + 1) ++ (l.drop (i + 1)).map zJ) = Q' at *
   generalize l[i] = p at *
   obtain ⟨op, arg⟩ := p
   simp only at hat hset hTi hMi b1 b2 c3 c4
   rw [← ih]
   clear ih
   generalize lblB arg = A at *
   simp (disch := first | omega | (simp only [vlen, htl, rows64'_len]; omega)) only [vall, reduceCtorEq, ↓reduceIte, zq0, zq1, zq2, zq3, zq4, zq5, zq6, zq7, zq8, zq9, zq10, zq11, zq12, zq13, zq14, zq15, zq16, zq17, en9, bs22, bs45, bs72, hat, hset, htl, findK_I, findK_S, hTi, hMi, rows64'_len, lp9_10]
  ·rw [if_neg hj] at hTi
   rw [← mix_same hlt hj] at ih
   rw [← ih]
   clear ih
   have htl := rowsI_len (l.take i ++ (l.drop i).map zJ)
   rw [hml] at htl
   generalize rowsI (l.take i ++ (l.drop i).map zJ) = Q at *
   simp (disch := first | omega | (simp only [vlen, htl, rows64'_len]; omega)) only [vall, reduceCtorEq, ↓reduceIte, zq0, zq1, zq2, zq3, zq4, zq5, zq6, zq7, zq8, zq9, zq10, zq11, zq12, zq13, zq14, zq15, zq16, zq17, en9, bs22, bs45, bs72, htl, findK_I, hTi, rows64'_len, lp9_10]
 ·obtain rfl : i = l.length := by omega
  rw [List.take_length, List.drop_length, List.map_nil, List.append_nil]
  simp (disch := first | omega | (simp only [vlen, rowsI_len, rows64'_len]; omega)) only [vall, reduceCtorEq, ↓reduceIte, zq0, zq1, zq2, zq3, zq4, zq5, zq6, zq7, zq8, zq9, zq10, zq11, zq12, zq13, zq14, zq15, zq16, zq17, en9, bs22, bs45, bs72, rowsI_len, rows64'_len, lp9_10]
termination_by i => l.length - i
end Go.VI

