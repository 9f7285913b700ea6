import Derived.RangeFuncNested
import Derived.RangeFuncBound
import Derived.RangeFuncCalls
import Derived.RangeFuncLeaves
import Derived.Shelf.Abstract
import Derived.Shelf.RegionOpen
import Derived.WalkKit
import Derived.OwnWalkIn
import Derived.TacticsInMore
import Derived.LoopNIn
import Derived.LoopIn
import Derived.Test.YtbilphkejchpfaaDoorZTSI4
open Int renaming reduceToNat → zq6, reduceLT → zq7, reduceLE → zq8, reduceMul → zq9, reduceAdd → zq10, reduceEq → zq12, reduceNe → zq13, reduceNeg → zq14, reduceGT → zq15, reduceGE → zq16
open Nat renaming reduceEqDiff → zq0, reduceAdd → zq1, reduceSub → zq2, reduceMul → zq3, reduceLT → zq4, reduceLeDiff → zq5, reduceBEq → zq11
open UInt8 renaming reduceToNat → zq17
namespace Go.VI
open Go.Proofs
set_option maxRecDepth 100000
set_option linter.unusedSimpArgs false
set_option linter.unusedVariables false
set_option maxHeartbeats 4000000
theorem mc_cn (B : Nat) (H : Hp) (row : Int) (g : IV) (c w r : Int) (st : List Int) (d : Int) (f : Bool) : cnL B H (mc row g c w r st d f) = mc row g c w r st d f := by
 have : ∀ (l : List Int) (t : List AV), cnL B H t = t → cnL B H (l.map i64 ++ t) = l.map i64 ++ t := fun l t ht => by
  induction l with
  | nil => exact ht
  | cons a l ih => rw [List.map_cons, List.cons_append, cnL, ih]; rfl
 have h := this st [.i (.v (.int .i64 d)), .i (.v (.bool f))] rfl
 show cnL B H (i64 row :: .i g :: i64 c :: i64 w :: i64 r :: (st.map i64 ++ [.i (.v (.int .i64 d)), .i (.v (.bool f))])) = _
 simp only [cnL, h]
 rfl
def limS (n : Int) : Int := max (-999999999) (min n 999999999)
theorem c51 (n : Int) (h : -9223372036854775808 ≤ n ∧ n ≤ 9223372036854775807) : ∃ L, callT E 51 [.i (.v (.int .i64 n))] [] = some (.i (.v (.int .i64 (limS n))), L) := by
 unfold limS
 rw [callT_eq Tryd.func51 rfl fok51 (by simp [Tryd.ntmps51])]
 simp (disch := first | omega | (simp only [vlen]; omega)) only [vall, reduceCtorEq, ↓reduceIte, zq0, zq1, zq2, zq3, zq4, zq5, zq6, zq7, zq8, zq9, zq10, zq11, zq12, zq13, zq14, zq15, zq16, zq17, en51]
 exact ⟨_, rfl⟩
theorem ik51 (n : Int) (h : -9223372036854775808 ≤ n ∧ n ≤ 9223372036854775807) (H : Hp) : isoK E (callT E) 51 [.i (.v (.int .i64 n))] H = some (.i (.v (.int .i64 (limS n))), H) := isoK_val rfl rfl rfl (c51 n h)
theorem c36 (b : Bool) : ∃ L, callT E 36 [.i (.v (.bool b))] [] = some (.i (.v (.int .i64 (if b = true then 1 else 0))), L) := by
 cases b
 ·rw [callT_eq Tryd.func36 rfl fok36 (by simp [Tryd.ntmps36])]
  simp (disch := first | omega | (simp only [vlen]; omega)) only [vall, reduceCtorEq, ↓reduceIte, zq0, zq1, zq2, zq3, zq4, zq5, zq6, zq7, zq8, zq9, zq10, zq11, zq12, zq13, zq14, zq15, zq16, zq17, en36]
  exact ⟨_, rfl⟩
 ·rw [callT_eq Tryd.func36 rfl fok36 (by simp [Tryd.ntmps36])]
  simp (disch := first | omega | (simp only [vlen]; omega)) only [vall, reduceCtorEq, ↓reduceIte, zq0, zq1, zq2, zq3, zq4, zq5, zq6, zq7, zq8, zq9, zq10, zq11, zq12, zq13, zq14, zq15, zq16, zq17, en36]
  exact ⟨_, rfl⟩
theorem ik36 (b : Bool) (H : Hp) : isoK E (callT E) 36 [.i (.v (.bool b))] H = some (.i (.v (.int .i64 (if b = true then 1 else 0))), H) := isoK_val rfl rfl rfl (c36 b)
theorem c18 (row : Int) (g : IV) (c w r : Int) (st : List Int) (d : Nat) (f : Bool) (hs : st.length = 16) (hd : d ≤ 16) :
  ∃ L, callT E 18 [.ptr 0 0 0 0] [.box (mc row g c w r st d f)] = some (.i (.v (.int .i64 (if d = 0 then 0 else st.getD (d - 1) 0))), .box (mc row g c w r st ((d - 1 : Nat)) (f || decide (d = 0))) :: L) := by
 have h21 := mc_21 (row := row) (g := g) (c := c) (w := w) (r := r) (d := d) (f := f) hs
 have hl := mc_len (row := row) (g := g) (c := c) (w := w) (r := r) (d := d) (f := f) hs
 by_cases h0 : d = 0
 ·subst h0
  have hp := mc_put22 (row := row) (g := g) (c := c) (w := w) (r := r) (d := (0 : Nat)) (f := f) hs true
  rw [if_pos rfl, decide_eq_true rfl, Bool.or_true]
  rw [show ((0 : Nat) : Int) = 0 from rfl] at h21 hp hl
  rw [callT_eq Tryd.func18 rfl fok18 (by simp [Tryd.ntmps18])]
  simp (disch := first | omega | (simp only [vlen, hl]; omega)) only [vall, reduceCtorEq, ↓reduceIte, zq0, zq1, zq2, zq3, zq4, zq5, zq6, zq7, zq8, zq9, zq10, zq11, zq12, zq13, zq14, zq15, zq16, zq17, en18, h21, hp, hl, mc_cn]
  exact ⟨_, rfl⟩
 ·obtain ⟨e, rfl⟩ : ∃ e, d = e + 1 := ⟨d - 1, by omega⟩
  have hp := mc_put21 (row := row) (g := g) (c := c) (w := w) (r := r) (d := ((e + 1 : Nat))) (f := f) hs e
  have h21' := mc_21 (row := row) (g := g) (c := c) (w := w) (r := r) (d := e) (f := f) hs
  have hl' := mc_len (row := row) (g := g) (c := c) (w := w) (r := r) (d := e) (f := f) hs
  have hst := mc_st (row := row) (g := g) (c := c) (w := w) (r := r) (d := e) (f := f) hs (k := e) (by omega)
  rw [if_neg h0, decide_eq_false h0, Bool.or_false, Nat.add_sub_cancel]
  rw [callT_eq Tryd.func18 rfl fok18 (by simp [Tryd.ntmps18])]
  simp (disch := first | omega | (simp only [vlen, hl]; omega)) only [vall, reduceCtorEq, ↓reduceIte, zq0, zq1, zq2, zq3, zq4, zq5, zq6, zq7, zq8, zq9, zq10, zq11, zq12, zq13, zq14, zq15, zq16, zq17, en18, h21, h21', hp, hl, hl', hst, mc_cn, Nat.mul_one, show ((e + 1 : Nat) : Int) - 1 = e from by omega]
  exact ⟨_, rfl⟩
theorem c33 (row : Int) (g : IV) (c w r : Int) (st : List Int) (d : Nat) (f : Bool) (n : Int) (hn : -9223372036854775808 ≤ n ∧ n ≤ 9223372036854775807) (hs : st.length = 16) (hd : d ≤ 16) :
  ∃ L, callT E 33 [.ptr 0 0 0 0, .i (.v (.int .i64 n))] [.box (mc row g c w r st d f)] = some (.tup [], .box (if d = 16 then mc row g c w r st (16 : Nat) true else mc row g c w r (st.set d (limS n)) ((d + 1 : Nat)) f) :: L) := by
 have h21 := mc_21 (row := row) (g := g) (c := c) (w := w) (r := r) (d := d) (f := f) hs
 have hl := mc_len (row := row) (g := g) (c := c) (w := w) (r := r) (d := d) (f := f) hs
 have hli := fun H => ik51 n hn H
 by_cases h0 : d = 16
 ·subst h0
  have hp := mc_put22 (row := row) (g := g) (c := c) (w := w) (r := r) (d := (16 : Nat)) (f := f) hs true
  rw [if_pos rfl]
  rw [show ((16 : Nat) : Int) = 16 from rfl] at h21 hp hl ⊢
  rw [callT_eq Tryd.func33 rfl fok33 (by simp [Tryd.ntmps33])]
  simp (disch := first | omega | (simp only [vlen, hl]; omega)) only [vall, reduceCtorEq, ↓reduceIte, zq0, zq1, zq2, zq3, zq4, zq5, zq6, zq7, zq8, zq9, zq10, zq11, zq12, zq13, zq14, zq15, zq16, zq17, en33, h21, hp, hl, mc_cn]
  exact ⟨_, rfl⟩
 ·rw [if_neg h0]
  generalize limS n = x at *
  have hs2 : (st.set d x).length = 16 := by rw [List.length_set]; exact hs
  have hp := mc_put (row := row) (g := g) (c := c) (w := w) (r := r) (d := d) (f := f) hs (k := d) (by omega) x
  have hp2 := mc_put21 (row := row) (g := g) (c := c) (w := w) (r := r) (d := d) (f := f) hs2 ((d + 1 : Nat))
  have h21' := mc_21 (row := row) (g := g) (c := c) (w := w) (r := r) (d := d) (f := f) hs2
  have hl' := mc_len (row := row) (g := g) (c := c) (w := w) (r := r) (d := d) (f := f) hs2
  rw [callT_eq Tryd.func33 rfl fok33 (by simp [Tryd.ntmps33])]
  simp (disch := first | omega | (simp only [vlen, hl]; omega)) only [vall, reduceCtorEq, ↓reduceIte, zq0, zq1, zq2, zq3, zq4, zq5, zq6, zq7, zq8, zq9, zq10, zq11, zq12, zq13, zq14, zq15, zq16, zq17, en33, h21, h21', hp, hp2, hl, hl', hli, mc_cn, Nat.mul_one, show ((d : Nat) : Int) + 1 = ((d + 1 : Nat) : Int) from rfl]
  exact ⟨_, rfl⟩
end Go.VI

namespace Go.VI
open Go.Proofs
set_option maxRecDepth 100000
set_option linter.unusedSimpArgs false
set_option linter.unusedVariables false
set_option maxHeartbeats 4000000
theorem isoK_mc {f : Nat} {args X X' : List AV} {r : AV} (he : E.ext f = none) (ha : refsL args = []) (hr : refsA r = []) (hX : refsL X = []) (hX' : refsL X' = [])
  (h : ∃ L, callT E f (.ptr 0 0 0 0 :: args) [.box X] = some (r, .box X' :: L)) (T : Hp) :
  isoK E (callT E) f (.ptr 0 0 0 0 :: args) (.box X :: T) = some (r, .box X' :: T) := by
 obtain ⟨L, h⟩ := h
 have ha2 : ∀ ρ, renL ρ args = args := fun ρ => (refs_ren ρ).2 args ha
 have hr2 : ∀ ρ, renA ρ r = r := fun ρ => (refs_ren ρ).1 r hr
 have hX2 : ∀ ρ, renL ρ X = X := fun ρ => (refs_ren ρ).2 X hX
 have hX2' : ∀ ρ, renL ρ X' = X' := fun ρ => (refs_ren ρ).2 X' hX'
 rw [isoK_R he]
 simp (disch := first | omega | (simp only [vlen]; omega)) only [vall, reduceCtorEq, ↓reduceIte, zq0, zq1, zq2, zq3, zq4, zq5, zq6, zq7, zq8, zq9, zq10, zq11, zq12, zq13, zq14, zq15, zq16, zq17, tyaa, tyab, tyac, tyad, tyae, tyaf, tyag, tyah, tyai, tyaj, tyak, tyal, tyam, tyan, tyao, tyap, tyaq, tyar, tyas, tyat, tyau, tyav, tyaw, tyax, tyay, tyaz, bs110, bs120, bs22, bs23, bs45, bs48, bs64, bs72, isoL, h, isoB_some, isoF, backRen, setAll, List.take_succ_cons, List.take_zero, ha, ha2, hr, hr2, hX, hX', hX2, hX2']
theorem ik18 (row : Int) (g : IV) (c w r : Int) (st : List Int) (d : Nat) (f : Bool) (hs : st.length = 16) (hd : d ≤ 16) (T : Hp) :
  isoK E (callT E) 18 [.ptr 0 0 0 0] (.box (mc row g c w r st d f) :: T) = some (.i (.v (.int .i64 (if d = 0 then 0 else st.getD (d - 1) 0))), .box (mc row g c w r st ((d - 1 : Nat)) (f || decide (d = 0))) :: T) :=
 isoK_mc rfl rfl rfl (mc_refs trivial) (mc_refs trivial) (c18 row g c w r st d f hs hd) T
theorem ik33 (row : Int) (g : IV) (c w r : Int) (st : List Int) (d : Nat) (f : Bool) (n : Int) (hn : -9223372036854775808 ≤ n ∧ n ≤ 9223372036854775807) (hs : st.length = 16) (hd : d ≤ 16) (T : Hp) :
  isoK E (callT E) 33 [.ptr 0 0 0 0, .i (.v (.int .i64 n))] (.box (mc row g c w r st d f) :: T) = some (.tup [], .box (if d = 16 then mc row g c w r st (16 : Nat) true else mc row g c w r (st.set d (limS n)) ((d + 1 : Nat)) f) :: T) :=
 isoK_mc rfl rfl rfl (mc_refs trivial) (by split <;> exact mc_refs trivial) (c33 row g c w r st d f n hn hs hd) T
end Go.VI

namespace Go.VI
open Go.Proofs
set_option maxRecDepth 100000
set_option linter.unusedSimpArgs false
set_option linter.unusedVariables false
set_option maxHeartbeats 4000000
def pushM (row : Int) (g : IV) (c w r : Int) (st : List Int) (d : Nat) (f : Bool) (n : Int) : List AV := if d = 16 then mc row g c w r st (16 : Nat) true else mc row g c w r (st.set d (limS n)) ((d + 1 : Nat)) f
theorem pushM_refs {row : Int} {g : IV} {c w r : Int} {st : List Int} {d : Nat} {f : Bool} {n : Int} : refsL (pushM row g c w r st d f n) = [] := by unfold pushM; split <;> exact mc_refs trivial
theorem pushM_cn {row : Int} {g : IV} {c w r : Int} {st : List Int} {d : Nat} {f : Bool} {n : Int} (B : Nat) (H : Hp) : cnL B H (pushM row g c w r st d f n) = pushM row g c w r st d f n := by unfold pushM; split <;> exact mc_cn _ _ _ _ _ _ _ _ _ _
theorem c31_1 (row : Int) (rows : List (List IV)) (c w r : Int) (st : List Int) (d : Nat) (f : Bool) (arg : Int) (hb : (-9223372036854775808 ≤ arg ∧ arg ≤ 9223372036854775807) ∧ (-9223372036854775808 ≤ row ∧ row ≤ 9223372036854775807) ∧ (-9223372036854775808 ≤ c ∧ c ≤ 9223372036854775807) ∧ (-9223372036854775808 ≤ w ∧ w ≤ 9223372036854775807) ∧ rows.length ≤ 1000000) (hs : st.length = 16) (hd : d ≤ 16) :
  ∃ L, callT E 31 [.ptr 0 0 0 0, .agg [.i (.v (.int .i64 1)), .i (.v (.int .i64 arg))]] [.box (mc row (.sl 3 rows false) c w r st d f)] = some (.i (.v (.bool true)), .box (pushM row (.sl 3 rows false) c w r st d f arg) :: L) := by
 have hp := fun T => ik33 row (.sl 3 rows false) c w r st d f arg hb.1 hs hd T
 have hl := mc_len (row := row) (g := .sl 3 rows false) (c := c) (w := w) (r := r) (d := d) (f := f) hs
 rw [show (if d = 16 then mc row (.sl 3 rows false) c w r st (16 : Nat) true else mc row (.sl 3 rows false) c w r (st.set d (limS arg)) ((d + 1 : Nat)) f) = pushM row (.sl 3 rows false) c w r st d f arg from rfl] at hp
 have hcn := fun B H => pushM_cn (row := row) (g := .sl 3 rows false) (c := c) (w := w) (r := r) (st := st) (d := d) (f := f) (n := arg) B H
 generalize pushM row (.sl 3 rows false) c w r st d f arg = X at *
 rw [callT_eq Tryd.func31 rfl fok31 (by simp [Tryd.ntmps31])]
 simp (disch := first | omega | (simp only [vlen]; omega)) only [vall, reduceCtorEq, ↓reduceIte, zq0, zq1, zq2, zq3, zq4, zq5, zq6, zq7, zq8, zq9, zq10, zq11, zq12, zq13, zq14, zq15, zq16, zq17, en31, bs23, hp, hl, hcn, mc_cn, mc_0, mc_1, mc_2, mc_3]
 exact ⟨_, rfl⟩
theorem c31_2 (row : Int) (rows : List (List IV)) (c w r : Int) (st : List Int) (d : Nat) (f : Bool) (arg : Int) (hb : (-9223372036854775808 ≤ arg ∧ arg ≤ 9223372036854775807) ∧ (-9223372036854775808 ≤ row ∧ row ≤ 9223372036854775807) ∧ (-9223372036854775808 ≤ c ∧ c ≤ 9223372036854775807) ∧ (-9223372036854775808 ≤ w ∧ w ≤ 9223372036854775807) ∧ rows.length ≤ 1000000) (hs : st.length = 16) (hd : d ≤ 16) :
  ∃ L, callT E 31 [.ptr 0 0 0 0, .agg [.i (.v (.int .i64 2)), .i (.v (.int .i64 arg))]] [.box (mc row (.sl 3 rows false) c w r st d f)] = some (.i (.v (.bool true)), .box (pushM row (.sl 3 rows false) c w r st d f row) :: L) := by
 have hp := fun T => ik33 row (.sl 3 rows false) c w r st d f row hb.2.1 hs hd T
 have hl := mc_len (row := row) (g := .sl 3 rows false) (c := c) (w := w) (r := r) (d := d) (f := f) hs
 rw [show (if d = 16 then mc row (.sl 3 rows false) c w r st (16 : Nat) true else mc row (.sl 3 rows false) c w r (st.set d (limS row)) ((d + 1 : Nat)) f) = pushM row (.sl 3 rows false) c w r st d f row from rfl] at hp
 have hcn := fun B H => pushM_cn (row := row) (g := .sl 3 rows false) (c := c) (w := w) (r := r) (st := st) (d := d) (f := f) (n := row) B H
 generalize pushM row (.sl 3 rows false) c w r st d f row = X at *
 rw [callT_eq Tryd.func31 rfl fok31 (by simp [Tryd.ntmps31])]
 simp (disch := first | omega | (simp only [vlen]; omega)) only [vall, reduceCtorEq, ↓reduceIte, zq0, zq1, zq2, zq3, zq4, zq5, zq6, zq7, zq8, zq9, zq10, zq11, zq12, zq13, zq14, zq15, zq16, zq17, en31, bs23, hp, hl, hcn, mc_cn, mc_0, mc_1, mc_2, mc_3]
 exact ⟨_, rfl⟩
theorem c31_3 (row : Int) (rows : List (List IV)) (c w r : Int) (st : List Int) (d : Nat) (f : Bool) (arg : Int) (hb : (-9223372036854775808 ≤ arg ∧ arg ≤ 9223372036854775807) ∧ (-9223372036854775808 ≤ row ∧ row ≤ 9223372036854775807) ∧ (-9223372036854775808 ≤ c ∧ c ≤ 9223372036854775807) ∧ (-9223372036854775808 ≤ w ∧ w ≤ 9223372036854775807) ∧ rows.length ≤ 1000000) (hs : st.length = 16) (hd : d ≤ 16) :
  ∃ L, callT E 31 [.ptr 0 0 0 0, .agg [.i (.v (.int .i64 3)), .i (.v (.int .i64 arg))]] [.box (mc row (.sl 3 rows false) c w r st d f)] = some (.i (.v (.bool true)), .box (pushM row (.sl 3 rows false) c w r st d f rows.length) :: L) := by
 have hp := fun T => ik33 row (.sl 3 rows false) c w r st d f rows.length (by omega) hs hd T
 have hl := mc_len (row := row) (g := .sl 3 rows false) (c := c) (w := w) (r := r) (d := d) (f := f) hs
 rw [show (if d = 16 then mc row (.sl 3 rows false) c w r st (16 : Nat) true else mc row (.sl 3 rows false) c w r (st.set d (limS rows.length)) ((d + 1 : Nat)) f) = pushM row (.sl 3 rows false) c w r st d f rows.length from rfl] at hp
 have hcn := fun B H => pushM_cn (row := row) (g := .sl 3 rows false) (c := c) (w := w) (r := r) (st := st) (d := d) (f := f) (n := rows.length) B H
 generalize pushM row (.sl 3 rows false) c w r st d f rows.length = X at *
 rw [callT_eq Tryd.func31 rfl fok31 (by simp [Tryd.ntmps31])]
 simp (disch := first | omega | (simp only [vlen]; omega)) only [vall, reduceCtorEq, ↓reduceIte, zq0, zq1, zq2, zq3, zq4, zq5, zq6, zq7, zq8, zq9, zq10, zq11, zq12, zq13, zq14, zq15, zq16, zq17, en31, bs23, hp, hl, hcn, mc_cn, mc_0, mc_1, mc_2, mc_3]
 exact ⟨_, rfl⟩
theorem c31_6 (row : Int) (rows : List (List IV)) (c w r : Int) (st : List Int) (d : Nat) (f : Bool) (arg : Int) (hb : (-9223372036854775808 ≤ arg ∧ arg ≤ 9223372036854775807) ∧ (-9223372036854775808 ≤ row ∧ row ≤ 9223372036854775807) ∧ (-9223372036854775808 ≤ c ∧ c ≤ 9223372036854775807) ∧ (-9223372036854775808 ≤ w ∧ w ≤ 9223372036854775807) ∧ rows.length ≤ 1000000) (hs : st.length = 16) (hd : d ≤ 16) :
  ∃ L, callT E 31 [.ptr 0 0 0 0, .agg [.i (.v (.int .i64 6)), .i (.v (.int .i64 arg))]] [.box (mc row (.sl 3 rows false) c w r st d f)] = some (.i (.v (.bool true)), .box (pushM row (.sl 3 rows false) c w r st d f c) :: L) := by
 have hp := fun T => ik33 row (.sl 3 rows false) c w r st d f c hb.2.2.1 hs hd T
 have hl := mc_len (row := row) (g := .sl 3 rows false) (c := c) (w := w) (r := r) (d := d) (f := f) hs
 rw [show (if d = 16 then mc row (.sl 3 rows false) c w r st (16 : Nat) true else mc row (.sl 3 rows false) c w r (st.set d (limS c)) ((d + 1 : Nat)) f) = pushM row (.sl 3 rows false) c w r st d f c from rfl] at hp
 have hcn := fun B H => pushM_cn (row := row) (g := .sl 3 rows false) (c := c) (w := w) (r := r) (st := st) (d := d) (f := f) (n := c) B H
 generalize pushM row (.sl 3 rows false) c w r st d f c = X at *
 rw [callT_eq Tryd.func31 rfl fok31 (by simp [Tryd.ntmps31])]
 simp (disch := first | omega | (simp only [vlen]; omega)) only [vall, reduceCtorEq, ↓reduceIte, zq0, zq1, zq2, zq3, zq4, zq5, zq6, zq7, zq8, zq9, zq10, zq11, zq12, zq13, zq14, zq15, zq16, zq17, en31, bs23, hp, hl, hcn, mc_cn, mc_0, mc_1, mc_2, mc_3]
 exact ⟨_, rfl⟩
theorem c31_7 (row : Int) (rows : List (List IV)) (c w r : Int) (st : List Int) (d : Nat) (f : Bool) (arg : Int) (hb : (-9223372036854775808 ≤ arg ∧ arg ≤ 9223372036854775807) ∧ (-9223372036854775808 ≤ row ∧ row ≤ 9223372036854775807) ∧ (-9223372036854775808 ≤ c ∧ c ≤ 9223372036854775807) ∧ (-9223372036854775808 ≤ w ∧ w ≤ 9223372036854775807) ∧ rows.length ≤ 1000000) (hs : st.length = 16) (hd : d ≤ 16) :
  ∃ L, callT E 31 [.ptr 0 0 0 0, .agg [.i (.v (.int .i64 7)), .i (.v (.int .i64 arg))]] [.box (mc row (.sl 3 rows false) c w r st d f)] = some (.i (.v (.bool true)), .box (pushM row (.sl 3 rows false) c w r st d f w) :: L) := by
 have hp := fun T => ik33 row (.sl 3 rows false) c w r st d f w hb.2.2.2.1 hs hd T
 have hl := mc_len (row := row) (g := .sl 3 rows false) (c := c) (w := w) (r := r) (d := d) (f := f) hs
 rw [show (if d = 16 then mc row (.sl 3 rows false) c w r st (16 : Nat) true else mc row (.sl 3 rows false) c w r (st.set d (limS w)) ((d + 1 : Nat)) f) = pushM row (.sl 3 rows false) c w r st d f w from rfl] at hp
 have hcn := fun B H => pushM_cn (row := row) (g := .sl 3 rows false) (c := c) (w := w) (r := r) (st := st) (d := d) (f := f) (n := w) B H
 generalize pushM row (.sl 3 rows false) c w r st d f w = X at *
 rw [callT_eq Tryd.func31 rfl fok31 (by simp [Tryd.ntmps31])]
 simp (disch := first | omega | (simp only [vlen]; omega)) only [vall, reduceCtorEq, ↓reduceIte, zq0, zq1, zq2, zq3, zq4, zq5, zq6, zq7, zq8, zq9, zq10, zq11, zq12, zq13, zq14, zq15, zq16, zq17, en31, bs23, hp, hl, hcn, mc_cn, mc_0, mc_1, mc_2, mc_3]
 exact ⟨_, rfl⟩
end Go.VI

namespace Go.VI
open Go.Proofs
set_option maxRecDepth 100000
set_option linter.unusedSimpArgs false
set_option linter.unusedVariables false
set_option maxHeartbeats 4000000
theorem c31_0 (X : List AV) (hX : ∀ B H, cnL B H X = X) (op arg : Int) (h : op ≠ 1 ∧ op ≠ 2 ∧ op ≠ 3 ∧ op ≠ 6 ∧ op ≠ 7) :
  ∃ L, callT E 31 [.ptr 0 0 0 0, .agg [.i (.v (.int .i64 op)), .i (.v (.int .i64 arg))]] [.box X] = some (.i (.v (.bool false)), .box X :: L) := by
 obtain ⟨h1, h2, h3, h4, h5⟩ := h
 rw [callT_eq Tryd.func31 rfl fok31 (by simp [Tryd.ntmps31])]
 simp (disch := first | omega | (simp only [vlen]; omega)) only [vall, reduceCtorEq, ↓reduceIte, zq0, zq1, zq2, zq3, zq4, zq5, zq6, zq7, zq8, zq9, zq10, zq11, zq12, zq13, zq14, zq15, zq16, zq17, en31, bs23, h1, h2, h3, h4, h5, hX]
 exact ⟨_, rfl⟩
theorem ik31_0 (X : List AV) (hX : ∀ B H, cnL B H X = X) (hr : refsL X = []) (op arg : Int) (h : op ≠ 1 ∧ op ≠ 2 ∧ op ≠ 3 ∧ op ≠ 6 ∧ op ≠ 7) (T : Hp) :
  isoK E (callT E) 31 [.ptr 0 0 0 0, .agg [.i (.v (.int .i64 op)), .i (.v (.int .i64 arg))]] (.box X :: T) = some (.i (.v (.bool false)), .box X :: T) :=
 isoK_mc rfl rfl rfl hr hr (c31_0 X hX op arg h) T
end Go.VI

namespace Go.VI
open Go.Proofs
set_option maxRecDepth 100000
set_option linter.unusedSimpArgs false
set_option linter.unusedVariables false
set_option maxHeartbeats 4000000
abbrev Gl := List UInt8 × Bool × Int
def rowsG (l : List Gl) : List (List IV) := l.map fun g => [.str g.1, .v (.bool g.2.1), .v (.int .i64 g.2.2)]
theorem rowsG_len (l : List Gl) : (rowsG l).length = l.length := by simp [rowsG]
theorem rowsG_at {l : List Gl} {k : Nat} (h : k < l.length) : (rowsG l)[k]? = some [.str l[k].1, .v (.bool l[k].2.1), .v (.int .i64 l[k].2.2)] := by simp [rowsG, h]
theorem c35_in (l : List Gl) (hl : l.length ≤ 1000000) (X : List AV) (hX : ∀ B H, cnL B H X = X) (h1 : X[1]? = some (.i (.sl 3 (rowsG l) false))) (hx : X.length = 23) (i : Int) (hi : 0 ≤ i ∧ i < l.length) :
  ∃ L, callT E 35 [.ptr 0 0 0 0, .i (.v (.int .i64 i))] [.box X] = some (.tup [.agg [.i (.str (l.getD i.toNat ([], false, 0)).1), .i (.v (.bool (l.getD i.toNat ([], false, 0)).2.1)), .i (.v (.int .i64 (l.getD i.toNat ([], false, 0)).2.2))], .i (.v (.bool true))], .box X :: L) := by
 have hlt : i.toNat < l.length := by omega
 have hrow := rowsG_at hlt
 rw [show l.getD i.toNat ([], false, 0) = l[i.toNat] from by rw [List.getD_eq_getElem?_getD, List.getElem?_eq_getElem hlt]; rfl]
 generalize l[i.toNat] = gl at *
 rw [callT_eq Tryd.func35 rfl fok35 (by simp [Tryd.ntmps35])]
 simp (disch := first | omega | (simp only [vlen, rowsG_len]; omega)) only [vall, reduceCtorEq, ↓reduceIte, zq0, zq1, zq2, zq3, zq4, zq5, zq6, zq7, zq8, zq9, zq10, zq11, zq12, zq13, zq14, zq15, zq16, zq17, en35, bs23, h1, hx, hX, hrow, rowsG_len]
 exact ⟨_, rfl⟩
theorem c35_out (l : List Gl) (hl : l.length ≤ 1000000) (X : List AV) (hX : ∀ B H, cnL B H X = X) (h1 : X[1]? = some (.i (.sl 3 (rowsG l) false))) (hx : X.length = 23) (i : Int) (hi : i < 0 ∨ (l.length : Int) ≤ i) :
  ∃ L, callT E 35 [.ptr 0 0 0 0, .i (.v (.int .i64 i))] [.box X] = some (.tup [.agg [.i (.str []), .i (.v (.bool false)), .i (.v (.int .i64 0))], .i (.v (.bool false))], .box X :: L) := by
 by_cases h0 : i < 0
 ·rw [callT_eq Tryd.func35 rfl fok35 (by simp [Tryd.ntmps35])]
  simp (disch := first | omega | (simp only [vlen, rowsG_len]; omega)) only [vall, reduceCtorEq, ↓reduceIte, zq0, zq1, zq2, zq3, zq4, zq5, zq6, zq7, zq8, zq9, zq10, zq11, zq12, zq13, zq14, zq15, zq16, zq17, en35, bs23, h0, h1, hx, hX, rowsG_len]
  exact ⟨_, rfl⟩
 ·rw [callT_eq Tryd.func35 rfl fok35 (by simp [Tryd.ntmps35])]
  simp (disch := first | omega | (simp only [vlen, rowsG_len]; omega)) only [vall, reduceCtorEq, ↓reduceIte, zq0, zq1, zq2, zq3, zq4, zq5, zq6, zq7, zq8, zq9, zq10, zq11, zq12, zq13, zq14, zq15, zq16, zq17, en35, bs23, h0, h1, hx, hX, rowsG_len]
  exact ⟨_, rfl⟩
end Go.VI

namespace Go.VI
open Go.Proofs
set_option maxRecDepth 100000
set_option linter.unusedSimpArgs false
set_option linter.unusedVariables false
set_option maxHeartbeats 4000000
structure Sq where
 (v mi lo hi : Int)
def sqC (s : Sq) : List AV := [.i (.v (.int .i32 s.v)), .i (.v (.int .i64 s.mi)), .i (.v (.int .u8 s.lo)), .i (.v (.int .u8 s.hi))]
theorem sqC_one (s : Sq) : (sqC s).all one = true := rfl
theorem sqC_len (s : Sq) : (sqC s).length = 4 := rfl
theorem sqC_refs (s : Sq) : refsL (sqC s) = [] := rfl
theorem sqC_ren (ρ : Nat → Option Nat) (s : Sq) : renL ρ (sqC s) = sqC s := rfl
def beginS (b : Int) : Sq :=
 let lo : Int := if b = 224 then 160 else if b = 240 then 144 else 128
 let hi : Int := if b = 237 then 159 else if b = 244 then 143 else 191
 if 194 ≤ b ∧ b ≤ 223 then ⟨b - 192, 1, lo, hi⟩ else if 224 ≤ b ∧ b ≤ 239 then ⟨b - 224, 2, lo, hi⟩ else if 240 ≤ b ∧ b ≤ 244 then ⟨b - 240, 3, lo, hi⟩ else ⟨0, 0, lo, hi⟩
theorem c63_all : ((List.range 256).all fun b => match call E 60 63 [.i (.v (.int .u8 b))] [] with
  | some (.agg [.i (.v (.int .i32 v)), .i (.v (.int .i64 m)), .i (.v (.int .u8 l)), .i (.v (.int .u8 h))], _) => v == (beginS b).v && m == (beginS b).mi && l == (beginS b).lo && h == (beginS b).hi
  | _ => false) = true := by kernel_rfl
theorem c63 (b : Int) (h0 : 0 ≤ b) (h1 : b ≤ 255) : ∃ L, callT E 63 [.i (.v (.int .u8 b))] [] = some (.agg (sqC (beginS b)), L) := by
 obtain ⟨n, rfl⟩ := Int.eq_ofNat_of_zero_le h0
 have := (List.all_eq_true.1 c63_all) n (by simp; omega)
 split at this
 ·rename_i v m l h L hL
  simp only [Bool.and_eq_true, beq_iff_eq] at this
  obtain ⟨⟨⟨rfl, rfl⟩, rfl⟩, rfl⟩ := this
  exact ⟨L, callT_of hL⟩
 ·cases this
theorem ik63 (b : Int) (H : Hp) (h0 : 0 ≤ b) (h1 : b ≤ 255) : isoK E (callT E) 63 [.i (.v (.int .u8 b))] H = some (.agg (sqC (beginS b)), H) := isoK_val rfl rfl rfl (c63 b h0 h1)
end Go.VI

namespace Go.VI
open Go.Proofs
set_option maxRecDepth 100000
set_option linter.unusedSimpArgs false
set_option linter.unusedVariables false
set_option maxHeartbeats 4000000
theorem pw6 : (2 : Int) ^ min 6 IntKind.i32.bits = 64 := by decide
theorem and63_all : ∀ n : Nat, n < 256 → bitsE .and .u8 (n : Int) 63 = some ((n : Int) % 64) := by decide +kernel
theorem and63 {b : Int} (h0 : 0 ≤ b) (h1 : b ≤ 255) : bitsE .and .u8 b 63 = some (b % 64) := by
 obtain ⟨n, rfl⟩ := Int.eq_ofNat_of_zero_le h0
 exact and63_all n (by omega)
theorem or64 {v c : Int} (h0 : 0 ≤ v) (h1 : v < 1048576) (h2 : 0 ≤ c) (h3 : c < 64) : bitsE .or .i32 (v * 64) c = some (v * 64 + c) := by
 obtain ⟨n, rfl⟩ := Int.eq_ofNat_of_zero_le h0
 obtain ⟨m, rfl⟩ := Int.eq_ofNat_of_zero_le h2
 have e1 : BitVec.ofInt 32 ((n : Int) * 64) = BitVec.ofNat 32 (n * 64) := by
  rw [show (n : Int) * 64 = ((n * 64 : Nat) : Int) by omega]; rfl
 have e2 : BitVec.ofInt 32 (m : Int) = BitVec.ofNat 32 m := rfl
 have e3 : n * 64 ||| m = n * 64 + m := by
  have := Nat.shiftLeft_add_eq_or_of_lt (i := 6) (b := m) (by omega) n
  rw [Nat.shiftLeft_eq, show (2 : Nat) ^ 6 = 64 from rfl] at this
  exact this.symm
 show some (IntKind.i32.wrap ((BitVec.ofInt 32 ((n : Int) * 64) ||| BitVec.ofInt 32 (m : Int)).toNat : Nat)) = _
 rw [e1, e2, BitVec.toNat_or, BitVec.toNat_ofNat, BitVec.toNat_ofNat, Nat.mod_eq_of_lt (by omega), Nat.mod_eq_of_lt (by omega), e3, w_i32 (by omega) (by omega)]
 congr 1
structure Dec where
 (s : Sq) (out : List Int) (st : Int)
def SqOK (s : Sq) : Prop := s.mi = 0 ∨ (128 ≤ s.lo ∧ s.hi ≤ 191 ∧ 0 ≤ s.v ∧ (s.mi = 1 ∧ s.v < 32768 ∨ s.mi = 2 ∧ s.v < 512 ∨ s.mi = 3 ∧ s.v < 8))
def stepD (d : Dec) (i b : Int) : Dec :=
 if 0 < d.s.mi ∧ d.s.lo ≤ b ∧ b ≤ d.s.hi then
  ⟨⟨d.s.v * 64 + b % 64, d.s.mi - 1, 128, 191⟩, if d.s.mi - 1 = 0 then d.out ++ [d.s.v * 64 + b % 64] else d.out, d.st⟩
 else
  let o := if 0 < d.s.mi then d.out ++ [65533] else d.out
  ⟨beginS b, if b < 128 then o ++ [b] else if (beginS b).mi = 0 then o ++ [65533] else o, i⟩
def runD : List UInt8 → Nat → Dec → Dec
 | [], _, d => d
 | b :: r, i, d => runD r (i + 1) (stepD d i b.toNat)
theorem beginS_all : ∀ n : Nat, n < 256 → ((beginS n).mi = 0 ∨ (128 ≤ (beginS n).lo ∧ (beginS n).hi ≤ 191 ∧ 0 ≤ (beginS n).v ∧ ((beginS n).mi = 1 ∧ (beginS n).v < 32768 ∨ (beginS n).mi = 2 ∧ (beginS n).v < 512 ∨ (beginS n).mi = 3 ∧ (beginS n).v < 8))) := by decide +kernel
theorem beginS_ok (b : Int) (h0 : 0 ≤ b) (h1 : b ≤ 255) : SqOK (beginS b) := by
 obtain ⟨n, rfl⟩ := Int.eq_ofNat_of_zero_le h0
 exact beginS_all n (by omega)
theorem stepD_ok {d : Dec} (h : SqOK d.s) (i b : Int) (h0 : 0 ≤ b) (h1 : b ≤ 255) : SqOK (stepD d i b).s := by
 unfold stepD
 split
 ·rename_i hc
  obtain ⟨c1, c2, c3⟩ := hc
  unfold SqOK at h ⊢
  simp only
  omega
 ·exact beginS_ok b h0 h1
def rows32 (l : List Int) : List (List IV) := l.map fun n => [.v (.int .i32 n)]
theorem rows32_len (l : List Int) : (rows32 l).length = l.length := by simp [rows32]
theorem rows32_snoc (l : List Int) (n : Int) : rows32 l ++ [[.v (.int .i32 n)]] = rows32 (l ++ [n]) := by simp [rows32]
theorem stepD_len (d : Dec) (i b : Int) : (stepD d i b).out.length ≤ d.out.length + 2 := by
 unfold stepD; simp only; repeat' split
 all_goals (simp; try omega)
theorem sqC_cn (B : Nat) (H : Hp) (s : Sq) : cnL B H (sqC s) = sqC s := by simp [sqC, cnL, cnA]
theorem sqC_0 (s : Sq) : (sqC s)[0]? = some (.i (.v (.int .i32 s.v))) := rfl
theorem sqC_1 (s : Sq) : (sqC s)[1]? = some (.i (.v (.int .i64 s.mi))) := rfl
theorem sqC_2 (s : Sq) : (sqC s)[2]? = some (.i (.v (.int .u8 s.lo))) := rfl
theorem sqC_3 (s : Sq) : (sqC s)[3]? = some (.i (.v (.int .u8 s.hi))) := rfl
theorem sqC_drop (s : Sq) : (sqC s).drop 4 = [] := rfl
theorem sqC_take (s : Sq) : (sqC s).take 4 = sqC s := rfl
theorem byte_at {t : List UInt8} {k : Nat} (h : k < t.length) : t[k]? = some t[k] := by simp [h]
set_option linter.defProp false in
def lp52_6 := show ∀ B fr H, execT E B 52 (Code.loop _) fr H = rlM E B 52 (loopAt Tryd.f52 0) [6, 7, 8, 9, 16, 17] [] (matF [(7, 1)] fr H).1 (matB [] (matF [(7, 1)] fr H).1 (matF [(7, 1)] fr H).2) from fun B fr H => rl_introM rfl mt52_6 mb52_6 zf52_6 hd52_6 fr H
theorem l52 (t : List UInt8) (ht : t.length < 100000) (k : Nat) (hk : k ≤ t.length) (d : Dec) (hs : SqOK d.s) (hl : d.out.length ≤ 2 * k) :
  rl E 0 52 (loopAt Tryd.f52 0) [(6, .i (.str t)), (7, .ref 0 0 0 d.out.length), (8, .ptr 1 0 0 0), (9, .i (.v (.int .i64 d.st))), (16, .i (.v (.int .i64 t.length))), (17, .i (.v (.int .i64 k)))] [.sl 1 0 (rows32 d.out) false, .box (sqC d.s)] =
   some (.exit 0, [(6, .i (.str t)), (7, .ref 0 0 0 (runD (t.drop k) k d).out.length), (8, .ptr 1 0 0 0), (9, .i (.v (.int .i64 (runD (t.drop k) k d).st))), (16, .i (.v (.int .i64 t.length))), (17, .i (.v (.int .i64 t.length))), (18, .i (.v (.bool false)))], [.sl 1 0 (rows32 (runD (t.drop k) k d).out) false, .box (sqC (runD (t.drop k) k d).s)]) := by
 rw [rl_step (fn := Tryd.f52) (k := 0) rfl]
 by_cases hlt : k < t.length
 ·have hb := byte_at hlt
  have b1 := t[k].toNat_lt
  rw [List.drop_eq_getElem_cons hlt, runD]
  have ih := l52 t ht (k + 1) hlt (stepD d k t[k].toNat) (stepD_ok hs _ _ (by omega) (by omega)) (by have := stepD_len d k t[k].toNat; omega)
  unfold SqOK at hs
  generalize t[k] = b at *
  rw [← ih]
  clear ih
  (try simp (disch := first | omega | (simp only [vlen, rows32_len]; omega)) only [vall, reduceCtorEq, ↓reduceIte, zq0, zq1, zq2, zq3, zq4, zq5, zq6, zq7, zq8, zq9, zq10, zq11, zq12, zq13, zq14, zq15, zq16, zq17, en52, bs110, hb, sqC_drop, sqC_take, sqC_0, sqC_1, sqC_2, sqC_3, ik63, pw6, and63, or64, sqC_one, sqC_len, sqC_refs, sqC_ren, sqC_cn, rows32_len, rows32_snoc, lp52_6]) <;> repeat' ((first | rw [condK_ndec] | rw [condK_dec] | rw [condK_b] | rw [guK_ndec] | rw [guK_dec] | rw [guK_b] | rw [guT_ndec] | rw [guT_dec] | rw [guT_b] | rw [guD_dec] | rw [guD_b]) <;> split <;> (try subst_vars) <;> (try simp (disch := first | omega | (simp only [vlen, rows32_len]; omega)) only [vall, reduceCtorEq, ↓reduceIte, zq0, zq1, zq2, zq3, zq4, zq5, zq6, zq7, zq8, zq9, zq10, zq11, zq12, zq13, zq14, zq15, zq16, zq17, en52, bs110, hb, sqC_drop, sqC_take, sqC_0, sqC_1, sqC_2, sqC_3, ik63, pw6, and63, or64, sqC_one, sqC_len, sqC_refs, sqC_ren, sqC_cn, rows32_len, rows32_snoc, lp52_6]))
  all_goals generalize hX : stepD d k b.toNat = X
  all_goals unfold stepD at hX
  all_goals simp only at hX
  all_goals (repeat' split at hX)
  all_goals first | (exfalso; omega) | (subst hX; (try simp only [List.length_append, List.length_cons, List.length_nil, Nat.zero_add, Nat.reduceAdd, Nat.add_assoc, rows32_snoc]) <;> rfl) | trace_state
 ·obtain rfl : k = t.length := by omega
  rw [List.drop_length, runD]
  simp (disch := first | omega | (simp only [vlen]; omega)) only [vall, reduceCtorEq, ↓reduceIte, zq0, zq1, zq2, zq3, zq4, zq5, zq6, zq7, zq8, zq9, zq10, zq11, zq12, zq13, zq14, zq15, zq16, zq17, en52, bs110]
termination_by t.length - k
end Go.VI

namespace Go.VI
open Go.Proofs
set_option maxRecDepth 100000
set_option linter.unusedSimpArgs false
set_option linter.unusedVariables false
set_option maxHeartbeats 4000000
theorem stepD_st {d : Dec} {i b : Int} : (stepD d i b).st = d.st ∨ (stepD d i b).st = i := by
 unfold stepD; simp only; split
 ·exact .inl rfl
 ·exact .inr rfl
theorem runD_st : ∀ (l : List UInt8) (i : Nat) (d : Dec), 0 ≤ d.st → d.st ≤ i → 0 ≤ (runD l i d).st ∧ (runD l i d).st ≤ i + l.length
 | [], i, d, h0, h1 => by simp only [runD, List.length_nil]; omega
 | b :: l, i, d, h0, h1 => by
  have hs := stepD_st (d := d) (i := i) (b := b.toNat)
  have ih := runD_st l (i + 1) (stepD d i b.toNat) (by omega) (by omega)
  simp only [runD, List.length_cons]
  omega
def sq0 : Sq := ⟨0, 0, 0, 0⟩
def decD (t : List UInt8) : Dec := runD t 0 ⟨sq0, [], 0⟩
def decOut (t : List UInt8) : List Int := (decD t).out
def decRest (t : List UInt8) : List UInt8 := if (decD t).s.mi = 0 then [] else t.drop (decD t).st.toNat
theorem l52_0 (t : List UInt8) (ht : (t.length : Int) < 100000) :
  rl E 0 52 (loopAt Tryd.f52 0) [(6, .i (.str t)), (7, .ref 0 0 0 0), (8, .ptr 1 0 0 0), (9, .i (.v (.int .i64 0))), (16, .i (.v (.int .i64 t.length))), (17, .i (.v (.int .i64 0)))] [.sl 1 0 [] false, .box [.i (.v (.int .i32 0)), .i (.v (.int .i64 0)), .i (.v (.int .u8 0)), .i (.v (.int .u8 0))]] =
   some (.exit 0, [(6, .i (.str t)), (7, .ref 0 0 0 (decD t).out.length), (8, .ptr 1 0 0 0), (9, .i (.v (.int .i64 (decD t).st))), (16, .i (.v (.int .i64 t.length))), (17, .i (.v (.int .i64 t.length))), (18, .i (.v (.bool false)))], [.sl 1 0 (rows32 (decD t).out) false, .box (sqC (decD t).s)]) :=
 l52 t (by omega) 0 (by omega) ⟨sq0, [], 0⟩ (.inl rfl) (Nat.zero_le _)
theorem isoK_new2 {E : Env} {cl : CallF} {H : Hp} {g : Nat} {ar : List AV} {c gg o n : Nat} {y : IV} {x : Chunk} (he : E.ext g = none) (hr : refsL ar = []) (hx : x.refs = []) (hc : ∃ L, cl g ar [] = some (.tup [.ref c gg o n, .i y], L) ∧ L[c]? = some x) :
  isoK E cl g ar H = some (.tup [.ref H.length gg o n, .i y], H ++ [x]) := by
 obtain ⟨L, hc, hL⟩ := hc
 have h1 := (refs_ren (posIn [])).2 ar hr
 have hxr : ∀ ρ, x.ren ρ = x := by
  intro ρ
  cases x with
  | box cells => exact congrArg Chunk.box ((refs_ren ρ).2 cells hx)
  | tb t cells => exact congrArg (Chunk.tb t) ((refs_ren ρ).2 cells hx)
  | _ => rfl
 have hR := reach_one hL hx
 unfold isoK
 rw [hr]
 simp only [exCl, he, reach, h1, List.map_nil, hc, List.length_nil, Nat.not_lt_zero, if_false, List.take_zero, List.flatMap_nil, List.append_nil, refsA, refsL, List.cons_append, List.nil_append, hR]
 simp [renA, renL, backRen, posIn, hL, hxr, setAll]
theorem c52 (p c : List UInt8) (ht : (p.length : Int) + c.length < 100000) : ∃ cc L, callT E 52 [.i (.str p), .i (.str c)] [] = some (.tup [.ref cc 0 0 (decOut (p ++ c)).length, .i (.str (decRest (p ++ c)))], L) ∧ L[cc]? = some (.sl 1 0 (rows32 (decOut (p ++ c))) false) := by
 have hlen : ((p ++ c).length : Int) < 100000 := by simp; omega
 have h := l52_0 (p ++ c) hlen
 obtain ⟨b1, b2⟩ := runD_st (p ++ c) 0 ⟨sq0, [], 0⟩ (Int.le_refl _) (Int.le_refl _)
 rw [show runD (p ++ c) 0 ⟨sq0, [], 0⟩ = decD (p ++ c) from rfl] at b1 b2
 unfold decOut decRest
 rw [callT_eq Tryd.func52 rfl fok52 (by simp [Tryd.ntmps52])]
 generalize hX : decD (p ++ c) = X at *
 simp only [List.length_append] at h b2 ⊢
 have hr := rows32_len X.out
 (try simp (disch := first | omega | (simp only [vlen, rows32_len]; omega)) only [vall, reduceCtorEq, ↓reduceIte, zq0, zq1, zq2, zq3, zq4, zq5, zq6, zq7, zq8, zq9, zq10, zq11, zq12, zq13, zq14, zq15, zq16, zq17, en52, bs110, h, sqC_drop, sqC_take, sqC_0, sqC_1, sqC_2, sqC_3, sqC_one, sqC_len, sqC_refs, sqC_ren, sqC_cn, lp52_6]) <;> repeat' ((first | rw [condK_ndec] | rw [condK_dec] | rw [condK_b] | rw [guK_ndec] | rw [guK_dec] | rw [guK_b] | rw [guT_ndec] | rw [guT_dec] | rw [guT_b] | rw [guD_dec] | rw [guD_b]) <;> split <;> (try subst_vars) <;> (try simp (disch := first | omega | (simp only [vlen, rows32_len]; omega)) only [vall, reduceCtorEq, ↓reduceIte, zq0, zq1, zq2, zq3, zq4, zq5, zq6, zq7, zq8, zq9, zq10, zq11, zq12, zq13, zq14, zq15, zq16, zq17, en52, bs110, h, sqC_drop, sqC_take, sqC_0, sqC_1, sqC_2, sqC_3, sqC_one, sqC_len, sqC_refs, sqC_ren, sqC_cn, lp52_6]))
 all_goals exact ⟨_, _, rfl, rfl⟩
theorem ik52 (p c : List UInt8) (ht : (p.length : Int) + c.length < 100000) (H : Hp) : isoK E (callT E) 52 [.i (.str p), .i (.str c)] H = some (.tup [.ref H.length 0 0 (decOut (p ++ c)).length, .i (.str (decRest (p ++ c)))], H ++ [.sl 1 0 (rows32 (decOut (p ++ c))) false]) := by
 obtain ⟨cc, L, h1, h2⟩ := c52 p c ht
 exact isoK_new2 rfl rfl rfl ⟨L, h1, h2⟩
end Go.VI

namespace Go.VI
open Go.Proofs
set_option maxRecDepth 100000
set_option linter.unusedSimpArgs false
set_option linter.unusedVariables false
set_option maxHeartbeats 4000000
def sizeB (a : Int) : Int := if 194 ≤ a ∧ a ≤ 223 then 2 else if 224 ≤ a ∧ a ≤ 239 then 3 else if 240 ≤ a ∧ a ≤ 244 then 4 else 0
def lowB (a : Int) (n : Nat) : Int := if n = 1 then (if a = 224 then 160 else if a = 240 then 144 else 128) else 128
def highB (a : Int) (n : Nat) : Int := if n = 1 then (if a = 237 then 159 else if a = 244 then 143 else 191) else 191
def headV (a : Int) (n : Nat) : Int := if n = 2 then a - 192 else if n = 3 then a - 224 else if n = 4 then a - 240 else 0
def valV (l : List Int) (v : Int) : Int := l.foldl (fun v b => v * 64 + b - 128) v
end Go.VI

namespace Go.VI
open Go.Proofs
set_option maxRecDepth 100000
set_option linter.unusedSimpArgs false
set_option linter.unusedVariables false
set_option maxHeartbeats 4000000
inductive RelK : List Int → Sq → Prop
 | none (s : Sq) (h : s.mi = 0) : RelK [] s
 | some (a : Int) (l : List Int) (s : Sq) (h1 : 0 ≤ a ∧ a ≤ 255) (h2 : (l.length : Int) + 1 < sizeB a) (h3 : ∀ b ∈ l, 128 ≤ b ∧ b ≤ 191) (hm : s.mi = sizeB a - (l.length + 1)) (hv : s.v = valV l (headV a (sizeB a).toNat))
   (hlo : s.lo = lowB a (l.length + 1)) (hhi : s.hi = highB a (l.length + 1)) : RelK (a :: l) s
end Go.VI

namespace Go.VI
open Go.Proofs
set_option maxRecDepth 100000
set_option linter.unusedSimpArgs false
set_option linter.unusedVariables false
set_option maxHeartbeats 4000000
theorem decOut_lenM (t : List UInt8) : (decOut t).length ≤ 2 * t.length := by
 have key : ∀ (l : List UInt8) (i : Nat) (d : Dec), (runD l i d).out.length ≤ d.out.length + 2 * l.length := by
  intro l
  induction l with
  | nil => intro i d; simp [runD]
  | cons b l ih =>
   intro i d
   have h1 := ih (i + 1) (stepD d i b.toNat)
   have h2 := stepD_len d i b.toNat
   simp only [runD, List.length_cons]; omega
 have := key t 0 ⟨sq0, [], 0⟩
 simpa [decOut, decD] using this
theorem decRest_lenM (t : List UInt8) : (decRest t).length ≤ t.length := by
 unfold decRest; split
 ·exact Nat.zero_le _
 ·simp
theorem stepD_rune {d : Dec} (h : SqOK d.s) (hr : ∀ c ∈ d.out, 0 ≤ c ∧ c ≤ 2147483647) (i b : Int) (h0 : 0 ≤ b) (h1 : b ≤ 255) : ∀ c ∈ (stepD d i b).out, 0 ≤ c ∧ c ≤ 2147483647 := by
 have ha : ∀ (l : List Int) (x : Int), (∀ c ∈ l, 0 ≤ c ∧ c ≤ 2147483647) → 0 ≤ x → x ≤ 2147483647 → ∀ c ∈ l ++ [x], 0 ≤ c ∧ c ≤ 2147483647 := by
  intro l x hl hx hx2 c hc
  rcases List.mem_append.1 hc with h | h
  ·exact hl c h
  ·rw [List.mem_singleton.1 h]; exact ⟨hx, hx2⟩
 unfold stepD
 split
 ·rename_i hc
  simp only
  split
  ·have : 0 ≤ d.s.v ∧ d.s.v < 32768 := by unfold SqOK at h; omega
   exact ha _ _ hr (by omega) (by omega)
  ·exact hr
 ·have ho : ∀ c ∈ (if 0 < d.s.mi then d.out ++ [65533] else d.out), 0 ≤ c ∧ c ≤ 2147483647 := by
   split
   ·exact ha _ _ hr (by omega) (by omega)
   ·exact hr
  simp only
  generalize (if 0 < d.s.mi then d.out ++ [65533] else d.out) = o at ho ⊢
  split
  ·exact ha _ _ ho h0 (by omega)
  ·split
   ·exact ha _ _ ho (by omega) (by omega)
   ·exact ho
theorem runD_rune : ∀ (l : List UInt8) (i : Nat) (d : Dec), SqOK d.s → (∀ c ∈ d.out, 0 ≤ c ∧ c ≤ 2147483647) → ∀ c ∈ (runD l i d).out, 0 ≤ c ∧ c ≤ 2147483647
 | [], i, d, h, hr => hr
 | b :: l, i, d, h, hr => by
  have hb : ((b.toNat : Nat) : Int) ≤ 255 := by have := b.toNat_lt; omega
  exact runD_rune l (i + 1) _ (stepD_ok h _ _ (by omega) hb) (stepD_rune h hr _ _ (by omega) hb)
theorem decOut_rune (t : List UInt8) : ∀ c ∈ decOut t, 0 ≤ c ∧ c ≤ 2147483647 := runD_rune t 0 ⟨sq0, [], 0⟩ (.inl rfl) (by simp)
def finS (t : List UInt8) : List Int := decOut t ++ if decRest t = [] then [] else [65533]
theorem finS_len (t : List UInt8) : (finS t).length ≤ 2 * t.length + 1 := by
 have := decOut_lenM t
 unfold finS; rw [List.length_append]; split <;> simp <;> omega
theorem c53 (t : List UInt8) (ht : (t.length : Int) < 50000) : ∃ L, callT E 53 [.i (.str t)] [] = some (.i (.sl 1 (rows32 (finS t)) false), L) := by
 have hd := fun H => ik52 [] t (by simp; omega) H
 rw [List.nil_append] at hd
 have hl := decOut_lenM t
 have hr := rows32_len (decOut t)
 have htk : List.take (decOut t).length (rows32 (decOut t)) = rows32 (decOut t) := List.take_of_length_le (by omega)
 unfold finS
 by_cases h0 : decRest t = []
 ·rw [if_pos h0, List.append_nil]
  rw [callT_eq Tryd.func53 rfl fok53 (by simp [Tryd.ntmps53])]
  simp (disch := first | omega | (simp only [vlen, rows32_len]; omega)) only [vall, reduceCtorEq, ↓reduceIte, zq0, zq1, zq2, zq3, zq4, zq5, zq6, zq7, zq8, zq9, zq10, zq11, zq12, zq13, zq14, zq15, zq16, zq17, en53, bs110, hd, h0, hr, htk]
  exact ⟨_, rfl⟩
 ·rw [if_neg h0]
  have hsn := rows32_snoc (decOut t) 65533
  have h0' : (decRest t == []) = false := by simp [h0]
  have hr2 := rows32_len (decOut t ++ [65533])
  have htk2 : List.take ((decOut t).length + 1) (rows32 (decOut t ++ [65533])) = rows32 (decOut t ++ [65533]) := List.take_of_length_le (by rw [hr2, List.length_append]; exact Nat.le_refl _)
  rw [callT_eq Tryd.func53 rfl fok53 (by simp [Tryd.ntmps53])]
  simp (disch := first | omega | (simp only [vlen, rows32_len]; omega)) only [vall, reduceCtorEq, ↓reduceIte, zq0, zq1, zq2, zq3, zq4, zq5, zq6, zq7, zq8, zq9, zq10, zq11, zq12, zq13, zq14, zq15, zq16, zq17, en53, bs110, hd, h0, h0', hr, hr2, htk, htk2, hsn]
  exact ⟨_, rfl⟩
theorem ik53 (t : List UInt8) (ht : (t.length : Int) < 50000) (H : Hp) : isoK E (callT E) 53 [.i (.str t)] H = some (.i (.sl 1 (rows32 (finS t)) false), H) := isoK_val rfl rfl rfl (c53 t ht)
theorem rows32_app (a b : List Int) : rows32 a ++ rows32 b = rows32 (a ++ b) := by simp [rows32]
theorem rows32_0 (a : Int) (l : List Int) : (rows32 (a :: l))[0]? = some [.v (.int .i32 a)] := rfl
def firstL (t : List UInt8) : List Int := decOut t ++ finS (decRest t)
def firstS (t : List UInt8) : Int := (firstL t).getD 0 0
theorem firstL_b (t : List UInt8) : ∀ c ∈ firstL t, 0 ≤ c ∧ c ≤ 2147483647 := by
 intro c hc
 unfold firstL finS at hc
 simp only [List.mem_append] at hc
 rcases hc with h | h | h
 ·exact decOut_rune _ c h
 ·exact decOut_rune _ c h
 ·split at h
  ·cases h
  ·rw [List.mem_singleton.1 h]; decide
theorem firstS_b (t : List UInt8) : 0 ≤ firstS t ∧ firstS t ≤ 2147483647 := by
 unfold firstS
 rw [List.getD_eq_getElem?_getD]
 cases e : (firstL t)[0]? with
 | none => decide
 | some x => exact firstL_b t x (List.mem_of_getElem? e)
def codeG (g : Gl) : Int := if g.2.2 = 3 then 42 else firstS g.1
def charS (l : List Gl) (i : Int) : Int := if i < 0 ∨ (l.length : Int) ≤ i then 0 else codeG (l.getD i.toNat ([], false, 0))
def styleV (l : List Gl) (i : Int) : Int := if i < 0 ∨ (l.length : Int) ≤ i then 0 else (l.getD i.toNat ([], false, 0)).2.2
def okG (l : List Gl) : Prop := l.length ≤ 140 ∧ ∀ g ∈ l, g.1.length ≤ 40 ∧ -9223372036854775808 ≤ g.2.2 ∧ g.2.2 ≤ 9223372036854775807
theorem codeG_b (g : Gl) : 0 ≤ codeG g ∧ codeG g ≤ 2147483647 := by
 unfold codeG; split
 ·decide
 ·exact firstS_b _
theorem charS_b (l : List Gl) (i : Int) : -9223372036854775808 ≤ charS l i ∧ charS l i ≤ 9223372036854775807 := by
 unfold charS; split
 ·decide
 ·have := codeG_b (l.getD i.toNat ([], false, 0)); omega
theorem okG_at {l : List Gl} (h : okG l) (k : Nat) : (l.getD k ([], false, 0)).1.length ≤ 40 ∧ -9223372036854775808 ≤ (l.getD k ([], false, 0)).2.2 ∧ (l.getD k ([], false, 0)).2.2 ≤ 9223372036854775807 := by
 rw [List.getD_eq_getElem?_getD]
 cases e : l[k]? with
 | none => exact ⟨by decide, by decide, by decide⟩
 | some x => exact h.2 x (List.mem_of_getElem? e)
theorem ik35_in (l : List Gl) (hl : l.length ≤ 1000000) (X : List AV) (hX : ∀ B H, cnL B H X = X) (h1 : X[1]? = some (.i (.sl 3 (rowsG l) false))) (hx : X.length = 23) (hr : refsL X = []) (i : Int) (hi : 0 ≤ i ∧ i < l.length) (T : Hp) :
  isoK E (callT E) 35 [.ptr 0 0 0 0, .i (.v (.int .i64 i))] (.box X :: T) = some (.tup [.agg [.i (.str (l.getD i.toNat ([], false, 0)).1), .i (.v (.bool (l.getD i.toNat ([], false, 0)).2.1)), .i (.v (.int .i64 (l.getD i.toNat ([], false, 0)).2.2))], .i (.v (.bool true))], .box X :: T) :=
 isoK_mc rfl rfl rfl hr hr (c35_in l hl X hX h1 hx i hi) T
theorem ik35_out (l : List Gl) (hl : l.length ≤ 1000000) (X : List AV) (hX : ∀ B H, cnL B H X = X) (h1 : X[1]? = some (.i (.sl 3 (rowsG l) false))) (hx : X.length = 23) (hr : refsL X = []) (i : Int) (hi : i < 0 ∨ (l.length : Int) ≤ i) (T : Hp) :
  isoK E (callT E) 35 [.ptr 0 0 0 0, .i (.v (.int .i64 i))] (.box X :: T) = some (.tup [.agg [.i (.str []), .i (.v (.bool false)), .i (.v (.int .i64 0))], .i (.v (.bool false))], .box X :: T) :=
 isoK_mc rfl rfl rfl hr hr (c35_out l hl X hX h1 hx i hi) T
theorem c34 (l : List Gl) (hg : okG l) (X : List AV) (hX : ∀ B H, cnL B H X = X) (h1 : X[1]? = some (.i (.sl 3 (rowsG l) false))) (hx : X.length = 23) (hr : refsL X = []) (i : Int) :
  ∃ L, callT E 34 [.ptr 0 0 0 0, .i (.v (.int .i64 i))] [.box X] = some (.i (.v (.int .i64 (charS l i))), .box X :: L) := by
 unfold charS
 by_cases hi : i < 0 ∨ (l.length : Int) ≤ i
 ·have hgl := fun T => ik35_out l (by have := hg.1; omega) X hX h1 hx hr i hi T
  rw [if_pos hi]
  rw [callT_eq Tryd.func34 rfl fok34 (by simp [Tryd.ntmps34])]
  simp (disch := first | omega | (simp only [vlen]; omega)) only [vall, reduceCtorEq, ↓reduceIte, zq0, zq1, zq2, zq3, zq4, zq5, zq6, zq7, zq8, zq9, zq10, zq11, zq12, zq13, zq14, zq15, zq16, zq17, en34, bs110, hgl, hX]
  exact ⟨_, rfl⟩
 ·have hgl := fun T => ik35_in l (by have := hg.1; omega) X hX h1 hx hr i (by omega) T
  rw [if_neg hi]
  have hb := okG_at hg i.toNat
  generalize l.getD i.toNat ([], false, 0) = g at *
  obtain ⟨t, cc, s⟩ := g
  simp only at hgl hb
  unfold codeG
  simp only
  by_cases hs : s = 3
  ·rw [if_pos hs]
   subst hs
   rw [callT_eq Tryd.func34 rfl fok34 (by simp [Tryd.ntmps34])]
   simp (disch := first | omega | (simp only [vlen]; omega)) only [vall, reduceCtorEq, ↓reduceIte, zq0, zq1, zq2, zq3, zq4, zq5, zq6, zq7, zq8, zq9, zq10, zq11, zq12, zq13, zq14, zq15, zq16, zq17, en34, bs110, hgl, hX]
   exact ⟨_, rfl⟩
  ·rw [if_neg hs]
   have hd := fun H => ik52 [] t (by simp; omega) H
   rw [List.nil_append] at hd
   have hl := decOut_lenM t
   have hl2 := decRest_lenM t
   have hf := fun H => ik53 (decRest t) (by omega) H
   have hlf := finS_len (decRest t)
   have hap := rows32_app (decOut t) (finS (decRest t))
   have htk : List.take (decOut t).length (rows32 (decOut t)) = rows32 (decOut t) := List.take_of_length_le (by rw [rows32_len]; exact Nat.le_refl _)
   have hln : (firstL t).length = (decOut t).length + (finS (decRest t)).length := by simp [firstL]
   have hb3 := firstL_b t
   rw [show decOut t ++ finS (decRest t) = firstL t from rfl] at hap
   unfold firstS
   generalize firstL t = F at *
   generalize decOut t = D at *
   generalize finS (decRest t) = D2 at *
   cases F with
   | nil =>
    rw [show ([] : List Int).getD 0 0 = 0 from rfl]
    rw [List.length_nil] at hln
    rw [callT_eq Tryd.func34 rfl fok34 (by simp [Tryd.ntmps34])]
    simp (disch := first | omega | (simp only [vlen, rows32_len]; omega)) only [vall, reduceCtorEq, ↓reduceIte, zq0, zq1, zq2, zq3, zq4, zq5, zq6, zq7, zq8, zq9, zq10, zq11, zq12, zq13, zq14, zq15, zq16, zq17, en34, bs110, hgl, hX, hs, hd, hf, hap, htk, rows32_len]
    exact ⟨_, rfl⟩
   | cons a F =>
    rw [show (a :: F).getD 0 0 = a from rfl]
    rw [List.length_cons] at hln
    have hrow := rows32_0 a F
    have hba := hb3 a (List.mem_cons_self)
    rw [callT_eq Tryd.func34 rfl fok34 (by simp [Tryd.ntmps34])]
    simp (disch := first | omega | (simp only [vlen, rows32_len]; omega)) only [vall, reduceCtorEq, ↓reduceIte, zq0, zq1, zq2, zq3, zq4, zq5, zq6, zq7, zq8, zq9, zq10, zq11, zq12, zq13, zq14, zq15, zq16, zq17, en34, bs110, hgl, hX, hs, hd, hf, hap, htk, hrow, rows32_len]
    exact ⟨_, rfl⟩
theorem ik34 (l : List Gl) (hg : okG l) (X : List AV) (hX : ∀ B H, cnL B H X = X) (h1 : X[1]? = some (.i (.sl 3 (rowsG l) false))) (hx : X.length = 23) (hr : refsL X = []) (i : Int) (T : Hp) :
  isoK E (callT E) 34 [.ptr 0 0 0 0, .i (.v (.int .i64 i))] (.box X :: T) = some (.i (.v (.int .i64 (charS l i))), .box X :: T) :=
 isoK_mc rfl rfl rfl hr hr (c34 l hg X hX h1 hx hr i) T
end Go.VI

namespace Go.VI
open Go.Proofs
set_option maxRecDepth 100000
set_option linter.unusedSimpArgs false
set_option linter.unusedVariables false
set_option maxHeartbeats 4000000
structure Kk where
 (st : List Int) (d : Nat) (f : Bool)
def okK (k : Kk) : Prop := k.st.length = 16 ∧ k.d ≤ 16 ∧ ∀ x ∈ k.st, -999999999 ≤ x ∧ x ≤ 999999999
def popV (k : Kk) : Int := if k.d = 0 then 0 else k.st.getD (k.d - 1) 0
def popK (k : Kk) : Kk := ⟨k.st, k.d - 1, k.f || decide (k.d = 0)⟩
def pushK (k : Kk) (n : Int) : Kk := if k.d = 16 then ⟨k.st, 16, true⟩ else ⟨k.st.set k.d (limS n), k.d + 1, k.f⟩
def mcK (row : Int) (g : IV) (c w r : Int) (k : Kk) : List AV := mc row g c w r k.st k.d k.f
theorem limS_b (n : Int) : -999999999 ≤ limS n ∧ limS n ≤ 999999999 := by unfold limS; omega
theorem getD_b {l : List Int} (h : ∀ x ∈ l, -999999999 ≤ x ∧ x ≤ 999999999) (k : Nat) : -999999999 ≤ l.getD k 0 ∧ l.getD k 0 ≤ 999999999 := by
 rw [List.getD_eq_getElem?_getD]
 cases e : l[k]? with
 | none => decide
 | some x => exact h x (List.mem_of_getElem? e)
theorem popV_b {k : Kk} (h : okK k) : -999999999 ≤ popV k ∧ popV k ≤ 999999999 := by
 unfold popV; split
 ·decide
 ·exact getD_b h.2.2 _
theorem popK_ok {k : Kk} (h : okK k) : okK (popK k) := ⟨h.1, by have := h.2.1; simp only [popK]; omega, h.2.2⟩
theorem pushK_ok {k : Kk} (h : okK k) (n : Int) : okK (pushK k n) := by
 unfold pushK; split
 ·exact ⟨h.1, Nat.le_refl _, h.2.2⟩
 ·rename_i h0
  refine ⟨by simp only [List.length_set]; exact h.1, by have := h.2.1; simp only; omega, ?_⟩
  intro x hx
  rcases List.mem_or_eq_of_mem_set hx with h1 | h1
  ·exact h.2.2 x h1
  ·rw [h1]; exact limS_b n
section
variable {row : Int} {g : IV} {c w r : Int} {k : Kk}
theorem mcK_len (h : okK k) : (mcK row g c w r k).length = 23 := mc_len h.1
theorem mcK_0 : (mcK row g c w r k)[0]? = some (.i (.v (.int .i64 row))) := rfl
theorem mcK_1 : (mcK row g c w r k)[1]? = some (.i g) := rfl
theorem mcK_2 : (mcK row g c w r k)[2]? = some (.i (.v (.int .i64 c))) := rfl
theorem mcK_3 : (mcK row g c w r k)[3]? = some (.i (.v (.int .i64 w))) := rfl
theorem mcK_22 (h : okK k) : (mcK row g c w r k)[22]? = some (.i (.v (.bool k.f))) := mc_22 h.1
theorem mcK_put2 (x : Int) : List.take 2 (mcK row g c w r k) ++ [.i (.v (.int .i64 x))] ++ List.drop 3 (mcK row g c w r k) = mcK row g x w r k := rfl
theorem mcK_put3 (x : Int) : List.take 3 (mcK row g c w r k) ++ [.i (.v (.int .i64 x))] ++ List.drop 4 (mcK row g c w r k) = mcK row g c x r k := rfl
theorem mcK_cn (B : Nat) (H : Hp) : cnL B H (mcK row g c w r k) = mcK row g c w r k := mc_cn _ _ _ _ _ _ _ _ _ _
theorem mcK_refs : refsL (mcK row g c w r k) = [] := mc_refs trivial
theorem mcK_ren (ρ : Nat → Option Nat) : renL ρ (mcK row g c w r k) = mcK row g c w r k := mc_ren ρ
end
theorem ik18_K (row : Int) (g : IV) (c w r : Int) (k : Kk) (hk : okK k) (T : Hp) :
  isoK E (callT E) 18 [.ptr 0 0 0 0] (.box (mcK row g c w r k) :: T) = some (.i (.v (.int .i64 (popV k))), .box (mcK row g c w r (popK k)) :: T) :=
 ik18 row g c w r k.st k.d k.f hk.1 hk.2.1 T
theorem ik33_K (row : Int) (g : IV) (c w r : Int) (k : Kk) (n : Int) (hn : -9223372036854775808 ≤ n ∧ n ≤ 9223372036854775807) (hk : okK k) (T : Hp) :
  isoK E (callT E) 33 [.ptr 0 0 0 0, .i (.v (.int .i64 n))] (.box (mcK row g c w r k) :: T) = some (.tup [], .box (mcK row g c w r (pushK k n)) :: T) := by
 have h := ik33 row g c w r k.st k.d k.f n hn hk.1 hk.2.1 T
 rw [show mcK row g c w r k = mc row g c w r k.st k.d k.f from rfl, h]
 unfold pushK
 split <;> rfl
def bI (n : Int) : Prop := -9223372036854775808 ≤ n ∧ n ≤ 9223372036854775807
def isV (op : Int) : Prop := op = 1 ∨ op = 2 ∨ op = 3 ∨ op = 6 ∨ op = 7
instance (op : Int) : Decidable (isV op) := by unfold isV; infer_instance
def valK (row c w ln op arg : Int) : Int := if op = 1 then arg else if op = 2 then row else if op = 3 then ln else if op = 6 then c else w
theorem pushM_K (row : Int) (g : IV) (c w r : Int) (k : Kk) (n : Int) : pushM row g c w r k.st k.d k.f n = mcK row g c w r (pushK k n) := by
 unfold pushM pushK mcK
 split <;> rfl
theorem ik31_K (row : Int) (rows : List (List IV)) (c w r : Int) (k : Kk) (op arg : Int) (hb : (-9223372036854775808 ≤ arg ∧ arg ≤ 9223372036854775807) ∧ (-9223372036854775808 ≤ row ∧ row ≤ 9223372036854775807) ∧ (-9223372036854775808 ≤ c ∧ c ≤ 9223372036854775807) ∧ (-9223372036854775808 ≤ w ∧ w ≤ 9223372036854775807) ∧ rows.length ≤ 1000000) (hk : okK k) (hv : isV op) (T : Hp) :
  isoK E (callT E) 31 [.ptr 0 0 0 0, .agg [.i (.v (.int .i64 op)), .i (.v (.int .i64 arg))]] (.box (mcK row (.sl 3 rows false) c w r k) :: T) = some (.i (.v (.bool true)), .box (mcK row (.sl 3 rows false) c w r (pushK k (valK row c w rows.length op arg))) :: T) := by
 rw [← pushM_K]
 refine isoK_mc rfl rfl rfl mcK_refs pushM_refs ?_ T
 rcases hv with rfl | rfl | rfl | rfl | rfl
 ·exact c31_1 row rows c w r k.st k.d k.f arg hb hk.1 hk.2.1
 ·exact c31_2 row rows c w r k.st k.d k.f arg hb hk.1 hk.2.1
 ·exact c31_3 row rows c w r k.st k.d k.f arg hb hk.1 hk.2.1
 ·exact c31_6 row rows c w r k.st k.d k.f arg hb hk.1 hk.2.1
 ·exact c31_7 row rows c w r k.st k.d k.f arg hb hk.1 hk.2.1
theorem ik31_N (row : Int) (g : IV) (c w r : Int) (k : Kk) (op arg : Int) (hv : ¬ isV op) (T : Hp) :
  isoK E (callT E) 31 [.ptr 0 0 0 0, .agg [.i (.v (.int .i64 op)), .i (.v (.int .i64 arg))]] (.box (mcK row g c w r k) :: T) = some (.i (.v (.bool false)), .box (mcK row g c w r k) :: T) :=
 ik31_0 _ (fun B H => mcK_cn B H) mcK_refs op arg (by unfold isV at hv; omega) T
def twoS (op a b : Int) : Int := if op = 8 then a + b else if op = 9 then a - b else if op = 10 then a * b else if op = 11 then (if a = b then 1 else 0) else (if a < b then 1 else 0)
theorem mul_b {a b : Int} (ha : -999999999 ≤ a ∧ a ≤ 999999999) (hb : -999999999 ≤ b ∧ b ≤ 999999999) : -9223372036854775808 ≤ a * b ∧ a * b ≤ 9223372036854775807 := by
 have h1 : (a * b).natAbs ≤ 999999999 * 999999999 := by
  rw [Int.natAbs_mul]; exact Nat.mul_le_mul (by omega) (by omega)
 generalize a * b = x at *
 omega
theorem twoS_b {a b : Int} (op : Int) (ha : -999999999 ≤ a ∧ a ≤ 999999999) (hb : -999999999 ≤ b ∧ b ≤ 999999999) : -9223372036854775808 ≤ twoS op a b ∧ twoS op a b ≤ 9223372036854775807 := by
 have := mul_b ha hb
 unfold twoS
 repeat' split
 all_goals first | exact this | omega
theorem ik46 (a b : Int) (ha : -999999999 ≤ a ∧ a ≤ 999999999) (hb : -999999999 ≤ b ∧ b ≤ 999999999) (H : Hp) : isoK E (callT E) 46 [.i (.v (.int .i64 a)), .i (.v (.int .i64 b))] H = some (.i (.v (.int .i64 (a + b))), H) := isoK_val rfl rfl rfl (by
 rw [callT_eq Tryd.func46 rfl fok46 (by simp [Tryd.ntmps46])]
 simp (disch := first | omega | (simp only [vlen]; omega)) only [vall, reduceCtorEq, ↓reduceIte, zq0, zq1, zq2, zq3, zq4, zq5, zq6, zq7, zq8, zq9, zq10, zq11, zq12, zq13, zq14, zq15, zq16, zq17, en46]
 exact ⟨_, rfl⟩)
theorem ik47 (a b : Int) (ha : -999999999 ≤ a ∧ a ≤ 999999999) (hb : -999999999 ≤ b ∧ b ≤ 999999999) (H : Hp) : isoK E (callT E) 47 [.i (.v (.int .i64 a)), .i (.v (.int .i64 b))] H = some (.i (.v (.int .i64 (a - b))), H) := isoK_val rfl rfl rfl (by
 rw [callT_eq Tryd.func47 rfl fok47 (by simp [Tryd.ntmps47])]
 simp (disch := first | omega | (simp only [vlen]; omega)) only [vall, reduceCtorEq, ↓reduceIte, zq0, zq1, zq2, zq3, zq4, zq5, zq6, zq7, zq8, zq9, zq10, zq11, zq12, zq13, zq14, zq15, zq16, zq17, en47]
 exact ⟨_, rfl⟩)
theorem ik48 (a b : Int) (ha : -999999999 ≤ a ∧ a ≤ 999999999) (hb : -999999999 ≤ b ∧ b ≤ 999999999) (H : Hp) : isoK E (callT E) 48 [.i (.v (.int .i64 a)), .i (.v (.int .i64 b))] H = some (.i (.v (.int .i64 (a * b))), H) := isoK_val rfl rfl rfl (by
 have hm := mul_b ha hb
 generalize hx : a * b = x at *
 rw [callT_eq Tryd.func48 rfl fok48 (by simp [Tryd.ntmps48])]
 simp (disch := first | omega | (simp only [vlen]; omega)) only [vall, reduceCtorEq, ↓reduceIte, zq0, zq1, zq2, zq3, zq4, zq5, zq6, zq7, zq8, zq9, zq10, zq11, zq12, zq13, zq14, zq15, zq16, zq17, en48, hx]
 exact ⟨_, rfl⟩)
theorem ik49 (a b : Int) (H : Hp) : isoK E (callT E) 49 [.i (.v (.int .i64 a)), .i (.v (.int .i64 b))] H = some (.i (.v (.int .i64 (if a = b then 1 else 0))), H) := isoK_val rfl rfl rfl (by
 by_cases h : a = b
 ·have ht := fun H => ik36 true H
  rw [if_pos rfl] at ht
  rw [if_pos h]
  subst h
  rw [callT_eq Tryd.func49 rfl fok49 (by simp [Tryd.ntmps49])]
  simp (disch := first | omega | (simp only [vlen]; omega)) only [vall, reduceCtorEq, ↓reduceIte, zq0, zq1, zq2, zq3, zq4, zq5, zq6, zq7, zq8, zq9, zq10, zq11, zq12, zq13, zq14, zq15, zq16, zq17, en49, ht]
  exact ⟨_, rfl⟩
 ·have ht := fun H => ik36 false H
  rw [if_neg (by decide)] at ht
  rw [if_neg h]
  rw [callT_eq Tryd.func49 rfl fok49 (by simp [Tryd.ntmps49])]
  simp (disch := first | omega | (simp only [vlen]; omega)) only [vall, reduceCtorEq, ↓reduceIte, zq0, zq1, zq2, zq3, zq4, zq5, zq6, zq7, zq8, zq9, zq10, zq11, zq12, zq13, zq14, zq15, zq16, zq17, en49, ht, h]
  exact ⟨_, rfl⟩)
theorem ik50 (a b : Int) (H : Hp) : isoK E (callT E) 50 [.i (.v (.int .i64 a)), .i (.v (.int .i64 b))] H = some (.i (.v (.int .i64 (if a < b then 1 else 0))), H) := isoK_val rfl rfl rfl (by
 by_cases h : a < b
 ·have ht := fun H => ik36 true H
  rw [if_pos rfl] at ht
  rw [if_pos h]
  rw [callT_eq Tryd.func50 rfl fok50 (by simp [Tryd.ntmps50])]
  simp (disch := first | omega | (simp only [vlen]; omega)) only [vall, reduceCtorEq, ↓reduceIte, zq0, zq1, zq2, zq3, zq4, zq5, zq6, zq7, zq8, zq9, zq10, zq11, zq12, zq13, zq14, zq15, zq16, zq17, en50, ht, h]
  exact ⟨_, rfl⟩
 ·have ht := fun H => ik36 false H
  rw [if_neg (by decide)] at ht
  rw [if_neg h]
  rw [callT_eq Tryd.func50 rfl fok50 (by simp [Tryd.ntmps50])]
  simp (disch := first | omega | (simp only [vlen]; omega)) only [vall, reduceCtorEq, ↓reduceIte, zq0, zq1, zq2, zq3, zq4, zq5, zq6, zq7, zq8, zq9, zq10, zq11, zq12, zq13, zq14, zq15, zq16, zq17, en50, ht, h]
  exact ⟨_, rfl⟩)
end Go.VI

namespace Go.VI
open Go.Proofs
set_option maxRecDepth 100000
set_option linter.unusedSimpArgs false
set_option linter.unusedVariables false
set_option maxHeartbeats 4000000
def simK (row : Int) (l : List Gl) (c w : Int) (k : Kk) (op arg : Int) : Int × Int × Kk :=
 if isV op then (c, w, pushK k (valK row c w l.length op arg))
 else if 8 ≤ op ∧ op ≤ 12 then (c, w, pushK (popK (popK k)) (twoS op (popV (popK k)) (popV k)))
 else if op = 4 then (c, w, pushK (popK k) (charS l (popV k)))
 else if op = 5 then (c, w, pushK (popK k) (styleV l (popV k)))
 else if op = 13 then (c, w, pushK (popK k) (if popV k = 0 then 1 else 0))
 else if op = 14 then (c, w, pushK (pushK (popK k) (popV k)) (popV k))
 else if op = 16 then (c, w, pushK (pushK (popK (popK k)) (popV k)) (popV (popK k)))
 else if op = 19 then (if 1 ≤ popV k ∧ popV k ≤ 3 then popV k else c, w, popK k)
 else if op = 20 then (c, if 0 ≤ popV k ∧ popV k ≤ 60000 then popV k else w, popK k)
 else (c, w, popK k)
theorem op_lookup {E : Env} {cl : CallF} {fr : Fr} {H : Hp} (t : TypeId) (x k : Operand) : evOp E cl (.lookup t x k true) fr H = pK H (lookA E H t (opd E fr x) (opd E fr k) true) := op_lk t x k true
theorem ik32 (H : Hp) : isoK E (callT E) 32 [] H = some (.i (.mp [(8, 46), (9, 47), (10, 48), (11, 49), (12, 50)]), H) := isoK_ext (show E.ext 32 = some (extMap [(8, 46), (9, 47), (10, 48), (11, 49), (12, 50)]) from rfl) rfl rfl ⟨[], rfl⟩
theorem s_val (op : Int) (hv : isV op) (row : Int) (l : List Gl) (hg : okG l) (c w r : Int) (k : Kk) (arg : Int) (hk : okK k) (hb : bI arg ∧ bI row ∧ bI c ∧ bI w) : ∃ L, callT E 19 [.ptr 0 0 0 0, .agg [.i (.v (.int .i64 (op))), .i (.v (.int .i64 arg))]] [.box (mcK row (.sl 3 (rowsG l) false) c w r k)] = some (.tup [], .box (mcK row (.sl 3 (rowsG l) false) (simK row l c w k (op) arg).1 (simK row l c w k (op) arg).2.1 r (simK row l c w k (op) arg).2.2) :: L) := by
 have h1 := fun T => ik31_K row (rowsG l) c w r k op arg ⟨hb.1, hb.2.1, hb.2.2.1, hb.2.2.2, by rw [rowsG_len]; have := hg.1; omega⟩ hk hv T
 simp only [simK, if_pos hv]
 rw [rowsG_len] at h1
 generalize pushK k (valK row c w l.length op arg) = k2 at *
 rw [callT_eq Tryd.func19 rfl fok19 (by simp [Tryd.ntmps19])]
 simp (disch := first | omega | (simp only [vlen]; omega)) only [vall, reduceCtorEq, ↓reduceIte, zq0, zq1, zq2, zq3, zq4, zq5, zq6, zq7, zq8, zq9, zq10, zq11, zq12, zq13, zq14, zq15, zq16, zq17, en19, h1, mcK_cn, mcK_0, mcK_1, mcK_2, mcK_3]
 exact ⟨_, rfl⟩
theorem s_8 (row : Int) (l : List Gl) (hg : okG l) (c w r : Int) (k : Kk) (arg : Int) (hk : okK k) (hb : bI arg ∧ bI row ∧ bI c ∧ bI w) : ∃ L, callT E 19 [.ptr 0 0 0 0, .agg [.i (.v (.int .i64 (8))), .i (.v (.int .i64 arg))]] [.box (mcK row (.sl 3 (rowsG l) false) c w r k)] = some (.tup [], .box (mcK row (.sl 3 (rowsG l) false) (simK row l c w k (8) arg).1 (simK row l c w k (8) arg).2.1 r (simK row l c w k (8) arg).2.2) :: L) := by
 have hnv : ¬ isV 8 := by decide
 have h1 := fun T => ik31_N row (.sl 3 (rowsG l) false) c w r k 8 arg hnv T
 have b0 := popV_b hk
 have h2 := fun T => ik18_K row (.sl 3 (rowsG l) false) c w r k hk T
 have b1 := popV_b (popK_ok hk)
 have h3 := fun T => ik18_K row (.sl 3 (rowsG l) false) c w r (popK k) (popK_ok hk) T
 have h5 := fun T => ik33_K row (.sl 3 (rowsG l) false) c w r (popK (popK k)) (twoS 8 (popV (popK k)) (popV k)) (twoS_b 8 b1 b0) (popK_ok (popK_ok hk)) T
 rw [show twoS 8 (popV (popK k)) (popV k) = (popV (popK k) + popV k) from rfl] at h5
 have h4 := fun H => ik46 (popV (popK k)) (popV k) b1 b0 H
 have h6 : simK row l c w k 8 arg = (c, w, pushK (popK (popK k)) (popV (popK k) + popV k)) := by simp only [simK, if_neg hnv]; rfl
 rw [h6]
 simp only
 generalize (popV (popK k) + popV k) = y at *
 generalize popV (popK k) = a at *
 generalize popV k = b at *
 rw [callT_eq Tryd.func19 rfl fok19 (by simp [Tryd.ntmps19])]
 simp (disch := first | omega | (simp only [vlen]; omega)) only [vall, reduceCtorEq, ↓reduceIte, zq0, zq1, zq2, zq3, zq4, zq5, zq6, zq7, zq8, zq9, zq10, zq11, zq12, zq13, zq14, zq15, zq16, zq17, en19, op_lookup, ca46, ik32, h1, h2, h3, h4, h5, mcK_cn, mcK_0, mcK_1, mcK_2, mcK_3]
 exact ⟨_, rfl⟩
theorem s_9 (row : Int) (l : List Gl) (hg : okG l) (c w r : Int) (k : Kk) (arg : Int) (hk : okK k) (hb : bI arg ∧ bI row ∧ bI c ∧ bI w) : ∃ L, callT E 19 [.ptr 0 0 0 0, .agg [.i (.v (.int .i64 (9))), .i (.v (.int .i64 arg))]] [.box (mcK row (.sl 3 (rowsG l) false) c w r k)] = some (.tup [], .box (mcK row (.sl 3 (rowsG l) false) (simK row l c w k (9) arg).1 (simK row l c w k (9) arg).2.1 r (simK row l c w k (9) arg).2.2) :: L) := by
 have hnv : ¬ isV 9 := by decide
 have h1 := fun T => ik31_N row (.sl 3 (rowsG l) false) c w r k 9 arg hnv T
 have b0 := popV_b hk
 have h2 := fun T => ik18_K row (.sl 3 (rowsG l) false) c w r k hk T
 have b1 := popV_b (popK_ok hk)
 have h3 := fun T => ik18_K row (.sl 3 (rowsG l) false) c w r (popK k) (popK_ok hk) T
 have h5 := fun T => ik33_K row (.sl 3 (rowsG l) false) c w r (popK (popK k)) (twoS 9 (popV (popK k)) (popV k)) (twoS_b 9 b1 b0) (popK_ok (popK_ok hk)) T
 rw [show twoS 9 (popV (popK k)) (popV k) = (popV (popK k) - popV k) from rfl] at h5
 have h4 := fun H => ik47 (popV (popK k)) (popV k) b1 b0 H
 have h6 : simK row l c w k 9 arg = (c, w, pushK (popK (popK k)) (popV (popK k) - popV k)) := by simp only [simK, if_neg hnv]; rfl
 rw [h6]
 simp only
 generalize (popV (popK k) - popV k) = y at *
 generalize popV (popK k) = a at *
 generalize popV k = b at *
 rw [callT_eq Tryd.func19 rfl fok19 (by simp [Tryd.ntmps19])]
 simp (disch := first | omega | (simp only [vlen]; omega)) only [vall, reduceCtorEq, ↓reduceIte, zq0, zq1, zq2, zq3, zq4, zq5, zq6, zq7, zq8, zq9, zq10, zq11, zq12, zq13, zq14, zq15, zq16, zq17, en19, op_lookup, ca47, ik32, h1, h2, h3, h4, h5, mcK_cn, mcK_0, mcK_1, mcK_2, mcK_3]
 exact ⟨_, rfl⟩
theorem s_10 (row : Int) (l : List Gl) (hg : okG l) (c w r : Int) (k : Kk) (arg : Int) (hk : okK k) (hb : bI arg ∧ bI row ∧ bI c ∧ bI w) : ∃ L, callT E 19 [.ptr 0 0 0 0, .agg [.i (.v (.int .i64 (10))), .i (.v (.int .i64 arg))]] [.box (mcK row (.sl 3 (rowsG l) false) c w r k)] = some (.tup [], .box (mcK row (.sl 3 (rowsG l) false) (simK row l c w k (10) arg).1 (simK row l c w k (10) arg).2.1 r (simK row l c w k (10) arg).2.2) :: L) := by
 have hnv : ¬ isV 10 := by decide
 have h1 := fun T => ik31_N row (.sl 3 (rowsG l) false) c w r k 10 arg hnv T
 have b0 := popV_b hk
 have h2 := fun T => ik18_K row (.sl 3 (rowsG l) false) c w r k hk T
 have b1 := popV_b (popK_ok hk)
 have h3 := fun T => ik18_K row (.sl 3 (rowsG l) false) c w r (popK k) (popK_ok hk) T
 have h5 := fun T => ik33_K row (.sl 3 (rowsG l) false) c w r (popK (popK k)) (twoS 10 (popV (popK k)) (popV k)) (twoS_b 10 b1 b0) (popK_ok (popK_ok hk)) T
 rw [show twoS 10 (popV (popK k)) (popV k) = (popV (popK k) * popV k) from rfl] at h5
 have h4 := fun H => ik48 (popV (popK k)) (popV k) b1 b0 H
 have h6 : simK row l c w k 10 arg = (c, w, pushK (popK (popK k)) (popV (popK k) * popV k)) := by simp only [simK, if_neg hnv]; rfl
 rw [h6]
 simp only
 generalize (popV (popK k) * popV k) = y at *
 generalize popV (popK k) = a at *
 generalize popV k = b at *
 rw [callT_eq Tryd.func19 rfl fok19 (by simp [Tryd.ntmps19])]
 simp (disch := first | omega | (simp only [vlen]; omega)) only [vall, reduceCtorEq, ↓reduceIte, zq0, zq1, zq2, zq3, zq4, zq5, zq6, zq7, zq8, zq9, zq10, zq11, zq12, zq13, zq14, zq15, zq16, zq17, en19, op_lookup, ca48, ik32, h1, h2, h3, h4, h5, mcK_cn, mcK_0, mcK_1, mcK_2, mcK_3]
 exact ⟨_, rfl⟩
theorem s_11 (row : Int) (l : List Gl) (hg : okG l) (c w r : Int) (k : Kk) (arg : Int) (hk : okK k) (hb : bI arg ∧ bI row ∧ bI c ∧ bI w) : ∃ L, callT E 19 [.ptr 0 0 0 0, .agg [.i (.v (.int .i64 (11))), .i (.v (.int .i64 arg))]] [.box (mcK row (.sl 3 (rowsG l) false) c w r k)] = some (.tup [], .box (mcK row (.sl 3 (rowsG l) false) (simK row l c w k (11) arg).1 (simK row l c w k (11) arg).2.1 r (simK row l c w k (11) arg).2.2) :: L) := by
 have hnv : ¬ isV 11 := by decide
 have h1 := fun T => ik31_N row (.sl 3 (rowsG l) false) c w r k 11 arg hnv T
 have b0 := popV_b hk
 have h2 := fun T => ik18_K row (.sl 3 (rowsG l) false) c w r k hk T
 have b1 := popV_b (popK_ok hk)
 have h3 := fun T => ik18_K row (.sl 3 (rowsG l) false) c w r (popK k) (popK_ok hk) T
 have h5 := fun T => ik33_K row (.sl 3 (rowsG l) false) c w r (popK (popK k)) (twoS 11 (popV (popK k)) (popV k)) (twoS_b 11 b1 b0) (popK_ok (popK_ok hk)) T
 rw [show twoS 11 (popV (popK k)) (popV k) = (if popV (popK k) = popV k then 1 else 0) from rfl] at h5
 have h4 := fun H => ik49 (popV (popK k)) (popV k) H
 have h6 : simK row l c w k 11 arg = (c, w, pushK (popK (popK k)) (if popV (popK k) = popV k then 1 else 0)) := by simp only [simK, if_neg hnv]; rfl
 rw [h6]
 simp only
 generalize (if popV (popK k) = popV k then 1 else 0) = y at *
 generalize popV (popK k) = a at *
 generalize popV k = b at *
 rw [callT_eq Tryd.func19 rfl fok19 (by simp [Tryd.ntmps19])]
 simp (disch := first | omega | (simp only [vlen]; omega)) only [vall, reduceCtorEq, ↓reduceIte, zq0, zq1, zq2, zq3, zq4, zq5, zq6, zq7, zq8, zq9, zq10, zq11, zq12, zq13, zq14, zq15, zq16, zq17, en19, op_lookup, ca49, ik32, h1, h2, h3, h4, h5, mcK_cn, mcK_0, mcK_1, mcK_2, mcK_3]
 exact ⟨_, rfl⟩
theorem s_12 (row : Int) (l : List Gl) (hg : okG l) (c w r : Int) (k : Kk) (arg : Int) (hk : okK k) (hb : bI arg ∧ bI row ∧ bI c ∧ bI w) : ∃ L, callT E 19 [.ptr 0 0 0 0, .agg [.i (.v (.int .i64 (12))), .i (.v (.int .i64 arg))]] [.box (mcK row (.sl 3 (rowsG l) false) c w r k)] = some (.tup [], .box (mcK row (.sl 3 (rowsG l) false) (simK row l c w k (12) arg).1 (simK row l c w k (12) arg).2.1 r (simK row l c w k (12) arg).2.2) :: L) := by
 have hnv : ¬ isV 12 := by decide
 have h1 := fun T => ik31_N row (.sl 3 (rowsG l) false) c w r k 12 arg hnv T
 have b0 := popV_b hk
 have h2 := fun T => ik18_K row (.sl 3 (rowsG l) false) c w r k hk T
 have b1 := popV_b (popK_ok hk)
 have h3 := fun T => ik18_K row (.sl 3 (rowsG l) false) c w r (popK k) (popK_ok hk) T
 have h5 := fun T => ik33_K row (.sl 3 (rowsG l) false) c w r (popK (popK k)) (twoS 12 (popV (popK k)) (popV k)) (twoS_b 12 b1 b0) (popK_ok (popK_ok hk)) T
 rw [show twoS 12 (popV (popK k)) (popV k) = (if popV (popK k) < popV k then 1 else 0) from rfl] at h5
 have h4 := fun H => ik50 (popV (popK k)) (popV k) H
 have h6 : simK row l c w k 12 arg = (c, w, pushK (popK (popK k)) (if popV (popK k) < popV k then 1 else 0)) := by simp only [simK, if_neg hnv]; rfl
 rw [h6]
 simp only
 generalize (if popV (popK k) < popV k then 1 else 0) = y at *
 generalize popV (popK k) = a at *
 generalize popV k = b at *
 rw [callT_eq Tryd.func19 rfl fok19 (by simp [Tryd.ntmps19])]
 simp (disch := first | omega | (simp only [vlen]; omega)) only [vall, reduceCtorEq, ↓reduceIte, zq0, zq1, zq2, zq3, zq4, zq5, zq6, zq7, zq8, zq9, zq10, zq11, zq12, zq13, zq14, zq15, zq16, zq17, en19, op_lookup, ca50, ik32, h1, h2, h3, h4, h5, mcK_cn, mcK_0, mcK_1, mcK_2, mcK_3]
 exact ⟨_, rfl⟩
theorem s_4 (row : Int) (l : List Gl) (hg : okG l) (c w r : Int) (k : Kk) (arg : Int) (hk : okK k) (hb : bI arg ∧ bI row ∧ bI c ∧ bI w) : ∃ L, callT E 19 [.ptr 0 0 0 0, .agg [.i (.v (.int .i64 (4))), .i (.v (.int .i64 arg))]] [.box (mcK row (.sl 3 (rowsG l) false) c w r k)] = some (.tup [], .box (mcK row (.sl 3 (rowsG l) false) (simK row l c w k (4) arg).1 (simK row l c w k (4) arg).2.1 r (simK row l c w k (4) arg).2.2) :: L) := by
 have hnv : ¬ isV 4 := by decide
 have h1 := fun T => ik31_N row (.sl 3 (rowsG l) false) c w r k 4 arg hnv T
 have b0 := popV_b hk
 have h2 := fun T => ik18_K row (.sl 3 (rowsG l) false) c w r k hk T
 have h3 := fun T => ik34 l hg (mcK row (.sl 3 (rowsG l) false) c w r (popK k)) (fun B H => mcK_cn B H) mcK_1 (mcK_len (popK_ok hk)) mcK_refs (popV k) T
 have h5 := fun T => ik33_K row (.sl 3 (rowsG l) false) c w r (popK k) (charS l (popV k)) (charS_b l (popV k)) (popK_ok hk) T
 have h6 : simK row l c w k 4 arg = (c, w, pushK (popK k) (charS l (popV k))) := by simp only [simK, if_neg hnv]; rfl
 rw [h6]
 simp only
 generalize charS l (popV k) = y at *
 generalize popV k = b at *
 rw [callT_eq Tryd.func19 rfl fok19 (by simp [Tryd.ntmps19])]
 simp (disch := first | omega | (simp only [vlen]; omega)) only [vall, reduceCtorEq, ↓reduceIte, zq0, zq1, zq2, zq3, zq4, zq5, zq6, zq7, zq8, zq9, zq10, zq11, zq12, zq13, zq14, zq15, zq16, zq17, en19, op_lookup, ik32, h1, h2, h3, h5, mcK_cn, mcK_0, mcK_1, mcK_2, mcK_3]
 exact ⟨_, rfl⟩
theorem s_5_in (row : Int) (l : List Gl) (hg : okG l) (c w r : Int) (k : Kk) (arg : Int) (hk : okK k) (hi : 0 ≤ popV k ∧ popV k < l.length) : ∃ L, callT E 19 [.ptr 0 0 0 0, .agg [.i (.v (.int .i64 5)), .i (.v (.int .i64 arg))]] [.box (mcK row (.sl 3 (rowsG l) false) c w r k)] = some (.tup [], .box (mcK row (.sl 3 (rowsG l) false) c w r (pushK (popK k) (l.getD (popV k).toNat ([], false, 0)).2.2)) :: L) := by
 have hnv : ¬ isV 5 := by decide
 have h1 := fun T => ik31_N row (.sl 3 (rowsG l) false) c w r k 5 arg hnv T
 have h2 := fun T => ik18_K row (.sl 3 (rowsG l) false) c w r k hk T
 have h3 := fun T => ik35_in l (by have := hg.1; omega) (mcK row (.sl 3 (rowsG l) false) c w r (popK k)) (fun B H => mcK_cn B H) mcK_1 (mcK_len (popK_ok hk)) mcK_refs (popV k) hi T
 have h5 := fun T => ik33_K row (.sl 3 (rowsG l) false) c w r (popK k) (l.getD (popV k).toNat ([], false, 0)).2.2 (okG_at hg _).2 (popK_ok hk) T
 generalize l.getD (popV k).toNat ([], false, 0) = y at *
 generalize popV k = b at *
 obtain ⟨y1, y2, y3⟩ := y
 simp only at h3 h5 ⊢
 rw [callT_eq Tryd.func19 rfl fok19 (by simp [Tryd.ntmps19])]
 simp (disch := first | omega | (simp only [vlen]; omega)) only [vall, reduceCtorEq, ↓reduceIte, zq0, zq1, zq2, zq3, zq4, zq5, zq6, zq7, zq8, zq9, zq10, zq11, zq12, zq13, zq14, zq15, zq16, zq17, en19, op_lookup, ik32, h1, h2, h3, h5, mcK_cn, mcK_0, mcK_1, mcK_2, mcK_3]
 exact ⟨_, rfl⟩
theorem s_5_out (row : Int) (l : List Gl) (hg : okG l) (c w r : Int) (k : Kk) (arg : Int) (hk : okK k) (hi : popV k < 0 ∨ (l.length : Int) ≤ popV k) : ∃ L, callT E 19 [.ptr 0 0 0 0, .agg [.i (.v (.int .i64 5)), .i (.v (.int .i64 arg))]] [.box (mcK row (.sl 3 (rowsG l) false) c w r k)] = some (.tup [], .box (mcK row (.sl 3 (rowsG l) false) c w r (pushK (popK k) 0)) :: L) := by
 have hnv : ¬ isV 5 := by decide
 have h1 := fun T => ik31_N row (.sl 3 (rowsG l) false) c w r k 5 arg hnv T
 have h2 := fun T => ik18_K row (.sl 3 (rowsG l) false) c w r k hk T
 have h3 := fun T => ik35_out l (by have := hg.1; omega) (mcK row (.sl 3 (rowsG l) false) c w r (popK k)) (fun B H => mcK_cn B H) mcK_1 (mcK_len (popK_ok hk)) mcK_refs (popV k) hi T
 have h5 := fun T => ik33_K row (.sl 3 (rowsG l) false) c w r (popK k) 0 (by decide) (popK_ok hk) T
 generalize popV k = b at *
 rw [callT_eq Tryd.func19 rfl fok19 (by simp [Tryd.ntmps19])]
 simp (disch := first | omega | (simp only [vlen]; omega)) only [vall, reduceCtorEq, ↓reduceIte, zq0, zq1, zq2, zq3, zq4, zq5, zq6, zq7, zq8, zq9, zq10, zq11, zq12, zq13, zq14, zq15, zq16, zq17, en19, op_lookup, ik32, h1, h2, h3, h5, mcK_cn, mcK_0, mcK_1, mcK_2, mcK_3]
 exact ⟨_, rfl⟩
theorem s_5 (row : Int) (l : List Gl) (hg : okG l) (c w r : Int) (k : Kk) (arg : Int) (hk : okK k) (hb : bI arg ∧ bI row ∧ bI c ∧ bI w) : ∃ L, callT E 19 [.ptr 0 0 0 0, .agg [.i (.v (.int .i64 (5))), .i (.v (.int .i64 arg))]] [.box (mcK row (.sl 3 (rowsG l) false) c w r k)] = some (.tup [], .box (mcK row (.sl 3 (rowsG l) false) (simK row l c w k (5) arg).1 (simK row l c w k (5) arg).2.1 r (simK row l c w k (5) arg).2.2) :: L) := by
 have h6 : simK row l c w k 5 arg = (c, w, pushK (popK k) (styleV l (popV k))) := by simp only [simK, if_neg (show ¬ isV 5 from by decide)]; rfl
 rw [h6]
 unfold styleV
 by_cases hi : popV k < 0 ∨ (l.length : Int) ≤ popV k
 ·rw [if_pos hi]
  exact s_5_out row l hg c w r k arg hk hi
 ·rw [if_neg hi]
  exact s_5_in row l hg c w r k arg hk (by omega)
theorem s_13 (row : Int) (l : List Gl) (hg : okG l) (c w r : Int) (k : Kk) (arg : Int) (hk : okK k) (hb : bI arg ∧ bI row ∧ bI c ∧ bI w) : ∃ L, callT E 19 [.ptr 0 0 0 0, .agg [.i (.v (.int .i64 (13))), .i (.v (.int .i64 arg))]] [.box (mcK row (.sl 3 (rowsG l) false) c w r k)] = some (.tup [], .box (mcK row (.sl 3 (rowsG l) false) (simK row l c w k (13) arg).1 (simK row l c w k (13) arg).2.1 r (simK row l c w k (13) arg).2.2) :: L) := by
 have hnv : ¬ isV 13 := by decide
 have h1 := fun T => ik31_N row (.sl 3 (rowsG l) false) c w r k 13 arg hnv T
 have h2 := fun T => ik18_K row (.sl 3 (rowsG l) false) c w r k hk T
 have h6 : simK row l c w k 13 arg = (c, w, pushK (popK k) (if popV k = 0 then 1 else 0)) := by simp only [simK, if_neg hnv]; rfl
 rw [h6]
 simp only
 by_cases h0 : popV k = 0
 ·have ht := fun H => ik36 true H
  rw [if_pos rfl] at ht
  rw [if_pos h0]
  have h5 := fun T => ik33_K row (.sl 3 (rowsG l) false) c w r (popK k) 1 (by decide) (popK_ok hk) T
  rw [h0] at h2
  rw [callT_eq Tryd.func19 rfl fok19 (by simp [Tryd.ntmps19])]
  simp (disch := first | omega | (simp only [vlen]; omega)) only [vall, reduceCtorEq, ↓reduceIte, zq0, zq1, zq2, zq3, zq4, zq5, zq6, zq7, zq8, zq9, zq10, zq11, zq12, zq13, zq14, zq15, zq16, zq17, en19, op_lookup, ik32, h1, h2, ht, h5, mcK_cn, mcK_0, mcK_1, mcK_2, mcK_3]
  exact ⟨_, rfl⟩
 ·have ht := fun H => ik36 false H
  rw [if_neg (by decide)] at ht
  rw [if_neg h0]
  have h5 := fun T => ik33_K row (.sl 3 (rowsG l) false) c w r (popK k) 0 (by decide) (popK_ok hk) T
  generalize popV k = b at *
  rw [callT_eq Tryd.func19 rfl fok19 (by simp [Tryd.ntmps19])]
  simp (disch := first | omega | (simp only [vlen]; omega)) only [vall, reduceCtorEq, ↓reduceIte, zq0, zq1, zq2, zq3, zq4, zq5, zq6, zq7, zq8, zq9, zq10, zq11, zq12, zq13, zq14, zq15, zq16, zq17, en19, op_lookup, ik32, h0, h1, h2, ht, h5, mcK_cn, mcK_0, mcK_1, mcK_2, mcK_3]
  exact ⟨_, rfl⟩
theorem s_14 (row : Int) (l : List Gl) (hg : okG l) (c w r : Int) (k : Kk) (arg : Int) (hk : okK k) (hb : bI arg ∧ bI row ∧ bI c ∧ bI w) : ∃ L, callT E 19 [.ptr 0 0 0 0, .agg [.i (.v (.int .i64 (14))), .i (.v (.int .i64 arg))]] [.box (mcK row (.sl 3 (rowsG l) false) c w r k)] = some (.tup [], .box (mcK row (.sl 3 (rowsG l) false) (simK row l c w k (14) arg).1 (simK row l c w k (14) arg).2.1 r (simK row l c w k (14) arg).2.2) :: L) := by
 have hnv : ¬ isV 14 := by decide
 have h1 := fun T => ik31_N row (.sl 3 (rowsG l) false) c w r k 14 arg hnv T
 have b0 := popV_b hk
 have h2 := fun T => ik18_K row (.sl 3 (rowsG l) false) c w r k hk T
 have h3 := fun T => ik33_K row (.sl 3 (rowsG l) false) c w r (popK k) (popV k) (by omega) (popK_ok hk) T
 have h5 := fun T => ik33_K row (.sl 3 (rowsG l) false) c w r (pushK (popK k) (popV k)) (popV k) (by omega) (pushK_ok (popK_ok hk) _) T
 have h6 : simK row l c w k 14 arg = (c, w, pushK (pushK (popK k) (popV k)) (popV k)) := by simp only [simK, if_neg hnv]; rfl
 rw [h6]
 simp only
 generalize hk2 : pushK (popK k) (popV k) = k2 at *
 generalize popV k = b at *
 rw [callT_eq Tryd.func19 rfl fok19 (by simp [Tryd.ntmps19])]
 simp (disch := first | omega | (simp only [vlen]; omega)) only [vall, reduceCtorEq, ↓reduceIte, zq0, zq1, zq2, zq3, zq4, zq5, zq6, zq7, zq8, zq9, zq10, zq11, zq12, zq13, zq14, zq15, zq16, zq17, en19, op_lookup, ik32, h1, h2, h3, h5, mcK_cn, mcK_0, mcK_1, mcK_2, mcK_3]
 exact ⟨_, rfl⟩
theorem s_16 (row : Int) (l : List Gl) (hg : okG l) (c w r : Int) (k : Kk) (arg : Int) (hk : okK k) (hb : bI arg ∧ bI row ∧ bI c ∧ bI w) : ∃ L, callT E 19 [.ptr 0 0 0 0, .agg [.i (.v (.int .i64 (16))), .i (.v (.int .i64 arg))]] [.box (mcK row (.sl 3 (rowsG l) false) c w r k)] = some (.tup [], .box (mcK row (.sl 3 (rowsG l) false) (simK row l c w k (16) arg).1 (simK row l c w k (16) arg).2.1 r (simK row l c w k (16) arg).2.2) :: L) := by
 have hnv : ¬ isV 16 := by decide
 have h1 := fun T => ik31_N row (.sl 3 (rowsG l) false) c w r k 16 arg hnv T
 have b0 := popV_b hk
 have h2 := fun T => ik18_K row (.sl 3 (rowsG l) false) c w r k hk T
 have b1 := popV_b (popK_ok hk)
 have h3 := fun T => ik18_K row (.sl 3 (rowsG l) false) c w r (popK k) (popK_ok hk) T
 have h4 := fun T => ik33_K row (.sl 3 (rowsG l) false) c w r (popK (popK k)) (popV k) (by omega) (popK_ok (popK_ok hk)) T
 have h5 := fun T => ik33_K row (.sl 3 (rowsG l) false) c w r (pushK (popK (popK k)) (popV k)) (popV (popK k)) (by omega) (pushK_ok (popK_ok (popK_ok hk)) _) T
 have h6 : simK row l c w k 16 arg = (c, w, pushK (pushK (popK (popK k)) (popV k)) (popV (popK k))) := by simp only [simK, if_neg hnv]; rfl
 rw [h6]
 simp only
 generalize hk2 : pushK (popK (popK k)) (popV k) = k2 at *
 generalize popV (popK k) = a at *
 generalize popV k = b at *
 rw [callT_eq Tryd.func19 rfl fok19 (by simp [Tryd.ntmps19])]
 simp (disch := first | omega | (simp only [vlen]; omega)) only [vall, reduceCtorEq, ↓reduceIte, zq0, zq1, zq2, zq3, zq4, zq5, zq6, zq7, zq8, zq9, zq10, zq11, zq12, zq13, zq14, zq15, zq16, zq17, en19, op_lookup, ik32, h1, h2, h3, h4, h5, mcK_cn, mcK_0, mcK_1, mcK_2, mcK_3]
 exact ⟨_, rfl⟩
theorem s_15 (row : Int) (l : List Gl) (hg : okG l) (c w r : Int) (k : Kk) (arg : Int) (hk : okK k) (hb : bI arg ∧ bI row ∧ bI c ∧ bI w) : ∃ L, callT E 19 [.ptr 0 0 0 0, .agg [.i (.v (.int .i64 (15))), .i (.v (.int .i64 arg))]] [.box (mcK row (.sl 3 (rowsG l) false) c w r k)] = some (.tup [], .box (mcK row (.sl 3 (rowsG l) false) (simK row l c w k (15) arg).1 (simK row l c w k (15) arg).2.1 r (simK row l c w k (15) arg).2.2) :: L) := by
 have hnv : ¬ isV 15 := by decide
 have h1 := fun T => ik31_N row (.sl 3 (rowsG l) false) c w r k 15 arg hnv T
 have b0 := popV_b hk
 have h2 := fun T => ik18_K row (.sl 3 (rowsG l) false) c w r k hk T
 have h6 : simK row l c w k 15 arg = (c, w, popK k) := by simp only [simK, if_neg hnv]; rfl
 rw [h6]
 simp only
 generalize popV k = b at *
 rw [callT_eq Tryd.func19 rfl fok19 (by simp [Tryd.ntmps19])]
 simp (disch := first | omega | (simp only [vlen]; omega)) only [vall, reduceCtorEq, ↓reduceIte, zq0, zq1, zq2, zq3, zq4, zq5, zq6, zq7, zq8, zq9, zq10, zq11, zq12, zq13, zq14, zq15, zq16, zq17, en19, op_lookup, ik32, h1, h2, mcK_cn, mcK_0, mcK_1, mcK_2, mcK_3]
 exact ⟨_, rfl⟩
theorem s_19 (row : Int) (l : List Gl) (hg : okG l) (c w r : Int) (k : Kk) (arg : Int) (hk : okK k) (hb : bI arg ∧ bI row ∧ bI c ∧ bI w) : ∃ L, callT E 19 [.ptr 0 0 0 0, .agg [.i (.v (.int .i64 (19))), .i (.v (.int .i64 arg))]] [.box (mcK row (.sl 3 (rowsG l) false) c w r k)] = some (.tup [], .box (mcK row (.sl 3 (rowsG l) false) (simK row l c w k (19) arg).1 (simK row l c w k (19) arg).2.1 r (simK row l c w k (19) arg).2.2) :: L) := by
 have hnv : ¬ isV 19 := by decide
 have h1 := fun T => ik31_N row (.sl 3 (rowsG l) false) c w r k 19 arg hnv T
 have b0 := popV_b hk
 have h2 := fun T => ik18_K row (.sl 3 (rowsG l) false) c w r k hk T
 have hlen := mcK_len (row := row) (g := .sl 3 (rowsG l) false) (c := c) (w := w) (r := r) (popK_ok hk)
 by_cases h3 : 1 ≤ popV k
 ·by_cases h4 : popV k ≤ 3
  ·have h6 : simK row l c w k 19 arg = (popV k, w, popK k) := by
    have : simK row l c w k 19 arg = (if 1 ≤ popV k ∧ popV k ≤ 3 then popV k else c, w, popK k) := by simp only [simK, if_neg hnv]; rfl
    rw [this, if_pos ⟨h3, h4⟩]
   rw [h6]
   simp only
   have hput := mcK_put2 (row := row) (g := .sl 3 (rowsG l) false) (c := c) (w := w) (r := r) (k := popK k) (popV k)
   generalize popV k = b at *
   rw [callT_eq Tryd.func19 rfl fok19 (by simp [Tryd.ntmps19])]
   simp (disch := first | omega | (simp only [vlen, hlen]; omega)) only [vall, reduceCtorEq, ↓reduceIte, zq0, zq1, zq2, zq3, zq4, zq5, zq6, zq7, zq8, zq9, zq10, zq11, zq12, zq13, zq14, zq15, zq16, zq17, en19, op_lookup, ik32, h1, h2, h3, h4, hput, hlen, mcK_cn, mcK_0, mcK_1, mcK_2, mcK_3]
   exact ⟨_, rfl⟩
  ·have h6 : simK row l c w k 19 arg = (c, w, popK k) := by
    have : simK row l c w k 19 arg = (if 1 ≤ popV k ∧ popV k ≤ 3 then popV k else c, w, popK k) := by simp only [simK, if_neg hnv]; rfl
    rw [this, if_neg (fun h => h4 h.2)]
   rw [h6]
   simp only
   generalize popV k = b at *
   rw [callT_eq Tryd.func19 rfl fok19 (by simp [Tryd.ntmps19])]
   simp (disch := first | omega | (simp only [vlen]; omega)) only [vall, reduceCtorEq, ↓reduceIte, zq0, zq1, zq2, zq3, zq4, zq5, zq6, zq7, zq8, zq9, zq10, zq11, zq12, zq13, zq14, zq15, zq16, zq17, en19, op_lookup, ik32, h1, h2, h3, h4, mcK_cn, mcK_0, mcK_1, mcK_2, mcK_3]
   exact ⟨_, rfl⟩
 ·have h6 : simK row l c w k 19 arg = (c, w, popK k) := by
   have : simK row l c w k 19 arg = (if 1 ≤ popV k ∧ popV k ≤ 3 then popV k else c, w, popK k) := by simp only [simK, if_neg hnv]; rfl
   rw [this, if_neg (fun h => h3 h.1)]
  rw [h6]
  simp only
  generalize popV k = b at *
  rw [callT_eq Tryd.func19 rfl fok19 (by simp [Tryd.ntmps19])]
  simp (disch := first | omega | (simp only [vlen]; omega)) only [vall, reduceCtorEq, ↓reduceIte, zq0, zq1, zq2, zq3, zq4, zq5, zq6, zq7, zq8, zq9, zq10, zq11, zq12, zq13, zq14, zq15, zq16, zq17, en19, op_lookup, ik32, h1, h2, h3, mcK_cn, mcK_0, mcK_1, mcK_2, mcK_3]
  exact ⟨_, rfl⟩
theorem s_20 (row : Int) (l : List Gl) (hg : okG l) (c w r : Int) (k : Kk) (arg : Int) (hk : okK k) (hb : bI arg ∧ bI row ∧ bI c ∧ bI w) : ∃ L, callT E 19 [.ptr 0 0 0 0, .agg [.i (.v (.int .i64 (20))), .i (.v (.int .i64 arg))]] [.box (mcK row (.sl 3 (rowsG l) false) c w r k)] = some (.tup [], .box (mcK row (.sl 3 (rowsG l) false) (simK row l c w k (20) arg).1 (simK row l c w k (20) arg).2.1 r (simK row l c w k (20) arg).2.2) :: L) := by
 have hnv : ¬ isV 20 := by decide
 have h1 := fun T => ik31_N row (.sl 3 (rowsG l) false) c w r k 20 arg hnv T
 have b0 := popV_b hk
 have h2 := fun T => ik18_K row (.sl 3 (rowsG l) false) c w r k hk T
 have hlen := mcK_len (row := row) (g := .sl 3 (rowsG l) false) (c := c) (w := w) (r := r) (popK_ok hk)
 by_cases h3 : 0 ≤ popV k
 ·by_cases h4 : popV k ≤ 60000
  ·have h6 : simK row l c w k 20 arg = (c, popV k, popK k) := by
    have : simK row l c w k 20 arg = (c, if 0 ≤ popV k ∧ popV k ≤ 60000 then popV k else w, popK k) := by simp only [simK, if_neg hnv]; rfl
    rw [this, if_pos ⟨h3, h4⟩]
   rw [h6]
   simp only
   have hput := mcK_put3 (row := row) (g := .sl 3 (rowsG l) false) (c := c) (w := w) (r := r) (k := popK k) (popV k)
   generalize popV k = b at *
   rw [callT_eq Tryd.func19 rfl fok19 (by simp [Tryd.ntmps19])]
   simp (disch := first | omega | (simp only [vlen, hlen]; omega)) only [vall, reduceCtorEq, ↓reduceIte, zq0, zq1, zq2, zq3, zq4, zq5, zq6, zq7, zq8, zq9, zq10, zq11, zq12, zq13, zq14, zq15, zq16, zq17, en19, op_lookup, ik32, h1, h2, h3, h4, hput, hlen, mcK_cn, mcK_0, mcK_1, mcK_2, mcK_3]
   exact ⟨_, rfl⟩
  ·have h6 : simK row l c w k 20 arg = (c, w, popK k) := by
    have : simK row l c w k 20 arg = (c, if 0 ≤ popV k ∧ popV k ≤ 60000 then popV k else w, popK k) := by simp only [simK, if_neg hnv]; rfl
    rw [this, if_neg (fun h => h4 h.2)]
   rw [h6]
   simp only
   generalize popV k = b at *
   rw [callT_eq Tryd.func19 rfl fok19 (by simp [Tryd.ntmps19])]
   simp (disch := first | omega | (simp only [vlen]; omega)) only [vall, reduceCtorEq, ↓reduceIte, zq0, zq1, zq2, zq3, zq4, zq5, zq6, zq7, zq8, zq9, zq10, zq11, zq12, zq13, zq14, zq15, zq16, zq17, en19, op_lookup, ik32, h1, h2, h3, h4, mcK_cn, mcK_0, mcK_1, mcK_2, mcK_3]
   exact ⟨_, rfl⟩
 ·have h6 : simK row l c w k 20 arg = (c, w, popK k) := by
   have : simK row l c w k 20 arg = (c, if 0 ≤ popV k ∧ popV k ≤ 60000 then popV k else w, popK k) := by simp only [simK, if_neg hnv]; rfl
   rw [this, if_neg (fun h => h3 h.1)]
  rw [h6]
  simp only
  generalize popV k = b at *
  rw [callT_eq Tryd.func19 rfl fok19 (by simp [Tryd.ntmps19])]
  simp (disch := first | omega | (simp only [vlen]; omega)) only [vall, reduceCtorEq, ↓reduceIte, zq0, zq1, zq2, zq3, zq4, zq5, zq6, zq7, zq8, zq9, zq10, zq11, zq12, zq13, zq14, zq15, zq16, zq17, en19, op_lookup, ik32, h1, h2, h3, mcK_cn, mcK_0, mcK_1, mcK_2, mcK_3]
  exact ⟨_, rfl⟩
theorem c19 (op : Int) (ho : 0 ≤ op ∧ op ≤ 20 ∧ op ≠ 0 ∧ op ≠ 17 ∧ op ≠ 18) (row : Int) (l : List Gl) (hg : okG l) (c w r : Int) (k : Kk) (arg : Int) (hk : okK k) (hb : bI arg ∧ bI row ∧ bI c ∧ bI w) : ∃ L, callT E 19 [.ptr 0 0 0 0, .agg [.i (.v (.int .i64 (op))), .i (.v (.int .i64 arg))]] [.box (mcK row (.sl 3 (rowsG l) false) c w r k)] = some (.tup [], .box (mcK row (.sl 3 (rowsG l) false) (simK row l c w k (op) arg).1 (simK row l c w k (op) arg).2.1 r (simK row l c w k (op) arg).2.2) :: L) := by
 obtain ⟨n, rfl⟩ := Int.eq_ofNat_of_zero_le ho.1
 have hn : n < 21 := by omega
 have hcases : n = 1 ∨ n = 2 ∨ n = 3 ∨ n = 4 ∨ n = 5 ∨ n = 6 ∨ n = 7 ∨ n = 8 ∨ n = 9 ∨ n = 10 ∨ n = 11 ∨ n = 12 ∨ n = 13 ∨ n = 14 ∨ n = 15 ∨ n = 16 ∨ n = 19 ∨ n = 20 := by omega
 rcases hcases with rfl | rfl | rfl | rfl | rfl | rfl | rfl | rfl | rfl | rfl | rfl | rfl | rfl | rfl | rfl | rfl | rfl | rfl
 ·exact s_val 1 (by decide) row l hg c w r k arg hk hb
 ·exact s_val 2 (by decide) row l hg c w r k arg hk hb
 ·exact s_val 3 (by decide) row l hg c w r k arg hk hb
 ·exact s_4 row l hg c w r k arg hk hb
 ·exact s_5 row l hg c w r k arg hk hb
 ·exact s_val 6 (by decide) row l hg c w r k arg hk hb
 ·exact s_val 7 (by decide) row l hg c w r k arg hk hb
 ·exact s_8 row l hg c w r k arg hk hb
 ·exact s_9 row l hg c w r k arg hk hb
 ·exact s_10 row l hg c w r k arg hk hb
 ·exact s_11 row l hg c w r k arg hk hb
 ·exact s_12 row l hg c w r k arg hk hb
 ·exact s_13 row l hg c w r k arg hk hb
 ·exact s_14 row l hg c w r k arg hk hb
 ·exact s_15 row l hg c w r k arg hk hb
 ·exact s_16 row l hg c w r k arg hk hb
 ·exact s_19 row l hg c w r k arg hk hb
 ·exact s_20 row l hg c w r k arg hk hb
end Go.VI

namespace Go.VI
open Go.Proofs Go.RowKit Go.Shelf
attribute [local go_sem] Oper.semAt_some
set_option maxRecDepth 100000
set_option linter.unusedSimpArgs false
set_option linter.unusedVariables false
set_option maxHeartbeats 4000000
theorem seq_inv {css : List (List Int)} {xs : List Int} (h : seqSucc css = some xs) : ∃ op arg i, css = [[op, arg], [i]] ∧ (-9223372036854775808 ≤ i + 1 ∧ i + 1 ≤ 9223372036854775807) ∧ sucL op arg i = xs := by
 unfold seqSucc at h
 split at h
 ·rename_i op arg i
  split at h
  ·rename_i hi
   cases h
   exact ⟨op, arg, i, rfl, hi, rfl⟩
  ·cases h
 ·cases h
theorem seq_succ : Seq1 Tryd.prog 29 seqSucc := by
 intro l nn css xs bs J Jx W hL hlen hcells hdr hdrx hY h0
 obtain ⟨op, arg, i, rfl, ⟨hi1, hi2⟩, rfl⟩ := seq_inv hL
 obtain ⟨b1, b2, rfl⟩ : ∃ b1 b2, bs = [b1, b2] := by
  cases bs with
  | nil => cases hlen
  | cons a bs => cases bs with
   | nil => cases hlen
   | cons b bs => cases bs with
    | nil => exact ⟨a, b, rfl⟩
    | cons c bs => simp at hlen
 have c1 : ∀ j W, J j W → W.cell? ⟨b1, 0, none⟩ = some (.int .i64 op) := fun j W h => hcells j W h 0 b1 [op, arg] rfl rfl 0 op rfl
 have c2 : ∀ j W, J j W → W.cell? ⟨b1, 1, none⟩ = some (.int .i64 arg) := fun j W h => hcells j W h 0 b1 [op, arg] rfl rfl 1 arg rfl
 have c3 : ∀ j W, J j W → W.cell? ⟨b2, 0, none⟩ = some (.int .i64 i) := fun j W h => hcells j W h 1 b2 [i] rfl rfl 0 i rfl
 have a1 := c1 0 W h0
 have a2 := c2 0 W h0
 have a3 := c3 0 W h0
 have hw : IntKind.i64.wrap (i + 1) = i + 1 := w_i64 hi1 hi2
 refine callsIn_of_wp Tryd.func29 rfl trivial ?_ rfl
 simp only [ptrV, List.map_cons, List.map_nil, Tryd.ntmps29, List.size_toArray, List.length_cons, List.length_nil, Nat.reduceAdd, Nat.reduceSub, Array.replicate_succ, Array.replicate_zero, List.push_toArray, List.append_toArray, List.nil_append, List.cons_append]
 by_cases h : op = 0
 ·subst h
  have hs : sucL 0 arg i = [] := by simp [sucL]
  rw [hs] at hY ⊢
  gi_wp2
  refine ⟨fun _ h => (by cases h), ?_⟩
  gi_wp2
  go_end0
  exact ⟨⟨_, rfl⟩, .inl h0⟩
 ·by_cases h17 : op = 17
  ·subst h17
   have hs : sucL 17 arg i = [arg] := by simp [sucL]
   rw [hs] at hY ⊢
   obtain ⟨f1, t1, s1, d1, hy1, hR1⟩ := hY (nn - 1) 0 arg W rfl h0
   gi_wp2
   refine ⟨fun _ h => (by cases h), ?_⟩
   gi_wp2
   refine ⟨fun h => (by cases h), hR1.mono ?_⟩
   rintro e W1 (⟨rfl, hJ1⟩ | ⟨rfl, hx1⟩)
   ·gi_wp2
    go_end0
    exact ⟨⟨_, rfl⟩, .inl hJ1⟩
   ·gi_wp2
    go_end0
    exact ⟨⟨_, rfl⟩, .inr hx1⟩
  ·have hs : sucL op arg i = (i + 1) :: (if op = 17 ∨ op = 18 then [arg] else []) := by unfold sucL; rw [if_neg (by omega)]; rfl
   rw [hs] at hY ⊢
   obtain ⟨f1, t1, s1, d1, hy1, hR1⟩ := hY (nn - 1) 0 (i + 1) W rfl h0
   have q1 : (op != 0) = true := by simp [h]
   have q2 : (op != 17) = true := by simp [h17]
   have q4 : (op == 17) = false := by simp [h17]
   by_cases h18 : op = 18
   ·subst h18
    gi_wp2
    refine ⟨fun h => (by cases h), hR1.mono ?_⟩
    rintro e W1 (⟨rfl, hJ1⟩ | ⟨rfl, hx1⟩)
    ·have e1 := c1 1 W1 hJ1
     have e2 := c2 1 W1 hJ1
     obtain ⟨f2, t2, s2, d2, hy2, hR2⟩ := hY (nn - 1) 1 arg W1 rfl hJ1
     gi_wp2
     refine ⟨fun h => (by cases h), hR2.mono ?_⟩
     rintro e W2 (⟨rfl, hJ2⟩ | ⟨rfl, hx2⟩)
     ·gi_wp2
      go_end0
      exact ⟨⟨_, rfl⟩, .inl hJ2⟩
     ·gi_wp2
      go_end0
      exact ⟨⟨_, rfl⟩, .inr hx2⟩
    ·gi_wp2
     refine bodyPost_ret (results_none rfl _ _ _) rfl ?_
     exact ⟨⟨_, rfl⟩, .inr hx1⟩
   ·rw [if_neg (show ¬ (op = 17 ∨ op = 18) by omega)] at hY ⊢
    have q3 : (op == 18) = false := by simp [h18]
    gi_wp2
    refine ⟨fun h => (by cases h), hR1.mono ?_⟩
    rintro e W1 (⟨rfl, hJ1⟩ | ⟨rfl, hx1⟩)
    ·have e1 := c1 1 W1 hJ1
     gi_wp2
     go_end0
     exact ⟨⟨_, rfl⟩, .inl hJ1⟩
    ·gi_wp2
     refine bodyPost_ret (results_none rfl _ _ _) rfl ?_
     exact ⟨⟨_, rfl⟩, .inr hx1⟩
theorem seqOK : SeqOK E := by
 intro g L h
 rcases E_seqI g L h with ⟨rfl, rfl⟩ | h
 ·exact ⟨ent29, seq_succ⟩
 ·exact h.elim
end Go.VI

namespace Go.VI
open Go.Proofs
set_option maxRecDepth 100000
set_option linter.unusedSimpArgs false
set_option linter.unusedVariables false
set_option maxHeartbeats 4000000
abbrev Ins := Int × Int
def insC (p : Ins) : List IV := [.v (.int .i64 p.1), .v (.int .i64 p.2)]
def rowsI (l : List Ins) : List (List IV) := l.map insC
theorem rowsI_len (l : List Ins) : (rowsI l).length = l.length := by simp [rowsI]
theorem rowsI_at {l : List Ins} {k : Nat} (h : k < l.length) : (rowsI l)[k]? = some [.v (.int .i64 l[k].1), .v (.int .i64 l[k].2)] := by simp [rowsI, insC, h]
def boundsS (op i n : Int) : Int × Int := if op = 1 then (-999999999, 999999999) else if op = 17 ∨ op = 18 then (i + 1, n) else (0, 0)
def chk1 (n i : Int) (p : Ins) : Int := if p.1 < 0 ∨ 20 < p.1 then 9 else if p.2 < (boundsS p.1 i n).1 ∨ (boundsS p.1 i n).2 < p.2 then 2 else 0
def chkL (n : Int) : Nat → List Ins → Int
 | _, [] => 0
 | i, p :: r => if chk1 n i p = 0 then chkL n (i + 1) r else chk1 n i p
def checkI (l : List Ins) : Int := if 500 < (l.length : Int) then 5 else chkL l.length 0 l
theorem c30 (op i n : Int) (hi : -9223372036854775808 ≤ i + 1 ∧ i + 1 ≤ 9223372036854775807) : ∃ L, callT E 30 [.i (.v (.int .i64 op)), .i (.v (.int .i64 i)), .i (.v (.int .i64 n))] [] = some (.tup [.i (.v (.int .i64 (boundsS op i n).1)), .i (.v (.int .i64 (boundsS op i n).2))], L) := by
 unfold boundsS
 by_cases h1 : op = 1
 ·subst h1; rw [callT_eq Tryd.func30 rfl fok30 (by simp [Tryd.ntmps30])]; simp (disch := first | omega | (simp only [vlen]; omega)) only [vall, reduceCtorEq, ↓reduceIte, zq0, zq1, zq2, zq3, zq4, zq5, zq6, zq7, zq8, zq9, zq10, zq11, zq12, zq13, zq14, zq15, zq16, zq17, en30]; exact ⟨_, rfl⟩
 ·by_cases h2 : op = 17
  ·subst h2; rw [callT_eq Tryd.func30 rfl fok30 (by simp [Tryd.ntmps30])]; simp (disch := first | omega | (simp only [vlen]; omega)) only [vall, reduceCtorEq, ↓reduceIte, zq0, zq1, zq2, zq3, zq4, zq5, zq6, zq7, zq8, zq9, zq10, zq11, zq12, zq13, zq14, zq15, zq16, zq17, en30]; exact ⟨_, rfl⟩
  ·by_cases h3 : op = 18
   ·subst h3; rw [callT_eq Tryd.func30 rfl fok30 (by simp [Tryd.ntmps30])]; simp (disch := first | omega | (simp only [vlen]; omega)) only [vall, reduceCtorEq, ↓reduceIte, zq0, zq1, zq2, zq3, zq4, zq5, zq6, zq7, zq8, zq9, zq10, zq11, zq12, zq13, zq14, zq15, zq16, zq17, en30]; exact ⟨_, rfl⟩
   ·rw [if_neg h1, if_neg (by omega)]; rw [callT_eq Tryd.func30 rfl fok30 (by simp [Tryd.ntmps30])]; simp (disch := first | omega | (simp only [vlen]; omega)) only [vall, reduceCtorEq, ↓reduceIte, zq0, zq1, zq2, zq3, zq4, zq5, zq6, zq7, zq8, zq9, zq10, zq11, zq12, zq13, zq14, zq15, zq16, zq17, en30, h1, h2, h3]; exact ⟨_, rfl⟩
theorem ik30 (op i n : Int) (hi : -9223372036854775808 ≤ i + 1 ∧ i + 1 ≤ 9223372036854775807) (H : Hp) : isoK E (callT E) 30 [.i (.v (.int .i64 op)), .i (.v (.int .i64 i)), .i (.v (.int .i64 n))] H = some (.tup [.i (.v (.int .i64 (boundsS op i n).1)), .i (.v (.int .i64 (boundsS op i n).2))], H) := isoK_val rfl rfl rfl (c30 op i n hi)
theorem names_all : (match call E 60 22 [] [] with | some (.i (.sl 1 R false), _) => decide (R.length = 21) | _ => false) = true := by kernel_rfl
theorem c22 : ∃ R : List (List IV), R.length = 21 ∧ ∃ L, callT E 22 [] [] = some (.i (.sl 1 R false), L) := by
 have h := names_all
 split at h
 ·rename_i R L hL
  exact ⟨R, of_decide_eq_true h, L, callT_of hL⟩
 ·cases h
theorem ik22 : ∃ R : List (List IV), (R.length : Int) = 21 ∧ ∀ H, isoK E (callT E) 22 [] H = some (.i (.sl 1 R false), H) := by
 obtain ⟨R, h1, h2⟩ := c22
 exact ⟨R, by omega, fun H => isoK_val rfl rfl rfl h2⟩
def chP (e : Int) (fr : Fr) (ex : Ex) : Prop := (e = 0 ∧ ex = .exit 0) ∨ (e ≠ 0 ∧ ex = .ret ∧ get 2 fr = .i (.v (.int .i64 e)))
set_option linter.defProp false in
def lp17_4 := show ∀ B fr H, execT E B 17 (Code.loop _) fr H = rlG E B 17 (loopAt Tryd.f17 0) (gcn B (norm [0, 10, 11, 12] fr) H) from fun B fr H => rl_intro rfl mt17_4 mb17_4 zf17_4 hd17_4 fr H
theorem l17 (l : List Ins) (hl : l.length ≤ 500) (k : Nat) (hk : k ≤ l.length) :
  ∃ fr ex H', rl E 0 17 (loopAt Tryd.f17 0) [(0, .i (.sl 2 (rowsI l) false)), (10, .i (.sl 2 (rowsI l) false)), (11, .i (.v (.int .i64 l.length))), (12, .i (.v (.int .i64 k)))] [] = some (ex, fr, H') ∧ chP (chkL l.length k (l.drop k)) fr ex := by
 rw [rl_step (fn := Tryd.f17) (k := 0) rfl]
 by_cases hlt : k < l.length
 ·have hrow := rowsI_at hlt
  rw [List.drop_eq_getElem_cons hlt, chkL]
  obtain ⟨fr, ex, H', e, hh⟩ := l17 l hl (k + 1) hlt
  obtain ⟨op, arg, hp⟩ : ∃ op arg, l[k] = (op, arg) := ⟨_, _, rfl⟩
  rw [hp] at hrow ⊢
  simp only at hrow
  obtain ⟨R, hR, hN⟩ := ik22
  have hb := fun H => ik30 op k l.length (by omega) H
  have hchk : chk1 l.length k (op, arg) = if op < 0 ∨ 20 < op then 9 else if arg < (boundsS op k l.length).1 ∨ (boundsS op k l.length).2 < arg then 2 else 0 := rfl
  generalize boundsS op k l.length = q at *
  generalize chk1 l.length k (op, arg) = ch at *
  obtain ⟨lo, hi⟩ := q
  simp only at hb hchk ⊢
  by_cases h1 : op < 0
  ·rw [if_pos (.inl h1)] at hchk
   subst hchk
   rw [if_neg (by decide)]
   clear e hh
   simp (disch := first | omega | (simp only [vlen, rowsI_len]; omega)) only [vall, reduceCtorEq, ↓reduceIte, zq0, zq1, zq2, zq3, zq4, zq5, zq6, zq7, zq8, zq9, zq10, zq11, zq12, zq13, zq14, zq15, zq16, zq17, en17, bs22, bs72, hrow, rowsI_len, h1, hN, hR, lp17_4]
   exact ⟨_, _, _, rfl, .inr ⟨by decide, rfl, rfl⟩⟩
  ·by_cases h2 : 21 ≤ op
   ·rw [if_pos (.inr (by omega))] at hchk
    subst hchk
    rw [if_neg (by decide)]
    clear e hh
    simp (disch := first | omega | (simp only [vlen, rowsI_len]; omega)) only [vall, reduceCtorEq, ↓reduceIte, zq0, zq1, zq2, zq3, zq4, zq5, zq6, zq7, zq8, zq9, zq10, zq11, zq12, zq13, zq14, zq15, zq16, zq17, en17, bs22, bs72, hrow, rowsI_len, h1, h2, hN, hR, lp17_4]
    exact ⟨_, _, _, rfl, .inr ⟨by decide, rfl, rfl⟩⟩
   ·rw [if_neg (by omega)] at hchk
    by_cases h3 : arg < lo
    ·rw [if_pos (.inl h3)] at hchk
     subst hchk
     rw [if_neg (by decide)]
     clear e hh
     simp (disch := first | omega | (simp only [vlen, rowsI_len]; omega)) only [vall, reduceCtorEq, ↓reduceIte, zq0, zq1, zq2, zq3, zq4, zq5, zq6, zq7, zq8, zq9, zq10, zq11, zq12, zq13, zq14, zq15, zq16, zq17, en17, bs22, bs72, hrow, rowsI_len, h1, h2, h3, hN, hR, hb, lp17_4]
     exact ⟨_, _, _, rfl, .inr ⟨by decide, rfl, rfl⟩⟩
    ·by_cases h4 : hi < arg
     ·rw [if_pos (.inr h4)] at hchk
      subst hchk
      rw [if_neg (by decide)]
      clear e hh
      simp (disch := first | omega | (simp only [vlen, rowsI_len]; omega)) only [vall, reduceCtorEq, ↓reduceIte, zq0, zq1, zq2, zq3, zq4, zq5, zq6, zq7, zq8, zq9, zq10, zq11, zq12, zq13, zq14, zq15, zq16, zq17, en17, bs22, bs72, hrow, rowsI_len, h1, h2, h3, h4, hN, hR, hb, lp17_4]
      exact ⟨_, _, _, rfl, .inr ⟨by decide, rfl, rfl⟩⟩
     ·rw [if_neg (by omega)] at hchk
      subst hchk
      rw [if_pos rfl]
      refine ⟨fr, ex, H', Eq.trans ?_ e, hh⟩
      clear e hh
      simp (disch := first | omega | (simp only [vlen, rowsI_len]; omega)) only [vall, reduceCtorEq, ↓reduceIte, zq0, zq1, zq2, zq3, zq4, zq5, zq6, zq7, zq8, zq9, zq10, zq11, zq12, zq13, zq14, zq15, zq16, zq17, en17, bs22, bs72, hrow, rowsI_len, h1, h2, h3, h4, hN, hR, hb, lp17_4]
 ·obtain rfl : k = l.length := by omega
  rw [List.drop_length, chkL]
  simp (disch := first | omega | (simp only [vlen, rowsI_len]; omega)) only [vall, reduceCtorEq, ↓reduceIte, zq0, zq1, zq2, zq3, zq4, zq5, zq6, zq7, zq8, zq9, zq10, zq11, zq12, zq13, zq14, zq15, zq16, zq17, en17, bs22, bs72, rowsI_len, lp17_4]
  exact ⟨_, _, _, rfl, .inl ⟨rfl, rfl⟩⟩
termination_by l.length - k
theorem c17 (l : List Ins) (hl : (l.length : Int) < 9223372036854775808) : ∃ L, callT E 17 [.i (.sl 2 (rowsI l) false)] [] = some (.i (.v (.int .i64 (checkI l))), L) := by
 unfold checkI
 by_cases h5 : 500 < (l.length : Int)
 ·rw [if_pos h5]
  rw [callT_eq Tryd.func17 rfl fok17 (by simp [Tryd.ntmps17])]
  simp (disch := first | omega | (simp only [vlen, rowsI_len]; omega)) only [vall, reduceCtorEq, ↓reduceIte, zq0, zq1, zq2, zq3, zq4, zq5, zq6, zq7, zq8, zq9, zq10, zq11, zq12, zq13, zq14, zq15, zq16, zq17, en17, bs22, bs72, rowsI_len, h5]
  exact ⟨_, rfl⟩
 ·rw [if_neg h5]
  obtain ⟨fr, ex, H', e, hh⟩ := l17 l (by omega) 0 (Nat.zero_le _)
  rw [List.drop_zero] at hh
  have e' : rl E 0 17 (loopAt Tryd.f17 0) [(0, .i (.sl 2 (rowsI l) false)), (10, .i (.sl 2 (rowsI l) false)), (11, .i (.v (.int .i64 l.length))), (12, .i (.v (.int .i64 0)))] [] = _ := e
  rcases hh with ⟨h1, rfl⟩ | ⟨h1, rfl, h2⟩
  ·rw [h1]
   rw [callT_eq Tryd.func17 rfl fok17 (by simp [Tryd.ntmps17])]
   simp (disch := first | omega | (simp only [vlen, rowsI_len]; omega)) only [vall, reduceCtorEq, ↓reduceIte, zq0, zq1, zq2, zq3, zq4, zq5, zq6, zq7, zq8, zq9, zq10, zq11, zq12, zq13, zq14, zq15, zq16, zq17, en17, bs22, bs72, rowsI_len, h5, e', lp17_4]
   exact ⟨_, rfl⟩
  ·generalize chkL l.length 0 l = q at *
   rw [callT_eq Tryd.func17 rfl fok17 (by simp [Tryd.ntmps17])]
   simp (disch := first | omega | (simp only [vlen, rowsI_len]; omega)) only [vall, reduceCtorEq, ↓reduceIte, zq0, zq1, zq2, zq3, zq4, zq5, zq6, zq7, zq8, zq9, zq10, zq11, zq12, zq13, zq14, zq15, zq16, zq17, en17, bs22, bs72, rowsI_len, h5, e', h2, lp17_4]
   exact ⟨_, rfl⟩
theorem ik17 (l : List Ins) (hl : (l.length : Int) < 9223372036854775808) (H : Hp) : isoK E (callT E) 17 [.i (.sl 2 (rowsI l) false)] H = some (.i (.v (.int .i64 (checkI l))), H) := isoK_val rfl rfl rfl (c17 l hl)
end Go.VI

namespace Go.VI
open Go.Proofs
set_option maxRecDepth 100000
set_option linter.unusedSimpArgs false
set_option linter.unusedVariables false
set_option maxHeartbeats 4000000
def rows64 (l : List Int) : List (List IV) := l.map fun n => [.v (.int .i64 n)]
theorem rows64_len (l : List Int) : (rows64 l).length = l.length := by simp [rows64]
theorem rows64_at {l : List Int} {k : Nat} (h : k < l.length) : (rows64 l)[k]? = some [.v (.int .i64 l[k])] := by simp [rows64, h]
theorem rows64_set (l : List Int) (k : Nat) (x : Int) : (rows64 l).set k [.v (.int .i64 x)] = rows64 (l.set k x) := by simp [rows64, List.map_set]
theorem rows64_rep (n : Nat) (x : Int) : List.replicate n [IV.v (.int .i64 x)] = rows64 (List.replicate n x) := by simp [rows64]
def popS (op : Int) : Int := popsL.getD op.toNat 0
def pushS (op : Int) : Int := pushesL.getD op.toNat 0
theorem tab_at {l : List Int} {n : Nat} (h : n < l.length) : (tabT l)[n]? = some (.v (.int .i64 (l.getD n 0))) := by
 rw [List.getD_eq_getElem?_getD, List.getElem?_eq_getElem h]
 simp [tabT, h]
theorem pops_at {op : Int} (h0 : 0 ≤ op) (h1 : op ≤ 20) : popsT[op.toNat]? = some (.v (.int .i64 (popS op))) := tab_at (by show op.toNat < 21; omega)
theorem pushes_at {op : Int} (h0 : 0 ≤ op) (h1 : op ≤ 20) : pushesT[op.toNat]? = some (.v (.int .i64 (pushS op))) := tab_at (by show op.toNat < 21; omega)
theorem popS_r (op : Int) : 0 ≤ popS op ∧ popS op ≤ 2 := by
 have key : ∀ x ∈ popsL, 0 ≤ x ∧ x ≤ 2 := by decide
 unfold popS
 rw [List.getD_eq_getElem?_getD]
 cases h : popsL[op.toNat]? with
 | none => simp
 | some x => exact key x (List.mem_of_getElem? h)
theorem pushS_r (op : Int) : 0 ≤ pushS op ∧ pushS op ≤ 2 := by
 have key : ∀ x ∈ pushesL, 0 ≤ x ∧ x ≤ 2 := by decide
 unfold pushS
 rw [List.getD_eq_getElem?_getD]
 cases h : pushesL[op.toNat]? with
 | none => simp
 | some x => exact key x (List.mem_of_getElem? h)
def dSet (n after : Int) : List Int → List Int → Option (List Int)
 | [], out => some out
 | k :: ks, out => if k < n ∧ 0 ≤ out.getD k.toNat 0 ∧ out.getD k.toNat 0 ≠ after then none else dSet n after ks (out.set k.toNat after)
def dStep (n : Nat) (i : Nat) (p : Ins) (out : List Int) : Option (List Int) :=
 if out.getD i 0 < 0 then some out
 else if out.getD i 0 < popS p.1 ∨ 16 < out.getD i 0 - popS p.1 + pushS p.1 then none
 else dSet n (out.getD i 0 - popS p.1 + pushS p.1) (sucL p.1 p.2 i) out
def dRun (n : Nat) : Nat → List Ins → List Int → Option (List Int)
 | _, [], out => some out
 | i, p :: r, out => match dStep n i p out with
  | some out' => dRun n (i + 1) r out'
  | none => none
def depthsS (l : List Ins) : List Int × Int := if checkI l = 0 then match dRun l.length 0 l (0 :: List.replicate l.length (-1)) with
 | some out => (out.take l.length, 0)
 | none => ([], 13) else ([], checkI l)
set_option linter.defProp false in
def lp14_6 := show ∀ B fr H, execT E B 14 (Code.loop _) fr H = rlG E B 14 (loopAt Tryd.f14 0) (gcn B (norm [1, 2, 3, 5, 21, 22] fr) H) from fun B fr H => rl_intro rfl mt14_6 mb14_6 zf14_6 hd14_6 fr H
theorem l14_0 (l : List Ins) (n : Nat) (hn : n < 1000000) (k : Nat) (hk : k ≤ n) :
  ∃ fr, rl E 0 14 (loopAt Tryd.f14 0) [(1, .ptr 0 0 0 0), (2, .ptr 1 0 0 0), (3, .ptr 2 0 0 0), (5, .ptr 3 0 0 0), (21, .i (.v (.int .i64 (n)))), (22, .i (.v (.int .i64 (k))))] [.box [.i (.sl 2 (rowsI l) false)], .box [.i (.sl 0 [] true)], .box [.i (.v (.int .i64 0))], .box [.ref 4 0 0 (n)], .sl 1 0 (rows64 (List.replicate k (-1) ++ List.replicate (n - k) 0)) false] = some (.exit 0, fr, [.box [.i (.sl 2 (rowsI l) false)], .box [.i (.sl 0 [] true)], .box [.i (.v (.int .i64 0))], .box [.ref 4 0 0 (n)], .sl 1 0 (rows64 (List.replicate n (-1))) false]) ∧ get 1 fr = .ptr 0 0 0 0 ∧ get 2 fr = .ptr 1 0 0 0 ∧ get 3 fr = .ptr 2 0 0 0 ∧ get 5 fr = .ptr 3 0 0 0 := by
 rw [rl_step (fn := Tryd.f14) (k := 0) rfl]
 by_cases hlt : k < n
 ·obtain ⟨fr, e, hh⟩ := l14_0 l n hn (k + 1) hlt
  refine ⟨fr, Eq.trans ?_ e, hh⟩
  clear e hh
  have ho : (List.replicate k (-1 : Int) ++ List.replicate (n - k) 0).length = n := by simp; omega
  have hs : (List.replicate k (-1 : Int) ++ List.replicate (n - k) 0).set k (-1) = List.replicate (k + 1) (-1) ++ List.replicate (n - (k + 1)) 0 := by
   apply List.ext_getElem?
   intro j
   rw [List.getElem?_set]
   by_cases hj : k = j
   ·subst hj
    rw [if_pos rfl, if_pos (by omega), List.getElem?_append_left (by simp), List.getElem?_replicate, if_pos (by omega)]
   ·rw [if_neg hj]
    by_cases hjk : j < k
    ·rw [List.getElem?_append_left (by simpa using hjk), List.getElem?_append_left (by simp; omega), List.getElem?_replicate, List.getElem?_replicate, if_pos hjk, if_pos (by omega)]
    ·rw [List.getElem?_append_right (by simp; omega), List.getElem?_append_right (by simp; omega), List.getElem?_replicate, List.getElem?_replicate]
     simp only [List.length_replicate]
     by_cases hjn : j - k < n - k
     ·rw [if_pos hjn, if_pos (by omega)]
     ·rw [if_neg hjn, if_neg (by omega)]
  obtain ⟨x, hrow⟩ : ∃ x, (rows64 (List.replicate k (-1 : Int) ++ List.replicate (n - k) 0))[k]? = some [.v (.int .i64 x)] := ⟨_, rows64_at (by omega)⟩
  rw [← hs]
  generalize List.replicate k (-1 : Int) ++ List.replicate (n - k) 0 = out at *
  simp (disch := first | omega | (simp only [vlen, rows64_len]; omega)) only [vall, reduceCtorEq, ↓reduceIte, zq0, zq1, zq2, zq3, zq4, zq5, zq6, zq7, zq8, zq9, zq10, zq11, zq12, zq13, zq14, zq15, zq16, zq17, en14, bs22, bs45, rows64_len, hrow, rows64_set, lp14_6]
 ·obtain rfl : k = n := by omega
  rw [Nat.sub_self, List.replicate_zero, List.append_nil]
  generalize List.replicate k (-1 : Int) = out at *
  simp (disch := first | omega | (simp only [vlen, rows64_len]; omega)) only [vall, reduceCtorEq, ↓reduceIte, zq0, zq1, zq2, zq3, zq4, zq5, zq6, zq7, zq8, zq9, zq10, zq11, zq12, zq13, zq14, zq15, zq16, zq17, en14, bs22, bs45, rows64_len, lp14_6]
  exact ⟨_, rfl, rfl, rfl, rfl, rfl⟩
termination_by n - k
end Go.VI

namespace Go.VI
open Go.Proofs
set_option maxRecDepth 100000
set_option linter.unusedSimpArgs false
set_option linter.unusedVariables false
set_option maxHeartbeats 4000000
theorem rows64_get {l : List Int} {k : Nat} (h : k < l.length) : (rows64 l)[k]? = some [.v (.int .i64 (l.getD k 0))] := by
 rw [rows64_at h, List.getD_eq_getElem?_getD, List.getElem?_eq_getElem h]; rfl
theorem rd14 (l : List Ins) (hl : l.length < 100000) (n : Nat) (hn : n = l.length + 1) (out : List Int) (ho : out.length = n) (op arg af i k x : Int) (hx : 0 ≤ x ∧ x ≤ l.length) :
  rdF E 14 (rfAt Tryd.f14 0) ((73, .i (.v (.int .i64 x))) :: [(1, .ptr 0 0 0 0), (2, .ptr 1 0 0 0), (3, .ptr 2 0 0 0), (5, .ptr 3 0 0 0), (9, .ptr 6 0 0 0), (31, .i (.sl 2 (rowsI l) false)), (32, .i (.v (.int .i64 l.length))), (33, .i (.v (.int .i64 (k)))), (72, .clo (.func 29) [] [.ptr 7 0 0 0, .ptr 8 0 0 0])]) [.box [.i (.sl 2 (rowsI l) false)], .box [.i (.sl 0 [] true)], .box [.i (.v (.int .i64 (0)))], .box [.ref 4 0 0 (n)], .sl 1 0 (rows64 (out)) false, .box [.i (.v (.int .i64 (op))), .i (.v (.int .i64 (arg)))], .box [.i (.v (.int .i64 (af)))], .box [.i (.v (.int .i64 (op))), .i (.v (.int .i64 (arg)))], .box [.i (.v (.int .i64 (i)))]] =
   if x < l.length ∧ 0 ≤ out.getD x.toNat 0 ∧ out.getD x.toNat 0 ≠ af then some (.ret, [.box [.i (.sl 2 (rowsI l) false)], .box [.i (.sl 0 [] true)], .box [.i (.v (.int .i64 (13)))], .box [.ref 4 0 0 (n)], .sl 1 0 (rows64 (out)) false, .box [.i (.v (.int .i64 (op))), .i (.v (.int .i64 (arg)))], .box [.i (.v (.int .i64 (af)))], .box [.i (.v (.int .i64 (op))), .i (.v (.int .i64 (arg)))], .box [.i (.v (.int .i64 (i)))]]) else some (.normal, [.box [.i (.sl 2 (rowsI l) false)], .box [.i (.sl 0 [] true)], .box [.i (.v (.int .i64 (0)))], .box [.ref 4 0 0 (n)], .sl 1 0 (rows64 (out.set x.toNat af)) false, .box [.i (.v (.int .i64 (op))), .i (.v (.int .i64 (arg)))], .box [.i (.v (.int .i64 (af)))], .box [.i (.v (.int .i64 (op))), .i (.v (.int .i64 (arg)))], .box [.i (.v (.int .i64 (i)))]]) := by
 have hrow := rows64_get (l := out) (k := x.toNat) (by omega)
 generalize hy : out.getD x.toNat 0 = y at *
 rw [rd_step (fn := Tryd.f14) (k := 0) rfl]
 by_cases h1 : x < l.length
 ·by_cases h2 : 0 ≤ y
  ·by_cases h3 : y = af
   ·rw [if_neg (fun h => h.2.2 h3)]
    subst h3
    simp (disch := first | omega | (simp only [vlen, rows64_len, rowsI_len]; omega)) only [vall, reduceCtorEq, ↓reduceIte, zq0, zq1, zq2, zq3, zq4, zq5, zq6, zq7, zq8, zq9, zq10, zq11, zq12, zq13, zq14, zq15, zq16, zq17, en14, bs22, bs45, rows64_len, rowsI_len, hrow, h1, h2, rows64_set]
   ·rw [if_pos ⟨h1, h2, h3⟩]
    simp (disch := first | omega | (simp only [vlen, rows64_len, rowsI_len]; omega)) only [vall, reduceCtorEq, ↓reduceIte, zq0, zq1, zq2, zq3, zq4, zq5, zq6, zq7, zq8, zq9, zq10, zq11, zq12, zq13, zq14, zq15, zq16, zq17, en14, bs22, bs45, rows64_len, rowsI_len, hrow, h1, h2, h3, rows64_set]
  ·rw [if_neg (fun h => h2 h.2.1)]
   simp (disch := first | omega | (simp only [vlen, rows64_len, rowsI_len]; omega)) only [vall, reduceCtorEq, ↓reduceIte, zq0, zq1, zq2, zq3, zq4, zq5, zq6, zq7, zq8, zq9, zq10, zq11, zq12, zq13, zq14, zq15, zq16, zq17, en14, bs22, bs45, rows64_len, rowsI_len, hrow, h1, h2, rows64_set]
 ·rw [if_neg (fun h => h1 h.1)]
  simp (disch := first | omega | (simp only [vlen, rows64_len, rowsI_len]; omega)) only [vall, reduceCtorEq, ↓reduceIte, zq0, zq1, zq2, zq3, zq4, zq5, zq6, zq7, zq8, zq9, zq10, zq11, zq12, zq13, zq14, zq15, zq16, zq17, en14, bs22, bs45, rows64_len, rowsI_len, hrow, h1, rows64_set]
end Go.VI

namespace Go.VI
open Go.Proofs
set_option maxRecDepth 100000
set_option linter.unusedSimpArgs false
set_option linter.unusedVariables false
set_option maxHeartbeats 4000000
theorem c16 (op arg i : Int) : callT E 16 [.agg [.i (.v (.int .i64 op)), .i (.v (.int .i64 arg))], .i (.v (.int .i64 i))] [] = some (.clo (.func 29) [] [.ptr 0 0 0 0, .ptr 1 0 0 0], [.box [.i (.v (.int .i64 op)), .i (.v (.int .i64 arg))], .box [.i (.v (.int .i64 i))]]) := by
 rw [callT_eq Tryd.func16 rfl fok16 (by simp [Tryd.ntmps16])]
 simp (disch := first | omega | (simp only [vlen]; omega)) only [vall, reduceCtorEq, ↓reduceIte, zq0, zq1, zq2, zq3, zq4, zq5, zq6, zq7, zq8, zq9, zq10, zq11, zq12, zq13, zq14, zq15, zq16, zq17, en16]
theorem ik16 (op arg i : Int) (H : Hp) : isoK E (callT E) 16 [.agg [.i (.v (.int .i64 op)), .i (.v (.int .i64 arg))], .i (.v (.int .i64 i))] H = some (.clo (.func 29) [] [.ptr H.length 0 0 0, .ptr (H.length + 1) 0 0 0], H ++ [.box [.i (.v (.int .i64 op)), .i (.v (.int .i64 arg))], .box [.i (.v (.int .i64 i))]]) := by
 have h := c16 op arg i
 unfold isoK
 simp [exCl, show E.ext 16 = none from rfl, refsL, refsA, reach, renL, renA, posIn, h, Chunk.refs, Chunk.ren, setAll, backRen]
 exact Nat.add_comm _ _
theorem rg14 (l : List Ins) (hl : l.length < 100000) (n : Nat) (hn : n = l.length + 1) (op arg af i k : Int) : ∀ (xs : List Int), (∀ x ∈ xs, 0 ≤ x ∧ x ≤ l.length) → ∀ out : List Int, out.length = n →
  (∃ out', dSet l.length af xs out = some out' ∧ out'.length = n ∧ rgE (rdF E 14 (rfAt Tryd.f14 0)) 73 [(1, .ptr 0 0 0 0), (2, .ptr 1 0 0 0), (3, .ptr 2 0 0 0), (5, .ptr 3 0 0 0), (9, .ptr 6 0 0 0), (31, .i (.sl 2 (rowsI l) false)), (32, .i (.v (.int .i64 l.length))), (33, .i (.v (.int .i64 (k)))), (72, .clo (.func 29) [] [.ptr 7 0 0 0, .ptr 8 0 0 0])] [.ptr 7 0 0 0, .ptr 8 0 0 0] [[op, arg], [i]] xs [.box [.i (.sl 2 (rowsI l) false)], .box [.i (.sl 0 [] true)], .box [.i (.v (.int .i64 (0)))], .box [.ref 4 0 0 (n)], .sl 1 0 (rows64 (out)) false, .box [.i (.v (.int .i64 (op))), .i (.v (.int .i64 (arg)))], .box [.i (.v (.int .i64 (af)))], .box [.i (.v (.int .i64 (op))), .i (.v (.int .i64 (arg)))], .box [.i (.v (.int .i64 (i)))]] = some (.normal, [(1, .ptr 0 0 0 0), (2, .ptr 1 0 0 0), (3, .ptr 2 0 0 0), (5, .ptr 3 0 0 0), (9, .ptr 6 0 0 0), (31, .i (.sl 2 (rowsI l) false)), (32, .i (.v (.int .i64 l.length))), (33, .i (.v (.int .i64 (k)))), (72, .clo (.func 29) [] [.ptr 7 0 0 0, .ptr 8 0 0 0])], [.box [.i (.sl 2 (rowsI l) false)], .box [.i (.sl 0 [] true)], .box [.i (.v (.int .i64 (0)))], .box [.ref 4 0 0 (n)], .sl 1 0 (rows64 (out')) false, .box [.i (.v (.int .i64 (op))), .i (.v (.int .i64 (arg)))], .box [.i (.v (.int .i64 (af)))], .box [.i (.v (.int .i64 (op))), .i (.v (.int .i64 (arg)))], .box [.i (.v (.int .i64 (i)))]])) ∨
  (dSet l.length af xs out = none ∧ ∃ out', rgE (rdF E 14 (rfAt Tryd.f14 0)) 73 [(1, .ptr 0 0 0 0), (2, .ptr 1 0 0 0), (3, .ptr 2 0 0 0), (5, .ptr 3 0 0 0), (9, .ptr 6 0 0 0), (31, .i (.sl 2 (rowsI l) false)), (32, .i (.v (.int .i64 l.length))), (33, .i (.v (.int .i64 (k)))), (72, .clo (.func 29) [] [.ptr 7 0 0 0, .ptr 8 0 0 0])] [.ptr 7 0 0 0, .ptr 8 0 0 0] [[op, arg], [i]] xs [.box [.i (.sl 2 (rowsI l) false)], .box [.i (.sl 0 [] true)], .box [.i (.v (.int .i64 (0)))], .box [.ref 4 0 0 (n)], .sl 1 0 (rows64 (out)) false, .box [.i (.v (.int .i64 (op))), .i (.v (.int .i64 (arg)))], .box [.i (.v (.int .i64 (af)))], .box [.i (.v (.int .i64 (op))), .i (.v (.int .i64 (arg)))], .box [.i (.v (.int .i64 (i)))]] = some (.ret, [(1, .ptr 0 0 0 0), (2, .ptr 1 0 0 0), (3, .ptr 2 0 0 0), (5, .ptr 3 0 0 0), (9, .ptr 6 0 0 0), (31, .i (.sl 2 (rowsI l) false)), (32, .i (.v (.int .i64 l.length))), (33, .i (.v (.int .i64 (k)))), (72, .clo (.func 29) [] [.ptr 7 0 0 0, .ptr 8 0 0 0])], [.box [.i (.sl 2 (rowsI l) false)], .box [.i (.sl 0 [] true)], .box [.i (.v (.int .i64 (13)))], .box [.ref 4 0 0 (n)], .sl 1 0 (rows64 (out')) false, .box [.i (.v (.int .i64 (op))), .i (.v (.int .i64 (arg)))], .box [.i (.v (.int .i64 (af)))], .box [.i (.v (.int .i64 (op))), .i (.v (.int .i64 (arg)))], .box [.i (.v (.int .i64 (i)))]]))
 | [], _, out, ho => .inl ⟨out, rfl, ho, rfl⟩
 | x :: xs, hx, out, ho => by
  have h1 := rd14 l hl n hn out ho op arg af i k x (hx x (.head _))
  rw [rgE_cons, h1]
  simp only [dSet]
  by_cases hc : x < l.length ∧ 0 ≤ out.getD x.toNat 0 ∧ out.getD x.toNat 0 ≠ af
  ·rw [if_pos hc, if_pos hc]
   exact .inr ⟨rfl, out, rfl⟩
  ·rw [if_neg hc, if_neg hc, rgN_n, if_pos (show capsI _ [.ptr 7 0 0 0, .ptr 8 0 0 0] = some [[op, arg], [i]] from rfl)]
   exact rg14 l hl n hn op arg af i k xs (fun y hy => hx y (.tail _ hy)) (out.set x.toNat af) (by simpa using ho)
theorem sucL_in {n k : Nat} {op arg : Int} (hk : k < n) (h : chk1 n k (op, arg) = 0) : (0 ≤ op ∧ op ≤ 20) ∧ ∀ x ∈ sucL op arg k, (k : Int) < x ∧ x ≤ n := by
 unfold chk1 at h
 simp only at h
 split at h
 ·cases h
 rename_i h1
 split at h
 ·cases h
 rename_i h2
 refine ⟨by omega, fun x hx => ?_⟩
 unfold sucL at hx
 rw [List.mem_append] at hx
 rcases hx with hx | hx
 ·split at hx
  ·cases hx
  ·rw [List.mem_singleton] at hx; omega
 ·split at hx
  ·rename_i hj
   rw [List.mem_singleton] at hx
   subst hx
   have h1 : ¬ op = 1 := by omega
   unfold boundsS at h2
   rw [if_neg h1, if_pos hj] at h2
   simp only at h2
   omega
  ·cases hx
theorem dSet_r {n after : Int} (ha : 0 ≤ after ∧ after ≤ 16) : ∀ (ks out out' : List Int), dSet n after ks out = some out' → (∀ x ∈ out, -1 ≤ x ∧ x ≤ 16) → ∀ x ∈ out', -1 ≤ x ∧ x ≤ 16
 | [], out, out', h, hr => by simp only [dSet, Option.some.injEq] at h; subst h; exact hr
 | k :: ks, out, out', h, hr => by
  simp only [dSet] at h
  split at h
  ·cases h
  ·exact dSet_r ha ks _ out' h fun x hx => by
    rcases List.mem_or_eq_of_mem_set hx with h1 | h1
    ·exact hr x h1
    ·omega
theorem dSet_len {n after : Int} : ∀ (ks out out' : List Int), dSet n after ks out = some out' → out'.length = out.length
 | [], out, out', h => by simp only [dSet, Option.some.injEq] at h; subst h; rfl
 | k :: ks, out, out', h => by
  simp only [dSet] at h
  split at h
  ·cases h
  ·rw [dSet_len ks _ out' h, List.length_set]
def dP (l : List Ins) (n : Nat) (fr : Fr) (ex : Ex) (H' : Hp) : Option (List Int) → Prop
 | some out' => ex = .exit 2 ∧ out'.length = n ∧ H' = [.box [.i (.sl 2 (rowsI l) false)], .box [.i (.sl 0 [] true)], .box [.i (.v (.int .i64 0))], .box [.ref 4 0 0 (n)], .sl 1 0 (rows64 (out')) false] ∧ get 1 fr = .ptr 0 0 0 0 ∧ get 2 fr = .ptr 1 0 0 0 ∧ get 3 fr = .ptr 2 0 0 0 ∧ get 5 fr = .ptr 3 0 0 0
 | none => ex = .ret ∧ H'[1]? = some (.box [.i (.sl 0 [] true)]) ∧ H'[2]? = some (.box [.i (.v (.int .i64 13))]) ∧ get 2 fr = .ptr 1 0 0 0 ∧ get 3 fr = .ptr 2 0 0 0
set_option linter.defProp false in
def lp14_12 := show ∀ B fr H, execT E B 14 (Code.loop _) fr H = rlG E B 14 (loopAt Tryd.f14 1) (gcn B (norm [1, 2, 3, 5, 31, 32, 33] fr) H) from fun B fr H => rl_intro rfl mt14_12 mb14_12 zf14_12 hd14_12 fr H
theorem l14_1 (l : List Ins) (hl : l.length ≤ 500) (n : Nat) (hn : n = l.length + 1) (hok : ∀ (j : Nat) (h : j < l.length), chk1 l.length j l[j] = 0) (k : Nat) (hk : k ≤ l.length) (out : List Int) (ho : out.length = n) (hr : ∀ x ∈ out, -1 ≤ x ∧ x ≤ 16) :
  ∃ fr ex H', rl E 0 14 (loopAt Tryd.f14 1) [(1, .ptr 0 0 0 0), (2, .ptr 1 0 0 0), (3, .ptr 2 0 0 0), (5, .ptr 3 0 0 0), (31, .i (.sl 2 (rowsI l) false)), (32, .i (.v (.int .i64 l.length))), (33, .i (.v (.int .i64 (k))))] [.box [.i (.sl 2 (rowsI l) false)], .box [.i (.sl 0 [] true)], .box [.i (.v (.int .i64 0))], .box [.ref 4 0 0 (n)], .sl 1 0 (rows64 (out)) false] = some (ex, fr, H') ∧ dP l n fr ex H' (dRun l.length k (l.drop k) out) := by
 rw [rl_step (fn := Tryd.f14) (k := 1) rfl]
 by_cases hlt : k < l.length
 ·have hrow := rowsI_at hlt
  have hck := hok k hlt
  rw [List.drop_eq_getElem_cons hlt, dRun, dStep]
  have ih := fun out ho hr => l14_1 l hl n hn hok (k + 1) hlt out ho hr
  obtain ⟨op, arg, hp⟩ : ∃ op arg, l[k] = (op, arg) := ⟨_, _, rfl⟩
  rw [hp] at hrow hck ⊢
  simp only at hrow ⊢
  obtain ⟨⟨o1, o2⟩, hsuc⟩ := sucL_in hlt hck
  have hd := rows64_get (l := out) (k := k) (by omega)
  have hdr := hr (out.getD k 0) (by rw [List.getD_eq_getElem?_getD, List.getElem?_eq_getElem (by omega)]; exact List.getElem_mem _)
  have hpo := pops_at o1 o2
  have hpu := pushes_at o1 o2
  have hp1 := popS_r op
  have hp2 := pushS_r op
  have hrg := fun af => rg14 l (by omega) n hn op arg af k k (sucL op arg k) (fun x hx => by have := hsuc x hx; omega) out ho
  have hsq := seqSucc_eq op arg k (by omega) (by omega)
  generalize out.getD k 0 = d at *
  generalize popS op = po at *
  generalize pushS op = pu at *
  generalize sucL op arg k = xs at *
  by_cases h1 : d < 0
  ·rw [if_pos h1]
   simp only
   obtain ⟨fr, ex, H', e, hh⟩ := ih out ho hr
   refine ⟨fr, ex, H', Eq.trans ?_ e, hh⟩
   clear e hh ih hrg
   simp (disch := first | omega | (simp only [vlen, rowsI_len, rows64_len]; omega)) only [vall, reduceCtorEq, ↓reduceIte, zq0, zq1, zq2, zq3, zq4, zq5, zq6, zq7, zq8, zq9, zq10, zq11, zq12, zq13, zq14, zq15, zq16, zq17, en14, bs22, bs45, hrow, rowsI_len, rows64_len, hd, h1, lp14_12]
  ·rw [if_neg h1]
   by_cases h2 : d < po
   ·rw [if_pos (.inl h2)]
    clear ih hrg
    simp (disch := first | omega | (simp only [vlen, rowsI_len, rows64_len]; omega)) only [vall, reduceCtorEq, ↓reduceIte, zq0, zq1, zq2, zq3, zq4, zq5, zq6, zq7, zq8, zq9, zq10, zq11, zq12, zq13, zq14, zq15, zq16, zq17, en14, bs22, bs45, hrow, rowsI_len, rows64_len, hd, hpo, hpu, h1, h2, Nat.mul_one, lp14_12]
    refine ⟨_, _, _, rfl, ?_⟩
    exact ⟨rfl, rfl, rfl, rfl, rfl⟩
   ·by_cases h3 : 16 < d - po + pu
    ·rw [if_pos (.inr h3)]
     clear ih hrg
     simp (disch := first | omega | (simp only [vlen, rowsI_len, rows64_len]; omega)) only [vall, reduceCtorEq, ↓reduceIte, zq0, zq1, zq2, zq3, zq4, zq5, zq6, zq7, zq8, zq9, zq10, zq11, zq12, zq13, zq14, zq15, zq16, zq17, en14, bs22, bs45, hrow, rowsI_len, rows64_len, hd, hpo, hpu, h1, h2, h3, Nat.mul_one, lp14_12]
     refine ⟨_, _, _, rfl, ?_⟩
     exact ⟨rfl, rfl, rfl, rfl, rfl⟩
    ·rw [if_neg (by omega)]
     rcases hrg (d - po + pu) with ⟨out', g1, g2, g3⟩ | ⟨g1, out', g3⟩
     ·rw [g1]
      simp only
      obtain ⟨fr, ex, H', e, hh⟩ := ih out' g2 (dSet_r (by omega) xs out out' g1 hr)
      refine ⟨fr, ex, H', Eq.trans ?_ e, hh⟩
      clear e hh ih hrg
      simp (disch := first | omega | (simp only [vlen, rowsI_len, rows64_len]; omega)) only [vall, reduceCtorEq, ↓reduceIte, zq0, zq1, zq2, zq3, zq4, zq5, zq6, zq7, zq8, zq9, zq10, zq11, zq12, zq13, zq14, zq15, zq16, zq17, en14, bs22, bs45, hrow, rowsI_len, rows64_len, hd, hpo, hpu, h1, h2, h3, Nat.mul_one, ik16, hsq, g3, show ∀ B fr H, execT E B 14 (Code.rangeFunc _ _ _ _) fr H = rgO (rdF E 14 (rfAt Tryd.f14 0)) 73 fr H (seqE E H (opd E fr _)) from fun B fr H => rf_intro rfl rfl fr H, lp14_12]
     ·rw [g1]
      simp only
      clear ih hrg
      simp (disch := first | omega | (simp only [vlen, rowsI_len, rows64_len]; omega)) only [vall, reduceCtorEq, ↓reduceIte, zq0, zq1, zq2, zq3, zq4, zq5, zq6, zq7, zq8, zq9, zq10, zq11, zq12, zq13, zq14, zq15, zq16, zq17, en14, bs22, bs45, hrow, rowsI_len, rows64_len, hd, hpo, hpu, h1, h2, h3, Nat.mul_one, ik16, hsq, g3, show ∀ B fr H, execT E B 14 (Code.rangeFunc _ _ _ _) fr H = rgO (rdF E 14 (rfAt Tryd.f14 0)) 73 fr H (seqE E H (opd E fr _)) from fun B fr H => rf_intro rfl rfl fr H, lp14_12]
      refine ⟨_, _, _, rfl, ?_⟩
      exact ⟨rfl, rfl, rfl, rfl, rfl⟩
 ·obtain rfl : k = l.length := by omega
  rw [List.drop_length, dRun]
  simp (disch := first | omega | (simp only [vlen, rows64_len, rowsI_len]; omega)) only [vall, reduceCtorEq, ↓reduceIte, zq0, zq1, zq2, zq3, zq4, zq5, zq6, zq7, zq8, zq9, zq10, zq11, zq12, zq13, zq14, zq15, zq16, zq17, en14, bs22, bs45, rows64_len, rowsI_len, lp14_12]
  exact ⟨_, _, _, rfl, rfl, ho, rfl, rfl, rfl, rfl, rfl⟩
termination_by l.length - k
end Go.VI

namespace Go.VI
open Go.Proofs
set_option maxRecDepth 100000
set_option linter.unusedSimpArgs false
set_option linter.unusedVariables false
set_option maxHeartbeats 4000000
theorem rows64_take (l : List Int) (k : Nat) : (rows64 l).take k = rows64 (l.take k) := by simp [rows64, List.map_take]
theorem chkL_ok {n : Int} : ∀ (l : List Ins) (k : Nat), chkL n k l = 0 → ∀ (j : Nat) (h : j < l.length), chk1 n ((k + j : Nat)) l[j] = 0
 | [], k, _, j, h => by simp at h
 | p :: r, k, hc, j, h => by
  simp only [chkL] at hc
  split at hc
  ·rename_i h1
   cases j with
   | zero => simpa using h1
   | succ j =>
    have := chkL_ok r (k + 1) hc j (by simpa using h)
    simpa [Nat.add_assoc, Nat.add_comm 1 j] using this
  ·rename_i h1
   exact absurd hc h1
theorem check_len {l : List Ins} (h : checkI l = 0) : l.length ≤ 500 := by
 unfold checkI at h
 split at h
 ·cases h
 ·omega
theorem check_ok {l : List Ins} (h : checkI l = 0) (j : Nat) (hj : j < l.length) : chk1 l.length j l[j] = 0 := by
 unfold checkI at h
 split at h
 ·cases h
 ·simpa using chkL_ok l 0 h j hj
theorem c14 (l : List Ins) (hl : (l.length : Int) < 9223372036854775808) : ∃ L, callT E 14 [.i (.sl 2 (rowsI l) false)] [] = some (.tup [.i (.sl 1 (rows64 (depthsS l).1) false), .i (.v (.int .i64 (depthsS l).2))], L) := by
 have hC := fun H => ik17 l hl H
 unfold depthsS
 by_cases h0 : checkI l = 0
 rotate_left
 ·rw [if_neg h0]
  generalize checkI l = q at *
  simp only
  have hz : rows64 [] = [] := rfl
  rw [hz]
  rw [callT_eq Tryd.func14 rfl fok14 (by simp [Tryd.ntmps14])]
  simp (disch := first | omega | (simp only [vlen]; omega)) only [vall, reduceCtorEq, ↓reduceIte, zq0, zq1, zq2, zq3, zq4, zq5, zq6, zq7, zq8, zq9, zq10, zq11, zq12, zq13, zq14, zq15, zq16, zq17, en14, bs22, bs45, hC, h0]
  exact ⟨_, rfl⟩
 ·rw [if_pos h0]
  rw [h0] at hC
  have h5 := check_len h0
  have hnn : ((l.length : Int) + 1).toNat = l.length + 1 := by omega
  obtain ⟨fr0, e0, f1, f2, f3, f5⟩ := l14_0 l (l.length + 1) (by omega) 0 (Nat.zero_le _)
  rw [Nat.sub_zero, List.replicate_zero, List.nil_append] at e0
  have e0' : rl E 0 14 (loopAt Tryd.f14 0) [(1, .ptr 0 0 0 0), (2, .ptr 1 0 0 0), (3, .ptr 2 0 0 0), (5, .ptr 3 0 0 0), (21, .i (.v (.int .i64 ((l.length + 1 : Nat))))), (22, .i (.v (.int .i64 (0))))] [.box [.i (.sl 2 (rowsI l) false)], .box [.i (.sl 0 [] true)], .box [.i (.v (.int .i64 0))], .box [.ref 4 0 0 (l.length + 1)], .sl 1 0 ([.v (.int .i64 0)] :: rows64 (List.replicate l.length 0)) false] = _ := e0
  have hs : (List.replicate (l.length + 1) (-1 : Int)).set 0 0 = 0 :: List.replicate l.length (-1) := by rw [List.replicate_succ]; rfl
  have hrow : (rows64 (List.replicate (l.length + 1) (-1)))[0]? = some [.v (.int .i64 (-1))] := by rw [List.replicate_succ]; rfl
  obtain ⟨fr1, ex1, H1, e1, hh⟩ := l14_1 l h5 (l.length + 1) rfl (check_ok h0) 0 (Nat.zero_le _) (0 :: List.replicate l.length (-1)) (by simp) (fun x hx => by
   rcases List.mem_cons.1 hx with rfl | hx
   ·omega
   ·have := List.eq_of_mem_replicate hx; omega)
  rw [List.drop_zero] at hh
  have e1' : rl E 0 14 (loopAt Tryd.f14 1) [(1, .ptr 0 0 0 0), (2, .ptr 1 0 0 0), (3, .ptr 2 0 0 0), (5, .ptr 3 0 0 0), (31, .i (.sl 2 (rowsI l) false)), (32, .i (.v (.int .i64 l.length))), (33, .i (.v (.int .i64 (0))))] [.box [.i (.sl 2 (rowsI l) false)], .box [.i (.sl 0 [] true)], .box [.i (.v (.int .i64 0))], .box [.ref 4 0 0 ((l.length + 1 : Nat))], .sl 1 0 (rows64 (0 :: List.replicate l.length (-1))) false] = _ := e1
  rw [← hs] at e1'
  clear e0 e1
  cases hd : dRun l.length 0 l (0 :: List.replicate l.length (-1)) with
  | none =>
   rw [hd] at hh
   obtain ⟨rfl, g1, g2, g3, g4⟩ := hh
   simp only
   have hz : rows64 [] = [] := rfl
   rw [hz]
   generalize List.replicate (l.length + 1) (-1 : Int) = o1 at *
   clear hs
   rw [callT_eq Tryd.func14 rfl fok14 (by simp [Tryd.ntmps14])]
   simp (disch := first | omega | (simp only [vlen, rowsI_len, rows64_len]; omega)) only [vall, reduceCtorEq, ↓reduceIte, zq0, zq1, zq2, zq3, zq4, zq5, zq6, zq7, zq8, zq9, zq10, zq11, zq12, zq13, zq14, zq15, zq16, zq17, en14, bs22, bs45, hC, rowsI_len, rows64_len, rows64_rep, rows64_set, hnn, hrow, e0', f1, f2, f3, f5, e1', g1, g2, g3, g4, lp14_6, lp14_12]
   exact ⟨_, rfl⟩
  | some out =>
   rw [hd] at hh
   obtain ⟨rfl, ho, rfl, g1, g2, g3, g5⟩ := hh
   simp only
   generalize List.replicate (l.length + 1) (-1 : Int) = o1 at *
   clear hs
   rw [callT_eq Tryd.func14 rfl fok14 (by simp [Tryd.ntmps14])]
   simp (disch := first | omega | (simp only [vlen, rowsI_len, rows64_len]; omega)) only [vall, reduceCtorEq, ↓reduceIte, zq0, zq1, zq2, zq3, zq4, zq5, zq6, zq7, zq8, zq9, zq10, zq11, zq12, zq13, zq14, zq15, zq16, zq17, en14, bs22, bs45, hC, rowsI_len, rows64_len, rows64_rep, rows64_set, rows64_take, hnn, hrow, e0', f1, f2, f3, f5, e1', g1, g2, g3, g5, lp14_6, lp14_12]
   exact ⟨_, rfl⟩
theorem ik14 (l : List Ins) (hl : (l.length : Int) < 9223372036854775808) (H : Hp) : isoK E (callT E) 14 [.i (.sl 2 (rowsI l) false)] H = some (.tup [.i (.sl 1 (rows64 (depthsS l).1) false), .i (.v (.int .i64 (depthsS l).2))], H) := isoK_val rfl rfl rfl (c14 l hl)
theorem c13 (l : List Ins) (hl : (l.length : Int) < 9223372036854775808) : ∃ L, callT E 13 [.i (.sl 2 (rowsI l) false)] [] = some (.i (.v (.int .i64 (depthsS l).2)), L) := by
 have h := fun H => ik14 l hl H
 generalize depthsS l = q at *
 rw [callT_eq Tryd.func13 rfl fok13 (by simp [Tryd.ntmps13])]
 simp (disch := first | omega | (simp only [vlen]; omega)) only [vall, reduceCtorEq, ↓reduceIte, zq0, zq1, zq2, zq3, zq4, zq5, zq6, zq7, zq8, zq9, zq10, zq11, zq12, zq13, zq14, zq15, zq16, zq17, en13, bs22, h]
 exact ⟨_, rfl⟩
theorem ik13 (l : List Ins) (hl : (l.length : Int) < 9223372036854775808) (H : Hp) : isoK E (callT E) 13 [.i (.sl 2 (rowsI l) false)] H = some (.i (.v (.int .i64 (depthsS l).2)), H) := isoK_val rfl rfl rfl (c13 l hl)
end Go.VI

namespace Go.VI
open Go.Proofs
set_option maxRecDepth 100000
set_option linter.unusedSimpArgs false
set_option linter.unusedVariables false
set_option maxHeartbeats 4000000
def fSet (i : Nat) : List Int → List Int → List Int
 | [], out => out
 | x :: xs, out => fSet i xs (out.set i (max (out.getD i 0) (out.getD x.toNat 0)))
def fStep (i : Nat) (p : Ins) (out : List Int) : List Int := (fSet i (sucL p.1 p.2 i) out).set i ((fSet i (sucL p.1 p.2 i) out).getD i 0 + 1)
def fRun (l : List Ins) : Nat → List Int → List Int
 | 0, out => out
 | k + 1, out => fRun l k (fStep k (l.getD k (0, 0)) out)
def fuelS (l : List Ins) : Int × Int := if checkI l = 0 then ((fRun l l.length (List.replicate (l.length + 1) 0)).getD 0 0, 0) else (0, checkI l)
theorem getD_set_int (l : List Int) (i j : Nat) (x : Int) : (l.set i x).getD j 0 = if i = j ∧ i < l.length then x else l.getD j 0 := by
 simp only [List.getD_eq_getElem?_getD, List.getElem?_set]
 by_cases h : i = j
 ·subst h
  by_cases hl : i < l.length
  ·simp [hl]
  ·simp [hl]
 ·simp [h]
theorem getD_mem_b {l : List Int} {P : Int → Prop} (h0 : P 0) (h : ∀ x ∈ l, P x) (j : Nat) : P (l.getD j 0) := by
 rw [List.getD_eq_getElem?_getD]
 cases hh : l[j]? with
 | none => exact h0
 | some x => exact h x (List.mem_of_getElem? hh)
theorem fSet_len (i : Nat) : ∀ (xs out : List Int), (fSet i xs out).length = out.length
 | [], out => rfl
 | x :: xs, out => by rw [fSet, fSet_len i xs, List.length_set]
theorem fStep_len (i : Nat) (p : Ins) (out : List Int) : (fStep i p out).length = out.length := by rw [fStep, List.length_set, fSet_len]
end Go.VI

namespace Go.VI
open Go.Proofs
set_option maxRecDepth 100000
set_option linter.unusedSimpArgs false
set_option linter.unusedVariables false
set_option maxHeartbeats 4000000
theorem isoK_mc2 {f : Nat} {ar X X' : List AV} {r : AV} (he : E.ext f = none) (ha : refsL ar = []) (hr : refsA r = []) (hX : refsL X = []) (hX' : refsL X' = [])
  (h : ∃ L, callT E f (.ptr 0 0 0 0 :: ar) [.box X] = some (r, .box X' :: L)) (A B : Chunk) (T : Hp) :
  isoK E (callT E) f (.ptr 2 0 0 0 :: ar) (A :: B :: .box X :: T) = some (r, A :: B :: .box X' :: T) := by
 obtain ⟨L, h⟩ := h
 have ha2 : ∀ ρ, renL ρ ar = ar := fun ρ => (refs_ren ρ).2 ar ha
 have hr2 : ∀ ρ, renA ρ r = r := fun ρ => (refs_ren ρ).1 r hr
 have hX2 : ∀ ρ, renL ρ X = X := fun ρ => (refs_ren ρ).2 X hX
 have hX2' : ∀ ρ, renL ρ X' = X' := fun ρ => (refs_ren ρ).2 X' hX'
 have hR := reach_one (L := A :: B :: .box X :: T) (c := 2) rfl hX
 unfold isoK
 simp [exCl, he, refsL, refsA, hR, renL, renA, posIn, Chunk.ren, ha, ha2, h, Chunk.refs, reach, setAll, backRen, hr, hr2, hX, hX', hX2, hX2']
theorem ik18_2 (row : Int) (g : IV) (c w r : Int) (k : Kk) (hk : okK k) (A B : Chunk) (T : Hp) :
  isoK E (callT E) 18 [.ptr 2 0 0 0] (A :: B :: .box (mcK row g c w r k) :: T) = some (.i (.v (.int .i64 (popV k))), A :: B :: .box (mcK row g c w r (popK k)) :: T) :=
 isoK_mc2 rfl rfl rfl mcK_refs mcK_refs (c18 row g c w r k.st k.d k.f hk.1 hk.2.1) A B T
theorem ik19_2 (op : Int) (ho : 0 ≤ op ∧ op ≤ 20 ∧ op ≠ 0 ∧ op ≠ 17 ∧ op ≠ 18) (row : Int) (l : List Gl) (hg : okG l) (c w r : Int) (k : Kk) (arg : Int) (hk : okK k) (hb : bI arg ∧ bI row ∧ bI c ∧ bI w) (A B : Chunk) (T : Hp) :
  isoK E (callT E) 19 [.ptr 2 0 0 0, .agg [.i (.v (.int .i64 op)), .i (.v (.int .i64 arg))]] (A :: B :: .box (mcK row (.sl 3 (rowsG l) false) c w r k) :: T) = some (.tup [], A :: B :: .box (mcK row (.sl 3 (rowsG l) false) (simK row l c w k op arg).1 (simK row l c w k op arg).2.1 r (simK row l c w k op arg).2.2) :: T) :=
 isoK_mc2 rfl rfl rfl mcK_refs mcK_refs (c19 op ho row l hg c w r k arg hk hb) A B T
def nextC (op arg i n : Int) (k : Kk) : Int := if op = 0 then n else if op = 17 then arg else if op = 18 ∧ popV k = 0 then arg else i + 1
def doC (row : Int) (g : List Gl) (op arg c w : Int) (k : Kk) : Int × Int × Kk := if op = 0 ∨ op = 17 then (c, w, k) else if op = 18 then (c, w, popK k) else simK row g c w k op arg
def runC (l : List Ins) (row : Int) (g : List Gl) (c0 w0 : Int) : Nat → Nat → Nat → Int → Int → Kk → Int × Int × Nat × Int
 | 0, i, s, c, w, k => match l[i]? with
  | none => (c, w, s, 0)
  | some _ => (c0, w0, s, 14)
 | n + 1, i, s, c, w, k => match l[i]? with
  | none => (c, w, s, 0)
  | some p => if (doC row g p.1 p.2 c w k).2.2.f = true then (c0, w0, s + 1, 13)
   else runC l row g c0 w0 n (nextC p.1 p.2 i l.length k).toNat (s + 1) (doC row g p.1 p.2 c w k).1 (doC row g p.1 p.2 c w k).2.1 (doC row g p.1 p.2 c w k).2.2
theorem runC_none {l : List Ins} {row : Int} {g : List Gl} {c0 w0 : Int} {n i s : Nat} {c w : Int} {k : Kk} (h : l[i]? = none) : runC l row g c0 w0 n i s c w k = (c, w, s, 0) := by
 cases n <;> simp only [runC, h]
theorem runC_fuel {l : List Ins} {row : Int} {g : List Gl} {c0 w0 : Int} {i s : Nat} {c w : Int} {k : Kk} {p : Ins} (h : l[i]? = some p) : runC l row g c0 w0 0 i s c w k = (c0, w0, s, 14) := by
 simp only [runC, h]
theorem runC_fail {l : List Ins} {row : Int} {g : List Gl} {c0 w0 : Int} {n i s : Nat} {c w : Int} {k : Kk} {p : Ins} (h : l[i]? = some p) (hf : (doC row g p.1 p.2 c w k).2.2.f = true) : runC l row g c0 w0 (n + 1) i s c w k = (c0, w0, s + 1, 13) := by
 simp only [runC, h, hf, if_true]
theorem runC_step {l : List Ins} {row : Int} {g : List Gl} {c0 w0 : Int} {n i s : Nat} {c w : Int} {k : Kk} {p : Ins} (h : l[i]? = some p) (hf : (doC row g p.1 p.2 c w k).2.2.f = false) :
  runC l row g c0 w0 (n + 1) i s c w k = runC l row g c0 w0 n (nextC p.1 p.2 i l.length k).toNat (s + 1) (doC row g p.1 p.2 c w k).1 (doC row g p.1 p.2 c w k).2.1 (doC row g p.1 p.2 c w k).2.2 := by
 simp only [runC, h, hf, Bool.false_eq_true, if_false]
theorem simK_ok {row : Int} {g : List Gl} {c w : Int} {k : Kk} {op arg : Int} (hk : okK k) (hc : bI c) (hw : bI w) : okK (simK row g c w k op arg).2.2 ∧ bI (simK row g c w k op arg).1 ∧ bI (simK row g c w k op arg).2.1 := by
 have hp := popV_b hk
 unfold simK
 repeat' split
 all_goals refine ⟨?_, ?_, ?_⟩
 all_goals first | exact hc | exact hw | skip
 all_goals first | (unfold bI; simp only; omega) | skip
 all_goals first | exact pushK_ok hk _ | exact pushK_ok (popK_ok (popK_ok hk)) _ | exact pushK_ok (popK_ok hk) _ | exact pushK_ok (pushK_ok (popK_ok hk) _) _ | exact pushK_ok (pushK_ok (popK_ok (popK_ok hk)) _) _ | exact popK_ok hk
theorem doC_ok {row : Int} {g : List Gl} {c w : Int} {k : Kk} {op arg : Int} (hk : okK k) (hc : bI c) (hw : bI w) : okK (doC row g op arg c w k).2.2 ∧ bI (doC row g op arg c w k).1 ∧ bI (doC row g op arg c w k).2.1 := by
 unfold doC
 split
 ·exact ⟨hk, hc, hw⟩
 ·split
  ·exact ⟨popK_ok hk, hc, hw⟩
  ·exact simK_ok hk hc hw
theorem chk_at {l : List Ins} (h : checkI l = 0) {i : Nat} {p : Ins} (hp : l[i]? = some p) : 0 ≤ p.1 ∧ p.1 ≤ 20 ∧ -999999999 ≤ p.2 ∧ p.2 ≤ 999999999 ∧ (p.1 = 17 ∨ p.1 = 18 → (i : Int) < p.2 ∧ p.2 ≤ l.length) := by
 obtain ⟨hi, rfl⟩ := List.getElem?_eq_some_iff.1 hp
 have h1 := check_ok h i hi
 have h2 := check_len h
 unfold chk1 at h1
 generalize l[i] = q at *
 split at h1
 ·cases h1
 ·split at h1
  ·cases h1
  ·rename_i h3 h4
   unfold boundsS at h4
   by_cases a1 : q.1 = 1
   ·rw [if_pos a1] at h4; simp only at h4; omega
   ·by_cases a2 : q.1 = 17 ∨ q.1 = 18
    ·rw [if_neg a1, if_pos a2] at h4; simp only at h4; omega
    ·rw [if_neg a1, if_neg a2] at h4; simp only at h4; omega
def runP (V : Chunk) (row : Int) (g : IV) (r : Int) (R : List (List IV)) (lim : Nat) (q : Int × Int × Nat × Int) (fr : Fr) (ex : Ex) (H : Hp) : Prop :=
 (q.2.2.2 = 0 ∧ ex = .exit 0 ∧ ∃ (k : Kk) (i : Int), okK k ∧ fr = [(0, .i (.sl 2 R false)), (4, .i (.v (.int .i64 lim))), (8, .ptr 0 0 0 0), (10, .ptr 1 0 0 0), (12, .ptr 2 0 0 0), (13, .i (.v (.int .i64 q.2.2.1))), (14, .i (.v (.int .i64 i))), (34, .i (.v (.bool false)))] ∧ H = [V, .box [i64 0, i64 0, i64 0, i64 0, i64 0], .box (mcK row g q.1 q.2.1 r k)]) ∨
 (q.2.2.2 ≠ 0 ∧ ex = .ret ∧ get 10 fr = .ptr 1 0 0 0 ∧ ∃ A L, H = A :: .box [i64 q.1, i64 q.2.1, i64 r, i64 q.2.2.1, i64 q.2.2.2] :: L)
set_option linter.defProp false in
def lp7_8 := show ∀ B fr H, execT E B 7 (Code.loop _) fr H = rlG E B 7 (loopAt Tryd.f7 0) (gcn B (norm [0, 4, 8, 10, 12, 13, 14] fr) H) from fun B fr H => rl_intro rfl mt7_8 mb7_8 zf7_8 hd7_8 fr H
theorem l7 (l : List Ins) (hl : checkI l = 0) (row : Int) (hrow : bI row) (g : List Gl) (hg : okG g) (c0 w0 r : Int) (lim : Nat) (hlim : lim ≤ 5000) : ∀ (n i s : Nat) (c w : Int) (k : Kk), i ≤ l.length → s + n = lim → okK k → k.f = false → bI c → bI w →
  ∃ fr ex H', rl E 0 7 (loopAt Tryd.f7 0) [(0, .i (.sl 2 (rowsI l) false)), (4, .i (.v (.int .i64 lim))), (8, .ptr 0 0 0 0), (10, .ptr 1 0 0 0), (12, .ptr 2 0 0 0), (13, .i (.v (.int .i64 (s)))), (14, .i (.v (.int .i64 (i))))] [.box [i64 c0, i64 w0, i64 r], .box [i64 0, i64 0, i64 0, i64 0, i64 0], .box (mcK row (.sl 3 (rowsG g) false) c w r k)] = some (ex, fr, H') ∧ runP (.box [i64 c0, i64 w0, i64 r]) row (.sl 3 (rowsG g) false) r (rowsI l) lim (runC l row g c0 w0 n i s c w k) fr ex H' := by
 intro n
 induction n with
 | zero =>
  intro i s c w k hi hs hk hf hc hw
  have hll := check_len hl
  rw [rl_step (fn := Tryd.f7) (k := 0) rfl]
  by_cases hlt : i < l.length
  ·obtain ⟨p, hp⟩ : ∃ p, l[i]? = some p := ⟨_, List.getElem?_eq_getElem hlt⟩
   rw [runC_fuel hp]
   obtain rfl : s = lim := by omega
   simp (disch := first | omega | (simp only [vlen, rowsI_len]; omega)) only [vall, reduceCtorEq, ↓reduceIte, zq0, zq1, zq2, zq3, zq4, zq5, zq6, zq7, zq8, zq9, zq10, zq11, zq12, zq13, zq14, zq15, zq16, zq17, en7, bs22, rowsI_len, i64, mcK_cn, mcK_refs, mcK_ren, lp7_8]
   exact ⟨_, _, _, rfl, .inr ⟨(by decide : (14 : Int) ≠ 0), rfl, rfl, _, _, rfl⟩⟩
  ·rw [runC_none (List.getElem?_eq_none (by omega))]
   simp (disch := first | omega | (simp only [vlen, rowsI_len]; omega)) only [vall, reduceCtorEq, ↓reduceIte, zq0, zq1, zq2, zq3, zq4, zq5, zq6, zq7, zq8, zq9, zq10, zq11, zq12, zq13, zq14, zq15, zq16, zq17, en7, bs22, rowsI_len, i64, mcK_cn, mcK_refs, mcK_ren, lp7_8]
   exact ⟨_, _, _, rfl, .inl ⟨rfl, rfl, k, i, hk, rfl, rfl⟩⟩
 | succ n ih =>
  intro i s c w k hi hs hk hf hc hw
  have hll := check_len hl
  by_cases hlt : i < l.length
  ·obtain ⟨p, hp⟩ : ∃ p, l[i]? = some p := ⟨_, List.getElem?_eq_getElem hlt⟩
   obtain ⟨a1, a2, a3, a4, a5⟩ := chk_at hl hp
   obtain ⟨d1, d2, d3⟩ := doC_ok (row := row) (g := g) (op := p.1) (arg := p.2) hk hc hw
   have hr1 : (rowsI l)[i]? = some [.v (.int .i64 p.1), .v (.int .i64 p.2)] := by simp [rowsI, insC, hp]
   obtain ⟨op, arg⟩ := p
   simp only at a1 a2 a3 a4 a5 d1 d2 d3 hr1
   have hsl : (s : Int) ≠ lim := by omega
   by_cases hff : (doC row g op arg c w k).2.2.f = true
   ·rw [runC_fail hp hff]
    by_cases o0 : op = 0 ∨ op = 17
    ·exfalso
     simp only [doC, if_pos o0, hf, Bool.false_eq_true] at hff
    ·by_cases o18 : op = 18
     ·simp only [doC, if_neg o0, if_pos o18] at hff d1
      have hpk := fun A B T => ik18_2 row (.sl 3 (rowsG g) false) c w r k hk A B T
      have h22 := mcK_22 (row := row) (g := .sl 3 (rowsG g) false) (c := c) (w := w) (r := r) d1
      rw [hff] at h22
      subst o18
      rw [rl_step (fn := Tryd.f7) (k := 0) rfl]
      by_cases hz : popV k = 0
      ·rw [hz] at hpk
       simp (disch := first | omega | (simp only [vlen, rowsI_len]; omega)) only [vall, reduceCtorEq, ↓reduceIte, zq0, zq1, zq2, zq3, zq4, zq5, zq6, zq7, zq8, zq9, zq10, zq11, zq12, zq13, zq14, zq15, zq16, zq17, en7, bs22, rowsI_len, i64, hr1, hpk, mcK_cn, mcK_refs, mcK_ren, h22, lp7_8]
       exact ⟨_, _, _, rfl, .inr ⟨(by decide : (13 : Int) ≠ 0), rfl, rfl, _, _, rfl⟩⟩
      ·generalize popV k = pv at *
       simp (disch := first | omega | (simp only [vlen, rowsI_len]; omega)) only [vall, reduceCtorEq, ↓reduceIte, zq0, zq1, zq2, zq3, zq4, zq5, zq6, zq7, zq8, zq9, zq10, zq11, zq12, zq13, zq14, zq15, zq16, zq17, en7, bs22, rowsI_len, i64, hr1, hpk, hz, mcK_cn, mcK_refs, mcK_ren, h22, lp7_8]
       exact ⟨_, _, _, rfl, .inr ⟨(by decide : (13 : Int) ≠ 0), rfl, rfl, _, _, rfl⟩⟩
     ·simp only [doC, if_neg o0, if_neg o18] at hff d1
      have hpk := fun A B T => ik19_2 op (by omega) row g hg c w r k arg hk ⟨by unfold bI; omega, hrow, hc, hw⟩ A B T
      generalize simK row g c w k op arg = q at *
      have h22 := mcK_22 (row := row) (g := .sl 3 (rowsG g) false) (c := q.1) (w := q.2.1) (r := r) d1
      rw [hff] at h22
      have z0 : op ≠ 0 := fun h => o0 (.inl h)
      have z17 : op ≠ 17 := fun h => o0 (.inr h)
      rw [rl_step (fn := Tryd.f7) (k := 0) rfl]
      simp (disch := first | omega | (simp only [vlen, rowsI_len]; omega)) only [vall, reduceCtorEq, ↓reduceIte, zq0, zq1, zq2, zq3, zq4, zq5, zq6, zq7, zq8, zq9, zq10, zq11, zq12, zq13, zq14, zq15, zq16, zq17, en7, bs22, rowsI_len, i64, hr1, hpk, z0, z17, o18, mcK_cn, mcK_refs, mcK_ren, h22, lp7_8]
      exact ⟨_, _, _, rfl, .inr ⟨(by decide : (13 : Int) ≠ 0), rfl, rfl, _, _, rfl⟩⟩
   ·have hff : (doC row g op arg c w k).2.2.f = false := by simpa using hff
    rw [runC_step hp hff]
    have hj0 : 0 ≤ nextC op arg i l.length k ∧ nextC op arg i l.length k ≤ l.length := by
     unfold nextC
     split
     ·omega
     ·split
      ·omega
      ·split
       ·omega
       ·omega
    obtain ⟨j, hj⟩ := Int.eq_ofNat_of_zero_le hj0.1
    simp only
    rw [hj, Int.toNat_natCast]
    obtain ⟨fr, ex, H', e, hh⟩ := ih j (s + 1) _ _ _ (by omega) (by omega) d1 hff d2 d3
    refine ⟨fr, ex, H', Eq.trans ?_ e, hh⟩
    clear e hh ih
    rw [rl_step (fn := Tryd.f7) (k := 0) rfl]
    by_cases o0 : op = 0
    ·have hd : doC row g op arg c w k = (c, w, k) := by unfold doC; rw [if_pos (.inl o0)]
     rw [hd] at d1 d2 d3 hff ⊢
     have h22 := mcK_22 (row := row) (g := .sl 3 (rowsG g) false) (c := c) (w := w) (r := r) hk
     rw [hf] at h22
     have hj1 : (l.length : Int) = j := by rw [← hj, nextC, if_pos o0]
     subst o0
     rw [← hj1]
     simp (disch := first | omega | (simp only [vlen, rowsI_len]; omega)) only [vall, reduceCtorEq, ↓reduceIte, zq0, zq1, zq2, zq3, zq4, zq5, zq6, zq7, zq8, zq9, zq10, zq11, zq12, zq13, zq14, zq15, zq16, zq17, en7, bs22, rowsI_len, i64, hr1, mcK_cn, mcK_refs, mcK_ren, h22, lp7_8]
    ·by_cases o17 : op = 17
     ·have hd : doC row g op arg c w k = (c, w, k) := by unfold doC; rw [if_pos (.inr o17)]
      rw [hd] at d1 d2 d3 hff ⊢
      have h22 := mcK_22 (row := row) (g := .sl 3 (rowsG g) false) (c := c) (w := w) (r := r) hk
      rw [hf] at h22
      have hj1 : arg = j := by rw [← hj, nextC, if_neg o0, if_pos o17]
      subst o17
      rw [← hj1]
      simp (disch := first | omega | (simp only [vlen, rowsI_len]; omega)) only [vall, reduceCtorEq, ↓reduceIte, zq0, zq1, zq2, zq3, zq4, zq5, zq6, zq7, zq8, zq9, zq10, zq11, zq12, zq13, zq14, zq15, zq16, zq17, en7, bs22, rowsI_len, i64, hr1, mcK_cn, mcK_refs, mcK_ren, h22, lp7_8]
     ·by_cases o18 : op = 18
      ·have hd : doC row g op arg c w k = (c, w, popK k) := by unfold doC; rw [if_neg (by omega), if_pos o18]
       rw [hd] at d1 d2 d3 hff ⊢
       try simp only at d1 hff
       have h22 := mcK_22 (row := row) (g := .sl 3 (rowsG g) false) (c := c) (w := w) (r := r) d1
       rw [hff] at h22
       have hpk := fun A B T => ik18_2 row (.sl 3 (rowsG g) false) c w r k hk A B T
       by_cases hz : popV k = 0
       ·have hj1 : arg = j := by rw [← hj, nextC, if_neg o0, if_neg o17, if_pos ⟨o18, hz⟩]
        subst o18
        rw [← hj1]
        rw [hz] at hpk
        simp (disch := first | omega | (simp only [vlen, rowsI_len]; omega)) only [vall, reduceCtorEq, ↓reduceIte, zq0, zq1, zq2, zq3, zq4, zq5, zq6, zq7, zq8, zq9, zq10, zq11, zq12, zq13, zq14, zq15, zq16, zq17, en7, bs22, rowsI_len, i64, hr1, hpk, mcK_cn, mcK_refs, mcK_ren, h22, lp7_8]
       ·have hj1 : (i : Int) + 1 = j := by rw [← hj, nextC, if_neg o0, if_neg o17, if_neg (fun h => hz h.2)]
        subst o18
        rw [← hj1]
        clear hj hj0
        generalize popV k = pv at *
        simp (disch := first | omega | (simp only [vlen, rowsI_len]; omega)) only [vall, reduceCtorEq, ↓reduceIte, zq0, zq1, zq2, zq3, zq4, zq5, zq6, zq7, zq8, zq9, zq10, zq11, zq12, zq13, zq14, zq15, zq16, zq17, en7, bs22, rowsI_len, i64, hr1, hpk, hz, mcK_cn, mcK_refs, mcK_ren, h22, lp7_8]
      ·have hd : doC row g op arg c w k = simK row g c w k op arg := by unfold doC; rw [if_neg (by omega), if_neg o18]
       rw [hd] at d1 d2 d3 hff ⊢
       have hpk := fun A B T => ik19_2 op (by omega) row g hg c w r k arg hk ⟨by unfold bI; omega, hrow, hc, hw⟩ A B T
       have hj1 : (i : Int) + 1 = j := by rw [← hj, nextC, if_neg o0, if_neg o17, if_neg (fun h => o18 h.1)]
       clear hd
       generalize simK row g c w k op arg = q at *
       have h22 := mcK_22 (row := row) (g := .sl 3 (rowsG g) false) (c := q.1) (w := q.2.1) (r := r) d1
       rw [hff] at h22
       rw [← hj1]
       simp (disch := first | omega | (simp only [vlen, rowsI_len]; omega)) only [vall, reduceCtorEq, ↓reduceIte, zq0, zq1, zq2, zq3, zq4, zq5, zq6, zq7, zq8, zq9, zq10, zq11, zq12, zq13, zq14, zq15, zq16, zq17, en7, bs22, rowsI_len, i64, hr1, hpk, o0, o17, o18, mcK_cn, mcK_refs, mcK_ren, h22, lp7_8]
  ·rw [runC_none (List.getElem?_eq_none (by omega))]
   rw [rl_step (fn := Tryd.f7) (k := 0) rfl]
   simp (disch := first | omega | (simp only [vlen, rowsI_len]; omega)) only [vall, reduceCtorEq, ↓reduceIte, zq0, zq1, zq2, zq3, zq4, zq5, zq6, zq7, zq8, zq9, zq10, zq11, zq12, zq13, zq14, zq15, zq16, zq17, en7, bs22, rowsI_len, i64, mcK_cn, mcK_refs, mcK_ren, lp7_8]
   exact ⟨_, _, _, rfl, .inl ⟨rfl, rfl, k, i, hk, rfl, rfl⟩⟩
end Go.VI

namespace Go.VI
open Go.Proofs
set_option maxRecDepth 100000
set_option linter.unusedSimpArgs false
set_option linter.unusedVariables false
set_option maxHeartbeats 4000000
def k0 : Kk := ⟨List.replicate 16 0, 0, false⟩
theorem k0_ok : okK k0 := ⟨rfl, by decide, by intro x hx; rw [List.eq_of_mem_replicate hx]; decide⟩
def limI (fuel : Int) : Nat := (max 0 (min fuel 5000)).toNat
structure Oc where
 (c w r s e : Int)
def ocA (q : Oc) : AV := .agg [.i (.v (.int .i64 q.c)), .i (.v (.int .i64 q.w)), .i (.v (.int .i64 q.r)), .i (.v (.int .i64 q.s)), .i (.v (.int .i64 q.e))]
def runS (l : List Ins) (row : Int) (g : List Gl) (c w r fuel : Int) : Oc :=
 if checkI l = 0 then ⟨(runC l row g c w (limI fuel) 0 0 c w k0).1, (runC l row g c w (limI fuel) 0 0 c w k0).2.1, r, (runC l row g c w (limI fuel) 0 0 c w k0).2.2.1, (runC l row g c w (limI fuel) 0 0 c w k0).2.2.2⟩ else ⟨c, w, r, 0, checkI l⟩
theorem mcK_v {row : Int} {g : IV} {c w r : Int} {k : Kk} : List.take 3 (List.drop 2 (mcK row g c w r k)) = [.i (.v (.int .i64 c)), .i (.v (.int .i64 w)), .i (.v (.int .i64 r))] := rfl
theorem c7 (l : List Ins) (hl : (l.length : Int) < 9223372036854775808) (row : Int) (hrow : bI row) (g : List Gl) (hg : okG g) (c w r fuel : Int) (hv : bI c ∧ bI w ∧ bI r) (hf : bI fuel) :
  ∃ L, callT E 7 [.i (.sl 2 (rowsI l) false), .i (.v (.int .i64 row)), .i (.sl 3 (rowsG g) false), .agg [.i (.v (.int .i64 c)), .i (.v (.int .i64 w)), .i (.v (.int .i64 r))], .i (.v (.int .i64 fuel))] [] = some (ocA (runS l row g c w r fuel), L) := by
 have hck := fun H => ik17 l hl H
 unfold runS
 by_cases h0 : checkI l = 0
 ·rw [if_pos h0]
  rw [h0] at hck
  obtain ⟨lim, hlim⟩ : ∃ lim : Nat, lim = limI fuel := ⟨_, rfl⟩
  rw [← hlim]
  have hlim2 : max 0 (min fuel 5000) = (lim : Int) := by rw [hlim, limI]; omega
  obtain ⟨fr, ex, H', e, hh⟩ := l7 l h0 row hrow g hg c w r lim (by omega) lim 0 0 c w k0 (Nat.zero_le _) (by omega) k0_ok rfl hv.1 hv.2.1
  have e' : rl E 0 7 (loopAt Tryd.f7 0) [(0, .i (.sl 2 (rowsI l) false)), (4, .i (.v (.int .i64 lim))), (8, .ptr 0 0 0 0), (10, .ptr 1 0 0 0), (12, .ptr 2 0 0 0), (13, .i (.v (.int .i64 0))), (14, .i (.v (.int .i64 0)))] [.box [.i (.v (.int .i64 c)), .i (.v (.int .i64 w)), .i (.v (.int .i64 r))], .box [.i (.v (.int .i64 0)), .i (.v (.int .i64 0)), .i (.v (.int .i64 0)), .i (.v (.int .i64 0)), .i (.v (.int .i64 0))], .box [.i (.v (.int .i64 row)), .i (.sl 3 (rowsG g) false), .i (.v (.int .i64 c)), .i (.v (.int .i64 w)), .i (.v (.int .i64 r)), .i (.v (.int .i64 0)), .i (.v (.int .i64 0)), .i (.v (.int .i64 0)), .i (.v (.int .i64 0)), .i (.v (.int .i64 0)), .i (.v (.int .i64 0)), .i (.v (.int .i64 0)), .i (.v (.int .i64 0)), .i (.v (.int .i64 0)), .i (.v (.int .i64 0)), .i (.v (.int .i64 0)), .i (.v (.int .i64 0)), .i (.v (.int .i64 0)), .i (.v (.int .i64 0)), .i (.v (.int .i64 0)), .i (.v (.int .i64 0)), .i (.v (.int .i64 0)), .i (.v (.bool false))]] = _ := e
  clear e
  rcases hh with ⟨hz, rfl, k, i, hk, rfl, rfl⟩ | ⟨hz, rfl, hg10, A, L, rfl⟩
  ·rw [hz]
   have hlen := mcK_len (row := row) (g := .sl 3 (rowsG g) false) (c := (runC l row g c w lim 0 0 c w k0).1) (w := (runC l row g c w lim 0 0 c w k0).2.1) (r := r) hk
   generalize runC l row g c w lim 0 0 c w k0 = q at *
   obtain ⟨q1, q2, q3, q4⟩ := q
   simp only [i64] at e' hlen ⊢
   unfold ocA
   simp only
   rw [callT_eq Tryd.func7 rfl fok7 (by simp [Tryd.ntmps7])]
   simp (disch := first | omega | (simp only [vlen, rowsI_len, hlen]; omega)) only [vall, reduceCtorEq, ↓reduceIte, zq0, zq1, zq2, zq3, zq4, zq5, zq6, zq7, zq8, zq9, zq10, zq11, zq12, zq13, zq14, zq15, zq16, zq17, en7, bs22, rowsI_len, hck, hlim2, e', mcK_v, hlen, mcK_cn, mcK_refs, mcK_ren, lp7_8]
   exact ⟨_, rfl⟩
  ·generalize runC l row g c w lim 0 0 c w k0 = q at *
   obtain ⟨q1, q2, q3, q4⟩ := q
   simp only [i64] at e' ⊢
   unfold ocA
   simp only
   rw [callT_eq Tryd.func7 rfl fok7 (by simp [Tryd.ntmps7])]
   simp (disch := first | omega | (simp only [vlen, rowsI_len]; omega)) only [vall, reduceCtorEq, ↓reduceIte, zq0, zq1, zq2, zq3, zq4, zq5, zq6, zq7, zq8, zq9, zq10, zq11, zq12, zq13, zq14, zq15, zq16, zq17, en7, bs22, rowsI_len, hck, hlim2, e', hg10, lp7_8]
   exact ⟨_, rfl⟩
 ·rw [if_neg h0]
  generalize checkI l = q at *
  unfold ocA
  simp only
  rw [callT_eq Tryd.func7 rfl fok7 (by simp [Tryd.ntmps7])]
  simp (disch := first | omega | (simp only [vlen, rowsI_len]; omega)) only [vall, reduceCtorEq, ↓reduceIte, zq0, zq1, zq2, zq3, zq4, zq5, zq6, zq7, zq8, zq9, zq10, zq11, zq12, zq13, zq14, zq15, zq16, zq17, en7, bs22, rowsI_len, hck, h0]
  exact ⟨_, rfl⟩
theorem ik7 (l : List Ins) (hl : (l.length : Int) < 9223372036854775808) (row : Int) (hrow : bI row) (g : List Gl) (hg : okG g) (c w r fuel : Int) (hv : bI c ∧ bI w ∧ bI r) (hf : bI fuel) (H : Hp) :
  isoK E (callT E) 7 [.i (.sl 2 (rowsI l) false), .i (.v (.int .i64 row)), .i (.sl 3 (rowsG g) false), .agg [.i (.v (.int .i64 c)), .i (.v (.int .i64 w)), .i (.v (.int .i64 r))], .i (.v (.int .i64 fuel))] H = some (ocA (runS l row g c w r fuel), H) := isoK_val rfl rfl rfl (c7 l hl row hrow g hg c w r fuel hv hf)
end Go.VI

namespace Go.VI
open Go.Proofs
set_option maxRecDepth 100000
set_option linter.unusedSimpArgs false
set_option linter.unusedVariables false
set_option maxHeartbeats 4000000
def pushedR (row : Int) (g : List Gl) (c w op arg : Int) (p : List Int) : List Int :=
 if isV op then [valK row c w g.length op arg]
 else if op = 4 then [charS g (p.getD 0 0)]
 else if op = 5 then [styleV g (p.getD 0 0)]
 else if 8 ≤ op ∧ op ≤ 12 then [twoS op (p.getD 0 0) (p.getD 1 0)]
 else if op = 13 then [if p.getD 0 0 = 0 then 1 else 0]
 else if op = 14 then [p.getD 0 0, p.getD 0 0]
 else if op = 16 then [p.getD 1 0, p.getD 0 0]
 else []
end Go.VI

namespace Go.VI
open Go.Proofs
set_option maxRecDepth 100000
set_option linter.unusedSimpArgs false
set_option linter.unusedVariables false
set_option maxHeartbeats 4000000
def nextR (op arg i n p0 : Int) : Int := if op = 0 then n else if op = 17 then arg else if op = 18 ∧ p0 = 0 then arg else i + 1
def clsR (op c p0 : Int) : Int := if op = 19 ∧ 1 ≤ p0 ∧ p0 ≤ 3 then p0 else c
def waiR (op w p0 : Int) : Int := if op = 20 ∧ 0 ≤ p0 ∧ p0 ≤ 60000 then p0 else w
def rstK (stk : List Int) (op : Int) : Nat := stk.length - (popS op).toNat
def failR (stk : List Int) (op : Int) : Prop := (stk.length : Int) - popS op < 0 ∨ 16 < (stk.length : Int) - popS op + pushS op
instance (stk : List Int) (op : Int) : Decidable (failR stk op) := by unfold failR; infer_instance
def runR (l : List Ins) (row : Int) (g : List Gl) (c0 w0 : Int) : Nat → Nat → Nat → Int → Int → List Int → Int × Int × Nat × Int
 | 0, i, s, c, w, stk => match l[i]? with
  | none => (c, w, s, 0)
  | some _ => (c0, w0, s, 14)
 | n + 1, i, s, c, w, stk => match l[i]? with
  | none => (c, w, s, 0)
  | some p => if failR stk p.1 then (c0, w0, s + 1, 13)
   else runR l row g c0 w0 n (nextR p.1 p.2 i l.length ((stk.drop (rstK stk p.1)).getD 0 0)).toNat (s + 1) (clsR p.1 c ((stk.drop (rstK stk p.1)).getD 0 0)) (waiR p.1 w ((stk.drop (rstK stk p.1)).getD 0 0))
    (stk.take (rstK stk p.1) ++ (pushedR row g c w p.1 p.2 (stk.drop (rstK stk p.1))).map limS)
theorem runR_none {l : List Ins} {row : Int} {g : List Gl} {c0 w0 : Int} {n i s : Nat} {c w : Int} {k : List Int} (h : l[i]? = none) : runR l row g c0 w0 n i s c w k = (c, w, s, 0) := by
 cases n <;> simp only [runR, h]
theorem runR_fuel {l : List Ins} {row : Int} {g : List Gl} {c0 w0 : Int} {i s : Nat} {c w : Int} {k : List Int} {p : Ins} (h : l[i]? = some p) : runR l row g c0 w0 0 i s c w k = (c0, w0, s, 14) := by
 simp only [runR, h]
theorem runR_fail {l : List Ins} {row : Int} {g : List Gl} {c0 w0 : Int} {n i s : Nat} {c w : Int} {k : List Int} {p : Ins} (h : l[i]? = some p) (hf : failR k p.1) : runR l row g c0 w0 (n + 1) i s c w k = (c0, w0, s + 1, 13) := by
 simp only [runR, h, if_pos hf]
theorem runR_step {l : List Ins} {row : Int} {g : List Gl} {c0 w0 : Int} {n i s : Nat} {c w : Int} {a pp : List Int} {p : Ins} (h : l[i]? = some p) (hf : ¬ failR (a ++ pp) p.1) (hr : rstK (a ++ pp) p.1 = a.length) :
  runR l row g c0 w0 (n + 1) i s c w (a ++ pp) = runR l row g c0 w0 n (nextR p.1 p.2 i l.length (pp.getD 0 0)).toNat (s + 1) (clsR p.1 c (pp.getD 0 0)) (waiR p.1 w (pp.getD 0 0)) (a ++ (pushedR row g c w p.1 p.2 pp).map limS) := by
 simp only [runR, h, if_neg hf, hr, List.drop_left, List.take_left]
theorem op_all {P : Int → Prop} (h : ∀ n : Nat, n < 21 → P n) {op : Int} (h0 : 0 ≤ op) (h1 : op ≤ 20) : P op := by
 obtain ⟨n, rfl⟩ := Int.eq_ofNat_of_zero_le h0
 exact h n (by omega)
theorem pp_all : ∀ n : Nat, n < 21 → 0 ≤ popS n ∧ popS n ≤ 2 ∧ 0 ≤ pushS n ∧ pushS n ≤ 2 := by decide
theorem pp_b {op : Int} (h0 : 0 ≤ op) (h1 : op ≤ 20) : 0 ≤ popS op ∧ popS op ≤ 2 ∧ 0 ≤ pushS op ∧ pushS op ≤ 2 := op_all (P := fun op => 0 ≤ popS op ∧ popS op ≤ 2 ∧ 0 ≤ pushS op ∧ pushS op ≤ 2) pp_all h0 h1
theorem pushedR_len (row : Int) (g : List Gl) (c w : Int) {op : Int} (arg : Int) (p : List Int) (h0 : 0 ≤ op) (h1 : op ≤ 20) : ((pushedR row g c w op arg p).length : Int) = pushS op := by
 obtain ⟨n, rfl⟩ := Int.eq_ofNat_of_zero_le h0
 have : n = 0 ∨ n = 1 ∨ n = 2 ∨ n = 3 ∨ n = 4 ∨ n = 5 ∨ n = 6 ∨ n = 7 ∨ n = 8 ∨ n = 9 ∨ n = 10 ∨ n = 11 ∨ n = 12 ∨ n = 13 ∨ n = 14 ∨ n = 15 ∨ n = 16 ∨ n = 17 ∨ n = 18 ∨ n = 19 ∨ n = 20 := by omega
 rcases this with rfl | rfl | rfl | rfl | rfl | rfl | rfl | rfl | rfl | rfl | rfl | rfl | rfl | rfl | rfl | rfl | rfl | rfl | rfl | rfl | rfl <;> rfl
def okS (s : List Int) : Prop := s.length ≤ 16 ∧ ∀ x ∈ s, -999999999 ≤ x ∧ x ≤ 999999999
theorem okS_split {s : List Int} (h : okS s) {op : Int} (h0 : 0 ≤ op) (h1 : op ≤ 20) (hf : ¬ failR s op) : ∃ a pp, s = a ++ pp ∧ rstK s op = a.length ∧ (pp.length : Int) = popS op := by
 have hb := pp_b h0 h1
 unfold failR at hf
 refine ⟨s.take (rstK s op), s.drop (rstK s op), (List.take_append_drop _ _).symm, ?_, ?_⟩
 ·rw [List.length_take]; unfold rstK; omega
 ·rw [List.length_drop]; unfold rstK; omega
theorem okS_next {row : Int} {g : List Gl} {c w : Int} {op arg : Int} {a pp : List Int} (h : okS (a ++ pp)) (h0 : 0 ≤ op) (h1 : op ≤ 20) (hf : ¬ failR (a ++ pp) op) (hp : (pp.length : Int) = popS op) : okS (a ++ (pushedR row g c w op arg pp).map limS) := by
 have hl := pushedR_len row g c w arg pp h0 h1
 refine ⟨?_, ?_⟩
 ·unfold failR at hf
  rw [List.length_append] at hf
  rw [List.length_append, List.length_map]
  omega
 ·intro x hx
  rcases List.mem_append.1 hx with hx | hx
  ·exact h.2 x (List.mem_append_left _ hx)
  ·obtain ⟨y, _, rfl⟩ := List.mem_map.1 hx
   exact limS_b y
end Go.VI

namespace Go.VI
open Go.Proofs
set_option maxRecDepth 100000
set_option linter.unusedSimpArgs false
set_option linter.unusedVariables false
set_option maxHeartbeats 4000000
def runT (l : List Ins) (row : Int) (g : List Gl) (c w r fuel : Int) : Oc :=
 if checkI l = 0 then ⟨(runR l row g c w (limI fuel) 0 0 c w []).1, (runR l row g c w (limI fuel) 0 0 c w []).2.1, r, (runR l row g c w (limI fuel) 0 0 c w []).2.2.1, (runR l row g c w (limI fuel) 0 0 c w []).2.2.2⟩ else ⟨c, w, r, 0, checkI l⟩
theorem fld_v {a b c d e : AV} : fieldE E 32 (.agg [a, b, c, d, e]) 0 = some (.agg [a, b, c]) := by kernel_rfl
structure Vd where
 (c w r : Int)
end Go.VI

namespace Go.VI
open Go.Proofs
set_option maxRecDepth 100000
set_option linter.unusedSimpArgs false
set_option linter.unusedVariables false
def Rk (k : Kk) (s : List Int) : Prop := okK k ∧ k.f = false ∧ k.st.take k.d = s
theorem Rk_len {k : Kk} {s : List Int} (h : Rk k s) : s.length = k.d := by
 obtain ⟨⟨h1, h2, h3⟩, _, h4⟩ := h
 rw [← h4, List.length_take]; omega
theorem Rk_le {k : Kk} {s : List Int} (h : Rk k s) : s.length ≤ 16 := by rw [Rk_len h]; exact h.1.2.1
theorem R_pop0 {k : Kk} (h : Rk k []) : (popK k).f = true := by
 have : k.d = 0 := (Rk_len h).symm
 simp [popK, this]
theorem R_pop1 {k : Kk} {s : List Int} {x : Int} (h : Rk k (s ++ [x])) : popV k = x ∧ Rk (popK k) s := by
 have hl := Rk_len h
 rw [List.length_append, List.length_singleton] at hl
 obtain ⟨h1, h2, h3⟩ := h
 have hd : k.d = s.length + 1 := by omega
 have hne : k.d ≠ 0 := by omega
 have hx : k.st[s.length]? = some x := by
  have : (k.st.take k.d)[s.length]? = some x := by rw [h3]; simp
  rwa [List.getElem?_take_of_lt (by omega)] at this
 refine ⟨?_, popK_ok h1, ?_, ?_⟩
 ·unfold popV
  rw [if_neg hne, hd, Nat.add_sub_cancel, List.getD_eq_getElem?_getD, hx]; rfl
 ·simp only [popK, h2, Bool.false_or]
  exact decide_eq_false hne
 ·show k.st.take (k.d - 1) = s
  rw [hd, Nat.add_sub_cancel]
  have : (k.st.take k.d).take s.length = s := by rw [h3]; simp
  rwa [List.take_take, Nat.min_eq_left (by omega)] at this
theorem R_push {k : Kk} {s : List Int} (h : Rk k s) (hs : s.length < 16) (n : Int) : Rk (pushK k n) (s ++ [limS n]) := by
 have hl := Rk_len h
 obtain ⟨h1, h2, h3⟩ := h
 refine ⟨pushK_ok h1 n, ?_, ?_⟩
 ·unfold pushK; rw [if_neg (by omega)]; exact h2
 ·unfold pushK
  rw [if_neg (by omega)]
  show (k.st.set k.d (limS n)).take (k.d + 1) = s ++ [limS n]
  have hlt : k.d < k.st.length := by have := h1.1; omega
  have hlt2 : k.d < (k.st.set k.d (limS n)).length := by rw [List.length_set]; exact hlt
  rw [List.take_succ_eq_append_getElem hlt2, List.getElem_set_self, List.take_set_of_le (Nat.le_refl _), h3]
theorem R_push16 {k : Kk} {s : List Int} (h : Rk k s) (hs : s.length = 16) (n : Int) : (pushK k n).f = true := by
 have hl := Rk_len h
 unfold pushK; rw [if_pos (by omega)]
theorem popf {k : Kk} (h : k.f = true) : (popK k).f = true := by simp [popK, h]
theorem pushf {k : Kk} (h : k.f = true) (n : Int) : (pushK k n).f = true := by
 unfold pushK; split
 ·rfl
 ·exact h
theorem snoc_cases (s : List Int) : s = [] ∨ ∃ a x, s = a ++ [x] := by
 rcases List.eq_nil_or_concat s with h | ⟨a, x, h⟩
 ·exact .inl h
 ·exact .inr ⟨a, x, by rw [h, List.concat_eq_append]⟩
theorem stp_0 (row : Int) (g : List Gl) (arg c w : Int) (i n : Int) {k : Kk} {stk : List Int} (h : Rk k stk) : (failR stk (0) ∧ (doC row g (0) arg c w k).2.2.f = true) ∨ (¬ failR stk (0) ∧ ∃ a pp, stk = a ++ pp ∧ rstK stk (0) = a.length ∧ Rk (doC row g (0) arg c w k).2.2 (a ++ (pushedR row g c w (0) arg pp).map limS) ∧ (doC row g (0) arg c w k).1 = clsR (0) c (pp.getD 0 0) ∧ (doC row g (0) arg c w k).2.1 = waiR (0) w (pp.getD 0 0) ∧ nextC (0) arg i n k = nextR (0) arg i n (pp.getD 0 0)) := by
 have hl := Rk_le h
 have hp : popS 0 = 0 := rfl
 have hq : pushS 0 = 0 := rfl
 have hd : doC row g 0 arg c w k = (c, w, k) := rfl
 rw [hd]
 unfold failR rstK
 rw [hp, hq]
 exact .inr ⟨by omega, stk, [], by simp, by simp, by rw [show pushedR row g c w 0 arg [] = [] from rfl, List.map_nil, List.append_nil]; exact h, rfl, rfl, rfl⟩
theorem stp_17 (row : Int) (g : List Gl) (arg c w : Int) (i n : Int) {k : Kk} {stk : List Int} (h : Rk k stk) : (failR stk (17) ∧ (doC row g (17) arg c w k).2.2.f = true) ∨ (¬ failR stk (17) ∧ ∃ a pp, stk = a ++ pp ∧ rstK stk (17) = a.length ∧ Rk (doC row g (17) arg c w k).2.2 (a ++ (pushedR row g c w (17) arg pp).map limS) ∧ (doC row g (17) arg c w k).1 = clsR (17) c (pp.getD 0 0) ∧ (doC row g (17) arg c w k).2.1 = waiR (17) w (pp.getD 0 0) ∧ nextC (17) arg i n k = nextR (17) arg i n (pp.getD 0 0)) := by
 have hl := Rk_le h
 have hp : popS 17 = 0 := rfl
 have hq : pushS 17 = 0 := rfl
 have hd : doC row g 17 arg c w k = (c, w, k) := rfl
 rw [hd]
 unfold failR rstK
 rw [hp, hq]
 exact .inr ⟨by omega, stk, [], by simp, by simp, by rw [show pushedR row g c w 17 arg [] = [] from rfl, List.map_nil, List.append_nil]; exact h, rfl, rfl, rfl⟩
theorem stp_1 (row : Int) (g : List Gl) (arg c w : Int) (i n : Int) {k : Kk} {stk : List Int} (h : Rk k stk) : (failR stk (1) ∧ (doC row g (1) arg c w k).2.2.f = true) ∨ (¬ failR stk (1) ∧ ∃ a pp, stk = a ++ pp ∧ rstK stk (1) = a.length ∧ Rk (doC row g (1) arg c w k).2.2 (a ++ (pushedR row g c w (1) arg pp).map limS) ∧ (doC row g (1) arg c w k).1 = clsR (1) c (pp.getD 0 0) ∧ (doC row g (1) arg c w k).2.1 = waiR (1) w (pp.getD 0 0) ∧ nextC (1) arg i n k = nextR (1) arg i n (pp.getD 0 0)) := by
 have hl := Rk_le h
 have hp : popS 1 = 0 := rfl
 have hq : pushS 1 = 1 := rfl
 have hd : doC row g 1 arg c w k = (c, w, pushK k (arg)) := rfl
 rw [hd]
 unfold failR rstK
 rw [hp, hq]
 by_cases h16 : stk.length = 16
 ·exact .inl ⟨by omega, R_push16 h h16 _⟩
 ·exact .inr ⟨by omega, stk, [], by simp, by simp, by rw [show pushedR row g c w 1 arg [] = [arg] from rfl]; exact R_push h (by omega) _, rfl, rfl, rfl⟩
theorem stp_2 (row : Int) (g : List Gl) (arg c w : Int) (i n : Int) {k : Kk} {stk : List Int} (h : Rk k stk) : (failR stk (2) ∧ (doC row g (2) arg c w k).2.2.f = true) ∨ (¬ failR stk (2) ∧ ∃ a pp, stk = a ++ pp ∧ rstK stk (2) = a.length ∧ Rk (doC row g (2) arg c w k).2.2 (a ++ (pushedR row g c w (2) arg pp).map limS) ∧ (doC row g (2) arg c w k).1 = clsR (2) c (pp.getD 0 0) ∧ (doC row g (2) arg c w k).2.1 = waiR (2) w (pp.getD 0 0) ∧ nextC (2) arg i n k = nextR (2) arg i n (pp.getD 0 0)) := by
 have hl := Rk_le h
 have hp : popS 2 = 0 := rfl
 have hq : pushS 2 = 1 := rfl
 have hd : doC row g 2 arg c w k = (c, w, pushK k (row)) := rfl
 rw [hd]
 unfold failR rstK
 rw [hp, hq]
 by_cases h16 : stk.length = 16
 ·exact .inl ⟨by omega, R_push16 h h16 _⟩
 ·exact .inr ⟨by omega, stk, [], by simp, by simp, by rw [show pushedR row g c w 2 arg [] = [row] from rfl]; exact R_push h (by omega) _, rfl, rfl, rfl⟩
theorem stp_3 (row : Int) (g : List Gl) (arg c w : Int) (i n : Int) {k : Kk} {stk : List Int} (h : Rk k stk) : (failR stk (3) ∧ (doC row g (3) arg c w k).2.2.f = true) ∨ (¬ failR stk (3) ∧ ∃ a pp, stk = a ++ pp ∧ rstK stk (3) = a.length ∧ Rk (doC row g (3) arg c w k).2.2 (a ++ (pushedR row g c w (3) arg pp).map limS) ∧ (doC row g (3) arg c w k).1 = clsR (3) c (pp.getD 0 0) ∧ (doC row g (3) arg c w k).2.1 = waiR (3) w (pp.getD 0 0) ∧ nextC (3) arg i n k = nextR (3) arg i n (pp.getD 0 0)) := by
 have hl := Rk_le h
 have hp : popS 3 = 0 := rfl
 have hq : pushS 3 = 1 := rfl
 have hd : doC row g 3 arg c w k = (c, w, pushK k ((g.length : Int))) := rfl
 rw [hd]
 unfold failR rstK
 rw [hp, hq]
 by_cases h16 : stk.length = 16
 ·exact .inl ⟨by omega, R_push16 h h16 _⟩
 ·exact .inr ⟨by omega, stk, [], by simp, by simp, by rw [show pushedR row g c w 3 arg [] = [(g.length : Int)] from rfl]; exact R_push h (by omega) _, rfl, rfl, rfl⟩
theorem stp_6 (row : Int) (g : List Gl) (arg c w : Int) (i n : Int) {k : Kk} {stk : List Int} (h : Rk k stk) : (failR stk (6) ∧ (doC row g (6) arg c w k).2.2.f = true) ∨ (¬ failR stk (6) ∧ ∃ a pp, stk = a ++ pp ∧ rstK stk (6) = a.length ∧ Rk (doC row g (6) arg c w k).2.2 (a ++ (pushedR row g c w (6) arg pp).map limS) ∧ (doC row g (6) arg c w k).1 = clsR (6) c (pp.getD 0 0) ∧ (doC row g (6) arg c w k).2.1 = waiR (6) w (pp.getD 0 0) ∧ nextC (6) arg i n k = nextR (6) arg i n (pp.getD 0 0)) := by
 have hl := Rk_le h
 have hp : popS 6 = 0 := rfl
 have hq : pushS 6 = 1 := rfl
 have hd : doC row g 6 arg c w k = (c, w, pushK k (c)) := rfl
 rw [hd]
 unfold failR rstK
 rw [hp, hq]
 by_cases h16 : stk.length = 16
 ·exact .inl ⟨by omega, R_push16 h h16 _⟩
 ·exact .inr ⟨by omega, stk, [], by simp, by simp, by rw [show pushedR row g c w 6 arg [] = [c] from rfl]; exact R_push h (by omega) _, rfl, rfl, rfl⟩
theorem stp_7 (row : Int) (g : List Gl) (arg c w : Int) (i n : Int) {k : Kk} {stk : List Int} (h : Rk k stk) : (failR stk (7) ∧ (doC row g (7) arg c w k).2.2.f = true) ∨ (¬ failR stk (7) ∧ ∃ a pp, stk = a ++ pp ∧ rstK stk (7) = a.length ∧ Rk (doC row g (7) arg c w k).2.2 (a ++ (pushedR row g c w (7) arg pp).map limS) ∧ (doC row g (7) arg c w k).1 = clsR (7) c (pp.getD 0 0) ∧ (doC row g (7) arg c w k).2.1 = waiR (7) w (pp.getD 0 0) ∧ nextC (7) arg i n k = nextR (7) arg i n (pp.getD 0 0)) := by
 have hl := Rk_le h
 have hp : popS 7 = 0 := rfl
 have hq : pushS 7 = 1 := rfl
 have hd : doC row g 7 arg c w k = (c, w, pushK k (w)) := rfl
 rw [hd]
 unfold failR rstK
 rw [hp, hq]
 by_cases h16 : stk.length = 16
 ·exact .inl ⟨by omega, R_push16 h h16 _⟩
 ·exact .inr ⟨by omega, stk, [], by simp, by simp, by rw [show pushedR row g c w 7 arg [] = [w] from rfl]; exact R_push h (by omega) _, rfl, rfl, rfl⟩
theorem stp_15 (row : Int) (g : List Gl) (arg c w : Int) (i n : Int) {k : Kk} {stk : List Int} (h : Rk k stk) : (failR stk (15) ∧ (doC row g (15) arg c w k).2.2.f = true) ∨ (¬ failR stk (15) ∧ ∃ a pp, stk = a ++ pp ∧ rstK stk (15) = a.length ∧ Rk (doC row g (15) arg c w k).2.2 (a ++ (pushedR row g c w (15) arg pp).map limS) ∧ (doC row g (15) arg c w k).1 = clsR (15) c (pp.getD 0 0) ∧ (doC row g (15) arg c w k).2.1 = waiR (15) w (pp.getD 0 0) ∧ nextC (15) arg i n k = nextR (15) arg i n (pp.getD 0 0)) := by
 have hl := Rk_le h
 have hp : popS 15 = 1 := rfl
 have hq : pushS 15 = 0 := rfl
 have hd : doC row g 15 arg c w k = (c, w, popK k) := rfl
 rw [hd]
 unfold failR rstK
 rw [hp, hq]
 rcases snoc_cases stk with rfl | ⟨a, x, rfl⟩
 ·exact .inl ⟨by simp, R_pop0 h⟩
 ·obtain ⟨e1, e2⟩ := R_pop1 h
  exact .inr ⟨by simp only [List.length_append, List.length_singleton] at *; omega, a, [x], rfl, by simp, by rw [show pushedR row g c w 15 arg [x] = [] from rfl, List.map_nil, List.append_nil]; exact e2, rfl, rfl, rfl⟩
theorem stp_18 (row : Int) (g : List Gl) (arg c w : Int) (i n : Int) {k : Kk} {stk : List Int} (h : Rk k stk) : (failR stk (18) ∧ (doC row g (18) arg c w k).2.2.f = true) ∨ (¬ failR stk (18) ∧ ∃ a pp, stk = a ++ pp ∧ rstK stk (18) = a.length ∧ Rk (doC row g (18) arg c w k).2.2 (a ++ (pushedR row g c w (18) arg pp).map limS) ∧ (doC row g (18) arg c w k).1 = clsR (18) c (pp.getD 0 0) ∧ (doC row g (18) arg c w k).2.1 = waiR (18) w (pp.getD 0 0) ∧ nextC (18) arg i n k = nextR (18) arg i n (pp.getD 0 0)) := by
 have hl := Rk_le h
 have hp : popS 18 = 1 := rfl
 have hq : pushS 18 = 0 := rfl
 have hd : doC row g 18 arg c w k = (c, w, popK k) := rfl
 rw [hd]
 unfold failR rstK
 rw [hp, hq]
 rcases snoc_cases stk with rfl | ⟨a, x, rfl⟩
 ·exact .inl ⟨by simp, R_pop0 h⟩
 ·obtain ⟨e1, e2⟩ := R_pop1 h
  exact .inr ⟨by simp only [List.length_append, List.length_singleton] at *; omega, a, [x], rfl, by simp, by rw [show pushedR row g c w 18 arg [x] = [] from rfl, List.map_nil, List.append_nil]; exact e2, rfl, rfl, by unfold nextC nextR; rw [e1]; rfl⟩
theorem stp_19 (row : Int) (g : List Gl) (arg c w : Int) (i n : Int) {k : Kk} {stk : List Int} (h : Rk k stk) : (failR stk (19) ∧ (doC row g (19) arg c w k).2.2.f = true) ∨ (¬ failR stk (19) ∧ ∃ a pp, stk = a ++ pp ∧ rstK stk (19) = a.length ∧ Rk (doC row g (19) arg c w k).2.2 (a ++ (pushedR row g c w (19) arg pp).map limS) ∧ (doC row g (19) arg c w k).1 = clsR (19) c (pp.getD 0 0) ∧ (doC row g (19) arg c w k).2.1 = waiR (19) w (pp.getD 0 0) ∧ nextC (19) arg i n k = nextR (19) arg i n (pp.getD 0 0)) := by
 have hl := Rk_le h
 have hp : popS 19 = 1 := rfl
 have hq : pushS 19 = 0 := rfl
 have hd : doC row g 19 arg c w k = (if 1 ≤ popV k ∧ popV k ≤ 3 then popV k else c, w, popK k) := rfl
 rw [hd]
 unfold failR rstK
 rw [hp, hq]
 rcases snoc_cases stk with rfl | ⟨a, x, rfl⟩
 ·exact .inl ⟨by simp, R_pop0 h⟩
 ·obtain ⟨e1, e2⟩ := R_pop1 h
  exact .inr ⟨by simp only [List.length_append, List.length_singleton] at *; omega, a, [x], rfl, by simp, by rw [show pushedR row g c w 19 arg [x] = [] from rfl, List.map_nil, List.append_nil]; exact e2, by simp only [clsR, e1]; simp, rfl, rfl⟩
theorem stp_20 (row : Int) (g : List Gl) (arg c w : Int) (i n : Int) {k : Kk} {stk : List Int} (h : Rk k stk) : (failR stk (20) ∧ (doC row g (20) arg c w k).2.2.f = true) ∨ (¬ failR stk (20) ∧ ∃ a pp, stk = a ++ pp ∧ rstK stk (20) = a.length ∧ Rk (doC row g (20) arg c w k).2.2 (a ++ (pushedR row g c w (20) arg pp).map limS) ∧ (doC row g (20) arg c w k).1 = clsR (20) c (pp.getD 0 0) ∧ (doC row g (20) arg c w k).2.1 = waiR (20) w (pp.getD 0 0) ∧ nextC (20) arg i n k = nextR (20) arg i n (pp.getD 0 0)) := by
 have hl := Rk_le h
 have hp : popS 20 = 1 := rfl
 have hq : pushS 20 = 0 := rfl
 have hd : doC row g 20 arg c w k = (c, if 0 ≤ popV k ∧ popV k ≤ 60000 then popV k else w, popK k) := rfl
 rw [hd]
 unfold failR rstK
 rw [hp, hq]
 rcases snoc_cases stk with rfl | ⟨a, x, rfl⟩
 ·exact .inl ⟨by simp, R_pop0 h⟩
 ·obtain ⟨e1, e2⟩ := R_pop1 h
  exact .inr ⟨by simp only [List.length_append, List.length_singleton] at *; omega, a, [x], rfl, by simp, by rw [show pushedR row g c w 20 arg [x] = [] from rfl, List.map_nil, List.append_nil]; exact e2, rfl, by simp only [waiR, e1]; simp, rfl⟩
theorem stp_4 (row : Int) (g : List Gl) (arg c w : Int) (i n : Int) {k : Kk} {stk : List Int} (h : Rk k stk) : (failR stk (4) ∧ (doC row g (4) arg c w k).2.2.f = true) ∨ (¬ failR stk (4) ∧ ∃ a pp, stk = a ++ pp ∧ rstK stk (4) = a.length ∧ Rk (doC row g (4) arg c w k).2.2 (a ++ (pushedR row g c w (4) arg pp).map limS) ∧ (doC row g (4) arg c w k).1 = clsR (4) c (pp.getD 0 0) ∧ (doC row g (4) arg c w k).2.1 = waiR (4) w (pp.getD 0 0) ∧ nextC (4) arg i n k = nextR (4) arg i n (pp.getD 0 0)) := by
 have hl := Rk_le h
 have hp : popS 4 = 1 := rfl
 have hq : pushS 4 = 1 := rfl
 have hd : doC row g 4 arg c w k = (c, w, pushK (popK k) (charS g (popV k))) := rfl
 rw [hd]
 unfold failR rstK
 rw [hp, hq]
 rcases snoc_cases stk with rfl | ⟨a, x, rfl⟩
 ·exact .inl ⟨by simp, pushf (R_pop0 h) _⟩
 ·obtain ⟨e1, e2⟩ := R_pop1 h
  have hl2 : a.length < 16 := by simp only [List.length_append, List.length_singleton] at hl; omega
  exact .inr ⟨by simp only [List.length_append, List.length_singleton] at *; omega, a, [x], rfl, by simp, by rw [show pushedR row g c w 4 arg [x] = [charS g (x)] from rfl, e1]; exact R_push e2 hl2 _, rfl, rfl, rfl⟩
theorem stp_5 (row : Int) (g : List Gl) (arg c w : Int) (i n : Int) {k : Kk} {stk : List Int} (h : Rk k stk) : (failR stk (5) ∧ (doC row g (5) arg c w k).2.2.f = true) ∨ (¬ failR stk (5) ∧ ∃ a pp, stk = a ++ pp ∧ rstK stk (5) = a.length ∧ Rk (doC row g (5) arg c w k).2.2 (a ++ (pushedR row g c w (5) arg pp).map limS) ∧ (doC row g (5) arg c w k).1 = clsR (5) c (pp.getD 0 0) ∧ (doC row g (5) arg c w k).2.1 = waiR (5) w (pp.getD 0 0) ∧ nextC (5) arg i n k = nextR (5) arg i n (pp.getD 0 0)) := by
 have hl := Rk_le h
 have hp : popS 5 = 1 := rfl
 have hq : pushS 5 = 1 := rfl
 have hd : doC row g 5 arg c w k = (c, w, pushK (popK k) (styleV g (popV k))) := rfl
 rw [hd]
 unfold failR rstK
 rw [hp, hq]
 rcases snoc_cases stk with rfl | ⟨a, x, rfl⟩
 ·exact .inl ⟨by simp, pushf (R_pop0 h) _⟩
 ·obtain ⟨e1, e2⟩ := R_pop1 h
  have hl2 : a.length < 16 := by simp only [List.length_append, List.length_singleton] at hl; omega
  exact .inr ⟨by simp only [List.length_append, List.length_singleton] at *; omega, a, [x], rfl, by simp, by rw [show pushedR row g c w 5 arg [x] = [styleV g (x)] from rfl, e1]; exact R_push e2 hl2 _, rfl, rfl, rfl⟩
theorem stp_13 (row : Int) (g : List Gl) (arg c w : Int) (i n : Int) {k : Kk} {stk : List Int} (h : Rk k stk) : (failR stk (13) ∧ (doC row g (13) arg c w k).2.2.f = true) ∨ (¬ failR stk (13) ∧ ∃ a pp, stk = a ++ pp ∧ rstK stk (13) = a.length ∧ Rk (doC row g (13) arg c w k).2.2 (a ++ (pushedR row g c w (13) arg pp).map limS) ∧ (doC row g (13) arg c w k).1 = clsR (13) c (pp.getD 0 0) ∧ (doC row g (13) arg c w k).2.1 = waiR (13) w (pp.getD 0 0) ∧ nextC (13) arg i n k = nextR (13) arg i n (pp.getD 0 0)) := by
 have hl := Rk_le h
 have hp : popS 13 = 1 := rfl
 have hq : pushS 13 = 1 := rfl
 have hd : doC row g 13 arg c w k = (c, w, pushK (popK k) (if popV k = 0 then 1 else 0)) := rfl
 rw [hd]
 unfold failR rstK
 rw [hp, hq]
 rcases snoc_cases stk with rfl | ⟨a, x, rfl⟩
 ·exact .inl ⟨by simp, pushf (R_pop0 h) _⟩
 ·obtain ⟨e1, e2⟩ := R_pop1 h
  have hl2 : a.length < 16 := by simp only [List.length_append, List.length_singleton] at hl; omega
  exact .inr ⟨by simp only [List.length_append, List.length_singleton] at *; omega, a, [x], rfl, by simp, by rw [show pushedR row g c w 13 arg [x] = [if x = 0 then 1 else 0] from rfl, e1]; exact R_push e2 hl2 _, rfl, rfl, rfl⟩
theorem stp_8 (row : Int) (g : List Gl) (arg c w : Int) (i n : Int) {k : Kk} {stk : List Int} (h : Rk k stk) : (failR stk (8) ∧ (doC row g (8) arg c w k).2.2.f = true) ∨ (¬ failR stk (8) ∧ ∃ a pp, stk = a ++ pp ∧ rstK stk (8) = a.length ∧ Rk (doC row g (8) arg c w k).2.2 (a ++ (pushedR row g c w (8) arg pp).map limS) ∧ (doC row g (8) arg c w k).1 = clsR (8) c (pp.getD 0 0) ∧ (doC row g (8) arg c w k).2.1 = waiR (8) w (pp.getD 0 0) ∧ nextC (8) arg i n k = nextR (8) arg i n (pp.getD 0 0)) := by
 have hl := Rk_le h
 have hp : popS 8 = 2 := rfl
 have hq : pushS 8 = 1 := rfl
 have hd : doC row g 8 arg c w k = (c, w, pushK (popK (popK k)) (popV (popK k) + popV k)) := rfl
 rw [hd]
 unfold failR rstK
 rw [hp, hq]
 rcases snoc_cases stk with rfl | ⟨a, x, rfl⟩
 ·exact .inl ⟨by simp, pushf (popf (R_pop0 h)) _⟩
 ·obtain ⟨e1, e2⟩ := R_pop1 h
  rcases snoc_cases a with rfl | ⟨a, y, rfl⟩
  ·exact .inl ⟨by simp, pushf (R_pop0 e2) _⟩
  ·obtain ⟨e3, e4⟩ := R_pop1 e2
   have hl2 : a.length < 16 := by simp only [List.length_append, List.length_singleton] at hl; omega
   exact .inr ⟨by simp only [List.length_append, List.length_singleton] at *; omega, a, [y, x], by simp, by simp, by rw [show pushedR row g c w 8 arg [y, x] = [y + x] from rfl, e1, e3]; exact R_push e4 hl2 _, rfl, rfl, rfl⟩
theorem stp_9 (row : Int) (g : List Gl) (arg c w : Int) (i n : Int) {k : Kk} {stk : List Int} (h : Rk k stk) : (failR stk (9) ∧ (doC row g (9) arg c w k).2.2.f = true) ∨ (¬ failR stk (9) ∧ ∃ a pp, stk = a ++ pp ∧ rstK stk (9) = a.length ∧ Rk (doC row g (9) arg c w k).2.2 (a ++ (pushedR row g c w (9) arg pp).map limS) ∧ (doC row g (9) arg c w k).1 = clsR (9) c (pp.getD 0 0) ∧ (doC row g (9) arg c w k).2.1 = waiR (9) w (pp.getD 0 0) ∧ nextC (9) arg i n k = nextR (9) arg i n (pp.getD 0 0)) := by
 have hl := Rk_le h
 have hp : popS 9 = 2 := rfl
 have hq : pushS 9 = 1 := rfl
 have hd : doC row g 9 arg c w k = (c, w, pushK (popK (popK k)) (popV (popK k) - popV k)) := rfl
 rw [hd]
 unfold failR rstK
 rw [hp, hq]
 rcases snoc_cases stk with rfl | ⟨a, x, rfl⟩
 ·exact .inl ⟨by simp, pushf (popf (R_pop0 h)) _⟩
 ·obtain ⟨e1, e2⟩ := R_pop1 h
  rcases snoc_cases a with rfl | ⟨a, y, rfl⟩
  ·exact .inl ⟨by simp, pushf (R_pop0 e2) _⟩
  ·obtain ⟨e3, e4⟩ := R_pop1 e2
   have hl2 : a.length < 16 := by simp only [List.length_append, List.length_singleton] at hl; omega
   exact .inr ⟨by simp only [List.length_append, List.length_singleton] at *; omega, a, [y, x], by simp, by simp, by rw [show pushedR row g c w 9 arg [y, x] = [y - x] from rfl, e1, e3]; exact R_push e4 hl2 _, rfl, rfl, rfl⟩
theorem stp_10 (row : Int) (g : List Gl) (arg c w : Int) (i n : Int) {k : Kk} {stk : List Int} (h : Rk k stk) : (failR stk (10) ∧ (doC row g (10) arg c w k).2.2.f = true) ∨ (¬ failR stk (10) ∧ ∃ a pp, stk = a ++ pp ∧ rstK stk (10) = a.length ∧ Rk (doC row g (10) arg c w k).2.2 (a ++ (pushedR row g c w (10) arg pp).map limS) ∧ (doC row g (10) arg c w k).1 = clsR (10) c (pp.getD 0 0) ∧ (doC row g (10) arg c w k).2.1 = waiR (10) w (pp.getD 0 0) ∧ nextC (10) arg i n k = nextR (10) arg i n (pp.getD 0 0)) := by
 have hl := Rk_le h
 have hp : popS 10 = 2 := rfl
 have hq : pushS 10 = 1 := rfl
 have hd : doC row g 10 arg c w k = (c, w, pushK (popK (popK k)) (popV (popK k) * popV k)) := rfl
 rw [hd]
 unfold failR rstK
 rw [hp, hq]
 rcases snoc_cases stk with rfl | ⟨a, x, rfl⟩
 ·exact .inl ⟨by simp, pushf (popf (R_pop0 h)) _⟩
 ·obtain ⟨e1, e2⟩ := R_pop1 h
  rcases snoc_cases a with rfl | ⟨a, y, rfl⟩
  ·exact .inl ⟨by simp, pushf (R_pop0 e2) _⟩
  ·obtain ⟨e3, e4⟩ := R_pop1 e2
   have hl2 : a.length < 16 := by simp only [List.length_append, List.length_singleton] at hl; omega
   exact .inr ⟨by simp only [List.length_append, List.length_singleton] at *; omega, a, [y, x], by simp, by simp, by rw [show pushedR row g c w 10 arg [y, x] = [y * x] from rfl, e1, e3]; exact R_push e4 hl2 _, rfl, rfl, rfl⟩
theorem stp_11 (row : Int) (g : List Gl) (arg c w : Int) (i n : Int) {k : Kk} {stk : List Int} (h : Rk k stk) : (failR stk (11) ∧ (doC row g (11) arg c w k).2.2.f = true) ∨ (¬ failR stk (11) ∧ ∃ a pp, stk = a ++ pp ∧ rstK stk (11) = a.length ∧ Rk (doC row g (11) arg c w k).2.2 (a ++ (pushedR row g c w (11) arg pp).map limS) ∧ (doC row g (11) arg c w k).1 = clsR (11) c (pp.getD 0 0) ∧ (doC row g (11) arg c w k).2.1 = waiR (11) w (pp.getD 0 0) ∧ nextC (11) arg i n k = nextR (11) arg i n (pp.getD 0 0)) := by
 have hl := Rk_le h
 have hp : popS 11 = 2 := rfl
 have hq : pushS 11 = 1 := rfl
 have hd : doC row g 11 arg c w k = (c, w, pushK (popK (popK k)) (if popV (popK k) = popV k then 1 else 0)) := rfl
 rw [hd]
 unfold failR rstK
 rw [hp, hq]
 rcases snoc_cases stk with rfl | ⟨a, x, rfl⟩
 ·exact .inl ⟨by simp, pushf (popf (R_pop0 h)) _⟩
 ·obtain ⟨e1, e2⟩ := R_pop1 h
  rcases snoc_cases a with rfl | ⟨a, y, rfl⟩
  ·exact .inl ⟨by simp, pushf (R_pop0 e2) _⟩
  ·obtain ⟨e3, e4⟩ := R_pop1 e2
   have hl2 : a.length < 16 := by simp only [List.length_append, List.length_singleton] at hl; omega
   exact .inr ⟨by simp only [List.length_append, List.length_singleton] at *; omega, a, [y, x], by simp, by simp, by rw [show pushedR row g c w 11 arg [y, x] = [if y = x then 1 else 0] from rfl, e1, e3]; exact R_push e4 hl2 _, rfl, rfl, rfl⟩
theorem stp_12 (row : Int) (g : List Gl) (arg c w : Int) (i n : Int) {k : Kk} {stk : List Int} (h : Rk k stk) : (failR stk (12) ∧ (doC row g (12) arg c w k).2.2.f = true) ∨ (¬ failR stk (12) ∧ ∃ a pp, stk = a ++ pp ∧ rstK stk (12) = a.length ∧ Rk (doC row g (12) arg c w k).2.2 (a ++ (pushedR row g c w (12) arg pp).map limS) ∧ (doC row g (12) arg c w k).1 = clsR (12) c (pp.getD 0 0) ∧ (doC row g (12) arg c w k).2.1 = waiR (12) w (pp.getD 0 0) ∧ nextC (12) arg i n k = nextR (12) arg i n (pp.getD 0 0)) := by
 have hl := Rk_le h
 have hp : popS 12 = 2 := rfl
 have hq : pushS 12 = 1 := rfl
 have hd : doC row g 12 arg c w k = (c, w, pushK (popK (popK k)) (if popV (popK k) < popV k then 1 else 0)) := rfl
 rw [hd]
 unfold failR rstK
 rw [hp, hq]
 rcases snoc_cases stk with rfl | ⟨a, x, rfl⟩
 ·exact .inl ⟨by simp, pushf (popf (R_pop0 h)) _⟩
 ·obtain ⟨e1, e2⟩ := R_pop1 h
  rcases snoc_cases a with rfl | ⟨a, y, rfl⟩
  ·exact .inl ⟨by simp, pushf (R_pop0 e2) _⟩
  ·obtain ⟨e3, e4⟩ := R_pop1 e2
   have hl2 : a.length < 16 := by simp only [List.length_append, List.length_singleton] at hl; omega
   exact .inr ⟨by simp only [List.length_append, List.length_singleton] at *; omega, a, [y, x], by simp, by simp, by rw [show pushedR row g c w 12 arg [y, x] = [if y < x then 1 else 0] from rfl, e1, e3]; exact R_push e4 hl2 _, rfl, rfl, rfl⟩
theorem stp_14 (row : Int) (g : List Gl) (arg c w : Int) (i n : Int) {k : Kk} {stk : List Int} (h : Rk k stk) : (failR stk (14) ∧ (doC row g (14) arg c w k).2.2.f = true) ∨ (¬ failR stk (14) ∧ ∃ a pp, stk = a ++ pp ∧ rstK stk (14) = a.length ∧ Rk (doC row g (14) arg c w k).2.2 (a ++ (pushedR row g c w (14) arg pp).map limS) ∧ (doC row g (14) arg c w k).1 = clsR (14) c (pp.getD 0 0) ∧ (doC row g (14) arg c w k).2.1 = waiR (14) w (pp.getD 0 0) ∧ nextC (14) arg i n k = nextR (14) arg i n (pp.getD 0 0)) := by
 have hl := Rk_le h
 have hp : popS 14 = 1 := rfl
 have hq : pushS 14 = 2 := rfl
 have hd : doC row g 14 arg c w k = (c, w, pushK (pushK (popK k) (popV k)) (popV k)) := rfl
 rw [hd]
 unfold failR rstK
 rw [hp, hq]
 rcases snoc_cases stk with rfl | ⟨a, x, rfl⟩
 ·exact .inl ⟨by simp, pushf (pushf (R_pop0 h) _) _⟩
 ·obtain ⟨e1, e2⟩ := R_pop1 h
  have hl2 : a.length < 16 := by simp only [List.length_append, List.length_singleton] at hl; omega
  have e5 := R_push e2 hl2 (popV k)
  by_cases h15 : a.length = 15
  ·exact .inl ⟨by simp only [List.length_append, List.length_singleton] at *; omega, R_push16 e5 (by simp only [List.length_append, List.length_singleton]; omega) _⟩
  ·exact .inr ⟨by simp only [List.length_append, List.length_singleton] at *; omega, a, [x], rfl, by simp, by
    rw [show pushedR row g c w 14 arg [x] = [x, x] from rfl]
    have e6 := R_push e5 (by simp only [List.length_append, List.length_singleton]; omega) (popV k)
    rw [e1] at e6 ⊢
    simpa using e6, rfl, rfl, rfl⟩
theorem stp_16 (row : Int) (g : List Gl) (arg c w : Int) (i n : Int) {k : Kk} {stk : List Int} (h : Rk k stk) : (failR stk (16) ∧ (doC row g (16) arg c w k).2.2.f = true) ∨ (¬ failR stk (16) ∧ ∃ a pp, stk = a ++ pp ∧ rstK stk (16) = a.length ∧ Rk (doC row g (16) arg c w k).2.2 (a ++ (pushedR row g c w (16) arg pp).map limS) ∧ (doC row g (16) arg c w k).1 = clsR (16) c (pp.getD 0 0) ∧ (doC row g (16) arg c w k).2.1 = waiR (16) w (pp.getD 0 0) ∧ nextC (16) arg i n k = nextR (16) arg i n (pp.getD 0 0)) := by
 have hl := Rk_le h
 have hp : popS 16 = 2 := rfl
 have hq : pushS 16 = 2 := rfl
 have hd : doC row g 16 arg c w k = (c, w, pushK (pushK (popK (popK k)) (popV k)) (popV (popK k))) := rfl
 rw [hd]
 unfold failR rstK
 rw [hp, hq]
 rcases snoc_cases stk with rfl | ⟨a, x, rfl⟩
 ·exact .inl ⟨by simp, pushf (pushf (popf (R_pop0 h)) _) _⟩
 ·obtain ⟨e1, e2⟩ := R_pop1 h
  rcases snoc_cases a with rfl | ⟨a, y, rfl⟩
  ·exact .inl ⟨by simp, pushf (pushf (R_pop0 e2) _) _⟩
  ·obtain ⟨e3, e4⟩ := R_pop1 e2
   have hl2 : a.length < 15 := by simp only [List.length_append, List.length_singleton] at hl; omega
   have e5 := R_push e4 (by omega) (popV k)
   have e6 := R_push e5 (by simp only [List.length_append, List.length_singleton]; omega) (popV (popK k))
   exact .inr ⟨by simp only [List.length_append, List.length_singleton] at *; omega, a, [y, x], by simp, by simp, by
    rw [show pushedR row g c w 16 arg [y, x] = [x, y] from rfl]
    rw [e1, e3] at e6 ⊢
    simpa using e6, rfl, rfl, rfl⟩
theorem stpM (op : Int) (h0 : 0 ≤ op) (h1 : op ≤ 20) (row : Int) (g : List Gl) (arg c w : Int) (i n : Int) {k : Kk} {stk : List Int} (h : Rk k stk) : (failR stk (op) ∧ (doC row g (op) arg c w k).2.2.f = true) ∨ (¬ failR stk (op) ∧ ∃ a pp, stk = a ++ pp ∧ rstK stk (op) = a.length ∧ Rk (doC row g (op) arg c w k).2.2 (a ++ (pushedR row g c w (op) arg pp).map limS) ∧ (doC row g (op) arg c w k).1 = clsR (op) c (pp.getD 0 0) ∧ (doC row g (op) arg c w k).2.1 = waiR (op) w (pp.getD 0 0) ∧ nextC (op) arg i n k = nextR (op) arg i n (pp.getD 0 0)) := by
 obtain ⟨m, rfl⟩ := Int.eq_ofNat_of_zero_le h0
 have : m = 0 ∨ m = 1 ∨ m = 2 ∨ m = 3 ∨ m = 4 ∨ m = 5 ∨ m = 6 ∨ m = 7 ∨ m = 8 ∨ m = 9 ∨ m = 10 ∨ m = 11 ∨ m = 12 ∨ m = 13 ∨ m = 14 ∨ m = 15 ∨ m = 16 ∨ m = 17 ∨ m = 18 ∨ m = 19 ∨ m = 20 := by omega
 rcases this with rfl | rfl | rfl | rfl | rfl | rfl | rfl | rfl | rfl | rfl | rfl | rfl | rfl | rfl | rfl | rfl | rfl | rfl | rfl | rfl | rfl
 ·exact stp_0 row g arg c w i n h
 ·exact stp_1 row g arg c w i n h
 ·exact stp_2 row g arg c w i n h
 ·exact stp_3 row g arg c w i n h
 ·exact stp_4 row g arg c w i n h
 ·exact stp_5 row g arg c w i n h
 ·exact stp_6 row g arg c w i n h
 ·exact stp_7 row g arg c w i n h
 ·exact stp_8 row g arg c w i n h
 ·exact stp_9 row g arg c w i n h
 ·exact stp_10 row g arg c w i n h
 ·exact stp_11 row g arg c w i n h
 ·exact stp_12 row g arg c w i n h
 ·exact stp_13 row g arg c w i n h
 ·exact stp_14 row g arg c w i n h
 ·exact stp_15 row g arg c w i n h
 ·exact stp_16 row g arg c w i n h
 ·exact stp_17 row g arg c w i n h
 ·exact stp_18 row g arg c w i n h
 ·exact stp_19 row g arg c w i n h
 ·exact stp_20 row g arg c w i n h
theorem runCR_eq {l : List Ins} (hl : checkI l = 0) (row : Int) (g : List Gl) (c0 w0 : Int) : ∀ (n i s : Nat) (c w : Int) (k : Kk) (stk : List Int), Rk k stk → runC l row g c0 w0 n i s c w k = runR l row g c0 w0 n i s c w stk := by
 intro n
 induction n with
 | zero =>
  intro i s c w k stk h
  cases e : l[i]? with
  | none => rw [runC_none e, runR_none e]
  | some p => rw [runC_fuel e, runR_fuel e]
 | succ n ih =>
  intro i s c w k stk h
  cases e : l[i]? with
  | none => rw [runC_none e, runR_none e]
  | some p =>
   obtain ⟨a1, a2, _⟩ := chk_at hl e
   rcases stpM p.1 a1 a2 row g p.2 c w i l.length h with ⟨f1, f2⟩ | ⟨f1, a, pp, rfl, f3, f4, f5, f6, f7⟩
   ·rw [runC_fail e f2, runR_fail e f1]
   ·rw [runC_step e f4.2.1, runR_step e f1 f3, f5, f6, f7]
    exact ih _ _ _ _ _ _ f4
theorem Rk_0 : Rk k0 [] := ⟨k0_ok, rfl, rfl⟩
theorem run_eqS (l : List Ins) (row : Int) (g : List Gl) (c w r fuel : Int) : runS l row g c w r fuel = runT l row g c w r fuel := by
 unfold runS runT
 split
 ·rename_i h
  rw [runCR_eq h row g c w _ 0 0 c w k0 [] Rk_0]
 ·rfl
end Go.VI

namespace Go.VI
open Go.Proofs
set_option maxRecDepth 100000
set_option linter.unusedSimpArgs false
set_option linter.unusedVariables false
set_option maxHeartbeats 4000000
def longG (g : List Gl) : Bool := g.any fun x => decide (40 < (x.1.length : Int))
def bG (g : List Gl) : Prop := ∀ a ∈ g, a.1.length ≤ maxLen ∧ -9223372036854775808 ≤ a.2.2 ∧ a.2.2 ≤ 9223372036854775807
theorem eq_oc (a1 a2 a3 a4 a5 b1 b2 b3 b4 b5 : Int) : binE Tryd.prog .eql 32 (.agg [.i (.v (.int .i64 a1)), .i (.v (.int .i64 a2)), .i (.v (.int .i64 a3)), .i (.v (.int .i64 a4)), .i (.v (.int .i64 a5))]) (.agg [.i (.v (.int .i64 b1)), .i (.v (.int .i64 b2)), .i (.v (.int .i64 b3)), .i (.v (.int .i64 b4)), .i (.v (.int .i64 b5))]) = some (.i (.v (.bool (decide (a1 = b1) && (decide (a2 = b2) && (decide (a3 = b3) && (decide (a4 = b4) && (decide (a5 = b5) && true)))))))) := by
 rw [be_aa]
 unfold eqE
 simp only
 rw [if_neg (by rw [eqg32]; decide), agg32, lv32]
 rfl
theorem eq_vd (a1 a2 a3 b1 b2 b3 : Int) : binE Tryd.prog .eql 25 (.agg [.i (.v (.int .i64 a1)), .i (.v (.int .i64 a2)), .i (.v (.int .i64 a3))]) (.agg [.i (.v (.int .i64 b1)), .i (.v (.int .i64 b2)), .i (.v (.int .i64 b3))]) = some (.i (.v (.bool (decide (a1 = b1) && (decide (a2 = b2) && (decide (a3 = b3) && true)))))) := by
 rw [be_aa]
 unfold eqE
 simp only
 rw [if_neg (by rw [eqg25]; decide), agg25, lv25]
 rfl
end Go.VI

namespace Go.VI
open Go.Proofs
set_option maxRecDepth 100000
set_option linter.unusedSimpArgs false
set_option linter.unusedVariables false
set_option maxHeartbeats 4000000
theorem limI_5000 : limI 5000 = 5000 := rfl
end Go.VI

namespace Go.VI
open Go.Proofs
set_option maxRecDepth 100000
set_option linter.unusedSimpArgs false
set_option linter.unusedVariables false
set_option maxHeartbeats 4000000
def walkF (l : List Ins) : Nat → Nat → Int → List Int
 | 0, _, _ => []
 | f + 1, i, q => if i < l.length then (i : Int) :: (if (l.getD i (0, 0)).1 = 0 then [] else if (l.getD i (0, 0)).1 = 17 then walkF l f (l.getD i (0, 0)).2.toNat q else if (l.getD i (0, 0)).1 = 18 then walkF l f (if q % 2 = 1 then (l.getD i (0, 0)).2.toNat else i + 1) (q / 2) else walkF l f (i + 1) q) else []
theorem chk1_jump {n k : Nat} {op arg : Int} (h : chk1 n k (op, arg) = 0) (hj : op = 17 ∨ op = 18) : (k : Int) + 1 ≤ arg ∧ arg ≤ n := by
 unfold chk1 at h
 simp only at h
 split at h
 ·cases h
 rename_i h1
 split at h
 ·cases h
 rename_i h2
 have h1 : ¬ op = 1 := by omega
 unfold boundsS at h2
 rw [if_neg h1, if_pos hj] at h2
 simp only at h2
 omega
def walkS (l : List Ins) (q : Int) : List Int := walkF l (l.length + 1) 0 q
end Go.VI

namespace Go.VI
open Go.Proofs
set_option maxRecDepth 100000
set_option linter.unusedSimpArgs false
set_option linter.unusedVariables false
set_option maxHeartbeats 4000000
theorem dSet_keep {n after : Int} : ∀ (ks out out' : List Int), dSet n after ks out = some out' → (∀ x ∈ ks, 0 ≤ x) → ∀ j : Nat, (j : Int) < n → 0 ≤ out.getD j 0 → j < out.length → out'.getD j 0 = out.getD j 0
 | [], out, out', h, hk, j, hj, h0, hl => by simp only [dSet, Option.some.injEq] at h; rw [h]
 | k :: ks, out, out', h, hk, j, hj, h0, hl => by
  simp only [dSet] at h
  split at h
  ·cases h
  ·rename_i hc
   have hk0 := hk k (.head _)
   have hs : (out.set k.toNat after).getD j 0 = out.getD j 0 := by
    rw [getD_set_int]
    split
    ·rename_i he
     obtain ⟨rfl, _⟩ := he
     by_cases hx : out.getD k.toNat 0 = after
     ·exact hx.symm
     ·exact absurd ⟨by omega, h0, hx⟩ hc
    ·rfl
   rw [dSet_keep ks _ out' h (fun x hx => hk x (.tail _ hx)) j hj (by rw [hs]; exact h0) (by rw [List.length_set]; exact hl), hs]
theorem dSet_hit {n after : Int} (ha : 0 ≤ after) : ∀ (ks out out' : List Int), dSet n after ks out = some out' → (∀ x ∈ ks, 0 ≤ x) → ∀ j : Nat, (j : Int) < n → j < out.length → (j : Int) ∈ ks → out'.getD j 0 = after
 | [], out, out', h, hk, j, hj, hl, hm => by cases hm
 | k :: ks, out, out', h, hk, j, hj, hl, hm => by
  simp only [dSet] at h
  split at h
  ·cases h
  ·rename_i hc
   rcases List.mem_cons.1 hm with e | hm
   ·subst e
    have hs : (out.set (j : Int).toNat after).getD j 0 = after := by rw [getD_set_int, if_pos ⟨by omega, by omega⟩]
    rw [dSet_keep ks _ out' h (fun x hx => hk x (.tail _ hx)) j hj (by rw [hs]; exact ha) (by rw [List.length_set]; exact hl), hs]
   ·exact dSet_hit ha ks _ out' h (fun x hx => hk x (.tail _ hx)) j hj (by rw [List.length_set]; exact hl) hm
theorem dSet_new {n after : Int} : ∀ (ks out out' : List Int), dSet n after ks out = some out' → (∀ x ∈ ks, 0 ≤ x) → ∀ j : Nat, (j : Int) ∉ ks → out'.getD j 0 = out.getD j 0
 | [], out, out', h, hk, j, hm => by simp only [dSet, Option.some.injEq] at h; rw [h]
 | k :: ks, out, out', h, hk, j, hm => by
  simp only [dSet] at h
  split at h
  ·cases h
  ·rename_i hc
   have hk0 := hk k (.head _)
   rw [dSet_new ks _ out' h (fun x hx => hk x (.tail _ hx)) j (fun hx => hm (.tail _ hx)), getD_set_int, if_neg]
   intro he
   exact hm (by
    rw [← he.1]
    have : ((k.toNat : Nat) : Int) = k := by omega
    rw [this]
    exact .head _)
structure Good (l : List Ins) : Prop where
 ok : ∀ (j : Nat) (h : j < l.length), chk1 l.length j l[j] = 0
theorem good_of {l : List Ins} (h : checkI l = 0) : Good l := ⟨check_ok h⟩
theorem good_getD {l : List Ins} {j : Nat} (h : j < l.length) : l.getD j (0, 0) = l[j] := by rw [List.getD_eq_getElem?_getD, List.getElem?_eq_getElem h]; rfl
theorem good_suc {l : List Ins} (g : Good l) {j : Nat} (h : j < l.length) : (0 ≤ (l.getD j (0, 0)).1 ∧ (l.getD j (0, 0)).1 ≤ 20) ∧ ∀ x ∈ sucL (l.getD j (0, 0)).1 (l.getD j (0, 0)).2 j, (j : Int) < x ∧ x ≤ l.length := by
 rw [good_getD h]; exact sucL_in h (g.ok j h)
theorem good_jump {l : List Ins} (g : Good l) {j : Nat} (h : j < l.length) (hj : (l.getD j (0, 0)).1 = 17 ∨ (l.getD j (0, 0)).1 = 18) : (j : Int) + 1 ≤ (l.getD j (0, 0)).2 ∧ (l.getD j (0, 0)).2 ≤ l.length := by
 rw [good_getD h] at hj ⊢; exact chk1_jump (g.ok j h) hj
theorem dStep_keep {l : List Ins} (g : Good l) {k : Nat} (hk : k < l.length) {out out' : List Int} (h : dStep l.length k (l.getD k (0, 0)) out = some out') : ∀ j : Nat, j < l.length → 0 ≤ out.getD j 0 → j < out.length → out'.getD j 0 = out.getD j 0 := fun j hj h0 hl => by
 unfold dStep at h
 split at h
 ·injection h with h; rw [h]
 split at h
 ·cases h
 ·exact dSet_keep _ _ _ h (fun x hx => by have := (good_suc g hk).2 x hx; omega) j (by omega) h0 hl
theorem dStep_len {n i : Nat} {p : Ins} {out out' : List Int} (h : dStep n i p out = some out') : out'.length = out.length := by
 unfold dStep at h
 split at h
 ·injection h with h; rw [h]
 split at h
 ·cases h
 ·exact dSet_len _ _ _ h
theorem dRun_next {l : List Ins} {k : Nat} (hk : k < l.length) {out fin : List Int} (h : dRun l.length k (l.drop k) out = some fin) : ∃ out', dStep l.length k (l.getD k (0, 0)) out = some out' ∧ dRun l.length (k + 1) (l.drop (k + 1)) out' = some fin := by
 rw [List.drop_eq_getElem_cons hk, dRun, ← good_getD hk] at h
 cases hd : dStep l.length k (l.getD k (0, 0)) out with
 | none => rw [hd] at h; cases h
 | some out' => rw [hd] at h; exact ⟨out', rfl, h⟩
theorem dRun_to {l : List Ins} (g : Good l) {fin : List Int} (b : Nat) (hb : b ≤ l.length) (a : Nat) (ha : a ≤ b) (out : List Int) (hl : out.length = l.length + 1) (h : dRun l.length a (l.drop a) out = some fin) :
  ∃ out', dRun l.length b (l.drop b) out' = some fin ∧ out'.length = l.length + 1 ∧ ∀ j : Nat, j < l.length → 0 ≤ out.getD j 0 → out'.getD j 0 = out.getD j 0 := by
 by_cases hlt : a < b
 ·obtain ⟨o1, h1, h2⟩ := dRun_next (by omega) h
  obtain ⟨o2, g1, g2, g3⟩ := dRun_to g b hb (a + 1) hlt o1 (by rw [dStep_len h1]; exact hl) h2
  refine ⟨o2, g1, g2, fun j hj h0 => ?_⟩
  have h3 := dStep_keep g (by omega) h1 j hj h0 (by omega)
  rw [g3 j hj (by rw [h3]; exact h0), h3]
 ·obtain rfl : a = b := by omega
  exact ⟨out, h, hl, fun _ _ _ => rfl⟩
termination_by b - a
theorem dRun_fin {l : List Ins} (g : Good l) {fin : List Int} (a : Nat) (ha : a ≤ l.length) (out : List Int) (hl : out.length = l.length + 1) (h : dRun l.length a (l.drop a) out = some fin) : fin.length = l.length + 1 ∧ ∀ j : Nat, j < l.length → 0 ≤ out.getD j 0 → fin.getD j 0 = out.getD j 0 := by
 obtain ⟨o, g1, g2, g3⟩ := dRun_to g l.length (Nat.le_refl _) a ha out hl h
 rw [List.drop_length, dRun, Option.some.injEq] at g1
 subst g1
 exact ⟨g2, g3⟩
def pathOK (fin : List Int) (l : List Ins) : List Int → Int → Prop
 | [], _ => True
 | i :: r, d => (0 ≤ i ∧ i < l.length ∧ fin.getD i.toNat 0 = d ∧ popS (l.getD i.toNat (0, 0)).1 ≤ d ∧ d - popS (l.getD i.toNat (0, 0)).1 + pushS (l.getD i.toNat (0, 0)).1 ≤ 16 ∧ 0 ≤ d) ∧ pathOK fin l r (d - popS (l.getD i.toNat (0, 0)).1 + pushS (l.getD i.toNat (0, 0)).1)
theorem walk_end {l : List Ins} (f : Nat) {k : Nat} (q : Int) (hk : l.length ≤ k) : walkF l f k q = [] := by
 cases f with
 | zero => rfl
 | succ f => rw [walkF, if_neg (by omega)]
def nextW (p : Ins) (k : Nat) (q : Int) : Option (Nat × Int) := if p.1 = 0 then none else if p.1 = 17 then some (p.2.toNat, q) else if p.1 = 18 then some (if q % 2 = 1 then p.2.toNat else k + 1, q / 2) else some (k + 1, q)
theorem walk_step {l : List Ins} (f : Nat) {k : Nat} (q : Int) (hk : k < l.length) : walkF l (f + 1) k q = (k : Int) :: (match nextW (l.getD k (0, 0)) k q with | none => [] | some (k', q') => walkF l f k' q') := by
 rw [walkF, if_pos hk]
 unfold nextW
 by_cases h0 : (l.getD k (0, 0)).1 = 0
 ·rw [if_pos h0, if_pos h0]
 ·rw [if_neg h0, if_neg h0]
  by_cases h17 : (l.getD k (0, 0)).1 = 17
  ·rw [if_pos h17, if_pos h17]
  ·rw [if_neg h17, if_neg h17]
   by_cases h18 : (l.getD k (0, 0)).1 = 18
   ·rw [if_pos h18, if_pos h18]
   ·rw [if_neg h18, if_neg h18]
theorem nextW_suc {l : List Ins} (g : Good l) {k : Nat} (hk : k < l.length) {q : Int} {k' : Nat} {q' : Int} (h : nextW (l.getD k (0, 0)) k q = some (k', q')) : (k' : Int) ∈ sucL (l.getD k (0, 0)).1 (l.getD k (0, 0)).2 k ∧ k < k' ∧ k' ≤ l.length := by
 have key : (k' : Int) ∈ sucL (l.getD k (0, 0)).1 (l.getD k (0, 0)).2 k := by
  unfold nextW at h
  unfold sucL
  rw [List.mem_append]
  split at h
  ·cases h
  rename_i h0
  split at h
  ·rename_i h17
   have := good_jump g hk (.inl h17)
   injection h with h; injection h with h1 h2
   refine .inr ?_
   rw [if_pos (.inl h17), List.mem_singleton]; omega
  rename_i h17
  split at h
  ·rename_i h18
   have := good_jump g hk (.inr h18)
   injection h with h; injection h with h1 h2
   split at h1
   ·refine .inr ?_
    rw [if_pos (.inr h18), List.mem_singleton]; omega
   ·refine .inl ?_
    rw [if_neg (by omega), List.mem_singleton]; omega
  ·injection h with h; injection h with h1 h2
   refine .inl ?_
   rw [if_neg (by omega), List.mem_singleton]; omega
 have := (good_suc g hk).2 _ key
 exact ⟨key, by omega, by omega⟩
theorem path_ok {l : List Ins} (g : Good l) {fin : List Int} : ∀ (f k : Nat) (hk : k ≤ l.length) (out : List Int) (hl : out.length = l.length + 1) (h : dRun l.length k (l.drop k) out = some fin) (d : Int) (h0 : 0 ≤ d) (hd : k < l.length → out.getD k 0 = d) (q : Int), pathOK fin l (walkF l f k q) d
 | 0, _, _, _, _, _, _, _, _, _ => trivial
 | f + 1, k, hk, out, hl, h, d, h0, hd, q => by
  by_cases hlt : k < l.length
  ·rw [walk_step f q hlt]
   have hd := hd hlt
   have hfin := (dRun_fin g k hk out hl h).2 k hlt (by omega)
   obtain ⟨o1, h1, h2⟩ := dRun_next hlt h
   have hl1 := (dStep_len h1).trans hl
   unfold dStep at h1
   rw [if_neg (by omega)] at h1
   split at h1
   ·cases h1
   rename_i hc
   have hpu := pushS_r (l.getD k (0, 0)).1
   rw [hd] at hc h1
   refine ⟨?_, ?_⟩
   ·exact ⟨by omega, by omega, by rw [Int.toNat_natCast, hfin, hd], by rw [Int.toNat_natCast]; omega, by rw [Int.toNat_natCast]; omega, h0⟩
   ·rw [Int.toNat_natCast]
    cases hn : nextW (l.getD k (0, 0)) k q with
    | none => trivial
    | some kq =>
     obtain ⟨k', q'⟩ := kq
     obtain ⟨hs, hb1, hb2⟩ := nextW_suc g hlt hn
     simp only
     obtain ⟨o2, g1, g2, g3⟩ := dRun_to g k' hb2 (k + 1) hb1 o1 hl1 h2
     refine path_ok g f k' hb2 o2 g2 g1 _ (by omega) (fun hlt' => ?_) q'
     have hh := dSet_hit (by omega) _ _ _ h1 (fun x hx => by have := (good_suc g hlt).2 x hx; omega) k' (by omega) (by omega) hs
     rw [g3 k' hlt' (by rw [hh]; omega), hh]
  ·rw [walk_end _ _ (by omega)]
   trivial
end Go.VI

namespace Go.VI
open Go.Proofs
set_option maxRecDepth 100000
set_option linter.unusedSimpArgs false
set_option linter.unusedVariables false
set_option maxHeartbeats 4000000
theorem pathOK_congr {l : List Ins} {d fin : List Int} (h : ∀ j : Nat, j < l.length → d.getD j 0 = fin.getD j 0) : ∀ (w : List Int) (dep : Int), pathOK fin l w dep → pathOK d l w dep
 | [], _, _ => trivial
 | i :: r, dep, ⟨⟨p1, p2, p3, p4⟩, hr⟩ => ⟨⟨p1, p2, by rw [h i.toNat (by omega)]; exact p3, p4⟩, pathOK_congr h r _ hr⟩
theorem getD_take (l : List Int) (n j : Nat) (h : j < n) : (l.take n).getD j 0 = l.getD j 0 := by
 rw [List.getD_eq_getElem?_getD, List.getD_eq_getElem?_getD, List.getElem?_take, if_pos h]
theorem depths_ok {l : List Ins} (h : (depthsS l).2 = 0) : ∃ fin, checkI l = 0 ∧ dRun l.length 0 l (0 :: List.replicate l.length (-1)) = some fin ∧ (depthsS l).1 = fin.take l.length ∧ fin.length = l.length + 1 := by
 unfold depthsS at h ⊢
 by_cases h0 : checkI l = 0
 ·rw [if_pos h0] at h ⊢
  cases hd : dRun l.length 0 l (0 :: List.replicate l.length (-1)) with
  | none => rw [hd] at h; cases h
  | some fin =>
   refine ⟨fin, h0, rfl, rfl, ?_⟩
   exact (dRun_fin (good_of h0) 0 (Nat.zero_le _) (0 :: List.replicate l.length (-1)) (by simp) (by rw [List.drop_zero]; exact hd)).1
 ·rw [if_neg h0] at h
  exact absurd h h0
theorem depths_path {l : List Ins} (h : (depthsS l).2 = 0) (f : Nat) (q : Int) : pathOK (depthsS l).1 l (walkF l f 0 q) 0 := by
 obtain ⟨fin, h0, hd, h1, h2⟩ := depths_ok h
 rw [h1]
 refine pathOK_congr (fun j hj => getD_take _ _ _ hj) _ _ ?_
 exact path_ok (good_of h0) f 0 (Nat.zero_le _) (0 :: List.replicate l.length (-1)) (by simp) (by rw [List.drop_zero]; exact hd) 0 (by omega) (fun _ => rfl) q
theorem fSet_own (i : Nat) : ∀ (xs out : List Int), (∀ x ∈ xs, (i : Int) < x) → i < out.length → ∀ j : Nat, j ≠ i → (fSet i xs out).getD j 0 = out.getD j 0
 | [], out, h, hl, j, hj => rfl
 | x :: xs, out, h, hl, j, hj => by
  rw [fSet, fSet_own i xs _ (fun y hy => h y (.tail _ hy)) (by rw [List.length_set]; exact hl) j hj, getD_set_int, if_neg (fun e => hj e.1.symm)]
theorem fSet_ge (i : Nat) : ∀ (xs out : List Int), (∀ x ∈ xs, (i : Int) < x) → i < out.length → out.getD i 0 ≤ (fSet i xs out).getD i 0 ∧ ∀ x ∈ xs, out.getD x.toNat 0 ≤ (fSet i xs out).getD i 0
 | [], out, h, hl => ⟨Int.le_refl _, fun x hx => by cases hx⟩
 | x :: xs, out, h, hl => by
  have hx := h x (.head _)
  obtain ⟨h1, h2⟩ := fSet_ge i xs (out.set i (max (out.getD i 0) (out.getD x.toNat 0))) (fun y hy => h y (.tail _ hy)) (by rw [List.length_set]; exact hl)
  rw [getD_set_int, if_pos ⟨rfl, hl⟩] at h1
  rw [fSet]
  refine ⟨by omega, fun y hy => ?_⟩
  rcases List.mem_cons.1 hy with rfl | hy
  ·omega
  ·have hyy := h y (.tail _ hy)
   have := h2 y hy
   rw [getD_set_int, if_neg (by omega)] at this
   exact this
theorem fSet_at (i : Nat) : ∀ (xs out : List Int), (∀ x ∈ xs, (i : Int) < x) → i < out.length → (fSet i xs out).getD i 0 = out.getD i 0 ∨ ∃ x ∈ xs, (fSet i xs out).getD i 0 = out.getD x.toNat 0
 | [], out, h, hl => .inl rfl
 | x :: xs, out, h, hl => by
  have hx := h x (.head _)
  rw [fSet]
  rcases fSet_at i xs (out.set i (max (out.getD i 0) (out.getD x.toNat 0))) (fun y hy => h y (.tail _ hy)) (by rw [List.length_set]; exact hl) with h1 | ⟨y, hy, h1⟩
  ·rw [h1, getD_set_int, if_pos ⟨rfl, hl⟩]
   by_cases hm : out.getD i 0 ≤ out.getD x.toNat 0
   ·exact .inr ⟨x, .head _, by omega⟩
   ·exact .inl (by omega)
  ·have hyy := h y (.tail _ hy)
   rw [getD_set_int, if_neg (by omega)] at h1
   exact .inr ⟨y, .tail _ hy, h1⟩
structure Most (l : List Ins) (k : Nat) (out : List Int) : Prop where
 len : out.length = l.length + 1
 low : ∀ j : Nat, j < k → out.getD j 0 = 0
 end_ : 0 ≤ out.getD l.length 0
 ge : ∀ j : Nat, k ≤ j → j ≤ l.length → ∀ f q, ((walkF l f j q).length : Int) ≤ out.getD j 0
theorem most_step {l : List Ins} (g : Good l) {k : Nat} (hk : k < l.length) {out : List Int} (h : Most l (k + 1) out) : Most l k (fStep k (l.getD k (0, 0)) out) := by
 have hs := good_suc g hk
 have hxs : ∀ x ∈ sucL (l.getD k (0, 0)).1 (l.getD k (0, 0)).2 k, (k : Int) < x := fun x hx => (hs.2 x hx).1
 have hl : k < out.length := by rw [h.len]; omega
 have hl2 := fSet_len k (sucL (l.getD k (0, 0)).1 (l.getD k (0, 0)).2 k) out
 have hother : ∀ j : Nat, j ≠ k → (fStep k (l.getD k (0, 0)) out).getD j 0 = out.getD j 0 := fun j hj => by
  unfold fStep
  rw [getD_set_int, if_neg (fun e => hj e.1.symm), fSet_own k _ _ hxs hl j hj]
 have hown : (fStep k (l.getD k (0, 0)) out).getD k 0 = (fSet k (sucL (l.getD k (0, 0)).1 (l.getD k (0, 0)).2 k) out).getD k 0 + 1 := by
  unfold fStep
  rw [getD_set_int, if_pos ⟨rfl, by rw [hl2]; exact hl⟩]
 refine ⟨by rw [fStep_len]; exact h.len, fun j hj => ?_, ?_, fun j hj hjl f q => ?_⟩
 ·rw [hother j (by omega)]; exact h.low j (by omega)
 ·rw [hother _ (by omega)]; exact h.end_
 ·by_cases hjk : j = k
  ·subst hjk
   rw [hown]
   obtain ⟨h1, h2⟩ := fSet_ge j _ _ hxs hl
   rw [h.low j (by omega)] at h1
   cases f with
   | zero => simp only [walkF, List.length_nil]; omega
   | succ f =>
    rw [walk_step f q hk, List.length_cons]
    cases hn : nextW (l.getD j (0, 0)) j q with
    | none => simp only [List.length_nil]; omega
    | some kq =>
     obtain ⟨k', q'⟩ := kq
     obtain ⟨hs', hb1, hb2⟩ := nextW_suc g hk hn
     have h3 := h2 _ hs'
     rw [Int.toNat_natCast] at h3
     have h4 := h.ge k' hb1 hb2 f q'
     simp only
     omega
  ·rw [hother j hjk]; exact h.ge j (by omega) hjl f q
theorem most_run {l : List Ins} (g : Good l) : ∀ (k : Nat), k ≤ l.length → ∀ out, Most l k out → Most l 0 (fRun l k out)
 | 0, _, out, h => h
 | k + 1, hk, out, h => most_run g k (by omega) _ (most_step g hk h)
theorem getD_rep0 (n j : Nat) : (List.replicate n (0 : Int)).getD j 0 = 0 := by
 rw [List.getD_eq_getElem?_getD, List.getElem?_replicate]; split <;> rfl
theorem most_start (l : List Ins) : Most l l.length (List.replicate (l.length + 1) 0) :=
 ⟨by simp, fun j _ => getD_rep0 _ _, by rw [getD_rep0]; exact Int.le_refl _, fun j h1 h2 f q => by rw [walk_end f q h1, getD_rep0]; exact Int.le_refl _⟩
theorem fuel_ge {l : List Ins} (h : checkI l = 0) (f : Nat) (q : Int) : (fuelS l).2 = 0 ∧ ((walkF l f 0 q).length : Int) ≤ (fuelS l).1 := by
 unfold fuelS
 rw [if_pos h]
 exact ⟨rfl, (most_run (good_of h) l.length (Nat.le_refl _) _ (most_start l)).ge 0 (Nat.le_refl _) (Nat.zero_le _) f q⟩
theorem walk_len {l : List Ins} : ∀ (f k : Nat) (q : Int), (walkF l f k q).length ≤ f
 | 0, k, q => Nat.le_refl _
 | f + 1, k, q => by
  by_cases hk : k < l.length
  ·rw [walk_step f q hk, List.length_cons]
   cases nextW (l.getD k (0, 0)) k q with
   | none => simp only [List.length_nil]; omega
   | some kq => have := walk_len (l := l) f kq.1 kq.2; simp only; omega
  ·rw [walk_end _ _ (by omega)]; exact Nat.zero_le _
end Go.VI

namespace Go.VI
open Go.Proofs
set_option maxRecDepth 100000
set_option linter.unusedSimpArgs false
set_option linter.unusedVariables false
set_option maxHeartbeats 4000000
def jz : List Ins → Nat
 | [] => 0
 | p :: r => (if p.1 = 18 then 1 else 0) + jz r
theorem jz_drop (l : List Ins) {k : Nat} (hk : k < l.length) : jz (l.drop k) = (if (l.getD k (0, 0)).1 = 18 then 1 else 0) + jz (l.drop (k + 1)) := by
 rw [List.drop_eq_getElem_cons hk, jz, good_getD hk]
theorem jz_mono (l : List Ins) (a b : Nat) (h : a ≤ b) (hb : b ≤ l.length) : jz (l.drop b) ≤ jz (l.drop a) := by
 by_cases hlt : a < b
 ·have h1 := jz_mono l (a + 1) b hlt hb
  rw [jz_drop l (k := a) (by omega)]
  omega
 ·obtain rfl : a = b := by omega
  exact Nat.le_refl _
termination_by b - a
def two (n : Nat) : Int := ((2 ^ n : Nat) : Int)
theorem two_pos (n : Nat) : 1 ≤ two n := by unfold two; have := Nat.two_pow_pos n; omega
theorem two_succ (n : Nat) : two (n + 1) = 2 * two n := by unfold two; rw [Nat.pow_succ]; omega
theorem two_mono {a b : Nat} (h : a ≤ b) : two a ≤ two b := by unfold two; have := Nat.pow_le_pow_right (n := 2) (by omega) h; omega
structure Hit (l : List Ins) (k : Nat) (out : List Int) : Prop where
 len : out.length = l.length + 1
 low : ∀ j : Nat, j < k → out.getD j 0 = 0
 at_ : ∀ j : Nat, k ≤ j → j ≤ l.length → ∃ q, 0 ≤ q ∧ q < two (jz (l.drop j)) ∧ ∀ f, l.length + 1 ≤ j + f → ((walkF l f j q).length : Int) = out.getD j 0
theorem pick_next {l : List Ins} (g : Good l) {k : Nat} (hk : k < l.length) {k' : Nat} (hs : (k' : Int) ∈ sucL (l.getD k (0, 0)).1 (l.getD k (0, 0)).2 k) (q' : Int) (h0 : 0 ≤ q') (m : Nat) (h1 : q' < two m) : ∃ q, 0 ≤ q ∧ q < two ((if (l.getD k (0, 0)).1 = 18 then 1 else 0) + m) ∧ nextW (l.getD k (0, 0)) k q = some (k', q') := by
 unfold sucL at hs
 rw [List.mem_append] at hs
 unfold nextW
 by_cases h18 : (l.getD k (0, 0)).1 = 18
 ·have hj := good_jump g hk (.inr h18)
  rw [if_pos h18, Nat.add_comm, two_succ]
  rw [if_neg (by omega), if_pos (.inr h18), List.mem_singleton, List.mem_singleton] at hs
  rcases hs with hs | hs
  ·refine ⟨2 * q', by omega, by omega, ?_⟩
   rw [if_neg (by omega), if_neg (by omega), if_pos h18, if_neg (by omega)]
   have e1 : k + 1 = k' := by omega
   have e2 : 2 * q' / 2 = q' := by omega
   rw [e1, e2]
  ·refine ⟨2 * q' + 1, by omega, by omega, ?_⟩
   rw [if_neg (by omega), if_neg (by omega), if_pos h18, if_pos (by omega)]
   have e1 : (l.getD k (0, 0)).2.toNat = k' := by omega
   have e2 : (2 * q' + 1) / 2 = q' := by omega
   rw [e1, e2]
 ·rw [if_neg h18, Nat.zero_add]
  refine ⟨q', h0, h1, ?_⟩
  by_cases h17 : (l.getD k (0, 0)).1 = 17
  ·rw [if_neg (by omega), if_pos h17]
   rw [if_pos (.inr h17), if_pos (.inl h17), List.mem_singleton] at hs
   rcases hs with hs | hs
   ·cases hs
   ·have e1 : (l.getD k (0, 0)).2.toNat = k' := by omega
    rw [e1]
  ·by_cases h00 : (l.getD k (0, 0)).1 = 0
   ·rw [if_pos (.inl h00), if_neg (by omega)] at hs
    rcases hs with hs | hs <;> cases hs
   ·rw [if_neg h00, if_neg h17, if_neg h18]
    rw [if_neg (by omega), if_neg (by omega), List.mem_singleton] at hs
    rcases hs with hs | hs
    ·have e1 : k + 1 = k' := by omega
     rw [e1]
    ·cases hs
theorem sucL_nil {op arg i : Int} (h : sucL op arg i = []) : op = 0 := by
 unfold sucL at h
 rw [List.append_eq_nil_iff] at h
 by_cases h0 : op = 0
 ·exact h0
 ·exfalso
  obtain ⟨h1, h2⟩ := h
  by_cases h17 : op = 17
  ·rw [if_pos (.inl h17)] at h2; cases h2
  ·rw [if_neg (by omega)] at h1; cases h1
theorem hit_step {l : List Ins} (g : Good l) {k : Nat} (hk : k < l.length) {out : List Int} (hm : Most l (k + 1) out) (h : Hit l (k + 1) out) : Hit l k (fStep k (l.getD k (0, 0)) out) := by
 have hs := good_suc g hk
 have hxs : ∀ x ∈ sucL (l.getD k (0, 0)).1 (l.getD k (0, 0)).2 k, (k : Int) < x := fun x hx => (hs.2 x hx).1
 have hl : k < out.length := by rw [h.len]; omega
 have hl2 := fSet_len k (sucL (l.getD k (0, 0)).1 (l.getD k (0, 0)).2 k) out
 have hother : ∀ j : Nat, j ≠ k → (fStep k (l.getD k (0, 0)) out).getD j 0 = out.getD j 0 := fun j hj => by
  unfold fStep
  rw [getD_set_int, if_neg (fun e => hj e.1.symm), fSet_own k _ _ hxs hl j hj]
 have hown : (fStep k (l.getD k (0, 0)) out).getD k 0 = (fSet k (sucL (l.getD k (0, 0)).1 (l.getD k (0, 0)).2 k) out).getD k 0 + 1 := by
  unfold fStep
  rw [getD_set_int, if_pos ⟨rfl, by rw [hl2]; exact hl⟩]
 have via : ∀ k' : Nat, (k' : Int) ∈ sucL (l.getD k (0, 0)).1 (l.getD k (0, 0)).2 k → (fSet k (sucL (l.getD k (0, 0)).1 (l.getD k (0, 0)).2 k) out).getD k 0 = out.getD k' 0 →
   ∃ q, 0 ≤ q ∧ q < two (jz (l.drop k)) ∧ ∀ f, l.length + 1 ≤ k + f → ((walkF l f k q).length : Int) = (fStep k (l.getD k (0, 0)) out).getD k 0 := fun k' hk' he => by
  have hb := hs.2 _ hk'
  obtain ⟨q', p1, p2, p3⟩ := h.at_ k' (by omega) (by omega)
  obtain ⟨q, r1, r2, r3⟩ := pick_next g hk hk' q' p1 (jz (l.drop (k + 1))) (Int.lt_of_lt_of_le p2 (two_mono (jz_mono l (k + 1) k' (by omega) (by omega))))
  rw [← jz_drop l hk] at r2
  refine ⟨q, r1, r2, fun f hf => ?_⟩
  cases f with
  | zero => omega
  | succ f =>
   rw [walk_step f q hk, r3, hown, he, List.length_cons]
   simp only
   have := p3 f (by omega)
   omega
 refine ⟨by rw [fStep_len]; exact h.len, fun j hj => ?_, fun j hj hjl => ?_⟩
 ·rw [hother j (by omega)]; exact h.low j (by omega)
 ·by_cases hjk : j = k
  ·subst hjk
   rcases fSet_at j _ _ hxs hl with h1 | ⟨x, hx, h1⟩
   ·rw [h.low j (by omega)] at h1
    cases hsu : sucL (l.getD j (0, 0)).1 (l.getD j (0, 0)).2 j with
    | nil =>
     have h0 := sucL_nil hsu
     refine ⟨0, Int.le_refl _, Int.lt_of_lt_of_le (by omega) (two_pos _), fun f hf => ?_⟩
     cases f with
     | zero => omega
     | succ f =>
      rw [walk_step f 0 hk, hown, h1, nextW, if_pos h0]
      rfl
    | cons x xs =>
     have hx : x ∈ sucL (l.getD j (0, 0)).1 (l.getD j (0, 0)).2 j := by rw [hsu]; exact .head _
     have hb := hs.2 x hx
     have hge := (fSet_ge j _ _ hxs hl).2 x hx
     have h0 := hm.ge x.toNat (by omega) (by omega) 0 0
     simp only [walkF, List.length_nil] at h0
     have hc : ((x.toNat : Nat) : Int) = x := by omega
     exact via x.toNat (by rw [hc]; exact hx) (by omega)
   ·have hb := hs.2 x hx
    have hc : ((x.toNat : Nat) : Int) = x := by omega
    exact via x.toNat (by rw [hc]; exact hx) h1
  ·rw [hother j hjk]; exact h.at_ j (by omega) hjl
theorem hit_run {l : List Ins} (g : Good l) : ∀ (k : Nat), k ≤ l.length → ∀ out, Most l k out → Hit l k out → Hit l 0 (fRun l k out)
 | 0, _, out, hm, h => h
 | k + 1, hk, out, hm, h => hit_run g k (by omega) _ (most_step g hk hm) (hit_step g hk hm h)
theorem hit_start (l : List Ins) : Hit l l.length (List.replicate (l.length + 1) 0) :=
 ⟨by simp, fun j _ => getD_rep0 _ _, fun j h1 h2 => ⟨0, Int.le_refl _, Int.lt_of_lt_of_le (by omega) (two_pos _), fun f _ => by rw [walk_end f 0 h1, getD_rep0]; rfl⟩⟩
theorem fuel_hit {l : List Ins} (h : checkI l = 0) : ∃ q, 0 ≤ q ∧ q < two (jz l) ∧ ((walkS l q).length : Int) = (fuelS l).1 := by
 obtain ⟨q, h1, h2, h3⟩ := (hit_run (good_of h) l.length (Nat.le_refl _) _ (most_start l) (hit_start l)).at_ 0 (Nat.le_refl _) (Nat.zero_le _)
 refine ⟨q, h1, by rw [List.drop_zero] at h2; exact h2, ?_⟩
 unfold fuelS walkS
 rw [if_pos h]
 exact h3 _ (by omega)
end Go.VI

namespace Go.VI
open Go.Proofs
set_option maxRecDepth 100000
set_option linter.unusedSimpArgs false
set_option linter.unusedVariables false
set_option maxHeartbeats 4000000
theorem getD_some {l : List Ins} {i : Nat} {p : Ins} (h : l[i]? = some p) : l.getD i (0, 0) = p := by rw [List.getD_eq_getElem?_getD, h]; rfl
theorem walk_enc {l : List Ins} {k : Nat} {p : Ins} (h : l[k]? = some p) (h0 : p.1 ≠ 0) (h1 : p.1 = 17 ∨ p.1 = 18 → 0 ≤ p.2) (p0 : Int) (q' : Int) : ∃ q, ∀ f, walkF l (f + 1) k q = (k : Int) :: walkF l f (nextR p.1 p.2 k l.length p0).toNat q' := by
 have hk : k < l.length := (List.getElem?_eq_some_iff.1 h).1
 have hg := getD_some h
 have step : ∀ q, nextW p k q = some ((nextR p.1 p.2 k l.length p0).toNat, q') → ∀ f, walkF l (f + 1) k q = (k : Int) :: walkF l f (nextR p.1 p.2 k l.length p0).toNat q' := by
  intro q hq f
  rw [walk_step f q hk, hg, hq]
 by_cases h17 : p.1 = 17
 ·refine ⟨q', step q' ?_⟩
  unfold nextW nextR
  rw [if_neg h0, if_pos h17, if_neg h0, if_pos h17]
 ·by_cases h18 : p.1 = 18
  ·by_cases hz : p0 = 0
   ·refine ⟨2 * q' + 1, step _ ?_⟩
    have e1 : nextR p.1 p.2 k l.length p0 = p.2 := by unfold nextR; rw [if_neg h0, if_neg h17, if_pos ⟨h18, hz⟩]
    rw [e1]
    unfold nextW
    rw [if_neg h0, if_neg h17, if_pos h18, if_pos (by omega), show (2 * q' + 1) / 2 = q' from by omega]
   ·refine ⟨2 * q', step _ ?_⟩
    have e1 : nextR p.1 p.2 k l.length p0 = ((k + 1 : Nat) : Int) := by unfold nextR; rw [if_neg h0, if_neg h17, if_neg (fun h => hz h.2)]; rfl
    rw [e1, Int.toNat_natCast]
    unfold nextW
    rw [if_neg h0, if_neg h17, if_pos h18, if_neg (by omega), show 2 * q' / 2 = q' from by omega]
  ·refine ⟨q', step q' ?_⟩
   unfold nextW nextR
   rw [if_neg h0, if_neg h17, if_neg h18, if_neg h0, if_neg h17, if_neg (fun h => h18 h.1)]
   congr 2
theorem run_path {l : List Ins} (hl : checkI l = 0) (row : Int) (g : List Gl) (c0 w0 : Int) (fin : List Int) : ∀ (n i s : Nat) (c w : Int) (stk : List Int), okS stk → (∀ f q, pathOK fin l (walkF l f i q) stk.length) →
  ∃ q, ((runR l row g c0 w0 n i s c w stk).2.2.2 = 0 ∧ ∃ m, (runR l row g c0 w0 n i s c w stk).2.2.1 = s + m ∧ m ≤ (walkF l n i q).length) ∨ ((runR l row g c0 w0 n i s c w stk).2.2.2 = 14 ∧ (walkF l (n + 1) i q).length = n + 1) := by
 intro n
 induction n with
 | zero =>
  intro i s c w stk hk hp
  cases e : l[i]? with
  | none => rw [runR_none e]; exact ⟨0, .inl ⟨rfl, 0, rfl, Nat.zero_le _⟩⟩
  | some p =>
   rw [runR_fuel e]
   have hi : i < l.length := (List.getElem?_eq_some_iff.1 e).1
   refine ⟨0, .inr ⟨rfl, ?_⟩⟩
   rw [walk_step 0 0 hi]
   cases nextW (l.getD i (0, 0)) i 0 <;> rfl
 | succ n ih =>
  intro i s c w stk hk hp
  cases e : l[i]? with
  | none => rw [runR_none e]; exact ⟨0, .inl ⟨rfl, 0, rfl, Nat.zero_le _⟩⟩
  | some p =>
   have hi : i < l.length := (List.getElem?_eq_some_iff.1 e).1
   obtain ⟨a1, a2, a3, a4, a5⟩ := chk_at hl e
   have hgd := getD_some e
   have hp1 := hp 1 0
   rw [walk_step 0 0 hi] at hp1
   have hp1 := hp1.1
   rw [Int.toNat_natCast, hgd] at hp1
   obtain ⟨_, _, _, b1, b2, _⟩ := hp1
   have hf : ¬ failR stk p.1 := by unfold failR; omega
   obtain ⟨a, pp, rfl, hrs, hpl⟩ := okS_split hk a1 a2 hf
   rw [runR_step e hf hrs]
   have hkn := okS_next (row := row) (g := g) (c := c) (w := w) (arg := p.2) hk a1 a2 hf hpl
   have hml := pushedR_len row g c w p.2 pp a1 a2
   by_cases h0 : p.1 = 0
   ·have hj : (nextR p.1 p.2 i l.length (pp.getD 0 0)).toNat = l.length := by unfold nextR; rw [if_pos h0]; omega
    rw [hj, runR_none (List.getElem?_eq_none (Nat.le_refl _))]
    refine ⟨0, .inl ⟨rfl, 1, rfl, ?_⟩⟩
    rw [walk_step n 0 hi]
    simp
   ·have hen := walk_enc e h0 (fun h => by have := a5 h; omega) (pp.getD 0 0)
    have hp2 : ∀ f q, pathOK fin l (walkF l f (nextR p.1 p.2 i l.length (pp.getD 0 0)).toNat q) (a ++ (pushedR row g c w p.1 p.2 pp).map limS).length := by
     intro f q
     obtain ⟨q2, hq⟩ := hen q
     have := hp (f + 1) q2
     rw [hq f] at this
     have := this.2
     rw [Int.toNat_natCast, hgd] at this
     rw [List.length_append, List.length_map]
     rw [List.length_append] at this
     rw [show ((a.length + (pushedR row g c w p.1 p.2 pp).length : Nat) : Int) = ((a.length + pp.length : Nat) : Int) - popS p.1 + pushS p.1 from by omega]
     exact this
    obtain ⟨q', hq'⟩ := ih _ (s + 1) (clsR p.1 c (pp.getD 0 0)) (waiR p.1 w (pp.getD 0 0)) _ hkn hp2
    obtain ⟨q, hq⟩ := hen q'
    refine ⟨q, ?_⟩
    rcases hq' with ⟨r1, m, r2, r3⟩ | ⟨r1, r2⟩
    ·refine .inl ⟨r1, m + 1, by rw [r2]; omega, ?_⟩
     rw [hq n, List.length_cons]; omega
    ·refine .inr ⟨r1, ?_⟩
     rw [hq (n + 1), List.length_cons, r2]
theorem fuel_501 {l : List Ins} (h : checkI l = 0) : 0 ≤ (fuelS l).1 ∧ (fuelS l).1 ≤ 501 := by
 obtain ⟨q, _, _, hq⟩ := fuel_hit h
 have h1 := walk_len (l := l) (l.length + 1) 0 q
 have h2 := check_len h
 unfold walkS at hq
 omega
end Go.VI

namespace Go.VI
open Go.Proofs
set_option maxRecDepth 100000
set_option linter.unusedSimpArgs false
set_option linter.unusedVariables false
set_option maxHeartbeats 4000000
theorem runR_congr {l : List Ins} {row : Int} {g g' : List Gl} {c0 w0 : Int} (h : ∀ c w op arg p, pushedR row g c w op arg p = pushedR row g' c w op arg p) : ∀ (n i s : Nat) (c w : Int) (stk : List Int), runR l row g c0 w0 n i s c w stk = runR l row g' c0 w0 n i s c w stk := by
 intro n
 induction n with
 | zero =>
  intro i s c w stk
  cases e : l[i]? with
  | none => rw [runR_none e, runR_none e]
  | some p => rw [runR_fuel e, runR_fuel e]
 | succ n ih =>
  intro i s c w stk
  cases e : l[i]? with
  | none => rw [runR_none e, runR_none e]
  | some p =>
   by_cases hf : failR stk p.1
   ·rw [runR_fail e hf, runR_fail e hf]
   ·simp only [runR, e, if_neg hf, h]
    exact ih _ _ _ _ _
def SimG (a g : List Gl) : Prop := a.length = g.length ∧ ∀ i : Nat, (a.getD i ([], false, 0)).2.2 = (g.getD i ([], false, 0)).2.2 ∧ ((g.getD i ([], false, 0)).2.2 ≠ 3 → a.getD i ([], false, 0) = g.getD i ([], false, 0))
theorem SimG.refl (g : List Gl) : SimG g g := ⟨rfl, fun _ => ⟨rfl, fun _ => rfl⟩⟩
theorem SimG.char {a g : List Gl} (h : SimG a g) (i : Int) : charS a i = charS g i := by
 unfold charS
 rw [h.1]
 split
 ·rfl
 ·obtain ⟨h1, h2⟩ := h.2 i.toNat
  unfold codeG
  rw [h1]
  split
  ·rfl
  ·rename_i hs
   rw [h2 hs]
theorem SimG.style {a g : List Gl} (h : SimG a g) (i : Int) : styleV a i = styleV g i := by
 unfold styleV
 rw [h.1, (h.2 i.toNat).1]
theorem SimG.run {a g : List Gl} (h : SimG a g) (l : List Ins) (row c w r fuel : Int) : runT l row a c w r fuel = runT l row g c w r fuel := by
 have hp : ∀ c w op arg p, pushedR row a c w op arg p = pushedR row g c w op arg p := by
  intro c w op arg p
  unfold pushedR
  rw [h.char, h.style, h.1]
 unfold runT
 simp only [runR_congr hp]
theorem getD_set_gl (a : List Gl) (k i : Nat) (x : Gl) (hk : k < a.length) : (a.set k x).getD i ([], false, 0) = if k = i then x else a.getD i ([], false, 0) := by
 rw [List.getD_eq_getElem?_getD, List.getD_eq_getElem?_getD, List.getElem?_set]
 by_cases h : k = i
 ·subst h
  rw [if_pos rfl, if_pos hk, if_pos rfl]; rfl
 ·rw [if_neg h, if_neg h]
theorem SimG.set {a g : List Gl} (h : SimG a g) {k : Nat} (hk : k < a.length) (h3 : (a.getD k ([], false, 0)).2.2 = 3) (t : List UInt8) : SimG (a.set k (t, (a.getD k ([], false, 0)).2)) g := by
 refine ⟨by rw [List.length_set]; exact h.1, fun i => ?_⟩
 rw [getD_set_gl a k i _ hk]
 obtain ⟨h1, h2⟩ := h.2 i
 split
 ·rename_i he
  subst he
  exact ⟨h1, fun hn => absurd (h1.symm.trans h3) hn⟩
 ·exact ⟨h1, h2⟩
end Go.VI

namespace Go.VI
open Go.Proofs
set_option maxRecDepth 100000
set_option linter.unusedSimpArgs false
set_option linter.unusedVariables false
set_option maxHeartbeats 4000000
def strt (p : Ins) : Prop := p.1 ≠ 0 ∧ p.1 ≠ 17 ∧ p.1 ≠ 18
end Go.VI

namespace Go.VI
open Go.Proofs
set_option maxRecDepth 100000
set_option linter.unusedSimpArgs false
set_option linter.unusedVariables false
set_option maxHeartbeats 4000000
instance (p : Ins) : Decidable (strt p) := by unfold strt; infer_instance
end Go.VI

namespace Go.VI
open Go.Proofs
set_option maxRecDepth 100000
set_option linter.unusedSimpArgs false
set_option linter.unusedVariables false
set_option maxHeartbeats 4000000
theorem getD_set_bool (l : List Bool) (i j : Nat) (x : Bool) : (l.set i x).getD j false = if i = j ∧ i < l.length then x else l.getD j false := by
 simp only [List.getD_eq_getElem?_getD, List.getElem?_set]
 by_cases h : i = j
 ·subst h
  by_cases hl : i < l.length
  ·simp [hl]
  ·simp [hl]
 ·simp [h]
end Go.VI

namespace Go.VI
open Go.Proofs
set_option maxRecDepth 100000
set_option linter.unusedSimpArgs false
set_option linter.unusedVariables false
set_option maxHeartbeats 4000000
def mA (c : Bool) (s : List Bool) : List AV := .i (.v (.bool c)) :: s.map fun b => .i (.v (.bool b))
theorem mA_len (c : Bool) (s : List Bool) : (mA c s).length = s.length + 1 := by simp [mA]
theorem mA_get {c : Bool} {s : List Bool} {k : Nat} (h : k < s.length) : (mA c s)[k + 1]? = some (.i (.v (.bool (s.getD k false)))) := by
 rw [List.getD_eq_getElem?_getD, List.getElem?_eq_getElem h]; simp [mA, h]
theorem mA_set (c : Bool) (s : List Bool) (k : Nat) (x : Bool) : (mA c s).set (k + 1) (.i (.v (.bool x))) = mA c (s.set k x) := by simp [mA, List.map_set]
theorem mA_put {c : Bool} {s : List Bool} {k : Nat} (h : k < s.length) (x : Bool) : List.take (1 + k) (mA c s) ++ [.i (.v (.bool x))] ++ List.drop (1 + k + 1) (mA c s) = mA c (s.set k x) := by
 rw [← mA_set, List.set_eq_take_append_cons_drop, if_pos (by rw [mA_len]; omega), Nat.add_comm 1 k]
 simp
theorem mA_cn (B : Nat) (H : Hp) (c : Bool) (s : List Bool) : cnL B H (mA c s) = mA c s := by
 have : ∀ s : List Bool, cnL B H (s.map fun b => .i (.v (.bool b))) = s.map fun b => .i (.v (.bool b)) := fun s => by
  induction s with
  | nil => rfl
  | cons b s ih => rw [List.map_cons, cnL, ih]; rfl
 rw [mA, cnL, this]; rfl
theorem mA_refs (c : Bool) (s : List Bool) : refsL (mA c s) = [] := by
 have : ∀ s : List Bool, refsL (s.map fun b => .i (.v (.bool b))) = [] := fun s => by
  induction s with
  | nil => rfl
  | cons b s ih => rw [List.map_cons, refsL, ih]; rfl
 rw [mA, refsL, this]; rfl
theorem mA_ren (ρ : Nat → Option Nat) (c : Bool) (s : List Bool) : renL ρ (mA c s) = mA c s := by
 have : ∀ s : List Bool, renL ρ (s.map fun b => .i (.v (.bool b))) = s.map fun b => .i (.v (.bool b)) := fun s => by
  induction s with
  | nil => rfl
  | cons b s ih => rw [List.map_cons, renL, ih]; rfl
 rw [mA, renL, this]; rfl
theorem mA_take {c : Bool} {s : List Bool} {n : Nat} (h : s.length + 1 ≤ n) : (mA c s).take n = mA c s := List.take_of_length_le (by rw [mA_len]; exact h)
def mI (c : Bool) (s : List Bool) : List IV := .v (.bool c) :: s.map fun b => .v (.bool b)
theorem mI_len (c : Bool) (s : List Bool) : (mI c s).length = s.length + 1 := by simp [mI]
theorem mI_ivs (c : Bool) (s : List Bool) : ivs (mI c s) = mA c s := by simp [mI, mA, ivs]
theorem mI_map (c : Bool) (s : List Bool) : List.map AV.i (mI c s) = mA c s := mI_ivs c s
theorem mA_frz (H : Hp) (c : Bool) (s : List Bool) : freezeAll H (mA c s) = some (mI c s, H) := by
 have : ∀ s : List Bool, freezeAll H (s.map fun b => .i (.v (.bool b))) = some (s.map fun b => .v (.bool b), H) := fun s => by
  induction s with
  | nil => rfl
  | cons b s ih => rw [List.map_cons, freezeAll, freeze]; simp only; rw [ih]; rfl
 rw [mA, freezeAll, freeze]; simp only; rw [this]; rfl
def clr : Nat → Nat → List Bool → List Bool
 | 0, _, s => s
 | r + 1, k, s => clr r (k + 1) (s.set k false)
set_option linter.defProp false in
def lp15_15 := show ∀ B fr H, execT E B 15 (Code.loop _) fr H = rlG E B 15 (loopAt Tryd.f15 0) (gcn B (norm [3, 6, 8] fr) H) from fun B fr H => rl_intro rfl mt15_15 mb15_15 zf15_15 hd15_15 fr H
theorem l15 (c : Bool) (z : List Bool) : ∀ (r k : Nat) (hk : k + r = 16) (s : List Bool) (hs : s.length = 16),
  ∃ fr, rl E 0 15 (loopAt Tryd.f15 0) [(3, .ptr 0 0 0 0), (6, .ptr 1 0 0 0), (8, .i (.v (.int .i64 k)))] [.box (mA c s), .box (mA false (z))] = some (.exit 1, fr, [.box (mA c (clr r k s)), .box (mA false (z))]) ∧ get 3 fr = .ptr 0 0 0 0 ∧ get 6 fr = .ptr 1 0 0 0
 | 0, k, hk, s, hs => by
  rw [rl_step (fn := Tryd.f15) (k := 0) rfl]
  obtain rfl : k = 16 := by omega
  rw [clr]
  simp (disch := first | omega | (simp only [vlen]; omega)) only [vall, reduceCtorEq, ↓reduceIte, zq0, zq1, zq2, zq3, zq4, zq5, zq6, zq7, zq8, zq9, zq10, zq11, zq12, zq13, zq14, zq15, zq16, zq17, en15, mA_len, mA_cn, mA_refs, mA_ren, lp15_15]
  exact ⟨_, rfl, rfl, rfl⟩
 | r + 1, k, hk, s, hs => by
  rw [rl_step (fn := Tryd.f15) (k := 0) rfl]
  rw [clr]
  obtain ⟨fr, e, hh⟩ := l15 c z r (k + 1) (by omega) (s.set k false) (by simpa using hs)
  refine ⟨fr, Eq.trans ?_ e, hh⟩
  clear e hh
  have hg := mA_get (c := c) (s := s) (k := k) (by omega)
  have hp := mA_put (c := c) (s := s) (k := k) (by omega) false
  simp (disch := first | omega | (simp only [vlen, mA_len]; omega)) only [vall, reduceCtorEq, ↓reduceIte, zq0, zq1, zq2, zq3, zq4, zq5, zq6, zq7, zq8, zq9, zq10, zq11, zq12, zq13, zq14, zq15, zq16, zq17, en15, hg, hp, mA_len, mA_cn, mA_refs, mA_ren, Nat.mul_one, lp15_15]
end Go.VI

