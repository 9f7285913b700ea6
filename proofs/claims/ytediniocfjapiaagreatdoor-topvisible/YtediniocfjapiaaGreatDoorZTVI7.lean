import Derived.Test.YtediniocfjapiaaGreatDoorZTVI6
open Int renaming reduceToNat → zq6, reduceLT → zq7, reduceLE → zq8, reduceMul → zq9, reduceAdd → zq10, reduceEq → zq12, reduceNe → zq13, reduceNeg → zq14, reduceGT → zq15, reduceGE → zq16
open Nat renaming reduceEqDiff → zq0, reduceAdd → zq1, reduceSub → zq2, reduceMul → zq3, reduceLT → zq4, reduceLeDiff → zq5, reduceBEq → zq11
open UInt8 renaming reduceToNat → zq17
set_option linter.unusedSimpArgs false
set_option linter.unusedVariables false
set_option maxRecDepth 100000
set_option maxHeartbeats 8000000
namespace Go.VI
open Go.Proofs
theorem c51_1 (w h r c : Nat) (hw : 1 ≤ w ∧ w ≤ 132) (hh : 1 ≤ h ∧ h ≤ 60) (hr : r < h) (hc : c + 1 < w) (R oR tB : List (List IV)) (l : List UInt8) (hl : l.length = w) (hp : pL l) (hR : R[r]? = some [.sl 5 (rowC l) false]) (b : UInt8) (hb : pA b) :
  ∃ L, callT E 51 [.ptr 0 0 0 0, .i (.v (.int .i32 b.toNat))] (.box [.i (.v (.int .i64 (w))), .i (.v (.int .i64 (h))), .ref 1 0 0 (h), .i (.v (.int .i64 (w))), .i (.v (.int .i64 (h))), .ref 2 0 0 (h), .i (.v (.int .i64 (r))), .i (.v (.int .i64 (c))), .i (.v (.bool (false))), .i (.v (.int .i64 0)), .i (.v (.int .i64 0)), .i (.v (.bool false)), .i (.v (.int .i64 (-1))), .i (.v (.int .i64 (-1))), .i (.v (.int .i64 0)), .i (.v (.bool false)), .i (.v (.int .u8 66)), .i (.v (.int .u8 66)), .i (.v (.int .i64 0)), .i (.v (.int .i64 (-1))), .i (.v (.int .i64 (-1))), .i (.v (.int .i64 0)), .i (.v (.bool false)), .i (.v (.bool false)), .i (.v (.bool false)), .i (.v (.bool false)), .i (.v (.bool true)), .i (.v (.bool true)), .i (.v (.bool false)), .i (.v (.bool false)), .i (.v (.int .u8 66)), .i (.v (.int .u8 66)), .i (.v (.int .i64 0)), .i (.v (.int .i64 0)), .i (.v (.int .i64 (h))), .ref 3 0 0 (w), .ref 4 0 0 0, .i (.v (.int .i64 0)), .i (.str []), .i (.str []), .i (.str []), .i (.str [])] :: .sl 1 0 (R) false :: .sl 1 0 oR false :: .sl 1 0 tB false :: .sl 1 0 [] false :: []) = some (.tup [], .box [.i (.v (.int .i64 (w))), .i (.v (.int .i64 (h))), .ref 1 0 0 (h), .i (.v (.int .i64 (w))), .i (.v (.int .i64 (h))), .ref 2 0 0 (h), .i (.v (.int .i64 (r))), .i (.v (.int .i64 ((c + 1 : Nat)))), .i (.v (.bool (false))), .i (.v (.int .i64 0)), .i (.v (.int .i64 0)), .i (.v (.bool false)), .i (.v (.int .i64 (-1))), .i (.v (.int .i64 (-1))), .i (.v (.int .i64 0)), .i (.v (.bool false)), .i (.v (.int .u8 66)), .i (.v (.int .u8 66)), .i (.v (.int .i64 0)), .i (.v (.int .i64 (-1))), .i (.v (.int .i64 (-1))), .i (.v (.int .i64 0)), .i (.v (.bool false)), .i (.v (.bool false)), .i (.v (.bool false)), .i (.v (.bool false)), .i (.v (.bool true)), .i (.v (.bool true)), .i (.v (.bool false)), .i (.v (.bool false)), .i (.v (.int .u8 66)), .i (.v (.int .u8 66)), .i (.v (.int .i64 0)), .i (.v (.int .i64 0)), .i (.v (.int .i64 (h))), .ref 3 0 0 (w), .ref 4 0 0 0, .i (.v (.int .i64 0)), .i (.str []), .i (.str []), .i (.str []), .i (.str [])] :: .sl 1 0 (R.set r [.sl 5 (rowC (l.set c b)) false]) false :: .sl 1 0 oR false :: .sl 1 0 tB false :: .sl 1 0 [] false :: L) := by
 have e1 := fun H => ik78 hb H
 have e2 := fun T => ik85 w h r c false R oR tB l hr hR T
 have e3 := fun H => ik86 l (by omega) (by omega) hp c (by omega) b hb H
 have e4 := fun T => ik83 w h r c false R oR tB l (l.set c b) hr hR T
 have e5 := enc_one hb
 have e6 : ¬ ((c + 1 : Nat) : Int) = (w : Int) := by omega
 rw [callT_eq Tryz.func51 rfl fok51 (by simp [Tryz.ntmps51])]
 simp (disch := first | omega | (simp only [vlen]; omega)) only [vall, reduceCtorEq, ↓reduceIte, zq0, zq1, zq2, zq3, zq4, zq5, zq6, zq7, zq8, zq9, zq10, zq11, zq12, zq13, zq14, zq15, zq16, zq17, en51, bs52, e1, e2, e3, e4, e5, e6]
 exact ⟨_, rfl⟩
theorem c51_2 (w h r c : Nat) (hw : 1 ≤ w ∧ w ≤ 132) (hh : 1 ≤ h ∧ h ≤ 60) (hr : r < h) (hc : c + 1 = w) (R oR tB : List (List IV)) (l : List UInt8) (hl : l.length = w) (hp : pL l) (hR : R[r]? = some [.sl 5 (rowC l) false]) (b : UInt8) (hb : pA b) :
  ∃ L, callT E 51 [.ptr 0 0 0 0, .i (.v (.int .i32 b.toNat))] (.box [.i (.v (.int .i64 (w))), .i (.v (.int .i64 (h))), .ref 1 0 0 (h), .i (.v (.int .i64 (w))), .i (.v (.int .i64 (h))), .ref 2 0 0 (h), .i (.v (.int .i64 (r))), .i (.v (.int .i64 (c))), .i (.v (.bool (false))), .i (.v (.int .i64 0)), .i (.v (.int .i64 0)), .i (.v (.bool false)), .i (.v (.int .i64 (-1))), .i (.v (.int .i64 (-1))), .i (.v (.int .i64 0)), .i (.v (.bool false)), .i (.v (.int .u8 66)), .i (.v (.int .u8 66)), .i (.v (.int .i64 0)), .i (.v (.int .i64 (-1))), .i (.v (.int .i64 (-1))), .i (.v (.int .i64 0)), .i (.v (.bool false)), .i (.v (.bool false)), .i (.v (.bool false)), .i (.v (.bool false)), .i (.v (.bool true)), .i (.v (.bool true)), .i (.v (.bool false)), .i (.v (.bool false)), .i (.v (.int .u8 66)), .i (.v (.int .u8 66)), .i (.v (.int .i64 0)), .i (.v (.int .i64 0)), .i (.v (.int .i64 (h))), .ref 3 0 0 (w), .ref 4 0 0 0, .i (.v (.int .i64 0)), .i (.str []), .i (.str []), .i (.str []), .i (.str [])] :: .sl 1 0 (R) false :: .sl 1 0 oR false :: .sl 1 0 tB false :: .sl 1 0 [] false :: []) = some (.tup [], .box [.i (.v (.int .i64 (w))), .i (.v (.int .i64 (h))), .ref 1 0 0 (h), .i (.v (.int .i64 (w))), .i (.v (.int .i64 (h))), .ref 2 0 0 (h), .i (.v (.int .i64 (r))), .i (.v (.int .i64 (c))), .i (.v (.bool (true))), .i (.v (.int .i64 0)), .i (.v (.int .i64 0)), .i (.v (.bool false)), .i (.v (.int .i64 (-1))), .i (.v (.int .i64 (-1))), .i (.v (.int .i64 0)), .i (.v (.bool false)), .i (.v (.int .u8 66)), .i (.v (.int .u8 66)), .i (.v (.int .i64 0)), .i (.v (.int .i64 (-1))), .i (.v (.int .i64 (-1))), .i (.v (.int .i64 0)), .i (.v (.bool false)), .i (.v (.bool false)), .i (.v (.bool false)), .i (.v (.bool false)), .i (.v (.bool true)), .i (.v (.bool true)), .i (.v (.bool false)), .i (.v (.bool false)), .i (.v (.int .u8 66)), .i (.v (.int .u8 66)), .i (.v (.int .i64 0)), .i (.v (.int .i64 0)), .i (.v (.int .i64 (h))), .ref 3 0 0 (w), .ref 4 0 0 0, .i (.v (.int .i64 0)), .i (.str []), .i (.str []), .i (.str []), .i (.str [])] :: .sl 1 0 (R.set r [.sl 5 (rowC (l.set c b)) false]) false :: .sl 1 0 oR false :: .sl 1 0 tB false :: .sl 1 0 [] false :: L) := by
 have e1 := fun H => ik78 hb H
 have e2 := fun T => ik85 w h r c false R oR tB l hr hR T
 have e3 := fun H => ik86 l (by omega) (by omega) hp c (by omega) b hb H
 have e4 := fun T => ik83 w h r c false R oR tB l (l.set c b) hr hR T
 have e5 := enc_one hb
 have e6 : ((c + 1 : Nat) : Int) = (w : Int) := by omega
 have e7 : (w : Int) - 1 = (c : Int) := by omega
 rw [callT_eq Tryz.func51 rfl fok51 (by simp [Tryz.ntmps51])]
 simp (disch := first | omega | (simp only [vlen]; omega)) only [vall, reduceCtorEq, ↓reduceIte, zq0, zq1, zq2, zq3, zq4, zq5, zq6, zq7, zq8, zq9, zq10, zq11, zq12, zq13, zq14, zq15, zq16, zq17, en51, bs52, e1, e2, e3, e4, e5, e6, e7]
 exact ⟨_, rfl⟩
theorem c51_3 (w h r c : Nat) (hw : 1 ≤ w ∧ w ≤ 132) (hh : 1 ≤ h ∧ h ≤ 60) (hr : r + 1 < h) (hc : c + 1 = w) (h1w : 1 < w) (R oR tB : List (List IV)) (l : List UInt8) (hl : l.length = w) (hp : pL l) (hR : R[r + 1]? = some [.sl 5 (rowC l) false]) (b : UInt8) (hb : pA b) :
  ∃ L, callT E 51 [.ptr 0 0 0 0, .i (.v (.int .i32 b.toNat))] (.box [.i (.v (.int .i64 (w))), .i (.v (.int .i64 (h))), .ref 1 0 0 (h), .i (.v (.int .i64 (w))), .i (.v (.int .i64 (h))), .ref 2 0 0 (h), .i (.v (.int .i64 (r))), .i (.v (.int .i64 (c))), .i (.v (.bool (true))), .i (.v (.int .i64 0)), .i (.v (.int .i64 0)), .i (.v (.bool false)), .i (.v (.int .i64 (-1))), .i (.v (.int .i64 (-1))), .i (.v (.int .i64 0)), .i (.v (.bool false)), .i (.v (.int .u8 66)), .i (.v (.int .u8 66)), .i (.v (.int .i64 0)), .i (.v (.int .i64 (-1))), .i (.v (.int .i64 (-1))), .i (.v (.int .i64 0)), .i (.v (.bool false)), .i (.v (.bool false)), .i (.v (.bool false)), .i (.v (.bool false)), .i (.v (.bool true)), .i (.v (.bool true)), .i (.v (.bool false)), .i (.v (.bool false)), .i (.v (.int .u8 66)), .i (.v (.int .u8 66)), .i (.v (.int .i64 0)), .i (.v (.int .i64 0)), .i (.v (.int .i64 (h))), .ref 3 0 0 (w), .ref 4 0 0 0, .i (.v (.int .i64 0)), .i (.str []), .i (.str []), .i (.str []), .i (.str [])] :: .sl 1 0 (R) false :: .sl 1 0 oR false :: .sl 1 0 tB false :: .sl 1 0 [] false :: []) = some (.tup [], .box [.i (.v (.int .i64 (w))), .i (.v (.int .i64 (h))), .ref 1 0 0 (h), .i (.v (.int .i64 (w))), .i (.v (.int .i64 (h))), .ref 2 0 0 (h), .i (.v (.int .i64 ((r + 1 : Nat)))), .i (.v (.int .i64 ((1 : Nat)))), .i (.v (.bool (false))), .i (.v (.int .i64 0)), .i (.v (.int .i64 0)), .i (.v (.bool false)), .i (.v (.int .i64 (-1))), .i (.v (.int .i64 (-1))), .i (.v (.int .i64 0)), .i (.v (.bool false)), .i (.v (.int .u8 66)), .i (.v (.int .u8 66)), .i (.v (.int .i64 0)), .i (.v (.int .i64 (-1))), .i (.v (.int .i64 (-1))), .i (.v (.int .i64 0)), .i (.v (.bool false)), .i (.v (.bool false)), .i (.v (.bool false)), .i (.v (.bool false)), .i (.v (.bool true)), .i (.v (.bool true)), .i (.v (.bool false)), .i (.v (.bool false)), .i (.v (.int .u8 66)), .i (.v (.int .u8 66)), .i (.v (.int .i64 0)), .i (.v (.int .i64 0)), .i (.v (.int .i64 (h))), .ref 3 0 0 (w), .ref 4 0 0 0, .i (.v (.int .i64 0)), .i (.str []), .i (.str []), .i (.str []), .i (.str [])] :: .sl 1 0 (R.set (r + 1) [.sl 5 (rowC (l.set 0 b)) false]) false :: .sl 1 0 oR false :: .sl 1 0 tB false :: .sl 1 0 [] false :: L) := by
 have e1 := fun H => ik78 hb H
 have f1 := fun T => ik80 w h r c true R oR tB T
 have f2 := fun T => ik81 w h r hw hh hr R oR tB T
 have e2 := fun T => ik85 w h (r + 1) 0 false R oR tB l hr hR T
 have e3 := fun H => ik86 l (by omega) (by omega) hp 0 (by omega) b hb H
 have e4 := fun T => ik83 w h (r + 1) 0 false R oR tB l (l.set 0 b) hr hR T
 have e5 := enc_one hb
 have e6 : ¬ (1 : Int) = (w : Int) := by omega
 have e8 : ¬ (w : Int) < 1 := by omega
 simp only [Int.natCast_zero] at e2 e3 e4
 rw [callT_eq Tryz.func51 rfl fok51 (by simp [Tryz.ntmps51])]
 simp (disch := first | omega | (simp only [vlen]; omega)) only [vall, reduceCtorEq, ↓reduceIte, zq0, zq1, zq2, zq3, zq4, zq5, zq6, zq7, zq8, zq9, zq10, zq11, zq12, zq13, zq14, zq15, zq16, zq17, en51, bs52, e1, e2, e3, e4, e5, e6, e8, f1, f2]
 exact ⟨_, rfl⟩
theorem c51_4 (h r : Nat) (hh : 1 ≤ h ∧ h ≤ 60) (hr : r + 1 < h) (R oR tB : List (List IV)) (l : List UInt8) (hl : l.length = 1) (hp : pL l) (hR : R[r + 1]? = some [.sl 5 (rowC l) false]) (b : UInt8) (hb : pA b) :
  ∃ L, callT E 51 [.ptr 0 0 0 0, .i (.v (.int .i32 b.toNat))] (.box [.i (.v (.int .i64 ((1 : Nat)))), .i (.v (.int .i64 (h))), .ref 1 0 0 (h), .i (.v (.int .i64 ((1 : Nat)))), .i (.v (.int .i64 (h))), .ref 2 0 0 (h), .i (.v (.int .i64 (r))), .i (.v (.int .i64 ((0 : Nat)))), .i (.v (.bool (true))), .i (.v (.int .i64 0)), .i (.v (.int .i64 0)), .i (.v (.bool false)), .i (.v (.int .i64 (-1))), .i (.v (.int .i64 (-1))), .i (.v (.int .i64 0)), .i (.v (.bool false)), .i (.v (.int .u8 66)), .i (.v (.int .u8 66)), .i (.v (.int .i64 0)), .i (.v (.int .i64 (-1))), .i (.v (.int .i64 (-1))), .i (.v (.int .i64 0)), .i (.v (.bool false)), .i (.v (.bool false)), .i (.v (.bool false)), .i (.v (.bool false)), .i (.v (.bool true)), .i (.v (.bool true)), .i (.v (.bool false)), .i (.v (.bool false)), .i (.v (.int .u8 66)), .i (.v (.int .u8 66)), .i (.v (.int .i64 0)), .i (.v (.int .i64 0)), .i (.v (.int .i64 (h))), .ref 3 0 0 ((1 : Nat)), .ref 4 0 0 0, .i (.v (.int .i64 0)), .i (.str []), .i (.str []), .i (.str []), .i (.str [])] :: .sl 1 0 (R) false :: .sl 1 0 oR false :: .sl 1 0 tB false :: .sl 1 0 [] false :: []) = some (.tup [], .box [.i (.v (.int .i64 ((1 : Nat)))), .i (.v (.int .i64 (h))), .ref 1 0 0 (h), .i (.v (.int .i64 ((1 : Nat)))), .i (.v (.int .i64 (h))), .ref 2 0 0 (h), .i (.v (.int .i64 ((r + 1 : Nat)))), .i (.v (.int .i64 ((0 : Nat)))), .i (.v (.bool (true))), .i (.v (.int .i64 0)), .i (.v (.int .i64 0)), .i (.v (.bool false)), .i (.v (.int .i64 (-1))), .i (.v (.int .i64 (-1))), .i (.v (.int .i64 0)), .i (.v (.bool false)), .i (.v (.int .u8 66)), .i (.v (.int .u8 66)), .i (.v (.int .i64 0)), .i (.v (.int .i64 (-1))), .i (.v (.int .i64 (-1))), .i (.v (.int .i64 0)), .i (.v (.bool false)), .i (.v (.bool false)), .i (.v (.bool false)), .i (.v (.bool false)), .i (.v (.bool true)), .i (.v (.bool true)), .i (.v (.bool false)), .i (.v (.bool false)), .i (.v (.int .u8 66)), .i (.v (.int .u8 66)), .i (.v (.int .i64 0)), .i (.v (.int .i64 0)), .i (.v (.int .i64 (h))), .ref 3 0 0 ((1 : Nat)), .ref 4 0 0 0, .i (.v (.int .i64 0)), .i (.str []), .i (.str []), .i (.str []), .i (.str [])] :: .sl 1 0 (R.set (r + 1) [.sl 5 (rowC (l.set 0 b)) false]) false :: .sl 1 0 oR false :: .sl 1 0 tB false :: .sl 1 0 [] false :: L) := by
 have e1 := fun H => ik78 hb H
 have f1 := fun T => ik80 1 h r 0 true R oR tB T
 have f2 := fun T => ik81 1 h r (by omega) hh hr R oR tB T
 have e2 := fun T => ik85 1 h (r + 1) 0 false R oR tB l hr hR T
 have e3 := fun H => ik86 l (by omega) (by omega) hp 0 (by omega) b hb H
 have e4 := fun T => ik83 1 h (r + 1) 0 false R oR tB l (l.set 0 b) hr hR T
 have e5 := enc_one hb
 simp only [Int.natCast_zero, Int.natCast_one] at e2 e3 e4 f1 f2 ⊢
 rw [callT_eq Tryz.func51 rfl fok51 (by simp [Tryz.ntmps51])]
 simp (disch := first | omega | (simp only [vlen]; omega)) only [vall, reduceCtorEq, ↓reduceIte, zq0, zq1, zq2, zq3, zq4, zq5, zq6, zq7, zq8, zq9, zq10, zq11, zq12, zq13, zq14, zq15, zq16, zq17, en51, bs52, e1, e2, e3, e4, e5, f1, f2]
 exact ⟨_, rfl⟩
end Go.VI

namespace Go.VI
open Go.Proofs
set_option maxRecDepth 100000
set_option linter.unusedSimpArgs false
set_option linter.unusedVariables false
set_option maxHeartbeats 4000000
structure Sq where
 (v mi lo hi : Int)
def sqC (s : Sq) : List AV := [.i (.v (.int .i32 s.v)), .i (.v (.int .i64 s.mi)), .i (.v (.int .u8 s.lo)), .i (.v (.int .u8 s.hi))]
theorem sqC_one (s : Sq) : (sqC s).all one = true := rfl
theorem sqC_len (s : Sq) : (sqC s).length = 4 := rfl
theorem sqC_refs (s : Sq) : refsL (sqC s) = [] := rfl
theorem sqC_ren (ρ : Nat → Option Nat) (s : Sq) : renL ρ (sqC s) = sqC s := rfl
def beginS (b : Int) : Sq :=
 let lo : Int := if b = 224 then 160 else if b = 240 then 144 else 128
 let hi : Int := if b = 237 then 159 else if b = 244 then 143 else 191
 if 194 ≤ b ∧ b ≤ 223 then ⟨b - 192, 1, lo, hi⟩ else if 224 ≤ b ∧ b ≤ 239 then ⟨b - 224, 2, lo, hi⟩ else if 240 ≤ b ∧ b ≤ 244 then ⟨b - 240, 3, lo, hi⟩ else ⟨0, 0, lo, hi⟩
theorem c110_all : ((List.range 256).all fun b => match call E 60 110 [.i (.v (.int .u8 b))] [] with
  | some (.agg [.i (.v (.int .i32 v)), .i (.v (.int .i64 m)), .i (.v (.int .u8 l)), .i (.v (.int .u8 h))], _) => v == (beginS b).v && m == (beginS b).mi && l == (beginS b).lo && h == (beginS b).hi
  | _ => false) = true := by kernel_rfl
theorem c110 (b : Int) (h0 : 0 ≤ b) (h1 : b ≤ 255) : ∃ L, callT E 110 [.i (.v (.int .u8 b))] [] = some (.agg (sqC (beginS b)), L) := by
 obtain ⟨n, rfl⟩ := Int.eq_ofNat_of_zero_le h0
 have := (List.all_eq_true.1 c110_all) n (by simp; omega)
 split at this
 ·rename_i v m l h L hL
  simp only [Bool.and_eq_true, beq_iff_eq] at this
  obtain ⟨⟨⟨rfl, rfl⟩, rfl⟩, rfl⟩ := this
  exact ⟨L, callT_of hL⟩
 ·cases this
theorem ik110 (b : Int) (H : Hp) (h0 : 0 ≤ b) (h1 : b ≤ 255) : isoK E (callT E) 110 [.i (.v (.int .u8 b))] H = some (.agg (sqC (beginS b)), H) := isoK_val rfl rfl rfl (c110 b h0 h1)
end Go.VI

namespace Go.VI
open Go.Proofs
set_option maxRecDepth 100000
set_option linter.unusedSimpArgs false
set_option linter.unusedVariables false
set_option maxHeartbeats 4000000
theorem pw6 : (2 : Int) ^ min 6 IntKind.i32.bits = 64 := by decide
theorem and63_all : ∀ n : Nat, n < 256 → bitsE .and .u8 (n : Int) 63 = some ((n : Int) % 64) := by decide +kernel
theorem and63 {b : Int} (h0 : 0 ≤ b) (h1 : b ≤ 255) : bitsE .and .u8 b 63 = some (b % 64) := by
 obtain ⟨n, rfl⟩ := Int.eq_ofNat_of_zero_le h0
 exact and63_all n (by omega)
theorem or64 {v c : Int} (h0 : 0 ≤ v) (h1 : v < 1048576) (h2 : 0 ≤ c) (h3 : c < 64) : bitsE .or .i32 (v * 64) c = some (v * 64 + c) := by
 obtain ⟨n, rfl⟩ := Int.eq_ofNat_of_zero_le h0
 obtain ⟨m, rfl⟩ := Int.eq_ofNat_of_zero_le h2
 have e1 : BitVec.ofInt 32 ((n : Int) * 64) = BitVec.ofNat 32 (n * 64) := by
  rw [show (n : Int) * 64 = ((n * 64 : Nat) : Int) by omega]; rfl
 have e2 : BitVec.ofInt 32 (m : Int) = BitVec.ofNat 32 m := rfl
 have e3 : n * 64 ||| m = n * 64 + m := by
  have := Nat.shiftLeft_add_eq_or_of_lt (i := 6) (b := m) (by omega) n
  rw [Nat.shiftLeft_eq, show (2 : Nat) ^ 6 = 64 from rfl] at this
  exact this.symm
 show some (IntKind.i32.wrap ((BitVec.ofInt 32 ((n : Int) * 64) ||| BitVec.ofInt 32 (m : Int)).toNat : Nat)) = _
 rw [e1, e2, BitVec.toNat_or, BitVec.toNat_ofNat, BitVec.toNat_ofNat, Nat.mod_eq_of_lt (by omega), Nat.mod_eq_of_lt (by omega), e3, w_i32 (by omega) (by omega)]
 congr 1
structure Dec where
 (s : Sq) (out : List Int) (st : Int)
def SqOK (s : Sq) : Prop := s.mi = 0 ∨ (128 ≤ s.lo ∧ s.hi ≤ 191 ∧ 0 ≤ s.v ∧ (s.mi = 1 ∧ s.v < 32768 ∨ s.mi = 2 ∧ s.v < 512 ∨ s.mi = 3 ∧ s.v < 8))
def stepD (d : Dec) (i b : Int) : Dec :=
 if 0 < d.s.mi ∧ d.s.lo ≤ b ∧ b ≤ d.s.hi then
  ⟨⟨d.s.v * 64 + b % 64, d.s.mi - 1, 128, 191⟩, if d.s.mi - 1 = 0 then d.out ++ [d.s.v * 64 + b % 64] else d.out, d.st⟩
 else
  let o := if 0 < d.s.mi then d.out ++ [65533] else d.out
  ⟨beginS b, if b < 128 then o ++ [b] else if (beginS b).mi = 0 then o ++ [65533] else o, i⟩
def runD : List UInt8 → Nat → Dec → Dec
 | [], _, d => d
 | b :: r, i, d => runD r (i + 1) (stepD d i b.toNat)
theorem beginS_all : ∀ n : Nat, n < 256 → ((beginS n).mi = 0 ∨ (128 ≤ (beginS n).lo ∧ (beginS n).hi ≤ 191 ∧ 0 ≤ (beginS n).v ∧ ((beginS n).mi = 1 ∧ (beginS n).v < 32768 ∨ (beginS n).mi = 2 ∧ (beginS n).v < 512 ∨ (beginS n).mi = 3 ∧ (beginS n).v < 8))) := by decide +kernel
theorem beginS_ok (b : Int) (h0 : 0 ≤ b) (h1 : b ≤ 255) : SqOK (beginS b) := by
 obtain ⟨n, rfl⟩ := Int.eq_ofNat_of_zero_le h0
 exact beginS_all n (by omega)
theorem stepD_ok {d : Dec} (h : SqOK d.s) (i b : Int) (h0 : 0 ≤ b) (h1 : b ≤ 255) : SqOK (stepD d i b).s := by
 unfold stepD
 split
 ·rename_i hc
  obtain ⟨c1, c2, c3⟩ := hc
  unfold SqOK at h ⊢
  simp only
  omega
 ·exact beginS_ok b h0 h1
def rows32 (l : List Int) : List (List IV) := l.map fun n => [.v (.int .i32 n)]
theorem rows32_len (l : List Int) : (rows32 l).length = l.length := by simp [rows32]
theorem rows32_snoc (l : List Int) (n : Int) : rows32 l ++ [[.v (.int .i32 n)]] = rows32 (l ++ [n]) := by simp [rows32]
theorem stepD_len (d : Dec) (i b : Int) : (stepD d i b).out.length ≤ d.out.length + 2 := by
 unfold stepD; simp only; repeat' split
 all_goals (simp; try omega)
theorem sqC_cn (B : Nat) (H : Hp) (s : Sq) : cnL B H (sqC s) = sqC s := by simp [sqC, cnL, cnA]
theorem sqC_0 (s : Sq) : (sqC s)[0]? = some (.i (.v (.int .i32 s.v))) := rfl
theorem sqC_1 (s : Sq) : (sqC s)[1]? = some (.i (.v (.int .i64 s.mi))) := rfl
theorem sqC_2 (s : Sq) : (sqC s)[2]? = some (.i (.v (.int .u8 s.lo))) := rfl
theorem sqC_3 (s : Sq) : (sqC s)[3]? = some (.i (.v (.int .u8 s.hi))) := rfl
theorem sqC_drop (s : Sq) : (sqC s).drop 4 = [] := rfl
theorem sqC_take (s : Sq) : (sqC s).take 4 = sqC s := rfl
theorem byte_at {t : List UInt8} {k : Nat} (h : k < t.length) : t[k]? = some t[k] := by simp [h]
set_option linter.defProp false in
def lp69_6 := show ∀ B fr H, execT E B 69 (Code.loop _) fr H = rlM E B 69 (loopAt Tryz.f69 0) [6, 7, 8, 9, 16, 17] [] (matF [(7, 1)] fr H).1 (matB [] (matF [(7, 1)] fr H).1 (matF [(7, 1)] fr H).2) from fun B fr H => rl_introM rfl mt69_6 mb69_6 zf69_6 hd69_6 fr H
theorem l69 (t : List UInt8) (ht : t.length < 100000) (k : Nat) (hk : k ≤ t.length) (d : Dec) (hs : SqOK d.s) (hl : d.out.length ≤ 2 * k) :
  rl E 0 69 (loopAt Tryz.f69 0) [(6, .i (.str t)), (7, .ref 0 0 0 d.out.length), (8, .ptr 1 0 0 0), (9, .i (.v (.int .i64 d.st))), (16, .i (.v (.int .i64 t.length))), (17, .i (.v (.int .i64 k)))] [.sl 1 0 (rows32 d.out) false, .box (sqC d.s)] =
   some (.exit 0, [(6, .i (.str t)), (7, .ref 0 0 0 (runD (t.drop k) k d).out.length), (8, .ptr 1 0 0 0), (9, .i (.v (.int .i64 (runD (t.drop k) k d).st))), (16, .i (.v (.int .i64 t.length))), (17, .i (.v (.int .i64 t.length))), (18, .i (.v (.bool false)))], [.sl 1 0 (rows32 (runD (t.drop k) k d).out) false, .box (sqC (runD (t.drop k) k d).s)]) := by
 rw [rl_step (fn := Tryz.f69) (k := 0) rfl]
 by_cases hlt : k < t.length
 ·have hb := byte_at hlt
  have b1 := t[k].toNat_lt
  rw [List.drop_eq_getElem_cons hlt, runD]
  have ih := l69 t ht (k + 1) hlt (stepD d k t[k].toNat) (stepD_ok hs _ _ (by omega) (by omega)) (by have := stepD_len d k t[k].toNat; omega)
  unfold SqOK at hs
  generalize t[k] = b at *
  rw [← ih]
  clear ih
  (try simp (disch := first | omega | (simp only [vlen, rows32_len]; omega)) only [vall, reduceCtorEq, ↓reduceIte, zq0, zq1, zq2, zq3, zq4, zq5, zq6, zq7, zq8, zq9, zq10, zq11, zq12, zq13, zq14, zq15, zq16, zq17, en69, bs132, hb, sqC_drop, sqC_take, sqC_0, sqC_1, sqC_2, sqC_3, ik110, pw6, and63, or64, sqC_one, sqC_len, sqC_refs, sqC_ren, sqC_cn, rows32_len, rows32_snoc, lp69_6]) <;> repeat' ((first | rw [condK_ndec] | rw [condK_dec] | rw [condK_b] | rw [guK_ndec] | rw [guK_dec] | rw [guK_b] | rw [guT_ndec] | rw [guT_dec] | rw [guT_b] | rw [guD_dec] | rw [guD_b]) <;> split <;> (try subst_vars) <;> (try simp (disch := first | omega | (simp only [vlen, rows32_len]; omega)) only [vall, reduceCtorEq, ↓reduceIte, zq0, zq1, zq2, zq3, zq4, zq5, zq6, zq7, zq8, zq9, zq10, zq11, zq12, zq13, zq14, zq15, zq16, zq17, en69, bs132, hb, sqC_drop, sqC_take, sqC_0, sqC_1, sqC_2, sqC_3, ik110, pw6, and63, or64, sqC_one, sqC_len, sqC_refs, sqC_ren, sqC_cn, rows32_len, rows32_snoc, lp69_6]))
  all_goals generalize hX : stepD d k b.toNat = X
  all_goals unfold stepD at hX
  all_goals simp only at hX
  all_goals (repeat' split at hX)
  all_goals first | (exfalso; omega) | (subst hX; (try simp only [List.length_append, List.length_cons, List.length_nil, Nat.zero_add, Nat.reduceAdd, Nat.add_assoc, rows32_snoc]) <;> rfl) | trace_state
 ·obtain rfl : k = t.length := by omega
  rw [List.drop_length, runD]
  simp (disch := first | omega | (simp only [vlen]; omega)) only [vall, reduceCtorEq, ↓reduceIte, zq0, zq1, zq2, zq3, zq4, zq5, zq6, zq7, zq8, zq9, zq10, zq11, zq12, zq13, zq14, zq15, zq16, zq17, en69, bs132]
termination_by t.length - k
end Go.VI

namespace Go.VI
open Go.Proofs
set_option maxRecDepth 100000
set_option linter.unusedSimpArgs false
set_option linter.unusedVariables false
set_option maxHeartbeats 4000000
theorem stepD_st {d : Dec} {i b : Int} : (stepD d i b).st = d.st ∨ (stepD d i b).st = i := by
 unfold stepD; simp only; split
 ·exact .inl rfl
 ·exact .inr rfl
theorem runD_st : ∀ (l : List UInt8) (i : Nat) (d : Dec), 0 ≤ d.st → d.st ≤ i → 0 ≤ (runD l i d).st ∧ (runD l i d).st ≤ i + l.length
 | [], i, d, h0, h1 => by simp only [runD, List.length_nil]; omega
 | b :: l, i, d, h0, h1 => by
  have hs := stepD_st (d := d) (i := i) (b := b.toNat)
  have ih := runD_st l (i + 1) (stepD d i b.toNat) (by omega) (by omega)
  simp only [runD, List.length_cons]
  omega
def sq0 : Sq := ⟨0, 0, 0, 0⟩
def decD (t : List UInt8) : Dec := runD t 0 ⟨sq0, [], 0⟩
def decOut (t : List UInt8) : List Int := (decD t).out
def decRest (t : List UInt8) : List UInt8 := if (decD t).s.mi = 0 then [] else t.drop (decD t).st.toNat
theorem l69_0 (t : List UInt8) (ht : (t.length : Int) < 100000) :
  rl E 0 69 (loopAt Tryz.f69 0) [(6, .i (.str t)), (7, .ref 0 0 0 0), (8, .ptr 1 0 0 0), (9, .i (.v (.int .i64 0))), (16, .i (.v (.int .i64 t.length))), (17, .i (.v (.int .i64 0)))] [.sl 1 0 [] false, .box [.i (.v (.int .i32 0)), .i (.v (.int .i64 0)), .i (.v (.int .u8 0)), .i (.v (.int .u8 0))]] =
   some (.exit 0, [(6, .i (.str t)), (7, .ref 0 0 0 (decD t).out.length), (8, .ptr 1 0 0 0), (9, .i (.v (.int .i64 (decD t).st))), (16, .i (.v (.int .i64 t.length))), (17, .i (.v (.int .i64 t.length))), (18, .i (.v (.bool false)))], [.sl 1 0 (rows32 (decD t).out) false, .box (sqC (decD t).s)]) :=
 l69 t (by omega) 0 (by omega) ⟨sq0, [], 0⟩ (.inl rfl) (Nat.zero_le _)
theorem c69 (p c : List UInt8) (ht : (p.length : Int) + c.length < 100000) : ∃ L, callT E 69 [.i (.str p), .i (.str c)] [] = some (.tup [.i (.sl 1 (rows32 (decOut (p ++ c))) false), .i (.str (decRest (p ++ c)))], L) := by
 have hlen : ((p ++ c).length : Int) < 100000 := by simp; omega
 have h := l69_0 (p ++ c) hlen
 obtain ⟨b1, b2⟩ := runD_st (p ++ c) 0 ⟨sq0, [], 0⟩ (Int.le_refl _) (Int.le_refl _)
 rw [show runD (p ++ c) 0 ⟨sq0, [], 0⟩ = decD (p ++ c) from rfl] at b1 b2
 unfold decOut decRest
 rw [callT_eq Tryz.func69 rfl fok69 (by simp [Tryz.ntmps69])]
 generalize hX : decD (p ++ c) = X at *
 simp only [List.length_append] at h b2 ⊢
 have hr := rows32_len X.out
 (try simp (disch := first | omega | (simp only [vlen, rows32_len]; omega)) only [vall, reduceCtorEq, ↓reduceIte, zq0, zq1, zq2, zq3, zq4, zq5, zq6, zq7, zq8, zq9, zq10, zq11, zq12, zq13, zq14, zq15, zq16, zq17, en69, bs132, h, sqC_drop, sqC_take, sqC_0, sqC_1, sqC_2, sqC_3, sqC_one, sqC_len, sqC_refs, sqC_ren, sqC_cn, lp69_6]) <;> repeat' ((first | rw [condK_ndec] | rw [condK_dec] | rw [condK_b] | rw [guK_ndec] | rw [guK_dec] | rw [guK_b] | rw [guT_ndec] | rw [guT_dec] | rw [guT_b] | rw [guD_dec] | rw [guD_b]) <;> split <;> (try subst_vars) <;> (try simp (disch := first | omega | (simp only [vlen, rows32_len]; omega)) only [vall, reduceCtorEq, ↓reduceIte, zq0, zq1, zq2, zq3, zq4, zq5, zq6, zq7, zq8, zq9, zq10, zq11, zq12, zq13, zq14, zq15, zq16, zq17, en69, bs132, h, sqC_drop, sqC_take, sqC_0, sqC_1, sqC_2, sqC_3, sqC_one, sqC_len, sqC_refs, sqC_ren, sqC_cn, lp69_6]))
 all_goals exact ⟨_, rfl⟩
theorem ik69 (p c : List UInt8) (ht : (p.length : Int) + c.length < 100000) (H : Hp) : isoK E (callT E) 69 [.i (.str p), .i (.str c)] H = some (.tup [.i (.sl 1 (rows32 (decOut (p ++ c))) false), .i (.str (decRest (p ++ c)))], H) := isoK_val rfl rfl rfl (c69 p c ht)
end Go.VI

set_option linter.unusedSimpArgs false
set_option linter.unusedVariables false
set_option maxRecDepth 100000
set_option maxHeartbeats 8000000
namespace Go.VI
open Go.Proofs
theorem isoK_app1 {H : Hp} {f c g g' n m sz : Nat} {ar : List AV} {rows rows' : List (List IV)} {ex ex' : Bool} (he : E.ext f = none) (hH : H[c]? = some (.sl sz g rows ex)) (has : refsL ar = [])
  (hc : ∃ L, callT E f (.ref 0 g 0 n :: ar) [.sl sz g rows ex] = some (.ref 0 g' 0 m, .sl sz g' rows' ex' :: L)) :
  isoK E (callT E) f (.ref c g 0 n :: ar) H = some (.ref c g' 0 m, H.set c (.sl sz g' rows' ex')) := by
 obtain ⟨L, hc⟩ := hc
 have h1 : ∀ ρ, renL ρ ar = ar := fun ρ => (refs_ren ρ).2 ar has
 have hR := reach_one hH (by rfl)
 unfold isoK
 simp [exCl, he, refsL, refsA, hR, renL, renA, posIn, hH, Chunk.ren, has, h1, hc, Chunk.refs, reach, setAll, backRen]
theorem c177 {b : UInt8} (hb : pA b) : ∃ L, callT E 177 [.ref 0 0 0 0, .i (.v (.int .i32 b.toNat))] [.sl 1 0 [] false] = some (.ref 0 1 0 1, .sl 1 1 [[.v (.int .u8 b.toNat)]] false :: L) := by
 obtain ⟨h1, h2⟩ := hb
 have hw : IntKind.u32.wrap (b.toNat : Int) = b.toNat := by simp [IntKind.wrap, IntKind.bits, IntKind.signed]; omega
 have hw8 : IntKind.u8.wrap (b.toNat : Int) = b.toNat := by simp [IntKind.wrap, IntKind.bits, IntKind.signed]; omega
 rw [callT_eq Tryz.func177 rfl fok177 (by simp [Tryz.ntmps177])]
 simp (disch := first | omega | (simp only [vlen]; omega)) only [vall, reduceCtorEq, ↓reduceIte, zq0, zq1, zq2, zq3, zq4, zq5, zq6, zq7, zq8, zq9, zq10, zq11, zq12, zq13, zq14, zq15, zq16, zq17, en177, bs85, hw, hw8]
 exact ⟨_, rfl⟩
theorem ik177 {b : UInt8} (hb : pA b) (T : Hp) : isoK E (callT E) 177 [.ref 0 0 0 0, .i (.v (.int .i32 b.toNat))] (.sl 1 0 [] false :: T) = some (.ref 0 1 0 1, .sl 1 1 [[.v (.int .u8 b.toNat)]] false :: T) := isoK_app1 rfl rfl rfl (c177 hb)
set_option linter.defProp false in
def lp102_3 := show ∀ B fr H, execT E B 102 (Code.loop _) fr H = rlM E B 102 (loopAt Tryz.f102 0) [3, 6, 7, 8] [] (matF [(3, 1)] fr H).1 (matB [] (matF [(3, 1)] fr H).1 (matF [(3, 1)] fr H).2) from fun B fr H => rl_introM rfl mt102_3 mb102_3 zf102_3 hd102_3 fr H
theorem c102 {b : UInt8} (hb : pA b) : ∃ L, callT E 102 [.i (.sl 1 [[.v (.int .i32 b.toNat)]] false)] [] = some (.i (.str [b]), L) := by
 have hik := fun T => ik177 hb T
 have e0 : rl E 0 102 (loopAt Tryz.f102 0) [(3, .ref 0 0 0 1), (6, .i (.sl 1 [[.v (.int .i32 b.toNat)]] false)), (7, .i (.v (.int .i64 1))), (8, .i (.v (.int .i64 1)))] [.sl 1 0 [[.v (.int .u8 b.toNat)]] false] = some (.exit 0, [(3, .ref 0 0 0 1), (6, .i (.sl 1 [[.v (.int .i32 b.toNat)]] false)), (7, .i (.v (.int .i64 1))), (8, .i (.v (.int .i64 1))), (9, .i (.v (.bool false)))], [.sl 1 0 [[.v (.int .u8 b.toNat)]] false]) := by
  rw [rl_step (fn := Tryz.f102) (k := 0) rfl]
  simp (disch := first | omega | (simp only [vlen]; omega)) only [vall, reduceCtorEq, ↓reduceIte, zq0, zq1, zq2, zq3, zq4, zq5, zq6, zq7, zq8, zq9, zq10, zq11, zq12, zq13, zq14, zq15, zq16, zq17, en102, bs132, bs85]
 have e1 : rl E 0 102 (loopAt Tryz.f102 0) [(3, .ref 0 0 0 0), (6, .i (.sl 1 [[.v (.int .i32 b.toNat)]] false)), (7, .i (.v (.int .i64 1))), (8, .i (.v (.int .i64 0)))] [.sl 1 0 [] false] = some (.exit 0, [(3, .ref 0 0 0 1), (6, .i (.sl 1 [[.v (.int .i32 b.toNat)]] false)), (7, .i (.v (.int .i64 1))), (8, .i (.v (.int .i64 1))), (9, .i (.v (.bool false)))], [.sl 1 0 [[.v (.int .u8 b.toNat)]] false]) := by
  refine Eq.trans ?_ e0
  clear e0
  rw [rl_step (fn := Tryz.f102) (k := 0) rfl]
  simp (disch := first | omega | (simp only [vlen]; omega)) only [vall, reduceCtorEq, ↓reduceIte, zq0, zq1, zq2, zq3, zq4, zq5, zq6, zq7, zq8, zq9, zq10, zq11, zq12, zq13, zq14, zq15, zq16, zq17, en102, bs132, bs85, hik, lp102_3]
 clear e0
 rw [callT_eq Tryz.func102 rfl fok102 (by simp [Tryz.ntmps102])]
 simp (disch := first | omega | (simp only [vlen]; omega)) only [vall, reduceCtorEq, ↓reduceIte, zq0, zq1, zq2, zq3, zq4, zq5, zq6, zq7, zq8, zq9, zq10, zq11, zq12, zq13, zq14, zq15, zq16, zq17, en102, bs132, bs85, e1, Option.map_some, bytes_back, numsOf_cons, numsOf_nil, List.map_cons, List.map_nil, Int.toNat_natCast, UInt8.ofNat_toNat, lp102_3]
 exact ⟨_, rfl⟩
theorem ik102 {b : UInt8} (hb : pA b) (H : Hp) : isoK E (callT E) 102 [.i (.sl 1 [[.v (.int .i32 b.toNat)]] false)] H = some (.i (.str [b]), H) := isoK_val rfl rfl rfl (c102 hb)
theorem dec_one {b : UInt8} (hb : pA b) : decOut [b] = [(b.toNat : Int)] ∧ decRest [b] = [] := by
 have key : ∀ n : Nat, n < 95 → decOut [UInt8.ofNat (n + 32)] = [((n + 32 : Nat) : Int)] ∧ decRest [UInt8.ofNat (n + 32)] = [] := by decide +kernel
 obtain ⟨h1, h2⟩ := hb
 have := key (b.toNat - 32) (by omega)
 rw [Nat.sub_add_cancel h1] at this
 rwa [UInt8.ofNat_toNat] at this
theorem ik69_1 {b : UInt8} (hb : pA b) (H : Hp) : isoK E (callT E) 69 [.i (.str []), .i (.str [b])] H = some (.tup [.i (.sl 1 [[.v (.int .i32 b.toNat)]] false), .i (.str [])], H) := by
 have h := ik69 [] [b] (by simp) H
 rw [List.nil_append, (dec_one hb).1, (dec_one hb).2] at h
 exact h
theorem c77 {b : UInt8} (hb : pA b) : ∃ L, callT E 77 [.agg [.i (.v (.int .i64 (1))), .i (.v (.int .i32 b.toNat)), .i (.v (.int .u8 0)), .i (.v (.int .u8 0)), .i (.str []), .i (.sl 1 [] false), .i (.str [])]] [] = some (.i (.v (.bool (true))), L) := by
 have e1 := fun H => ik102 hb H
 have e2 := fun H => ik69_1 hb H
 obtain ⟨h1, h2⟩ := hb
 rw [callT_eq Tryz.func77 rfl fok77 (by simp [Tryz.ntmps77])]
 simp (disch := first | omega | (simp only [vlen]; omega)) only [vall, reduceCtorEq, ↓reduceIte, zq0, zq1, zq2, zq3, zq4, zq5, zq6, zq7, zq8, zq9, zq10, zq11, zq12, zq13, zq14, zq15, zq16, zq17, en77, bs132, bs76, e1, e2]
 exact ⟨_, rfl⟩
theorem ik77 {b : UInt8} (hb : pA b) (H : Hp) : isoK E (callT E) 77 [.agg [.i (.v (.int .i64 (1))), .i (.v (.int .i32 b.toNat)), .i (.v (.int .u8 0)), .i (.v (.int .u8 0)), .i (.str []), .i (.sl 1 [] false), .i (.str [])]] H = some (.i (.v (.bool (true))), H) := isoK_val rfl rfl rfl (c77 hb)
theorem c50 {b : UInt8} (hb : pA b) : ∃ L, callT E 50 [.agg [.i (.v (.int .i64 (1))), .i (.v (.int .i32 b.toNat)), .i (.v (.int .u8 0)), .i (.v (.int .u8 0)), .i (.str []), .i (.sl 1 [] false), .i (.str [])]] [] = some (.i (.v (.int .i64 (0))), L) := by
 have e1 := fun H => ik77 hb H
 rw [callT_eq Tryz.func50 rfl fok50 (by simp [Tryz.ntmps50])]
 simp (disch := first | omega | (simp only [vlen]; omega)) only [vall, reduceCtorEq, ↓reduceIte, zq0, zq1, zq2, zq3, zq4, zq5, zq6, zq7, zq8, zq9, zq10, zq11, zq12, zq13, zq14, zq15, zq16, zq17, en50, e1]
 exact ⟨_, rfl⟩
theorem ik50 {b : UInt8} (hb : pA b) (H : Hp) : isoK E (callT E) 50 [.agg [.i (.v (.int .i64 (1))), .i (.v (.int .i32 b.toNat)), .i (.v (.int .u8 0)), .i (.v (.int .u8 0)), .i (.str []), .i (.sl 1 [] false), .i (.str [])]] H = some (.i (.v (.int .i64 (0))), H) := isoK_val rfl rfl rfl (c50 hb)
theorem c52 {b : UInt8} : ∃ L, callT E 52 [.agg [.i (.v (.bool (false))), .i (.v (.bool (false))), .i (.v (.bool (false))), .i (.v (.bool (false))), .i (.v (.bool (true))), .i (.v (.bool (true))), .i (.v (.bool (false))), .i (.v (.bool (false))), .i (.v (.int .u8 66)), .i (.v (.int .u8 66)), .i (.v (.int .i64 (0)))], .i (.v (.int .i32 b.toNat))] [] = some (.i (.v (.int .i32 b.toNat)), L) := by
 rw [callT_eq Tryz.func52 rfl fok52 (by simp [Tryz.ntmps52])]
 simp (disch := first | omega | (simp only [vlen]; omega)) only [vall, reduceCtorEq, ↓reduceIte, zq0, zq1, zq2, zq3, zq4, zq5, zq6, zq7, zq8, zq9, zq10, zq11, zq12, zq13, zq14, zq15, zq16, zq17, en52, bs85]
 exact ⟨_, rfl⟩
theorem ik52 {b : UInt8} (H : Hp) : isoK E (callT E) 52 [.agg [.i (.v (.bool (false))), .i (.v (.bool (false))), .i (.v (.bool (false))), .i (.v (.bool (false))), .i (.v (.bool (true))), .i (.v (.bool (true))), .i (.v (.bool (false))), .i (.v (.bool (false))), .i (.v (.int .u8 66)), .i (.v (.int .u8 66)), .i (.v (.int .i64 (0)))], .i (.v (.int .i32 b.toNat))] H = some (.i (.v (.int .i32 b.toNat)), H) := isoK_val rfl rfl rfl c52
theorem do_print {w h : Nat} {r c r' c' : Nat} {p p' : Bool} {R R' oR tB : List (List IV)} {b : UInt8} (hb : pA b)
  (hc : ∃ L, callT E 51 [.ptr 0 0 0 0, .i (.v (.int .i32 b.toNat))] (.box [.i (.v (.int .i64 (w))), .i (.v (.int .i64 (h))), .ref 1 0 0 (h), .i (.v (.int .i64 (w))), .i (.v (.int .i64 (h))), .ref 2 0 0 (h), .i (.v (.int .i64 (r))), .i (.v (.int .i64 (c))), .i (.v (.bool (p))), .i (.v (.int .i64 0)), .i (.v (.int .i64 0)), .i (.v (.bool false)), .i (.v (.int .i64 (-1))), .i (.v (.int .i64 (-1))), .i (.v (.int .i64 0)), .i (.v (.bool false)), .i (.v (.int .u8 66)), .i (.v (.int .u8 66)), .i (.v (.int .i64 0)), .i (.v (.int .i64 (-1))), .i (.v (.int .i64 (-1))), .i (.v (.int .i64 0)), .i (.v (.bool false)), .i (.v (.bool false)), .i (.v (.bool false)), .i (.v (.bool false)), .i (.v (.bool true)), .i (.v (.bool true)), .i (.v (.bool false)), .i (.v (.bool false)), .i (.v (.int .u8 66)), .i (.v (.int .u8 66)), .i (.v (.int .i64 0)), .i (.v (.int .i64 0)), .i (.v (.int .i64 (h))), .ref 3 0 0 (w), .ref 4 0 0 0, .i (.v (.int .i64 0)), .i (.str []), .i (.str []), .i (.str []), .i (.str [])] :: .sl 1 0 (R) false :: .sl 1 0 oR false :: .sl 1 0 tB false :: .sl 1 0 [] false :: []) = some (.tup [], .box [.i (.v (.int .i64 (w))), .i (.v (.int .i64 (h))), .ref 1 0 0 (h), .i (.v (.int .i64 (w))), .i (.v (.int .i64 (h))), .ref 2 0 0 (h), .i (.v (.int .i64 (r'))), .i (.v (.int .i64 (c'))), .i (.v (.bool (p'))), .i (.v (.int .i64 0)), .i (.v (.int .i64 0)), .i (.v (.bool false)), .i (.v (.int .i64 (-1))), .i (.v (.int .i64 (-1))), .i (.v (.int .i64 0)), .i (.v (.bool false)), .i (.v (.int .u8 66)), .i (.v (.int .u8 66)), .i (.v (.int .i64 0)), .i (.v (.int .i64 (-1))), .i (.v (.int .i64 (-1))), .i (.v (.int .i64 0)), .i (.v (.bool false)), .i (.v (.bool false)), .i (.v (.bool false)), .i (.v (.bool false)), .i (.v (.bool true)), .i (.v (.bool true)), .i (.v (.bool false)), .i (.v (.bool false)), .i (.v (.int .u8 66)), .i (.v (.int .u8 66)), .i (.v (.int .i64 0)), .i (.v (.int .i64 0)), .i (.v (.int .i64 (h))), .ref 3 0 0 (w), .ref 4 0 0 0, .i (.v (.int .i64 0)), .i (.str []), .i (.str []), .i (.str []), .i (.str [])] :: .sl 1 0 (R') false :: .sl 1 0 oR false :: .sl 1 0 tB false :: .sl 1 0 [] false :: L)) :
  ∃ L, callT E 21 [.ptr 0 0 0 0, .agg [.i (.v (.int .i64 (1))), .i (.v (.int .i32 (b).toNat)), .i (.v (.int .u8 0)), .i (.v (.int .u8 0)), .i (.str []), .i (.sl 1 [] false), .i (.str [])]] (.box [.i (.v (.int .i64 (w))), .i (.v (.int .i64 (h))), .ref 1 0 0 (h), .i (.v (.int .i64 (w))), .i (.v (.int .i64 (h))), .ref 2 0 0 (h), .i (.v (.int .i64 (r))), .i (.v (.int .i64 (c))), .i (.v (.bool (p))), .i (.v (.int .i64 0)), .i (.v (.int .i64 0)), .i (.v (.bool false)), .i (.v (.int .i64 (-1))), .i (.v (.int .i64 (-1))), .i (.v (.int .i64 0)), .i (.v (.bool false)), .i (.v (.int .u8 66)), .i (.v (.int .u8 66)), .i (.v (.int .i64 0)), .i (.v (.int .i64 (-1))), .i (.v (.int .i64 (-1))), .i (.v (.int .i64 0)), .i (.v (.bool false)), .i (.v (.bool false)), .i (.v (.bool false)), .i (.v (.bool false)), .i (.v (.bool true)), .i (.v (.bool true)), .i (.v (.bool false)), .i (.v (.bool false)), .i (.v (.int .u8 66)), .i (.v (.int .u8 66)), .i (.v (.int .i64 0)), .i (.v (.int .i64 0)), .i (.v (.int .i64 (h))), .ref 3 0 0 (w), .ref 4 0 0 0, .i (.v (.int .i64 0)), .i (.str []), .i (.str []), .i (.str []), .i (.str [])] :: .sl 1 0 (R) false :: .sl 1 0 oR false :: .sl 1 0 tB false :: .sl 1 0 [] false :: []) = some (.tup [], .box [.i (.v (.int .i64 (w))), .i (.v (.int .i64 (h))), .ref 1 0 0 (h), .i (.v (.int .i64 (w))), .i (.v (.int .i64 (h))), .ref 2 0 0 (h), .i (.v (.int .i64 (r'))), .i (.v (.int .i64 (c'))), .i (.v (.bool (p'))), .i (.v (.int .i64 0)), .i (.v (.int .i64 0)), .i (.v (.bool false)), .i (.v (.int .i64 (-1))), .i (.v (.int .i64 (-1))), .i (.v (.int .i64 0)), .i (.v (.bool false)), .i (.v (.int .u8 66)), .i (.v (.int .u8 66)), .i (.v (.int .i64 0)), .i (.v (.int .i64 (-1))), .i (.v (.int .i64 (-1))), .i (.v (.int .i64 0)), .i (.v (.bool false)), .i (.v (.bool false)), .i (.v (.bool false)), .i (.v (.bool false)), .i (.v (.bool true)), .i (.v (.bool true)), .i (.v (.bool false)), .i (.v (.bool false)), .i (.v (.int .u8 66)), .i (.v (.int .u8 66)), .i (.v (.int .i64 0)), .i (.v (.int .i64 0)), .i (.v (.int .i64 (h))), .ref 3 0 0 (w), .ref 4 0 0 0, .i (.v (.int .i64 0)), .i (.str []), .i (.str []), .i (.str []), .i (.str [])] :: .sl 1 0 (R') false :: .sl 1 0 oR false :: .sl 1 0 tB false :: .sl 1 0 [] false :: L) := by
 have e1 := fun H => ik50 hb H
 have e2 := fun H => ik52 (b := b) H
 have e3 := fun T => isoK_m (f := 51) rfl rfl rfl hc T
 clear hc
 rw [callT_eq Tryz.func21 rfl fok21 (by simp [Tryz.ntmps21])]
 simp (disch := first | omega | (simp only [vlen]; omega)) only [vall, reduceCtorEq, ↓reduceIte, zq0, zq1, zq2, zq3, zq4, zq5, zq6, zq7, zq8, zq9, zq10, zq11, zq12, zq13, zq14, zq15, zq16, zq17, en21, e1, e2, e3]
 exact ⟨_, rfl⟩
end Go.VI

set_option linter.unusedSimpArgs false
set_option linter.unusedVariables false
set_option maxRecDepth 100000
set_option maxHeartbeats 8000000
namespace Go.VI
open Go.Proofs
def evR (b : UInt8) : List IV := [.v (.int .i64 1), .v (.int .i32 b.toNat), .v (.int .u8 0), .v (.int .u8 0), .str [], .sl 1 [] false, .str []]
def rowsE' (l : List UInt8) : List (List IV) := l.map evR
theorem rowsE'_len (l : List UInt8) : (rowsE' l).length = l.length := by simp [rowsE']
theorem rowsE'_snoc (l : List UInt8) (b : UInt8) : rowsE' l ++ [[.v (.int .i64 1), .v (.int .i32 b.toNat), .v (.int .u8 0), .v (.int .u8 0), .str [], .sl 1 [] false, .str []]] = rowsE' (l ++ [b]) := by simp [rowsE', evR]
theorem rowsE'_at {l : List UInt8} {k : Nat} (h : k < l.length) : (rowsE' l)[k]? = some [.v (.int .i64 1), .v (.int .i32 (bt l k).toNat), .v (.int .u8 0), .v (.int .u8 0), .str [], .sl 1 [] false, .str []] := by
 rw [bt_eq h]; simp [rowsE', h, evR]
theorem c48 (l : List UInt8) (hl : l.length < 1000000) (b : UInt8) :
  ∃ L, callT E 48 [.ptr 0 0 0 0, .agg [.i (.v (.int .i64 (1))), .i (.v (.int .i32 b.toNat)), .i (.v (.int .u8 0)), .i (.v (.int .u8 0)), .i (.str []), .i (.sl 1 [] false), .i (.str [])]] [.box [.i (.v (.int .i64 (0))), .i (.str []), .i (.str []), .ref 1 0 0 l.length], .sl 7 0 (rowsE' l) false] =
   some (.tup [], .box [.i (.v (.int .i64 (0))), .i (.str []), .i (.str []), .ref 1 1 0 (l.length + 1)] :: .sl 7 1 (rowsE' (l ++ [b])) false :: L) := by
 have hr := rowsE'_len l
 rw [callT_eq Tryz.func48 rfl fok48 (by simp [Tryz.ntmps48])]
 simp (disch := first | omega | (simp only [vlen, rowsE'_len]; omega)) only [vall, reduceCtorEq, ↓reduceIte, zq0, zq1, zq2, zq3, zq4, zq5, zq6, zq7, zq8, zq9, zq10, zq11, zq12, zq13, zq14, zq15, zq16, zq17, en48, bs73, rowsE'_len, rowsE'_snoc]
 exact ⟨_, rfl⟩
theorem ik48 (l : List UInt8) (hl : l.length < 1000000) (b : UInt8) (A : Chunk) :
  isoK E (callT E) 48 [.ptr 1 0 0 0, .agg [.i (.v (.int .i64 (1))), .i (.v (.int .i32 b.toNat)), .i (.v (.int .u8 0)), .i (.v (.int .u8 0)), .i (.str []), .i (.sl 1 [] false), .i (.str [])]] [A, .box [.i (.v (.int .i64 (0))), .i (.str []), .i (.str []), .ref 2 0 0 l.length], .sl 7 0 (rowsE' l) false] =
   some (.tup [], [A, .box [.i (.v (.int .i64 (0))), .i (.str []), .i (.str []), .ref 2 1 0 (l.length + 1)], .sl 7 1 (rowsE' (l ++ [b])) false]) := by
 obtain ⟨L, h⟩ := c48 l hl b
 unfold isoK
 simp [exCl, xn48, refsL, refsA, reach, Chunk.refs, renL, renA, posIn, Chunk.ren, h, backRen, setAll]
theorem c47 : ∃ L, callT E 47 [.agg [.i (.v (.int .i64 (0))), .i (.str []), .i (.str [])]] [] = some (.i (.v (.bool (true))), L) := by
 have e : ∀ H, isoK E (callT E) 69 [.i (.str []), .i (.str [])] H = some (.tup [.i (.sl 1 [] false), .i (.str [])], H) := fun H => ik69 [] [] (by simp) H
 rw [callT_eq Tryz.func47 rfl fok47 (by simp [Tryz.ntmps47])]
 simp (disch := first | omega | (simp only [vlen]; omega)) only [vall, reduceCtorEq, ↓reduceIte, zq0, zq1, zq2, zq3, zq4, zq5, zq6, zq7, zq8, zq9, zq10, zq11, zq12, zq13, zq14, zq15, zq16, zq17, en47, bs132, e]
 exact ⟨_, rfl⟩
theorem ik47 (H : Hp) : isoK E (callT E) 47 [.agg [.i (.v (.int .i64 (0))), .i (.str []), .i (.str [])]] H = some (.i (.v (.bool (true))), H) := isoK_val rfl rfl rfl c47
theorem take_snoc {l : List UInt8} {k : Nat} (h : k < l.length) : l.take k ++ [bt l k] = l.take (k + 1) := by rw [bt_eq h]; exact (List.take_succ_eq_append_getElem h).symm
set_option linter.defProp false in
def lp20_5 := show ∀ B fr H, execT E B 20 (Code.loop _) fr H = rlM E B 20 (loopAt Tryz.f20 0) [1, 4, 6, 7] [] (matF [] fr H).1 (matB [(6, 3, 7)] (matF [] fr H).1 (matF [] fr H).2) from fun B fr H => rl_introM rfl mt20_5 mb20_5 zf20_5 hd20_5 fr H
theorem l20 (s : List UInt8) (hs : s.length < 100000) (hp : pL s) : ∀ (m k : Nat), k + m = s.length →
  rl E 0 20 (loopAt Tryz.f20 0) [(1, .i (.str s)), (4, .ptr 0 0 0 0), (6, .ptr 1 0 0 0), (7, .i (.v (.int .i64 (k))))] [.box [.i (.v (.int .i64 (0))), .i (.str []), .i (.str [])], .box [.i (.v (.int .i64 (0))), .i (.str []), .i (.str []), .ref 2 0 0 (s.take k).length], .sl 7 0 (rowsE' (s.take k)) false] =
   some (.exit 0, [(1, .i (.str s)), (4, .ptr 0 0 0 0), (6, .ptr 1 0 0 0), (7, .i (.v (.int .i64 (s.length)))), (19, .i (.v (.bool (false))))], [.box [.i (.v (.int .i64 (0))), .i (.str []), .i (.str [])], .box [.i (.v (.int .i64 (0))), .i (.str []), .i (.str []), .ref 2 0 0 (s).length], .sl 7 0 (rowsE' (s)) false]) := by
 intro m
 induction m with
 | zero =>
  intro k hk
  obtain rfl : k = s.length := by omega
  rw [List.take_length]
  rw [rl_step (fn := Tryz.f20) (k := 0) rfl]
  simp (disch := first | omega | (simp only [vlen, rowsE'_len]; omega)) only [vall, reduceCtorEq, ↓reduceIte, zq0, zq1, zq2, zq3, zq4, zq5, zq6, zq7, zq8, zq9, zq10, zq11, zq12, zq13, zq14, zq15, zq16, zq17, en20, rowsE'_len, lp20_5]
 | succ m ih =>
  intro k hk
  have hlt : k < s.length := by omega
  have e := ih (k + 1) (by omega)
  have hb := pL_at hp hlt
  have hix : s[k]? = some (bt s k) := by rw [bt_eq hlt, List.getElem?_eq_getElem hlt]
  have hsn := take_snoc hlt
  have hy := fun A => ik48 (s.take k) (by rw [List.length_take]; omega) (bt s k) A
  rw [hsn] at hy
  have hl1 : (s.take k).length = k := by rw [List.length_take]; omega
  have hl2 : (s.take (k + 1)).length = k + 1 := by rw [List.length_take]; omega
  rw [hl1] at hy ⊢
  rw [hl2] at e
  generalize s.take (k + 1) = s2 at *
  generalize s.take k = s1 at *
  generalize bt s k = b at *
  obtain ⟨h1, h2⟩ := hb
  refine Eq.trans ?_ e
  clear e ih
  rw [rl_step (fn := Tryz.f20) (k := 0) rfl]
  simp (disch := first | omega | (simp only [vlen, rowsE'_len]; omega)) only [vall, reduceCtorEq, ↓reduceIte, zq0, zq1, zq2, zq3, zq4, zq5, zq6, zq7, zq8, zq9, zq10, zq11, zq12, zq13, zq14, zq15, zq16, zq17, en20, hix, hy, rowsE'_len, lp20_5]
theorem c20 (s : List UInt8) (hs : s.length < 100000) (hp : pL s) : ∃ L, callT E 20 [.agg [.i (.v (.int .i64 (0))), .i (.str []), .i (.str [])], .i (.str s)] [] = some (.tup [.agg [.i (.v (.int .i64 (0))), .i (.str []), .i (.str [])], .i (.sl 7 (rowsE' s) false)], L) := by
 have h := l20 s hs hp s.length 0 (by omega)
 have h' : rl E 0 20 (loopAt Tryz.f20 0) [(1, .i (.str s)), (4, .ptr 0 0 0 0), (6, .ptr 1 0 0 0), (7, .i (.v (.int .i64 (0))))] [.box [.i (.v (.int .i64 (0))), .i (.str []), .i (.str [])], .box [.i (.v (.int .i64 (0))), .i (.str []), .i (.str []), .ref 2 0 0 0], .sl 7 0 [] false] = _ := h
 clear h
 rw [callT_eq Tryz.func20 rfl fok20 (by simp [Tryz.ntmps20])]
 simp (disch := first | omega | (simp only [vlen, rowsE'_len]; omega)) only [vall, reduceCtorEq, ↓reduceIte, zq0, zq1, zq2, zq3, zq4, zq5, zq6, zq7, zq8, zq9, zq10, zq11, zq12, zq13, zq14, zq15, zq16, zq17, en20, h', ik47, rowsE'_len, lp20_5]
 exact ⟨_, rfl⟩
theorem ik20 (s : List UInt8) (hs : s.length < 100000) (hp : pL s) (H : Hp) : isoK E (callT E) 20 [.agg [.i (.v (.int .i64 (0))), .i (.str []), .i (.str [])], .i (.str s)] H = some (.tup [.agg [.i (.v (.int .i64 (0))), .i (.str []), .i (.str [])], .i (.sl 7 (rowsE' s) false)], H) := isoK_val rfl rfl rfl (c20 s hs hp)
end Go.VI

set_option linter.unusedSimpArgs false
set_option linter.unusedVariables false
set_option maxRecDepth 100000
set_option maxHeartbeats 8000000
namespace Go.VI
open Go.Proofs
def gridR (g : List (List UInt8)) : List (List IV) := g.map fun l => [.sl 5 (rowC l) false]
theorem gridR_len (g : List (List UInt8)) : (gridR g).length = g.length := by simp [gridR]
def gt (g : List (List UInt8)) (k : Nat) : List UInt8 := g.getD k []
theorem gt_eq {g : List (List UInt8)} {k : Nat} (h : k < g.length) : gt g k = g[k] := by simp [gt, h]
theorem gridR_at {g : List (List UInt8)} {k : Nat} (h : k < g.length) : (gridR g)[k]? = some [.sl 5 (rowC (gt g k)) false] := by rw [gt_eq h]; simp [gridR, h]
theorem gridR_same {g : List (List UInt8)} {k : Nat} (h : k < g.length) : (gridR g).set k [.sl 5 (rowC (gt g k)) false] = gridR g := by
 have h1 := gridR_at h
 obtain ⟨h2, h3⟩ := List.getElem?_eq_some_iff.1 h1
 rw [← h3]; exact List.set_getElem_self h2
theorem ik63 (rows : List (List IV)) (ex : Bool) (h : rows.length ≤ 1000000000) (H : Hp) : isoK E (callT E) 63 [.i (.sl 1 rows ex)] H = some (.ref H.length 0 0 rows.length, H ++ [.sl 1 0 rows false]) := by
 rw [isoK_cl (show E.ext 63 = some (extCloneO 1) from rfl)]
 exact isoK_new (E := { E with ext := fun _ => none }) (c := 0) (x := .sl 1 0 rows false) rfl rfl rfl ⟨[.sl 1 0 rows false], by simp [extCloneO, h], rfl⟩
theorem ik40 (rows : List (List IV)) (ex : Bool) (h : rows.length ≤ 1000000000) (H : Hp) : isoK E (callT E) 40 [.i (.sl 1 rows ex)] H = some (.ref H.length 0 0 rows.length, H ++ [.sl 1 0 rows false]) := by
 rw [isoK_cl (show E.ext 40 = some (extCloneO 1) from rfl)]
 exact isoK_new (E := { E with ext := fun _ => none }) (c := 0) (x := .sl 1 0 rows false) rfl rfl rfl ⟨[.sl 1 0 rows false], by simp [extCloneO, h], rfl⟩
set_option linter.defProp false in
def lp39_3 := show ∀ B fr H, execT E B 39 (Code.loop _) fr H = rlG E B 39 (loopAt Tryz.f39 0) (gcn B (norm [3, 8, 9] fr) H) from fun B fr H => rl_intro rfl mt39_3 mb39_3 zf39_3 hd39_3 fr H
theorem l39 (g : List (List UInt8)) (hg : g.length ≤ 1000) (hl : ∀ l ∈ g, l.length ≤ 1000) : ∀ (m k : Nat), k + m = g.length →
  rl E 0 39 (loopAt Tryz.f39 0) [(3, .ref 0 0 0 g.length), (8, .i (.v (.int .i64 (g.length)))), (9, .i (.v (.int .i64 (k))))] [.sl 1 0 (gridR g) false] =
   some (.exit 0, [(3, .ref 0 0 0 g.length), (8, .i (.v (.int .i64 (g.length)))), (9, .i (.v (.int .i64 (g.length)))), (10, .i (.v (.bool (false))))], [.sl 1 0 (gridR g) false]) := by
 intro m
 induction m with
 | zero =>
  intro k hk
  obtain rfl : k = g.length := by omega
  rw [rl_step (fn := Tryz.f39) (k := 0) rfl]
  simp (disch := first | omega | (simp only [vlen, gridR_len]; omega)) only [vall, reduceCtorEq, ↓reduceIte, zq0, zq1, zq2, zq3, zq4, zq5, zq6, zq7, zq8, zq9, zq10, zq11, zq12, zq13, zq14, zq15, zq16, zq17, en39, bs23, bs52, gridR_len, lp39_3]
 | succ m ih =>
  intro k hk
  have hlt : k < g.length := by omega
  have hrow := gridR_at hlt
  have hset := gridR_same hlt
  have hll : (rowC (gt g k)).length ≤ 1000 := by rw [rowC_len, gt_eq hlt]; exact hl _ (List.getElem_mem hlt)
  have hcl := fun H => ik64 (rowC (gt g k)) false (by omega) H
  have e := ih (k + 1) (by omega)
  refine Eq.trans ?_ e
  clear e ih
  generalize rowC (gt g k) = x at *
  rw [rl_step (fn := Tryz.f39) (k := 0) rfl]
  simp (disch := first | omega | (simp only [vlen, gridR_len]; omega)) only [vall, reduceCtorEq, ↓reduceIte, zq0, zq1, zq2, zq3, zq4, zq5, zq6, zq7, zq8, zq9, zq10, zq11, zq12, zq13, zq14, zq15, zq16, zq17, en39, bs23, bs52, hrow, hset, hcl, gridR_len, lp39_3]
theorem c39 (g : List (List UInt8)) (hg : g.length ≤ 1000) (hl : ∀ l ∈ g, l.length ≤ 1000) : callT E 39 [.i (.sl 1 (gridR g) false)] [] = some (.ref 0 0 0 g.length, [.sl 1 0 (gridR g) false]) := by
 have h := l39 g hg hl g.length 0 (by omega)
 have h' : rl E 0 39 (loopAt Tryz.f39 0) [(3, .ref 0 0 0 g.length), (8, .i (.v (.int .i64 (g.length)))), (9, .i (.v (.int .i64 (0))))] [.sl 1 0 (gridR g) false] = _ := h
 clear h
 have hcl := fun h H => ik63 (gridR g) false h H
 rw [callT_eq Tryz.func39 rfl fok39 (by simp [Tryz.ntmps39])]
 simp (disch := first | omega | (simp only [vlen, gridR_len]; omega)) only [vall, reduceCtorEq, ↓reduceIte, zq0, zq1, zq2, zq3, zq4, zq5, zq6, zq7, zq8, zq9, zq10, zq11, zq12, zq13, zq14, zq15, zq16, zq17, en39, bs23, bs52, h', hcl, gridR_len, lp39_3]
theorem ik39 (g : List (List UInt8)) (hg : g.length ≤ 1000) (hl : ∀ l ∈ g, l.length ≤ 1000) (H : Hp) : isoK E (callT E) 39 [.i (.sl 1 (gridR g) false)] H = some (.ref H.length 0 0 g.length, H ++ [.sl 1 0 (gridR g) false]) :=
 isoK_new rfl rfl rfl ⟨_, c39 g hg hl, rfl⟩
theorem ik39_0 (H : Hp) : isoK E (callT E) 39 [.i (.sl 1 [] false)] H = some (.ref H.length 0 0 0, H ++ [.sl 1 0 [] false]) := ik39 [] (by simp) (by simp) H
theorem c18 (w h : Nat) (g g2 : List (List UInt8)) (tB : List (List IV)) (r c : Nat) (p : Bool) (hg : g.length ≤ 1000) (hl : ∀ l ∈ g, l.length ≤ 1000) (hg2 : g2.length ≤ 1000) (hl2 : ∀ l ∈ g2, l.length ≤ 1000) (ht : tB.length ≤ 1000) :
  ∃ A B, callT E 18 [.agg [.i (.v (.int .i64 (w))), .i (.v (.int .i64 (h))), .i (.sl 1 (gridR g) false), .i (.v (.int .i64 (w))), .i (.v (.int .i64 (h))), .i (.sl 1 (gridR g2) false), .i (.v (.int .i64 (r))), .i (.v (.int .i64 (c))), .i (.v (.bool (p))), .i (.v (.int .i64 0)), .i (.v (.int .i64 0)), .i (.v (.bool false)), .i (.v (.int .i64 (-1))), .i (.v (.int .i64 (-1))), .i (.v (.int .i64 0)), .i (.v (.bool false)), .i (.v (.int .u8 66)), .i (.v (.int .u8 66)), .i (.v (.int .i64 0)), .i (.v (.int .i64 (-1))), .i (.v (.int .i64 (-1))), .i (.v (.int .i64 0)), .i (.v (.bool false)), .i (.v (.bool false)), .i (.v (.bool false)), .i (.v (.bool false)), .i (.v (.bool true)), .i (.v (.bool true)), .i (.v (.bool false)), .i (.v (.bool false)), .i (.v (.int .u8 66)), .i (.v (.int .u8 66)), .i (.v (.int .i64 0)), .i (.v (.int .i64 0)), .i (.v (.int .i64 (h))), .i (.sl 1 tB false), .i (.sl 1 [] false), .i (.v (.int .i64 0)), .i (.str []), .i (.str []), .i (.str []), .i (.str [])]] [] =
   some (.agg [.i (.v (.int .i64 (w))), .i (.v (.int .i64 (h))), .ref 2 0 0 g.length, .i (.v (.int .i64 (w))), .i (.v (.int .i64 (h))), .ref 3 0 0 g2.length, .i (.v (.int .i64 (r))), .i (.v (.int .i64 (c))), .i (.v (.bool (p))), .i (.v (.int .i64 0)), .i (.v (.int .i64 0)), .i (.v (.bool false)), .i (.v (.int .i64 (-1))), .i (.v (.int .i64 (-1))), .i (.v (.int .i64 0)), .i (.v (.bool false)), .i (.v (.int .u8 66)), .i (.v (.int .u8 66)), .i (.v (.int .i64 0)), .i (.v (.int .i64 (-1))), .i (.v (.int .i64 (-1))), .i (.v (.int .i64 0)), .i (.v (.bool false)), .i (.v (.bool false)), .i (.v (.bool false)), .i (.v (.bool false)), .i (.v (.bool true)), .i (.v (.bool true)), .i (.v (.bool false)), .i (.v (.bool false)), .i (.v (.int .u8 66)), .i (.v (.int .u8 66)), .i (.v (.int .i64 0)), .i (.v (.int .i64 0)), .i (.v (.int .i64 (h))), .ref 5 0 0 tB.length, .ref 4 0 0 0, .i (.v (.int .i64 0)), .i (.str []), .i (.str []), .i (.str []), .i (.str [])], [A, B, .sl 1 0 (gridR g) false, .sl 1 0 (gridR g2) false, .sl 1 0 [] false, .sl 1 0 tB false]) := by
 have e1 := fun H => ik39 g hg hl H
 have e2 := fun H => ik39 g2 hg2 hl2 H
 have e3 := fun h H => ik40 tB false h H
 rw [callT_eq Tryz.func18 rfl fok18 (by simp [Tryz.ntmps18])]
 simp (disch := first | omega | (simp only [vlen, gridR_len]; omega)) only [vall, reduceCtorEq, ↓reduceIte, zq0, zq1, zq2, zq3, zq4, zq5, zq6, zq7, zq8, zq9, zq10, zq11, zq12, zq13, zq14, zq15, zq16, zq17, en18, bs23, bs35, e1, e2, e3, ik39_0, gridR_len]
 exact ⟨_, _, rfl⟩
theorem ik18 (w h : Nat) (g g2 : List (List UInt8)) (tB : List (List IV)) (r c : Nat) (p : Bool) (hg : g.length ≤ 1000) (hl : ∀ l ∈ g, l.length ≤ 1000) (hg2 : g2.length ≤ 1000) (hl2 : ∀ l ∈ g2, l.length ≤ 1000) (ht : tB.length ≤ 1000) (X Y : Chunk) :
  isoK E (callT E) 18 [.agg [.i (.v (.int .i64 (w))), .i (.v (.int .i64 (h))), .i (.sl 1 (gridR g) false), .i (.v (.int .i64 (w))), .i (.v (.int .i64 (h))), .i (.sl 1 (gridR g2) false), .i (.v (.int .i64 (r))), .i (.v (.int .i64 (c))), .i (.v (.bool (p))), .i (.v (.int .i64 0)), .i (.v (.int .i64 0)), .i (.v (.bool false)), .i (.v (.int .i64 (-1))), .i (.v (.int .i64 (-1))), .i (.v (.int .i64 0)), .i (.v (.bool false)), .i (.v (.int .u8 66)), .i (.v (.int .u8 66)), .i (.v (.int .i64 0)), .i (.v (.int .i64 (-1))), .i (.v (.int .i64 (-1))), .i (.v (.int .i64 0)), .i (.v (.bool false)), .i (.v (.bool false)), .i (.v (.bool false)), .i (.v (.bool false)), .i (.v (.bool true)), .i (.v (.bool true)), .i (.v (.bool false)), .i (.v (.bool false)), .i (.v (.int .u8 66)), .i (.v (.int .u8 66)), .i (.v (.int .i64 0)), .i (.v (.int .i64 0)), .i (.v (.int .i64 (h))), .i (.sl 1 tB false), .i (.sl 1 [] false), .i (.v (.int .i64 0)), .i (.str []), .i (.str []), .i (.str []), .i (.str [])]] [X, Y] =
   some (.agg [.i (.v (.int .i64 (w))), .i (.v (.int .i64 (h))), .ref 2 0 0 g.length, .i (.v (.int .i64 (w))), .i (.v (.int .i64 (h))), .ref 3 0 0 g2.length, .i (.v (.int .i64 (r))), .i (.v (.int .i64 (c))), .i (.v (.bool (p))), .i (.v (.int .i64 0)), .i (.v (.int .i64 0)), .i (.v (.bool false)), .i (.v (.int .i64 (-1))), .i (.v (.int .i64 (-1))), .i (.v (.int .i64 0)), .i (.v (.bool false)), .i (.v (.int .u8 66)), .i (.v (.int .u8 66)), .i (.v (.int .i64 0)), .i (.v (.int .i64 (-1))), .i (.v (.int .i64 (-1))), .i (.v (.int .i64 0)), .i (.v (.bool false)), .i (.v (.bool false)), .i (.v (.bool false)), .i (.v (.bool false)), .i (.v (.bool true)), .i (.v (.bool true)), .i (.v (.bool false)), .i (.v (.bool false)), .i (.v (.int .u8 66)), .i (.v (.int .u8 66)), .i (.v (.int .i64 0)), .i (.v (.int .i64 0)), .i (.v (.int .i64 (h))), .ref 4 0 0 tB.length, .ref 5 0 0 0, .i (.v (.int .i64 0)), .i (.str []), .i (.str []), .i (.str []), .i (.str [])], [X, Y, .sl 1 0 (gridR g) false, .sl 1 0 (gridR g2) false, .sl 1 0 tB false, .sl 1 0 [] false]) := by
 obtain ⟨A, B, hq⟩ := c18 w h g g2 tB r c p hg hl hg2 hl2 ht
 unfold isoK
 simp [exCl, xn18, refsL, refsA, reach, Chunk.refs, renL, renA, posIn, Chunk.ren, hq, backRen, setAll]
def okGr (w : Nat) (g : List (List UInt8)) : Prop := ∀ l ∈ g, l.length = w ∧ pL l
theorem okGr_at {w : Nat} {g : List (List UInt8)} (h : okGr w g) {k : Nat} (hk : k < g.length) : (gt g k).length = w ∧ pL (gt g k) := by rw [gt_eq hk]; exact h _ (List.getElem_mem hk)
theorem c28 (w h : Nat) (hw : 1 ≤ w ∧ w ≤ 132) (hh : 1 ≤ h ∧ h ≤ 60) : ∃ L, callT E 28 [.i (.v (.int .i64 (w))), .i (.v (.int .i64 (h)))] [] = some (.i (.v (.int .i64 (0))), L) := by
 obtain ⟨h1, h2⟩ := hw
 obtain ⟨h3, h4⟩ := hh
 rw [callT_eq Tryz.func28 rfl fok28 (by simp [Tryz.ntmps28])]
 simp (disch := first | omega | (simp only [vlen]; omega)) only [vall, reduceCtorEq, ↓reduceIte, zq0, zq1, zq2, zq3, zq4, zq5, zq6, zq7, zq8, zq9, zq10, zq11, zq12, zq13, zq14, zq15, zq16, zq17, en28]
 exact ⟨_, rfl⟩
theorem ik28 (w h : Nat) (hw : 1 ≤ w ∧ w ≤ 132) (hh : 1 ≤ h ∧ h ≤ 60) (H : Hp) : isoK E (callT E) 28 [.i (.v (.int .i64 (w))), .i (.v (.int .i64 (h)))] H = some (.i (.v (.int .i64 (0))), H) := isoK_val rfl rfl rfl (c28 w h hw hh)
set_option linter.defProp false in
def lp41_7 := show ∀ B fr H, execT E B 41 (Code.loop _) fr H = rlG E B 41 (loopAt Tryz.f41 0) (gcn B (norm [1, 22, 23, 24] fr) H) from fun B fr H => rl_intro rfl mt41_7 mb41_7 zf41_7 hd41_7 fr H
theorem l41 (w h : Nat) (hw : 1 ≤ w ∧ w ≤ 132) (g : List (List UInt8)) (hg : g.length ≤ 1000) (hk : okGr w g) : ∀ (m k : Nat), k + m = g.length →
  rl E 0 41 (loopAt Tryz.f41 0) [(1, .ptr 0 0 0 0), (22, .i (.sl 1 (gridR g) false)), (23, .i (.v (.int .i64 (g.length)))), (24, .i (.v (.int .i64 (k))))] [.box [.i (.v (.int .i64 (w))), .i (.v (.int .i64 (h))), .i (.sl 1 (gridR g) false)]] =
   some (.exit 0, [(1, .ptr 0 0 0 0), (22, .i (.sl 1 (gridR g) false)), (23, .i (.v (.int .i64 (g.length)))), (24, .i (.v (.int .i64 (g.length)))), (25, .i (.v (.bool (false))))], [.box [.i (.v (.int .i64 (w))), .i (.v (.int .i64 (h))), .i (.sl 1 (gridR g) false)]]) := by
 intro m
 induction m with
 | zero =>
  intro k hkk
  obtain rfl : k = g.length := by omega
  rw [rl_step (fn := Tryz.f41) (k := 0) rfl]
  simp (disch := first | omega | (simp only [vlen, gridR_len]; omega)) only [vall, reduceCtorEq, ↓reduceIte, zq0, zq1, zq2, zq3, zq4, zq5, zq6, zq7, zq8, zq9, zq10, zq11, zq12, zq13, zq14, zq15, zq16, zq17, en41, bs23, bs52, gridR_len, lp41_7]
 | succ m ih =>
  intro k hkk
  have hlt : k < g.length := by omega
  have hrow := gridR_at hlt
  obtain ⟨h1, h2⟩ := okGr_at hk hlt
  have hck := fun H => ik31 (gt g k) (by omega) (by omega) h2 H
  have hlen : ((rowC (gt g k)).length : Int) = w := by rw [rowC_len, h1]
  have e := ih (k + 1) (by omega)
  refine Eq.trans ?_ e
  clear e ih
  generalize rowC (gt g k) = x at *
  rw [rl_step (fn := Tryz.f41) (k := 0) rfl]
  simp (disch := first | omega | (simp only [vlen, gridR_len]; omega)) only [vall, reduceCtorEq, ↓reduceIte, zq0, zq1, zq2, zq3, zq4, zq5, zq6, zq7, zq8, zq9, zq10, zq11, zq12, zq13, zq14, zq15, zq16, zq17, en41, bs23, bs52, hrow, hck, hlen, gridR_len, lp41_7]
theorem c41 (w h : Nat) (hw : 1 ≤ w ∧ w ≤ 132) (hh : 1 ≤ h ∧ h ≤ 60) (g : List (List UInt8)) (hg : g.length = h) (hk : okGr w g) : ∃ L, callT E 41 [.agg [.i (.v (.int .i64 (w))), .i (.v (.int .i64 (h))), .i (.sl 1 (gridR g) false)]] [] = some (.i (.v (.int .i64 (0))), L) := by
 have hz := fun H => ik28 w h hw hh H
 have hlp := l41 w h hw g (by omega) hk g.length 0 (by omega)
 have h' : rl E 0 41 (loopAt Tryz.f41 0) [(1, .ptr 0 0 0 0), (22, .i (.sl 1 (gridR g) false)), (23, .i (.v (.int .i64 (g.length)))), (24, .i (.v (.int .i64 (0))))] [.box [.i (.v (.int .i64 (w))), .i (.v (.int .i64 (h))), .i (.sl 1 (gridR g) false)]] = _ := hlp
 clear hlp
 rw [hg] at h'
 have hgl : (gridR g).length = h := by rw [gridR_len, hg]
 rw [callT_eq Tryz.func41 rfl fok41 (by simp [Tryz.ntmps41])]
 simp (disch := first | omega | (simp only [vlen, hgl]; omega)) only [vall, reduceCtorEq, ↓reduceIte, zq0, zq1, zq2, zq3, zq4, zq5, zq6, zq7, zq8, zq9, zq10, zq11, zq12, zq13, zq14, zq15, zq16, zq17, en41, bs23, bs52, hz, h', hgl, lp41_7]
 exact ⟨_, rfl⟩
theorem ik41 (w h : Nat) (hw : 1 ≤ w ∧ w ≤ 132) (hh : 1 ≤ h ∧ h ≤ 60) (g : List (List UInt8)) (hg : g.length = h) (hk : okGr w g) (H : Hp) : isoK E (callT E) 41 [.agg [.i (.v (.int .i64 (w))), .i (.v (.int .i64 (h))), .i (.sl 1 (gridR g) false)]] H = some (.i (.v (.int .i64 (0))), H) := isoK_val rfl rfl rfl (c41 w h hw hh g hg hk)
theorem c42 (w h r c : Nat) (p : Bool) (hr : r < h) (hc : c < w) (hp : p = true → c + 1 = w) (hw : w ≤ 132) (hh : h ≤ 60) (R : List (List IV)) : ∃ L, callT E 42 [.agg [.i (.v (.int .i64 (r))), .i (.v (.int .i64 (c))), .i (.v (.bool (p)))], .agg [.i (.v (.int .i64 (w))), .i (.v (.int .i64 (h))), .i (.sl 1 R false)]] [] = some (.i (.v (.bool (true))), L) := by
 cases p with
 | true =>
  have e := hp rfl
  have e2 : (w : Int) - 1 = c := by omega
  rw [callT_eq Tryz.func42 rfl fok42 (by simp [Tryz.ntmps42])]
  simp (disch := first | omega | (simp only [vlen]; omega)) only [vall, reduceCtorEq, ↓reduceIte, zq0, zq1, zq2, zq3, zq4, zq5, zq6, zq7, zq8, zq9, zq10, zq11, zq12, zq13, zq14, zq15, zq16, zq17, en42, e2]
  exact ⟨_, rfl⟩
 | false =>
  rw [callT_eq Tryz.func42 rfl fok42 (by simp [Tryz.ntmps42])]
  simp (disch := first | omega | (simp only [vlen]; omega)) only [vall, reduceCtorEq, ↓reduceIte, zq0, zq1, zq2, zq3, zq4, zq5, zq6, zq7, zq8, zq9, zq10, zq11, zq12, zq13, zq14, zq15, zq16, zq17, en42]
  exact ⟨_, rfl⟩
theorem ik42 (w h r c : Nat) (p : Bool) (hr : r < h) (hc : c < w) (hp : p = true → c + 1 = w) (hw : w ≤ 132) (hh : h ≤ 60) (R : List (List IV)) (H : Hp) : isoK E (callT E) 42 [.agg [.i (.v (.int .i64 (r))), .i (.v (.int .i64 (c))), .i (.v (.bool (p)))], .agg [.i (.v (.int .i64 (w))), .i (.v (.int .i64 (h))), .i (.sl 1 R false)]] H = some (.i (.v (.bool (true))), H) := isoK_val rfl rfl rfl (c42 w h r c p hr hc hp hw hh R)
end Go.VI

set_option linter.unusedSimpArgs false
set_option linter.unusedVariables false
set_option maxRecDepth 100000
set_option maxHeartbeats 8000000
namespace Go.VI
open Go.Proofs
set_option linter.defProp false in
def lp34_2 := show ∀ B fr H, execT E B 34 (Code.loop _) fr H = rlG E B 34 (loopAt Tryz.f34 0) (gcn B (norm [1, 9, 10] fr) H) from fun B fr H => rl_intro rfl mt34_2 mb34_2 zf34_2 hd34_2 fr H
theorem l34_2 : rl E 0 34 (loopAt Tryz.f34 0) [(1, .ptr 0 0 0 0), (9, .agg [.i (.v (.int .i64 (-1))), .i (.v (.int .i64 (-1)))]), (10, .i (.v (.int .i64 (2))))] [.box [.i (.v (.int .i64 (-1))), .i (.v (.int .i64 (-1))), .i (.v (.int .i64 (0)))]] = some (.exit 0, [(1, .ptr 0 0 0 0), (9, .agg [.i (.v (.int .i64 (-1))), .i (.v (.int .i64 (-1)))]), (10, .i (.v (.int .i64 (2)))), (11, .i (.v (.bool (false))))], [.box [.i (.v (.int .i64 (-1))), .i (.v (.int .i64 (-1))), .i (.v (.int .i64 (0)))]]) := by
 rw [rl_step (fn := Tryz.f34) (k := 0) rfl]
 simp (disch := first | omega | (simp only [vlen]; omega)) only [vall, reduceCtorEq, ↓reduceIte, zq0, zq1, zq2, zq3, zq4, zq5, zq6, zq7, zq8, zq9, zq10, zq11, zq12, zq13, zq14, zq15, zq16, zq17, en34, lp34_2]
theorem l34_1 : rl E 0 34 (loopAt Tryz.f34 0) [(1, .ptr 0 0 0 0), (9, .agg [.i (.v (.int .i64 (-1))), .i (.v (.int .i64 (-1)))]), (10, .i (.v (.int .i64 (1))))] [.box [.i (.v (.int .i64 (-1))), .i (.v (.int .i64 (-1))), .i (.v (.int .i64 (0)))]] = some (.exit 0, [(1, .ptr 0 0 0 0), (9, .agg [.i (.v (.int .i64 (-1))), .i (.v (.int .i64 (-1)))]), (10, .i (.v (.int .i64 (2)))), (11, .i (.v (.bool (false))))], [.box [.i (.v (.int .i64 (-1))), .i (.v (.int .i64 (-1))), .i (.v (.int .i64 (0)))]]) := by
 refine Eq.trans ?_ l34_2
 rw [rl_step (fn := Tryz.f34) (k := 0) rfl]
 simp (disch := first | omega | (simp only [vlen]; omega)) only [vall, reduceCtorEq, ↓reduceIte, zq0, zq1, zq2, zq3, zq4, zq5, zq6, zq7, zq8, zq9, zq10, zq11, zq12, zq13, zq14, zq15, zq16, zq17, en34, lp34_2]
theorem l34_0 : rl E 0 34 (loopAt Tryz.f34 0) [(1, .ptr 0 0 0 0), (9, .agg [.i (.v (.int .i64 (-1))), .i (.v (.int .i64 (-1)))]), (10, .i (.v (.int .i64 (0))))] [.box [.i (.v (.int .i64 (-1))), .i (.v (.int .i64 (-1))), .i (.v (.int .i64 (0)))]] = some (.exit 0, [(1, .ptr 0 0 0 0), (9, .agg [.i (.v (.int .i64 (-1))), .i (.v (.int .i64 (-1)))]), (10, .i (.v (.int .i64 (2)))), (11, .i (.v (.bool (false))))], [.box [.i (.v (.int .i64 (-1))), .i (.v (.int .i64 (-1))), .i (.v (.int .i64 (0)))]]) := by
 refine Eq.trans ?_ l34_1
 rw [rl_step (fn := Tryz.f34) (k := 0) rfl]
 simp (disch := first | omega | (simp only [vlen]; omega)) only [vall, reduceCtorEq, ↓reduceIte, zq0, zq1, zq2, zq3, zq4, zq5, zq6, zq7, zq8, zq9, zq10, zq11, zq12, zq13, zq14, zq15, zq16, zq17, en34, lp34_2]
theorem ik34 (H : Hp) : isoK E (callT E) 34 [.agg [.i (.v (.int .i64 (-1))), .i (.v (.int .i64 (-1))), .i (.v (.int .i64 (0)))]] H = some (.i (.v (.int .i64 (0))), H) := isoK_val rfl rfl rfl (by
 have h := l34_0
 rw [callT_eq Tryz.func34 rfl fok34 (by simp [Tryz.ntmps34])]
 simp (disch := first | omega | (simp only [vlen]; omega)) only [vall, reduceCtorEq, ↓reduceIte, zq0, zq1, zq2, zq3, zq4, zq5, zq6, zq7, zq8, zq9, zq10, zq11, zq12, zq13, zq14, zq15, zq16, zq17, en34, h, lp34_2]
 exact ⟨_, rfl⟩)
theorem ik43 (H : Hp) : isoK E (callT E) 43 [.agg [.i (.v (.int .u8 66)), .i (.v (.int .u8 66))], .i (.v (.int .i64 (0)))] H = some (.i (.v (.bool (true))), H) :=
 isoK_ext (show E.ext 43 = some extSets from rfl) rfl rfl ⟨[], rfl⟩
set_option linter.defProp false in
def lp68_2 := show ∀ B fr H, execT E B 68 (Code.loop _) fr H = rlG E B 68 (loopAt Tryz.f68 0) (gcn B (norm [0, 1, 7, 8] fr) H) from fun B fr H => rl_intro rfl mt68_2 mb68_2 zf68_2 hd68_2 fr H
theorem l68 (x : AV) : rl E 0 68 (loopAt Tryz.f68 0) [(0, .i (.sl 1 [] false)), (1, .clo (.func 46) [] []), (7, .i (.v (.int .i64 (0)))), (8, .i (.v (.int .i64 (0))))] [] = some (.exit 0, [(0, .i (.sl 1 [] false)), (1, .clo (.func 46) [] []), (7, .i (.v (.int .i64 (0)))), (8, .i (.v (.int .i64 (0)))), (9, .i (.v (.bool (false))))], []) := by
 rw [rl_step (fn := Tryz.f68) (k := 0) rfl]
 simp (disch := first | omega | (simp only [vlen]; omega)) only [vall, reduceCtorEq, ↓reduceIte, zq0, zq1, zq2, zq3, zq4, zq5, zq6, zq7, zq8, zq9, zq10, zq11, zq12, zq13, zq14, zq15, zq16, zq17, en68, bs23, bs52, lp68_2]
theorem ik68 (H : Hp) : isoK E (callT E) 68 [.i (.sl 1 [] false), .clo (.func 46) [] []] H = some (.i (.v (.int .i64 (-1))), H) := isoK_val rfl rfl rfl (by
 have h := l68 .dead
 rw [callT_eq Tryz.func68 rfl fok68 (by simp [Tryz.ntmps68])]
 simp (disch := first | omega | (simp only [vlen]; omega)) only [vall, reduceCtorEq, ↓reduceIte, zq0, zq1, zq2, zq3, zq4, zq5, zq6, zq7, zq8, zq9, zq10, zq11, zq12, zq13, zq14, zq15, zq16, zq17, en68, bs23, bs52, h, lp68_2]
 exact ⟨_, rfl⟩)
theorem ik45 (H : Hp) : isoK E (callT E) 45 [.i (.sl 1 [] false), .clo (.func 46) [] []] H = some (.i (.v (.bool (false))), H) := isoK_val rfl rfl rfl (by
 rw [callT_eq Tryz.func45 rfl fok45 (by simp [Tryz.ntmps45])]
 simp (disch := first | omega | (simp only [vlen]; omega)) only [vall, reduceCtorEq, ↓reduceIte, zq0, zq1, zq2, zq3, zq4, zq5, zq6, zq7, zq8, zq9, zq10, zq11, zq12, zq13, zq14, zq15, zq16, zq17, en45, bs23, ik68]
 exact ⟨_, rfl⟩)
theorem c19 (w h : Nat) (hw : 1 ≤ w ∧ w ≤ 132) (hh : 1 ≤ h ∧ h ≤ 60) (g g2 : List (List UInt8)) (hg : g.length = h) (hk : okGr w g) (hg2 : g2.length = h) (hk2 : okGr w g2) (tB : List (List IV)) (ht : tB.length = w) (r c : Nat) (p : Bool) (hr : r < h) (hc : c < w) (hp : p = true → c + 1 = w) :
  ∃ L, callT E 19 [.agg [.i (.v (.int .i64 (w))), .i (.v (.int .i64 (h))), .i (.sl 1 (gridR g) false), .i (.v (.int .i64 (w))), .i (.v (.int .i64 (h))), .i (.sl 1 (gridR g2) false), .i (.v (.int .i64 (r))), .i (.v (.int .i64 (c))), .i (.v (.bool (p))), .i (.v (.int .i64 0)), .i (.v (.int .i64 0)), .i (.v (.bool false)), .i (.v (.int .i64 (-1))), .i (.v (.int .i64 (-1))), .i (.v (.int .i64 0)), .i (.v (.bool false)), .i (.v (.int .u8 66)), .i (.v (.int .u8 66)), .i (.v (.int .i64 0)), .i (.v (.int .i64 (-1))), .i (.v (.int .i64 (-1))), .i (.v (.int .i64 0)), .i (.v (.bool false)), .i (.v (.bool false)), .i (.v (.bool false)), .i (.v (.bool false)), .i (.v (.bool true)), .i (.v (.bool true)), .i (.v (.bool false)), .i (.v (.bool false)), .i (.v (.int .u8 66)), .i (.v (.int .u8 66)), .i (.v (.int .i64 0)), .i (.v (.int .i64 0)), .i (.v (.int .i64 (h))), .i (.sl 1 tB false), .i (.sl 1 [] false), .i (.v (.int .i64 0)), .i (.str []), .i (.str []), .i (.str []), .i (.str [])]] [] = some (.i (.v (.int .i64 (0))), L) := by
 have e1 := fun H => ik41 w h hw hh g hg hk H
 have e2 := fun H => ik41 w h hw hh g2 hg2 hk2 H
 have e3 := fun R H => ik42 w h r c p hr hc hp hw.2 hh.2 R H
 have e4 := fun R H => ik42 w h 0 0 false (by omega) (by omega) (fun h => by cases h) hw.2 hh.2 R H
 simp only [Int.natCast_zero] at e4
 generalize gridR g = x at *
 generalize gridR g2 = y at *
 have htl : (tB.length : Int) = w := by omega
 obtain ⟨h1, h2⟩ := hh
 rw [callT_eq Tryz.func19 rfl fok19 (by simp [Tryz.ntmps19])]
 simp (disch := first | omega | (simp only [vlen]; omega)) only [vall, reduceCtorEq, ↓reduceIte, zq0, zq1, zq2, zq3, zq4, zq5, zq6, zq7, zq8, zq9, zq10, zq11, zq12, zq13, zq14, zq15, zq16, zq17, en19, bs23, bs35, e1, e2, e3, e4, htl, ik34, ik43, ik44_0, ik45]
 exact ⟨_, rfl⟩
end Go.VI

set_option linter.unusedSimpArgs false
set_option linter.unusedVariables false
set_option maxRecDepth 100000
set_option maxHeartbeats 8000000
namespace Go.VI
open Go.Proofs
theorem and32 (n : Nat) (h : n < 1000) : bitsE .and .u64 (n : Int) 4294967295 = some (n : Int) := by
 have key : ∀ n : Nat, n < 1000 → bitsE .and .u64 (n : Int) 4294967295 = some (n : Int) := by decide +kernel
 exact key n h
theorem and32_1 : bitsE .and .u64 1 4294967295 = some 1 := and32 1 (by decide)
theorem and32_0 : bitsE .and .u64 0 4294967295 = some 0 := and32 0 (by decide)
theorem shr32 (n : Nat) (h : n < 1000) : Int.fdiv (n : Int) (2 ^ min 32 IntKind.u64.bits) = 0 := by
 have key : ∀ n : Nat, n < 1000 → Int.fdiv (n : Int) (2 ^ min 32 IntKind.u64.bits) = 0 := by decide +kernel
 exact key n h
theorem c220 (n : Nat) (h : n < 1000) : ∃ L, callT E 220 [.i (.v (.int .u64 (1))), .i (.v (.int .u64 (n)))] [] = some (.tup [.i (.v (.int .u64 (0))), .i (.v (.int .u64 (n)))], L) := by
 have e1 := and32 n h
 have e2 := shr32 n h
 have e3 := shr32 1 (by decide)
 have e4 := shr32 0 (by decide)
 simp only [Int.natCast_zero, Int.natCast_one] at e3 e4
 rw [callT_eq Tryz.func220 rfl fok220 (by simp [Tryz.ntmps220])]
 simp (disch := first | omega | (simp only [vlen]; omega)) only [vall, reduceCtorEq, ↓reduceIte, zq0, zq1, zq2, zq3, zq4, zq5, zq6, zq7, zq8, zq9, zq10, zq11, zq12, zq13, zq14, zq15, zq16, zq17, en220, e1, e2, e3, e4, and32_1, and32_0, Int.one_mul, Int.mul_zero, Int.zero_mul, Int.zero_add, Int.add_zero]
 exact ⟨_, rfl⟩
theorem ik220 (n : Nat) (h : n < 1000) (H : Hp) : isoK E (callT E) 220 [.i (.v (.int .u64 (1))), .i (.v (.int .u64 (n)))] H = some (.tup [.i (.v (.int .u64 (0))), .i (.v (.int .u64 (n)))], H) := isoK_val rfl rfl rfl (c220 n h)
theorem c208 (n : Nat) (h : n < 1000) : ∃ L, callT E 208 [.i (.v (.int .u64 (1))), .i (.v (.int .u64 (n)))] [] = some (.tup [.i (.v (.int .u64 (0))), .i (.v (.int .u64 (n)))], L) := by
 have e := fun H => ik220 n h H
 rw [callT_eq Tryz.func208 rfl fok208 (by simp [Tryz.ntmps208])]
 simp (disch := first | omega | (simp only [vlen]; omega)) only [vall, reduceCtorEq, ↓reduceIte, zq0, zq1, zq2, zq3, zq4, zq5, zq6, zq7, zq8, zq9, zq10, zq11, zq12, zq13, zq14, zq15, zq16, zq17, en208, e]
 exact ⟨_, rfl⟩
theorem ik208 (n : Nat) (h : n < 1000) (H : Hp) : isoK E (callT E) 208 [.i (.v (.int .u64 (1))), .i (.v (.int .u64 (n)))] H = some (.tup [.i (.v (.int .u64 (0))), .i (.v (.int .u64 (n)))], H) := isoK_val rfl rfl rfl (c208 n h)
def zcell : List IV := [.str [], .v (.int .i64 0), .v (.int .i64 0), .v (.int .i64 0), .v (.int .i64 0)]
def sp (n : Nat) : List UInt8 := List.replicate n 32
def rpL (n c : Nat) : List (List IV) := rowC (sp c) ++ List.replicate (n - c) zcell
theorem sp_len (n : Nat) : (sp n).length = n := List.length_replicate
theorem rowC_sp (n : Nat) : rowC (sp n) = List.replicate n (cellR [32]) := by simp [rowC, sp]
theorem rpL_len {n c : Nat} (h : c ≤ n) : (rpL n c).length = n := by rw [rpL, List.length_append, rowC_len, sp_len, List.length_replicate]; omega
theorem rpL_take (n c : Nat) : (rpL n c).take c = rowC (sp c) := by
 rw [rpL, List.take_append_of_le_length (by rw [rowC_len, sp_len]; exact Nat.le_refl _), List.take_of_length_le (by rw [rowC_len, sp_len]; exact Nat.le_refl _)]
theorem rpL_next {n c : Nat} (h : c ≤ n) : rowC (sp c) ++ ((rowC (sp c)).take (n - c) ++ (rpL n c).drop (c + min c (n - c))) = rpL n (c + min c (n - c)) := by
 have e1 : (rowC (sp c)).take (n - c) = List.replicate (min c (n - c)) (cellR [32]) := by rw [rowC_sp, List.take_replicate, Nat.min_comm]
 have e2 : (rpL n c).drop (c + min c (n - c)) = List.replicate (n - (c + min c (n - c))) zcell := by
  rw [rpL, rowC_sp, List.drop_append, List.length_replicate, List.drop_replicate, List.drop_replicate]
  rw [show c - (c + min c (n - c)) = 0 by omega, show n - c - (c + min c (n - c) - c) = n - (c + min c (n - c)) by omega]
  rfl
 rw [e1, e2, rpL, rowC_sp, rowC_sp, ← List.append_assoc, List.replicate_append_replicate]
theorem rpL_full (n : Nat) : rpL n n = rowC (sp n) := by rw [rpL, Nat.sub_self, List.replicate_zero, List.append_nil]
set_option linter.defProp false in
def lp178_8 := show ∀ B fr H, execT E B 178 (Code.loop _) fr H = rlM E B 178 (loopAt Tryz.f178 0) [7, 8] [] (matF [(7, 5)] fr H).1 (matB [] (matF [(7, 5)] fr H).1 (matF [(7, 5)] fr H).2) from fun B fr H => rl_introM rfl mt178_8 mb178_8 zf178_8 hd178_8 fr H
theorem l178 (n : Nat) (hn : n ≤ 132) : ∀ (d c : Nat), n - c ≤ d → 1 ≤ c → c ≤ n →
  rl E 0 178 (loopAt Tryz.f178 0) [(7, .ref 0 0 0 n), (8, .i (.v (.int .i64 (c))))] [.sl 5 0 (rpL n c) false] =
   some (.exit 0, [(7, .ref 0 0 0 n), (8, .i (.v (.int .i64 (n)))), (37, .i (.v (.bool (false))))], [.sl 5 0 (rowC (sp n)) false]) := by
 intro d
 induction d with
 | zero =>
  intro c h1 h2 h3
  obtain rfl : c = n := by omega
  rw [rpL_full]
  have hl := rowC_len (sp c)
  rw [sp_len] at hl
  rw [rl_step (fn := Tryz.f178) (k := 0) rfl]
  simp (disch := first | omega | (simp only [vlen, hl]; omega)) only [vall, reduceCtorEq, ↓reduceIte, zq0, zq1, zq2, zq3, zq4, zq5, zq6, zq7, zq8, zq9, zq10, zq11, zq12, zq13, zq14, zq15, zq16, zq17, en178, bs52, lp178_8]
 | succ d ih =>
  intro c h1 h2 h3
  by_cases hc : c = n
  ·exact ih c (by omega) h2 h3
  ·have e := ih (c + min c (n - c)) (by omega) (by omega) (by omega)
   have ht := rpL_take n c
   have hx := rpL_next h3
   have hl := rpL_len h3
   have hl2 : (rowC (sp c)).length = c := by rw [rowC_len, sp_len]
   have hlt : c < n := by omega
   have hmin : ((c + min c (n - c) : Nat) : Int) = (c : Int) + ((min c (n - c) : Nat) : Int) := Int.natCast_add _ _
   have hmb : min c (n - c) ≤ 132 := by omega
   refine Eq.trans ?_ e
   clear e ih
   generalize rpL n (c + min c (n - c)) = y at *
   generalize rpL n c = x at *
   generalize rowC (sp c) = z at *
   generalize hq : min c (n - c) = q at *
   rw [rl_step (fn := Tryz.f178) (k := 0) rfl]
   simp (disch := first | omega | (simp only [vlen, hl, hl2]; omega)) only [vall, reduceCtorEq, ↓reduceIte, zq0, zq1, zq2, zq3, zq4, zq5, zq6, zq7, zq8, zq9, zq10, zq11, zq12, zq13, zq14, zq15, zq16, zq17, en178, bs52, ht, hx, hl2, hmin, hq, Nat.sub_zero, lp178_8]
theorem c178 (n : Nat) (h0 : 1 ≤ n) (hn : n ≤ 132) : ∃ L, callT E 178 [.i (.sl 5 [[.str [32], .v (.int .i64 1), .v (.int .i64 (-1)), .v (.int .i64 (-1)), .v (.int .i64 0)]] false), .i (.v (.int .i64 (n)))] [] = some (.i (.sl 5 (rowC (sp n)) false), L) := by
 have e := fun H => ik208 n (by omega) H
 have h := l178 n hn n 1 (by omega) (Nat.le_refl _) h0
 have hl := rowC_len (sp n)
 rw [sp_len] at hl
 have hx : [IV.str [32], .v (.int .i64 1), .v (.int .i64 (-1)), .v (.int .i64 (-1)), .v (.int .i64 0)] :: (List.replicate n zcell).drop 1 = rpL n 1 := by
  rw [rpL, List.drop_replicate]; rfl
 have hz : List.replicate n [IV.str [], .v (.int .i64 0), .v (.int .i64 0), .v (.int .i64 0), .v (.int .i64 0)] = List.replicate n zcell := rfl
 have ht : [[IV.str [32], .v (.int .i64 1), .v (.int .i64 (-1)), .v (.int .i64 (-1)), .v (.int .i64 0)]].take n = [[IV.str [32], .v (.int .i64 1), .v (.int .i64 (-1)), .v (.int .i64 (-1)), .v (.int .i64 0)]] := List.take_of_length_le (by simpa using h0)
 have hm : min 1 n = 1 := by omega
 simp only [Int.natCast_one] at h
 generalize rpL n 1 = x at *
 generalize rowC (sp n) = y at *
 have hw : IntKind.u64.wrap (n : Int) = n := w_u64 (by omega) (by omega)
 rw [callT_eq Tryz.func178 rfl fok178 (by simp [Tryz.ntmps178])]
 simp (disch := first | omega | (simp only [vlen, hl]; omega)) only [vall, reduceCtorEq, ↓reduceIte, zq0, zq1, zq2, zq3, zq4, zq5, zq6, zq7, zq8, zq9, zq10, zq11, zq12, zq13, zq14, zq15, zq16, zq17, en178, bs52, e, h, hx, hz, ht, hm, hw, hl, Nat.sub_zero, lp178_8]
 exact ⟨_, rfl⟩
theorem ik178 (n : Nat) (h0 : 1 ≤ n) (hn : n ≤ 132) (H : Hp) : isoK E (callT E) 178 [.i (.sl 5 [[.str [32], .v (.int .i64 1), .v (.int .i64 (-1)), .v (.int .i64 (-1)), .v (.int .i64 0)]] false), .i (.v (.int .i64 (n)))] H = some (.i (.sl 5 (rowC (sp n)) false), H) := isoK_val rfl rfl rfl (c178 n h0 hn)
theorem ik125 (H : Hp) : isoK E (callT E) 125 [.i (.v (.int .i64 (-1)))] H = some (.agg [.i (.str [32]), .i (.v (.int .i64 (1))), .i (.v (.int .i64 (-1))), .i (.v (.int .i64 (-1))), .i (.v (.int .i64 (0)))], H) := isoK_val rfl rfl rfl (by
 rw [callT_eq Tryz.func125 rfl fok125 (by simp [Tryz.ntmps125])]
 simp (disch := first | omega | (simp only [vlen]; omega)) only [vall, reduceCtorEq, ↓reduceIte, zq0, zq1, zq2, zq3, zq4, zq5, zq6, zq7, zq8, zq9, zq10, zq11, zq12, zq13, zq14, zq15, zq16, zq17, en125]
 exact ⟨_, rfl⟩)
theorem ik107 (n : Nat) (h0 : 1 ≤ n) (hn : n ≤ 132) (H : Hp) : isoK E (callT E) 107 [.i (.v (.int .i64 (n))), .i (.v (.int .i64 (-1)))] H = some (.i (.sl 5 (rowC (sp n)) false), H) := isoK_val rfl rfl rfl (by
 have e := fun H => ik178 n h0 hn H
 rw [callT_eq Tryz.func107 rfl fok107 (by simp [Tryz.ntmps107])]
 simp (disch := first | omega | (simp only [vlen]; omega)) only [vall, reduceCtorEq, ↓reduceIte, zq0, zq1, zq2, zq3, zq4, zq5, zq6, zq7, zq8, zq9, zq10, zq11, zq12, zq13, zq14, zq15, zq16, zq17, en107, bs52, e, ik125]
 exact ⟨_, rfl⟩)
theorem ik61 (n : Nat) (h0 : 1 ≤ n) (hn : n ≤ 132) (H : Hp) : isoK E (callT E) 61 [.i (.v (.int .i64 (n))), .agg [.i (.v (.int .i64 (-1))), .i (.v (.int .i64 (-1))), .i (.v (.int .i64 0))]] H = some (.i (.sl 5 (rowC (sp n)) false), H) := isoK_val rfl rfl rfl (by
 have e := fun H => ik107 n h0 hn H
 rw [callT_eq Tryz.func61 rfl fok61 (by simp [Tryz.ntmps61])]
 simp (disch := first | omega | (simp only [vlen]; omega)) only [vall, reduceCtorEq, ↓reduceIte, zq0, zq1, zq2, zq3, zq4, zq5, zq6, zq7, zq8, zq9, zq10, zq11, zq12, zq13, zq14, zq15, zq16, zq17, en61, e]
 exact ⟨_, rfl⟩)
theorem c60 (n : Nat) (h0 : 1 ≤ n) (hn : n ≤ 132) : ∃ L, callT E 60 [.ptr 0 0 0 0, .ptr 1 0 0 0] [.box [.i (.v (.int .i64 (n)))], .box [.i (.v (.int .i64 (-1))), .i (.v (.int .i64 (-1))), .i (.v (.int .i64 0))]] = some (.i (.sl 5 (rowC (sp n)) false), .box [.i (.v (.int .i64 (n)))] :: .box [.i (.v (.int .i64 (-1))), .i (.v (.int .i64 (-1))), .i (.v (.int .i64 0))] :: L) := by
 have e := fun H => ik61 n h0 hn H
 rw [callT_eq Tryz.func60 rfl fok60 (by simp [Tryz.ntmps60])]
 simp (disch := first | omega | (simp only [vlen]; omega)) only [vall, reduceCtorEq, ↓reduceIte, zq0, zq1, zq2, zq3, zq4, zq5, zq6, zq7, zq8, zq9, zq10, zq11, zq12, zq13, zq14, zq15, zq16, zq17, en60, e]
 exact ⟨_, rfl⟩
theorem ik60 (n : Nat) (h0 : 1 ≤ n) (hn : n ≤ 132) (A B C : Chunk) : isoK E (callT E) 60 [.ptr 1 0 0 0, .ptr 2 0 0 0] [A, .box [.i (.v (.int .i64 (n)))], .box [.i (.v (.int .i64 (-1))), .i (.v (.int .i64 (-1))), .i (.v (.int .i64 0))], B, C] = some (.i (.sl 5 (rowC (sp n)) false), [A, .box [.i (.v (.int .i64 (n)))], .box [.i (.v (.int .i64 (-1))), .i (.v (.int .i64 (-1))), .i (.v (.int .i64 0))], B, C]) := by
 obtain ⟨L, h⟩ := c60 n h0 hn
 unfold isoK
 simp [exCl, xn60, refsL, refsA, reach, Chunk.refs, renL, renA, posIn, Chunk.ren, h, backRen, setAll]
theorem c29 (n : Nat) : callT E 29 [.i (.v (.int .i64 (n))), .agg [.i (.v (.int .i64 (-1))), .i (.v (.int .i64 (-1))), .i (.v (.int .i64 0))]] [] = some (.clo (.func 60) [] [.ptr 0 0 0 0, .ptr 1 0 0 0], [.box [.i (.v (.int .i64 (n)))], .box [.i (.v (.int .i64 (-1))), .i (.v (.int .i64 (-1))), .i (.v (.int .i64 0))]]) := by
 rw [callT_eq Tryz.func29 rfl fok29 (by simp [Tryz.ntmps29])]
 simp (disch := first | omega | (simp only [vlen]; omega)) only [vall, reduceCtorEq, ↓reduceIte, zq0, zq1, zq2, zq3, zq4, zq5, zq6, zq7, zq8, zq9, zq10, zq11, zq12, zq13, zq14, zq15, zq16, zq17, en29]
theorem ik29 (n : Nat) (X : Chunk) : isoK E (callT E) 29 [.i (.v (.int .i64 (n))), .agg [.i (.v (.int .i64 (-1))), .i (.v (.int .i64 (-1))), .i (.v (.int .i64 0))]] [X] = some (.clo (.func 60) [] [.ptr 1 0 0 0, .ptr 2 0 0 0], [X, .box [.i (.v (.int .i64 (n)))], .box [.i (.v (.int .i64 (-1))), .i (.v (.int .i64 (-1))), .i (.v (.int .i64 0))]]) := by
 have h := c29 n
 unfold isoK
 simp [exCl, xn29, refsL, refsA, reach, Chunk.refs, renL, renA, posIn, Chunk.ren, h, backRen, setAll]
theorem ik30 (H : Hp) : isoK E (callT E) 30 [] H = some (.agg [.i (.v (.int .i64 (-1))), .i (.v (.int .i64 (-1))), .i (.v (.int .i64 0))], H) := isoK_val rfl rfl rfl (by
 rw [callT_eq Tryz.func30 rfl fok30 (by simp [Tryz.ntmps30])]
 simp (disch := first | omega | (simp only [vlen]; omega)) only [vall, reduceCtorEq, ↓reduceIte, zq0, zq1, zq2, zq3, zq4, zq5, zq6, zq7, zq8, zq9, zq10, zq11, zq12, zq13, zq14, zq15, zq16, zq17, en30]
 exact ⟨_, rfl⟩)
def blG (w h : Nat) : List (List UInt8) := List.replicate h (sp w)
theorem gridR_bl (w k : Nat) : gridR (blG w k) ++ [[.sl 5 (rowC (sp w)) false]] = gridR (blG w (k + 1)) := by
 simp [gridR, blG, List.replicate_succ']
theorem blG_len (w k : Nat) : (gridR (blG w k)).length = k := by simp [gridR, blG]
set_option linter.defProp false in
def lp10_7 := show ∀ B fr H, execT E B 10 (Code.loop _) fr H = rlM E B 10 (loopAt Tryz.f10 0) [4, 7, 8, 22, 23] [] (matF [] fr H).1 (matB [(8, 2, 1)] (matF [] fr H).1 (matF [] fr H).2) from fun B fr H => rl_introM rfl mt10_7 mb10_7 zf10_7 hd10_7 fr H
theorem l10 (w h : Nat) (hw : 1 ≤ w ∧ w ≤ 132) (hh : h ≤ 60) : ∀ (m k : Nat), k + m = h →
  rl E 0 10 (loopAt Tryz.f10 0) [(4, .ptr 0 0 0 0), (7, .clo (.func 60) [] [.ptr 1 0 0 0, .ptr 2 0 0 0]), (8, .ptr 3 0 0 0), (22, .i (.v (.int .i64 (h)))), (23, .i (.v (.int .i64 (k))))] [.box [.i (.v (.int .i64 0)), .i (.v (.int .i64 0)), .i (.sl 0 [] true)], .box [.i (.v (.int .i64 (w)))], .box [.i (.v (.int .i64 (-1))), .i (.v (.int .i64 (-1))), .i (.v (.int .i64 0))], .box [.i (.v (.int .i64 (w))), .i (.v (.int .i64 (h))), .ref 4 0 0 (k)], .sl 1 0 (gridR (blG (w) (k))) false] =
   some (.exit 0, [(4, .ptr 0 0 0 0), (7, .clo (.func 60) [] [.ptr 1 0 0 0, .ptr 2 0 0 0]), (8, .ptr 3 0 0 0), (22, .i (.v (.int .i64 (h)))), (23, .i (.v (.int .i64 (h)))), (24, .i (.v (.bool (false))))], [.box [.i (.v (.int .i64 0)), .i (.v (.int .i64 0)), .i (.sl 0 [] true)], .box [.i (.v (.int .i64 (w)))], .box [.i (.v (.int .i64 (-1))), .i (.v (.int .i64 (-1))), .i (.v (.int .i64 0))], .box [.i (.v (.int .i64 (w))), .i (.v (.int .i64 (h))), .ref 4 0 0 (h)], .sl 1 0 (gridR (blG (w) (h))) false]) := by
 intro m
 induction m with
 | zero =>
  intro k hk
  obtain rfl : k = h := by omega
  rw [rl_step (fn := Tryz.f10) (k := 0) rfl]
  simp (disch := first | omega | (simp only [vlen, blG_len]; omega)) only [vall, reduceCtorEq, ↓reduceIte, zq0, zq1, zq2, zq3, zq4, zq5, zq6, zq7, zq8, zq9, zq10, zq11, zq12, zq13, zq14, zq15, zq16, zq17, en10, bs23, blG_len, lp10_7]
 | succ m ih =>
  intro k hk
  have e := ih (k + 1) (by omega)
  have hb := fun A B C => ik60 w hw.1 hw.2 A B C
  have hs := gridR_bl w k
  have hl := blG_len w k
  refine Eq.trans ?_ e
  clear e ih
  generalize gridR (blG w (k + 1)) = y at *
  generalize gridR (blG w k) = x at *
  generalize rowC (sp w) = z at *
  rw [rl_step (fn := Tryz.f10) (k := 0) rfl]
  simp (disch := first | omega | (simp only [vlen, hl]; omega)) only [vall, reduceCtorEq, ↓reduceIte, zq0, zq1, zq2, zq3, zq4, zq5, zq6, zq7, zq8, zq9, zq10, zq11, zq12, zq13, zq14, zq15, zq16, zq17, en10, bs23, ca60, hb, hs, hl, lp10_7]
end Go.VI

set_option linter.unusedSimpArgs false
set_option linter.unusedVariables false
set_option maxRecDepth 100000
set_option maxHeartbeats 8000000
namespace Go.VI
open Go.Proofs
theorem c10 (w h : Nat) (hw : 1 ≤ w ∧ w ≤ 132) (hh : 1 ≤ h ∧ h ≤ 60) : ∃ L, callT E 10 [.i (.v (.int .i64 (w))), .i (.v (.int .i64 (h)))] [] = some (.tup [.agg [.i (.v (.int .i64 (w))), .i (.v (.int .i64 (h))), .i (.sl 1 (gridR (blG w h)) false)], .i (.v (.int .i64 (0)))], L) := by
 have e1 := fun H => ik28 w h hw hh H
 have e2 := fun X => ik29 w X
 have hl := l10 w h hw hh.2 h 0 (by omega)
 have h' : rl E 0 10 (loopAt Tryz.f10 0) [(4, .ptr 0 0 0 0), (7, .clo (.func 60) [] [.ptr 1 0 0 0, .ptr 2 0 0 0]), (8, .ptr 3 0 0 0), (22, .i (.v (.int .i64 (h)))), (23, .i (.v (.int .i64 (0))))] [.box [.i (.v (.int .i64 0)), .i (.v (.int .i64 0)), .i (.sl 0 [] true)], .box [.i (.v (.int .i64 (w)))], .box [.i (.v (.int .i64 (-1))), .i (.v (.int .i64 (-1))), .i (.v (.int .i64 0))], .box [.i (.v (.int .i64 (w))), .i (.v (.int .i64 (h))), .ref 4 0 0 0], .sl 1 0 [] false] = _ := hl
 clear hl
 have hbl := blG_len w h
 generalize gridR (blG w h) = x at *
 rw [callT_eq Tryz.func10 rfl fok10 (by simp [Tryz.ntmps10])]
 simp (disch := first | omega | (simp only [vlen, hbl]; omega)) only [vall, reduceCtorEq, ↓reduceIte, zq0, zq1, zq2, zq3, zq4, zq5, zq6, zq7, zq8, zq9, zq10, zq11, zq12, zq13, zq14, zq15, zq16, zq17, en10, bs23, e1, e2, h', hbl, ik30, lp10_7]
 exact ⟨_, rfl⟩
theorem ik10 (w h : Nat) (hw : 1 ≤ w ∧ w ≤ 132) (hh : 1 ≤ h ∧ h ≤ 60) (H : Hp) : isoK E (callT E) 10 [.i (.v (.int .i64 (w))), .i (.v (.int .i64 (h)))] H = some (.tup [.agg [.i (.v (.int .i64 (w))), .i (.v (.int .i64 (h))), .i (.sl 1 (gridR (blG w h)) false)], .i (.v (.int .i64 (0)))], H) := isoK_val rfl rfl rfl (c10 w h hw hh)
theorem ik11 (H : Hp) : isoK E (callT E) 11 [] H = some (.agg [.i (.v (.int .i64 (-1))), .i (.v (.int .i64 (-1))), .i (.v (.int .i64 0))], H) := isoK_val rfl rfl rfl (by
 rw [callT_eq Tryz.func11 rfl fok11 (by simp [Tryz.ntmps11])]
 simp (disch := first | omega | (simp only [vlen]; omega)) only [vall, reduceCtorEq, ↓reduceIte, zq0, zq1, zq2, zq3, zq4, zq5, zq6, zq7, zq8, zq9, zq10, zq11, zq12, zq13, zq14, zq15, zq16, zq17, en11]
 exact ⟨_, rfl⟩)
theorem ik12 (H : Hp) : isoK E (callT E) 12 [] H = some (.agg [.i (.v (.bool (false))), .i (.v (.bool (false))), .i (.v (.bool (false))), .i (.v (.bool (false))), .i (.v (.bool (true))), .i (.v (.bool (true))), .i (.v (.bool (false))), .i (.v (.bool (false))), .i (.v (.int .u8 66)), .i (.v (.int .u8 66)), .i (.v (.int .i64 (0)))], H) := isoK_val rfl rfl rfl (by
 rw [callT_eq Tryz.func12 rfl fok12 (by simp [Tryz.ntmps12])]
 simp (disch := first | omega | (simp only [vlen]; omega)) only [vall, reduceCtorEq, ↓reduceIte, zq0, zq1, zq2, zq3, zq4, zq5, zq6, zq7, zq8, zq9, zq10, zq11, zq12, zq13, zq14, zq15, zq16, zq17, en12]
 exact ⟨_, rfl⟩)
def tabL (w k : Nat) : List (List IV) := (List.range w).map fun i => [.v (.bool (decide (i < k) && decide (Int.tmod (i : Int) 8 = 0)))]
theorem tabL_len (w k : Nat) : (tabL w k).length = w := by simp [tabL]
theorem tabL_0 (w : Nat) : List.replicate w [IV.v (.bool false)] = tabL w 0 := by
 apply List.ext_getElem?
 intro i
 by_cases h : i < w
 ·rw [List.getElem?_replicate, if_pos h]; simp [tabL, h]
 ·rw [List.getElem?_replicate, if_neg h]; simp [tabL, h]
theorem tabL_at {w k : Nat} (h : k < w) : (tabL w k)[k]? = some [.v (.bool false)] := by simp [tabL, h]
theorem tabL_set {w k : Nat} (h : k < w) : (tabL w k).set k [.v (.bool (decide (Int.tmod (k : Int) 8 = 0)))] = tabL w (k + 1) := by
 apply List.ext_getElem?
 intro i
 by_cases hi : i = k
 ·subst hi
  rw [List.getElem?_set_self (by rw [tabL_len]; exact h)]
  simp [tabL, h]
 ·rw [List.getElem?_set_ne (Ne.symm hi)]
  by_cases hw : i < w
  ·have : decide (i < k) = decide (i < k + 1) := by by_cases h1 : i < k <;> simp [h1] <;> omega
   simp [tabL, hw, this]
  ·simp [tabL, hw]
set_option linter.defProp false in
def lp13_3 := show ∀ B fr H, execT E B 13 (Code.loop _) fr H = rlG E B 13 (loopAt Tryz.f13 0) (gcn B (norm [3, 10, 11] fr) H) from fun B fr H => rl_intro rfl mt13_3 mb13_3 zf13_3 hd13_3 fr H
theorem l13 (w : Nat) (hw : w ≤ 132) : ∀ (m k : Nat), k + m = w →
  rl E 0 13 (loopAt Tryz.f13 0) [(3, .ref 0 0 0 w), (10, .i (.v (.int .i64 (w)))), (11, .i (.v (.int .i64 (k))))] [.sl 1 0 (tabL w k) false] = some (.exit 0, [(3, .ref 0 0 0 w), (10, .i (.v (.int .i64 (w)))), (11, .i (.v (.int .i64 (w)))), (12, .i (.v (.bool (false))))], [.sl 1 0 (tabL w w) false]) := by
 intro m
 induction m with
 | zero =>
  intro k hk
  obtain rfl : k = w := by omega
  rw [rl_step (fn := Tryz.f13) (k := 0) rfl]
  simp (disch := first | omega | (simp only [vlen, tabL_len]; omega)) only [vall, reduceCtorEq, ↓reduceIte, zq0, zq1, zq2, zq3, zq4, zq5, zq6, zq7, zq8, zq9, zq10, zq11, zq12, zq13, zq14, zq15, zq16, zq17, en13, bs35, tabL_len, lp13_3]
 | succ m ih =>
  intro k hk
  have e := ih (k + 1) (by omega)
  have ha := tabL_at (show k < w by omega)
  have hs := tabL_set (show k < w by omega)
  have hl := tabL_len w k
  refine Eq.trans ?_ e
  clear e ih
  generalize tabL w (k + 1) = y at *
  generalize tabL w k = x at *
  rw [rl_step (fn := Tryz.f13) (k := 0) rfl]
  simp (disch := first | omega | (simp only [vlen, hl]; omega)) only [vall, reduceCtorEq, ↓reduceIte, zq0, zq1, zq2, zq3, zq4, zq5, zq6, zq7, zq8, zq9, zq10, zq11, zq12, zq13, zq14, zq15, zq16, zq17, en13, bs35, ha, hs, hl, lp13_3]
theorem c13 (w : Nat) (hw : w ≤ 132) : ∃ L, callT E 13 [.i (.v (.int .i64 (w)))] [] = some (.i (.sl 1 (tabL w w) false), L) := by
 have h := l13 w hw w 0 (by omega)
 have h' : rl E 0 13 (loopAt Tryz.f13 0) [(3, .ref 0 0 0 w), (10, .i (.v (.int .i64 (w)))), (11, .i (.v (.int .i64 (0))))] [.sl 1 0 (tabL w 0) false] = _ := h
 clear h
 have hl := tabL_len w w
 have h0 := tabL_0 w
 generalize tabL w w = y at *
 generalize tabL w 0 = x at *
 have e1 : min (w : Int) 1000 = w := by omega
 have e2 : max (0 : Int) w = w := by omega
 rw [callT_eq Tryz.func13 rfl fok13 (by simp [Tryz.ntmps13])]
 simp (disch := first | omega | (simp only [vlen, hl]; omega)) only [vall, reduceCtorEq, ↓reduceIte, zq0, zq1, zq2, zq3, zq4, zq5, zq6, zq7, zq8, zq9, zq10, zq11, zq12, zq13, zq14, zq15, zq16, zq17, en13, bs35, h', h0, hl, e1, e2, lp13_3]
 exact ⟨_, rfl⟩
theorem ik13 (w : Nat) (hw : w ≤ 132) (H : Hp) : isoK E (callT E) 13 [.i (.v (.int .i64 (w)))] H = some (.i (.sl 1 (tabL w w) false), H) := isoK_val rfl rfl rfl (c13 w hw)
theorem c5 (w h : Nat) (hw : 1 ≤ w ∧ w ≤ 132) (hh : 1 ≤ h ∧ h ≤ 60) : ∃ L, callT E 5 [.i (.v (.int .i64 (w))), .i (.v (.int .i64 (h)))] [] = some (.tup [.agg [.i (.v (.int .i64 (w))), .i (.v (.int .i64 (h))), .i (.sl 1 (gridR (blG w h)) false), .i (.v (.int .i64 (w))), .i (.v (.int .i64 (h))), .i (.sl 1 (gridR (blG w h)) false), .i (.v (.int .i64 (0))), .i (.v (.int .i64 (0))), .i (.v (.bool (false))), .i (.v (.int .i64 0)), .i (.v (.int .i64 0)), .i (.v (.bool false)), .i (.v (.int .i64 (-1))), .i (.v (.int .i64 (-1))), .i (.v (.int .i64 0)), .i (.v (.bool false)), .i (.v (.int .u8 66)), .i (.v (.int .u8 66)), .i (.v (.int .i64 0)), .i (.v (.int .i64 (-1))), .i (.v (.int .i64 (-1))), .i (.v (.int .i64 0)), .i (.v (.bool false)), .i (.v (.bool false)), .i (.v (.bool false)), .i (.v (.bool false)), .i (.v (.bool true)), .i (.v (.bool true)), .i (.v (.bool false)), .i (.v (.bool false)), .i (.v (.int .u8 66)), .i (.v (.int .u8 66)), .i (.v (.int .i64 0)), .i (.v (.int .i64 0)), .i (.v (.int .i64 (h))), .i (.sl 1 (tabL w w) false), .i (.sl 1 [] false), .i (.v (.int .i64 0)), .i (.str []), .i (.str []), .i (.str []), .i (.str [])], .i (.v (.int .i64 (0)))], L) := by
 have e1 := fun H => ik10 w h hw hh H
 have e2 := fun H => ik13 w hw.2 H
 generalize gridR (blG w h) = x at *
 generalize tabL w w = y at *
 rw [callT_eq Tryz.func5 rfl fok5 (by simp [Tryz.ntmps5])]
 simp (disch := first | omega | (simp only [vlen]; omega)) only [vall, reduceCtorEq, ↓reduceIte, zq0, zq1, zq2, zq3, zq4, zq5, zq6, zq7, zq8, zq9, zq10, zq11, zq12, zq13, zq14, zq15, zq16, zq17, en5, e1, e2, ik11, ik12]
 exact ⟨_, rfl⟩
theorem ik5 (w h : Nat) (hw : 1 ≤ w ∧ w ≤ 132) (hh : 1 ≤ h ∧ h ≤ 60) (H : Hp) : isoK E (callT E) 5 [.i (.v (.int .i64 (w))), .i (.v (.int .i64 (h)))] H = some (.tup [.agg [.i (.v (.int .i64 (w))), .i (.v (.int .i64 (h))), .i (.sl 1 (gridR (blG w h)) false), .i (.v (.int .i64 (w))), .i (.v (.int .i64 (h))), .i (.sl 1 (gridR (blG w h)) false), .i (.v (.int .i64 (0))), .i (.v (.int .i64 (0))), .i (.v (.bool (false))), .i (.v (.int .i64 0)), .i (.v (.int .i64 0)), .i (.v (.bool false)), .i (.v (.int .i64 (-1))), .i (.v (.int .i64 (-1))), .i (.v (.int .i64 0)), .i (.v (.bool false)), .i (.v (.int .u8 66)), .i (.v (.int .u8 66)), .i (.v (.int .i64 0)), .i (.v (.int .i64 (-1))), .i (.v (.int .i64 (-1))), .i (.v (.int .i64 0)), .i (.v (.bool false)), .i (.v (.bool false)), .i (.v (.bool false)), .i (.v (.bool false)), .i (.v (.bool true)), .i (.v (.bool true)), .i (.v (.bool false)), .i (.v (.bool false)), .i (.v (.int .u8 66)), .i (.v (.int .u8 66)), .i (.v (.int .i64 0)), .i (.v (.int .i64 0)), .i (.v (.int .i64 (h))), .i (.sl 1 (tabL w w) false), .i (.sl 1 [] false), .i (.v (.int .i64 0)), .i (.str []), .i (.str []), .i (.str []), .i (.str [])], .i (.v (.int .i64 (0)))], H) := isoK_val rfl rfl rfl (c5 w h hw hh)
end Go.VI

set_option linter.unusedSimpArgs false
set_option linter.unusedVariables false
set_option maxRecDepth 100000
set_option maxHeartbeats 4000000
namespace Go.VI
open Go.Proofs
theorem divq {w q r : Nat} (h : r < w) : (w * q + r) / w = q := by
 rw [Nat.mul_add_div (by omega : 0 < w), Nat.div_eq_of_lt h, Nat.add_zero]
def chK (s : List UInt8) (k i : Nat) : UInt8 := if i < k then bt s i else 32
def rowK (w : Nat) (s : List UInt8) (k i : Nat) : List UInt8 := (List.range w).map fun j => chK s k (i * w + j)
def grK (w h : Nat) (s : List UInt8) (k : Nat) : List (List UInt8) := (List.range h).map fun i => rowK w s k i
def rK (w k : Nat) : Nat := (k - 1) / w
def cK (w k : Nat) : Nat := if k = 0 then 0 else if k % w = 0 then w - 1 else k % w
def endP (w k : Nat) : Bool := decide (k ≠ 0) && decide (k % w = 0)
theorem rowK_len (w : Nat) (s : List UInt8) (k i : Nat) : (rowK w s k i).length = w := by simp [rowK]
theorem grK_len (w h : Nat) (s : List UInt8) (k : Nat) : (grK w h s k).length = h := by simp [grK]
theorem grK_at {w h : Nat} {s : List UInt8} {k i : Nat} (hi : i < h) : gt (grK w h s k) i = rowK w s k i := by
 rw [gt_eq (by rw [grK_len]; exact hi)]; simp [grK]
theorem grK_0 (w h : Nat) (s : List UInt8) : grK w h s 0 = blG w h := by
 unfold grK blG
 apply List.ext_getElem?
 intro i
 by_cases hi : i < h
 ·rw [List.getElem?_replicate, if_pos hi]
  simp only [List.getElem?_map, List.getElem?_range hi, Option.map_some, Option.some.injEq]
  unfold rowK sp
  apply List.ext_getElem?
  intro j
  by_cases hj : j < w
  ·rw [List.getElem?_replicate, if_pos hj]; simp [hj, chK]
  ·rw [List.getElem?_replicate, if_neg hj]; simp [hj]
 ·rw [List.getElem?_replicate, if_neg hi]; simp [hi]
theorem chK_p {s : List UInt8} (hp : pL s) {k : Nat} (hk : k ≤ s.length) (i : Nat) : pA (chK s k i) := by
 unfold chK
 split
 ·rename_i h; exact pL_at hp (by omega)
 ·exact ⟨by decide, by decide⟩
theorem grK_ok {w h : Nat} {s : List UInt8} (hp : pL s) {k : Nat} (hk : k ≤ s.length) : okGr w (grK w h s k) := by
 intro l hl
 simp only [grK, List.mem_map, List.mem_range] at hl
 obtain ⟨i, _, rfl⟩ := hl
 refine ⟨rowK_len _ _ _ _, fun b hb => ?_⟩
 simp only [rowK, List.mem_map, List.mem_range] at hb
 obtain ⟨j, _, rfl⟩ := hb
 exact chK_p hp hk _
theorem mul_ne {w i r j c : Nat} (hj : j < w) (hc : c < w) (hir : i ≠ r) : i * w + j ≠ r * w + c := by
 intro e
 have h1 : (i * w + j) / w = i := by rw [Nat.mul_comm]; exact divq hj
 have h2 : (r * w + c) / w = r := by rw [Nat.mul_comm]; exact divq hc
 rw [e, h2] at h1
 exact hir h1.symm
theorem grK_set {w h : Nat} {s : List UInt8} {k r c : Nat} (hk : r * w + c = k) (hc : c < w) (hr : r < h) : (grK w h s k).set r ((gt (grK w h s k) r).set c (bt s k)) = grK w h s (k + 1) := by
 rw [grK_at hr]
 apply List.ext_getElem?
 intro i
 by_cases hi : i = r
 ·subst hi
  rw [List.getElem?_set_self (by rw [grK_len]; exact hr)]
  simp only [grK, List.getElem?_map, List.getElem?_range hr, Option.map_some, Option.some.injEq]
  apply List.ext_getElem?
  intro j
  by_cases hj : j = c
  ·subst hj
   rw [List.getElem?_set_self (by rw [rowK_len]; exact hc)]
   simp [rowK, hc, chK, hk]
  ·rw [List.getElem?_set_ne (Ne.symm hj)]
   by_cases hjw : j < w
   ·have : ¬ i * w + j = k := by omega
    have e : (i * w + j < k) = (i * w + j < k + 1) := by apply propext; omega
    simp only [rowK, List.getElem?_map, List.getElem?_range hjw, Option.map_some, chK, e]
   ·simp [rowK, hjw]
 ·rw [List.getElem?_set_ne (Ne.symm hi)]
  by_cases hih : i < h
  ·simp only [grK, List.getElem?_map, List.getElem?_range hih, Option.map_some, Option.some.injEq]
   apply List.ext_getElem?
   intro j
   by_cases hjw : j < w
   ·have h1 := mul_ne hjw hc hi
    have e : (i * w + j < k) = (i * w + j < k + 1) := by apply propext; omega
    simp only [rowK, List.getElem?_map, List.getElem?_range hjw, Option.map_some, chK, e]
   ·simp [rowK, hjw]
  ·simp [grK, hih]
theorem pos_mid {w k : Nat} (hw : 1 ≤ w) (h : k = 0 ∨ k % w ≠ 0) : rK w k * w + cK w k = k ∧ cK w k < w ∧ endP w k = false := by
 rcases h with rfl | h
 ·refine ⟨?_, ?_, rfl⟩
  ·simp [rK, cK]
  ·simp only [cK, if_true]; omega
 ·have hk : k ≠ 0 := by rintro rfl; simp at h
  have hm := Nat.mod_lt k (show 0 < w by omega)
  have hd := Nat.div_add_mod k w
  have hr : (k - 1) / w = k / w := by
   have : k - 1 = w * (k / w) + (k % w - 1) := by omega
   rw [this]; exact divq (by omega)
  refine ⟨?_, ?_, ?_⟩
  ·rw [rK, cK, if_neg hk, if_neg h, hr, Nat.mul_comm]; exact hd
  ·rw [cK, if_neg hk, if_neg h]; exact hm
  ·simp [endP, h]
theorem pos_end {w r k : Nat} (hw : 1 ≤ w) (h : k = (r + 1) * w) : rK w k = r ∧ cK w k = w - 1 ∧ endP w k = true := by
 have hk : k ≠ 0 := by rw [h, Nat.add_mul]; omega
 have hm : k % w = 0 := by rw [h]; exact Nat.mul_mod_left _ _
 have hr : (k - 1) / w = r := by
  have : k - 1 = w * r + (w - 1) := by rw [h, Nat.add_mul, Nat.mul_comm w r]; omega
  rw [this]; exact divq (by omega)
 exact ⟨hr, by rw [cK, if_neg hk, if_pos hm], by simp [endP, hk, hm]⟩
theorem pos_in {w r c k : Nat} (hc : c < w) (h0 : 0 < c) (h : k = r * w + c) : rK w k = r ∧ cK w k = c ∧ endP w k = false := by
 have hk : k ≠ 0 := by omega
 have hm : k % w = c := by rw [h, Nat.mul_comm, Nat.mul_add_mod, Nat.mod_eq_of_lt hc]
 have hr : (k - 1) / w = r := by
  have : k - 1 = w * r + (c - 1) := by rw [h, Nat.mul_comm w r]; omega
  rw [this]; exact divq (by omega)
 exact ⟨hr, by rw [cK, if_neg hk, if_neg (by rw [hm]; omega), hm], by
  have : ¬ c = 0 := by omega
  simp [endP, hm, this]⟩
end Go.VI

set_option linter.unusedSimpArgs false
set_option linter.unusedVariables false
set_option maxRecDepth 100000
set_option maxHeartbeats 8000000
namespace Go.VI
open Go.Proofs
theorem gridR_set (g : List (List UInt8)) (r : Nat) (l : List UInt8) : (gridR g).set r [.sl 5 (rowC l) false] = gridR (g.set r l) := by simp [gridR, List.map_set]
theorem do_step (w h : Nat) (hw : 1 ≤ w ∧ w ≤ 132) (hh : 1 ≤ h ∧ h ≤ 60) (s : List UInt8) (hp : pL s) (k : Nat) (hk : k < s.length) (hf : s.length ≤ w * h) (oR tB : List (List IV)) :
  ∃ L, callT E 21 [.ptr 0 0 0 0, .agg [.i (.v (.int .i64 (1))), .i (.v (.int .i32 (bt s k).toNat)), .i (.v (.int .u8 0)), .i (.v (.int .u8 0)), .i (.str []), .i (.sl 1 [] false), .i (.str [])]] (.box [.i (.v (.int .i64 (w))), .i (.v (.int .i64 (h))), .ref 1 0 0 (h), .i (.v (.int .i64 (w))), .i (.v (.int .i64 (h))), .ref 2 0 0 (h), .i (.v (.int .i64 ((rK w k : Nat)))), .i (.v (.int .i64 ((cK w k : Nat)))), .i (.v (.bool (endP w k))), .i (.v (.int .i64 0)), .i (.v (.int .i64 0)), .i (.v (.bool false)), .i (.v (.int .i64 (-1))), .i (.v (.int .i64 (-1))), .i (.v (.int .i64 0)), .i (.v (.bool false)), .i (.v (.int .u8 66)), .i (.v (.int .u8 66)), .i (.v (.int .i64 0)), .i (.v (.int .i64 (-1))), .i (.v (.int .i64 (-1))), .i (.v (.int .i64 0)), .i (.v (.bool false)), .i (.v (.bool false)), .i (.v (.bool false)), .i (.v (.bool false)), .i (.v (.bool true)), .i (.v (.bool true)), .i (.v (.bool false)), .i (.v (.bool false)), .i (.v (.int .u8 66)), .i (.v (.int .u8 66)), .i (.v (.int .i64 0)), .i (.v (.int .i64 0)), .i (.v (.int .i64 (h))), .ref 3 0 0 (w), .ref 4 0 0 0, .i (.v (.int .i64 0)), .i (.str []), .i (.str []), .i (.str []), .i (.str [])] :: .sl 1 0 (gridR (grK w h s k)) false :: .sl 1 0 oR false :: .sl 1 0 tB false :: .sl 1 0 [] false :: []) = some (.tup [], .box [.i (.v (.int .i64 (w))), .i (.v (.int .i64 (h))), .ref 1 0 0 (h), .i (.v (.int .i64 (w))), .i (.v (.int .i64 (h))), .ref 2 0 0 (h), .i (.v (.int .i64 ((rK w (k + 1) : Nat)))), .i (.v (.int .i64 ((cK w (k + 1) : Nat)))), .i (.v (.bool (endP w (k + 1)))), .i (.v (.int .i64 0)), .i (.v (.int .i64 0)), .i (.v (.bool false)), .i (.v (.int .i64 (-1))), .i (.v (.int .i64 (-1))), .i (.v (.int .i64 0)), .i (.v (.bool false)), .i (.v (.int .u8 66)), .i (.v (.int .u8 66)), .i (.v (.int .i64 0)), .i (.v (.int .i64 (-1))), .i (.v (.int .i64 (-1))), .i (.v (.int .i64 0)), .i (.v (.bool false)), .i (.v (.bool false)), .i (.v (.bool false)), .i (.v (.bool false)), .i (.v (.bool true)), .i (.v (.bool true)), .i (.v (.bool false)), .i (.v (.bool false)), .i (.v (.int .u8 66)), .i (.v (.int .u8 66)), .i (.v (.int .i64 0)), .i (.v (.int .i64 0)), .i (.v (.int .i64 (h))), .ref 3 0 0 (w), .ref 4 0 0 0, .i (.v (.int .i64 0)), .i (.str []), .i (.str []), .i (.str []), .i (.str [])] :: .sl 1 0 (gridR (grK w h s (k + 1))) false :: .sl 1 0 oR false :: .sl 1 0 tB false :: .sl 1 0 [] false :: L) := by
 have hb := pL_at hp hk
 refine do_print hb ?_
 have row := fun i (hi : i < h) => gridR_at (g := grK w h s k) (k := i) (by rw [grK_len]; exact hi)
 have rok := fun i (hi : i < h) => okGr_at (grK_ok (w := w) (h := h) hp (Nat.le_of_lt hk)) (k := i) (by rw [grK_len]; exact hi)
 by_cases hm : k = 0 ∨ k % w ≠ 0
 ·obtain ⟨e1, e2, e3⟩ := pos_mid hw.1 hm
  have hr : rK w k < h := by
   apply Decidable.byContradiction
   intro hc
   have : h * w ≤ rK w k * w := Nat.mul_le_mul_right _ (by omega)
   rw [Nat.mul_comm h w] at this; omega
  obtain ⟨r1, r2⟩ := rok _ hr
  have hs := grK_set (s := s) e1 e2 hr
  by_cases hc : cK w k + 1 < w
  ·obtain ⟨f1, f2, f3⟩ := pos_in hc (by omega) (show k + 1 = rK w k * w + (cK w k + 1) by omega)
   obtain ⟨L, h1⟩ := c51_1 w h (rK w k) (cK w k) hw hh hr hc (gridR (grK w h s k)) oR tB _ r1 r2 (row _ hr) _ hb
   rw [gridR_set, hs] at h1
   rw [e3, f1, f2, f3]
   exact ⟨L, h1⟩
  ·have hc' : cK w k + 1 = w := by omega
   obtain ⟨f1, f2, f3⟩ := pos_end hw.1 (show k + 1 = (rK w k + 1) * w by rw [Nat.add_mul]; omega)
   obtain ⟨L, h1⟩ := c51_2 w h (rK w k) (cK w k) hw hh hr hc' (gridR (grK w h s k)) oR tB _ r1 r2 (row _ hr) _ hb
   rw [gridR_set, hs] at h1
   rw [e3, f1, f2, f3, show w - 1 = cK w k by omega]
   exact ⟨L, h1⟩
 ·have hm2 : k % w = 0 := by omega
  have hk0 : k ≠ 0 := by omega
  obtain ⟨q, hq⟩ : ∃ q, k = q * w := ⟨k / w, by have := Nat.div_add_mod k w; rw [hm2, Nat.add_zero, Nat.mul_comm] at this; exact this.symm⟩
  obtain ⟨r, rfl⟩ : ∃ r, q = r + 1 := ⟨q - 1, by
   cases q with
   | zero => simp at hq; omega
   | succ q => rfl⟩
  obtain ⟨e1, e2, e3⟩ := pos_end hw.1 hq
  have hr : r + 1 < h := by
   apply Decidable.byContradiction
   intro hc
   have : h * w ≤ (r + 1) * w := Nat.mul_le_mul_right _ (by omega)
   rw [Nat.mul_comm h w] at this; omega
  obtain ⟨r1, r2⟩ := rok _ hr
  have hs := grK_set (s := s) (show (r + 1) * w + 0 = k by omega) (show 0 < w by omega) hr
  by_cases h1w : 1 < w
  ·obtain ⟨f1, f2, f3⟩ := pos_in h1w (by omega) (show k + 1 = (r + 1) * w + 1 by omega)
   obtain ⟨L, h1⟩ := c51_3 w h r (w - 1) hw hh hr (by omega) h1w (gridR (grK w h s k)) oR tB _ r1 r2 (row _ hr) _ hb
   rw [gridR_set, hs] at h1
   rw [e1, e2, e3, f1, f2, f3]
   exact ⟨L, h1⟩
  ·obtain rfl : w = 1 := by omega
   obtain ⟨f1, f2, f3⟩ := pos_end (Nat.le_refl 1) (show k + 1 = (r + 1 + 1) * 1 by omega)
   obtain ⟨L, h1⟩ := c51_4 h r hh hr (gridR (grK 1 h s k)) oR tB _ r1 r2 (row _ hr) _ hb
   rw [gridR_set, hs] at h1
   rw [e1, e2, e3, f1, f2, f3]
   exact ⟨L, h1⟩
theorem isoK_mB {f : Nat} {ar A B C D A' B' C' D' : List AV} {r : AV} {n1 n2 n3 n4 n1' n2' n3' n4' : Nat} {R1 R2 R3 R4 R1' R2' R3' R4' : List (List IV)} (he : E.ext f = none) (ha : refsL ar = []) (hr : refsA r = [])
  (hA : refsL A = []) (hB : refsL B = []) (hC : refsL C = []) (hD : refsL D = []) (hA' : refsL A' = []) (hB' : refsL B' = []) (hC' : refsL C' = []) (hD' : refsL D' = [])
  (h : ∃ L, callT E f (.ptr 0 0 0 0 :: ar) [.box (A ++ .ref 1 0 0 n1 :: (B ++ .ref 2 0 0 n2 :: (C ++ .ref 3 0 0 n3 :: .ref 4 0 0 n4 :: D))), .sl 1 0 R1 false, .sl 1 0 R2 false, .sl 1 0 R3 false, .sl 1 0 R4 false] =
   some (r, .box (A' ++ .ref 1 0 0 n1' :: (B' ++ .ref 2 0 0 n2' :: (C' ++ .ref 3 0 0 n3' :: .ref 4 0 0 n4' :: D'))) :: .sl 1 0 R1' false :: .sl 1 0 R2' false :: .sl 1 0 R3' false :: .sl 1 0 R4' false :: L)) (X Y Z : Chunk) :
  isoK E (callT E) f (.ptr 1 0 0 0 :: ar) [X, .box (A ++ .ref 2 0 0 n1 :: (B ++ .ref 3 0 0 n2 :: (C ++ .ref 4 0 0 n3 :: .ref 5 0 0 n4 :: D))), .sl 1 0 R1 false, .sl 1 0 R2 false, .sl 1 0 R3 false, .sl 1 0 R4 false, Y, Z] =
   some (r, [X, .box (A' ++ .ref 2 0 0 n1' :: (B' ++ .ref 3 0 0 n2' :: (C' ++ .ref 4 0 0 n3' :: .ref 5 0 0 n4' :: D'))), .sl 1 0 R1' false, .sl 1 0 R2' false, .sl 1 0 R3' false, .sl 1 0 R4' false, Y, Z]) := by
 obtain ⟨L, h⟩ := h
 have ap : ∀ (X Y : List AV), refsL (X ++ Y) = refsL X ++ refsL Y := fun X Y => by
  induction X with
  | nil => rfl
  | cons a X ih => simp only [List.cons_append, refsL, ih, List.append_assoc]
 have ra : ∀ ρ (X Y : List AV), renL ρ (X ++ Y) = renL ρ X ++ renL ρ Y := fun ρ X Y => by
  induction X with
  | nil => rfl
  | cons a X ih => simp only [List.cons_append, renL, ih]
 have nr : ∀ {X : List AV}, refsL X = [] → ∀ ρ, renL ρ X = X := fun hX ρ => (refs_ren ρ).2 _ hX
 have ha2 := nr ha
 have hr2 : ∀ ρ, renA ρ r = r := fun ρ => (refs_ren ρ).1 r hr
 have eA := nr hA
 have eB := nr hB
 have eC := nr hC
 have eD := nr hD
 have eA' := nr hA'
 have eB' := nr hB'
 have eC' := nr hC'
 have eD' := nr hD'
 unfold isoK
 simp [exCl, he, refsL, refsA, ap, ra, hA, hB, hC, hD, hA', hB', hC', hD', eA, eB, eC, eD, eA', eB', eC', eD', renL, renA, posIn, Chunk.ren, ha, ha2, h, Chunk.refs, reach, setAll, backRen, hr, hr2]
theorem isoK_m1 {f : Nat} {ar : List AV} {r : AV} {w h : Nat} {r1 c1 r2 c2 : Int} {p1 p2 : Bool} {R R' oR tB : List (List IV)} (he : E.ext f = none) (ha : refsL ar = []) (hr : refsA r = [])
  (hc : ∃ L, callT E f (.ptr 0 0 0 0 :: ar) (.box [.i (.v (.int .i64 (w))), .i (.v (.int .i64 (h))), .ref 1 0 0 (h), .i (.v (.int .i64 (w))), .i (.v (.int .i64 (h))), .ref 2 0 0 (h), .i (.v (.int .i64 (r1))), .i (.v (.int .i64 (c1))), .i (.v (.bool (p1))), .i (.v (.int .i64 0)), .i (.v (.int .i64 0)), .i (.v (.bool false)), .i (.v (.int .i64 (-1))), .i (.v (.int .i64 (-1))), .i (.v (.int .i64 0)), .i (.v (.bool false)), .i (.v (.int .u8 66)), .i (.v (.int .u8 66)), .i (.v (.int .i64 0)), .i (.v (.int .i64 (-1))), .i (.v (.int .i64 (-1))), .i (.v (.int .i64 0)), .i (.v (.bool false)), .i (.v (.bool false)), .i (.v (.bool false)), .i (.v (.bool false)), .i (.v (.bool true)), .i (.v (.bool true)), .i (.v (.bool false)), .i (.v (.bool false)), .i (.v (.int .u8 66)), .i (.v (.int .u8 66)), .i (.v (.int .i64 0)), .i (.v (.int .i64 0)), .i (.v (.int .i64 (h))), .ref 3 0 0 (w), .ref 4 0 0 0, .i (.v (.int .i64 0)), .i (.str []), .i (.str []), .i (.str []), .i (.str [])] :: .sl 1 0 (R) false :: .sl 1 0 oR false :: .sl 1 0 tB false :: .sl 1 0 [] false :: []) = some (r, .box [.i (.v (.int .i64 (w))), .i (.v (.int .i64 (h))), .ref 1 0 0 (h), .i (.v (.int .i64 (w))), .i (.v (.int .i64 (h))), .ref 2 0 0 (h), .i (.v (.int .i64 (r2))), .i (.v (.int .i64 (c2))), .i (.v (.bool (p2))), .i (.v (.int .i64 0)), .i (.v (.int .i64 0)), .i (.v (.bool false)), .i (.v (.int .i64 (-1))), .i (.v (.int .i64 (-1))), .i (.v (.int .i64 0)), .i (.v (.bool false)), .i (.v (.int .u8 66)), .i (.v (.int .u8 66)), .i (.v (.int .i64 0)), .i (.v (.int .i64 (-1))), .i (.v (.int .i64 (-1))), .i (.v (.int .i64 0)), .i (.v (.bool false)), .i (.v (.bool false)), .i (.v (.bool false)), .i (.v (.bool false)), .i (.v (.bool true)), .i (.v (.bool true)), .i (.v (.bool false)), .i (.v (.bool false)), .i (.v (.int .u8 66)), .i (.v (.int .u8 66)), .i (.v (.int .i64 0)), .i (.v (.int .i64 0)), .i (.v (.int .i64 (h))), .ref 3 0 0 (w), .ref 4 0 0 0, .i (.v (.int .i64 0)), .i (.str []), .i (.str []), .i (.str []), .i (.str [])] :: .sl 1 0 (R') false :: .sl 1 0 oR false :: .sl 1 0 tB false :: .sl 1 0 [] false :: L)) (X Y Z : Chunk) :
  isoK E (callT E) f (.ptr 1 0 0 0 :: ar) (X :: .box [.i (.v (.int .i64 (w))), .i (.v (.int .i64 (h))), .ref 2 0 0 (h), .i (.v (.int .i64 (w))), .i (.v (.int .i64 (h))), .ref 3 0 0 (h), .i (.v (.int .i64 (r1))), .i (.v (.int .i64 (c1))), .i (.v (.bool (p1))), .i (.v (.int .i64 0)), .i (.v (.int .i64 0)), .i (.v (.bool false)), .i (.v (.int .i64 (-1))), .i (.v (.int .i64 (-1))), .i (.v (.int .i64 0)), .i (.v (.bool false)), .i (.v (.int .u8 66)), .i (.v (.int .u8 66)), .i (.v (.int .i64 0)), .i (.v (.int .i64 (-1))), .i (.v (.int .i64 (-1))), .i (.v (.int .i64 0)), .i (.v (.bool false)), .i (.v (.bool false)), .i (.v (.bool false)), .i (.v (.bool false)), .i (.v (.bool true)), .i (.v (.bool true)), .i (.v (.bool false)), .i (.v (.bool false)), .i (.v (.int .u8 66)), .i (.v (.int .u8 66)), .i (.v (.int .i64 0)), .i (.v (.int .i64 0)), .i (.v (.int .i64 (h))), .ref 4 0 0 (w), .ref 5 0 0 0, .i (.v (.int .i64 0)), .i (.str []), .i (.str []), .i (.str []), .i (.str [])] :: .sl 1 0 (R) false :: .sl 1 0 oR false :: .sl 1 0 tB false :: .sl 1 0 [] false :: [Y, Z]) = some (r, X :: .box [.i (.v (.int .i64 (w))), .i (.v (.int .i64 (h))), .ref 2 0 0 (h), .i (.v (.int .i64 (w))), .i (.v (.int .i64 (h))), .ref 3 0 0 (h), .i (.v (.int .i64 (r2))), .i (.v (.int .i64 (c2))), .i (.v (.bool (p2))), .i (.v (.int .i64 0)), .i (.v (.int .i64 0)), .i (.v (.bool false)), .i (.v (.int .i64 (-1))), .i (.v (.int .i64 (-1))), .i (.v (.int .i64 0)), .i (.v (.bool false)), .i (.v (.int .u8 66)), .i (.v (.int .u8 66)), .i (.v (.int .i64 0)), .i (.v (.int .i64 (-1))), .i (.v (.int .i64 (-1))), .i (.v (.int .i64 0)), .i (.v (.bool false)), .i (.v (.bool false)), .i (.v (.bool false)), .i (.v (.bool false)), .i (.v (.bool true)), .i (.v (.bool true)), .i (.v (.bool false)), .i (.v (.bool false)), .i (.v (.int .u8 66)), .i (.v (.int .u8 66)), .i (.v (.int .i64 0)), .i (.v (.int .i64 0)), .i (.v (.int .i64 (h))), .ref 4 0 0 (w), .ref 5 0 0 0, .i (.v (.int .i64 0)), .i (.str []), .i (.str []), .i (.str []), .i (.str [])] :: .sl 1 0 (R') false :: .sl 1 0 oR false :: .sl 1 0 tB false :: .sl 1 0 [] false :: [Y, Z]) :=
 isoK_mB (A := [.i (.v (.int .i64 (w))), .i (.v (.int .i64 (h)))]) (B := [.i (.v (.int .i64 (w))), .i (.v (.int .i64 (h)))]) (C := [.i (.v (.int .i64 (r1))), .i (.v (.int .i64 (c1))), .i (.v (.bool (p1))), .i (.v (.int .i64 0)), .i (.v (.int .i64 0)), .i (.v (.bool false)), .i (.v (.int .i64 (-1))), .i (.v (.int .i64 (-1))), .i (.v (.int .i64 0)), .i (.v (.bool false)), .i (.v (.int .u8 66)), .i (.v (.int .u8 66)), .i (.v (.int .i64 0)), .i (.v (.int .i64 (-1))), .i (.v (.int .i64 (-1))), .i (.v (.int .i64 0)), .i (.v (.bool false)), .i (.v (.bool false)), .i (.v (.bool false)), .i (.v (.bool false)), .i (.v (.bool true)), .i (.v (.bool true)), .i (.v (.bool false)), .i (.v (.bool false)), .i (.v (.int .u8 66)), .i (.v (.int .u8 66)), .i (.v (.int .i64 0)), .i (.v (.int .i64 0)), .i (.v (.int .i64 (h)))]) (D := [.i (.v (.int .i64 0)), .i (.str []), .i (.str []), .i (.str []), .i (.str [])]) (A' := [.i (.v (.int .i64 (w))), .i (.v (.int .i64 (h)))]) (B' := [.i (.v (.int .i64 (w))), .i (.v (.int .i64 (h)))]) (C' := [.i (.v (.int .i64 (r2))), .i (.v (.int .i64 (c2))), .i (.v (.bool (p2))), .i (.v (.int .i64 0)), .i (.v (.int .i64 0)), .i (.v (.bool false)), .i (.v (.int .i64 (-1))), .i (.v (.int .i64 (-1))), .i (.v (.int .i64 0)), .i (.v (.bool false)), .i (.v (.int .u8 66)), .i (.v (.int .u8 66)), .i (.v (.int .i64 0)), .i (.v (.int .i64 (-1))), .i (.v (.int .i64 (-1))), .i (.v (.int .i64 0)), .i (.v (.bool false)), .i (.v (.bool false)), .i (.v (.bool false)), .i (.v (.bool false)), .i (.v (.bool true)), .i (.v (.bool true)), .i (.v (.bool false)), .i (.v (.bool false)), .i (.v (.int .u8 66)), .i (.v (.int .u8 66)), .i (.v (.int .i64 0)), .i (.v (.int .i64 0)), .i (.v (.int .i64 (h)))]) (D' := [.i (.v (.int .i64 0)), .i (.str []), .i (.str []), .i (.str []), .i (.str [])]) he ha hr rfl rfl rfl rfl rfl rfl rfl rfl hc X Y Z
set_option linter.defProp false in
def lp7_6 := show ∀ B fr H, execT E B 7 (Code.loop _) fr H = rlG E B 7 (loopAt Tryz.f7 0) (gcn B (norm [4, 5, 6, 28, 29, 30] fr) H) from fun B fr H => rl_intro rfl mt7_6 mb7_6 zf7_6 hd7_6 fr H
theorem l7 (w h : Nat) (hw : 1 ≤ w ∧ w ≤ 132) (hh : 1 ≤ h ∧ h ≤ 60) (s : List UInt8) (hp : pL s) (hf : s.length ≤ w * h) (hs : s.length < 100000) (oR tB : List (List IV)) : ∀ (m k : Nat), k + m = s.length →
  rl E 0 7 (loopAt Tryz.f7 0) [(4, .ptr 0 0 0 0), (5, .ptr 1 0 0 0), (6, .ptr 6 0 0 0), (28, .i (.sl 7 (rowsE' s) false)), (29, .i (.v (.int .i64 (s.length)))), (30, .i (.v (.int .i64 (k))))] (.box [.i (.v (.int .i64 0)), .i (.v (.int .i64 0)), .i (.sl 0 [] true), .i (.v (.int .i64 0)), .i (.v (.int .i64 0)), .i (.sl 0 [] true), .i (.v (.int .i64 0)), .i (.v (.int .i64 0)), .i (.v (.bool false)), .i (.v (.int .i64 0)), .i (.v (.int .i64 0)), .i (.v (.bool false)), .i (.v (.int .i64 0)), .i (.v (.int .i64 0)), .i (.v (.int .i64 0)), .i (.v (.bool false)), .i (.v (.int .u8 0)), .i (.v (.int .u8 0)), .i (.v (.int .i64 0)), .i (.v (.int .i64 0)), .i (.v (.int .i64 0)), .i (.v (.int .i64 0)), .i (.v (.bool false)), .i (.v (.bool false)), .i (.v (.bool false)), .i (.v (.bool false)), .i (.v (.bool false)), .i (.v (.bool false)), .i (.v (.bool false)), .i (.v (.bool false)), .i (.v (.int .u8 0)), .i (.v (.int .u8 0)), .i (.v (.int .i64 0)), .i (.v (.int .i64 0)), .i (.v (.int .i64 0)), .i (.sl 0 [] true), .i (.sl 0 [] true), .i (.v (.int .i64 0)), .i (.str []), .i (.str []), .i (.str []), .i (.str [])] :: .box [.i (.v (.int .i64 (w))), .i (.v (.int .i64 (h))), .ref 2 0 0 (h), .i (.v (.int .i64 (w))), .i (.v (.int .i64 (h))), .ref 3 0 0 (h), .i (.v (.int .i64 ((rK w k : Nat)))), .i (.v (.int .i64 ((cK w k : Nat)))), .i (.v (.bool (endP w k))), .i (.v (.int .i64 0)), .i (.v (.int .i64 0)), .i (.v (.bool false)), .i (.v (.int .i64 (-1))), .i (.v (.int .i64 (-1))), .i (.v (.int .i64 0)), .i (.v (.bool false)), .i (.v (.int .u8 66)), .i (.v (.int .u8 66)), .i (.v (.int .i64 0)), .i (.v (.int .i64 (-1))), .i (.v (.int .i64 (-1))), .i (.v (.int .i64 0)), .i (.v (.bool false)), .i (.v (.bool false)), .i (.v (.bool false)), .i (.v (.bool false)), .i (.v (.bool true)), .i (.v (.bool true)), .i (.v (.bool false)), .i (.v (.bool false)), .i (.v (.int .u8 66)), .i (.v (.int .u8 66)), .i (.v (.int .i64 0)), .i (.v (.int .i64 0)), .i (.v (.int .i64 (h))), .ref 4 0 0 (w), .ref 5 0 0 0, .i (.v (.int .i64 0)), .i (.str []), .i (.str []), .i (.str []), .i (.str [])] :: .sl 1 0 (gridR (grK w h s k)) false :: .sl 1 0 oR false :: .sl 1 0 tB false :: .sl 1 0 [] false :: [.box [.i (.v (.int .i64 (0))), .i (.str []), .i (.str [])]]) =
   some (.exit 0, [(4, .ptr 0 0 0 0), (5, .ptr 1 0 0 0), (6, .ptr 6 0 0 0), (28, .i (.sl 7 (rowsE' s) false)), (29, .i (.v (.int .i64 (s.length)))), (30, .i (.v (.int .i64 (s.length)))), (31, .i (.v (.bool (false))))], (.box [.i (.v (.int .i64 0)), .i (.v (.int .i64 0)), .i (.sl 0 [] true), .i (.v (.int .i64 0)), .i (.v (.int .i64 0)), .i (.sl 0 [] true), .i (.v (.int .i64 0)), .i (.v (.int .i64 0)), .i (.v (.bool false)), .i (.v (.int .i64 0)), .i (.v (.int .i64 0)), .i (.v (.bool false)), .i (.v (.int .i64 0)), .i (.v (.int .i64 0)), .i (.v (.int .i64 0)), .i (.v (.bool false)), .i (.v (.int .u8 0)), .i (.v (.int .u8 0)), .i (.v (.int .i64 0)), .i (.v (.int .i64 0)), .i (.v (.int .i64 0)), .i (.v (.int .i64 0)), .i (.v (.bool false)), .i (.v (.bool false)), .i (.v (.bool false)), .i (.v (.bool false)), .i (.v (.bool false)), .i (.v (.bool false)), .i (.v (.bool false)), .i (.v (.bool false)), .i (.v (.int .u8 0)), .i (.v (.int .u8 0)), .i (.v (.int .i64 0)), .i (.v (.int .i64 0)), .i (.v (.int .i64 0)), .i (.sl 0 [] true), .i (.sl 0 [] true), .i (.v (.int .i64 0)), .i (.str []), .i (.str []), .i (.str []), .i (.str [])] :: .box [.i (.v (.int .i64 (w))), .i (.v (.int .i64 (h))), .ref 2 0 0 (h), .i (.v (.int .i64 (w))), .i (.v (.int .i64 (h))), .ref 3 0 0 (h), .i (.v (.int .i64 ((rK w s.length : Nat)))), .i (.v (.int .i64 ((cK w s.length : Nat)))), .i (.v (.bool (endP w s.length))), .i (.v (.int .i64 0)), .i (.v (.int .i64 0)), .i (.v (.bool false)), .i (.v (.int .i64 (-1))), .i (.v (.int .i64 (-1))), .i (.v (.int .i64 0)), .i (.v (.bool false)), .i (.v (.int .u8 66)), .i (.v (.int .u8 66)), .i (.v (.int .i64 0)), .i (.v (.int .i64 (-1))), .i (.v (.int .i64 (-1))), .i (.v (.int .i64 0)), .i (.v (.bool false)), .i (.v (.bool false)), .i (.v (.bool false)), .i (.v (.bool false)), .i (.v (.bool true)), .i (.v (.bool true)), .i (.v (.bool false)), .i (.v (.bool false)), .i (.v (.int .u8 66)), .i (.v (.int .u8 66)), .i (.v (.int .i64 0)), .i (.v (.int .i64 0)), .i (.v (.int .i64 (h))), .ref 4 0 0 (w), .ref 5 0 0 0, .i (.v (.int .i64 0)), .i (.str []), .i (.str []), .i (.str []), .i (.str [])] :: .sl 1 0 (gridR (grK w h s s.length)) false :: .sl 1 0 oR false :: .sl 1 0 tB false :: .sl 1 0 [] false :: [.box [.i (.v (.int .i64 (0))), .i (.str []), .i (.str [])]])) := by
 intro m
 induction m with
 | zero =>
  intro k hk
  obtain rfl : k = s.length := by omega
  generalize gridR (grK w h s s.length) = x at *
  generalize rK w s.length = r at *
  generalize cK w s.length = c at *
  generalize endP w s.length = p at *
  rw [rl_step (fn := Tryz.f7) (k := 0) rfl]
  simp (disch := first | omega | (simp only [vlen, rowsE'_len]; omega)) only [vall, reduceCtorEq, ↓reduceIte, zq0, zq1, zq2, zq3, zq4, zq5, zq6, zq7, zq8, zq9, zq10, zq11, zq12, zq13, zq14, zq15, zq16, zq17, en7, bs73, rowsE'_len, lp7_6]
 | succ m ih =>
  intro k hk
  have hlt : k < s.length := by omega
  have e := ih (k + 1) (by omega)
  have hrow := rowsE'_at hlt
  have hd := fun X Y Z => isoK_m1 (f := 21) rfl rfl rfl (do_step w h hw hh s hp k hlt hf oR tB) X Y Z
  refine Eq.trans ?_ e
  clear e ih
  generalize bt s k = b at *
  generalize gridR (grK w h s (k + 1)) = x' at *
  generalize rK w (k + 1) = r' at *
  generalize cK w (k + 1) = c' at *
  generalize endP w (k + 1) = p' at *
  generalize gridR (grK w h s k) = x at *
  generalize rK w k = r at *
  generalize cK w k = c at *
  generalize endP w k = p at *
  rw [rl_step (fn := Tryz.f7) (k := 0) rfl]
  simp (disch := first | omega | (simp only [vlen, rowsE'_len]; omega)) only [vall, reduceCtorEq, ↓reduceIte, zq0, zq1, zq2, zq3, zq4, zq5, zq6, zq7, zq8, zq9, zq10, zq11, zq12, zq13, zq14, zq15, zq16, zq17, en7, bs73, hrow, hd, rowsE'_len, lp7_6]
theorem blG_ok (w h : Nat) : okGr w (blG w h) := by
 intro l hl
 rw [List.eq_of_mem_replicate hl]
 refine ⟨sp_len w, fun b hb => ?_⟩
 rw [List.eq_of_mem_replicate hb]
 exact ⟨by decide, by decide⟩
theorem c7 (w h : Nat) (hw : 1 ≤ w ∧ w ≤ 132) (hh : 1 ≤ h ∧ h ≤ 60) (s : List UInt8) (hp : pL s) (hf : s.length ≤ w * h) (hs : s.length < 100000) :
  ∃ L, callT E 7 [.agg [.i (.v (.int .i64 (w))), .i (.v (.int .i64 (h))), .i (.sl 1 (gridR (blG w h)) false), .i (.v (.int .i64 (w))), .i (.v (.int .i64 (h))), .i (.sl 1 (gridR (blG w h)) false), .i (.v (.int .i64 (0))), .i (.v (.int .i64 (0))), .i (.v (.bool (false))), .i (.v (.int .i64 0)), .i (.v (.int .i64 0)), .i (.v (.bool false)), .i (.v (.int .i64 (-1))), .i (.v (.int .i64 (-1))), .i (.v (.int .i64 0)), .i (.v (.bool false)), .i (.v (.int .u8 66)), .i (.v (.int .u8 66)), .i (.v (.int .i64 0)), .i (.v (.int .i64 (-1))), .i (.v (.int .i64 (-1))), .i (.v (.int .i64 0)), .i (.v (.bool false)), .i (.v (.bool false)), .i (.v (.bool false)), .i (.v (.bool false)), .i (.v (.bool true)), .i (.v (.bool true)), .i (.v (.bool false)), .i (.v (.bool false)), .i (.v (.int .u8 66)), .i (.v (.int .u8 66)), .i (.v (.int .i64 0)), .i (.v (.int .i64 0)), .i (.v (.int .i64 (h))), .i (.sl 1 (tabL w w) false), .i (.sl 1 [] false), .i (.v (.int .i64 0)), .i (.str []), .i (.str []), .i (.str []), .i (.str [])], .i (.str s)] [] =
   some (.agg [.i (.v (.int .i64 (w))), .i (.v (.int .i64 (h))), .i (.sl 1 (gridR (grK w h s s.length)) false), .i (.v (.int .i64 (w))), .i (.v (.int .i64 (h))), .i (.sl 1 (gridR (blG w h)) false), .i (.v (.int .i64 ((rK w s.length : Nat)))), .i (.v (.int .i64 ((cK w s.length : Nat)))), .i (.v (.bool (endP w s.length))), .i (.v (.int .i64 0)), .i (.v (.int .i64 0)), .i (.v (.bool false)), .i (.v (.int .i64 (-1))), .i (.v (.int .i64 (-1))), .i (.v (.int .i64 0)), .i (.v (.bool false)), .i (.v (.int .u8 66)), .i (.v (.int .u8 66)), .i (.v (.int .i64 0)), .i (.v (.int .i64 (-1))), .i (.v (.int .i64 (-1))), .i (.v (.int .i64 0)), .i (.v (.bool false)), .i (.v (.bool false)), .i (.v (.bool false)), .i (.v (.bool false)), .i (.v (.bool true)), .i (.v (.bool true)), .i (.v (.bool false)), .i (.v (.bool false)), .i (.v (.int .u8 66)), .i (.v (.int .u8 66)), .i (.v (.int .i64 0)), .i (.v (.int .i64 0)), .i (.v (.int .i64 (h))), .i (.sl 1 (tabL w w) false), .i (.sl 1 [] false), .i (.v (.int .i64 0)), .i (.str []), .i (.str []), .i (.str []), .i (.str [])], L) := by
 have hbl : ∀ l ∈ blG w h, l.length ≤ 1000 := fun l hl => by have := (blG_ok w h l hl).1; omega
 have hbn : (blG w h).length = h := List.length_replicate
 have htn := tabL_len w w
 have e1 := fun X Y => ik18 w h (blG w h) (blG w h) (tabL w w) 0 0 false (by omega) hbl (by omega) hbl (by omega) X Y
 have e2 := fun H => isoK_val (E := E) (cl := callT E) (g := 19) (H := H) rfl rfl rfl (c19 w h hw hh (blG w h) (blG w h) hbn (blG_ok w h) hbn (blG_ok w h) (tabL w w) htn 0 0 false (by omega) (by omega) (fun h => by cases h))
 have e3 := fun H => ik20 s hs hp H
 have hl := l7 w h hw hh s hp hf hs (gridR (blG w h)) (tabL w w) s.length 0 (by omega)
 have h0 : rK w 0 = 0 ∧ cK w 0 = 0 ∧ endP w 0 = false := ⟨by simp [rK], rfl, rfl⟩
 rw [grK_0, h0.1, h0.2.1, h0.2.2] at hl
 have h' : rl E 0 7 (loopAt Tryz.f7 0) [(4, .ptr 0 0 0 0), (5, .ptr 1 0 0 0), (6, .ptr 6 0 0 0), (28, .i (.sl 7 (rowsE' s) false)), (29, .i (.v (.int .i64 (s.length)))), (30, .i (.v (.int .i64 (0))))] (let oR := gridR (blG w h); let tB := tabL w w; (.box [.i (.v (.int .i64 0)), .i (.v (.int .i64 0)), .i (.sl 0 [] true), .i (.v (.int .i64 0)), .i (.v (.int .i64 0)), .i (.sl 0 [] true), .i (.v (.int .i64 0)), .i (.v (.int .i64 0)), .i (.v (.bool false)), .i (.v (.int .i64 0)), .i (.v (.int .i64 0)), .i (.v (.bool false)), .i (.v (.int .i64 0)), .i (.v (.int .i64 0)), .i (.v (.int .i64 0)), .i (.v (.bool false)), .i (.v (.int .u8 0)), .i (.v (.int .u8 0)), .i (.v (.int .i64 0)), .i (.v (.int .i64 0)), .i (.v (.int .i64 0)), .i (.v (.int .i64 0)), .i (.v (.bool false)), .i (.v (.bool false)), .i (.v (.bool false)), .i (.v (.bool false)), .i (.v (.bool false)), .i (.v (.bool false)), .i (.v (.bool false)), .i (.v (.bool false)), .i (.v (.int .u8 0)), .i (.v (.int .u8 0)), .i (.v (.int .i64 0)), .i (.v (.int .i64 0)), .i (.v (.int .i64 0)), .i (.sl 0 [] true), .i (.sl 0 [] true), .i (.v (.int .i64 0)), .i (.str []), .i (.str []), .i (.str []), .i (.str [])] :: .box [.i (.v (.int .i64 (w))), .i (.v (.int .i64 (h))), .ref 2 0 0 (h), .i (.v (.int .i64 (w))), .i (.v (.int .i64 (h))), .ref 3 0 0 (h), .i (.v (.int .i64 (0))), .i (.v (.int .i64 (0))), .i (.v (.bool (false))), .i (.v (.int .i64 0)), .i (.v (.int .i64 0)), .i (.v (.bool false)), .i (.v (.int .i64 (-1))), .i (.v (.int .i64 (-1))), .i (.v (.int .i64 0)), .i (.v (.bool false)), .i (.v (.int .u8 66)), .i (.v (.int .u8 66)), .i (.v (.int .i64 0)), .i (.v (.int .i64 (-1))), .i (.v (.int .i64 (-1))), .i (.v (.int .i64 0)), .i (.v (.bool false)), .i (.v (.bool false)), .i (.v (.bool false)), .i (.v (.bool false)), .i (.v (.bool true)), .i (.v (.bool true)), .i (.v (.bool false)), .i (.v (.bool false)), .i (.v (.int .u8 66)), .i (.v (.int .u8 66)), .i (.v (.int .i64 0)), .i (.v (.int .i64 0)), .i (.v (.int .i64 (h))), .ref 4 0 0 (w), .ref 5 0 0 0, .i (.v (.int .i64 0)), .i (.str []), .i (.str []), .i (.str []), .i (.str [])] :: .sl 1 0 (gridR (blG w h)) false :: .sl 1 0 oR false :: .sl 1 0 tB false :: .sl 1 0 [] false :: [.box [.i (.v (.int .i64 (0))), .i (.str []), .i (.str [])]])) = _ := hl
 clear hl
 simp only [Int.natCast_zero] at e1 e2
 rw [hbn, htn] at e1
 have hgl : (gridR (grK w h s s.length)).length = h := by rw [gridR_len, grK_len]
 have hgb : (gridR (blG w h)).length = h := by rw [gridR_len, hbn]
 generalize gridR (grK w h s s.length) = x at *
 generalize gridR (blG w h) = y at *
 generalize tabL w w = z at *
 generalize rK w s.length = r at *
 generalize cK w s.length = c at *
 generalize endP w s.length = p at *
 rw [callT_eq Tryz.func7 rfl fok7 (by simp [Tryz.ntmps7])]
 simp (disch := first | omega | (simp only [vlen, rowsE'_len, hgl, hgb, htn]; omega)) only [vall, reduceCtorEq, ↓reduceIte, zq0, zq1, zq2, zq3, zq4, zq5, zq6, zq7, zq8, zq9, zq10, zq11, zq12, zq13, zq14, zq15, zq16, zq17, en7, bs73, e1, e2, e3, h', rowsE'_len, hgl, hgb, htn, lp7_6]
 exact ⟨_, rfl⟩
end Go.VI

set_option linter.unusedSimpArgs false
set_option linter.unusedVariables false
set_option maxRecDepth 100000
set_option maxHeartbeats 8000000
namespace Go.VI
open Go.Proofs
theorem ik22 (w h : Nat) (hw : 1 ≤ w ∧ w ≤ 132) (hh : 1 ≤ h ∧ h ≤ 60) (H : Hp) : isoK E (callT E) 22 [.i (.v (.int .i64 (w))), .i (.v (.int .i64 (h)))] H = some (.i (.v (.bool (true))), H) := isoK_val rfl rfl rfl (by
 obtain ⟨h1, h2⟩ := hw
 obtain ⟨h3, h4⟩ := hh
 rw [callT_eq Tryz.func22 rfl fok22 (by simp [Tryz.ntmps22])]
 simp (disch := first | omega | (simp only [vlen]; omega)) only [vall, reduceCtorEq, ↓reduceIte, zq0, zq1, zq2, zq3, zq4, zq5, zq6, zq7, zq8, zq9, zq10, zq11, zq12, zq13, zq14, zq15, zq16, zq17, en22]
 exact ⟨_, rfl⟩)
theorem ik33 (t : List UInt8) (H : Hp) : isoK E (callT E) 33 [.agg [.i (.str t), .i (.v (.int .i64 (1))), .i (.v (.int .i64 (-1))), .i (.v (.int .i64 (-1))), .i (.v (.int .i64 (0)))]] H = some (.i (.v (.bool (false))), H) := isoK_val rfl rfl rfl (by
 rw [callT_eq Tryz.func33 rfl fok33 (by simp [Tryz.ntmps33])]
 simp (disch := first | omega | (simp only [vlen]; omega)) only [vall, reduceCtorEq, ↓reduceIte, zq0, zq1, zq2, zq3, zq4, zq5, zq6, zq7, zq8, zq9, zq10, zq11, zq12, zq13, zq14, zq15, zq16, zq17, en33, ik34]
 exact ⟨_, rfl⟩)
set_option linter.defProp false in
def lp62_2 := show ∀ B fr H, execT E B 62 (Code.loop _) fr H = rlG E B 62 (loopAt Tryz.f62 0) (gcn B (norm [0, 1, 7, 8] fr) H) from fun B fr H => rl_intro rfl mt62_2 mb62_2 zf62_2 hd62_2 fr H
theorem l62 (l : List UInt8) (hl : l.length ≤ 132) : ∀ (m k : Nat), k + m = l.length →
  rl E 0 62 (loopAt Tryz.f62 0) [(0, .i (.sl 5 (rowC l) false)), (1, .clo (.func 33) [] []), (7, .i (.v (.int .i64 (l.length)))), (8, .i (.v (.int .i64 (k))))] [] =
   some (.exit 0, [(0, .i (.sl 5 (rowC l) false)), (1, .clo (.func 33) [] []), (7, .i (.v (.int .i64 (l.length)))), (8, .i (.v (.int .i64 (l.length)))), (9, .i (.v (.bool (false))))], []) := by
 intro m
 induction m with
 | zero =>
  intro k hk
  obtain rfl : k = l.length := by omega
  rw [rl_step (fn := Tryz.f62) (k := 0) rfl]
  simp (disch := first | omega | (simp only [vlen, rowC_len]; omega)) only [vall, reduceCtorEq, ↓reduceIte, zq0, zq1, zq2, zq3, zq4, zq5, zq6, zq7, zq8, zq9, zq10, zq11, zq12, zq13, zq14, zq15, zq16, zq17, en62, bs52, rowC_len, lp62_2]
 | succ m ih =>
  intro k hk
  have hlt : k < l.length := by omega
  have hrow := rowC_at hlt
  have e := ih (k + 1) (by omega)
  refine Eq.trans ?_ e
  clear e ih
  generalize bt l k = b at *
  rw [rl_step (fn := Tryz.f62) (k := 0) rfl]
  simp (disch := first | omega | (simp only [vlen, rowC_len]; omega)) only [vall, reduceCtorEq, ↓reduceIte, zq0, zq1, zq2, zq3, zq4, zq5, zq6, zq7, zq8, zq9, zq10, zq11, zq12, zq13, zq14, zq15, zq16, zq17, en62, bs52, ca33, hrow, ik33, rowC_len, lp62_2]
theorem ik62 (l : List UInt8) (hl : l.length ≤ 132) (H : Hp) : isoK E (callT E) 62 [.i (.sl 5 (rowC l) false), .clo (.func 33) [] []] H = some (.i (.v (.int .i64 (-1))), H) := isoK_val rfl rfl rfl (by
 have h := l62 l hl l.length 0 (by omega)
 have h' : rl E 0 62 (loopAt Tryz.f62 0) [(0, .i (.sl 5 (rowC l) false)), (1, .clo (.func 33) [] []), (7, .i (.v (.int .i64 (l.length)))), (8, .i (.v (.int .i64 (0))))] [] = _ := h
 clear h
 rw [callT_eq Tryz.func62 rfl fok62 (by simp [Tryz.ntmps62])]
 simp (disch := first | omega | (simp only [vlen, rowC_len]; omega)) only [vall, reduceCtorEq, ↓reduceIte, zq0, zq1, zq2, zq3, zq4, zq5, zq6, zq7, zq8, zq9, zq10, zq11, zq12, zq13, zq14, zq15, zq16, zq17, en62, bs52, h', rowC_len, lp62_2]
 exact ⟨_, rfl⟩)
theorem ik32 (l : List UInt8) (hl : l.length ≤ 132) (H : Hp) : isoK E (callT E) 32 [.i (.sl 5 (rowC l) false), .clo (.func 33) [] []] H = some (.i (.v (.bool (false))), H) := isoK_val rfl rfl rfl (by
 have h := fun H => ik62 l hl H
 rw [callT_eq Tryz.func32 rfl fok32 (by simp [Tryz.ntmps32])]
 simp (disch := first | omega | (simp only [vlen]; omega)) only [vall, reduceCtorEq, ↓reduceIte, zq0, zq1, zq2, zq3, zq4, zq5, zq6, zq7, zq8, zq9, zq10, zq11, zq12, zq13, zq14, zq15, zq16, zq17, en32, bs52, h]
 exact ⟨_, rfl⟩)
set_option linter.defProp false in
def lp14_5 := show ∀ B fr H, execT E B 14 (Code.loop _) fr H = rlG E B 14 (loopAt Tryz.f14 0) (gcn B (norm [3, 50, 51, 52] fr) H) from fun B fr H => rl_intro rfl mt14_5 mb14_5 zf14_5 hd14_5 fr H
theorem l14 (w h : Nat) (hw : 1 ≤ w ∧ w ≤ 132) (g : List (List UInt8)) (hg : g.length ≤ 1000) (hk : okGr w g) : ∀ (m k : Nat), k + m = g.length →
  rl E 0 14 (loopAt Tryz.f14 0) [(3, .ptr 0 0 0 0), (50, .i (.sl 1 (gridR g) false)), (51, .i (.v (.int .i64 (g.length)))), (52, .i (.v (.int .i64 (k))))] [.box [.i (.v (.int .i64 (w))), .i (.v (.int .i64 (h))), .i (.sl 1 (gridR g) false)]] =
   some (.exit 0, [(3, .ptr 0 0 0 0), (50, .i (.sl 1 (gridR g) false)), (51, .i (.v (.int .i64 (g.length)))), (52, .i (.v (.int .i64 (g.length)))), (53, .i (.v (.bool (false))))], [.box [.i (.v (.int .i64 (w))), .i (.v (.int .i64 (h))), .i (.sl 1 (gridR g) false)]]) := by
 intro m
 induction m with
 | zero =>
  intro k hkk
  obtain rfl : k = g.length := by omega
  rw [rl_step (fn := Tryz.f14) (k := 0) rfl]
  simp (disch := first | omega | (simp only [vlen, gridR_len]; omega)) only [vall, reduceCtorEq, ↓reduceIte, zq0, zq1, zq2, zq3, zq4, zq5, zq6, zq7, zq8, zq9, zq10, zq11, zq12, zq13, zq14, zq15, zq16, zq17, en14, bs23, bs52, gridR_len, lp14_5]
 | succ m ih =>
  intro k hkk
  have hlt : k < g.length := by omega
  have hrow := gridR_at hlt
  obtain ⟨h1, h2⟩ := okGr_at hk hlt
  have hck := fun H => ik31 (gt g k) (by omega) (by omega) h2 H
  have hcf := fun H => ik32 (gt g k) (by omega) H
  have hlen : ((rowC (gt g k)).length : Int) = w := by rw [rowC_len, h1]
  have e := ih (k + 1) (by omega)
  refine Eq.trans ?_ e
  clear e ih
  generalize rowC (gt g k) = x at *
  rw [rl_step (fn := Tryz.f14) (k := 0) rfl]
  simp (disch := first | omega | (simp only [vlen, gridR_len]; omega)) only [vall, reduceCtorEq, ↓reduceIte, zq0, zq1, zq2, zq3, zq4, zq5, zq6, zq7, zq8, zq9, zq10, zq11, zq12, zq13, zq14, zq15, zq16, zq17, en14, bs23, bs52, hrow, hck, hcf, hlen, gridR_len, lp14_5]
theorem c14 (w h : Nat) (hw : 1 ≤ w ∧ w ≤ 132) (hh : 1 ≤ h ∧ h ≤ 60) (g g2 : List (List UInt8)) (hg : g.length = h) (hk : okGr w g) (tB : List (List IV)) (r c : Nat) (p : Bool) (hr : r < h) (hc : c < w) :
  ∃ L, callT E 14 [.agg [.i (.v (.int .i64 (w))), .i (.v (.int .i64 (h))), .i (.sl 1 (gridR g) false), .i (.v (.int .i64 (w))), .i (.v (.int .i64 (h))), .i (.sl 1 (gridR g2) false), .i (.v (.int .i64 (r))), .i (.v (.int .i64 (c))), .i (.v (.bool (p))), .i (.v (.int .i64 0)), .i (.v (.int .i64 0)), .i (.v (.bool false)), .i (.v (.int .i64 (-1))), .i (.v (.int .i64 (-1))), .i (.v (.int .i64 0)), .i (.v (.bool false)), .i (.v (.int .u8 66)), .i (.v (.int .u8 66)), .i (.v (.int .i64 0)), .i (.v (.int .i64 (-1))), .i (.v (.int .i64 (-1))), .i (.v (.int .i64 0)), .i (.v (.bool false)), .i (.v (.bool false)), .i (.v (.bool false)), .i (.v (.bool false)), .i (.v (.bool true)), .i (.v (.bool true)), .i (.v (.bool false)), .i (.v (.bool false)), .i (.v (.int .u8 66)), .i (.v (.int .u8 66)), .i (.v (.int .i64 0)), .i (.v (.int .i64 0)), .i (.v (.int .i64 (h))), .i (.sl 1 tB false), .i (.sl 1 [] false), .i (.v (.int .i64 0)), .i (.str []), .i (.str []), .i (.str []), .i (.str [])]] [] = some (.i (.v (.bool (true))), L) := by
 have e1 := fun H => ik22 w h hw hh H
 have hl := l14 w h hw g (by omega) hk g.length 0 (by omega)
 have h' : rl E 0 14 (loopAt Tryz.f14 0) [(3, .ptr 0 0 0 0), (50, .i (.sl 1 (gridR g) false)), (51, .i (.v (.int .i64 (g.length)))), (52, .i (.v (.int .i64 (0))))] [.box [.i (.v (.int .i64 (w))), .i (.v (.int .i64 (h))), .i (.sl 1 (gridR g) false)]] = _ := hl
 clear hl
 rw [hg] at h'
 have hgl : (gridR g).length = h := by rw [gridR_len, hg]
 generalize gridR g = x at *
 generalize gridR g2 = y at *
 rw [callT_eq Tryz.func14 rfl fok14 (by simp [Tryz.ntmps14])]
 simp (disch := first | omega | (simp only [vlen, hgl]; omega)) only [vall, reduceCtorEq, ↓reduceIte, zq0, zq1, zq2, zq3, zq4, zq5, zq6, zq7, zq8, zq9, zq10, zq11, zq12, zq13, zq14, zq15, zq16, zq17, en14, bs23, bs52, e1, h', hgl, lp14_5]
 exact ⟨_, rfl⟩
theorem ik14 (w h : Nat) (hw : 1 ≤ w ∧ w ≤ 132) (hh : 1 ≤ h ∧ h ≤ 60) (g g2 : List (List UInt8)) (hg : g.length = h) (hk : okGr w g) (tB : List (List IV)) (r c : Nat) (p : Bool) (hr : r < h) (hc : c < w) (H : Hp) :
  isoK E (callT E) 14 [.agg [.i (.v (.int .i64 (w))), .i (.v (.int .i64 (h))), .i (.sl 1 (gridR g) false), .i (.v (.int .i64 (w))), .i (.v (.int .i64 (h))), .i (.sl 1 (gridR g2) false), .i (.v (.int .i64 (r))), .i (.v (.int .i64 (c))), .i (.v (.bool (p))), .i (.v (.int .i64 0)), .i (.v (.int .i64 0)), .i (.v (.bool false)), .i (.v (.int .i64 (-1))), .i (.v (.int .i64 (-1))), .i (.v (.int .i64 0)), .i (.v (.bool false)), .i (.v (.int .u8 66)), .i (.v (.int .u8 66)), .i (.v (.int .i64 0)), .i (.v (.int .i64 (-1))), .i (.v (.int .i64 (-1))), .i (.v (.int .i64 0)), .i (.v (.bool false)), .i (.v (.bool false)), .i (.v (.bool false)), .i (.v (.bool false)), .i (.v (.bool true)), .i (.v (.bool true)), .i (.v (.bool false)), .i (.v (.bool false)), .i (.v (.int .u8 66)), .i (.v (.int .u8 66)), .i (.v (.int .i64 0)), .i (.v (.int .i64 0)), .i (.v (.int .i64 (h))), .i (.sl 1 tB false), .i (.sl 1 [] false), .i (.v (.int .i64 0)), .i (.str []), .i (.str []), .i (.str []), .i (.str [])]] H = some (.i (.v (.bool (true))), H) := isoK_val rfl rfl rfl (c14 w h hw hh g g2 hg hk tB r c p hr hc)
end Go.VI

set_option linter.unusedSimpArgs false
set_option linter.unusedVariables false
set_option maxRecDepth 100000
set_option maxHeartbeats 8000000
namespace Go.VI
open Go.Proofs
def glR (b : UInt8) : List IV := [.str [b], .v (.bool false), .v (.int .i64 0)]
def rowG (l : List UInt8) : List (List IV) := l.map glR
theorem rowG_len (l : List UInt8) : (rowG l).length = l.length := by simp [rowG]
theorem rowG_snoc (l : List UInt8) (b : UInt8) : rowG l ++ [[.str [b], .v (.bool false), .v (.int .i64 0)]] = rowG (l ++ [b]) := by simp [rowG, glR]
def glA (b : UInt8) : AV := .agg [.i (.str [b]), .i (.v (.bool false)), .i (.v (.int .i64 0))]
theorem glyphsL_row : ∀ l : List UInt8, glyphsL (rowC l) = some (l.map glA)
 | [] => rfl
 | b :: l => by
  have ih := glyphsL_row l
  unfold rowC at ih ⊢
  rw [List.map_cons, cellR, glyphsL, ih]; rfl
theorem seq_row (l : List UInt8) (hl : l.length ≤ 132) : seqGlyphs [[IV.sl 5 (rowC l) false]] = some (l.map glA) := by
 unfold seqGlyphs
 simp only
 rw [rowC_len, if_pos (by omega), glyphsL_row]
theorem rd36 (row : AV) (d : List UInt8) (hd : d.length ≤ 1000) (b : UInt8) (T : Hp) :
  ∃ T', rdF E 36 (rfAt Tryz.f36 0) ((7, .agg [.i (.str [b]), .i (.v (.bool (false))), .i (.v (.int .i64 (0)))]) :: [(2, .ptr 2 0 0 0), (4, .i (.sl 0 [] true)), (6, .clo (.func 37) [] [.ptr 1 0 0 0])]) (.sl 3 (d.length) (rowG d) false :: .box [row] :: .box [.ref 0 (d.length) 0 (d.length)] :: T) =
   some (.normal, (.sl 3 (d.length + 1) (rowG (d ++ [b])) false :: .box [row] :: .box [.ref 0 (d.length + 1) 0 (d.length + 1)] :: T')) := by
 have hl := rowG_len d
 have hs := rowG_snoc d b
 generalize rowG (d ++ [b]) = y at *
 generalize rowG d = x at *
 rw [rd_step (fn := Tryz.f36) (k := 0) rfl]
 have hg : ∀ a c : Chunk, (T ++ [a] ++ [c])[T.length + 1]? = some c := fun a c => by
  have e : T.length + 1 = (T ++ [a]).length := by simp
  rw [e, List.getElem?_concat_length]
 simp (disch := first | omega | (simp only [vlen, hl]; omega)) only [vall, reduceCtorEq, ↓reduceIte, zq0, zq1, zq2, zq3, zq4, zq5, zq6, zq7, zq8, zq9, zq10, zq11, zq12, zq13, zq14, zq15, zq16, zq17, en36, bs49, hl, hs, hg]
 exact ⟨_, rfl⟩
theorem rg36 (row : AV) : ∀ (l d : List UInt8) (hd : d.length + l.length ≤ 1000) (T : Hp),
  ∃ T', rgE (rdF E 36 (rfAt Tryz.f36 0)) 7 [(2, .ptr 2 0 0 0), (4, .i (.sl 0 [] true)), (6, .clo (.func 37) [] [.ptr 1 0 0 0])] (l.map glA) (.sl 3 (d.length) (rowG d) false :: .box [row] :: .box [.ref 0 (d.length) 0 (d.length)] :: T) = some (.normal, [(2, .ptr 2 0 0 0), (4, .i (.sl 0 [] true)), (6, .clo (.func 37) [] [.ptr 1 0 0 0])], (.sl 3 ((d ++ l).length) (rowG (d ++ l)) false :: .box [row] :: .box [.ref 0 ((d ++ l).length) 0 ((d ++ l).length)] :: T'))
 | [], d, _, T => ⟨T, by rw [List.append_nil]; rfl⟩
 | b :: l, d, hd, T => by
  simp only [List.length_cons] at hd
  obtain ⟨T1, h1⟩ := rd36 row d (by omega) b T
  obtain ⟨T2, h2⟩ := rg36 row l (d ++ [b]) (by simp only [List.length_append, List.length_cons, List.length_nil]; omega) T1
  refine ⟨T2, ?_⟩
  rw [List.map_cons, rgE_cons, glA, h1]
  have e : d ++ b :: l = (d ++ [b]) ++ l := by simp
  rw [e]
  have e2 : (d ++ [b]).length = d.length + 1 := by simp
  rw [e2] at h2
  exact h2
theorem c36 (l : List UInt8) (hl : l.length ≤ 132) : ∃ L ex, callT E 36 [.ref 0 0 0 0, .clo (.func 37) [] [.ptr 1 0 0 0]] [.sl 3 0 [] false, .box [.i (.sl 5 (rowC l) false)]] =
  some (.i (.sl 3 (rowG l) false), .fz 3 l.length (rowG l) ex :: .box [.i (.sl 5 (rowC l) false)] :: L) := by
 obtain ⟨T, h⟩ := rg36 (.i (.sl 5 (rowC l) false)) l [] (by simp; omega) []
 have h' : rgE (rdF E 36 (rfAt Tryz.f36 0)) 7 [(2, .ptr 2 0 0 0), (4, .i (.sl 0 [] true)), (6, .clo (.func 37) [] [.ptr 1 0 0 0])] (l.map glA) [.sl 3 0 [] false, .box [.i (.sl 5 (rowC l) false)], .box [.ref 0 0 0 0]] = some (.normal, [(2, .ptr 2 0 0 0), (4, .i (.sl 0 [] true)), (6, .clo (.func 37) [] [.ptr 1 0 0 0])], .sl 3 l.length (rowG l) false :: .box [.i (.sl 5 (rowC l) false)] :: .box [.ref 0 l.length 0 l.length] :: T) := h
 clear h
 have hs := seq_row l hl
 have hgl := rowG_len l
 generalize rowG l = y at *
 generalize rowC l = x at *
 generalize l.map glA = gs at *
 rw [callT_eq Tryz.func36 rfl fok36 (by simp [Tryz.ntmps36])]
 simp (disch := first | omega | (simp only [vlen, hgl]; omega)) only [vall, reduceCtorEq, ↓reduceIte, zq0, zq1, zq2, zq3, zq4, zq5, zq6, zq7, zq8, zq9, zq10, zq11, zq12, zq13, zq14, zq15, zq16, zq17, en36, bs49, h', hs, hgl, ivsOf, show ∀ B fr H, execT E B 36 (Code.rangeFunc _ _ _ _) fr H = rgO (rdF E 36 (rfAt Tryz.f36 0)) 7 fr H (seqE E H (opd E fr _)) from fun B fr H => rf_intro rfl rfl fr H]
 exact ⟨_, _, rfl⟩
theorem ik36 (l : List UInt8) (hl : l.length ≤ 132) : ∃ ex, isoK E (callT E) 36 [.ref 1 0 0 0, .clo (.func 37) [] [.ptr 0 0 0 0]] [.box [.i (.sl 5 (rowC l) false)], .sl 3 0 [] false] =
  some (.i (.sl 3 (rowG l) false), [.box [.i (.sl 5 (rowC l) false)], .fz 3 l.length (rowG l) ex]) := by
 obtain ⟨L, ex, h⟩ := c36 l hl
 refine ⟨ex, ?_⟩
 unfold isoK
 simp [exCl, xn36, refsL, refsA, reach, Chunk.refs, renL, renA, posIn, Chunk.ren, h, backRen, setAll]
theorem c16 (l : List UInt8) (hl : l.length ≤ 132) : ∃ L, callT E 16 [.clo (.func 37) [] [.ptr 0 0 0 0]] [.box [.i (.sl 5 (rowC l) false)]] = some (.i (.sl 3 (rowG l) false), .box [.i (.sl 5 (rowC l) false)] :: L) := by
 obtain ⟨ex, h⟩ := ik36 l hl
 rw [callT_eq Tryz.func16 rfl fok16 (by simp [Tryz.ntmps16])]
 simp (disch := first | omega | (simp only [vlen]; omega)) only [vall, reduceCtorEq, ↓reduceIte, zq0, zq1, zq2, zq3, zq4, zq5, zq6, zq7, zq8, zq9, zq10, zq11, zq12, zq13, zq14, zq15, zq16, zq17, en16, bs49, h]
 exact ⟨_, rfl⟩
theorem isoK_cl1 {f g c : Nat} {v : List AV} {r : AV} {H : Hp} (he : E.ext f = none) (hr : refsA r = []) (hv : refsL v = []) (hH : H[c]? = some (.box v)) (h : ∃ L, callT E f [.clo (.func g) [] [.ptr 0 0 0 0]] [.box v] = some (r, .box v :: L)) :
  isoK E (callT E) f [.clo (.func g) [] [.ptr c 0 0 0]] H = some (r, H) := by
 obtain ⟨L, h⟩ := h
 have h2 : ∀ ρ, renL ρ v = v := fun ρ => (refs_ren ρ).2 v hv
 have hr2 : ∀ ρ, renA ρ r = r := fun ρ => (refs_ren ρ).1 r hr
 have hR := reach_one hH hv
 obtain ⟨hl, hvv⟩ := List.getElem?_eq_some_iff.1 hH
 unfold isoK
 simp [exCl, he, refsL, refsA, hR, renL, renA, posIn, hH, Chunk.ren, h2, h, hr, hv, Chunk.refs, reach, hr2, setAll]
 exact List.ext_getElem? fun i => by
  by_cases h : c = i
  ·subst h; simp [hl, hvv]
  ·simp [h]
theorem c17 (x : IV) : ∃ L, callT E 17 [.i x] [] = some (.clo (.func 37) [] [.ptr 0 0 0 0], .box [.i x] :: L) := by
 rw [callT_eq Tryz.func17 rfl fok17 (by simp [Tryz.ntmps17])]
 simp (disch := first | omega | (simp only [vlen]; omega)) only [vall, reduceCtorEq, ↓reduceIte, zq0, zq1, zq2, zq3, zq4, zq5, zq6, zq7, zq8, zq9, zq10, zq11, zq12, zq13, zq14, zq15, zq16, zq17, en17]
 exact ⟨_, rfl⟩
theorem ik17 (x : IV) (H : Hp) : isoK E (callT E) 17 [.i x] H = some (.clo (.func 37) [] [.ptr H.length 0 0 0], H ++ [.box [.i x]]) := isoK_mkclo rfl rfl rfl (c17 x)
theorem ik25 (H : Hp) : isoK E (callT E) 25 [] H = some (.agg [.i (.str [32]), .i (.v (.bool (false))), .i (.v (.int .i64 (0)))], H) := isoK_val rfl rfl rfl (by
 rw [callT_eq Tryz.func25 rfl fok25 (by simp [Tryz.ntmps25])]
 simp (disch := first | omega | (simp only [vlen]; omega)) only [vall, reduceCtorEq, ↓reduceIte, zq0, zq1, zq2, zq3, zq4, zq5, zq6, zq7, zq8, zq9, zq10, zq11, zq12, zq13, zq14, zq15, zq16, zq17, en25]
 exact ⟨_, rfl⟩)
theorem eq_gl (b : UInt8) : binE Tryz.prog .eql 64 (.agg [.i (.str [b]), .i (.v (.bool (false))), .i (.v (.int .i64 (0)))]) (.agg [.i (.str [32]), .i (.v (.bool (false))), .i (.v (.int .i64 (0)))]) = some (.i (.v (.bool (b == 32)))) := by
 rw [be_aa]
 unfold eqE
 simp only
 rw [if_neg (by rw [eqg64]; decide), agg64, lv64]
 simp [leavesOk, leafOk, cellsEq, cellEq, AV.bool]
def trN (l : List UInt8) : Nat → Nat
 | 0 => 0
 | n + 1 => if bt l n = 32 then trN l n else n + 1
theorem trN_le (l : List UInt8) : ∀ n, trN l n ≤ n
 | 0 => Nat.le_refl _
 | n + 1 => by rw [trN]; split; exact Nat.le_succ_of_le (trN_le l n); exact Nat.le_refl _
def trL (l : List UInt8) : List UInt8 := l.take (trN l l.length)
theorem rowG_at {l : List UInt8} {k : Nat} (h : k < l.length) : (rowG l)[k]? = some [.str [bt l k], .v (.bool false), .v (.int .i64 0)] := by
 rw [bt_eq h]; simp [rowG, h, glR]
theorem ik35 (rows : List (List IV)) (ex : Bool) (h : rows.length ≤ 1000000000) (H : Hp) : isoK E (callT E) 35 [.i (.sl 3 rows ex)] H = some (.i (.sl 3 rows false), H) :=
 isoK_ext (show E.ext 35 = some (extClone 3) from rfl) rfl rfl ⟨[], by simp [extClone, h]⟩
set_option linter.defProp false in
def lp15_2 := show ∀ B fr H, execT E B 15 (Code.loop _) fr H = rlG E B 15 (loopAt Tryz.f15 0) (gcn B (norm [0, 3] fr) H) from fun B fr H => rl_intro rfl mt15_2 mb15_2 zf15_2 hd15_2 fr H
theorem l15 (l : List UInt8) (hl : l.length ≤ 132) : ∀ n, n ≤ l.length →
  rl E 0 15 (loopAt Tryz.f15 0) [(0, .i (.sl 3 (rowG l) false)), (3, .i (.v (.int .i64 (n))))] [] = some (.exit 0, [(0, .i (.sl 3 (rowG l) false)), (3, .i (.v (.int .i64 (trN l n)))), (16, .i (.v (.bool (false))))], []) := by
 intro n
 induction n with
 | zero =>
  intro hn
  rw [trN]
  rw [rl_step (fn := Tryz.f15) (k := 0) rfl]
  simp (disch := first | omega | (simp only [vlen, rowG_len]; omega)) only [vall, reduceCtorEq, ↓reduceIte, zq0, zq1, zq2, zq3, zq4, zq5, zq6, zq7, zq8, zq9, zq10, zq11, zq12, zq13, zq14, zq15, zq16, zq17, en15, bs49, rowG_len, lp15_2]
 | succ n ih =>
  intro hn
  have hrow := rowG_at (show n < l.length from hn)
  have hn1 : ((n + 1 : Nat) : Int) - 1 = (n : Nat) := by omega
  rw [trN]
  have hbl := eq_gl (bt l n)
  by_cases hb : bt l n = 32
  ·rw [if_pos hb]
   rw [hb] at hbl hrow
   rw [show ((32 : UInt8) == 32) = true from rfl] at hbl
   refine Eq.trans ?_ (ih (by omega))
   clear ih
   rw [rl_step (fn := Tryz.f15) (k := 0) rfl]
   simp (disch := first | omega | (simp only [vlen, rowG_len]; omega)) only [vall, reduceCtorEq, ↓reduceIte, zq0, zq1, zq2, zq3, zq4, zq5, zq6, zq7, zq8, zq9, zq10, zq11, zq12, zq13, zq14, zq15, zq16, zq17, en15, bs49, hrow, hn1, Int.toNat_natCast, ik25, hbl, rowG_len, lp15_2]
  ·have hbf : (bt l n == 32) = false := by simpa using hb
   rw [hbf] at hbl
   rw [if_neg hb]
   clear ih
   generalize bt l n = b at *
   rw [rl_step (fn := Tryz.f15) (k := 0) rfl]
   simp (disch := first | omega | (simp only [vlen, rowG_len]; omega)) only [vall, reduceCtorEq, ↓reduceIte, zq0, zq1, zq2, zq3, zq4, zq5, zq6, zq7, zq8, zq9, zq10, zq11, zq12, zq13, zq14, zq15, zq16, zq17, en15, bs49, hrow, hn1, Int.toNat_natCast, ik25, hbl, rowG_len, lp15_2]
theorem rowG_take (l : List UInt8) (n : Nat) : (rowG l).take n = rowG (l.take n) := by simp [rowG, List.map_take]
theorem c15 (l : List UInt8) (hl : l.length ≤ 132) : ∃ L, callT E 15 [.i (.sl 3 (rowG l) false)] [] = some (.i (.sl 3 (rowG (trL l)) false), L) := by
 have h := l15 l hl l.length (Nat.le_refl _)
 have htn := trN_le l l.length
 have htk := rowG_take l (trN l l.length)
 unfold trL
 have hcl := fun rows ex h H => ik35 rows ex h H
 have hlt : (rowG (l.take (trN l l.length))).length = trN l l.length := by rw [rowG_len, List.length_take]; omega
 generalize trN l l.length = n at *
 rw [callT_eq Tryz.func15 rfl fok15 (by simp [Tryz.ntmps15])]
 simp (disch := first | omega | (simp only [vlen, rowG_len, hlt]; omega)) only [vall, reduceCtorEq, ↓reduceIte, zq0, zq1, zq2, zq3, zq4, zq5, zq6, zq7, zq8, zq9, zq10, zq11, zq12, zq13, zq14, zq15, zq16, zq17, en15, bs49, h, htk, hlt, hcl, Int.toNat_natCast, Nat.sub_zero, rowG_len, lp15_2]
 exact ⟨_, rfl⟩
theorem ik15 (l : List UInt8) (hl : l.length ≤ 132) (H : Hp) : isoK E (callT E) 15 [.i (.sl 3 (rowG l) false)] H = some (.i (.sl 3 (rowG (trL l)) false), H) := isoK_val rfl rfl rfl (c15 l hl)
end Go.VI

set_option linter.unusedSimpArgs false
set_option linter.unusedVariables false
set_option maxRecDepth 100000
set_option maxHeartbeats 8000000
namespace Go.VI
open Go.Proofs
def gvR (g : List (List UInt8)) : List (List IV) := g.map fun l => [.sl 3 (rowG l) false]
theorem gvR_len (g : List (List UInt8)) : (gvR g).length = g.length := by simp [gvR]
def vwK (g : List (List UInt8)) (k : Nat) : List (List UInt8) := (g.take k).map trL
theorem vwK_len {g : List (List UInt8)} {k : Nat} (h : k ≤ g.length) : (gvR (vwK g k)).length = k := by rw [gvR_len, vwK, List.length_map, List.length_take]; omega
theorem vwK_snoc {g : List (List UInt8)} {k : Nat} (h : k < g.length) : gvR (vwK g k) ++ [[.sl 3 (rowG (trL (gt g k))) false]] = gvR (vwK g (k + 1)) := by
 rw [gt_eq h, vwK, vwK, List.take_succ_eq_append_getElem h, List.map_append, gvR, gvR, List.map_append]; rfl
set_option linter.defProp false in
def lp6_5 := show ∀ B fr H, execT E B 6 (Code.loop _) fr H = rlM E B 6 (loopAt Tryz.f6 0) [2, 3, 28, 29, 30] [] (matF [] fr H).1 (matB [(3, 2, 1)] (matF [] fr H).1 (matF [] fr H).2) from fun B fr H => rl_introM rfl mt6_5 mb6_5 zf6_5 hd6_5 fr H
theorem l6 (w h : Nat) (hw : 1 ≤ w ∧ w ≤ 132) (g : List (List UInt8)) (hg : g.length ≤ 1000) (hk : okGr w g) (r c : Nat) : ∀ (m k : Nat), k + m = g.length →
  rl E 0 6 (loopAt Tryz.f6 0) [(2, .ptr 0 0 0 0), (3, .ptr 1 0 0 0), (28, .i (.sl 1 (gridR g) false)), (29, .i (.v (.int .i64 (g.length)))), (30, .i (.v (.int .i64 (k))))] [.box [.i (.v (.int .i64 0)), .i (.v (.int .i64 0)), .i (.sl 0 [] true), .i (.v (.int .i64 0)), .i (.v (.int .i64 0)), .i (.v (.bool false))], .box [.i (.v (.int .i64 (w))), .i (.v (.int .i64 (h))), .ref 2 0 0 (k), .i (.v (.int .i64 (r))), .i (.v (.int .i64 (c))), .i (.v (.bool (true)))], .sl 1 0 (gvR (vwK g k)) false] =
   some (.exit 0, [(2, .ptr 0 0 0 0), (3, .ptr 1 0 0 0), (28, .i (.sl 1 (gridR g) false)), (29, .i (.v (.int .i64 (g.length)))), (30, .i (.v (.int .i64 (g.length)))), (31, .i (.v (.bool (false))))], [.box [.i (.v (.int .i64 0)), .i (.v (.int .i64 0)), .i (.sl 0 [] true), .i (.v (.int .i64 0)), .i (.v (.int .i64 0)), .i (.v (.bool false))], .box [.i (.v (.int .i64 (w))), .i (.v (.int .i64 (h))), .ref 2 0 0 (g.length), .i (.v (.int .i64 (r))), .i (.v (.int .i64 (c))), .i (.v (.bool (true)))], .sl 1 0 (gvR (vwK g g.length)) false]) := by
 intro m
 induction m with
 | zero =>
  intro k hkk
  obtain rfl : k = g.length := by omega
  have hl := vwK_len (Nat.le_refl g.length)
  generalize gvR (vwK g g.length) = y at *
  rw [rl_step (fn := Tryz.f6) (k := 0) rfl]
  simp (disch := first | omega | (simp only [vlen, gridR_len, hl]; omega)) only [vall, reduceCtorEq, ↓reduceIte, zq0, zq1, zq2, zq3, zq4, zq5, zq6, zq7, zq8, zq9, zq10, zq11, zq12, zq13, zq14, zq15, zq16, zq17, en6, bs23, bs43, bs49, bs52, gridR_len, hl, lp6_5]
 | succ m ih =>
  intro k hkk
  have hlt : k < g.length := by omega
  have hrow := gridR_at hlt
  obtain ⟨h1, h2⟩ := okGr_at hk hlt
  have hC := fun A B C => isoK_cl1 (f := 16) (g := 37) (c := 3) (H := [A, B, C, .box [.i (.sl 5 (rowC (gt g k)) false)]]) rfl rfl rfl rfl (c16 (gt g k) (by omega))
  have hT := fun H => ik15 (gt g k) (by omega) H
  have hl := vwK_len (Nat.le_of_lt hlt)
  have hs := vwK_snoc hlt
  have e := ih (k + 1) (by omega)
  refine Eq.trans ?_ e
  clear e ih
  generalize rowC (gt g k) = x at *
  generalize rowG (trL (gt g k)) = t at *
  generalize rowG (gt g k) = z at *
  generalize gvR (vwK g (k + 1)) = y' at *
  generalize gvR (vwK g k) = y at *
  rw [rl_step (fn := Tryz.f6) (k := 0) rfl]
  simp (disch := first | omega | (simp only [vlen, gridR_len, hl]; omega)) only [vall, reduceCtorEq, ↓reduceIte, zq0, zq1, zq2, zq3, zq4, zq5, zq6, zq7, zq8, zq9, zq10, zq11, zq12, zq13, zq14, zq15, zq16, zq17, en6, bs23, bs43, bs49, bs52, hrow, ik17, hC, hT, hl, hs, gridR_len, lp6_5]
theorem c6 (w h : Nat) (hw : 1 ≤ w ∧ w ≤ 132) (hh : 1 ≤ h ∧ h ≤ 60) (g g2 : List (List UInt8)) (hg : g.length = h) (hk : okGr w g) (tB : List (List IV)) (r c : Nat) (p : Bool) (hr : r < h) (hc : c < w) :
  ∃ L, callT E 6 [.agg [.i (.v (.int .i64 (w))), .i (.v (.int .i64 (h))), .i (.sl 1 (gridR g) false), .i (.v (.int .i64 (w))), .i (.v (.int .i64 (h))), .i (.sl 1 (gridR g2) false), .i (.v (.int .i64 (r))), .i (.v (.int .i64 (c))), .i (.v (.bool (p))), .i (.v (.int .i64 0)), .i (.v (.int .i64 0)), .i (.v (.bool false)), .i (.v (.int .i64 (-1))), .i (.v (.int .i64 (-1))), .i (.v (.int .i64 0)), .i (.v (.bool false)), .i (.v (.int .u8 66)), .i (.v (.int .u8 66)), .i (.v (.int .i64 0)), .i (.v (.int .i64 (-1))), .i (.v (.int .i64 (-1))), .i (.v (.int .i64 0)), .i (.v (.bool false)), .i (.v (.bool false)), .i (.v (.bool false)), .i (.v (.bool false)), .i (.v (.bool true)), .i (.v (.bool true)), .i (.v (.bool false)), .i (.v (.bool false)), .i (.v (.int .u8 66)), .i (.v (.int .u8 66)), .i (.v (.int .i64 0)), .i (.v (.int .i64 0)), .i (.v (.int .i64 (h))), .i (.sl 1 tB false), .i (.sl 1 [] false), .i (.v (.int .i64 0)), .i (.str []), .i (.str []), .i (.str []), .i (.str [])]] [] = some (.agg [.i (.v (.int .i64 (w))), .i (.v (.int .i64 (h))), .i (.sl 1 (gvR (g.map trL)) false), .i (.v (.int .i64 (r))), .i (.v (.int .i64 (c))), .i (.v (.bool (true)))], L) := by
 have e1 := fun H => ik14 w h hw hh g g2 hg hk tB r c p hr hc H
 have hl := l6 w h hw g (by omega) hk r c g.length 0 (by omega)
 have h' : rl E 0 6 (loopAt Tryz.f6 0) [(2, .ptr 0 0 0 0), (3, .ptr 1 0 0 0), (28, .i (.sl 1 (gridR g) false)), (29, .i (.v (.int .i64 (g.length)))), (30, .i (.v (.int .i64 (0))))] [.box [.i (.v (.int .i64 0)), .i (.v (.int .i64 0)), .i (.sl 0 [] true), .i (.v (.int .i64 0)), .i (.v (.int .i64 0)), .i (.v (.bool false))], .box [.i (.v (.int .i64 (w))), .i (.v (.int .i64 (h))), .ref 2 0 0 (0), .i (.v (.int .i64 (r))), .i (.v (.int .i64 (c))), .i (.v (.bool (true)))], .sl 1 0 ([]) false] = _ := hl
 clear hl
 have hv : vwK g g.length = g.map trL := by rw [vwK, List.take_length]
 rw [hv] at h'
 rw [hg] at h'
 have hgl : (gridR g).length = h := by rw [gridR_len, hg]
 have hvl : (gvR (g.map trL)).length = h := by rw [gvR_len, List.length_map, hg]
 generalize gvR (g.map trL) = v at *
 generalize gridR g = x at *
 generalize gridR g2 = y at *
 rw [callT_eq Tryz.func6 rfl fok6 (by simp [Tryz.ntmps6])]
 simp (disch := first | omega | (simp only [vlen, hgl, hvl]; omega)) only [vall, reduceCtorEq, ↓reduceIte, zq0, zq1, zq2, zq3, zq4, zq5, zq6, zq7, zq8, zq9, zq10, zq11, zq12, zq13, zq14, zq15, zq16, zq17, en6, bs23, bs43, bs49, bs52, e1, h', hgl, hvl, lp6_5]
 exact ⟨_, rfl⟩
end Go.VI

set_option linter.unusedSimpArgs false
set_option linter.unusedVariables false
set_option maxRecDepth 100000
set_option maxHeartbeats 8000000
namespace Go.VI
open Go.Proofs
theorem ik23 {b : UInt8} (hb : pA b) (H : Hp) : isoK E (callT E) 23 [.agg [.i (.str [b]), .i (.v (.bool (false))), .i (.v (.int .i64 (0)))]] H = some (.i (.v (.int .i64 (0))), H) := isoK_val rfl rfl rfl (by
 have e1 := fun H => ik57 hb H
 have e2 := fun H => ik58 hb H
 rw [callT_eq Tryz.func23 rfl fok23 (by simp [Tryz.ntmps23])]
 simp (disch := first | omega | (simp only [vlen]; omega)) only [vall, reduceCtorEq, ↓reduceIte, zq0, zq1, zq2, zq3, zq4, zq5, zq6, zq7, zq8, zq9, zq10, zq11, zq12, zq13, zq14, zq15, zq16, zq17, en23, e1, e2]
 exact ⟨_, rfl⟩)
set_option linter.defProp false in
def lp24_3 := show ∀ B fr H, execT E B 24 (Code.loop _) fr H = rlG E B 24 (loopAt Tryz.f24 0) (gcn B (norm [3, 8, 9, 10] fr) H) from fun B fr H => rl_intro rfl mt24_3 mb24_3 zf24_3 hd24_3 fr H
theorem l24 (l : List UInt8) (hl : l.length ≤ 132) : ∀ (m k : Nat), k + m = l.length →
  rl E 0 24 (loopAt Tryz.f24 0) [(3, .i (.v (.int .i64 (l.length)))), (8, .i (.sl 3 (rowG l) false)), (9, .i (.v (.int .i64 (l.length)))), (10, .i (.v (.int .i64 (k))))] [] =
   some (.exit 0, [(3, .i (.v (.int .i64 (l.length)))), (8, .i (.sl 3 (rowG l) false)), (9, .i (.v (.int .i64 (l.length)))), (10, .i (.v (.int .i64 (l.length)))), (11, .i (.v (.bool (false))))], []) := by
 intro m
 induction m with
 | zero =>
  intro k hk
  obtain rfl : k = l.length := by omega
  rw [rl_step (fn := Tryz.f24) (k := 0) rfl]
  simp (disch := first | omega | (simp only [vlen, rowG_len]; omega)) only [vall, reduceCtorEq, ↓reduceIte, zq0, zq1, zq2, zq3, zq4, zq5, zq6, zq7, zq8, zq9, zq10, zq11, zq12, zq13, zq14, zq15, zq16, zq17, en24, bs49, rowG_len, lp24_3]
 | succ m ih =>
  intro k hk
  have hlt : k < l.length := by omega
  have hrow := rowG_at hlt
  have e := ih (k + 1) (by omega)
  refine Eq.trans ?_ e
  clear e ih
  generalize bt l k = b at *
  rw [rl_step (fn := Tryz.f24) (k := 0) rfl]
  simp (disch := first | omega | (simp only [vlen, rowG_len]; omega)) only [vall, reduceCtorEq, ↓reduceIte, zq0, zq1, zq2, zq3, zq4, zq5, zq6, zq7, zq8, zq9, zq10, zq11, zq12, zq13, zq14, zq15, zq16, zq17, en24, bs49, hrow, rowG_len, lp24_3]
theorem ik24 (l : List UInt8) (hl : l.length ≤ 132) (H : Hp) : isoK E (callT E) 24 [.i (.sl 3 (rowG l) false)] H = some (.i (.v (.int .i64 (l.length))), H) := isoK_val rfl rfl rfl (by
 have h := l24 l hl l.length 0 (by omega)
 have h' : rl E 0 24 (loopAt Tryz.f24 0) [(3, .i (.v (.int .i64 (l.length)))), (8, .i (.sl 3 (rowG l) false)), (9, .i (.v (.int .i64 (l.length)))), (10, .i (.v (.int .i64 (0))))] [] = _ := h
 clear h
 rw [callT_eq Tryz.func24 rfl fok24 (by simp [Tryz.ntmps24])]
 simp (disch := first | omega | (simp only [vlen, rowG_len]; omega)) only [vall, reduceCtorEq, ↓reduceIte, zq0, zq1, zq2, zq3, zq4, zq5, zq6, zq7, zq8, zq9, zq10, zq11, zq12, zq13, zq14, zq15, zq16, zq17, en24, bs49, h', rowG_len, lp24_3]
 exact ⟨_, rfl⟩)
set_option linter.defProp false in
def lp8_11 := show ∀ B fr H, execT E B 8 (Code.loop _) fr H = rlG E B 8 (loopAt Tryz.f8 1) (gcn B (norm [1, 4, 47, 48, 49, 53, 54, 55] fr) H) from fun B fr H => rl_intro rfl mt8_11 mb8_11 zf8_11 hd8_11 fr H
theorem l8_1 (w h r c : Nat) (V : List (List UInt8)) (i n : Nat) (l : List UInt8) (hl : l.length ≤ 132) (hp : pL l) : ∀ (m k : Nat), k + m = l.length →
  rl E 0 8 (loopAt Tryz.f8 1) [(1, .ptr 0 0 0 0), (4, .i (.sl 3 (rowG l) false)), (47, .i (.sl 1 (gvR V) false)), (48, .i (.v (.int .i64 (n)))), (49, .i (.v (.int .i64 (i)))), (53, .i (.sl 3 (rowG l) false)), (54, .i (.v (.int .i64 (l.length)))), (55, .i (.v (.int .i64 (k))))] [.box [.i (.v (.int .i64 (w))), .i (.v (.int .i64 (h))), .i (.sl 1 (gvR V) false), .i (.v (.int .i64 (r))), .i (.v (.int .i64 (c))), .i (.v (.bool (true)))]] =
   some (.exit 3, [(1, .ptr 0 0 0 0), (4, .i (.sl 3 (rowG l) false)), (47, .i (.sl 1 (gvR V) false)), (48, .i (.v (.int .i64 (n)))), (49, .i (.v (.int .i64 (i)))), (53, .i (.sl 3 (rowG l) false)), (54, .i (.v (.int .i64 (l.length)))), (55, .i (.v (.int .i64 (l.length)))), (56, .i (.v (.bool (false))))], [.box [.i (.v (.int .i64 (w))), .i (.v (.int .i64 (h))), .i (.sl 1 (gvR V) false), .i (.v (.int .i64 (r))), .i (.v (.int .i64 (c))), .i (.v (.bool (true)))]]) := by
 intro m
 induction m with
 | zero =>
  intro k hk
  obtain rfl : k = l.length := by omega
  rw [rl_step (fn := Tryz.f8) (k := 1) rfl]
  simp (disch := first | omega | (simp only [vlen, rowG_len]; omega)) only [vall, reduceCtorEq, ↓reduceIte, zq0, zq1, zq2, zq3, zq4, zq5, zq6, zq7, zq8, zq9, zq10, zq11, zq12, zq13, zq14, zq15, zq16, zq17, en8, bs43, bs49, rowG_len, lp8_11]
 | succ m ih =>
  intro k hk
  have hlt : k < l.length := by omega
  have hrow := rowG_at hlt
  have hg := fun H => ik23 (pL_at hp hlt) H
  have e := ih (k + 1) (by omega)
  refine Eq.trans ?_ e
  clear e ih
  generalize bt l k = b at *
  rw [rl_step (fn := Tryz.f8) (k := 1) rfl]
  simp (disch := first | omega | (simp only [vlen, rowG_len]; omega)) only [vall, reduceCtorEq, ↓reduceIte, zq0, zq1, zq2, zq3, zq4, zq5, zq6, zq7, zq8, zq9, zq10, zq11, zq12, zq13, zq14, zq15, zq16, zq17, en8, bs43, bs49, hrow, hg, rowG_len, lp8_11]
def okV (w : Nat) (V : List (List UInt8)) : Prop := ∀ l ∈ V, l.length ≤ w ∧ pL l ∧ (0 < l.length → bt l (l.length - 1) ≠ 32)
theorem okV_at {w : Nat} {V : List (List UInt8)} (h : okV w V) {k : Nat} (hk : k < V.length) : (gt V k).length ≤ w ∧ pL (gt V k) ∧ (0 < (gt V k).length → bt (gt V k) ((gt V k).length - 1) ≠ 32) := by rw [gt_eq hk]; exact h _ (List.getElem_mem hk)
theorem gvR_at {V : List (List UInt8)} {k : Nat} (h : k < V.length) : (gvR V)[k]? = some [.sl 3 (rowG (gt V k)) false] := by rw [gt_eq h]; simp [gvR, h]
set_option linter.defProp false in
def lp8_8 := show ∀ B fr H, execT E B 8 (Code.loop _) fr H = rlG E B 8 (loopAt Tryz.f8 0) (gcn B (norm [1, 47, 48, 49] fr) H) from fun B fr H => rl_intro rfl mt8_8 mb8_8 zf8_8 hd8_8 fr H
theorem l8_0 (w h r c : Nat) (hw : w ≤ 132) (V : List (List UInt8)) (hV : V.length ≤ 1000) (hk : okV w V) : ∀ (m k : Nat), k + m = V.length →
  rl E 0 8 (loopAt Tryz.f8 0) [(1, .ptr 0 0 0 0), (47, .i (.sl 1 (gvR V) false)), (48, .i (.v (.int .i64 (V.length)))), (49, .i (.v (.int .i64 (k))))] [.box [.i (.v (.int .i64 (w))), .i (.v (.int .i64 (h))), .i (.sl 1 (gvR V) false), .i (.v (.int .i64 (r))), .i (.v (.int .i64 (c))), .i (.v (.bool (true)))]] =
   some (.exit 1, [(1, .ptr 0 0 0 0), (47, .i (.sl 1 (gvR V) false)), (48, .i (.v (.int .i64 (V.length)))), (49, .i (.v (.int .i64 (V.length)))), (50, .i (.v (.bool (false))))], [.box [.i (.v (.int .i64 (w))), .i (.v (.int .i64 (h))), .i (.sl 1 (gvR V) false), .i (.v (.int .i64 (r))), .i (.v (.int .i64 (c))), .i (.v (.bool (true)))]]) := by
 intro m
 induction m with
 | zero =>
  intro k hkk
  obtain rfl : k = V.length := by omega
  rw [rl_step (fn := Tryz.f8) (k := 0) rfl]
  simp (disch := first | omega | (simp only [vlen, gvR_len]; omega)) only [vall, reduceCtorEq, ↓reduceIte, zq0, zq1, zq2, zq3, zq4, zq5, zq6, zq7, zq8, zq9, zq10, zq11, zq12, zq13, zq14, zq15, zq16, zq17, en8, bs43, bs49, gvR_len, lp8_8]
 | succ m ih =>
  intro k hkk
  have hlt : k < V.length := by omega
  have hrow := gvR_at hlt
  obtain ⟨h1, h2, h3⟩ := okV_at hk hlt
  have e := ih (k + 1) (by omega)
  generalize gt V k = l at *
  have hin := l8_1 w h r c V k V.length l (by omega) h2 l.length 0 (by omega)
  have hin' : rl E 0 8 (loopAt Tryz.f8 1) [(1, .ptr 0 0 0 0), (4, .i (.sl 3 (rowG l) false)), (47, .i (.sl 1 (gvR V) false)), (48, .i (.v (.int .i64 (V.length)))), (49, .i (.v (.int .i64 (k)))), (53, .i (.sl 3 (rowG l) false)), (54, .i (.v (.int .i64 (l.length)))), (55, .i (.v (.int .i64 (0))))] [.box [.i (.v (.int .i64 (w))), .i (.v (.int .i64 (h))), .i (.sl 1 (gvR V) false), .i (.v (.int .i64 (r))), .i (.v (.int .i64 (c))), .i (.v (.bool (true)))]] = _ := hin
  clear hin
  have hwd := fun H => ik24 l (by omega) H
  have hgl := rowG_len l
  by_cases h0 : 0 < l.length
  ·have hlast := rowG_at (show l.length - 1 < l.length by omega)
   have hne := h3 h0
   have hbl := eq_gl (bt l (l.length - 1))
   have hbf : (bt l (l.length - 1) == 32) = false := by simpa using hne
   rw [hbf] at hbl
   have hcast : (l.length : Int) - 1 = ((l.length - 1 : Nat) : Int) := by omega
   refine Eq.trans ?_ e
   clear e ih
   generalize bt l (l.length - 1) = b at *
   rw [rl_step (fn := Tryz.f8) (k := 0) rfl]
   simp (disch := first | omega | (simp only [vlen, hgl, gvR_len]; omega)) only [vall, reduceCtorEq, ↓reduceIte, zq0, zq1, zq2, zq3, zq4, zq5, zq6, zq7, zq8, zq9, zq10, zq11, zq12, zq13, zq14, zq15, zq16, zq17, en8, bs43, bs49, hrow, hin', hwd, hlast, hbl, hcast, Int.toNat_natCast, ik25, hgl, gvR_len, lp8_8, lp8_11]
  ·have h00 : l.length = 0 := by omega
   refine Eq.trans ?_ e
   clear e ih
   rw [h00] at hin' hwd hgl
   simp only [Int.natCast_zero] at hin' hwd
   rw [rl_step (fn := Tryz.f8) (k := 0) rfl]
   simp (disch := first | omega | (simp only [vlen, hgl, gvR_len]; omega)) only [vall, reduceCtorEq, ↓reduceIte, zq0, zq1, zq2, zq3, zq4, zq5, zq6, zq7, zq8, zq9, zq10, zq11, zq12, zq13, zq14, zq15, zq16, zq17, en8, bs43, bs49, hrow, hin', hwd, h00, ik25, hgl, gvR_len, lp8_8, lp8_11]
theorem c8 (w h r c : Nat) (hw : 1 ≤ w ∧ w ≤ 132) (hh : 1 ≤ h ∧ h ≤ 60) (hr : r < h) (hc : c < w) (V : List (List UInt8)) (hV : V.length = h) (hk : okV w V) : ∃ L, callT E 8 [.agg [.i (.v (.int .i64 (w))), .i (.v (.int .i64 (h))), .i (.sl 1 (gvR V) false), .i (.v (.int .i64 (r))), .i (.v (.int .i64 (c))), .i (.v (.bool (true)))]] [] = some (.i (.v (.int .i64 (0))), L) := by
 have e1 := fun H => ik22 w h hw hh H
 have hl := l8_0 w h r c hw.2 V (by omega) hk V.length 0 (by omega)
 have h' : rl E 0 8 (loopAt Tryz.f8 0) [(1, .ptr 0 0 0 0), (47, .i (.sl 1 (gvR V) false)), (48, .i (.v (.int .i64 (V.length)))), (49, .i (.v (.int .i64 (0))))] [.box [.i (.v (.int .i64 (w))), .i (.v (.int .i64 (h))), .i (.sl 1 (gvR V) false), .i (.v (.int .i64 (r))), .i (.v (.int .i64 (c))), .i (.v (.bool (true)))]] = _ := hl
 clear hl
 rw [hV] at h'
 have hgl : (gvR V).length = h := by rw [gvR_len, hV]
 generalize gvR V = v at *
 rw [callT_eq Tryz.func8 rfl fok8 (by simp [Tryz.ntmps8])]
 simp (disch := first | omega | (simp only [vlen, hgl]; omega)) only [vall, reduceCtorEq, ↓reduceIte, zq0, zq1, zq2, zq3, zq4, zq5, zq6, zq7, zq8, zq9, zq10, zq11, zq12, zq13, zq14, zq15, zq16, zq17, en8, bs43, bs49, e1, h', hgl, lp8_8]
 exact ⟨_, rfl⟩
theorem textOf_rowG : ∀ l : List UInt8, textOf (rowG l) = some l
 | [] => rfl
 | b :: l => by
  have ih := textOf_rowG l
  unfold rowG at ih ⊢
  rw [List.map_cons, glR, textOf, ih]; rfl
theorem ik9 (l : List UInt8) (hl : l.length ≤ 132) (H : Hp) : isoK E (callT E) 9 [.i (.sl 3 (rowG l) false)] H = some (.i (.str l), H) :=
 isoK_ext (show E.ext 9 = some extText from rfl) rfl rfl ⟨[], by
  unfold extText
  simp only [textOf_rowG]
  rw [if_pos (by rw [rowG_len]; omega)]⟩
end Go.VI

set_option linter.unusedSimpArgs false
set_option linter.unusedVariables false
set_option maxRecDepth 100000
set_option maxHeartbeats 8000000
namespace Go.VI
open Go.Proofs
theorem isoK_le {cl cl2 : CallF} (h : CLe cl cl2) {f : FuncId} {a : List AV} {H : Hp} {r : AV × Hp} (e : isoK E cl f a H = some r) : isoK E cl2 f a H = some r := by
 unfold isoK at e ⊢
 have key : ∀ a' H' x, exCl E cl f a' H' = some x → exCl E cl2 f a' H' = some x := by
  intro a' H' x hx
  unfold exCl at hx ⊢
  split
  ·rename_i g hg; rw [hg] at hx; exact hx
  ·rename_i hg; rw [hg] at hx; exact h _ _ _ _ hx
 dsimp only at e ⊢
 split at e
 ·cases e
 ·rename_i r0 L hz
  rw [key _ _ _ hz]; exact e
theorem isoK_k {f n : Nat} {a : List AV} {H : Hp} {r : AV × Hp} (e : isoK E (call E n) f a H = some r) : isoK E (callT E) f a H = some r := isoK_le (cle_T n) e
theorem kn_eff : isoK E (callT E) 100 [.ptr 0 0 0 0] [.box [.i (.v (.int .i64 3)), .i (.v (.int .i64 1)), .ref 1 0 0 1, .i (.v (.int .i64 3)), .i (.v (.int .i64 1)), .ref 2 0 0 1, .i (.v (.int .i64 0)), .i (.v (.int .i64 1)), .i (.v (.bool false)), .i (.v (.int .i64 0)), .i (.v (.int .i64 0)), .i (.v (.bool false)), .i (.v (.int .i64 (-1))), .i (.v (.int .i64 (-1))), .i (.v (.int .i64 0)), .i (.v (.bool false)), .i (.v (.int .u8 66)), .i (.v (.int .u8 66)), .i (.v (.int .i64 0)), .i (.v (.int .i64 (-1))), .i (.v (.int .i64 (-1))), .i (.v (.int .i64 0)), .i (.v (.bool false)), .i (.v (.bool false)), .i (.v (.bool false)), .i (.v (.bool false)), .i (.v (.bool true)), .i (.v (.bool true)), .i (.v (.bool false)), .i (.v (.bool false)), .i (.v (.int .u8 66)), .i (.v (.int .u8 66)), .i (.v (.int .i64 0)), .i (.v (.int .i64 0)), .i (.v (.int .i64 1)), .ref 3 0 0 3, .ref 4 0 0 0, .i (.v (.int .i64 2)), .i (.str []), .i (.str []), .i (.str []), .i (.str [])], .sl 1 0 [[.sl 5 [[.str [97], .v (.int .i64 1), .v (.int .i64 (-1)), .v (.int .i64 (-1)), .v (.int .i64 0)], [.str [32], .v (.int .i64 1), .v (.int .i64 (-1)), .v (.int .i64 (-1)), .v (.int .i64 0)], [.str [32], .v (.int .i64 1), .v (.int .i64 (-1)), .v (.int .i64 (-1)), .v (.int .i64 0)]] false]] false, .sl 1 0 [[.sl 5 [[.str [32], .v (.int .i64 1), .v (.int .i64 (-1)), .v (.int .i64 (-1)), .v (.int .i64 0)], [.str [32], .v (.int .i64 1), .v (.int .i64 (-1)), .v (.int .i64 (-1)), .v (.int .i64 0)], [.str [32], .v (.int .i64 1), .v (.int .i64 (-1)), .v (.int .i64 (-1)), .v (.int .i64 0)]] false]] false, .sl 1 0 [[.v (.bool true)], [.v (.bool false)], [.v (.bool false)]] false, .sl 1 0 [] false, .box [.i (.v (.int .i64 4)), .i (.v (.int .i32 0)), .i (.v (.int .u8 67)), .i (.v (.int .u8 0)), .i (.str []), .i (.sl 1 [] false), .i (.str [])]] = some (.mref 6, [.box [.i (.v (.int .i64 3)), .i (.v (.int .i64 1)), .ref 1 0 0 1, .i (.v (.int .i64 3)), .i (.v (.int .i64 1)), .ref 2 0 0 1, .i (.v (.int .i64 0)), .i (.v (.int .i64 1)), .i (.v (.bool false)), .i (.v (.int .i64 0)), .i (.v (.int .i64 0)), .i (.v (.bool false)), .i (.v (.int .i64 (-1))), .i (.v (.int .i64 (-1))), .i (.v (.int .i64 0)), .i (.v (.bool false)), .i (.v (.int .u8 66)), .i (.v (.int .u8 66)), .i (.v (.int .i64 0)), .i (.v (.int .i64 (-1))), .i (.v (.int .i64 (-1))), .i (.v (.int .i64 0)), .i (.v (.bool false)), .i (.v (.bool false)), .i (.v (.bool false)), .i (.v (.bool false)), .i (.v (.bool true)), .i (.v (.bool true)), .i (.v (.bool false)), .i (.v (.bool false)), .i (.v (.int .u8 66)), .i (.v (.int .u8 66)), .i (.v (.int .i64 0)), .i (.v (.int .i64 0)), .i (.v (.int .i64 1)), .ref 3 0 0 3, .ref 4 0 0 0, .i (.v (.int .i64 2)), .i (.str []), .i (.str []), .i (.str []), .i (.str [])], .sl 1 0 [[.sl 5 [[.str [97], .v (.int .i64 1), .v (.int .i64 (-1)), .v (.int .i64 (-1)), .v (.int .i64 0)], [.str [32], .v (.int .i64 1), .v (.int .i64 (-1)), .v (.int .i64 (-1)), .v (.int .i64 0)], [.str [32], .v (.int .i64 1), .v (.int .i64 (-1)), .v (.int .i64 (-1)), .v (.int .i64 0)]] false]] false, .sl 1 0 [[.sl 5 [[.str [32], .v (.int .i64 1), .v (.int .i64 (-1)), .v (.int .i64 (-1)), .v (.int .i64 0)], [.str [32], .v (.int .i64 1), .v (.int .i64 (-1)), .v (.int .i64 (-1)), .v (.int .i64 0)], [.str [32], .v (.int .i64 1), .v (.int .i64 (-1)), .v (.int .i64 (-1)), .v (.int .i64 0)]] false]] false, .sl 1 0 [[.v (.bool true)], [.v (.bool false)], [.v (.bool false)]] false, .sl 1 0 [] false, .box [.i (.v (.int .i64 4)), .i (.v (.int .i32 0)), .i (.v (.int .u8 67)), .i (.v (.int .u8 0)), .i (.str []), .i (.sl 1 [] false), .i (.str [])], .map [(.v (.int .u8 64), .clo (.func 142) [] [.ptr 7 0 0 0]), (.v (.int .u8 65), .clo (.func 142) [] [.ptr 9 0 0 0]), (.v (.int .u8 66), .clo (.func 142) [] [.ptr 10 0 0 0]), (.v (.int .u8 67), .clo (.func 142) [] [.ptr 11 0 0 0]), (.v (.int .u8 68), .clo (.func 142) [] [.ptr 12 0 0 0]), (.v (.int .u8 69), .clo (.func 142) [] [.ptr 13 0 0 0]), (.v (.int .u8 70), .clo (.func 142) [] [.ptr 15 0 0 0]), (.v (.int .u8 71), .clo (.func 142) [] [.ptr 16 0 0 0]), (.v (.int .u8 72), .clo (.func 148) [] [.ptr 8 0 0 0]), (.v (.int .u8 73), .clo (.func 142) [] [.ptr 17 0 0 0]), (.v (.int .u8 74), .clo (.func 145) [] [.ptr 18 0 0 0]), (.v (.int .u8 75), .clo (.func 145) [] [.ptr 19 0 0 0]), (.v (.int .u8 76), .clo (.func 142) [] [.ptr 20 0 0 0]), (.v (.int .u8 77), .clo (.func 142) [] [.ptr 22 0 0 0]), (.v (.int .u8 80), .clo (.func 142) [] [.ptr 23 0 0 0]), (.v (.int .u8 83), .clo (.func 142) [] [.ptr 24 0 0 0]), (.v (.int .u8 84), .clo (.func 142) [] [.ptr 25 0 0 0]), (.v (.int .u8 88), .clo (.func 142) [] [.ptr 26 0 0 0]), (.v (.int .u8 90), .clo (.func 142) [] [.ptr 27 0 0 0]), (.v (.int .u8 96), .clo (.func 142) [] [.ptr 16 0 0 0]), (.v (.int .u8 97), .clo (.func 142) [] [.ptr 28 0 0 0]), (.v (.int .u8 100), .clo (.func 142) [] [.ptr 29 0 0 0]), (.v (.int .u8 101), .clo (.func 142) [] [.ptr 30 0 0 0]), (.v (.int .u8 102), .clo (.func 148) [] [.ptr 8 0 0 0]), (.v (.int .u8 103), .clo (.func 145) [] [.ptr 31 0 0 0]), (.v (.int .u8 110), .clo (.func 145) [] [.ptr 32 0 0 0]), (.v (.int .u8 114), .clo (.func 173) [.ptr 0 0 0 0] []), (.v (.int .u8 115), .clo (.func 174) [] [.ptr 8 0 0 0]), (.v (.int .u8 117), .clo (.func 175) [] [.ptr 8 0 0 0])], .box [.clo (.func 152) [] [.ptr 8 0 0 0]], .box [.ptr 0 0 0 0], .box [.clo (.func 147) [.ptr 0 0 0 0] []], .box [.clo (.func 146) [] [.ptr 8 0 0 0]], .box [.clo (.func 88) [.ptr 0 0 0 0] []], .box [.clo (.func 156) [] [.ptr 8 0 0 0]], .box [.clo (.func 157) [] [.ptr 14 0 0 0, .ptr 8 0 0 0]], .box [.clo (.func 146) [] [.ptr 8 0 0 0]], .box [.clo (.func 158) [] [.ptr 8 0 0 0]], .box [.clo (.func 149) [] [.ptr 8 0 0 0]], .box [.clo (.func 160) [] [.ptr 8 0 0 0]], .box [.clo (.func 164) [.ptr 0 0 0 0] []], .box [.clo (.func 165) [.ptr 0 0 0 0] []], .box [.clo (.func 166) [] [.ptr 21 0 0 0]], .box [.clo (.func 151) [] [.ptr 8 0 0 0]], .box [.clo (.func 151) [] [.ptr 8 0 0 0]], .box [.clo (.func 154) [] [.ptr 8 0 0 0]], .box [.clo (.func 167) [] [.ptr 8 0 0 0]], .box [.clo (.func 168) [] [.ptr 8 0 0 0]], .box [.clo (.func 169) [] [.ptr 8 0 0 0]], .box [.clo (.func 162) [] [.ptr 8 0 0 0]], .box [.clo (.func 88) [.ptr 0 0 0 0] []], .box [.clo (.func 159) [] [.ptr 8 0 0 0]], .box [.clo (.func 146) [] [.ptr 8 0 0 0]], .box [.clo (.func 171) [.ptr 0 0 0 0] []], .box [.clo (.func 172) [.ptr 0 0 0 0] []]]) := isoK_k (n := 400) (by kernel_rfl)
theorem kn_clo : isoK E (callT E) 142 [.i (.sl 1 [] false), .ptr 11 0 0 0] [.box [.i (.v (.int .i64 3)), .i (.v (.int .i64 1)), .ref 1 0 0 1, .i (.v (.int .i64 3)), .i (.v (.int .i64 1)), .ref 2 0 0 1, .i (.v (.int .i64 0)), .i (.v (.int .i64 1)), .i (.v (.bool false)), .i (.v (.int .i64 0)), .i (.v (.int .i64 0)), .i (.v (.bool false)), .i (.v (.int .i64 (-1))), .i (.v (.int .i64 (-1))), .i (.v (.int .i64 0)), .i (.v (.bool false)), .i (.v (.int .u8 66)), .i (.v (.int .u8 66)), .i (.v (.int .i64 0)), .i (.v (.int .i64 (-1))), .i (.v (.int .i64 (-1))), .i (.v (.int .i64 0)), .i (.v (.bool false)), .i (.v (.bool false)), .i (.v (.bool false)), .i (.v (.bool false)), .i (.v (.bool true)), .i (.v (.bool true)), .i (.v (.bool false)), .i (.v (.bool false)), .i (.v (.int .u8 66)), .i (.v (.int .u8 66)), .i (.v (.int .i64 0)), .i (.v (.int .i64 0)), .i (.v (.int .i64 1)), .ref 3 0 0 3, .ref 4 0 0 0, .i (.v (.int .i64 2)), .i (.str []), .i (.str []), .i (.str []), .i (.str [])], .sl 1 0 [[.sl 5 [[.str [97], .v (.int .i64 1), .v (.int .i64 (-1)), .v (.int .i64 (-1)), .v (.int .i64 0)], [.str [32], .v (.int .i64 1), .v (.int .i64 (-1)), .v (.int .i64 (-1)), .v (.int .i64 0)], [.str [32], .v (.int .i64 1), .v (.int .i64 (-1)), .v (.int .i64 (-1)), .v (.int .i64 0)]] false]] false, .sl 1 0 [[.sl 5 [[.str [32], .v (.int .i64 1), .v (.int .i64 (-1)), .v (.int .i64 (-1)), .v (.int .i64 0)], [.str [32], .v (.int .i64 1), .v (.int .i64 (-1)), .v (.int .i64 (-1)), .v (.int .i64 0)], [.str [32], .v (.int .i64 1), .v (.int .i64 (-1)), .v (.int .i64 (-1)), .v (.int .i64 0)]] false]] false, .sl 1 0 [[.v (.bool true)], [.v (.bool false)], [.v (.bool false)]] false, .sl 1 0 [] false, .box [.i (.v (.int .i64 4)), .i (.v (.int .i32 0)), .i (.v (.int .u8 67)), .i (.v (.int .u8 0)), .i (.str []), .i (.sl 1 [] false), .i (.str [])], .map [(.v (.int .u8 64), .clo (.func 142) [] [.ptr 7 0 0 0]), (.v (.int .u8 65), .clo (.func 142) [] [.ptr 9 0 0 0]), (.v (.int .u8 66), .clo (.func 142) [] [.ptr 10 0 0 0]), (.v (.int .u8 67), .clo (.func 142) [] [.ptr 11 0 0 0]), (.v (.int .u8 68), .clo (.func 142) [] [.ptr 12 0 0 0]), (.v (.int .u8 69), .clo (.func 142) [] [.ptr 13 0 0 0]), (.v (.int .u8 70), .clo (.func 142) [] [.ptr 15 0 0 0]), (.v (.int .u8 71), .clo (.func 142) [] [.ptr 16 0 0 0]), (.v (.int .u8 72), .clo (.func 148) [] [.ptr 8 0 0 0]), (.v (.int .u8 73), .clo (.func 142) [] [.ptr 17 0 0 0]), (.v (.int .u8 74), .clo (.func 145) [] [.ptr 18 0 0 0]), (.v (.int .u8 75), .clo (.func 145) [] [.ptr 19 0 0 0]), (.v (.int .u8 76), .clo (.func 142) [] [.ptr 20 0 0 0]), (.v (.int .u8 77), .clo (.func 142) [] [.ptr 22 0 0 0]), (.v (.int .u8 80), .clo (.func 142) [] [.ptr 23 0 0 0]), (.v (.int .u8 83), .clo (.func 142) [] [.ptr 24 0 0 0]), (.v (.int .u8 84), .clo (.func 142) [] [.ptr 25 0 0 0]), (.v (.int .u8 88), .clo (.func 142) [] [.ptr 26 0 0 0]), (.v (.int .u8 90), .clo (.func 142) [] [.ptr 27 0 0 0]), (.v (.int .u8 96), .clo (.func 142) [] [.ptr 16 0 0 0]), (.v (.int .u8 97), .clo (.func 142) [] [.ptr 28 0 0 0]), (.v (.int .u8 100), .clo (.func 142) [] [.ptr 29 0 0 0]), (.v (.int .u8 101), .clo (.func 142) [] [.ptr 30 0 0 0]), (.v (.int .u8 102), .clo (.func 148) [] [.ptr 8 0 0 0]), (.v (.int .u8 103), .clo (.func 145) [] [.ptr 31 0 0 0]), (.v (.int .u8 110), .clo (.func 145) [] [.ptr 32 0 0 0]), (.v (.int .u8 114), .clo (.func 173) [.ptr 0 0 0 0] []), (.v (.int .u8 115), .clo (.func 174) [] [.ptr 8 0 0 0]), (.v (.int .u8 117), .clo (.func 175) [] [.ptr 8 0 0 0])], .box [.clo (.func 152) [] [.ptr 8 0 0 0]], .box [.ptr 0 0 0 0], .box [.clo (.func 147) [.ptr 0 0 0 0] []], .box [.clo (.func 146) [] [.ptr 8 0 0 0]], .box [.clo (.func 88) [.ptr 0 0 0 0] []], .box [.clo (.func 156) [] [.ptr 8 0 0 0]], .box [.clo (.func 157) [] [.ptr 14 0 0 0, .ptr 8 0 0 0]], .box [.clo (.func 146) [] [.ptr 8 0 0 0]], .box [.clo (.func 158) [] [.ptr 8 0 0 0]], .box [.clo (.func 149) [] [.ptr 8 0 0 0]], .box [.clo (.func 160) [] [.ptr 8 0 0 0]], .box [.clo (.func 164) [.ptr 0 0 0 0] []], .box [.clo (.func 165) [.ptr 0 0 0 0] []], .box [.clo (.func 166) [] [.ptr 21 0 0 0]], .box [.clo (.func 151) [] [.ptr 8 0 0 0]], .box [.clo (.func 151) [] [.ptr 8 0 0 0]], .box [.clo (.func 154) [] [.ptr 8 0 0 0]], .box [.clo (.func 167) [] [.ptr 8 0 0 0]], .box [.clo (.func 168) [] [.ptr 8 0 0 0]], .box [.clo (.func 169) [] [.ptr 8 0 0 0]], .box [.clo (.func 162) [] [.ptr 8 0 0 0]], .box [.clo (.func 88) [.ptr 0 0 0 0] []], .box [.clo (.func 159) [] [.ptr 8 0 0 0]], .box [.clo (.func 146) [] [.ptr 8 0 0 0]], .box [.clo (.func 171) [.ptr 0 0 0 0] []], .box [.clo (.func 172) [.ptr 0 0 0 0] []]] = some (.tup [], [.box [.i (.v (.int .i64 3)), .i (.v (.int .i64 1)), .ref 1 0 0 1, .i (.v (.int .i64 3)), .i (.v (.int .i64 1)), .ref 2 0 0 1, .i (.v (.int .i64 0)), .i (.v (.int .i64 2)), .i (.v (.bool false)), .i (.v (.int .i64 0)), .i (.v (.int .i64 0)), .i (.v (.bool false)), .i (.v (.int .i64 (-1))), .i (.v (.int .i64 (-1))), .i (.v (.int .i64 0)), .i (.v (.bool false)), .i (.v (.int .u8 66)), .i (.v (.int .u8 66)), .i (.v (.int .i64 0)), .i (.v (.int .i64 (-1))), .i (.v (.int .i64 (-1))), .i (.v (.int .i64 0)), .i (.v (.bool false)), .i (.v (.bool false)), .i (.v (.bool false)), .i (.v (.bool false)), .i (.v (.bool true)), .i (.v (.bool true)), .i (.v (.bool false)), .i (.v (.bool false)), .i (.v (.int .u8 66)), .i (.v (.int .u8 66)), .i (.v (.int .i64 0)), .i (.v (.int .i64 0)), .i (.v (.int .i64 1)), .ref 3 0 0 3, .ref 4 0 0 0, .i (.v (.int .i64 2)), .i (.str []), .i (.str []), .i (.str []), .i (.str [])], .sl 1 0 [[.sl 5 [[.str [97], .v (.int .i64 1), .v (.int .i64 (-1)), .v (.int .i64 (-1)), .v (.int .i64 0)], [.str [32], .v (.int .i64 1), .v (.int .i64 (-1)), .v (.int .i64 (-1)), .v (.int .i64 0)], [.str [32], .v (.int .i64 1), .v (.int .i64 (-1)), .v (.int .i64 (-1)), .v (.int .i64 0)]] false]] false, .sl 1 0 [[.sl 5 [[.str [32], .v (.int .i64 1), .v (.int .i64 (-1)), .v (.int .i64 (-1)), .v (.int .i64 0)], [.str [32], .v (.int .i64 1), .v (.int .i64 (-1)), .v (.int .i64 (-1)), .v (.int .i64 0)], [.str [32], .v (.int .i64 1), .v (.int .i64 (-1)), .v (.int .i64 (-1)), .v (.int .i64 0)]] false]] false, .sl 1 0 [[.v (.bool true)], [.v (.bool false)], [.v (.bool false)]] false, .sl 1 0 [] false, .box [.i (.v (.int .i64 4)), .i (.v (.int .i32 0)), .i (.v (.int .u8 67)), .i (.v (.int .u8 0)), .i (.str []), .i (.sl 1 [] false), .i (.str [])], .map [(.v (.int .u8 64), .clo (.func 142) [] [.ptr 7 0 0 0]), (.v (.int .u8 65), .clo (.func 142) [] [.ptr 9 0 0 0]), (.v (.int .u8 66), .clo (.func 142) [] [.ptr 10 0 0 0]), (.v (.int .u8 67), .clo (.func 142) [] [.ptr 11 0 0 0]), (.v (.int .u8 68), .clo (.func 142) [] [.ptr 12 0 0 0]), (.v (.int .u8 69), .clo (.func 142) [] [.ptr 13 0 0 0]), (.v (.int .u8 70), .clo (.func 142) [] [.ptr 15 0 0 0]), (.v (.int .u8 71), .clo (.func 142) [] [.ptr 16 0 0 0]), (.v (.int .u8 72), .clo (.func 148) [] [.ptr 8 0 0 0]), (.v (.int .u8 73), .clo (.func 142) [] [.ptr 17 0 0 0]), (.v (.int .u8 74), .clo (.func 145) [] [.ptr 18 0 0 0]), (.v (.int .u8 75), .clo (.func 145) [] [.ptr 19 0 0 0]), (.v (.int .u8 76), .clo (.func 142) [] [.ptr 20 0 0 0]), (.v (.int .u8 77), .clo (.func 142) [] [.ptr 22 0 0 0]), (.v (.int .u8 80), .clo (.func 142) [] [.ptr 23 0 0 0]), (.v (.int .u8 83), .clo (.func 142) [] [.ptr 24 0 0 0]), (.v (.int .u8 84), .clo (.func 142) [] [.ptr 25 0 0 0]), (.v (.int .u8 88), .clo (.func 142) [] [.ptr 26 0 0 0]), (.v (.int .u8 90), .clo (.func 142) [] [.ptr 27 0 0 0]), (.v (.int .u8 96), .clo (.func 142) [] [.ptr 16 0 0 0]), (.v (.int .u8 97), .clo (.func 142) [] [.ptr 28 0 0 0]), (.v (.int .u8 100), .clo (.func 142) [] [.ptr 29 0 0 0]), (.v (.int .u8 101), .clo (.func 142) [] [.ptr 30 0 0 0]), (.v (.int .u8 102), .clo (.func 148) [] [.ptr 8 0 0 0]), (.v (.int .u8 103), .clo (.func 145) [] [.ptr 31 0 0 0]), (.v (.int .u8 110), .clo (.func 145) [] [.ptr 32 0 0 0]), (.v (.int .u8 114), .clo (.func 173) [.ptr 0 0 0 0] []), (.v (.int .u8 115), .clo (.func 174) [] [.ptr 8 0 0 0]), (.v (.int .u8 117), .clo (.func 175) [] [.ptr 8 0 0 0])], .box [.clo (.func 152) [] [.ptr 8 0 0 0]], .box [.ptr 0 0 0 0], .box [.clo (.func 147) [.ptr 0 0 0 0] []], .box [.clo (.func 146) [] [.ptr 8 0 0 0]], .box [.clo (.func 88) [.ptr 0 0 0 0] []], .box [.clo (.func 156) [] [.ptr 8 0 0 0]], .box [.clo (.func 157) [] [.ptr 14 0 0 0, .ptr 8 0 0 0]], .box [.clo (.func 146) [] [.ptr 8 0 0 0]], .box [.clo (.func 158) [] [.ptr 8 0 0 0]], .box [.clo (.func 149) [] [.ptr 8 0 0 0]], .box [.clo (.func 160) [] [.ptr 8 0 0 0]], .box [.clo (.func 164) [.ptr 0 0 0 0] []], .box [.clo (.func 165) [.ptr 0 0 0 0] []], .box [.clo (.func 166) [] [.ptr 21 0 0 0]], .box [.clo (.func 151) [] [.ptr 8 0 0 0]], .box [.clo (.func 151) [] [.ptr 8 0 0 0]], .box [.clo (.func 154) [] [.ptr 8 0 0 0]], .box [.clo (.func 167) [] [.ptr 8 0 0 0]], .box [.clo (.func 168) [] [.ptr 8 0 0 0]], .box [.clo (.func 169) [] [.ptr 8 0 0 0]], .box [.clo (.func 162) [] [.ptr 8 0 0 0]], .box [.clo (.func 88) [.ptr 0 0 0 0] []], .box [.clo (.func 159) [] [.ptr 8 0 0 0]], .box [.clo (.func 146) [] [.ptr 8 0 0 0]], .box [.clo (.func 171) [.ptr 0 0 0 0] []], .box [.clo (.func 172) [.ptr 0 0 0 0] []]]) := isoK_k (n := 400) (by kernel_rfl)
theorem kn_lk : lookC E 158 (.i (.v (.int .u8 67))) true (some (.map [(.v (.int .u8 64), .clo (.func 142) [] [.ptr 7 0 0 0]), (.v (.int .u8 65), .clo (.func 142) [] [.ptr 9 0 0 0]), (.v (.int .u8 66), .clo (.func 142) [] [.ptr 10 0 0 0]), (.v (.int .u8 67), .clo (.func 142) [] [.ptr 11 0 0 0]), (.v (.int .u8 68), .clo (.func 142) [] [.ptr 12 0 0 0]), (.v (.int .u8 69), .clo (.func 142) [] [.ptr 13 0 0 0]), (.v (.int .u8 70), .clo (.func 142) [] [.ptr 15 0 0 0]), (.v (.int .u8 71), .clo (.func 142) [] [.ptr 16 0 0 0]), (.v (.int .u8 72), .clo (.func 148) [] [.ptr 8 0 0 0]), (.v (.int .u8 73), .clo (.func 142) [] [.ptr 17 0 0 0]), (.v (.int .u8 74), .clo (.func 145) [] [.ptr 18 0 0 0]), (.v (.int .u8 75), .clo (.func 145) [] [.ptr 19 0 0 0]), (.v (.int .u8 76), .clo (.func 142) [] [.ptr 20 0 0 0]), (.v (.int .u8 77), .clo (.func 142) [] [.ptr 22 0 0 0]), (.v (.int .u8 80), .clo (.func 142) [] [.ptr 23 0 0 0]), (.v (.int .u8 83), .clo (.func 142) [] [.ptr 24 0 0 0]), (.v (.int .u8 84), .clo (.func 142) [] [.ptr 25 0 0 0]), (.v (.int .u8 88), .clo (.func 142) [] [.ptr 26 0 0 0]), (.v (.int .u8 90), .clo (.func 142) [] [.ptr 27 0 0 0]), (.v (.int .u8 96), .clo (.func 142) [] [.ptr 16 0 0 0]), (.v (.int .u8 97), .clo (.func 142) [] [.ptr 28 0 0 0]), (.v (.int .u8 100), .clo (.func 142) [] [.ptr 29 0 0 0]), (.v (.int .u8 101), .clo (.func 142) [] [.ptr 30 0 0 0]), (.v (.int .u8 102), .clo (.func 148) [] [.ptr 8 0 0 0]), (.v (.int .u8 103), .clo (.func 145) [] [.ptr 31 0 0 0]), (.v (.int .u8 110), .clo (.func 145) [] [.ptr 32 0 0 0]), (.v (.int .u8 114), .clo (.func 173) [.ptr 0 0 0 0] []), (.v (.int .u8 115), .clo (.func 174) [] [.ptr 8 0 0 0]), (.v (.int .u8 117), .clo (.func 175) [] [.ptr 8 0 0 0])])) = some (.tup [.clo (.func 142) [] [.ptr 11 0 0 0], .i (.v (.bool true))]) := by kernel_rfl
end Go.VI

set_option linter.unusedSimpArgs false
set_option linter.unusedVariables false
set_option maxRecDepth 100000
set_option maxHeartbeats 8000000
namespace Go.VI
open Go.Proofs
theorem callT_ex {f n : Nat} {args : List AV} {r : AV} (h : (call E n f args []).map (·.1) = some r) : ∃ L, callT E f args [] = some (r, L) := by
 cases e : call E n f args [] with
 | none => rw [e] at h; cases h
 | some x => rw [e] at h; obtain ⟨a, L⟩ := x; simp only [Option.map_some, Option.some.injEq] at h; subst h; exact ⟨L, callT_of e⟩
theorem kn_ckC : ∃ L, callT E 50 [.agg [.i (.v (.int .i64 4)), .i (.v (.int .i32 0)), .i (.v (.int .u8 67)), .i (.v (.int .u8 0)), .i (.str []), .i (.sl 1 [] false), .i (.str [])]] [] = some (.i (.v (.int .i64 0)), L) := callT_ex (n := 60) (by kernel_rfl)
theorem kn_fa : ∃ L, callT E 20 [.agg [.i (.v (.int .i64 0)), .i (.str []), .i (.str [])], .i (.str [97, 27, 91])] [] = some (.tup [.agg [.i (.v (.int .i64 2)), .i (.str []), .i (.str [])], .i (.sl 7 [[.v (.int .i64 1), .v (.int .i32 97), .v (.int .u8 0), .v (.int .u8 0), .str [], .sl 1 [] false, .str []]] false)], L) := callT_ex (n := 400) (by kernel_rfl)
theorem kn_fb : ∃ L, callT E 20 [.agg [.i (.v (.int .i64 2)), .i (.str []), .i (.str [])], .i (.str [67, 98])] [] = some (.tup [.agg [.i (.v (.int .i64 0)), .i (.str []), .i (.str [])], .i (.sl 7 [[.v (.int .i64 4), .v (.int .i32 0), .v (.int .u8 67), .v (.int .u8 0), .str [], .sl 1 [] false, .str []], [.v (.int .i64 1), .v (.int .i32 98), .v (.int .u8 0), .v (.int .u8 0), .str [], .sl 1 [] false, .str []]] false)], L) := callT_ex (n := 400) (by kernel_rfl)
theorem kn_owna (X Y : Chunk) : isoK E (callT E) 18 [.agg [.i (.v (.int .i64 3)), .i (.v (.int .i64 1)), .i (.sl 1 [[.sl 5 [[.str [32], .v (.int .i64 1), .v (.int .i64 (-1)), .v (.int .i64 (-1)), .v (.int .i64 0)], [.str [32], .v (.int .i64 1), .v (.int .i64 (-1)), .v (.int .i64 (-1)), .v (.int .i64 0)], [.str [32], .v (.int .i64 1), .v (.int .i64 (-1)), .v (.int .i64 (-1)), .v (.int .i64 0)]] false]] false), .i (.v (.int .i64 3)), .i (.v (.int .i64 1)), .i (.sl 1 [[.sl 5 [[.str [32], .v (.int .i64 1), .v (.int .i64 (-1)), .v (.int .i64 (-1)), .v (.int .i64 0)], [.str [32], .v (.int .i64 1), .v (.int .i64 (-1)), .v (.int .i64 (-1)), .v (.int .i64 0)], [.str [32], .v (.int .i64 1), .v (.int .i64 (-1)), .v (.int .i64 (-1)), .v (.int .i64 0)]] false]] false), .i (.v (.int .i64 0)), .i (.v (.int .i64 0)), .i (.v (.bool false)), .i (.v (.int .i64 0)), .i (.v (.int .i64 0)), .i (.v (.bool false)), .i (.v (.int .i64 (-1))), .i (.v (.int .i64 (-1))), .i (.v (.int .i64 0)), .i (.v (.bool false)), .i (.v (.int .u8 66)), .i (.v (.int .u8 66)), .i (.v (.int .i64 0)), .i (.v (.int .i64 (-1))), .i (.v (.int .i64 (-1))), .i (.v (.int .i64 0)), .i (.v (.bool false)), .i (.v (.bool false)), .i (.v (.bool false)), .i (.v (.bool false)), .i (.v (.bool true)), .i (.v (.bool true)), .i (.v (.bool false)), .i (.v (.bool false)), .i (.v (.int .u8 66)), .i (.v (.int .u8 66)), .i (.v (.int .i64 0)), .i (.v (.int .i64 0)), .i (.v (.int .i64 1)), .i (.sl 1 [[.v (.bool true)], [.v (.bool false)], [.v (.bool false)]] false), .i (.sl 1 [] false), .i (.v (.int .i64 0)), .i (.str []), .i (.str []), .i (.str []), .i (.str [])]] [X, Y] = some (.agg [.i (.v (.int .i64 3)), .i (.v (.int .i64 1)), .ref 2 0 0 1, .i (.v (.int .i64 3)), .i (.v (.int .i64 1)), .ref 3 0 0 1, .i (.v (.int .i64 0)), .i (.v (.int .i64 0)), .i (.v (.bool false)), .i (.v (.int .i64 0)), .i (.v (.int .i64 0)), .i (.v (.bool false)), .i (.v (.int .i64 (-1))), .i (.v (.int .i64 (-1))), .i (.v (.int .i64 0)), .i (.v (.bool false)), .i (.v (.int .u8 66)), .i (.v (.int .u8 66)), .i (.v (.int .i64 0)), .i (.v (.int .i64 (-1))), .i (.v (.int .i64 (-1))), .i (.v (.int .i64 0)), .i (.v (.bool false)), .i (.v (.bool false)), .i (.v (.bool false)), .i (.v (.bool false)), .i (.v (.bool true)), .i (.v (.bool true)), .i (.v (.bool false)), .i (.v (.bool false)), .i (.v (.int .u8 66)), .i (.v (.int .u8 66)), .i (.v (.int .i64 0)), .i (.v (.int .i64 0)), .i (.v (.int .i64 1)), .ref 4 0 0 3, .ref 5 0 0 0, .i (.v (.int .i64 0)), .i (.str []), .i (.str []), .i (.str []), .i (.str [])], [X, Y, .sl 1 0 [[.sl 5 [[.str [32], .v (.int .i64 1), .v (.int .i64 (-1)), .v (.int .i64 (-1)), .v (.int .i64 0)], [.str [32], .v (.int .i64 1), .v (.int .i64 (-1)), .v (.int .i64 (-1)), .v (.int .i64 0)], [.str [32], .v (.int .i64 1), .v (.int .i64 (-1)), .v (.int .i64 (-1)), .v (.int .i64 0)]] false]] false, .sl 1 0 [[.sl 5 [[.str [32], .v (.int .i64 1), .v (.int .i64 (-1)), .v (.int .i64 (-1)), .v (.int .i64 0)], [.str [32], .v (.int .i64 1), .v (.int .i64 (-1)), .v (.int .i64 (-1)), .v (.int .i64 0)], [.str [32], .v (.int .i64 1), .v (.int .i64 (-1)), .v (.int .i64 (-1)), .v (.int .i64 0)]] false]] false, .sl 1 0 [[.v (.bool true)], [.v (.bool false)], [.v (.bool false)]] false, .sl 1 0 [] false]) := isoK_k (n := 400) (by kernel_rfl)
theorem kn_chka : ∃ L, callT E 19 [.agg [.i (.v (.int .i64 3)), .i (.v (.int .i64 1)), .i (.sl 1 [[.sl 5 [[.str [32], .v (.int .i64 1), .v (.int .i64 (-1)), .v (.int .i64 (-1)), .v (.int .i64 0)], [.str [32], .v (.int .i64 1), .v (.int .i64 (-1)), .v (.int .i64 (-1)), .v (.int .i64 0)], [.str [32], .v (.int .i64 1), .v (.int .i64 (-1)), .v (.int .i64 (-1)), .v (.int .i64 0)]] false]] false), .i (.v (.int .i64 3)), .i (.v (.int .i64 1)), .i (.sl 1 [[.sl 5 [[.str [32], .v (.int .i64 1), .v (.int .i64 (-1)), .v (.int .i64 (-1)), .v (.int .i64 0)], [.str [32], .v (.int .i64 1), .v (.int .i64 (-1)), .v (.int .i64 (-1)), .v (.int .i64 0)], [.str [32], .v (.int .i64 1), .v (.int .i64 (-1)), .v (.int .i64 (-1)), .v (.int .i64 0)]] false]] false), .i (.v (.int .i64 0)), .i (.v (.int .i64 0)), .i (.v (.bool false)), .i (.v (.int .i64 0)), .i (.v (.int .i64 0)), .i (.v (.bool false)), .i (.v (.int .i64 (-1))), .i (.v (.int .i64 (-1))), .i (.v (.int .i64 0)), .i (.v (.bool false)), .i (.v (.int .u8 66)), .i (.v (.int .u8 66)), .i (.v (.int .i64 0)), .i (.v (.int .i64 (-1))), .i (.v (.int .i64 (-1))), .i (.v (.int .i64 0)), .i (.v (.bool false)), .i (.v (.bool false)), .i (.v (.bool false)), .i (.v (.bool false)), .i (.v (.bool true)), .i (.v (.bool true)), .i (.v (.bool false)), .i (.v (.bool false)), .i (.v (.int .u8 66)), .i (.v (.int .u8 66)), .i (.v (.int .i64 0)), .i (.v (.int .i64 0)), .i (.v (.int .i64 1)), .i (.sl 1 [[.v (.bool true)], [.v (.bool false)], [.v (.bool false)]] false), .i (.sl 1 [] false), .i (.v (.int .i64 0)), .i (.str []), .i (.str []), .i (.str []), .i (.str [])]] [] = some (.i (.v (.int .i64 0)), L) := callT_ex (n := 400) (by kernel_rfl)
theorem kn_ownb (X Y : Chunk) : isoK E (callT E) 18 [.agg [.i (.v (.int .i64 3)), .i (.v (.int .i64 1)), .i (.sl 1 [[.sl 5 [[.str [97], .v (.int .i64 1), .v (.int .i64 (-1)), .v (.int .i64 (-1)), .v (.int .i64 0)], [.str [32], .v (.int .i64 1), .v (.int .i64 (-1)), .v (.int .i64 (-1)), .v (.int .i64 0)], [.str [32], .v (.int .i64 1), .v (.int .i64 (-1)), .v (.int .i64 (-1)), .v (.int .i64 0)]] false]] false), .i (.v (.int .i64 3)), .i (.v (.int .i64 1)), .i (.sl 1 [[.sl 5 [[.str [32], .v (.int .i64 1), .v (.int .i64 (-1)), .v (.int .i64 (-1)), .v (.int .i64 0)], [.str [32], .v (.int .i64 1), .v (.int .i64 (-1)), .v (.int .i64 (-1)), .v (.int .i64 0)], [.str [32], .v (.int .i64 1), .v (.int .i64 (-1)), .v (.int .i64 (-1)), .v (.int .i64 0)]] false]] false), .i (.v (.int .i64 0)), .i (.v (.int .i64 1)), .i (.v (.bool false)), .i (.v (.int .i64 0)), .i (.v (.int .i64 0)), .i (.v (.bool false)), .i (.v (.int .i64 (-1))), .i (.v (.int .i64 (-1))), .i (.v (.int .i64 0)), .i (.v (.bool false)), .i (.v (.int .u8 66)), .i (.v (.int .u8 66)), .i (.v (.int .i64 0)), .i (.v (.int .i64 (-1))), .i (.v (.int .i64 (-1))), .i (.v (.int .i64 0)), .i (.v (.bool false)), .i (.v (.bool false)), .i (.v (.bool false)), .i (.v (.bool false)), .i (.v (.bool true)), .i (.v (.bool true)), .i (.v (.bool false)), .i (.v (.bool false)), .i (.v (.int .u8 66)), .i (.v (.int .u8 66)), .i (.v (.int .i64 0)), .i (.v (.int .i64 0)), .i (.v (.int .i64 1)), .i (.sl 1 [[.v (.bool true)], [.v (.bool false)], [.v (.bool false)]] false), .i (.sl 1 [] false), .i (.v (.int .i64 2)), .i (.str []), .i (.str []), .i (.str []), .i (.str [])]] [X, Y] = some (.agg [.i (.v (.int .i64 3)), .i (.v (.int .i64 1)), .ref 2 0 0 1, .i (.v (.int .i64 3)), .i (.v (.int .i64 1)), .ref 3 0 0 1, .i (.v (.int .i64 0)), .i (.v (.int .i64 1)), .i (.v (.bool false)), .i (.v (.int .i64 0)), .i (.v (.int .i64 0)), .i (.v (.bool false)), .i (.v (.int .i64 (-1))), .i (.v (.int .i64 (-1))), .i (.v (.int .i64 0)), .i (.v (.bool false)), .i (.v (.int .u8 66)), .i (.v (.int .u8 66)), .i (.v (.int .i64 0)), .i (.v (.int .i64 (-1))), .i (.v (.int .i64 (-1))), .i (.v (.int .i64 0)), .i (.v (.bool false)), .i (.v (.bool false)), .i (.v (.bool false)), .i (.v (.bool false)), .i (.v (.bool true)), .i (.v (.bool true)), .i (.v (.bool false)), .i (.v (.bool false)), .i (.v (.int .u8 66)), .i (.v (.int .u8 66)), .i (.v (.int .i64 0)), .i (.v (.int .i64 0)), .i (.v (.int .i64 1)), .ref 4 0 0 3, .ref 5 0 0 0, .i (.v (.int .i64 2)), .i (.str []), .i (.str []), .i (.str []), .i (.str [])], [X, Y, .sl 1 0 [[.sl 5 [[.str [97], .v (.int .i64 1), .v (.int .i64 (-1)), .v (.int .i64 (-1)), .v (.int .i64 0)], [.str [32], .v (.int .i64 1), .v (.int .i64 (-1)), .v (.int .i64 (-1)), .v (.int .i64 0)], [.str [32], .v (.int .i64 1), .v (.int .i64 (-1)), .v (.int .i64 (-1)), .v (.int .i64 0)]] false]] false, .sl 1 0 [[.sl 5 [[.str [32], .v (.int .i64 1), .v (.int .i64 (-1)), .v (.int .i64 (-1)), .v (.int .i64 0)], [.str [32], .v (.int .i64 1), .v (.int .i64 (-1)), .v (.int .i64 (-1)), .v (.int .i64 0)], [.str [32], .v (.int .i64 1), .v (.int .i64 (-1)), .v (.int .i64 (-1)), .v (.int .i64 0)]] false]] false, .sl 1 0 [[.v (.bool true)], [.v (.bool false)], [.v (.bool false)]] false, .sl 1 0 [] false]) := isoK_k (n := 400) (by kernel_rfl)
theorem kn_chkb : ∃ L, callT E 19 [.agg [.i (.v (.int .i64 3)), .i (.v (.int .i64 1)), .i (.sl 1 [[.sl 5 [[.str [97], .v (.int .i64 1), .v (.int .i64 (-1)), .v (.int .i64 (-1)), .v (.int .i64 0)], [.str [32], .v (.int .i64 1), .v (.int .i64 (-1)), .v (.int .i64 (-1)), .v (.int .i64 0)], [.str [32], .v (.int .i64 1), .v (.int .i64 (-1)), .v (.int .i64 (-1)), .v (.int .i64 0)]] false]] false), .i (.v (.int .i64 3)), .i (.v (.int .i64 1)), .i (.sl 1 [[.sl 5 [[.str [32], .v (.int .i64 1), .v (.int .i64 (-1)), .v (.int .i64 (-1)), .v (.int .i64 0)], [.str [32], .v (.int .i64 1), .v (.int .i64 (-1)), .v (.int .i64 (-1)), .v (.int .i64 0)], [.str [32], .v (.int .i64 1), .v (.int .i64 (-1)), .v (.int .i64 (-1)), .v (.int .i64 0)]] false]] false), .i (.v (.int .i64 0)), .i (.v (.int .i64 1)), .i (.v (.bool false)), .i (.v (.int .i64 0)), .i (.v (.int .i64 0)), .i (.v (.bool false)), .i (.v (.int .i64 (-1))), .i (.v (.int .i64 (-1))), .i (.v (.int .i64 0)), .i (.v (.bool false)), .i (.v (.int .u8 66)), .i (.v (.int .u8 66)), .i (.v (.int .i64 0)), .i (.v (.int .i64 (-1))), .i (.v (.int .i64 (-1))), .i (.v (.int .i64 0)), .i (.v (.bool false)), .i (.v (.bool false)), .i (.v (.bool false)), .i (.v (.bool false)), .i (.v (.bool true)), .i (.v (.bool true)), .i (.v (.bool false)), .i (.v (.bool false)), .i (.v (.int .u8 66)), .i (.v (.int .u8 66)), .i (.v (.int .i64 0)), .i (.v (.int .i64 0)), .i (.v (.int .i64 1)), .i (.sl 1 [[.v (.bool true)], [.v (.bool false)], [.v (.bool false)]] false), .i (.sl 1 [] false), .i (.v (.int .i64 2)), .i (.str []), .i (.str []), .i (.str []), .i (.str [])]] [] = some (.i (.v (.int .i64 0)), L) := callT_ex (n := 400) (by kernel_rfl)
theorem kn_doa : isoK E (callT E) 21 [.ptr 1 0 0 0, .agg [.i (.v (.int .i64 1)), .i (.v (.int .i32 97)), .i (.v (.int .u8 0)), .i (.v (.int .u8 0)), .i (.str []), .i (.sl 1 [] false), .i (.str [])]] [.box [.i (.v (.int .i64 0)), .i (.v (.int .i64 0)), .i (.sl 0 [] true), .i (.v (.int .i64 0)), .i (.v (.int .i64 0)), .i (.sl 0 [] true), .i (.v (.int .i64 0)), .i (.v (.int .i64 0)), .i (.v (.bool false)), .i (.v (.int .i64 0)), .i (.v (.int .i64 0)), .i (.v (.bool false)), .i (.v (.int .i64 0)), .i (.v (.int .i64 0)), .i (.v (.int .i64 0)), .i (.v (.bool false)), .i (.v (.int .u8 0)), .i (.v (.int .u8 0)), .i (.v (.int .i64 0)), .i (.v (.int .i64 0)), .i (.v (.int .i64 0)), .i (.v (.int .i64 0)), .i (.v (.bool false)), .i (.v (.bool false)), .i (.v (.bool false)), .i (.v (.bool false)), .i (.v (.bool false)), .i (.v (.bool false)), .i (.v (.bool false)), .i (.v (.bool false)), .i (.v (.int .u8 0)), .i (.v (.int .u8 0)), .i (.v (.int .i64 0)), .i (.v (.int .i64 0)), .i (.v (.int .i64 0)), .i (.sl 0 [] true), .i (.sl 0 [] true), .i (.v (.int .i64 0)), .i (.str []), .i (.str []), .i (.str []), .i (.str [])], .box [.i (.v (.int .i64 3)), .i (.v (.int .i64 1)), .ref 2 0 0 1, .i (.v (.int .i64 3)), .i (.v (.int .i64 1)), .ref 3 0 0 1, .i (.v (.int .i64 0)), .i (.v (.int .i64 0)), .i (.v (.bool false)), .i (.v (.int .i64 0)), .i (.v (.int .i64 0)), .i (.v (.bool false)), .i (.v (.int .i64 (-1))), .i (.v (.int .i64 (-1))), .i (.v (.int .i64 0)), .i (.v (.bool false)), .i (.v (.int .u8 66)), .i (.v (.int .u8 66)), .i (.v (.int .i64 0)), .i (.v (.int .i64 (-1))), .i (.v (.int .i64 (-1))), .i (.v (.int .i64 0)), .i (.v (.bool false)), .i (.v (.bool false)), .i (.v (.bool false)), .i (.v (.bool false)), .i (.v (.bool true)), .i (.v (.bool true)), .i (.v (.bool false)), .i (.v (.bool false)), .i (.v (.int .u8 66)), .i (.v (.int .u8 66)), .i (.v (.int .i64 0)), .i (.v (.int .i64 0)), .i (.v (.int .i64 1)), .ref 4 0 0 3, .ref 5 0 0 0, .i (.v (.int .i64 0)), .i (.str []), .i (.str []), .i (.str []), .i (.str [])], .sl 1 0 [[.sl 5 [[.str [32], .v (.int .i64 1), .v (.int .i64 (-1)), .v (.int .i64 (-1)), .v (.int .i64 0)], [.str [32], .v (.int .i64 1), .v (.int .i64 (-1)), .v (.int .i64 (-1)), .v (.int .i64 0)], [.str [32], .v (.int .i64 1), .v (.int .i64 (-1)), .v (.int .i64 (-1)), .v (.int .i64 0)]] false]] false, .sl 1 0 [[.sl 5 [[.str [32], .v (.int .i64 1), .v (.int .i64 (-1)), .v (.int .i64 (-1)), .v (.int .i64 0)], [.str [32], .v (.int .i64 1), .v (.int .i64 (-1)), .v (.int .i64 (-1)), .v (.int .i64 0)], [.str [32], .v (.int .i64 1), .v (.int .i64 (-1)), .v (.int .i64 (-1)), .v (.int .i64 0)]] false]] false, .sl 1 0 [[.v (.bool true)], [.v (.bool false)], [.v (.bool false)]] false, .sl 1 0 [] false, .box [.i (.v (.int .i64 2)), .i (.str []), .i (.str [])], .box [.i (.v (.int .i64 1)), .i (.v (.int .i32 97)), .i (.v (.int .u8 0)), .i (.v (.int .u8 0)), .i (.str []), .i (.sl 1 [] false), .i (.str [])]] = some (.tup [], [.box [.i (.v (.int .i64 0)), .i (.v (.int .i64 0)), .i (.sl 0 [] true), .i (.v (.int .i64 0)), .i (.v (.int .i64 0)), .i (.sl 0 [] true), .i (.v (.int .i64 0)), .i (.v (.int .i64 0)), .i (.v (.bool false)), .i (.v (.int .i64 0)), .i (.v (.int .i64 0)), .i (.v (.bool false)), .i (.v (.int .i64 0)), .i (.v (.int .i64 0)), .i (.v (.int .i64 0)), .i (.v (.bool false)), .i (.v (.int .u8 0)), .i (.v (.int .u8 0)), .i (.v (.int .i64 0)), .i (.v (.int .i64 0)), .i (.v (.int .i64 0)), .i (.v (.int .i64 0)), .i (.v (.bool false)), .i (.v (.bool false)), .i (.v (.bool false)), .i (.v (.bool false)), .i (.v (.bool false)), .i (.v (.bool false)), .i (.v (.bool false)), .i (.v (.bool false)), .i (.v (.int .u8 0)), .i (.v (.int .u8 0)), .i (.v (.int .i64 0)), .i (.v (.int .i64 0)), .i (.v (.int .i64 0)), .i (.sl 0 [] true), .i (.sl 0 [] true), .i (.v (.int .i64 0)), .i (.str []), .i (.str []), .i (.str []), .i (.str [])], .box [.i (.v (.int .i64 3)), .i (.v (.int .i64 1)), .ref 2 0 0 1, .i (.v (.int .i64 3)), .i (.v (.int .i64 1)), .ref 3 0 0 1, .i (.v (.int .i64 0)), .i (.v (.int .i64 1)), .i (.v (.bool false)), .i (.v (.int .i64 0)), .i (.v (.int .i64 0)), .i (.v (.bool false)), .i (.v (.int .i64 (-1))), .i (.v (.int .i64 (-1))), .i (.v (.int .i64 0)), .i (.v (.bool false)), .i (.v (.int .u8 66)), .i (.v (.int .u8 66)), .i (.v (.int .i64 0)), .i (.v (.int .i64 (-1))), .i (.v (.int .i64 (-1))), .i (.v (.int .i64 0)), .i (.v (.bool false)), .i (.v (.bool false)), .i (.v (.bool false)), .i (.v (.bool false)), .i (.v (.bool true)), .i (.v (.bool true)), .i (.v (.bool false)), .i (.v (.bool false)), .i (.v (.int .u8 66)), .i (.v (.int .u8 66)), .i (.v (.int .i64 0)), .i (.v (.int .i64 0)), .i (.v (.int .i64 1)), .ref 4 0 0 3, .ref 5 0 0 0, .i (.v (.int .i64 0)), .i (.str []), .i (.str []), .i (.str []), .i (.str [])], .sl 1 0 [[.sl 5 [[.str [97], .v (.int .i64 1), .v (.int .i64 (-1)), .v (.int .i64 (-1)), .v (.int .i64 0)], [.str [32], .v (.int .i64 1), .v (.int .i64 (-1)), .v (.int .i64 (-1)), .v (.int .i64 0)], [.str [32], .v (.int .i64 1), .v (.int .i64 (-1)), .v (.int .i64 (-1)), .v (.int .i64 0)]] false]] false, .sl 1 0 [[.sl 5 [[.str [32], .v (.int .i64 1), .v (.int .i64 (-1)), .v (.int .i64 (-1)), .v (.int .i64 0)], [.str [32], .v (.int .i64 1), .v (.int .i64 (-1)), .v (.int .i64 (-1)), .v (.int .i64 0)], [.str [32], .v (.int .i64 1), .v (.int .i64 (-1)), .v (.int .i64 (-1)), .v (.int .i64 0)]] false]] false, .sl 1 0 [[.v (.bool true)], [.v (.bool false)], [.v (.bool false)]] false, .sl 1 0 [] false, .box [.i (.v (.int .i64 2)), .i (.str []), .i (.str [])], .box [.i (.v (.int .i64 1)), .i (.v (.int .i32 97)), .i (.v (.int .u8 0)), .i (.v (.int .u8 0)), .i (.str []), .i (.sl 1 [] false), .i (.str [])]]) := isoK_k (n := 400) (by kernel_rfl)
end Go.VI

