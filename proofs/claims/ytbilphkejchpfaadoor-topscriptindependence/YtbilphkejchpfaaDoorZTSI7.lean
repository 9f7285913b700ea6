import Derived.Shelf.Strings.Builder1
import Derived.Shelf.Strconv.Itoa3
import Derived.Shelf.Strings.Count
import Derived.Shelf.Strings.Search1
import Derived.Shelf.LaysM
import Derived.Shelf.Strings.BuilderK
import Derived.Test.YtbilphkejchpfaaDoorProg
import Derived.Lib.LaidTab
import Derived.MakeChecks
import Derived.Test.YtbilphkejchpfaaDoorZTSI6
open Int renaming reduceToNat → zq6, reduceLT → zq7, reduceLE → zq8, reduceMul → zq9, reduceAdd → zq10, reduceEq → zq12, reduceNe → zq13, reduceNeg → zq14, reduceGT → zq15, reduceGE → zq16
open Nat renaming reduceEqDiff → zq0, reduceAdd → zq1, reduceSub → zq2, reduceMul → zq3, reduceLT → zq4, reduceLeDiff → zq5, reduceBEq → zq11
open UInt8 renaming reduceToNat → zq17
namespace Go.VI
open Go.Proofs
set_option maxRecDepth 100000
set_option linter.unusedSimpArgs false
set_option linter.unusedVariables false
set_option maxHeartbeats 8000000
def okB (x : UInt8) : Prop := x ≠ 10 ∧ x ≠ 32 ∧ x.toNat < 128
def W (s : List UInt8) : Prop := ∀ x ∈ s, okB x
theorem W_app {a b : List UInt8} (ha : W a) (hb : W b) : W (a ++ b) := fun x hx => (List.mem_append.1 hx).elim (ha x) (hb x)
theorem W_cons {x : UInt8} {b : List UInt8} (ha : okB x) (hb : W b) : W (x :: b) := fun y hy => (List.mem_cons.1 hy).elim (fun h => h ▸ ha) (hb y)
theorem okB_of {x : UInt8} (h : 33 ≤ x.toNat) (h2 : x.toNat < 128) : okB x := by
 refine ⟨?_, ?_, h2⟩
 ·rintro rfl; exact absurd h (by decide)
 ·rintro rfl; exact absurd h (by decide)
theorem W_dig (u : Nat) : W (Lib.decDigits u) := fun x hx => by
 have := (dig_ok u).1 x hx
 exact okB_of (by omega) (by omega)
theorem W_itoa (n : Int) : W (Lib.itoa n) := by
 unfold Lib.itoa
 split
 ·exact W_cons (okB_of (by decide) (by decide)) (W_dig _)
 ·exact W_dig _
theorem W_lbl (n : Int) : W (lblB n) := W_cons (okB_of (by decide) (by decide)) (W_itoa n)
theorem W_name {op : Int} (h0 : 0 ≤ op) (h1 : op ≤ 20) : W (nameB op) := by
 have key : ∀ k : Nat, k < 21 → ∀ x ∈ namesB.getD k [], 33 ≤ x.toNat ∧ x.toNat < 128 := by decide
 intro x hx
 have := key op.toNat (by omega) x hx
 exact okB_of this.1 this.2
theorem cutB_at {b : UInt8} : ∀ (a t : List UInt8), (∀ x ∈ a, x ≠ b) → cutB b (a ++ b :: t) = a :: cutB b t
 | [], t, _ => by rw [List.nil_append, cutB, if_pos rfl]
 | x :: a, t, h => by
  rw [List.cons_append, cutB, if_neg (h x (List.mem_cons_self ..)), cutB_at a t (fun y hy => h y (List.mem_cons_of_mem _ hy))]
def linesK (m : List (Int × IV)) : Nat → List Ins → List LK
 | k, [] => (if getI m k = none then [] else [.lab k]) ++ [.emp]
 | k, p :: r => (if getI m k = none then [] else [.lab k]) ++ .ins p :: linesK m (k + 1) r
theorem noNL {s : List UInt8} (h : W s) : ∀ x ∈ s, x ≠ 10 := fun x hx => (h x hx).1
theorem noNL_ins {p : Ins} (h0 : 0 ≤ p.1) (h1 : p.1 ≤ 20) : ∀ x ∈ nameB p.1 ++ argB p, x ≠ 10 := by
 intro x hx
 rcases List.mem_append.1 hx with hx | hx
 ·exact noNL (W_name h0 h1) x hx
 ·unfold argB at hx
  split at hx
  ·rcases List.mem_cons.1 hx with rfl | hx
   ·decide
   ·exact noNL (W_itoa _) x hx
  ·split at hx
   ·rcases List.mem_cons.1 hx with rfl | hx
    ·decide
    ·exact noNL (W_lbl _) x hx
   ·cases hx
theorem cut_line (m : List (Int × IV)) (k : Nat) (t : List UInt8) : cutB 10 (lineB m k ++ t) = ((if getI m k = none then ([] : List LK) else [.lab k]).map textK) ++ cutB 10 t := by
 unfold lineB
 split
 ·rfl
 ·rw [show lblB (k : Int) ++ [58, 10] ++ t = (lblB k ++ [58]) ++ 10 :: t by simp, cutB_at _ _ (noNL (W_app (W_lbl _) (W_cons (okB_of (by decide) (by decide)) (fun x hx => by cases hx))))]
  rfl
theorem cut_dis (m : List (Int × IV)) : ∀ (l : List Ins) (k : Nat), (∀ p ∈ l, 0 ≤ p.1 ∧ p.1 ≤ 20) → cutB 10 (disR m k l) = (linesK m k l).map textK
 | [], k, _ => by
  rw [disR, linesK, ← List.append_nil (lineB m k), cut_line, List.map_append]
  rfl
 | p :: r, k, h => by
  obtain ⟨h0, h1⟩ := h p (List.mem_cons_self ..)
  have ih := cut_dis m r (k + 1) (fun q hq => h q (List.mem_cons_of_mem _ hq))
  rw [show (((k + 1 : Nat)) : Int) = (k : Int) + 1 by omega] at ih
  rw [disR, linesK, List.append_assoc, cut_line, List.map_append, List.map_cons, ← ih]
  congr 1
  unfold insB
  rw [List.append_assoc (nameB p.1 ++ argB p), show [10] ++ disR m ((k : Int) + 1) r = 10 :: disR m ((k : Int) + 1) r from rfl, cutB_at _ _ (noNL_ins h0 h1)]
  rfl
theorem fS_in : ∀ (w r : List UInt8) (pos : Nat) (st : Int), W w → 0 ≤ st → fS pos st (w ++ r) = fS (pos + w.length) st r
 | [], r, pos, st, _, _ => rfl
 | x :: w, r, pos, st, h, h0 => by
  rw [List.cons_append, fS, if_neg (h x (List.mem_cons_self ..)).2.1, if_neg (by omega), fS_in w r (pos + 1) st (fun y hy => h y (List.mem_cons_of_mem _ hy)) h0, List.length_cons]
  congr 1
  omega
theorem fS_new {w r : List UInt8} {pos : Nat} {st : Int} (h : W w) (hne : w ≠ []) (h0 : st < 0) : fS pos st (w ++ r) = fS (pos + w.length) pos r := by
 cases w with
 | nil => exact absurd rfl hne
 | cons x w =>
  rw [List.cons_append, fS, if_neg (h x (List.mem_cons_self ..)).2.1, if_pos h0, fS_in w r (pos + 1) pos (fun y hy => h y (List.mem_cons_of_mem _ hy)) (by omega), List.length_cons]
  congr 1
  omega
theorem fields_one {w : List UInt8} (h : W w) (hne : w ≠ []) : fieldsS w = [w] := by
 unfold fieldsS
 have e := fS_new (r := []) (pos := 0) (st := -1) h hne (by decide)
 rw [List.append_nil] at e
 rw [e]
 simp [fS, bndS, cutP]
theorem fields_two {a b : List UInt8} (ha : W a) (hb : W b) (hna : a ≠ []) (hnb : b ≠ []) : fieldsS (a ++ 32 :: b) = [a, b] := by
 unfold fieldsS
 have e := fS_new (r := 32 :: b) (pos := 0) (st := -1) ha hna (by decide)
 have e2 := fS_new (r := []) (pos := 0 + a.length + 1) (st := -1 - 0) hb hnb (by decide)
 rw [List.append_nil] at e2
 rw [e, fS, if_pos rfl, if_pos (by decide)]
 simp only [Int.natCast_zero] at *
 rw [e2]
 simp only [fS, bndS, Nat.zero_add]
 rw [if_pos (by omega)]
 simp only [List.cons_append, List.nil_append, List.map_cons, List.map_nil, cutP, List.cons.injEq, and_true]
 constructor
 ·simp
 ·have h1 : ((a ++ 32 :: b).length : Int).toNat = (a ++ 32 :: b).length := by omega
  have h2 : ((a.length + 1 : Nat) : Int).toNat = a.length + 1 := by omega
  rw [h1, h2, List.take_length, List.drop_append, List.drop_of_length_le (by omega)]
  simp
theorem itoa_ne (n : Int) : Lib.itoa n ≠ [] := by
 unfold Lib.itoa
 split
 ·simp
 ·exact (dig_ok _).2.1
theorem Asc_W {s : List UInt8} (h : W s) : Asc s := fun x hx => (h x hx).2.2
theorem text_ok : ∀ (x : LK), (∀ p, x = .ins p → (0 ≤ p.1 ∧ p.1 ≤ 20) ∧ (-999999999 ≤ p.2 ∧ p.2 ≤ 999999999)) → (∀ k, x = .lab k → k ≤ 999) → fieldsS (textK x) = wordsK x ∧ Asc (textK x) ∧ (textK x).length ≤ 900000
 | .emp, _, _ => ⟨rfl, (show Asc [] from fun x hx => nomatch hx), by decide⟩
 | .lab k, _, hk => by
  have hk := hk k rfl
  have hw : W (lblB k ++ [58]) := W_app (W_lbl _) (W_cons (okB_of (by decide) (by decide)) (fun x hx => by cases hx))
  refine ⟨fields_one hw (show lblB (k : Int) ++ [58] ≠ [] by simp), Asc_W hw, ?_⟩
  have := (lbl_good (n := k) (by omega) (by omega)).2.1
  simp only [textK, List.length_append, List.length_singleton]
  omega
 | .ins p, h, _ => by
  obtain ⟨⟨h0, h1⟩, h2, h3⟩ := h p rfl
  have hn := W_name h0 h1
  obtain ⟨_, n2, n3⟩ := name_at h0 h1
  have hne : nameB p.1 ≠ [] := fun e => by rw [e] at n2; cases n2
  have hi := itoa_len (n := p.2) (by omega)
  have hasc : ∀ w, W w → Asc (nameB p.1 ++ 32 :: w) := fun w hw x hx => by
   rcases List.mem_append.1 hx with hx | hx
   ·exact (hn x hx).2.2
   ·rcases List.mem_cons.1 hx with rfl | hx
    ·decide
    ·exact (hw x hx).2.2
  simp only [textK, wordsK, argB]
  by_cases a1 : p.1 = 1
  ·rw [if_pos a1, if_pos a1]
   exact ⟨fields_two hn (W_itoa _) hne (itoa_ne _), hasc _ (W_itoa _), by simp; omega⟩
  ·rw [if_neg a1, if_neg a1]
   by_cases a2 : isJ p.1
   ·rw [if_pos a2, if_pos a2]
    exact ⟨fields_two hn (W_lbl _) hne (by simp [lblB]), hasc _ (W_lbl _), by simp [lblB]; omega⟩
   ·rw [if_neg a2, if_neg a2, List.append_nil]
    exact ⟨fields_one hn hne, Asc_W hn, by omega⟩
theorem lbl_inj {a b : Nat} (h : lblB (a : Int) = lblB b) : a = b := by
 unfold lblB Lib.itoa at h
 rw [if_neg (by omega), if_neg (by omega)] at h
 simp only [List.cons.injEq, true_and, Int.toNat_natCast] at h
 have h1 := (dig_ok a).2.2.1
 rw [h, (dig_ok b).2.2.1] at h1
 omega
def tgtAt (l : List Ins) (j : Nat) : Option IV := match l[j]? with
 | some p => if isJ p.1 then some (.str (lblB p.2)) else none
 | none => none
structure Inv (l : List Ins) (m : List (Int × IV)) (k kM : Nat) (s : St) : Prop where
 C : s.C = (l.take k).map zJ
 L : s.L.length = k
 T : ∀ j : Nat, getI s.T j = if j < k then tgtAt l j else none
 M : ∀ n : Nat, getS s.M (lblB n) = if n < kM ∧ getI m n ≠ none then some (.v (.int .i64 n)) else none
theorem run_lab {l : List Ins} {m : List (Int × IV)} {k : Nat} {s : St} (hk : k ≤ l.length) (hl : l.length ≤ 500) (h : Inv l m k k s) (no : Int) (rest : List LK) : ∃ s1 no1, Inv l m k (k + 1) s1 ∧ runK no ((if getI m k = none then ([] : List LK) else [.lab k]) ++ rest) s = runK no1 rest s1 := by
 by_cases hm : getI m k = none
 ·refine ⟨s, no, ⟨h.C, h.L, h.T, fun n => ?_⟩, by rw [if_pos hm]; rfl⟩
  rw [h.M n]
  by_cases hn : n = k
  ·subst hn
   rw [if_neg (by omega), if_neg (fun h => h.2 hm)]
  ·by_cases h2 : n < k ∧ getI m n ≠ none
   ·rw [if_pos h2, if_pos ⟨by omega, h2.2⟩]
   ·rw [if_neg h2, if_neg (fun h3 => h2 ⟨by omega, h3.2⟩)]
 ·have hCl : s.C.length = k := by rw [h.C]; simp; omega
  have hst : stepK no (.lab k) s = some { s with M := putS s.M (lblB k) (.v (.int .i64 s.C.length)) } := by
   simp only [stepK]
   rw [if_pos ⟨by omega, by omega, by rw [h.M k, if_neg (by omega)]⟩]
  refine ⟨{ s with M := putS s.M (lblB k) (.v (.int .i64 s.C.length)) }, no + 1, ⟨h.C, h.L, h.T, fun n => ?_⟩, by rw [if_neg hm, List.singleton_append, runK, hst]⟩
  simp only [getS_put, hCl]
  by_cases hn : n = k
  ·subst hn
   rw [if_pos rfl, if_pos ⟨by omega, hm⟩]
  ·rw [if_neg (fun e => hn (lbl_inj e)), h.M n]
   by_cases h2 : n < k ∧ getI m n ≠ none
   ·rw [if_pos h2, if_pos ⟨by omega, h2.2⟩]
   ·rw [if_neg h2, if_neg (fun h3 => h2 ⟨by omega, h3.2⟩)]
theorem run_ok {l : List Ins} (hc : checkI l = 0) (m : List (Int × IV)) : ∀ (k : Nat) (hk : k ≤ l.length) (s : St) (h : Inv l m k k s) (no : Int), ∃ s', runK no (linesK m k (l.drop k)) s = some s' ∧ Inv l m l.length (l.length + 1) s' := by
 intro k hk s h no
 have h5 := check_len hc
 by_cases hlt : k < l.length
 ·have hp := List.getElem?_eq_getElem hlt
  obtain ⟨c1, c2, c3, c4, c5⟩ := chk_at hc hp
  have c6 := chk_full hc hp
  rw [List.drop_eq_getElem_cons hlt, linesK]
  obtain ⟨s1, no1, hI, he⟩ := run_lab hk h5 h no (.ins l[k] :: linesK m (k + 1) (l.drop (k + 1)))
  rw [he, runK]
  have hCl : s1.C.length = k := by rw [hI.C]; simp; omega
  have hst : stepK no1 (.ins l[k]) s1 = some { s1 with C := s1.C ++ [(l[k].1, if l[k].1 = 1 then l[k].2 else 0)], L := s1.L ++ [no1], T := if isJ l[k].1 then putI s1.T s1.C.length (.str (lblB l[k].2)) else s1.T } := by
   simp only [stepK]
   rw [if_pos ⟨by omega, by rw [hI.L]; omega, ⟨c1, c2⟩, ⟨c3, c4⟩, fun hj => by have := c5 hj; omega⟩]
  rw [hst]
  refine run_ok hc m (k + 1) hlt _ ⟨?_, ?_, ?_, ?_⟩ (no1 + 1)
  ·simp only [hI.C]
   rw [List.take_succ_eq_append_getElem hlt, List.map_append]
   congr 1
   simp only [List.map_cons, List.map_nil, List.cons.injEq, and_true]
   unfold zJ
   by_cases a1 : l[k].1 = 1
   ·rw [if_pos a1, if_neg (by rw [a1]; decide)]
   ·rw [if_neg a1]
    by_cases a2 : isJ l[k].1
    ·rw [if_pos a2]
    ·rw [if_neg a2, c6 ⟨a1, fun e => a2 (.inl e), fun e => a2 (.inr e)⟩]
  ·simp [hI.L]
  ·intro j
   have htk : tgtAt l k = if isJ l[k].1 then some (.str (lblB l[k].2)) else none := by unfold tgtAt; rw [hp]
   simp only
   by_cases a2 : isJ l[k].1
   ·rw [if_pos a2, getI_put, hI.T j, hCl]
    by_cases hj : j = k
    ·subst hj
     rw [if_pos rfl, if_pos (by omega), htk, if_pos a2]
    ·rw [if_neg (by omega)]
     by_cases h2 : j < k
     ·rw [if_pos h2, if_pos (by omega)]
     ·rw [if_neg h2, if_neg (by omega)]
   ·rw [if_neg a2, hI.T j]
    by_cases hj : j = k
    ·subst hj
     rw [if_neg (by omega), if_pos (by omega), htk, if_neg a2]
    ·by_cases h2 : j < k
     ·rw [if_pos h2, if_pos (by omega)]
     ·rw [if_neg h2, if_neg (by omega)]
  ·exact hI.M
 ·obtain rfl : k = l.length := by omega
  rw [List.drop_length, linesK]
  obtain ⟨s1, no1, hI, he⟩ := run_lab (Nat.le_refl _) h5 h no [.emp]
  rw [he]
  exact ⟨s1, rfl, hI⟩
termination_by k => l.length - k
theorem tgtM_keep : ∀ (l : List Ins) (m : List (Int × IV)) (n : Int), getI m n ≠ none → getI (tgtM l m) n ≠ none
 | [], _, _, h => h
 | p :: r, m, n, h => by
  rw [tgtM]
  refine tgtM_keep r _ n ?_
  split
  ·rw [getI_put]
   split
   ·simp
   ·exact h
  ·exact h
theorem tgtM_has : ∀ (l : List Ins) (m : List (Int × IV)) (p : Ins), p ∈ l → isJ p.1 → getI (tgtM l m) p.2 ≠ none
 | q :: r, m, p, h, hj => by
  rw [tgtM]
  rcases List.mem_cons.1 h with rfl | h
  ·refine tgtM_keep r _ _ ?_
   rw [if_pos hj, getI_put, if_pos rfl]
   simp
  ·exact tgtM_has r _ p h hj
theorem linesK_mem {m : List (Int × IV)} : ∀ (l : List Ins) (k : Nat) (x : LK), x ∈ linesK m k l → (∀ p, x = .ins p → p ∈ l) ∧ (∀ j, x = .lab j → j ≤ k + l.length)
 | [], k, x, h => by
  rw [linesK] at h
  split at h
  ·simp at h; subst h; exact ⟨fun p e => (by cases e), fun j e => (by cases e)⟩
  ·simp at h
   rcases h with rfl | rfl
   ·exact ⟨fun p e => (by cases e), fun j e => by cases e; simp⟩
   ·exact ⟨fun p e => (by cases e), fun j e => (by cases e)⟩
 | p :: r, k, x, h => by
  rw [linesK] at h
  rcases List.mem_append.1 h with h | h
  ·split at h
   ·cases h
   ·simp at h
    subst h
    exact ⟨fun p e => (by cases e), fun j e => by cases e; omega⟩
  ·rcases List.mem_cons.1 h with rfl | h
   ·exact ⟨fun q e => by cases e; exact List.mem_cons_self .., fun j e => (by cases e)⟩
   ·obtain ⟨a, b⟩ := linesK_mem r (k + 1) x h
    exact ⟨fun q e => List.mem_cons_of_mem _ (a q e), fun j e => by have := b j e; rw [List.length_cons]; omega⟩
theorem linesK_len (m : List (Int × IV)) : ∀ (l : List Ins) (k : Nat), (linesK m k l).length ≤ 2 * l.length + 2
 | [], k => by rw [linesK]; split <;> simp
 | p :: r, k => by
  have := linesK_len m r (k + 1)
  rw [linesK, List.length_append, List.length_cons, List.length_cons]
  split <;> simp <;> omega
theorem assemble_plain {l : List Ins} (hc : checkI l = 0) : ∃ rest : List LK, cutB 10 (disS l) = rest.map textK ∧ rest.length ≤ 2 * l.length + 2 ∧ (∀ x ∈ rest, fieldsS (textK x) = wordsK x ∧ Asc (textK x) ∧ (textK x).length ≤ 900000) ∧
  ∃ s, runK 1 rest ⟨[], [], [], []⟩ = some s ∧ s.C = l.map zJ ∧ (∀ j (h : j < l.length), getI s.T j = if isJ l[j].1 then some (.str (lblB l[j].2)) else none) ∧ (∀ j (h : j < l.length), isJ l[j].1 → getS s.M (lblB l[j].2) = some (.v (.int .i64 l[j].2))) := by
 have h5 := check_len hc
 have hb : ∀ p ∈ l, (0 ≤ p.1 ∧ p.1 ≤ 20) ∧ (-999999999 ≤ p.2 ∧ p.2 ≤ 999999999) := fun p hp => by
  obtain ⟨i, hi⟩ := List.getElem?_of_mem hp
  obtain ⟨h1, h2, h3, h4, _⟩ := chk_at hc hi
  exact ⟨⟨h1, h2⟩, h3, h4⟩
 refine ⟨linesK (tgtM l []) 0 l, cut_dis _ l 0 (fun p hp => (hb p hp).1), linesK_len _ _ _, fun x hx => ?_, ?_⟩
 ·obtain ⟨a, b⟩ := linesK_mem l 0 x hx
  exact text_ok x (fun p e => hb p (a p e)) (fun k e => by have := b k e; omega)
 ·obtain ⟨s, h1, h2⟩ := run_ok hc (tgtM l []) 0 (Nat.zero_le _) ⟨[], [], [], []⟩ ⟨rfl, rfl, fun j => rfl, fun n => by rw [if_neg (by omega)]; rfl⟩ 1
  rw [List.drop_zero] at h1
  refine ⟨s, h1, by rw [h2.C, List.take_length], fun j hj => ?_, fun j hj hJ => ?_⟩
  ·rw [h2.T j, if_pos hj]
   unfold tgtAt
   rw [List.getElem?_eq_getElem hj]
  ·obtain ⟨_, _, _, _, c5⟩ := chk_at hc (List.getElem?_eq_getElem hj)
   have := c5 hJ
   have hn : ((l[j].2.toNat : Nat) : Int) = l[j].2 := by omega
   have hM := h2.M l[j].2.toNat
   rw [hn, if_pos ⟨by omega, tgtM_has l [] _ (List.getElem_mem hj) hJ⟩] at hM
   exact hM
theorem c9 (l : List Ins) (hc : checkI l = 0) (hd : (disS l).length ≤ 900000) : ∃ L, callT E 9 [.i (.str (disS l))] [] = some (.tup [.i (.sl 2 (rowsI l) false), .i (.v (.int .i64 0)), .i (.v (.int .i64 0))], L) := by
 have h5 := check_len hc
 obtain ⟨rest, e1, e2, e3, s, e4, e5, e6, e7⟩ := assemble_plain hc
 have hS := fun H => ik24 10 (disS l) hd H
 rw [e1] at hS
 have hl0 := l09 (rest.map textK) (by simp; omega) rest [] rfl e3 ⟨[], [], [], []⟩ s e4
 have hl1 := l19 l hc s.L s.T s.M e6 e7 0 (Nat.zero_le _)
 rw [List.take_zero, List.drop_zero, List.nil_append] at hl1
 have hrl := rowsW_len (rest.map textK)
 have hC : s.C.length = l.length := by rw [e5]; simp
 rw [hC, e5] at hl0
 simp only [List.length_nil, show ((0 : Nat) : Int) = 0 from rfl, show rowsI [] = [] from rfl, show rows64' [] = [] from rfl, show mJ [] = [] from rfl, show mS [] = [] from rfl] at hl0 hl1
 have u1 := rowsI_take l
 have u3 := rowsI_len l
 have u4 := rows64'_len s.L
 have u5 := rows64'_take s.L
 have u6 : (rowsI (l.map zJ)).length = l.length := by rw [rowsI_len, List.length_map]
 have u7 : (rowsI (l.map zJ)).take l.length = rowsI (l.map zJ) := List.take_of_length_le (by rw [u6]; exact Nat.le_refl _)
 generalize disS l = D at *
 generalize rest.map textK = all at *
 generalize rowsW all = R at *
 generalize rowsI (l.map zJ) = Q at *
 rw [callT_eq Tryd.func9 rfl fok9 (by simp [Tryd.ntmps9])]
 simp (disch := first | omega | (simp only [vlen, hrl, u3, u4, u6]; omega)) only [vall, reduceCtorEq, ↓reduceIte, zq0, zq1, zq2, zq3, zq4, zq5, zq6, zq7, zq8, zq9, zq10, zq11, zq12, zq13, zq14, zq15, zq16, zq17, en9, bs22, bs45, bs72, hS, hl0, hl1, hrl, u1, u3, u4, u5, u6, u7, lp9_3, lp9_10]
 exact ⟨_, rfl⟩
theorem ik9 (l : List Ins) (hc : checkI l = 0) (hd : (disS l).length ≤ 900000) (H : Hp) : isoK E (callT E) 9 [.i (.str (disS l))] H = some (.tup [.i (.sl 2 (rowsI l) false), .i (.v (.int .i64 0)), .i (.v (.int .i64 0))], H) := isoK_val rfl rfl rfl (c9 l hc hd)
end Go.VI

namespace Go.VI
open Go.Proofs
set_option maxRecDepth 100000
set_option linter.unusedSimpArgs false
set_option linter.unusedVariables false
set_option maxHeartbeats 16000000
def greatR (g : List Gl) : Bool := decide (140 < (g.length : Int)) || longG g
def grQ (b : Bool) (fr : Fr) (ex : Ex) : Prop := (b = false ∧ ex = .exit 0) ∨ (b = true ∧ ex = .ret ∧ get 2 fr = .i (.v (.bool true)))
set_option linter.defProp false in
def lp12_4 := show ∀ B fr H, execT E B 12 (Code.loop _) fr H = rlG E B 12 (loopAt Tryd.f12 0) (gcn B (norm [0, 3] fr) H) from fun B fr H => rl_intro rfl mt12_4 mb12_4 zf12_4 hd12_4 fr H
theorem l12 (g : List Gl) (hg : g.length ≤ 140) (k : Nat) (hk : k ≤ g.length) :
  ∃ fr ex H', rl E 0 12 (loopAt Tryd.f12 0) [(0, .i (.sl 3 (rowsG g) false)), (3, .i (.v (.int .i64 k)))] [] = some (ex, fr, H') ∧ grQ (longG (g.drop k)) fr ex := by
 by_cases hlt : k < g.length
 ·have hrow := rowsG_at hlt
  rw [List.drop_eq_getElem_cons hlt]
  obtain ⟨fr, ex, H', e, hh⟩ := l12 g hg (k + 1) hlt
  generalize g[k] = a at *
  obtain ⟨t, cc, s⟩ := a
  have hq : longG ((t, cc, s) :: g.drop (k + 1)) = (decide (40 < (t.length : Int)) || longG (g.drop (k + 1))) := by simp only [longG, List.any_cons]
  rw [hq]
  simp only at hrow
  rw [rl_step (fn := Tryd.f12) (k := 0) rfl]
  by_cases h4 : 40 < (t.length : Int)
  ·rw [decide_eq_true h4, Bool.true_or]
   clear e hh
   simp (disch := first | omega | (simp only [vlen, rowsG_len]; omega)) only [vall, reduceCtorEq, ↓reduceIte, zq0, zq1, zq2, zq3, zq4, zq5, zq6, zq7, zq8, zq9, zq10, zq11, zq12, zq13, zq14, zq15, zq16, zq17, en12, bs23, hrow, rowsG_len, h4, lp12_4]
   exact ⟨_, _, _, rfl, .inr ⟨rfl, rfl, rfl⟩⟩
  ·rw [decide_eq_false h4, Bool.false_or]
   refine ⟨fr, ex, H', Eq.trans ?_ e, hh⟩
   clear e hh
   simp (disch := first | omega | (simp only [vlen, rowsG_len]; omega)) only [vall, reduceCtorEq, ↓reduceIte, zq0, zq1, zq2, zq3, zq4, zq5, zq6, zq7, zq8, zq9, zq10, zq11, zq12, zq13, zq14, zq15, zq16, zq17, en12, bs23, hrow, rowsG_len, h4, lp12_4]
 ·obtain rfl : k = g.length := by omega
  rw [List.drop_length]
  rw [rl_step (fn := Tryd.f12) (k := 0) rfl]
  simp (disch := first | omega | (simp only [vlen, rowsG_len]; omega)) only [vall, reduceCtorEq, ↓reduceIte, zq0, zq1, zq2, zq3, zq4, zq5, zq6, zq7, zq8, zq9, zq10, zq11, zq12, zq13, zq14, zq15, zq16, zq17, en12, bs23, rowsG_len, lp12_4]
  exact ⟨_, _, _, rfl, .inl ⟨rfl, rfl⟩⟩
termination_by g.length - k
theorem c12 (g : List Gl) (hg : (g.length : Int) < 9223372036854775808) : ∃ L, callT E 12 [.i (.sl 3 (rowsG g) false)] [] = some (.i (.v (.bool (greatR g))), L) := by
 unfold greatR
 by_cases h2 : 140 < (g.length : Int)
 ·rw [decide_eq_true h2, Bool.true_or]
  rw [callT_eq Tryd.func12 rfl fok12 (by simp [Tryd.ntmps12])]
  simp (disch := first | omega | (simp only [vlen, rowsG_len]; omega)) only [vall, reduceCtorEq, ↓reduceIte, zq0, zq1, zq2, zq3, zq4, zq5, zq6, zq7, zq8, zq9, zq10, zq11, zq12, zq13, zq14, zq15, zq16, zq17, en12, bs23, rowsG_len, h2]
  exact ⟨_, rfl⟩
 ·rw [decide_eq_false h2, Bool.false_or]
  obtain ⟨fr, ex, H', e, hh⟩ := l12 g (by omega) 0 (Nat.zero_le _)
  rw [List.drop_zero] at hh
  have e' : rl E 0 12 (loopAt Tryd.f12 0) [(0, .i (.sl 3 (rowsG g) false)), (3, .i (.v (.int .i64 0)))] [] = _ := e
  clear e
  rcases hh with ⟨hz, rfl⟩ | ⟨hz, rfl, h4⟩
  ·rw [hz]
   rw [callT_eq Tryd.func12 rfl fok12 (by simp [Tryd.ntmps12])]
   simp (disch := first | omega | (simp only [vlen, rowsG_len]; omega)) only [vall, reduceCtorEq, ↓reduceIte, zq0, zq1, zq2, zq3, zq4, zq5, zq6, zq7, zq8, zq9, zq10, zq11, zq12, zq13, zq14, zq15, zq16, zq17, en12, bs23, rowsG_len, h2, e', lp12_4]
   exact ⟨_, rfl⟩
  ·rw [hz]
   rw [callT_eq Tryd.func12 rfl fok12 (by simp [Tryd.ntmps12])]
   simp (disch := first | omega | (simp only [vlen, rowsG_len]; omega)) only [vall, reduceCtorEq, ↓reduceIte, zq0, zq1, zq2, zq3, zq4, zq5, zq6, zq7, zq8, zq9, zq10, zq11, zq12, zq13, zq14, zq15, zq16, zq17, en12, bs23, rowsG_len, h2, e', h4, lp12_4]
   exact ⟨_, rfl⟩
theorem ik12 (g : List Gl) (hg : (g.length : Int) < 9223372036854775808) (H : Hp) : isoK E (callT E) 12 [.i (.sl 3 (rowsG g) false)] H = some (.i (.v (.bool (greatR g))), H) := isoK_val rfl rfl rfl (c12 g hg)
theorem okG_ofR {g : List Gl} (h : greatR g = false) (hb : bG g) : okG g := by
 unfold greatR at h
 rw [Bool.or_eq_false_iff] at h
 obtain ⟨h2, h3⟩ := h
 have h2 := of_decide_eq_false h2
 refine ⟨by omega, fun a ha => ⟨?_, (hb a ha).2⟩⟩
 have := List.any_eq_false.1 h3 a ha
 have := of_decide_eq_false (Bool.eq_false_iff.2 this)
 omega
def smallR (l : List Ins) (g : List Gl) : Bool := decide ((l.length : Int) ≤ 100) && !greatR g
theorem c4 (l : List Ins) (hl : (l.length : Int) < 9223372036854775808) (g : List Gl) (hg : (g.length : Int) < 9223372036854775808) : ∃ L, callT E 4 [.i (.sl 2 (rowsI l) false), .i (.sl 3 (rowsG g) false)] [] = some (.i (.v (.bool (smallR l g))), L) := by
 have h := fun H => ik12 g hg H
 unfold smallR
 generalize greatR g = q at *
 by_cases h1 : (l.length : Int) ≤ 100
 ·rw [decide_eq_true h1, Bool.true_and]
  rw [callT_eq Tryd.func4 rfl fok4 (by simp [Tryd.ntmps4])]
  simp (disch := first | omega | (simp only [vlen, rowsI_len]; omega)) only [vall, reduceCtorEq, ↓reduceIte, zq0, zq1, zq2, zq3, zq4, zq5, zq6, zq7, zq8, zq9, zq10, zq11, zq12, zq13, zq14, zq15, zq16, zq17, en4, bs22, bs23, rowsI_len, h, h1]
  exact ⟨_, rfl⟩
 ·rw [decide_eq_false h1, Bool.false_and]
  rw [callT_eq Tryd.func4 rfl fok4 (by simp [Tryd.ntmps4])]
  simp (disch := first | omega | (simp only [vlen, rowsI_len]; omega)) only [vall, reduceCtorEq, ↓reduceIte, zq0, zq1, zq2, zq3, zq4, zq5, zq6, zq7, zq8, zq9, zq10, zq11, zq12, zq13, zq14, zq15, zq16, zq17, en4, bs22, bs23, rowsI_len, h, h1]
  exact ⟨_, rfl⟩
theorem ik4 (l : List Ins) (hl : (l.length : Int) < 9223372036854775808) (g : List Gl) (hg : (g.length : Int) < 9223372036854775808) (H : Hp) : isoK E (callT E) 4 [.i (.sl 2 (rowsI l) false), .i (.sl 3 (rowsG g) false)] H = some (.i (.v (.bool (smallR l g))), H) := isoK_val rfl rfl rfl (c4 l hl g hg)
theorem c5 : ∃ L, callT E 5 [] [] = some (.i (.v (.bool true)), L) := by
 have hv := fun H => ik13 [(15, 0)] (by decide) H
 rw [show (depthsS [(15, 0)]).2 = 13 by decide, show rowsI [((15 : Int), (0 : Int))] = [[.v (.int .i64 15), .v (.int .i64 0)]] from rfl] at hv
 rw [callT_eq Tryd.func5 rfl fok5 (by simp [Tryd.ntmps5])]
 simp (disch := first | omega | (simp only [vlen]; omega)) only [vall, reduceCtorEq, ↓reduceIte, zq0, zq1, zq2, zq3, zq4, zq5, zq6, zq7, zq8, zq9, zq10, zq11, zq12, zq13, zq14, zq15, zq16, zq17, en5, bs22, hv]
 exact ⟨_, rfl⟩
theorem ik5 (H : Hp) : isoK E (callT E) 5 [] H = some (.i (.v (.bool true)), H) := isoK_val rfl rfl rfl c5
theorem dis_len {l : List Ins} (hc : checkI l = 0) : (disS l).length ≤ 900000 := by
 have h5 := check_len hc
 have key : ∀ (r : List Ins) (m : List (Int × IV)) (k : Int), (∀ p ∈ r, (0 ≤ p.1 ∧ p.1 ≤ 20) ∧ (-999999999 ≤ p.2 ∧ p.2 ≤ 999999999)) → 0 ≤ k → k + r.length ≤ 1000 → (disR m k r).length ≤ 100 * r.length + 100 := by
  intro r
  induction r with
  | nil =>
   intro m k _ h0 h1
   have := (itoa_len (n := k) (by simp at h1; omega)).2
   unfold disR lineB lblB
   split <;> simp <;> omega
  | cons p r ih =>
   intro m k hr h0 h1
   rw [List.length_cons] at h1
   have hi := ih m (k + 1) (fun q hq => hr q (List.mem_cons_of_mem _ hq)) (by omega) (by omega)
   obtain ⟨⟨a1, a2⟩, a3, a4⟩ := hr p (List.mem_cons_self ..)
   have n3 := (name_at a1 a2).2.2
   have i1 := (itoa_len (n := k) (by omega)).2
   have i2 := (itoa_len (n := p.2) (by omega)).2
   have hl1 : (lineB m k).length ≤ 30 := by unfold lineB lblB; split <;> simp <;> omega
   have hl2 : (insB p).length ≤ 50 := by
    unfold insB argB lblB
    split
    ·simp; omega
    ·split <;> simp <;> omega
   rw [disR, List.length_append, List.length_append, List.length_cons]
   omega
 have := key l (tgtM l []) 0 (fun p hp => by
  obtain ⟨i, hi⟩ := List.getElem?_of_mem hp
  obtain ⟨h1, h2, h3, h4, _⟩ := chk_at hc hi
  exact ⟨⟨h1, h2⟩, h3, h4⟩) (by decide) (by omega)
 unfold disS
 omega
theorem ne_vd (a1 a2 a3 b1 b2 b3 : Int) : binE Tryd.prog .neq 25 (.agg [.i (.v (.int .i64 a1)), .i (.v (.int .i64 a2)), .i (.v (.int .i64 a3))]) (.agg [.i (.v (.int .i64 b1)), .i (.v (.int .i64 b2)), .i (.v (.int .i64 b3))]) = some (.i (.v (.bool (!(decide (a1 = b1) && (decide (a2 = b2) && (decide (a3 = b3) && true))))))) := by
 unfold binE
 simp only
 unfold eqE
 simp only
 rw [if_neg (by rw [eqg25]; decide), agg25, lv25]
 rfl
theorem law3 (l : List Ins) (hl : l.length ≤ 9223372036854775807) (row : Int) (hrow : bI row) (ga1 : List Gl) (hgl : ga1.length ≤ 9223372036854775807) (hg : bG ga1) (gb1 : List Gl) (hgl2 : gb1.length ≤ 9223372036854775807) (hg2 : bG gb1) (c w r : Int) (hv : bI c ∧ bI w ∧ bI r) :
  ∃ L, callT E 3 [.i (.sl 2 (rowsI l) false), .i (.v (.int .i64 row)), .i (.sl 3 (rowsG ga1) false), .i (.sl 3 (rowsG gb1) false), .agg [.i (.v (.int .i64 c)), .i (.v (.int .i64 w)), .i (.v (.int .i64 r))]] [] = some (.i (.v (.bool true)), L) := by
 have hs1 := fun H => ik4 l (by omega) ga1 (by omega) H
 have hs2 := fun H => ik4 l (by omega) gb1 (by omega) H
 cases hb : smallR l ga1 with
 | false =>
  rw [hb] at hs1
  generalize smallR l gb1 = q at *
  rw [callT_eq Tryd.func3 rfl fok3 (by simp [Tryd.ntmps3])]
  simp (disch := first | omega | (simp only [vlen]; omega)) only [vall, reduceCtorEq, ↓reduceIte, zq0, zq1, zq2, zq3, zq4, zq5, zq6, zq7, zq8, zq9, zq10, zq11, zq12, zq13, zq14, zq15, zq16, zq17, en3, bs22, bs23, hs1, hs2, ik5]
  exact ⟨_, rfl⟩
 | true =>
  rw [hb] at hs1
  cases hb2 : smallR l gb1 with
  | false =>
   rw [hb2] at hs2
   rw [callT_eq Tryd.func3 rfl fok3 (by simp [Tryd.ntmps3])]
   simp (disch := first | omega | (simp only [vlen]; omega)) only [vall, reduceCtorEq, ↓reduceIte, zq0, zq1, zq2, zq3, zq4, zq5, zq6, zq7, zq8, zq9, zq10, zq11, zq12, zq13, zq14, zq15, zq16, zq17, en3, bs22, bs23, hs1, hs2, ik5]
   exact ⟨_, rfl⟩
  | true =>
   rw [hb2] at hs2
   unfold smallR at hb hb2
   rw [Bool.and_eq_true] at hb hb2
   have hok := okG_ofR (by simpa using hb.2) hg
   have hok2 := okG_ofR (by simpa using hb2.2) hg2
   have hh := fun H => ik6 l (by omega) H
   by_cases he : (hiddenS l).2 = 0
   ·have hd : (depthsS l).2 = 0 := by
     unfold hiddenS at he
     by_cases h : (depthsS l).2 = 0
     ·exact h
     ·rw [if_neg h] at he; exact absurd he h
    obtain ⟨hck, hA⟩ := run_5000 hd row ga1 c w
    obtain ⟨_, hB⟩ := run_5000 hd row gb1 c w
    have e1 : (runT l row ga1 c w r 5000).e = 0 := by
     unfold runT
     simp only [if_pos hck, limI_5000]
     exact hA.2.2.1
    have e2 : (runT l row gb1 c w r 5000).e = 0 := by
     unfold runT
     simp only [if_pos hck, limI_5000]
     exact hB.2.2.1
    have hD := fun H => ik8 l hck H
    have hAs := fun H => ik9 l hck (dis_len hck) H
    have hEn := fun H => ik10 l (by omega) hck H
    have hDe := fun H => ik11 l hck H
    have r1 := fun H => ik7 l (by omega) row hrow ga1 hok c w r 5000 hv (by unfold bI; omega) H
    have r2 := fun H => ik7 l (by omega) row hrow gb1 hok2 c w r 5000 hv (by unfold bI; omega) H
    rw [run_eqS] at r1 r2
    rw [he] at hh
    cases hhd : (hiddenS l).1 with
    | true =>
     rw [hhd] at hh
     clear hA hB
     generalize runT l row ga1 c w r 5000 = oa at *
     generalize runT l row gb1 c w r 5000 = ob at *
     generalize disS l = ds at *
     generalize encL 0 l = es at *
     obtain ⟨a1, a2, a3, a4, a5⟩ := oa
     obtain ⟨b1, b2, b3, b4, b5⟩ := ob
     simp only at e1 e2
     subst e1 e2
     unfold ocA at r1 r2
     simp only at r1 r2
     rw [callT_eq Tryd.func3 rfl fok3 (by simp [Tryd.ntmps3])]
     simp (disch := first | omega | (simp only [vlen]; omega)) only [vall, reduceCtorEq, ↓reduceIte, zq0, zq1, zq2, zq3, zq4, zq5, zq6, zq7, zq8, zq9, zq10, zq11, zq12, zq13, zq14, zq15, zq16, zq17, en3, bs22, bs23, hs1, hs2, hh, r1, r2, hD, hAs, hEn, hDe, fld_v, eq_oc, eq_vd, ne_vd, Bool.and_true, ik5]
     exact ⟨_, rfl⟩
    | false =>
     have hi := independent hhd he row ga1 gb1 c w r
     rw [hhd] at hh
     clear hA hB
     obtain ⟨i1, i2, i3, i4⟩ := hi
     generalize runT l row ga1 c w r 5000 = oa at *
     generalize runT l row gb1 c w r 5000 = ob at *
     generalize disS l = ds at *
     generalize encL 0 l = es at *
     obtain ⟨a1, a2, a3, a4, a5⟩ := oa
     obtain ⟨b1, b2, b3, b4, b5⟩ := ob
     simp only at e1 e2 i1 i2 i3 i4
     subst e1 e2 i1 i2 i3 i4
     unfold ocA at r1 r2
     simp only at r1 r2
     rw [callT_eq Tryd.func3 rfl fok3 (by simp [Tryd.ntmps3])]
     simp (disch := first | omega | (simp only [vlen]; omega)) only [vall, reduceCtorEq, ↓reduceIte, zq0, zq1, zq2, zq3, zq4, zq5, zq6, zq7, zq8, zq9, zq10, zq11, zq12, zq13, zq14, zq15, zq16, zq17, en3, bs22, bs23, hs1, hs2, hh, r1, r2, hD, hAs, hEn, hDe, fld_v, eq_oc, eq_vd, ne_vd, Bool.and_true, ik5]
     exact ⟨_, rfl⟩
   ·generalize (hiddenS l).2 = e at *
    generalize (hiddenS l).1 = hd at *
    rw [callT_eq Tryd.func3 rfl fok3 (by simp [Tryd.ntmps3])]
    simp (disch := first | omega | (simp only [vlen]; omega)) only [vall, reduceCtorEq, ↓reduceIte, zq0, zq1, zq2, zq3, zq4, zq5, zq6, zq7, zq8, zq9, zq10, zq11, zq12, zq13, zq14, zq15, zq16, zq17, en3, bs22, bs23, hs1, hs2, hh, he, ik5]
    exact ⟨_, rfl⟩
theorem c3 (l : List Ins) (hl : l.length ≤ 9223372036854775807) (row : Int) (hrow : bI row) (ga1 : List Gl) (hgl : ga1.length ≤ 9223372036854775807) (hg : bG ga1) (gb1 : List Gl) (hgl2 : gb1.length ≤ 9223372036854775807) (hg2 : bG gb1) (c w r : Int) (hv : bI c ∧ bI w ∧ bI r) :
  ∃ L, callT E 3 [.i (.sl 2 (l.map fun a => insC a) false), .i (.v (.int .i64 row)), .i (.sl 3 (ga1.map fun a => [.str a.1, .v (.bool a.2.1), .v (.int .i64 a.2.2)]) false), .i (.sl 3 (gb1.map fun a => [.str a.1, .v (.bool a.2.1), .v (.int .i64 a.2.2)]) false), .agg [.i (.v (.int .i64 c)), .i (.v (.int .i64 w)), .i (.v (.int .i64 r))]] [] = some (.i (.v (.bool true)), L) := law3 l hl row hrow ga1 hgl hg gb1 hgl2 hg2 c w r hv
end Go.VI

set_option linter.unusedSimpArgs false
set_option linter.unusedVariables false
namespace Go.VI
open Go.Proofs Go.Shelf Go.RowKit Go.Lib

def RowS (w : World) (e : TypeId) (row : Option Nat) (v : Value) (n : Nat) (xs : List Value) : Prop :=
 (row = none ∧ n = 0 ∧ xs = [] ∧ ∃ a, v = .slice a 0 0) ∨
 ∃ g cap cur, row = some g ∧ v = .slice (some ⟨g, 0, none⟩) n cap ∧ w.heap[g]? = some (.cells cur e (0, 0)) ∧ n ≤ cap ∧ cap ≤ maxLen ∧ cur.size = cap ∧ cur.toList.take n = xs ∧ xs.length = n
theorem RowS.of {w : World} {B : Nat} {e : TypeId} {g cap n : Nat} {xs : List Value} (h : w.ownsRow B e 1 (.slice (some ⟨g, 0, none⟩) n cap) n xs) : RowS w e (some g) (.slice (some ⟨g, 0, none⟩) n cap) n xs ∧ B ≤ g := by
 obtain ⟨h0, h1 | ⟨g', cap', cur, h1, h2, h3, h4, h5, h6, h7⟩⟩ := h
 ·cases h1.1
 ·injection h1 with a b c
  injection a with a
  injection a with a
  subst a c
  exact ⟨.inr ⟨g, cap, cur, rfl, rfl, h3, h4, h5, by simpa using h6, by simpa using h7, by simpa using h0⟩, h2⟩
theorem app_own_str {P : Program} (w : World) (t u ty e : TypeId) (i : TypeInfo) (ht : P.underlying t = some (.slice e)) (hu : P.underlying u = some .string) (hi : P.info? e = some i) (hz : i.zero = some (.int .u8 0))
  (hsize : i.size = 1) (hby : i.bytes = 1) (row : Option Nat) (v : Value) (n : Nat) (xs : List Value) (hv : RowS w e row v n xs) (s : ByteArray) (h0 : 0 < s.size) (hb : n + s.size ≤ 140737488355328) :
  ∃ g' cap' w', (Builtin.append_ #[t, u] ty #[v, .string s]).run P w = .ok (.slice (some ⟨g', 0, none⟩) (n + s.size) cap') w' ∧ RowS w' e (some g') (.slice (some ⟨g', 0, none⟩) (n + s.size) cap') (n + s.size) (xs ++ strCells s) ∧
   w.grownBy w' row ∧ (row = some g' ∨ w.heap.size ≤ g') := by
 have hmax : n + s.size ≤ maxLen := by unfold maxLen; omega
 rcases hv with ⟨rfl, rfl, rfl, a, rfl⟩ | ⟨g, cap, cur, rfl, rfl, hg, hnc, hcm, hcs, htk, hxl⟩
 ·cases a with
  | none =>
   obtain ⟨v', w', hr, h2, h3, h4⟩ := run_append_own_string (P := P) w w.heap.size t u ty e i ht hu hi hz hsize hby (.slice none 0 0) 0 [] (World.ownsRow_nil _ _ _ _) s hmax hb (Nat.le_refl _)
   have hx := h2
   obtain ⟨_, h1 | ⟨g', cap', cur, rfl, _⟩⟩ := hx
   ·have := (h4.1 h1.1).2; omega
   ·obtain ⟨k1, k2⟩ := RowS.of h2
    exact ⟨g', cap', w', hr, k1, h3, .inr k2⟩
  | some a =>
   have hr := run_append_grow_string (P := P) w t u ty e i (.int .u8 0) ht hu hi hz a 0 0 [] (by simp) (fun j u hj => by cases hj) s (by omega) (by omega) (by rw [hby]; exact growslice_fits (by omega) (by omega))
   have hge := grownCap_ge w (0 + s.size) 0 e
   refine ⟨_, _, _, hr, .inr ⟨w.heap.size, _, _, rfl, rfl, _root_.Go.heap_alloc_new w.drew _, hge, grownCap_le_maxLen w (0 + s.size) 0 e hmax, ?_, ?_, ?_⟩, ⟨rfl, rfl, rfl, by simp, fun k hk _ => Lib.alloc_old w.drew _ k hk⟩, .inr (Nat.le_refl _)⟩
   ·have hz1 : (Value.int IntKind.u8 0).cells.size = 1 := rfl
    simp only [Array.size_append, List.size_toArray, size_zeroCells, hz1, strCells_length, List.length_nil]
    omega
   ·simp only [Array.toList_append, List.nil_append]
    rw [show 0 + s.size = (strCells s).length by rw [strCells_length]; omega]
    exact List.take_left
   ·simp [strCells_length]
 ·have hown : w.ownsRow 0 e 1 (.slice (some ⟨g, 0, none⟩) n cap) n xs := ⟨by simpa using hxl, .inr ⟨g, cap, cur, rfl, Nat.zero_le _, hg, hnc, hcm, by simpa using hcs, by simpa using htk⟩⟩
  obtain ⟨v', w', hr, h2, h3, h4⟩ := run_append_own_string (P := P) w 0 t u ty e i ht hu hi hz hsize hby _ n xs hown s hmax hb (Nat.zero_le _)
  by_cases hroom : n + s.size ≤ cap
  ·have hr2 := run_append_room_string (P := P) w t u ty e i ht hu hi hsize g n cap cur hg s hroom (by omega)
   rw [hr] at hr2
   injection hr2 with e1 e2
   subst e1
   exact ⟨g, cap, w', hr, (RowS.of h2).1, h3, .inl rfl⟩
  ·have holds : ∀ j u, xs[j]? = some u → w.cell? ((⟨g, 0, none⟩ : Addr).add j) = some u := hown.cells (g := g) rfl
   have hr2 := run_append_grow_string (P := P) w t u ty e i (.int .u8 0) ht hu hi hz ⟨g, 0, none⟩ n cap xs (by rw [hsize]; simpa using hxl) holds s (by omega) (by omega) (by rw [hby]; exact growslice_fits (by omega) (by omega))
   rw [hr] at hr2
   injection hr2 with e1 e2
   subst e1
   exact ⟨_, _, w', hr, (RowS.of h2).1, h3, .inr (Nat.le_refl _)⟩
theorem wpList_app_str {P : Program} {w : World} {ops : Array Oper} {rest : List Oper} {o : Oper} {a : Act} {Q : Exit → Act → World → Prop} (hgd : o.guard = none) (sl x : Operand) (t u : TypeId)
  (ho : o.op = .call { callee := .builtin .append, args := #[sl, x], argTypes := #[t, u] })
  (e : TypeId) (i : TypeInfo) (ht : P.underlying t = some (.slice e)) (hu : P.underlying u = some .string) (hi : P.info? e = some i) (hz : i.zero = some (.int .u8 0))
  (hsize : i.size = 1) (hby : i.bytes = 1)
  (row : Option Nat) (v : Value) (n : Nat) (xs : List Value) (hs : a.eval sl = v) (hown : RowS w e row v n xs) (s : ByteArray) (hx : a.eval x = .string s)
  (h0 : 0 < s.size) (hb : n + s.size ≤ 140737488355328)
  (h : ∀ g' cap' w', RowS w' e (some g') (.slice (some ⟨g', 0, none⟩) (n + s.size) cap') (n + s.size) (xs ++ strCells s) → w.grownBy w' row → (row = some g' ∨ w.heap.size ≤ g') → wpList P ops Q rest (a.put o.dst (.slice (some ⟨g', 0, none⟩) (n + s.size) cap')) w') : wpList P ops Q (o :: rest) a w := by
 refine wpList_plain hgd fun K hK => ?_
 obtain ⟨g', cap', w', hr, h2, h3, h4⟩ := app_own_str (P := P) w t u o.type e i ht hu hi hz hsize hby row v n xs hown s h0 hb
 unfold Oper.wp execOp
 simp only [ho, resolve, invoke, builtin, Sem.run_bind, Sem.run_pure, Result.andThen_ok, List.map_toArray, List.map_cons, List.map_nil, hs, hx, hr]
 exact hK _ _ (h g' cap' w' h2 h3 h4)

section
variable {P : Program} {ρ : Ren}
theorem copyCheck_vi (L : Lays.n240 P ρ) (X : Builder.X72 P ρ) (b : Nat) (p v : Value) (w : World) (hp : p = .pointer none ∨ p = .pointer (some ⟨b, 0, none⟩)) (hbk : w.heap[b]? = some (.cells #[p, v] (ρ.t 72) (0, 0))) :
  Calls P (ρ.f 240) #[.pointer (some ⟨b, 0, none⟩)] w fun e w' => e = .returned (.tuple #[]) ∧ w'.heap[b]? = some (.cells #[.pointer (some ⟨b, 0, none⟩), v] (ρ.t 72) (0, 0)) ∧ w.grownBy w' (some b) ∧ w'.heap.size = w.heap.size := by
 rcases hp with rfl | rfl
 ·refine (Any.Builder_copyCheck_fresh L X b w (by simp [World.cell?, hbk]) (by simp [World.shape?, hbk]) (by simp [World.frozen?, hbk])).mono ?_
  rintro e w' ⟨rfl, rfl⟩
  refine ⟨rfl, by simp [World.setCell, Array.getElem?_modify, hbk], ⟨rfl, rfl, rfl, by simp [World.setCell], fun k _ hk => Below.heap_setCell _ _ _ _ (fun e => hk (by simp [e]))⟩, by simp [World.setCell]⟩
 ·refine (Any.Builder_copyCheck_used L X b w (by simp [World.cell?, hbk])).mono ?_
  rintro e w' ⟨rfl, rfl⟩
  exact ⟨rfl, hbk, ⟨rfl, rfl, rfl, Nat.le_refl _, fun _ _ _ => rfl⟩, rfl⟩
theorem RowS.kept {w w' : World} {e : TypeId} {row r2 : Option Nat} {v : Value} {n : Nat} {xs : List Value} (h : RowS w e row v n xs) (hg : w.grownBy w' r2) (hne : row = none ∨ row ≠ r2) : RowS w' e row v n xs := by
 rcases h with h | ⟨g, cap, cur, rfl, rfl, hh, rest⟩
 ·exact .inl h
 ·refine .inr ⟨g, cap, cur, rfl, rfl, ?_, rest⟩
  rw [hg.block g (Array.getElem?_eq_some_iff.1 hh).1 (by simpa using hne)]
  exact hh

set_option maxHeartbeats 2000000 in
set_option maxRecDepth 100000 in
theorem ws_vi (L : Lays.n166 P ρ) (X : Builder.Extra P ρ) (b : Nat) (p v : Value) (row : Option Nat) (n : Nat) (bs : List Value) (s : ByteArray) (w : World) (hp : p = .pointer none ∨ p = .pointer (some ⟨b, 0, none⟩)) (hbk : w.heap[b]? = some (.cells #[p, v] (ρ.t 72) (0, 0)))
  (hrow : RowS w (ρ.t 5) row v n bs) (hne : row ≠ some b) (h0 : 0 < s.size) (hlen : n + s.size ≤ 140737488355328) :
  Calls P (ρ.f 166) #[.pointer (some ⟨b, 0, none⟩), .string s] w fun e w' => e = .returned (.tuple #[.int .i64 s.size, .nilIface]) ∧
   ∃ g' cap', w'.heap[b]? = some (.cells #[.pointer (some ⟨b, 0, none⟩), .slice (some ⟨g', 0, none⟩) (n + s.size) cap'] (ρ.t 72) (0, 0)) ∧
    RowS w' (ρ.t 5) (some g') (.slice (some ⟨g', 0, none⟩) (n + s.size) cap') (n + s.size) (bs ++ Lib.strCells s) ∧ g' ≠ b ∧ (row = some g' ∨ w.heap.size ≤ g') ∧
    w'.os = w.os ∧ w'.tape = w.tape ∧ w'.output = w.output ∧ w.heap.size ≤ w'.heap.size ∧ ∀ k, k < w.heap.size → k ≠ b → some k ≠ row → w'.heap[k]? = w.heap[k]? := by
 obtain ⟨i0, hi, hz0, hz1, hz2⟩ := info_parts X.infoByte
 have mixed := L.mixed
 have t72 := L.t72; have a72 := L.a72; have z72 := L.z72; have v72 := L.v72; have u72 := run_underlying L.t72
 have t70 := L.t70; have a70 := L.a70; have z70 := L.z70; have v70 := L.v70; have u70 := run_underlying L.t70
 have t37 := L.t37; have a37 := L.a37; have z37 := L.z37; have v37 := L.v37; have u37 := run_underlying L.t37
 have t3 := L.t3; have a3 := L.a3; have z3 := L.z3; have v3 := L.v3; have u3 := run_underlying L.t3
 have t9 := L.t9; have a9 := L.a9; have z9 := L.z9; have v9 := L.v9; have u9 := run_underlying L.t9
 have t4 := L.t4; have a4 := L.a4; have z4 := L.z4; have v4 := L.v4; have u4 := run_underlying L.t4
 have t164 := L.t164; have a164 := L.a164; have z164 := L.z164; have v164 := L.v164; have u164 := run_underlying L.t164
 have t5 := X.t5; have a5 := X.a5; have z5 := X.z5; have v5 := X.v5; have u5 := run_underlying X.t5
 have e240 : ∀ args w, (callFunc (ρ.f 240) args).run P w = .ok (.enter (ρ.f 240) args) w := enters_of L.f240 (by kernel_rfl) rfl
 have hlt0 : b < w.heap.size := (Array.getElem?_eq_some_iff.1 hbk).1
 go_enter L.f166, Body.n166_ntmps ρ
 go_wp2_with (go_at_fn (ρ.f 240); refine (copyCheck_vi { L with } X.toX72 b p v _ hp hbk).mono ?_)
 rintro e w1 ⟨rfl, hbk1, hg1, hs1⟩
 have hrow1 := hrow.kept hg1 (.inr hne)
 have c0 : w1.cell? ⟨b, 0, none⟩ = some (.pointer (some ⟨b, 0, none⟩)) := by rw [Lib.cell_of_heap hbk1]; rfl
 have c1 : w1.cell? ⟨b, 1, none⟩ = some v := by rw [Lib.cell_of_heap hbk1]; rfl
 obtain ⟨va, vn, vc, rfl⟩ : ∃ ao n' cap, v = .slice ao n' cap := by
  rcases hrow with ⟨_, _, _, a, rfl⟩ | ⟨g, cap, cur, _, rfl, _⟩
  ·exact ⟨_, _, _, rfl⟩
  ·exact ⟨_, _, _, rfl⟩
 go_wp2_with (at_builtin; refine wpList_app_str rfl _ _ (ρ.t 37) (ρ.t 9) rfl (ρ.t 5) i0 L.t37 L.t9 hi hz0 hz1 hz2 row _ n bs rfl hrow1 s rfl h0 hlen ?_)
 intro g' cap' w2 hrow2 hgrow hor
 have hlt : b < w1.heap.size := by rw [hs1]; exact hlt0
 have hb2 : w2.heap[b]? = some (.cells #[.pointer (some ⟨b, 0, none⟩), .slice va vn vc] (ρ.t 72) (0, 0)) := by
  rw [hgrow.block b hlt (fun e => hne e.symm)]
  exact hbk1
 have d0 : w2.cell? ⟨b, 0, none⟩ = some (.pointer (some ⟨b, 0, none⟩)) := by rw [Lib.cell_of_heap hb2]; rfl
 have d1 : w2.cell? ⟨b, 1, none⟩ = some (.slice va vn vc) := by rw [Lib.cell_of_heap hb2]; rfl
 have f1 : w2.frozen? ⟨b, 1, none⟩ = false := Lib.frozen_of_heap hb2 1
 have hgb : g' ≠ b := by
  rintro rfl
  rcases hor with h | h
  ·exact hne h
  ·omega
 go_wp2
 go_ret2
 refine ⟨rfl, g', cap', ?_, hrow2.kept (r2 := some b) ⟨rfl, rfl, rfl, by simp [World.setCell], fun k _ hk => Below.heap_setCell _ _ _ _ (fun e => hk (by simp [e]))⟩ (.inr (by simp [hgb])), hgb, hor.imp id (fun h => by omega), ?_, ?_, ?_, ?_, fun k hk h1 h2 => ?_⟩
 ·simp [World.setCell, Array.getElem?_modify, hb2]
 ·exact hgrow.os.trans hg1.os
 ·exact hgrow.tape.trans hg1.tape
 ·exact hgrow.output.trans hg1.output
 ·have := hg1.size; have := hgrow.size; simp [World.setCell]; omega
 ·have e1 : (w2.setCell ⟨b, 1, none⟩ (.slice (some ⟨g', 0, none⟩) (n + s.size) cap')).heap[k]? = w2.heap[k]? := Below.heap_setCell _ _ _ _ h1
  rw [e1, hgrow.block k (by omega) h2, hg1.block k hk (by simpa using h1)]

set_option maxHeartbeats 1000000 in
set_option maxRecDepth 100000 in
theorem st_vi (L : Lays.n169 P ρ) (X : Builder.Extra P ρ) (b g cap : Nat) (p : Value) (l : List UInt8) (w : World) (hbk : w.heap[b]? = some (.cells #[p, .slice (some ⟨g, 0, none⟩) l.length cap] (ρ.t 72) (0, 0)))
  (hrow : RowS w (ρ.t 5) (some g) (.slice (some ⟨g, 0, none⟩) l.length cap) l.length (Lib.byteCells l)) (h0 : l ≠ []) :
  Calls P (ρ.f 169) #[.pointer (some ⟨b, 0, none⟩)] w fun e w' => e = .returned (.string ⟨l.toArray⟩) ∧
   w'.os = w.os ∧ w'.tape = w.tape ∧ w'.output = w.output ∧ w'.heap.size = w.heap.size ∧ ∀ k, k ≠ g → w'.heap[k]? = w.heap[k]? := by
 have hl0 : l.length ≠ 0 := by simpa using h0
 obtain ⟨cur, hg, hnc, hcm, hcs, htake⟩ : ∃ cur, w.heap[g]? = some (.cells cur (ρ.t 5) (0, 0)) ∧ l.length ≤ cap ∧ cap ≤ maxLen ∧ cur.size = cap ∧ cur.toList.take l.length = Lib.byteCells l := by
  rcases hrow with ⟨h, _⟩ | ⟨g', cap', cur, h1, h2, h3, h4, h5, h6, h7, _⟩
  ·cases h
  ·injection h1 with h1
   subst h1
   injection h2 with _ _ h2
   subst h2
   exact ⟨cur, h3, h4, h5, h6, h7⟩
 have hown : w.ownsRow 0 (ρ.t 5) 1 (.slice (some ⟨g, 0, none⟩) l.length cap) l.length (Lib.byteCells l) := ⟨by simp [Lib.byteCells_length], .inr ⟨g, cap, cur, rfl, Nat.zero_le _, hg, hnc, hcm, by simpa using hcs, by simpa using htake⟩⟩
 have c1 : w.drew.cell? ⟨b, 1, none⟩ = some (.slice (some ⟨g, 0, none⟩) l.length cap) := by
  have : w.drew.heap[b]? = some (.cells #[p, .slice (some ⟨g, 0, none⟩) l.length cap] (ρ.t 72) (0, 0)) := hbk
  rw [Lib.cell_of_heap this]; rfl
 have hSD : (Builtin.unsafeSliceData_ #[(ρ.t 37)] (ρ.t 127) #[.slice (some ⟨g, 0, none⟩) l.length cap]).run P w.drew = .ok (.pointer (some ⟨g, 0, none⟩)) w.drew :=
  Lib.run_unsafeSliceData_row _ _ _ _ _ _ (by omega)
 have hUS : (Builtin.unsafeString_ #[(ρ.t 127), (ρ.t 3)] (ρ.t 9) #[.pointer (some ⟨g, 0, none⟩), .int .i64 l.length]).run P w.drew = .ok (.string ⟨l.toArray⟩) (w.drew.freeze ⟨g, 0, none⟩ l.length) := by
  refine Lib.run_unsafeString_row w.drew (ρ.t 127) (ρ.t 3) (ρ.t 9) (ρ.t 5) L.t127 X.cellsByte g cur.size (by have hg' : w.drew.heap[g]? = some (.cells cur (ρ.t 5) (0, 0)) := hg; simp [World.shape?, hg']) l h0 (by omega) (by unfold maxLen at hcm; omega) ?_
  intro j x hx
  have := hown.cells (g := g) rfl j (.int .u8 x.toNat) (by simp [Lib.byteCells, hx])
  exact this
 have mixed := L.mixed
 have t72 := L.t72; have a72 := L.a72; have z72 := L.z72; have v72 := L.v72; have u72 := run_underlying L.t72
 have t70 := L.t70; have a70 := L.a70; have z70 := L.z70; have v70 := L.v70; have u70 := run_underlying L.t70
 have t37 := L.t37; have a37 := L.a37; have z37 := L.z37; have v37 := L.v37; have u37 := run_underlying L.t37
 have t127 := L.t127; have a127 := L.a127; have z127 := L.z127; have v127 := L.v127; have u127 := run_underlying L.t127
 have t3 := L.t3; have a3 := L.a3; have z3 := L.z3; have v3 := L.v3; have u3 := run_underlying L.t3
 have t9 := L.t9; have a9 := L.a9; have z9 := L.z9; have v9 := L.v9; have u9 := run_underlying L.t9
 have t5 := X.t5; have a5 := X.a5; have z5 := X.z5; have v5 := X.v5; have u5 := run_underlying X.t5
 have hfin : ∀ W : World, W = w.drew.freeze ⟨g, 0, none⟩ l.length → W.os = w.os ∧ W.tape = w.tape ∧ W.output = w.output ∧ W.heap.size = w.heap.size ∧ ∀ k, k ≠ g → W.heap[k]? = w.heap[k]? := by
  rintro W rfl
  unfold World.freeze
  split
  ·exact ⟨rfl, rfl, rfl, rfl, fun _ _ => rfl⟩
  ·refine ⟨rfl, rfl, rfl, by simp, fun k hk => ?_⟩
   simp only [Array.getElem?_modify, if_neg (Ne.symm hk)]
   rfl
 go_enter L.f169, Body.n169_ntmps ρ
 go_wp2
 go_region_o
 all_goals (go_wp2; go_ret; exact ⟨rfl, hfin _ rfl⟩)
set_option maxHeartbeats 2000000 in
set_option maxRecDepth 100000 in
theorem st_nil_vi (L : Lays.n169 P ρ) (X : Builder.Extra P ρ) (b : Nat) (p : Value) (w : World) (hbk : w.heap[b]? = some (.cells #[p, .slice none 0 0] (ρ.t 72) (0, 0))) :
  Calls P (ρ.f 169) #[.pointer (some ⟨b, 0, none⟩)] w fun e w' => e = .returned (.string ⟨#[]⟩) ∧ w'.os = w.os ∧ w'.tape = w.tape ∧ w'.output = w.output ∧ w'.heap = w.heap := by
 have hUS := Any.unsafeString_none L X
 have c1 : w.drew.cell? ⟨b, 1, none⟩ = some (.slice none 0 0) := by
  have : w.drew.heap[b]? = some (.cells #[p, .slice none 0 0] (ρ.t 72) (0, 0)) := hbk
  rw [Lib.cell_of_heap this]; rfl
 have hSD : (Builtin.unsafeSliceData_ #[(ρ.t 37)] (ρ.t 127) #[.slice none 0 0]).run P w.drew = .ok (.pointer none) w.drew := rfl
 have mixed := L.mixed
 have t72 := L.t72; have a72 := L.a72; have z72 := L.z72; have v72 := L.v72; have u72 := run_underlying L.t72
 have t70 := L.t70; have a70 := L.a70; have z70 := L.z70; have v70 := L.v70; have u70 := run_underlying L.t70
 have t37 := L.t37; have a37 := L.a37; have z37 := L.z37; have v37 := L.v37; have u37 := run_underlying L.t37
 have t127 := L.t127; have a127 := L.a127; have z127 := L.z127; have v127 := L.v127; have u127 := run_underlying L.t127
 have t3 := L.t3; have a3 := L.a3; have z3 := L.z3; have v3 := L.v3; have u3 := run_underlying L.t3
 have t9 := L.t9; have a9 := L.a9; have z9 := L.z9; have v9 := L.v9; have u9 := run_underlying L.t9
 have t5 := X.t5; have a5 := X.a5; have z5 := X.z5; have v5 := X.v5; have u5 := run_underlying X.t5
 go_enter L.f169, Body.n169_ntmps ρ
 go_wp2
 go_region_o
 all_goals (go_wp2; go_ret; exact ⟨rfl, rfl, rfl, rfl, rfl⟩)
end
end Go.VI

set_option linter.unusedSimpArgs false
set_option linter.unusedVariables false
namespace Go.VI
open Go.Proofs Go.Shelf Go.RowKit Go.Lib
variable {E : Env} {ρ : Ren} {I : Imm} {η : Eta} {H : Hp} {w : World}
theorem after_mk {H' : Hp} {w' : World} {η' : Eta} {Q : Imm → Eta → Prop} (hC : Conc E I η H w) (ho : w'.os = w.os) (ht : w'.tape = w.tape) (hu : w'.output = w.output) (hsz : w.heap.size ≤ w'.heap.size)
  (hfr : ∀ k, k < w.heap.size → (∀ c n, η c ≠ some (k, n)) → w'.heap[k]? = w.heap[k]?) (hm : Mono I η H I η' H') (hch : ∀ c x, H'[c]? = some x → ChunkOK I η' H' w' c x)
  (hinj : ∀ c c' b n n', η' c = some (b, n) → η' c' = some (b, n') → c = c') (hsep : ∀ c b n, η' c = some (b, n) → I b = none ∧ b < w'.heap.size ∧ c < H'.length)
  (hnew : ∀ c b n, η' c = some (b, n) → w.heap.size ≤ b ∨ ∃ c' n', η c' = some (b, n')) (hQ : Q I η') : After E I η H w H' w' Q := by
 refine ⟨I, η', ⟨fun b o hb => ?_, hch, hinj, hsep, hC.glob⟩, ⟨ho, ht, hu, hsz, hfr, fun _ _ h => h, fun _ h => .inl h, hnew⟩, hm, hQ⟩
 have h1 := hC.imm b o hb
 rw [hfr b (Array.getElem?_eq_some_iff.1 h1).1 (fun c n h => by rw [(hC.sep c b n h).1] at hb; cases hb)]
 exact h1
theorem imm_lt (hC : Conc E I η H w) {g : Nat} (hg : w.heap.size ≤ g) : I g = none := by
 cases h : I g with
 | none => rfl
 | some o => have := (Array.getElem?_eq_some_iff.1 (hC.imm _ _ h)).1; omega
theorem eta_lt (hC : Conc E I η H w) {c : Nat} (hc : H.length ≤ c) : η c = none := by
 cases h : η c with
 | none => rfl
 | some p => have := (hC.sep c p.1 p.2 (by rw [h])).2.2; omega
theorem strCells_eq (s : List UInt8) : strCells ⟨⟨s⟩⟩ = byteCells s := rfl
theorem take_bytes {cur : Array Value} {l : List UInt8} {n : Nat} (h : cur.toList.take n = byteCells l) (hn : n = l.length) (k : Nat) (x : UInt8) (hk : l[k]? = some x) : cur[k]? = some (.int .u8 x.toNat) := by
 have hlt : k < l.length := (List.getElem?_eq_some_iff.1 hk).1
 have h1 : (cur.toList.take n)[k]? = some (Value.int .u8 x.toNat) := by rw [h]; simp [byteCells, hk]
 rw [List.getElem?_take_of_lt (by omega)] at h1
 simpa using h1
theorem bytes_take {cur : Array Value} {l : List UInt8} (hl : l.length ≤ cur.size) (h : ∀ (k : Nat) (x : UInt8), l[k]? = some x → cur[k]? = some (.int .u8 x.toNat)) : cur.toList.take l.length = byteCells l := by
 apply List.ext_getElem?
 intro k
 by_cases hk : k < l.length
 ·rw [List.getElem?_take_of_lt hk]
  have := h k l[k] (List.getElem?_eq_getElem hk)
  simp [byteCells, hk]
  simpa using this
 ·rw [List.getElem?_eq_none (by simp; omega), List.getElem?_eq_none (by simp [byteCells]; omega)]
theorem mref_tb {c : Nat} {v : Value} (r : RelA I η H (.mref c) v) {t : Nat} {cells : List AV} (h : H[c]? = some (.tb t cells)) : ∃ b n, η c = some (b, n) ∧ v = .pointer (some ⟨b, 0, none⟩) := by
 cases r with
 | mref _ _ hc hm ht hu hp => exact ht _ _ h
theorem mref_buf {c : Nat} {v : Value} (r : RelA I η H (.mref c) v) {t : Nat} {l : List UInt8} (h : H[c]? = some (.buf t l)) : ∃ b n, η c = some (b, n) ∧ v = .slice (some ⟨b, 0, none⟩) l.length n := by
 cases r with
 | mref _ _ hc hm ht hu hp => exact hu _ _ h
theorem args_one {I : Imm} {η : Eta} {H : Hp} {a : AV} {vs : Array Value} (h : ArgsOK I η H [a] vs) : ∃ x, vs = #[x] ∧ RelA I η H a x := by
 obtain ⟨hs, hr⟩ := h
 obtain ⟨l⟩ := vs
 match l, hs with
 | [x], _ => exact ⟨x, rfl, hr 0 a rfl⟩
theorem arr_two {cs : Array Value} (h : cs.size = 2) : ∃ p v, cs = #[p, v] := by
 obtain ⟨l⟩ := cs
 match l, h with
 | [p, v], _ => exact ⟨p, v, rfl⟩
theorem tupI {I' : Imm} {η' : Eta} {H' : Hp} {n : Int} {y : Value} : RelA I' η' H' (.tup [.i (.v (.int .i64 n)), .dead]) (.tuple #[.int .i64 n, y]) := by
 refine .tup _ _ rfl fun k a hk => ?_
 match k, hk with
 | 0, hk => cases hk; exact .i _ _ (.v _ rfl)
 | 1, hk => cases hk; exact .dead _

theorem after_grow {w' : World} (hC : Conc E I η H w) (ho : w'.os = w.os) (ht : w'.tape = w.tape) (hu : w'.output = w.output) (hsz : w.heap.size ≤ w'.heap.size)
  (hfr : ∀ k, k < w.heap.size → w'.heap[k]? = w.heap[k]?) {Q : Imm → Eta → Prop} (hQ : Q I η) : After E I η H w H w' Q :=
 after_mk hC ho ht hu hsz (fun k hk _ => hfr k hk) (Mono.refl _ _ _) (fun c x hx => (hC.ch c x hx).mono rfl (fun _ _ h => h) (Mono.refl _ _ _) fun b n h => hfr b (hC.sep _ _ _ h).2.1) hC.inj
  (fun c b n h => by have := hC.sep _ _ _ h; exact ⟨this.1, by omega, this.2.2⟩) (fun c b n h => .inr ⟨_, _, h⟩) hQ
theorem ext_ws (L : Lays.n166 E.P ρ) (X : Builder.Extra E.P ρ) : Ext1 E (ρ.f 166) (extWS (ρ.t 72) (ρ.t 5)) := by
 intro args H r H' hr I η w vs hC hA
 unfold extWS at hr
 split at hr
 ·rename_i s t
  split at hr
  ·rename_i hc
   obtain ⟨rfl, h0, h1⟩ := hc
   cases hr
   obtain ⟨vb, v2, rfl, r1, r2⟩ := args_two hA
   obtain rfl := relA_str r2
   obtain ⟨b, cs, hη, hw, hsz, hcs⟩ := hC.ch 0 _ rfl
   obtain ⟨b', n', hη', rfl⟩ := mref_tb r1 rfl
   rw [hη] at hη'
   cases hη'
   obtain ⟨p, v, rfl⟩ := arr_two hsz
   obtain rfl : p = .pointer none := relA_v (hcs 0 _ rfl)
   obtain rfl : v = .slice none 0 0 := relA_v (hcs 1 _ rfl)
   refine (ws_vi L X b _ _ none 0 [] ⟨⟨s⟩⟩ w (.inl rfl) hw (.inl ⟨rfl, rfl, rfl, none, rfl⟩) (by simp) h0 (by have : (⟨⟨s⟩⟩ : ByteArray).size = s.length := rfl; omega)).mono ?_
   rintro e w' ⟨rfl, g, cap, hb2, hrow, hgb, hor, ho, ht, hu, hs2, hfr⟩
   rcases hrow with ⟨h, _⟩ | ⟨g', cap', cur, hg', hv', hgc, hnc, hcm, hcs2, htk, hxl⟩
   ·cases h
   cases hg'
   cases hv'
   have hge : w.heap.size ≤ g := hor.elim (fun h => by cases h) id
   have hbl : b < w.heap.size := (hC.sep _ _ _ hη).2.1
   refine ⟨_, rfl, after_mk (η' := fun c => match c with | 0 => η 0 | 1 => some (g, cur.size) | _ => none) hC ho ht hu hs2 (fun k hk hn => hfr k hk (fun e => hn 0 2 (by rw [e]; exact hη)) (by simp)) ?_ ?_ ?_ ?_ ?_ tupI⟩
   ·refine mono_of (fun _ _ h => h) (by simp) fun c hc => ?_
    match c, hc with
    | 0, _ => intro y hy; cases hy; exact ⟨_, _, rfl, rfl⟩
   ·intro c x hx
    match c, hx with
    | 0, hx =>
     cases hx
     have hηb : η 0 = some (b, 2) := hη
     refine ⟨b, #[.pointer (some ⟨b, 0, none⟩), _], hηb, hb2, rfl, fun k a hk => ?_⟩
     match k, hk with
     | 0, hk =>
      cases hk
      exact .mref 0 _ (by simp) (fun _ h => by cases h) (fun _ _ _ => ⟨b, _, hη, rfl⟩) (fun _ _ h => by cases h) rfl
     | 1, hk =>
      cases hk
      refine .mref 1 _ (by simp) (fun _ h => by cases h) (fun _ _ h => by cases h) (fun _ l h => ?_) rfl
      cases h
      exact ⟨g, cur.size, rfl, by rw [hcs2]; simp [ByteArray.size]⟩
    | 1, hx =>
     cases hx
     refine ⟨g, cur, rfl, hgc, ?_, by omega, ?_⟩
     ·have : (⟨⟨s⟩⟩ : ByteArray).size = s.length := rfl
      omega
     ·rw [strCells_eq] at htk
      exact take_bytes (by simpa using htk) (by simp [ByteArray.size])
   ·intro c c' k n n' hc hc'
    match c, c' with
    | 0, 0 => rfl
    | 1, 1 => rfl
    | 0, 1 => simp only [hη] at hc; cases hc; cases hc'; omega
    | 1, 0 => simp only [hη] at hc'; cases hc; cases hc'; omega
    | _ + 2, _ => cases hc
    | 0, _ + 2 => cases hc'
    | 1, _ + 2 => cases hc'
   ·intro c k n hc
    match c with
    | 0 => have := hC.sep _ _ _ hc; exact ⟨this.1, by omega, by simp⟩
    | 1 => cases hc; exact ⟨imm_lt hC hge, (Array.getElem?_eq_some_iff.1 hgc).1, by simp⟩
    | _ + 2 => cases hc
   ·intro c k n hc
    match c with
    | 0 => exact .inr ⟨0, n, hc⟩
    | 1 => cases hc; exact .inl hge
    | _ + 2 => cases hc
  ·cases hr
 ·rename_i s t t1 l
  split at hr
  ·rename_i hc
   obtain ⟨rfl, rfl, hl0, h0, h1⟩ := hc
   cases hr
   obtain ⟨vb, v2, rfl, r1, r2⟩ := args_two hA
   obtain rfl := relA_str r2
   obtain ⟨b, cs, hη, hw, hsz, hcs⟩ := hC.ch 0 _ rfl
   obtain ⟨b', n', hη', rfl⟩ := mref_tb r1 rfl
   rw [hη] at hη'
   cases hη'
   obtain ⟨p, v, rfl⟩ := arr_two hsz
   obtain ⟨b', n', hη', hp⟩ := mref_tb (hcs 0 _ rfl) rfl
   rw [hη] at hη'
   cases hη'
   obtain rfl : p = .pointer (some ⟨b, 0, none⟩) := hp
   obtain ⟨g0, cur0, hη1, hgc0, hlc, hcm0, hcur0⟩ := hC.ch 1 _ rfl
   obtain ⟨b', n', hη', hv⟩ := mref_buf (hcs 1 _ rfl) rfl
   rw [hη1] at hη'
   cases hη'
   obtain rfl : v = .slice (some ⟨g0, 0, none⟩) l.length cur0.size := hv
   have hg0b : g0 ≠ b := fun e => by subst e; have := hC.inj _ _ _ _ _ hη hη1; omega
   refine (ws_vi L X b _ _ (some g0) l.length (byteCells l) ⟨⟨s⟩⟩ w (.inr rfl) hw (.inr ⟨g0, cur0.size, cur0, rfl, rfl, hgc0, hlc, hcm0, rfl, bytes_take hlc hcur0, by simp [byteCells]⟩) (by simp [hg0b]) h0 (by have : (⟨⟨s⟩⟩ : ByteArray).size = s.length := rfl; omega)).mono ?_
   rintro e w' ⟨rfl, g, cap, hb2, hrow, hgb, hor, ho, ht, hu, hs2, hfr⟩
   rcases hrow with ⟨h, _⟩ | ⟨g', cap', cur, hg', hv', hgc, hnc, hcm, hcs2, htk, hxl⟩
   ·cases h
   cases hg'
   cases hv'
   have hbl : b < w.heap.size := (hC.sep _ _ _ hη).2.1
   have hη2 : η 2 = none := eta_lt hC (by simp)
   refine ⟨_, rfl, after_mk (η' := fun c => match c with | 0 => η 0 | 2 => some (g, cur.size) | _ => none) hC ho ht hu hs2 (fun k hk hn => hfr k hk (fun e => hn 0 2 (by rw [e]; exact hη)) (fun e => by cases e; exact hn 1 _ hη1)) ?_ ?_ ?_ ?_ ?_ tupI⟩
   ·refine mono_of (fun _ _ h => h) (by simp) fun c hc => ?_
    match c, hc with
    | 0, _ => intro y hy; cases hy; exact ⟨_, _, rfl, rfl⟩
    | 1, _ => intro y hy; cases hy; trivial
   ·intro c x hx
    match c, hx with
    | 0, hx =>
     cases hx
     have hηb : η 0 = some (b, 2) := hη
     refine ⟨b, #[.pointer (some ⟨b, 0, none⟩), _], hηb, hb2, rfl, fun k a hk => ?_⟩
     match k, hk with
     | 0, hk =>
      cases hk
      exact .mref 0 _ (by simp) (fun _ h => by cases h) (fun _ _ _ => ⟨b, _, hη, rfl⟩) (fun _ _ h => by cases h) rfl
     | 1, hk =>
      cases hk
      refine .mref 2 _ (by simp) (fun _ h => by cases h) (fun _ _ h => by cases h) (fun _ l h => ?_) rfl
      cases h
      exact ⟨g, cur.size, rfl, by rw [hcs2]; simp [ByteArray.size]⟩
    | 1, hx => cases hx; rfl
    | 2, hx =>
     cases hx
     refine ⟨g, cur, rfl, hgc, ?_, by omega, ?_⟩
     ·have : (⟨⟨s⟩⟩ : ByteArray).size = s.length := rfl
      rw [List.length_append]; omega
     ·have e1 : byteCells l ++ strCells ⟨⟨s⟩⟩ = byteCells (l ++ s) := by simp [strCells_eq, byteCells]
      rw [e1] at htk
      exact take_bytes htk (by simp [ByteArray.size])
   ·intro c c' k n n' hc hc'
    match c, c' with
    | 0, 0 => rfl
    | 2, 2 => rfl
    | 0, 2 => simp only [hη] at hc; cases hc; cases hc'; exact absurd rfl hgb
    | 2, 0 => simp only [hη] at hc'; cases hc; cases hc'; exact absurd rfl hgb
    | 1, _ => cases hc
    | _ + 3, _ => cases hc
    | 0, 1 => cases hc'
    | 2, 1 => cases hc'
    | 0, _ + 3 => cases hc'
    | 2, _ + 3 => cases hc'
   ·intro c k n hc
    match c with
    | 0 => have := hC.sep _ _ _ hc; exact ⟨this.1, by omega, by simp⟩
    | 2 =>
     cases hc
     refine ⟨?_, (Array.getElem?_eq_some_iff.1 hgc).1, by simp⟩
     rcases hor with h | h
     ·cases h; exact (hC.sep _ _ _ hη1).1
     ·exact imm_lt hC h
    | 1 => cases hc
    | _ + 3 => cases hc
   ·intro c k n hc
    match c with
    | 0 => exact .inr ⟨0, n, hc⟩
    | 2 =>
     cases hc
     rcases hor with h | h
     ·cases h; exact .inr ⟨1, _, hη1⟩
     ·exact .inl h
    | 1 => cases hc
    | _ + 3 => cases hc
  ·cases hr
 ·cases hr

theorem ext_bs (L : Lays.n169 E.P ρ) (X : Builder.Extra E.P ρ) : Ext1 E (ρ.f 169) (extBS (ρ.t 72) (ρ.t 5)) := by
 intro args H r H' hr I η w vs hC hA
 unfold extBS at hr
 split at hr
 ·rename_i t
  split at hr
  ·rename_i hc
   subst hc
   cases hr
   obtain ⟨vb, rfl, r1⟩ := args_one hA
   obtain ⟨b, cs, hη, hw, hsz, hcs⟩ := hC.ch 0 _ rfl
   obtain ⟨b', n', hη', rfl⟩ := mref_tb r1 rfl
   rw [hη] at hη'
   cases hη'
   obtain ⟨p, v, rfl⟩ := arr_two hsz
   obtain rfl : v = .slice none 0 0 := relA_v (hcs 1 _ rfl)
   refine (st_nil_vi L X b p w hw).mono ?_
   rintro e w' ⟨rfl, ho, ht, hu, hh⟩
   exact ⟨_, rfl, after_grow hC ho ht hu (by rw [hh]; exact Nat.le_refl _) (fun k _ => by rw [hh]) (.i _ _ (.str _))⟩
  ·cases hr
 ·rename_i t t1 l
  split at hr
  ·rename_i hc
   obtain ⟨rfl, rfl, hl0, h1⟩ := hc
   cases hr
   obtain ⟨vb, rfl, r1⟩ := args_one hA
   obtain ⟨b, cs, hη, hw, hsz, hcs⟩ := hC.ch 0 _ rfl
   obtain ⟨b', n', hη', rfl⟩ := mref_tb r1 rfl
   rw [hη] at hη'
   cases hη'
   obtain ⟨p, v, rfl⟩ := arr_two hsz
   obtain ⟨b', n', hη', hp⟩ := mref_tb (hcs 0 _ rfl) rfl
   rw [hη] at hη'
   cases hη'
   obtain rfl : p = .pointer (some ⟨b, 0, none⟩) := hp
   obtain ⟨g0, cur0, hη1, hgc0, hlc, hcm0, hcur0⟩ := hC.ch 1 _ rfl
   obtain ⟨b', n', hη', hv⟩ := mref_buf (hcs 1 _ rfl) rfl
   rw [hη1] at hη'
   cases hη'
   obtain rfl : v = .slice (some ⟨g0, 0, none⟩) l.length cur0.size := hv
   have hg0b : g0 ≠ b := fun e => by subst e; have := hC.inj _ _ _ _ _ hη hη1; omega
   refine (st_vi L X b g0 cur0.size _ l w hw (.inr ⟨g0, cur0.size, cur0, rfl, rfl, hgc0, hlc, hcm0, rfl, bytes_take hlc hcur0, by simp [byteCells]⟩) (by intro e; subst e; simp at hl0)).mono ?_
   rintro e w' ⟨rfl, ho, ht, hu, hs2, hfr⟩
   refine ⟨_, rfl, after_mk (η' := fun c => match c with | 0 => η 0 | _ => none) hC ho ht hu (by omega) (fun k hk hn => hfr k (fun e => by subst e; exact hn 1 _ hη1)) ?_ ?_ ?_ ?_ ?_ (.i _ _ (.str _))⟩
   ·refine mono_of (fun _ _ h => h) (by simp) fun c hc => ?_
    match c, hc with
    | 0, _ => intro y hy; cases hy; exact ⟨_, _, rfl, rfl⟩
    | 1, _ => intro y hy; cases hy; trivial
   ·intro c x hx
    match c, hx with
    | 0, hx =>
     cases hx
     refine ⟨b, _, hη, by rw [hfr b (Ne.symm hg0b)]; exact hw, rfl, fun k a hk => ?_⟩
     match k, hk with
     | 0, hk =>
      cases hk
      exact .mref 0 _ (by simp) (fun _ h => by cases h) (fun _ _ _ => ⟨b, _, hη, rfl⟩) (fun _ _ h => by cases h) rfl
     | 1, hk =>
      cases hk
      exact .dead _
    | 1, hx => cases hx; rfl
   ·intro c c' k n n' hc hc'
    match c, c' with
    | 0, 0 => rfl
    | _ + 1, _ => cases hc
    | 0, _ + 1 => cases hc'
   ·intro c k n hc
    match c with
    | 0 => have := hC.sep _ _ _ hc; exact ⟨this.1, by omega, by simp⟩
    | _ + 1 => cases hc
   ·intro c k n hc
    match c with
    | 0 => exact .inr ⟨0, n, hc⟩
    | _ + 1 => cases hc
  ·cases hr
 ·cases hr

theorem tab_is {g : Nat} {name : String} (hn : E.P.globalNamed name = some g) (hC : Conc E I η H w) (hg : E.glob g = some powT) : Lib.TabIs E.P w name .u64 Lib.pow10Tab := by
 obtain ⟨hr, cs, e, fz, hI, hsz⟩ := hC.glob g _ hg
 unfold Lib.TabIs World.var?
 rw [hn]
 simp only [Option.bind_some, hC.imm _ _ hI, Option.some.injEq]
 generalize hc : powT = cells at hr
 generalize hp : Value.pointer (some ⟨g, 0, none⟩) = p at hr
 cases hr with
 | pt _ _ b off cs' elem fz' cv hI' h1 h2 =>
  simp at hp
  obtain ⟨rfl, h0⟩ := hp
  have e0 : off = 0 := by omega
  subst e0
  rw [hI] at hI'
  cases hI'
  subst hc
  apply Array.ext'
  apply List.ext_getElem?
  intro k
  by_cases hk : k < Lib.pow10Tab.length
  ·have hjl : powT[k]? = some (.v (.int .u64 Lib.pow10Tab[k])) := by simp [powT, hk]
   have e1 := h1 k _ hjl
   have e2 := h2 k _ hjl
   generalize cv k = q at e1 e2
   cases e2 with
   | v x hx =>
    rw [Nat.zero_add] at e1
    simp [hk]
    simpa using e1
  ·have : powT.length = Lib.pow10Tab.length := by simp [powT]
   rw [List.getElem?_eq_none (by simp; omega), List.getElem?_eq_none (by simp; omega)]
theorem ext_itoa (L : LaysM.n171 E.P ρ) {g : Nat} (hn : E.P.globalNamed "internal/strconv.uint64pow10" = some g) (hg : E.glob g = some powT) : Ext1 E (ρ.f 171) extItoa := by
 intro args H r H' hr I η w vs hC hA
 unfold extItoa at hr
 split at hr
 ·rename_i n
  split at hr
  ·rename_i hc
   cases hr
   obtain ⟨y, rfl, r1⟩ := args_one hA
   obtain rfl := relA_v r1
   refine (Any.strconv_Itoa L n hc.1 hc.2 w (tab_is hn hC hg)).mono ?_
   rintro e w' ⟨rfl, k, os, rfl⟩
   have e1 : ∀ k, (w.drewN k).heap = w.heap ∧ (w.drewN k).os = w.os ∧ (w.drewN k).tape = w.tape ∧ (w.drewN k).output = w.output := fun k => ⟨rfl, rfl, rfl, rfl⟩
   have ha : After E I η H w H (Go.Sort.grow (w.drewN k) os) (fun I' η' => RelA I' η' H (.i (.str (Lib.itoa n))) (.string ⟨(Lib.itoa n).toArray⟩)) := after_grow (w' := Go.Sort.grow (w.drewN k) os) hC (e1 k).2.1 (e1 k).2.2.1 (e1 k).2.2.2 (by simp [Go.Sort.grow, (e1 k).1]) (fun j hj => by rw [Go.Sort.heap_grow_old (w.drewN k) os (by rw [(e1 k).1]; exact hj), (e1 k).1]) (.i _ _ (.str _))
   exact ⟨_, rfl, ha⟩
  ·cases hr
 ·cases hr
theorem ext_count (L : Lays.n138 E.P ρ) : Ext1 E (ρ.f 138) extCount := by
 intro args H r H' hr I η w vs hC hA
 unfold extCount at hr
 split at hr
 ·rename_i s b
  cases hr
  obtain ⟨x, y, rfl, h1, h2⟩ := args_two hA
  obtain rfl := relA_str h1
  obtain rfl := relA_str h2
  refine (Any.strings_Count_one L ⟨⟨s⟩⟩ b w).mono fun e w' ⟨h1, h2⟩ => ?_
  subst h2
  exact ⟨_, h1, After.refl hC (.i _ _ (.v _ rfl))⟩
 ·cases hr
theorem ext_ib (L : Lays.n217 E.P ρ) : Ext1 E (ρ.f 217) extIndexByte := ext_indexByte fun s c w => Any.stringslite_IndexByte L s c w
end Go.VI

namespace Go.Proofs
open Go.Shelf
def Tryd.lays169_ren : Go.Shelf.Ren := ⟨fun | 169 => 23 | n => n, fun | 70 => 63 | 9 => 9 | 0 => 0 | 72 => 66 | 37 => 64 | 127 => 102 | 3 => 3 | 5 => 5 | n => n, fun | n => n⟩
theorem Tryd.lays169 : Go.Proofs.Lays.n169 Tryd.prog Tryd.lays169_ren := {
 mixed := by kernel_rfl
 f169 := Tryd.func23.trans (congrArg some (by kernel_rfl))
 t0 := Tryd.underlying0
 a0 := Tryd.isAgg0
 z0 := Tryd.sizeOf0
 v0 := Tryd.zeroValue0
 t3 := Tryd.underlying3
 a3 := Tryd.isAgg3
 z3 := Tryd.sizeOf3
 v3 := Tryd.zeroValue3
 t9 := Tryd.underlying9
 a9 := Tryd.isAgg9
 z9 := Tryd.sizeOf9
 v9 := Tryd.zeroValue9
 t37 := Tryd.underlying64
 a37 := Tryd.isAgg64
 z37 := Tryd.sizeOf64
 v37 := Tryd.zeroValue64
 t70 := Tryd.underlying63
 a70 := Tryd.isAgg63
 z70 := Tryd.sizeOf63
 v70 := Tryd.zeroValue63
 t72 := Tryd.underlying66
 a72 := Tryd.isAgg66
 z72 := Tryd.sizeOf66
 v72 := Tryd.zeroValue66
 t127 := Tryd.underlying102
 a127 := Tryd.isAgg102
 z127 := Tryd.sizeOf102
 v127 := Tryd.zeroValue102 }
def Tryd.laysItoa_ren : Go.Shelf.Ren := ⟨fun | 171 => 21 | 243 => 38 | 246 => 55 | 283 => 64 | 284 => 65 | 285 => 66 | 286 => 67 | 129 => 76 | 317 => 75 | 318 => 77 | 319 => 78 | 320 => 79 | 337 => 87 | 338 => 88 | n => n, fun | 3 => 3 | 9 => 9 | 2 => 2 | 4 => 4 | 171 => 126 | 0 => 0 | 53 => 127 | 37 => 64 | 5 => 5 | 173 => 130 | 212 => 138 | 51 => 139 | 20 => 20 | 213 => 140 | 46 => 87 | 232 => 150 | 233 => 151 | n => n, fun | 17 => 2 | 18 => 6 | 19 => 7 | n => n⟩
theorem Tryd.laysItoa : Go.Proofs.LaysM.n171 Tryd.prog Tryd.laysItoa_ren := {
 mixed := by kernel_rfl
 f129 := Tryd.func76.trans (congrArg some (by kernel_rfl))
 f171 := Tryd.func21.trans (congrArg some (by kernel_rfl))
 f243 := Tryd.func38.trans (congrArg some (by kernel_rfl))
 f246 := Tryd.func55.trans (congrArg some (by kernel_rfl))
 f283 := Tryd.func64.trans (congrArg some (by kernel_rfl))
 f284 := Tryd.func65.trans (congrArg some (by kernel_rfl))
 f285 := Tryd.func66.trans (congrArg some (by kernel_rfl))
 f286 := Tryd.func67.trans (congrArg some (by kernel_rfl))
 f317 := Tryd.func75.trans (congrArg some (by kernel_rfl))
 f318 := Tryd.func77.trans (congrArg some (by kernel_rfl))
 f319 := Tryd.func78.trans (congrArg some (by kernel_rfl))
 f320 := Tryd.func79.trans (congrArg some (by kernel_rfl))
 f337 := Tryd.func87.trans (congrArg some (by kernel_rfl))
 f338 := Tryd.func88.trans (congrArg some (by kernel_rfl))
 t0 := Tryd.underlying0
 a0 := Tryd.isAgg0
 z0 := Tryd.sizeOf0
 v0 := Tryd.zeroValue0
 t2 := Tryd.underlying2
 a2 := Tryd.isAgg2
 z2 := Tryd.sizeOf2
 v2 := Tryd.zeroValue2
 t3 := Tryd.underlying3
 a3 := Tryd.isAgg3
 z3 := Tryd.sizeOf3
 v3 := Tryd.zeroValue3
 t4 := Tryd.underlying4
 a4 := Tryd.isAgg4
 z4 := Tryd.sizeOf4
 v4 := Tryd.zeroValue4
 t5 := Tryd.underlying5
 a5 := Tryd.isAgg5
 z5 := Tryd.sizeOf5
 v5 := Tryd.zeroValue5
 t9 := Tryd.underlying9
 a9 := Tryd.isAgg9
 z9 := Tryd.sizeOf9
 v9 := Tryd.zeroValue9
 t20 := Tryd.underlying20
 a20 := Tryd.isAgg20
 z20 := Tryd.sizeOf20
 v20 := Tryd.zeroValue20
 t37 := Tryd.underlying64
 a37 := Tryd.isAgg64
 z37 := Tryd.sizeOf64
 v37 := Tryd.zeroValue64
 t46 := Tryd.underlying87
 a46 := Tryd.isAgg87
 z46 := Tryd.sizeOf87
 v46 := Tryd.zeroValue87
 t51 := Tryd.underlying139
 a51 := Tryd.isAgg139
 z51 := Tryd.sizeOf139
 v51 := Tryd.zeroValue139
 t53 := Tryd.underlying127
 a53 := Tryd.isAgg127
 z53 := Tryd.sizeOf127
 v53 := Tryd.zeroValue127
 t171 := Tryd.underlying126
 a171 := Tryd.isAgg126
 z171 := Tryd.sizeOf126
 v171 := Tryd.zeroValue126
 t173 := Tryd.underlying130
 a173 := Tryd.isAgg130
 z173 := Tryd.sizeOf130
 v173 := Tryd.zeroValue130
 t212 := Tryd.underlying138
 a212 := Tryd.isAgg138
 z212 := Tryd.sizeOf138
 v212 := Tryd.zeroValue138
 t213 := Tryd.underlying140
 a213 := Tryd.isAgg140
 z213 := Tryd.sizeOf140
 t232 := Tryd.underlying150
 a232 := Tryd.isAgg150
 z232 := Tryd.sizeOf150
 v232 := Tryd.zeroValue150
 t233 := Tryd.underlying151
 a233 := Tryd.isAgg151
 z233 := Tryd.sizeOf151
 v233 := Tryd.zeroValue151
 g17 := by kernel_rfl
 g18 := by kernel_rfl
 g19 := by kernel_rfl
 i0 := by kernel_rfl
 i2 := by kernel_rfl
 i3 := by kernel_rfl
 i4 := by kernel_rfl
 i5 := by kernel_rfl
 i9 := by kernel_rfl
 i20 := by kernel_rfl
 i37 := by kernel_rfl
 i46 := by kernel_rfl
 i51 := by kernel_rfl
 i53 := by kernel_rfl
 i171 := by kernel_rfl
 i173 := by kernel_rfl
 i212 := by kernel_rfl
 i232 := by kernel_rfl
 i233 := by kernel_rfl
 m17 := by kernel_rfl
 m18 := by kernel_rfl
 m19 := by kernel_rfl }
def Tryd.laysCount_ren : Go.Shelf.Ren := ⟨fun | 138 => 57 | 195 => 68 | 218 => 70 | 143 => 58 | 219 => 71 | 217 => 81 | 225 => 82 | 224 => 83 | 267 => 84 | 266 => 89 | 314 => 90 | n => n, fun | 9 => 9 | 3 => 3 | 4 => 4 | 5 => 5 | 0 => 0 | 46 => 87 | 146 => 148 | 51 => 139 | n => n, fun | 1 => 3 | n => n⟩
theorem Tryd.laysCount : Go.Proofs.Lays.n138 Tryd.prog Tryd.laysCount_ren := {
 mixed := by kernel_rfl
 f138 := Tryd.func57.trans (congrArg some (by kernel_rfl))
 f143 := Tryd.func58.trans (congrArg some (by kernel_rfl))
 f195 := Tryd.func68.trans (congrArg some (by kernel_rfl))
 f217 := Tryd.func81.trans (congrArg some (by kernel_rfl))
 f218 := Tryd.func70.trans (congrArg some (by kernel_rfl))
 f219 := Tryd.func71.trans (congrArg some (by kernel_rfl))
 f224 := Tryd.func83.trans (congrArg some (by kernel_rfl))
 f225 := Tryd.func82.trans (congrArg some (by kernel_rfl))
 f266 := Tryd.func89.trans (congrArg some (by kernel_rfl))
 f267 := Tryd.func84.trans (congrArg some (by kernel_rfl))
 f314 := Tryd.func90.trans (congrArg some (by kernel_rfl))
 t0 := Tryd.underlying0
 a0 := Tryd.isAgg0
 z0 := Tryd.sizeOf0
 v0 := Tryd.zeroValue0
 t3 := Tryd.underlying3
 a3 := Tryd.isAgg3
 z3 := Tryd.sizeOf3
 v3 := Tryd.zeroValue3
 t4 := Tryd.underlying4
 a4 := Tryd.isAgg4
 z4 := Tryd.sizeOf4
 v4 := Tryd.zeroValue4
 t5 := Tryd.underlying5
 a5 := Tryd.isAgg5
 z5 := Tryd.sizeOf5
 v5 := Tryd.zeroValue5
 t9 := Tryd.underlying9
 a9 := Tryd.isAgg9
 z9 := Tryd.sizeOf9
 v9 := Tryd.zeroValue9
 t46 := Tryd.underlying87
 a46 := Tryd.isAgg87
 z46 := Tryd.sizeOf87
 v46 := Tryd.zeroValue87
 t51 := Tryd.underlying139
 a51 := Tryd.isAgg139
 z51 := Tryd.sizeOf139
 v51 := Tryd.zeroValue139
 t146 := Tryd.underlying148
 a146 := Tryd.isAgg148
 z146 := Tryd.sizeOf148
 v146 := Tryd.zeroValue148
 g1 := by kernel_rfl }
def Tryd.laysIB_ren : Go.Shelf.Ren := ⟨fun | 217 => 81 | 266 => 89 | n => n, fun | 9 => 9 | 5 => 5 | 3 => 3 | n => n, fun | n => n⟩
theorem Tryd.laysIB : Go.Proofs.Lays.n217 Tryd.prog Tryd.laysIB_ren := {
 mixed := by kernel_rfl
 f217 := Tryd.func81.trans (congrArg some (by kernel_rfl))
 f266 := Tryd.func89.trans (congrArg some (by kernel_rfl))
 t3 := Tryd.underlying3
 a3 := Tryd.isAgg3
 z3 := Tryd.sizeOf3
 v3 := Tryd.zeroValue3
 t5 := Tryd.underlying5
 a5 := Tryd.isAgg5
 z5 := Tryd.sizeOf5
 v5 := Tryd.zeroValue5
 t9 := Tryd.underlying9
 a9 := Tryd.isAgg9
 z9 := Tryd.sizeOf9
 v9 := Tryd.zeroValue9 }
def Tryd.lays166_ren : Go.Shelf.Ren := ⟨fun | 166 => 20 | 240 => 37 | 276 => 54 | n => n, fun | 70 => 63 | 9 => 9 | 0 => 0 | 72 => 66 | 37 => 64 | 127 => 102 | 3 => 3 | 4 => 4 | 5 => 5 | 20 => 20 | 75 => 68 | 80 => 74 | 164 => 114 | n => n, fun | n => n⟩
theorem Tryd.lays166 : Go.Proofs.Lays.n166 Tryd.prog Tryd.lays166_ren := {
 mixed := by kernel_rfl
 f166 := Tryd.func20.trans (congrArg some (by kernel_rfl))
 f240 := Tryd.func37.trans (congrArg some (by kernel_rfl))
 f276 := Tryd.func54.trans (congrArg some (by kernel_rfl))
 t0 := Tryd.underlying0
 a0 := Tryd.isAgg0
 z0 := Tryd.sizeOf0
 v0 := Tryd.zeroValue0
 t3 := Tryd.underlying3
 a3 := Tryd.isAgg3
 z3 := Tryd.sizeOf3
 v3 := Tryd.zeroValue3
 t4 := Tryd.underlying4
 a4 := Tryd.isAgg4
 z4 := Tryd.sizeOf4
 v4 := Tryd.zeroValue4
 t9 := Tryd.underlying9
 a9 := Tryd.isAgg9
 z9 := Tryd.sizeOf9
 v9 := Tryd.zeroValue9
 t20 := Tryd.underlying20
 a20 := Tryd.isAgg20
 z20 := Tryd.sizeOf20
 v20 := Tryd.zeroValue20
 t37 := Tryd.underlying64
 a37 := Tryd.isAgg64
 z37 := Tryd.sizeOf64
 v37 := Tryd.zeroValue64
 t70 := Tryd.underlying63
 a70 := Tryd.isAgg63
 z70 := Tryd.sizeOf63
 v70 := Tryd.zeroValue63
 t72 := Tryd.underlying66
 a72 := Tryd.isAgg66
 z72 := Tryd.sizeOf66
 v72 := Tryd.zeroValue66
 t75 := Tryd.underlying68
 a75 := Tryd.isAgg68
 z75 := Tryd.sizeOf68
 v75 := Tryd.zeroValue68
 t164 := Tryd.underlying114
 a164 := Tryd.isAgg114
 z164 := Tryd.sizeOf114
 v164 := Tryd.zeroValue114 }
end Go.Proofs

set_option linter.unusedSimpArgs false
set_option linter.unusedVariables false
namespace Go.VI
open Go.Proofs
theorem builder_X : Builder.Extra E.P Tryd.lays166_ren where
 sizeBuilder := by kernel_rfl
 liesBuilder := by kernel_rfl
 t5 := Tryd.underlying5
 a5 := Tryd.isAgg5
 z5 := Tryd.sizeOf5
 v5 := Tryd.zeroValue5
 infoByte := by kernel_rfl
 cellsByte := by kernel_rfl
 sizeByte := by kernel_rfl
 neB5 := by decide
theorem builder_X2 : Builder.Extra E.P Tryd.lays169_ren where
 sizeBuilder := by kernel_rfl
 liesBuilder := by kernel_rfl
 t5 := Tryd.underlying5
 a5 := Tryd.isAgg5
 z5 := Tryd.sizeOf5
 v5 := Tryd.zeroValue5
 infoByte := by kernel_rfl
 cellsByte := by kernel_rfl
 sizeByte := by kernel_rfl
 neB5 := by decide
theorem extOK : ExtOK E := by
 intro f h hf
 rcases E_extI f h hf with ⟨rfl, rfl⟩ | ⟨rfl, rfl⟩ | ⟨rfl, rfl⟩ | ⟨rfl, rfl⟩ | ⟨rfl, rfl⟩ | ⟨rfl, rfl⟩ | h2
 ·exact ext_ws (E := E) (ρ := Tryd.lays166_ren) Tryd.lays166 builder_X
 ·exact ext_itoa (E := E) (ρ := Tryd.laysItoa_ren) (g := 2) Tryd.laysItoa (by kernel_rfl) E_glob2
 ·exact ext_bs (E := E) (ρ := Tryd.lays169_ren) Tryd.lays169 builder_X2
 ·exact ext_map (E := E) op_calls
 ·exact ext_count (E := E) (ρ := Tryd.laysCount_ren) Tryd.laysCount
 ·exact ext_ib (E := E) (ρ := Tryd.laysIB_ren) Tryd.laysIB
 ·exact h2.elim
end Go.VI

set_option linter.unusedSimpArgs false
set_option linter.unusedVariables false
namespace Go.VI
open Go.Proofs
theorem laid_tail {P : Program} {W : World} {x : String × DataW Unit} {l : List (String × DataW Unit)} (h : laidMet P (x :: l) W) : laidMet P l W := by
 obtain ⟨ps, ⟨g, t, cs, fuel, p, q, _, _, _, _, hr, rfl⟩, hnd, hrows⟩ := h
 exact ⟨q, hr, hnd.sublist (List.sublist_append_right _ _), fun b off hp => hrows b off (List.mem_append.2 (.inr hp))⟩
theorem glob_of_tabI {P : Program} {W : World} {name : String} {g : Nat} {tab : List Int} (hg : P.globalNamed name = some g) (h : Lib.TabIs P W name .i64 tab) : GlobOK (imm0 W) g (tabT tab) := by
 unfold Lib.TabIs World.var? at h
 rw [hg] at h
 simp only [Option.bind_some] at h
 split at h
 ·rename_i cs e fz hh
  simp only [Option.some.injEq] at h
  refine ⟨.pt (tabT tab) 0 g 0 cs e fz (fun k => .int .i64 (tab.getD k 0)) hh (fun k a hk => ?_) (fun k a hk => ?_), cs, e, fz, hh, by rw [h]; simp [tabT]⟩
  ·have hl : k < tab.length := by
    have := (List.getElem?_eq_some_iff.1 hk).1
    simpa [tabT] using this
   subst h
   simp [List.getD, hl]
  ·have hl : k < tab.length := by
    have := (List.getElem?_eq_some_iff.1 hk).1
    simpa [tabT] using this
   simp only [tabT, List.getElem?_map, List.getElem?_eq_getElem hl, Option.map_some, Option.some.injEq] at hk
   subst hk
   simp [List.getD, hl]
   exact .v _ rfl
 ·cases h
theorem glob_of_tab {P : Program} {W : World} {name : String} {g : Nat} (hg : P.globalNamed name = some g) (h : Lib.TabIs P W name .u64 Lib.pow10Tab) : GlobOK (imm0 W) g powT := by
 unfold Lib.TabIs World.var? at h
 rw [hg] at h
 simp only [Option.bind_some] at h
 split at h
 ·rename_i cs e fz hh
  simp only [Option.some.injEq] at h
  refine ⟨.pt powT 0 g 0 cs e fz (fun k => .int .u64 (Lib.pow10Tab.getD k 0)) hh (fun k a hk => ?_) (fun k a hk => ?_), cs, e, fz, hh, by rw [h]; simp [powT]⟩
  ·have hl : k < Lib.pow10Tab.length := by
    have := (List.getElem?_eq_some_iff.1 hk).1
    simpa [powT] using this
   subst h
   simp [List.getD, hl]
  ·have hl : k < Lib.pow10Tab.length := by
    have := (List.getElem?_eq_some_iff.1 hk).1
    simpa [powT] using this
   simp only [powT, List.getElem?_map, List.getElem?_eq_getElem hl, Option.map_some, Option.some.injEq] at hk
   subst hk
   simp [List.getD, hl]
   exact .v _ rfl
 ·cases h
theorem globs3 {W : World} (h0 : Lib.TabIs Tryd.prog W "narrator/scriptverify.pops" .i64 popsL) (h1 : Lib.TabIs Tryd.prog W "narrator/scriptverify.pushes" .i64 pushesL) (h2 : Lib.TabIs Tryd.prog W "internal/strconv.uint64pow10" .u64 Lib.pow10Tab) : ∀ g cells, E.glob g = some cells → GlobOK (imm0 W) g cells := by
 intro g cells hg
 rcases E_globI g cells hg with ⟨rfl, rfl⟩ | ⟨rfl, rfl⟩ | ⟨rfl, rfl⟩ | h'
 ·exact glob_of_tabI (by kernel_rfl) h0
 ·exact glob_of_tabI (by kernel_rfl) h1
 ·exact glob_of_tab (by kernel_rfl) h2
 ·exact h'.elim
end Go.VI

