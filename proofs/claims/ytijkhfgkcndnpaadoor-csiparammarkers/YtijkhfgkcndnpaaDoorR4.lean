import Derived.Test.YtijkhfgkcndnpaaDoorR2
import Derived.Test.YtijkhfgkcndnpaaDoorR3
import Derived.Lib.SlTrimSet
namespace Go.VI
open Go.Proofs
set_option maxRecDepth 100000
set_option linter.unusedSimpArgs false
set_option linter.unusedVariables false
set_option maxHeartbeats 4000000
/-! digits and semicolons -/
def cs11 : List UInt8 := [48, 49, 50, 51, 52, 53, 54, 55, 56, 57, 59]
theorem cs11_pB (b : UInt8) : cs11.contains b = pB b := by
  have : ∀ n : Nat, n < 256 → cs11.contains (UInt8.ofNat n) = pB (UInt8.ofNat n) := by decide +kernel
  have h := this b.toNat b.toNat_lt
  rwa [UInt8.ofNat_toNat] at h
theorem dw_nil {p : UInt8 → Bool} : ∀ {l : List UInt8}, l.dropWhile p = [] ↔ ∀ x ∈ l, p x = true
  | [] => by simp
  | b :: l => by
    by_cases h : p b = true
    · rw [List.dropWhile_cons_of_pos h, dw_nil]
      simp [h]
    · rw [List.dropWhile_cons_of_neg h]
      simp [h]
theorem dw_head {p : UInt8 → Bool} {y : UInt8} {r : List UInt8} : ∀ {l : List UInt8}, l.dropWhile p = y :: r → p y = false
  | [], h => by simp at h
  | b :: l, h => by
    by_cases hb : p b = true
    · rw [List.dropWhile_cons_of_pos hb] at h; exact dw_head h
    · rw [List.dropWhile_cons_of_neg hb] at h
      simp only [List.cons.injEq] at h
      rw [← h.1]; simpa using hb
theorem trim_all {s : List UInt8} (h : s.all pB = true) : Lib.trimS s cs11 = [] := by
  have h1 : s.reverse.dropWhile (cs11.contains ·) = [] := dw_nil.2 fun x hx => by rw [cs11_pB]; exact List.all_eq_true.1 h x (List.mem_reverse.1 hx)
  unfold Lib.trimS Lib.trimRightS Lib.trimLeftS
  rw [h1]
  rfl
theorem trim_not {s : List UInt8} (h : s.all pB = false) : ∃ c r, Lib.trimS s cs11 = c :: r := by
  cases ht : Lib.trimS s cs11 with
  | cons c r => exact ⟨c, r, rfl⟩
  | nil =>
    exfalso
    have h1 := dw_nil.1 (show (Lib.trimRightS s cs11).dropWhile (cs11.contains ·) = [] from ht)
    have h2 : s.reverse.dropWhile (cs11.contains ·) = [] := by
      cases hd : s.reverse.dropWhile (cs11.contains ·) with
      | nil => rfl
      | cons y r =>
        have hy : cs11.contains y = true := h1 y (by unfold Lib.trimRightS; rw [hd]; simp)
        have hn := dw_head hd
        rw [hy] at hn; cases hn
    have : s.all pB = true := List.all_eq_true.2 fun x hx => by rw [← cs11_pB]; exact dw_nil.1 h2 x (List.mem_reverse.2 hx)
    rw [h] at this; cases this
/-- the parameters of digits and semicolons -/
def plS (a : List UInt8) : List Int := (runP a [] (-1)).1 ++ [(runP a [] (-1)).2.1]
theorem runP_all {a : List UInt8} (h : a.all pB = true) : ∀ l n, (runP a l n).2.2 = [] := by
  intro l n
  have h2 := (runP_split a l n).1
  have h3 : a.dropWhile pB = [] := dw_nil.2 (List.all_eq_true.1 h)
  rw [h2, h3]
theorem runP_shift : ∀ (b : List UInt8) (l0 l : List Int) (n : Int), runP b (l0 ++ l) n = (l0 ++ (runP b l n).1, (runP b l n).2.1, (runP b l n).2.2)
  | [], l0, l, n => rfl
  | c :: b, l0, l, n => by
    have hs : stepP (l0 ++ l) n c.toNat = (stepP l n c.toNat).map fun q => (l0 ++ q.1, q.2) := by
      unfold stepP
      split
      · simp
      · split
        · rfl
        · split
          · rfl
          · rfl
    simp only [runP, hs]
    cases stepP l n c.toNat with
    | none => rfl
    | some q => simpa using runP_shift b l0 q.1 q.2
theorem runP_app : ∀ (a b : List UInt8) (l : List Int) (n : Int), (runP a l n).2.2 = [] → runP (a ++ b) l n = runP b (runP a l n).1 (runP a l n).2.1
  | [], b, l, n, _ => rfl
  | c :: a, b, l, n, h => by
    simp only [List.cons_append, runP] at h ⊢
    cases hs : stepP l n c.toNat with
    | none => rw [hs] at h; simp at h
    | some q => rw [hs] at h; exact runP_app a b q.1 q.2 h
theorem plS_join {a b : List UInt8} (ha : a.all pB = true) (hb : b.all pB = true) : plS (a ++ 59 :: b) = plS a ++ plS b := by
  have h1 := runP_app a (59 :: b) [] (-1) (runP_all ha _ _)
  have hst : stepP (runP a [] (-1)).1 (runP a [] (-1)).2.1 ((59 : UInt8).toNat : Int) = some ((runP a [] (-1)).1 ++ [(runP a [] (-1)).2.1], -1) := by rw [stepP, if_pos (by decide)]
  rw [runP, hst] at h1
  simp only at h1
  have h2 := runP_shift b ((runP a [] (-1)).1 ++ [(runP a [] (-1)).2.1]) [] (-1)
  rw [List.append_nil] at h2
  rw [h2] at h1
  unfold plS
  rw [h1]
  simp
theorem markP_all {a : List UInt8} (h : a.all pB = true) : markP a = (0, a) := by
  cases a with
  | nil => rfl
  | cons b r =>
    simp only [List.all_cons, Bool.and_eq_true, pB, Bool.or_eq_true, decide_eq_true_eq, beq_iff_eq] at h
    have : privB b.toNat = false := by simp only [privB, Bool.and_eq_false_iff, decide_eq_false_iff_not]; omega
    simp [markP, this]
theorem parse_all {a i : List UInt8} (h : a.all pB = true) (hi : trailB i = true) : parR (a ++ i) = (if a = [] then [] else plS a, i) := by
  have h1 := runP_app a i [] (-1) (runP_all h _ _)
  rw [run_trail hi] at h1
  unfold parR
  rw [h1]
  simp only [List.length_append, Prod.mk.injEq, and_true]
  by_cases h0 : a = []
  · subst h0; simp [runP]
  · have := List.length_pos_iff.2 h0
    rw [if_pos (by omega), if_neg h0]; rfl
theorem parse_dig {a : List UInt8} (h : a.all pB = true) : parseS a = if limB (plS a) [] = false then (0, [], [], 5) else (0, if a = [] then [] else plS a, [], 0) := by
  have h1 := parse_all (i := []) h (by rfl)
  rw [List.append_nil] at h1
  unfold parseS
  rw [markP_all h]
  simp only [h1]
  rw [if_neg (by decide)]
  by_cases h0 : a = []
  · subst h0; decide
  · simp only [if_neg h0]
end Go.VI
