import Derived.Test.YtijkhfgkcndnpaaDoorR1
import Derived.Test.YtijkhfgkcndnpaaDoorP5
namespace Go.VI
open Go.Proofs
set_option maxRecDepth 100000
set_option linter.unusedSimpArgs false
set_option linter.unusedVariables false
set_option maxHeartbeats 4000000
/-! what is parsed is formatted without leading zeros -/
def InvD (n : Int) (d : List UInt8) : Prop := (n ≤ 9999 → (numB n).length ≤ d.length ∧ ((numB n).length = d.length → numB n = d)) ∧ (n = -1 ∧ d = [] ∨ 0 ≤ n ∧ d ≠ [])
theorem inv_start : InvD (-1) [] := ⟨fun _ => ⟨by simp [numB], fun _ => rfl⟩, .inl ⟨rfl, rfl⟩⟩
theorem inv_step {n : Int} {d : List UInt8} (h : InvD n d) {b : UInt8} (hb : 48 ≤ b.toNat ∧ b.toNat ≤ 57) : InvD (min (10 * max n 0 + ((b.toNat : Int) - 48)) 10000) (d ++ [b]) := by
  obtain ⟨h1, h2⟩ := h
  refine ⟨fun h9 => ?_, .inr ⟨by omega, by simp⟩⟩
  generalize hm : min (10 * max n 0 + ((b.toNat : Int) - 48)) 10000 = m at *
  have e : m = 10 * max n 0 + ((b.toNat : Int) - 48) := by omega
  have hm0 : 0 ≤ m := by omega
  have hn9 : n ≤ 9999 := by omega
  obtain ⟨g1, g2⟩ := h1 hn9
  rw [numB, if_pos hm0]
  by_cases h10 : m.toNat < 10
  · rw [Lib.decDigits, dif_pos h10]
    refine ⟨by simp, fun hl => ?_⟩
    have hd : d = [] := by
      simp only [List.length_append, List.length_cons, List.length_nil] at hl
      exact List.length_eq_zero_iff.1 (by omega)
    subst hd
    have hn : n = -1 := by
      rcases h2 with h | h
      · exact h.1
      · exact absurd rfl h.2
    have : 48 + m.toNat = b.toNat := by omega
    rw [this]
    simp
  · rw [Lib.decDigits, dif_neg h10]
    have hn0 : 0 ≤ n := by omega
    have e1 : m.toNat / 10 = n.toNat := by omega
    have e2 : 48 + m.toNat % 10 = b.toNat := by omega
    have e3 : Lib.decDigits (m.toNat / 10) = numB n := by rw [e1, numB, if_pos hn0]
    rw [e2, e3]
    refine ⟨by simp only [List.length_append, List.length_cons, List.length_nil]; omega, fun hl => ?_⟩
    rw [g2 (by simp only [List.length_append, List.length_cons, List.length_nil] at hl; omega)]
    simp
def Canon (l0 : List Int) (q : List Int) (v : List UInt8) : Prop := ∃ x xs, q = l0 ++ x :: xs ∧ (∀ y ∈ x :: xs, -1 ≤ y) ∧ (x :: xs = [-1] → v = []) ∧
  ((∀ y ∈ x :: xs, y ≤ 9999) → (fmtG true (x :: xs)).length ≤ v.length ∧ ((fmtG true (x :: xs)).length = v.length → fmtG true (x :: xs) = v))
theorem canon : ∀ (w : List UInt8), w.all pB = true → ∀ (l0 : List Int) (n : Int) (d : List UInt8), InvD n d → Canon l0 ((runP w l0 n).1 ++ [(runP w l0 n).2.1]) (d ++ w)
  | [], _, l0, n, d, h => by
    refine ⟨n, [], by simp [runP], ?_, ?_, ?_⟩
    · intro y hy
      simp only [List.mem_singleton] at hy
      subst hy
      rcases h.2 with h | h <;> omega
    · intro e
      simp only [List.cons.injEq, and_true] at e
      rcases h.2 with h | h
      · simp [h.2]
      · omega
    · intro h9
      have := h.1 (h9 n (by simp))
      simpa [fmtG] using this
  | b :: r, ha, l0, n, d, h => by
    simp only [List.all_cons, Bool.and_eq_true] at ha
    obtain ⟨hb, ha⟩ := ha
    by_cases h59 : (b.toNat : Int) = 59
    · have hst : stepP l0 n b.toNat = some (l0 ++ [n], -1) := by rw [stepP, if_pos h59]
      obtain ⟨x, xs, e1, e2, e3, e4⟩ := canon r ha (l0 ++ [n]) (-1) [] inv_start
      simp only [runP, hst]
      refine ⟨n, x :: xs, by rw [e1]; simp, ?_, fun e => by simp at e, ?_⟩
      · intro y hy
        rcases List.mem_cons.1 hy with rfl | hy
        · rcases h.2 with h | h <;> omega
        · exact e2 y hy
      · intro h9
        obtain ⟨f1, f2⟩ := e4 fun y hy => h9 y (List.mem_cons_of_mem _ hy)
        obtain ⟨g1, g2⟩ := h.1 (h9 n (List.mem_cons_self ..))
        have hb59 : b = 59 := UInt8.toNat_inj.1 (by have : (59 : UInt8).toNat = 59 := rfl; omega)
        have ef : fmtG true (n :: x :: xs) = numB n ++ 59 :: fmtG true (x :: xs) := by simp [fmtG]
        rw [ef, hb59]
        simp only [List.nil_append] at f1 f2
        refine ⟨by simp only [List.length_append, List.length_cons]; omega, fun hl => ?_⟩
        simp only [List.length_append, List.length_cons] at hl
        rw [g2 (by omega), f2 (by omega)]
    · have hr : 48 ≤ b.toNat ∧ b.toNat ≤ 57 := by
        simp only [pB, Bool.or_eq_true, Bool.and_eq_true, decide_eq_true_eq, beq_iff_eq] at hb
        omega
      have hst : stepP l0 n b.toNat = some (l0, min (10 * max n 0 + (b.toNat - 48)) 10000) := by rw [stepP, if_neg h59, if_neg (by omega), if_neg (by omega)]
      have ih := canon r ha l0 _ (d ++ [b]) (inv_step h hr)
      simp only [runP, hst]
      rwa [List.append_assoc] at ih
theorem lim9' {l : List Int} {s : List UInt8} (h : limB l s = true) : ∀ n ∈ l, n ≤ 9999 := by
  intro n hn
  simp only [limB, Bool.and_eq_true, Bool.not_eq_true'] at h
  have := List.any_eq_false.1 h.2 n hn
  simpa [over9999] using this
theorem parse_mark {s : List UInt8} : ∃ (pre : List UInt8), s = pre ++ (markP s).2 ∧ pre = (if (markP s).1 = 0 then [] else [UInt8.ofNat (markP s).1.toNat]) ∧ (0 ≤ (markP s).1 ∧ (markP s).1 < 256) ∧ ((markP s).1 = 0 ∨ privB (markP s).1 = true) := by
  cases s with
  | nil => exact ⟨[], rfl, rfl, by simp [markP], .inl rfl⟩
  | cons b r =>
    have hb := b.toNat_lt
    by_cases h : privB b.toNat = true
    · have h0 : (b.toNat : Int) ≠ 0 := by
        intro e
        rw [e] at h
        revert h; decide
      refine ⟨[b], ?_, ?_, ?_, ?_⟩ <;> simp only [markP, h, if_true]
      · rfl
      · rw [if_neg h0]; simp
      · omega
      · exact .inr trivial
    · refine ⟨[], ?_, ?_, ?_, ?_⟩ <;> simp only [markP, h]
      · rfl
      · rfl
      · simp
      · exact .inl rfl
/-- what is parsed can be formatted -/
theorem fmt_parse {s : List UInt8} {p : Int} {l : List Int} {i : List UInt8} (h : parseS s = (p, l, i, 0)) : (0 ≤ p ∧ p < 256) ∧ ∃ t, fmtS p l i = (t, 0) ∧ t.length ≤ s.length ∧ (t.length = s.length → t = s) := by
  obtain ⟨pre, e1, e2, hp2, hp⟩ := parse_mark (s := s)
  unfold parseS at h
  split at h
  · simp at h
  rename_i c1
  split at h
  · simp at h
  rename_i c2
  simp only [Prod.mk.injEq, and_true] at h
  obtain ⟨rfl, rfl, rfl⟩ := h
  simp only [Bool.not_eq_false] at c1 c2
  refine ⟨hp2, ?_⟩
  generalize markP s = mk at *
  obtain ⟨p, t⟩ := mk
  dsimp only at *
  obtain ⟨a1, a2⟩ := runP_split t [] (-1)
  have hpar := parR_split (t := t) (l := (runP (t.takeWhile pB) [] (-1)).1) (n := (runP (t.takeWhile pB) [] (-1)).2.1) (by
    rw [← a2])
  have htw : t.takeWhile pB ++ t.dropWhile pB = t := List.takeWhile_append_dropWhile
  have hcan := canon (t.takeWhile pB) (tw_all pB t) [] (-1) [] inv_start
  rw [hpar] at c1 c2 ⊢
  dsimp only at *
  generalize t.takeWhile pB = w at *
  generalize t.dropWhile pB = q at *
  have key : ∀ l' : List Int, l' ≠ [-1] → (∀ y ∈ l', -1 ≤ y) → limB l' q = true → ((fmtG true l').length ≤ w.length ∧ ((fmtG true l').length = w.length → fmtG true l' = w)) →
      ∃ t', fmtS p l' q = (t', 0) ∧ t'.length ≤ s.length ∧ (t'.length = s.length → t' = s) := by
    intro l' k1 k2 k3 k4
    refine ⟨pre ++ fmtG true l' ++ q, ?_, ?_, ?_⟩
    · unfold fmtS
      rw [if_neg, if_neg, if_neg, ← e2]
      · simp [k3]
      · rw [Bool.not_eq_true]
        exact List.any_eq_false.2 fun y hy => by have := k2 y hy; simp [lowB]; omega
      · rintro (⟨h1, h2⟩ | h1 | h1)
        · rcases hp with h | h
          · exact h1 h
          · rw [h2] at h; cases h
        · rw [c1] at h1; cases h1
        · exact k1 h1
    · rw [e1, ← htw]
      simp only [List.length_append]
      omega
    · intro hl
      rw [e1, ← htw] at hl ⊢
      simp only [List.length_append] at hl
      rw [k4.2 (by omega), List.append_assoc]
  by_cases hw : w = []
  · rw [if_pos hw] at c2 ⊢
    exact key [] (by simp) (by simp) c2 (by subst hw; simp [fmtG])
  · rw [if_neg hw] at c2 ⊢
    obtain ⟨x, xs, f1, f2, f3, f4⟩ := hcan
    rw [List.nil_append] at f1 f3 f4
    rw [f1] at c2 ⊢
    exact key _ (fun e => hw (f3 e)) f2 c2 (f4 (lim9' c2))
end Go.VI
