import Derived.Test.YtijkhfgkcndnpaaDoorF2
namespace Go.VI
open Go.Proofs
set_option maxRecDepth 100000
set_option linter.unusedSimpArgs false
set_option linter.unusedVariables false
set_option maxHeartbeats 4000000
/-! what is formatted is parsed as the same -/
theorem run_digits (l0 : List Int) : ∀ (u : Nat), u ≤ 9999 → ∀ r, runP (Lib.decDigits u ++ r) l0 (-1) = runP r l0 u := by
  intro u
  induction u using Nat.strongRecOn with
  | _ u ih =>
    intro hu r
    by_cases h : u < 10
    · rw [Lib.decDigits, dif_pos h]
      have hb : (UInt8.ofNat (48 + u)).toNat = 48 + u := by rw [UInt8.toNat_ofNat']; exact Nat.mod_eq_of_lt (by omega)
      have hs : stepP l0 (-1) ((UInt8.ofNat (48 + u)).toNat : Int) = some (l0, (u : Int)) := by
        rw [hb, stepP, if_neg (by omega), if_neg (by omega), if_neg (by omega)]
        congr 2
        omega
      simp only [List.cons_append, List.nil_append, runP, hs]
    · rw [Lib.decDigits, dif_neg h, List.append_assoc, ih (u / 10) (by omega) (by omega)]
      have hb : (UInt8.ofNat (48 + u % 10)).toNat = 48 + u % 10 := by rw [UInt8.toNat_ofNat']; exact Nat.mod_eq_of_lt (by omega)
      have hs : stepP l0 ((u / 10 : Nat) : Int) ((UInt8.ofNat (48 + u % 10)).toNat : Int) = some (l0, (u : Int)) := by
        rw [hb, stepP, if_neg (by omega), if_neg (by omega), if_neg (by omega)]
        congr 2
        omega
      simp only [List.cons_append, List.nil_append, runP, hs]
theorem run_num (l0 : List Int) (n : Int) (h : -1 ≤ n) (h9 : n ≤ 9999) (r : List UInt8) : runP (numB n ++ r) l0 (-1) = runP r l0 n := by
  unfold numB
  split
  · rename_i h0
    rw [run_digits l0 n.toNat (by omega) r]
    congr 1
    omega
  · obtain rfl : n = -1 := by omega
    rfl
theorem run_trail {s : List UInt8} (h : trailB s = true) (l0 : List Int) (n : Int) : runP s l0 n = (l0, n, s) := by
  cases s with
  | nil => rfl
  | cons c r =>
    simp only [trailB, List.any_cons, Bool.not_or, Bool.and_eq_true, Bool.not_eq_true', badB, Bool.or_eq_false_iff, decide_eq_false_iff_not] at h
    have hs : stepP l0 n c.toNat = none := by rw [stepP, if_neg (by omega), if_pos (by omega)]
    simp only [runP, hs]
def okN (l : List Int) : Prop := ∀ n ∈ l, -1 ≤ n ∧ n ≤ 9999
theorem run_fmt {s : List UInt8} (hs : trailB s = true) : ∀ (l : List Int), okN l → ∀ (l0 : List Int) (n : Int), ∃ a b, runP (fmtG false l ++ s) l0 n = (a, b, s) ∧ a ++ [b] = l0 ++ n :: l
  | [], _, l0, n => ⟨l0, n, by rw [fmtG, List.nil_append, run_trail hs], rfl⟩
  | n2 :: l, h, l0, n => by
    have h2 := h n2 (List.mem_cons_self ..)
    obtain ⟨a, b, e1, e2⟩ := run_fmt hs l (fun m hm => h m (List.mem_cons_of_mem _ hm)) (l0 ++ [n]) n2
    refine ⟨a, b, ?_, by rw [e2]; simp⟩
    have hst : stepP l0 n ((59 : UInt8).toNat : Int) = some (l0 ++ [n], -1) := by rw [stepP, if_pos (by decide)]
    rw [fmtG, List.cons_append, runP, hst]
    simp only [List.append_assoc]
    rw [run_num _ _ h2.1 h2.2, e1]
theorem parR_fmt {l : List Int} {s : List UInt8} (hs : trailB s = true) (h : okN l) (h1 : l ≠ [-1]) : parR (fmtG true l ++ s) = (l, s) := by
  cases l with
  | nil => rw [fmtG, List.nil_append, parR, run_trail hs]; simp
  | cons n l =>
    have h2 := h n (List.mem_cons_self ..)
    obtain ⟨a, b, e1, e2⟩ := run_fmt hs l (fun m hm => h m (List.mem_cons_of_mem _ hm)) [] n
    have hl : s.length < (fmtG true (n :: l) ++ s).length := by
      have : 0 < (fmtG true (n :: l)).length := by
        rw [fmtG]
        cases l with
        | cons m l => simp [fmtG]; omega
        | nil =>
          have hn : n ≠ -1 := fun e => h1 (by rw [e])
          have : Lib.decDigits n.toNat ≠ [] := by
            intro e
            have := Lib.decDigits_length n.toNat
            have := Lib.nDigits_pos n.toNat
            rw [e] at *
            simp at *
            omega
          rw [numB, if_pos (by omega)]
          have := List.length_pos_iff.2 this
          simp only [List.length_append]
          omega
      rw [List.length_append]; omega
    have er : runP (fmtG true (n :: l) ++ s) [] (-1) = (a, b, s) := by
      rw [fmtG, List.append_assoc, run_num _ _ h2.1 h2.2, e1]
    rw [parR, er]
    simp only
    rw [if_pos hl, e2]
    rfl
theorem head_num (n : Int) (h9 : n ≤ 9999) (b : UInt8) (r : List UInt8) (h : numB n = b :: r) : 48 ≤ b.toNat ∧ b.toNat ≤ 57 := by
  unfold numB at h
  split at h
  · have hd : ∀ u : Nat, ∀ c ∈ Lib.decDigits u, 48 ≤ c.toNat ∧ c.toNat ≤ 57 := by
      intro u
      induction u using Nat.strongRecOn with
      | _ u ih =>
        intro c hc
        rw [Lib.decDigits] at hc
        split at hc
        · simp only [List.mem_singleton] at hc
          subst hc
          rw [UInt8.toNat_ofNat', Nat.mod_eq_of_lt (by omega)]; omega
        · simp only [List.mem_append, List.mem_singleton] at hc
          rcases hc with hc | hc
          · exact ih (u / 10) (by omega) c hc
          · subst hc
            rw [UInt8.toNat_ofNat', Nat.mod_eq_of_lt (by omega)]; omega
    exact hd _ b (by rw [h]; simp)
  · cases h
theorem mark_fmt {p : Int} (hp : p = 0 ∨ privB p = true) (hp2 : 0 ≤ p ∧ p < 256) {l : List Int} {s : List UInt8} (hs : trailB s = true) (h : okN l) :
    markP ((if p = 0 then [] else [UInt8.ofNat p.toNat]) ++ fmtG true l ++ s) = (p, fmtG true l ++ s) := by
  by_cases h0 : p = 0
  · subst h0
    simp only [if_true, List.nil_append]
    have hh : ∀ b r, fmtG true l ++ s = b :: r → b.toNat < 60 := by
      intro b r e
      cases l with
      | nil =>
        rw [fmtG, List.nil_append] at e
        subst e
        simp only [trailB, List.any_cons, Bool.not_or, Bool.and_eq_true, Bool.not_eq_true', badB, Bool.or_eq_false_iff, decide_eq_false_iff_not] at hs
        omega
      | cons n l =>
        have h2 := h n (List.mem_cons_self ..)
        rw [fmtG] at e
        cases hn : numB n with
        | cons c q =>
          have := head_num n h2.2 c q hn
          rw [hn] at e
          simp only [List.cons_append, List.cons.injEq] at e
          rw [← e.1]; omega
        | nil =>
          rw [hn, List.nil_append] at e
          cases l with
          | cons m l =>
            rw [fmtG] at e
            simp only [List.cons_append, List.cons.injEq] at e
            rw [← e.1]; decide
          | nil =>
            rw [fmtG, List.nil_append] at e
            subst e
            simp only [trailB, List.any_cons, Bool.not_or, Bool.and_eq_true, Bool.not_eq_true', badB, Bool.or_eq_false_iff, decide_eq_false_iff_not] at hs
            omega
    generalize fmtG true l ++ s = t at *
    cases t with
    | nil => rfl
    | cons b r =>
      have := hh b r rfl
      have hv : privB b.toNat = false := by
        simp only [privB, Bool.and_eq_false_iff, decide_eq_false_iff_not]
        omega
      simp [markP, hv]
  · have hv : privB p = true := by rcases hp with h | h; exact absurd h h0; exact h
    have hb : ((UInt8.ofNat p.toNat).toNat : Int) = p := by
      rw [UInt8.toNat_ofNat', Nat.mod_eq_of_lt (by omega)]; omega
    rw [if_neg h0]
    simp only [List.cons_append, List.nil_append, markP, hb, hv, if_true]
/-- the round trip -/
theorem parse_fmt {p : Int} (hp2 : 0 ≤ p ∧ p < 256) {l : List Int} {s t : List UInt8} (h : fmtS p l s = (t, 0)) : parseS t = (p, l, s, 0) := by
  unfold fmtS at h
  split at h
  · simp at h
  rename_i c1
  split at h
  · simp at h
  rename_i c2
  split at h
  · simp at h
  rename_i c3
  simp only [Prod.mk.injEq, and_true] at h
  simp only [not_or, not_and, Bool.not_eq_false] at c1
  simp only [Bool.not_eq_true] at c2
  simp only [Bool.not_eq_false] at c3
  obtain ⟨a1, a2, a3⟩ := c1
  have hok : okN l := by
    intro n hn
    have h1 := List.any_eq_false.1 c2 n hn
    simp only [lowB, decide_eq_true_eq] at h1
    have c3' := c3
    simp only [limB, Bool.and_eq_true, Bool.not_eq_true'] at c3'
    have h2 := List.any_eq_false.1 c3'.2 n hn
    simp only [over9999, decide_eq_true_eq] at h2
    omega
  have hp : p = 0 ∨ privB p = true := by
    by_cases h0 : p = 0
    · exact .inl h0
    · exact .inr (a1 h0)
  have hm := mark_fmt hp hp2 a2 hok
  rw [h] at hm
  have hr := parR_fmt a2 hok a3
  unfold parseS
  rw [hm]
  simp only [hr, a2, c3]
  simp
theorem fmt_fail {p : Int} {l : List Int} {s : List UInt8} (h : (fmtS p l s).2 ≠ 0) : (fmtS p l s).1 = [] := by
  unfold fmtS at *
  split
  · rfl
  · split
    · rfl
    · split
      · rfl
      · rename_i c1 c2 c3
        rw [if_neg c1, if_neg c2, if_neg c3] at h
        exact absurd rfl h
end Go.VI
