import Derived.Test.YtijkhfgkcndnpaaDoorP5
namespace Go.VI
open Go.Proofs
set_option maxRecDepth 100000
set_option linter.unusedSimpArgs false
set_option linter.unusedVariables false
set_option maxHeartbeats 4000000
/-! what is no body is rejected -/
theorem drop_mem {y : UInt8} (hy : pB y = false) {x : UInt8} {r : List UInt8} (hx : x ∈ y :: r) : ∀ a : List UInt8, x ∈ (a ++ y :: r).dropWhile pB
  | [] => by rw [List.nil_append, List.dropWhile_cons_of_neg (by simp [hy])]; exact hx
  | c :: a => by
    by_cases h : pB c = true
    · rw [List.cons_append, List.dropWhile_cons_of_pos h]; exact drop_mem hy hx a
    · rw [List.cons_append, List.dropWhile_cons_of_neg h]
      simp only [List.mem_cons, List.mem_append] at hx ⊢
      exact .inr (.inr hx)
theorem parR_inter (t : List UInt8) : (parR t).2 = t.dropWhile pB := by
  unfold parR
  rw [(runP_split t [] (-1)).1]
theorem parse_bad {a r : List UInt8} {y x : UInt8} (hy : pB y = false) (hv : privB y.toNat = false) (hx : x ∈ y :: r) (hb : badB x = true) : parseS (a ++ y :: r) = (0, [], [], 3) := by
  have hm : ∃ u, (markP (a ++ y :: r)).2 = u ++ y :: r := by
    cases a with
    | nil => exact ⟨[], by simp [markP, hv]⟩
    | cons c a =>
      rw [List.cons_append, markP]
      split
      · exact ⟨a, rfl⟩
      · exact ⟨c :: a, rfl⟩
  obtain ⟨u, hu⟩ := hm
  have ht : trailB (parR (markP (a ++ y :: r)).2).2 = false := by
    rw [hu, parR_inter, trailB, Bool.not_eq_false']
    exact List.any_eq_true.2 ⟨x, drop_mem hy hx u, hb⟩
  unfold parseS
  rw [if_pos ht]
end Go.VI
