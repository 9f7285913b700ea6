import Derived.Test.YtcifhkdbaienjaaU5
namespace Go.VI
open Go.Proofs
set_option maxRecDepth 100000
set_option linter.unusedSimpArgs false
set_option linter.unusedVariables false
set_option maxHeartbeats 4000000
/-- the bytes that the reference keeps, and the state of the program -/
inductive RelK : List Int → Sq → Prop
  | none (s : Sq) (h : s.mi = 0) : RelK [] s
  | some (a : Int) (l : List Int) (s : Sq) (h1 : 0 ≤ a ∧ a ≤ 255) (h2 : (l.length : Int) + 1 < sizeB a) (h3 : ∀ b ∈ l, 128 ≤ b ∧ b ≤ 191) (hm : s.mi = sizeB a - (l.length + 1)) (hv : s.v = valV l (headV a (sizeB a).toNat))
      (hlo : s.lo = lowB a (l.length + 1)) (hhi : s.hi = highB a (l.length + 1)) : RelK (a :: l) s
theorem begin_all : ∀ n : Nat, n < 256 → sizeB n ≤ 4 ∧ (if 0 < sizeB n then 1 < sizeB n ∧ (beginS n).mi = sizeB n - 1 ∧ (beginS n).v = headV n (sizeB n).toNat ∧ (beginS n).lo = lowB n 1 ∧ (beginS n).hi = highB n 1 ∧ 128 ≤ (n : Int) ∧ 0 ≤ headV n (sizeB n).toNat ∧ headV n (sizeB n).toNat ≤ 31 else (beginS n).mi = 0) := by decide +kernel
theorem begin_at {b : Int} (h : 0 ≤ b ∧ b ≤ 255) : sizeB b ≤ 4 ∧ (if 0 < sizeB b then 1 < sizeB b ∧ (beginS b).mi = sizeB b - 1 ∧ (beginS b).v = headV b (sizeB b).toNat ∧ (beginS b).lo = lowB b 1 ∧ (beginS b).hi = highB b 1 ∧ 128 ≤ b ∧ 0 ≤ headV b (sizeB b).toNat ∧ headV b (sizeB b).toNat ≤ 31 else (beginS b).mi = 0) := by
  obtain ⟨n, rfl⟩ := Int.eq_ofNat_of_zero_le h.1
  exact begin_all n (by omega)
theorem lowhigh (a : Int) (n : Nat) : 128 ≤ lowB a n ∧ highB a n ≤ 191 := by
  unfold lowB highB; repeat' split
  all_goals (constructor <;> omega)
theorem begin_rel {b : Int} (h0 : 0 ≤ b ∧ b ≤ 255) (h : 0 < sizeB b) : RelK [b] (beginS b) := by
  have hs := (begin_at h0).2
  rw [if_pos h] at hs
  obtain ⟨h1, h2, h3, h4, h5, _⟩ := hs
  exact .some b [] _ h0 (by simpa using h1) (fun _ h => by simp at h) (by simpa using h2) h3 h4 h5
end Go.VI
