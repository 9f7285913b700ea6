import Derived.Test.YtijkhfgkcndnpaaDoorU2
namespace Go.VI
open Go.Proofs
set_option maxRecDepth 100000
set_option linter.unusedSimpArgs false
set_option linter.unusedVariables false
set_option maxHeartbeats 4000000
theorem stepD_st {d : Dec} {i b : Int} : (stepD d i b).st = d.st ∨ (stepD d i b).st = i := by
  unfold stepD; simp only; split
  · exact .inl rfl
  · exact .inr rfl
theorem runD_st : ∀ (l : List UInt8) (i : Nat) (d : Dec), 0 ≤ d.st → d.st ≤ i → 0 ≤ (runD l i d).st ∧ (runD l i d).st ≤ i + l.length
  | [], i, d, h0, h1 => by simp only [runD, List.length_nil]; omega
  | b :: l, i, d, h0, h1 => by
    have hs := stepD_st (d := d) (i := i) (b := b.toNat)
    have ih := runD_st l (i + 1) (stepD d i b.toNat) (by omega) (by omega)
    simp only [runD, List.length_cons]
    omega
def sq0 : Sq := ⟨0, 0, 0, 0⟩
def decD (t : List UInt8) : Dec := runD t 0 ⟨sq0, [], 0⟩
def decOut (t : List UInt8) : List Int := (decD t).out
def decRest (t : List UInt8) : List UInt8 := if (decD t).s.mi = 0 then [] else t.drop (decD t).st.toNat
end Go.VI
