import Derived.Test.YtijkhfgkcndnpaaDoorEnv
namespace Go.VI
open Go.Proofs
set_option maxRecDepth 100000
set_option linter.unusedSimpArgs false
set_option linter.unusedVariables false
set_option maxHeartbeats 4000000
/-! bytes as rows -/
def rowsB (s : List UInt8) : List (List IV) := s.map fun b => [IV.v (.int .u8 b.toNat)]
theorem rowsB_len (s : List UInt8) : (rowsB s).length = s.length := by simp [rowsB]
theorem rowsB_at {s : List UInt8} {k : Nat} (h : k < s.length) : (rowsB s)[k]? = some [.v (.int .u8 s[k].toNat)] := by simp [rowsB, h]
theorem rowsB_app (a b : List UInt8) : rowsB a ++ rowsB b = rowsB (a ++ b) := by simp [rowsB]
theorem rowsB_snoc (a : List UInt8) (n : Int) (b : UInt8) (h : n = b.toNat) : rowsB a ++ [[.v (.int .u8 n)]] = rowsB (a ++ [b]) := by subst h; simp [rowsB]
theorem rowsB_num (a : List UInt8) : numsOf (rowsB a) = some (a.map fun b => (b.toNat : Int)) := numsOf_bytes a
theorem rowsB_take (a : List UInt8) (n : Nat) (h : a.length ≤ n) : (rowsB a).take n = rowsB a := List.take_of_length_le (by rw [rowsB_len]; exact h)
theorem bytes_map (a : List UInt8) : (a.map fun b => [IV.v (.int .u8 b.toNat)]) = rowsB a := rfl
end Go.VI
