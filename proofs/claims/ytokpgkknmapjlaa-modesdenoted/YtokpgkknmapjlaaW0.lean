import Derived.Test.YtokpgkknmapjlaaEnv
import Derived.WalkKit
import Derived.ProofKit
import Derived.RowKit
import Derived.Shelf.Strings.Search1
namespace Go.VI
open Go.Proofs Go.RowKit Go.Lib
set_option maxHeartbeats 1000000 in
set_option maxRecDepth 100000 in
theorem ib31 (s : ByteArray) (c : Int) (w : World) : Calls Try.prog 31 #[.string s, .int .u8 c] w fun e w' => e = .returned (.int .i64 (Go.Lib.indexByte s.data.toList c.toNat.toUInt8)) ∧ w' = w := by
  go_enter Try.func31, Try.ntmps31
  go_wp2
  rw [run_callFunc_extern Try.func34 (by kernel_rfl) (by kernel_rfl) (by kernel_rfl) (e := Extern.BytealgIndexByte.indexByte) (by kernel_rfl), Go.Lib.run_indexByteString]
  simp only [Result.andThen]
  rw [Oper.upon_value]
  go_wp2
  go_ret
  exact ⟨rfl, rfl⟩
theorem extOK : ExtOK E := by
  intro f h hf
  by_cases e : f = 31
  · subst e
    cases hf
    exact ext_indexByte ib31
  · exfalso
    have : E.ext f = none := by
      show (if f = 31 then some extIndexByte else none) = none
      rw [if_neg e]
    rw [this] at hf; cases hf
end Go.VI
