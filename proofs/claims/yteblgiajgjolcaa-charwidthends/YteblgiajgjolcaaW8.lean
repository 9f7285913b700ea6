import Derived.Test.YteblgiajgjolcaaW7
import Derived.Test.YteblgiajgjolcaaVI22
namespace Go.VI
open Go.Proofs
set_option maxRecDepth 100000
set_option linter.unusedSimpArgs false
set_option linter.unusedVariables false
set_option maxHeartbeats 4000000
theorem ik11 (r : Int) (H : Hp) : isoK E (callT E) 11 [.i (.v (.int .i32 r))] H = some (.i (.v (.int .i64 (width r))), H) := isoK_val rfl rfl rfl (width11 r)
theorem ik15 (H : Hp) : isoK E (callT E) 15 [] H = some (.i (.v (.bool true)), H) := isoK_val rfl rfl rfl awake15
theorem ik17 (l : List Int) (ex : Bool) (hn : (l.length : Int) < 1000) (H : Hp) : isoK E (callT E) 17 [.i (.sl 1 (rowsR l) ex)] H = some (.i (.v (.int .i64 (tot l))), H) := isoK_val rfl rfl rfl (total17 l ex (by omega))
theorem ik17n (H : Hp) : isoK E (callT E) 17 [.i (.sl 0 [] true)] H = some (.i (.v (.int .i64 0)), H) := isoK_val rfl rfl rfl ⟨[], callT_of (n := 60) (by kernel_rfl)⟩
theorem ik16 (H : Hp) : isoK E (callT E) 16 [] H = some (.ref H.length 0 0 14, H ++ [.sl 2 0 (rowsOf widesT) true]) := isoK_new rfl rfl rfl ⟨_, wide16, rfl⟩
end Go.VI
