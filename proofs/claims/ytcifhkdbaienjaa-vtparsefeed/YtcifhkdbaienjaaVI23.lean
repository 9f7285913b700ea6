/- VI, part 23: functions of Go's library that are taken by a contract of the kit. -/
import Derived.Test.YtcifhkdbaienjaaVI22
import Derived.Lib.Bytealg
set_option linter.unusedSimpArgs false
set_option linter.unusedVariables false
namespace Go.VI
def extIndexByte : List AV → Option AV
  | [.i (.str s), .i (.v (.int .u8 b))] => some (.i (.v (.int .i64 (Lib.indexByte s b.toNat.toUInt8))))
  | _ => none
/-- one function's part of ExtOK -/
def Ext1 (E : Env) (f : FuncId) (h : List AV → Option AV) : Prop := ∀ args r, h args = some r → ∀ I η H w vs, Conc E I η H w → ArgsOK I η H args vs →
  Calls E.P f vs w fun e w' => ∃ x, e = .returned x ∧ After E I η H w H w' fun I' η' => RelA I' η' H r x
theorem args_two {I : Imm} {η : Eta} {H : Hp} {a b : AV} {vs : Array Value} (h : ArgsOK I η H [a, b] vs) : ∃ x y, vs = #[x, y] ∧ RelA I η H a x ∧ RelA I η H b y := by
  obtain ⟨hs, hr⟩ := h
  obtain ⟨l⟩ := vs
  match l, hs with
  | [x, y], _ => exact ⟨x, y, rfl, hr 0 a rfl, hr 1 b rfl⟩
theorem ext_indexByte {E : Env} {f : FuncId} (hc : ∀ (s : ByteArray) (c : Int) (w : World), Calls E.P f #[.string s, .int .u8 c] w fun e w' => e = .returned (.int .i64 (Lib.indexByte s.data.toList c.toNat.toUInt8)) ∧ w' = w) : Ext1 E f extIndexByte := by
  intro args r hr I η H w vs hC hA
  unfold extIndexByte at hr
  split at hr
  · rename_i s b
    cases hr
    obtain ⟨x, y, rfl, h1, h2⟩ := args_two hA
    obtain rfl := relA_str h1
    obtain rfl := relA_v h2
    refine (hc ⟨⟨s⟩⟩ b w).mono fun e w' ⟨h1, h2⟩ => ?_
    subst h2
    exact ⟨_, h1, After.refl hC (.i _ _ (.v _ rfl))⟩
  · cases hr
theorem isoK_ext {E : Env} {cl : CallF} {f : FuncId} {h : List AV → Option AV} (he : E.ext f = some h) (as : List AV) (H : Hp) : isoK E cl f as H = (h as).map fun r => (r, H) := by
  unfold isoK; rw [he]
end Go.VI
