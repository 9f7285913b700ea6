/- 'Rows.CharwidthTotalSaid'. Its frame began as the shell that proof-skeleton printed for CharwidthWidth. -/
import Derived.Test.YteblgiajgjolcaaRows
import Derived.WalkKit
import Derived.ProofKit
import Derived.OpenShut
import Derived.Test.YteblgiajgjolcaaW7
import Derived.Test.YteblgiajgjolcaaVI20
namespace Go.Proofs.Yteblgiajgjolcaa.charwidthTotal
open Go.ChangeShapes Go.WideShapes Go.ChangeAt Go.RowKit
set_option linter.unusedVariables false

theorem own : ownKnob Try.prog.godebug = none := by kernel_rfl

set_option maxRecDepth 100000 in
theorem lifted (os : Os) (started : os.Started) (H : Type) (enc : TypeId × Value → H) :
    ReturnsInHanded {} Try.checked os 8 .any (Rows.charwidthTotalSpec.pre6 enc Try.prog Try.f8 Rows.charwidthTotalRow.domain false) (Rows.charwidthTotalSpec.post enc Try.prog Try.f8 false true false false) := by
  refine returnsInHanded_of_change (C := Try.checked) own started (by kernel_rfl) Try.func8
    (ChangeSpec.witness6 (enc := enc) (C := Try.checked) false ⟨#[], #[.slice none 0 0], []⟩ 8 (by kernel_rfl) (by kernel_rfl) (by kernel_rfl) (by kernel_rfl)) ?_
  intro W base args ds gs before hval0 hW hcnd _
  have hval : ∀ (j : Nat) t v, Try.f8.params[j]? = some t → args[j]? = some v → Value.okWide Try.prog W .any base t v := hval0
  have hW' := hW
  obtain ⟨p, q, hA0, hV, rfl, hfz, hnd⟩ := hW
  have hA : DataW.TrodAll enc Try.prog W 0 (fun _ => true) true Try.f8.params.toList args.toList ds p := hA0
  rw [Try.params8] at hA hval
  obtain ⟨v0, vs0, d0, ds0, p0, q0, hargs, rfl, rfl, h0, r0⟩ := trodAll_cons hA
  obtain ⟨rfl, rfl, rfl⟩ := trodAll_nil r0
  obtain rfl : args = #[v0] := by cases args; simp_all
  obtain ⟨rfl, rfl⟩ := trodVars_none hV
  obtain ⟨l, rl, wl, bl⟩ := VI.read_ints Try.underlying30 Try.underlying21 (by kernel_rfl) (hval 0 30 v0 rfl rfl) h0
  clear hA0 hval0
  simp only [List.append_nil] at hW' bl
  obtain ⟨L, h⟩ := VI.law8 l false
  refine (VI.law_calls (E := VI.E) (vs := #[v0]) (w := W) h (VI.noExt VI.E_ext) (VI.noGlob VI.E_glob) (VI.args_of (vs := [v0]) ⟨rl, trivial⟩)).mono fun e W' ⟨he, hg⟩ => ?_
  subst he
  exact ⟨_, rfl, VI.post_of_old (pa := p0 ++ []) (pv := []) hW' (fun _ _ _ => (trodAll_cons_mk (shut_bool Try.underlying4 _) trodAll_mk0)) (fun sp hs => (trodAll_cons_mk (bl W' hg sp (by simpa using hs)) trodAll_mk0)) (fun _ _ => rfl) hg (by simp)⟩

theorem over : Rows.charwidthTotalRow.holds Try.pinned (OpenSpec.ofChange Rows.charwidthTotalSpec) :=
  OpenClaim.holds_of_wide 8 Try.f8 rfl rfl rfl rfl rfl rfl rfl ⟨rfl, rfl, rfl, rfl, rfl⟩ rfl rfl rfl rfl rfl (by kernel_rfl) Try.func8 (by kernel_rfl)
    (of_decide_eq_true (by kernel_rfl)) (by unfold Func.isWrapper; first | (rw [if_pos (by decide +kernel)]; kernel_rfl) | (rw [if_neg (by decide +kernel)]; exact ⟨rfl, rfl⟩))
    (fun os started H enc _ => lifted os started H enc)

theorem proved : Rows.CharwidthTotalSaid :=
  over
end Go.Proofs.Yteblgiajgjolcaa.charwidthTotal
namespace Go.Proofs.Yteblgiajgjolcaa
theorem charwidthTotal_holds : Rows.CharwidthTotalSaid := charwidthTotal.proved
#print axioms charwidthTotal_holds
end Go.Proofs.Yteblgiajgjolcaa
