/- 'Rows.VtparseTextSaid'. Its frame began as the shell that proof-skeleton printed for another law. -/
import Derived.Test.YtcifhkdbaienjaaRows
import Derived.WalkKit
import Derived.ProofKit
import Derived.OpenShut
import Derived.SizedLaws
import Derived.Test.YtcifhkdbaienjaaV16
import Derived.Test.YtcifhkdbaienjaaVC
namespace Go.Proofs.Ytcifhkdbaienjaa.vtparseText
open Go.ChangeShapes Go.WideShapes Go.ChangeAt Go.RowKit
set_option linter.unusedVariables false
set_option linter.unusedSimpArgs false

theorem own : ownKnob Try.prog.godebug = none := by kernel_rfl
theorem laid : laidOutB Try.prog = true := by kernel_rfl

set_option maxRecDepth 100000 in
theorem lifted (os : Os) (started : os.Started) (H : Type) (enc : TypeId × Value → H) :
    ReturnsInHanded {} Try.checked os 5 .any (Rows.vtparseTextSpec.pre6 enc Try.prog Try.f5 Rows.vtparseTextRow.domain false) (Rows.vtparseTextSpec.post enc Try.prog Try.f5 false true false false) := by
  refine returnsInHanded_of_change_sized (C := Try.checked) own started (by kernel_rfl) Try.func5
    (ChangeSpec.witness6 (enc := enc) (C := Try.checked) false ⟨#[], #[.agg #[.int .i64 0, .string ⟨#[]⟩, .string ⟨#[]⟩], .string ⟨#[]⟩], []⟩ 8 (by kernel_rfl) (by kernel_rfl) (by kernel_rfl) (by kernel_rfl)) ?_
  intro W base args ds gs before hval0 hW hcnd hsz _
  have hval : ∀ (j : Nat) t v, Try.f5.params[j]? = some t → args[j]? = some v → Value.okWide Try.prog W .any base t v := hval0
  have hW' := hW
  obtain ⟨p, q, hA0, hV, rfl, hfz, hnd⟩ := hW
  have hA : DataW.TrodAll enc Try.prog W 0 (fun _ => true) true Try.f5.params.toList args.toList ds p := hA0
  rw [Try.params5] at hA hval
  obtain ⟨v0, vs0, d0, ds0, p0, q0, hargs, rfl, rfl, h0, r0⟩ := trodAll_cons hA
  obtain ⟨v1, vs1, d1, ds1, p1, q1, hargs1, rfl, rfl, h1, r1⟩ := trodAll_cons r0
  obtain ⟨rfl, rfl, rfl⟩ := trodAll_nil r1
  subst hargs1
  obtain rfl : args = #[v0, v1] := by cases args; simp_all
  obtain ⟨rfl, rfl⟩ := trodVars_none hV
  obtain ⟨cs0, e0, q0⟩ := VI.read_agg laid (D := 2) (cs := [.int .i64, .str, .str]) (of_decide_eq_true (by kernel_rfl)) (by kernel_rfl) (by kernel_rfl) (hval 0 23 v0 rfl rfl) h0
  obtain ⟨c0_0, _, rfl, w102, h101⟩ := q0.int
  obtain ⟨c0_1, _, rfl, w104, h103⟩ := h101.str
  obtain ⟨c0_2, _, rfl, w106, h105⟩ := h103.str
  obtain rfl := h105.nil
  have wc0_0 := VI.rng_i64 w102
  have wc0_1 := w104
  have wc0_2 := w106
  obtain ⟨s1, e1, w1⟩ := VI.read_str (by kernel_rfl) (hval 1 9 v1 rfl rfl) h1
  clear hA0 hval0
  obtain ⟨L, h⟩ := VI.law5 c0_0 c0_1 c0_2 s1
  refine (VI.law_calls (E := VI.E) (vs := #[v0, v1]) (w := W) h (VI.noExt VI.E_ext) (VI.noGlob VI.E_glob) (VI.args_of (vs := [v0, v1]) ⟨e0, e1, trivial⟩)).mono fun e W' ⟨he, hg⟩ => ?_
  subst he
  exact ⟨_, rfl, VI.post_of_old (pa := p0 ++ (p1 ++ ([]))) (pv := []) hW' (fun _ _ _ => (trodAll_cons_mk (shut_bool Try.underlying4 _) trodAll_mk0)) (fun sp hs => (trodAll_cons_mk (VI.stays laid (by kernel_rfl) (of_decide_eq_true (by kernel_rfl)) h0 hg (fun p hp => hW'.lt p (by simp [hp])) sp (fun p hp => hs p (by simp [hp]))) (trodAll_cons_mk (VI.stays laid (by kernel_rfl) (of_decide_eq_true (by kernel_rfl)) h1 hg (fun p hp => hW'.lt p (by simp [hp])) sp (fun p hp => hs p (by simp [hp]))) trodAll_mk0))) (fun _ _ => rfl) hg (by simp)⟩

theorem over : Rows.vtparseTextRow.holds Try.pinned (OpenSpec.ofChange Rows.vtparseTextSpec) :=
  OpenClaim.holds_of_wide 5 Try.f5 rfl rfl rfl rfl rfl rfl rfl ⟨rfl, rfl, rfl, rfl, rfl⟩ rfl rfl rfl rfl rfl (by kernel_rfl) Try.func5 (by kernel_rfl)
    (of_decide_eq_true (by kernel_rfl)) (by unfold Func.isWrapper; first | (rw [if_pos (by decide +kernel)]; kernel_rfl) | (rw [if_neg (by decide +kernel)]; exact ⟨rfl, rfl⟩))
    (fun os started H enc _ => lifted os started H enc)

theorem proved : Rows.VtparseTextSaid :=
  over
end Go.Proofs.Ytcifhkdbaienjaa.vtparseText
namespace Go.Proofs.Ytcifhkdbaienjaa
theorem vtparseText_holds : Rows.VtparseTextSaid := vtparseText.proved
#print axioms vtparseText_holds
end Go.Proofs.Ytcifhkdbaienjaa
