/- 'Rows.ModesDenotedSaid'. Its frame began as the shell that proof-skeleton printed for another law. -/
import Derived.Test.YtokpgkknmapjlaaRows
import Derived.WalkKit
import Derived.ProofKit
import Derived.OpenShut
import Derived.SizedLaws
import Derived.Test.YtokpgkknmapjlaaW9
import Derived.Test.YtokpgkknmapjlaaVI21
import Derived.Test.YtokpgkknmapjlaaW0
namespace Go.Proofs.Ytokpgkknmapjlaa.modesDenoted
open Go.ChangeShapes Go.WideShapes Go.ChangeAt Go.RowKit
set_option linter.unusedVariables false
set_option linter.unusedSimpArgs false

theorem own : ownKnob Try.prog.godebug = none := by kernel_rfl
theorem laid : laidOutB Try.prog = true := by kernel_rfl

set_option maxRecDepth 100000 in
theorem lifted (os : Os) (started : os.Started) (H : Type) (enc : TypeId × Value → H) :
    ReturnsInHanded {} Try.checked os 6 .any (Rows.modesDenotedSpec.pre6 enc Try.prog Try.f6 Rows.modesDenotedRow.domain false) (Rows.modesDenotedSpec.post enc Try.prog Try.f6 false true false false) := by
  refine returnsInHanded_of_change_sized (C := Try.checked) own started (by kernel_rfl) Try.func6
    (ChangeSpec.witness6 (enc := enc) (C := Try.checked) false ⟨#[], #[.agg #[.bool false, .bool false, .bool false, .bool false, .bool false, .bool false, .bool false, .bool false, .int .u8 0, .int .u8 0, .int .i64 0], .int .u8 0, .int .i64 0], []⟩ 8 (by kernel_rfl) (by kernel_rfl) (by kernel_rfl) (by kernel_rfl)) ?_
  intro W base args ds gs before hval0 hW hcnd hsz _
  have hval : ∀ (j : Nat) t v, Try.f6.params[j]? = some t → args[j]? = some v → Value.okWide Try.prog W .any base t v := hval0
  have hW' := hW
  obtain ⟨p, q, hA0, hV, rfl, hfz, hnd⟩ := hW
  have hA : DataW.TrodAll enc Try.prog W 0 (fun _ => true) true Try.f6.params.toList args.toList ds p := hA0
  rw [Try.params6] at hA hval
  obtain ⟨v0, vs0, d0, ds0, p0, q0, hargs, rfl, rfl, h0, r0⟩ := trodAll_cons hA
  obtain ⟨v1, vs1, d1, ds1, p1, q1, hargs1, rfl, rfl, h1, r1⟩ := trodAll_cons r0
  obtain ⟨v2, vs2, d2, ds2, p2, q2, hargs2, rfl, rfl, h2, r2⟩ := trodAll_cons r1
  obtain ⟨rfl, rfl, rfl⟩ := trodAll_nil r2
  subst hargs2
  subst hargs1
  obtain rfl : args = #[v0, v1, v2] := by cases args; simp_all
  obtain ⟨rfl, rfl⟩ := trodVars_none hV
  obtain ⟨cs0, e0, q0⟩ := VI.read_agg laid (D := 3) (cs := [.bool, .bool, .bool, .bool, .bool, .bool, .bool, .bool, .int .u8, .int .u8, .int .i64]) (of_decide_eq_true (by kernel_rfl)) (by kernel_rfl) (by kernel_rfl) (hval 0 24 v0 rfl rfl) h0
  obtain ⟨c0_0, _, rfl, h101⟩ := q0.bool
  obtain ⟨c0_1, _, rfl, h102⟩ := h101.bool
  obtain ⟨c0_2, _, rfl, h103⟩ := h102.bool
  obtain ⟨c0_3, _, rfl, h104⟩ := h103.bool
  obtain ⟨c0_4, _, rfl, h105⟩ := h104.bool
  obtain ⟨c0_5, _, rfl, h106⟩ := h105.bool
  obtain ⟨c0_6, _, rfl, h107⟩ := h106.bool
  obtain ⟨c0_7, _, rfl, h108⟩ := h107.bool
  obtain ⟨c0_8, _, rfl, w110, h109⟩ := h108.int
  obtain ⟨c0_9, _, rfl, w112, h111⟩ := h109.int
  obtain ⟨c0_10, _, rfl, w114, h113⟩ := h111.int
  obtain rfl := h113.nil
  have wc0_8 := VI.rng_u8 w110
  have wc0_9 := VI.rng_u8 w112
  have wc0_10 := VI.rng_i64 w114
  obtain ⟨n1, e1, w1⟩ := VI.read_int (k := .u8) (by kernel_rfl) (hval 1 5 v1 rfl rfl) h1
  replace w1 := VI.rng_u8 w1
  obtain ⟨n2, e2, w2⟩ := VI.read_int (k := .i64) (by kernel_rfl) (hval 2 3 v2 rfl rfl) h2
  replace w2 := VI.rng_i64 w2
  clear hA0 hval0
  obtain ⟨L, h⟩ := VI.law6 ⟨c0_0, c0_1, c0_2, c0_3, c0_4, c0_5, c0_6, c0_7, c0_8, c0_9, c0_10⟩ n1 n2
  refine (VI.law_calls (E := VI.E) (vs := #[v0, v1, v2]) (w := W) h VI.extOK (VI.noGlob VI.E_glob) (VI.args_of (vs := [v0, v1, v2]) ⟨e0, e1, e2, trivial⟩)).mono fun e W' ⟨he, hg⟩ => ?_
  subst he
  exact ⟨_, rfl, VI.post_of_old (pa := p0 ++ (p1 ++ (p2 ++ ([])))) (pv := []) hW' (fun _ _ _ => (trodAll_cons_mk (shut_bool Try.underlying4 _) trodAll_mk0)) (fun sp hs => (trodAll_cons_mk (VI.stays laid (by kernel_rfl) (of_decide_eq_true (by kernel_rfl)) h0 hg (fun p hp => hW'.lt p (by simp [hp])) sp (fun p hp => hs p (by simp [hp]))) (trodAll_cons_mk (VI.stays laid (by kernel_rfl) (of_decide_eq_true (by kernel_rfl)) h1 hg (fun p hp => hW'.lt p (by simp [hp])) sp (fun p hp => hs p (by simp [hp]))) (trodAll_cons_mk (VI.stays laid (by kernel_rfl) (of_decide_eq_true (by kernel_rfl)) h2 hg (fun p hp => hW'.lt p (by simp [hp])) sp (fun p hp => hs p (by simp [hp]))) trodAll_mk0)))) (fun _ _ => rfl) hg (by simp)⟩

theorem over : Rows.modesDenotedRow.holds Try.pinned (OpenSpec.ofChange Rows.modesDenotedSpec) :=
  OpenClaim.holds_of_wide 6 Try.f6 rfl rfl rfl rfl rfl rfl rfl ⟨rfl, rfl, rfl, rfl, rfl⟩ rfl rfl rfl rfl rfl (by kernel_rfl) Try.func6 (by kernel_rfl)
    (of_decide_eq_true (by kernel_rfl)) (by unfold Func.isWrapper; first | (rw [if_pos (by decide +kernel)]; kernel_rfl) | (rw [if_neg (by decide +kernel)]; exact ⟨rfl, rfl⟩))
    (fun os started H enc _ => lifted os started H enc)

theorem proved : Rows.ModesDenotedSaid :=
  over
end Go.Proofs.Ytokpgkknmapjlaa.modesDenoted
namespace Go.Proofs.Ytokpgkknmapjlaa
theorem modesDenoted_holds : Rows.ModesDenotedSaid := modesDenoted.proved
#print axioms modesDenoted_holds
end Go.Proofs.Ytokpgkknmapjlaa
