/- 'Rows.CharwidthSumsSaid'. Its frame began as the shell that proof-skeleton printed for another law. -/
import Derived.Test.YteblgiajgjolcaaRows
import Derived.WalkKit
import Derived.ProofKit
import Derived.OpenShut
import Derived.SizedLaws
import Derived.Test.YteblgiajgjolcaaW9
import Derived.Test.YteblgiajgjolcaaVI21
namespace Go.Proofs.Yteblgiajgjolcaa.charwidthSums
open Go.ChangeShapes Go.WideShapes Go.ChangeAt Go.RowKit
set_option linter.unusedVariables false
set_option linter.unusedSimpArgs false

theorem own : ownKnob Try.prog.godebug = none := by kernel_rfl
theorem laid : laidOutB Try.prog = true := by kernel_rfl

set_option maxRecDepth 100000 in
theorem lifted (os : Os) (started : os.Started) (H : Type) (enc : TypeId × Value → H) :
    ReturnsInHanded {} Try.checked os 9 .any (Rows.charwidthSumsSpec.pre6 enc Try.prog Try.f9 Rows.charwidthSumsRow.domain false) (Rows.charwidthSumsSpec.post enc Try.prog Try.f9 false true false false) := by
  refine returnsInHanded_of_change_sized (C := Try.checked) own started (by kernel_rfl) Try.func9
    (ChangeSpec.witness6 (enc := enc) (C := Try.checked) false ⟨#[], #[.slice none 0 0, .slice none 0 0], []⟩ 8 (by kernel_rfl) (by kernel_rfl) (by kernel_rfl) (by kernel_rfl)) ?_
  intro W base args ds gs before hval0 hW hcnd hsz _
  have hval : ∀ (j : Nat) t v, Try.f9.params[j]? = some t → args[j]? = some v → Value.okWide Try.prog W .any base t v := hval0
  have hW' := hW
  obtain ⟨p, q, hA0, hV, rfl, hfz, hnd⟩ := hW
  have hA : DataW.TrodAll enc Try.prog W 0 (fun _ => true) true Try.f9.params.toList args.toList ds p := hA0
  rw [Try.params9] at hA hval
  obtain ⟨v0, vs0, d0, ds0, p0, q0, hargs, rfl, rfl, h0, r0⟩ := trodAll_cons hA
  obtain ⟨v1, vs1, d1, ds1, p1, q1, hargs1, rfl, rfl, h1, r1⟩ := trodAll_cons r0
  obtain ⟨rfl, rfl, rfl⟩ := trodAll_nil r1
  subst hargs1
  obtain rfl : args = #[v0, v1] := by cases args; simp_all
  obtain ⟨rfl, rfl⟩ := trodVars_none hV
  obtain ⟨rw0, e0, ln0, q0⟩ := VI.read_sl laid (e := 21) (D := 1) (cs := [.int .i32]) (of_decide_eq_true (by kernel_rfl)) (by kernel_rfl) (by kernel_rfl) (by kernel_rfl) (hval 0 30 v0 rfl rfl) h0
  obtain ⟨l0, rfl, m101⟩ := VI.rows_map (fun a : Int => [.v (.int .i32 a)]) (fun a : Int => (-2147483648 ≤ a ∧ a ≤ 2147483647)) (fun r hr => by
      have h102 := q0 r hr
      obtain ⟨x103, _, rfl, w105, h104⟩ := h102.int
      obtain rfl := h104.nil
      exact ⟨x103, rfl, VI.rng_i32 w105⟩)
  replace ln0 : l0.length ≤ maxLen := by simpa using ln0
  have w0 := m101
  have sz0 : l0.length * 4 ≤ 0x7ffffffff000 := Nat.le_trans (Nat.mul_le_mul_right _ (by simpa using VI.sl_dlen (e := 21) (by kernel_rfl) h0 e0)) (VI.weight_at (t := 30) (e := 21) 0 hsz (by rw [Try.params9]; rfl) rfl (by kernel_rfl))
  rw [show Try.prog.cellsOf 21 = 1 from by kernel_rfl] at e0
  obtain ⟨rw1, e1, ln1, q1⟩ := VI.read_sl laid (e := 21) (D := 1) (cs := [.int .i32]) (of_decide_eq_true (by kernel_rfl)) (by kernel_rfl) (by kernel_rfl) (by kernel_rfl) (hval 1 30 v1 rfl rfl) h1
  obtain ⟨l1, rfl, m106⟩ := VI.rows_map (fun a : Int => [.v (.int .i32 a)]) (fun a : Int => (-2147483648 ≤ a ∧ a ≤ 2147483647)) (fun r hr => by
      have h107 := q1 r hr
      obtain ⟨x108, _, rfl, w110, h109⟩ := h107.int
      obtain rfl := h109.nil
      exact ⟨x108, rfl, VI.rng_i32 w110⟩)
  replace ln1 : l1.length ≤ maxLen := by simpa using ln1
  have w1 := m106
  have sz1 : l1.length * 4 ≤ 0x7ffffffff000 := Nat.le_trans (Nat.mul_le_mul_right _ (by simpa using VI.sl_dlen (e := 21) (by kernel_rfl) h1 e1)) (VI.weight_at (t := 30) (e := 21) 1 hsz (by rw [Try.params9]; rfl) rfl (by kernel_rfl))
  rw [show Try.prog.cellsOf 21 = 1 from by kernel_rfl] at e1
  clear hA0 hval0
  obtain ⟨L, h⟩ := VI.law9 l0 l1 false false sz0 sz1
  refine (VI.law_calls (E := VI.E) (vs := #[v0, v1]) (w := W) h (VI.noExt VI.E_ext) (VI.noGlob VI.E_glob) (VI.args_of (vs := [v0, v1]) ⟨e0, e1, trivial⟩)).mono fun e W' ⟨he, hg⟩ => ?_
  subst he
  exact ⟨_, rfl, VI.post_of_old (pa := p0 ++ (p1 ++ ([]))) (pv := []) hW' (fun _ _ _ => (trodAll_cons_mk (shut_bool Try.underlying4 _) trodAll_mk0)) (fun sp hs => (trodAll_cons_mk (VI.stays laid (by kernel_rfl) (of_decide_eq_true (by kernel_rfl)) h0 hg (fun p hp => hW'.lt p (by simp [hp])) sp (fun p hp => hs p (by simp [hp]))) (trodAll_cons_mk (VI.stays laid (by kernel_rfl) (of_decide_eq_true (by kernel_rfl)) h1 hg (fun p hp => hW'.lt p (by simp [hp])) sp (fun p hp => hs p (by simp [hp]))) trodAll_mk0))) (fun _ _ => rfl) hg (by simp)⟩

theorem over : Rows.charwidthSumsRow.holds Try.pinned (OpenSpec.ofChange Rows.charwidthSumsSpec) :=
  OpenClaim.holds_of_wide 9 Try.f9 rfl rfl rfl rfl rfl rfl rfl ⟨rfl, rfl, rfl, rfl, rfl⟩ rfl rfl rfl rfl rfl (by kernel_rfl) Try.func9 (by kernel_rfl)
    (of_decide_eq_true (by kernel_rfl)) (by unfold Func.isWrapper; first | (rw [if_pos (by decide +kernel)]; kernel_rfl) | (rw [if_neg (by decide +kernel)]; exact ⟨rfl, rfl⟩))
    (fun os started H enc _ => lifted os started H enc)

theorem proved : Rows.CharwidthSumsSaid :=
  over
end Go.Proofs.Yteblgiajgjolcaa.charwidthSums
namespace Go.Proofs.Yteblgiajgjolcaa
theorem charwidthSums_holds : Rows.CharwidthSumsSaid := charwidthSums.proved
#print axioms charwidthSums_holds
end Go.Proofs.Yteblgiajgjolcaa
