/- 'Rows.ScriptverifyHiddenSaid'. Its frame began as the shell that proof-skeleton printed for another law. -/
import Derived.Test.YtbacmnbjkhjopaaDoorZZH6
import Derived.Test.YtbacmnbjkhjopaaDoorRows
import Derived.WalkKit
import Derived.ProofKit
import Derived.OpenShut
import Derived.SizedLaws
import Derived.Test.YtbacmnbjkhjopaaDoorCards
import Derived.Test.YtbacmnbjkhjopaaDoorTie
import Derived.LaidLaws
import Derived.Lay
import Derived.SevenTiedAt
import Derived.MakeChecks
import Derived.Stop.Joined
import Derived.ChangeMaps5
namespace Go.Proofs.YtbacmnbjkhjopaaDoor.scriptverifyHidden
open Go.ChangeShapes Go.WideShapes Go.ChangeAt Go.RowKit
set_option linter.unusedVariables false
set_option linter.unusedSimpArgs false

theorem own : ownKnob Tryd.prog.godebug = none := by kernel_rfl
theorem laid : laidOutB Tryd.prog = true := by kernel_rfl

theorem tabd0 : (Rows.laid_narrator_scriptverify_pops : DataW Unit) = Lib.tabData .i64 VI.popsL := by kernel_rfl
theorem tab0 {W : World} (h : laidMetH Tryd.prog Rows.scriptverifyHiddenRow.laid W) : Lib.TabIs Tryd.prog W "narrator/scriptverify.pops" .i64 VI.popsL := by
  rw [MakeChecks.laidMetH_plain _ _ _ (by kernel_rfl)] at h
  have h2 : laidMet Tryd.prog (("narrator/scriptverify.pops", (Rows.laid_narrator_scriptverify_pops : DataW Unit)) :: _) W := h
  rw [tabd0] at h2
  exact Lib.tabIs_of_head (t := 50) (e := 3) (n := 21) (g := 0) (by kernel_rfl) (by kernel_rfl) Tryd.underlying50 Tryd.underlying3 (by kernel_rfl) (by kernel_rfl) h2

theorem tabd1 : (Rows.laid_narrator_scriptverify_pushes : DataW Unit) = Lib.tabData .i64 VI.pushesL := by kernel_rfl
theorem tab1 {W : World} (h : laidMetH Tryd.prog Rows.scriptverifyHiddenRow.laid W) : Lib.TabIs Tryd.prog W "narrator/scriptverify.pushes" .i64 VI.pushesL := by
  rw [MakeChecks.laidMetH_plain _ _ _ (by kernel_rfl)] at h
  have h2 : laidMet Tryd.prog (("narrator/scriptverify.pushes", (Rows.laid_narrator_scriptverify_pushes : DataW Unit)) :: _) W := (VI.laid_tail h)
  rw [tabd1] at h2
  exact Lib.tabIs_of_head (t := 50) (e := 3) (n := 21) (g := 1) (by kernel_rfl) (by kernel_rfl) Tryd.underlying50 Tryd.underlying3 (by kernel_rfl) (by kernel_rfl) h2

set_option maxRecDepth 100000 in
theorem lifted (os : Os) (started : os.Started) (H : Type) (enc : TypeId × Value → H) :
    ReturnsInHanded {} Tryd.checked os 5 .any (fun w args => (Rows.scriptverifyHiddenSpec.pre enc Tryd.prog Tryd.f5 Rows.scriptverifyHiddenRow.domain false w args ∧ laidMetH Tryd.prog Rows.scriptverifyHiddenRow.laid w) ∧ sizedMet enc Tryd.prog Tryd.f5 (OpenSpec.ofChange Rows.scriptverifyHiddenSpec) false w args) (Rows.scriptverifyHiddenSpec.post enc Tryd.prog Tryd.f5 false true false false) := by
  refine returnsInHanded_of_change_and (C := Tryd.checked) (X := fun w _ => laidMetH Tryd.prog Rows.scriptverifyHiddenRow.laid w) (fun _ _ _ hh h => h.of_heap hh) own started (by kernel_rfl) Tryd.func5
    (ChangeSpec.witness_shaped (enc := enc) (C := Tryd.checked) (os := os) (X := fun w _ => laidMetH Tryd.prog Rows.scriptverifyHiddenRow.laid w) false (World.laidAll Tryd.prog os Rows.scriptverifyHiddenRow.laid) #[.slice none 0 0] 8 (World.laidAll_os _ _ _)
      (World.shaped_of_ZipB (by kernel_rfl) (by kernel_rfl)) (by kernel_rfl) (by kernel_rfl) (by kernel_rfl)
      (by rw [MakeChecks.laidMetH_plain _ _ _ (by kernel_rfl)]; exact laidMet_laidAll _ (by kernel_rfl) (by kernel_rfl))) ?_
  intro W base args ds gs before hval0 hW hcnd hsz hL _
  have hval : ∀ (j : Nat) t v, Tryd.f5.params[j]? = some t → args[j]? = some v → Value.okWide Tryd.prog W .any base t v := hval0
  have hW' := hW
  obtain ⟨p, q, hA0, hV, rfl, hfz, hnd⟩ := hW
  have hA : DataW.TrodAll enc Tryd.prog W 0 (fun _ => true) true Tryd.f5.params.toList args.toList ds p := hA0
  rw [Tryd.params5] at hA hval
  obtain ⟨v0, vs0, d0, ds0, p0, q0, hargs, rfl, rfl, h0, r0⟩ := trodAll_cons hA
  obtain ⟨rfl, rfl, rfl⟩ := trodAll_nil r0
  obtain rfl : args = #[v0] := by cases args; simp_all
  obtain ⟨rfl, rfl⟩ := trodVars_none hV
  obtain ⟨rw0, e0, ln0, q0⟩ := VI.read_sl laid (e := 45) (D := 2) (cs := [.int .i64, .int .i64]) (of_decide_eq_true (by kernel_rfl)) (by kernel_rfl) (by kernel_rfl) (by kernel_rfl) (hval 0 22 v0 rfl rfl) h0
  obtain ⟨l0, rfl, m101⟩ := VI.rows_map (fun a : Int × Int => [.v (.int .i64 a.1), .v (.int .i64 a.2)]) (fun a : Int × Int => (-9223372036854775808 ≤ a.1 ∧ a.1 ≤ 9223372036854775807) ∧ (-9223372036854775808 ≤ a.2 ∧ a.2 ≤ 9223372036854775807)) (fun r hr => by
      have h102 := q0 r hr
      obtain ⟨x103, _, rfl, w105, h104⟩ := h102.int
      obtain ⟨x106, _, rfl, w108, h107⟩ := h104.int
      obtain rfl := h107.nil
      exact ⟨(x103, x106), rfl, ⟨VI.rng_i64 w105, VI.rng_i64 w108⟩⟩)
  replace ln0 : l0.length ≤ maxLen := by simpa using ln0
  have w0 := m101
  have sz0 : l0.length * 16 ≤ 0x7ffffffff000 := Nat.le_trans (Nat.mul_le_mul_right _ (by simpa using VI.sl_dlen (e := 45) (by kernel_rfl) h0 e0)) (VI.weight_at (t := 22) (e := 45) 0 hsz (by rw [Tryd.params5]; rfl) rfl (by kernel_rfl))
  rw [show Tryd.prog.cellsOf 45 = 2 from by kernel_rfl] at e0
  clear hA0 hval0
  obtain ⟨L, h⟩ := VI.c5 l0 ln0
  refine (VI.law_calls (hseq := VI.seqOK) (E := VI.E) (vs := #[v0]) (w := W) h (VI.noExt VI.E_ext) (VI.globs2 (tab0 hL) (tab1 hL)) (VI.args_of (vs := [v0]) ⟨e0, trivial⟩)).mono fun e W' ⟨he, hg⟩ => ?_
  subst he
  exact ⟨_, rfl, VI.post_of_old (pa := p0 ++ ([])) (pv := []) hW' (fun _ _ _ => (trodAll_cons_mk (shut_bool Tryd.underlying4 _) trodAll_mk0)) (fun sp hs => (trodAll_cons_mk (VI.stays laid (by kernel_rfl) (of_decide_eq_true (by kernel_rfl)) h0 hg (fun p hp => hW'.lt p (by simp [hp])) sp (fun p hp => hs p (by simp [hp]))) trodAll_mk0)) (fun _ _ => rfl) hg (by simp)⟩

theorem over : Rows.scriptverifyHiddenRow.holds Tryd.pinned (OpenSpec.ofChange Rows.scriptverifyHiddenSpec) :=
  OpenClaim.holds_of_wide 5 Tryd.f5 rfl rfl rfl rfl rfl rfl rfl ⟨rfl, rfl, rfl, rfl, rfl⟩ rfl rfl rfl rfl rfl (by kernel_rfl) Tryd.func5 (by kernel_rfl)
    (of_decide_eq_true (by kernel_rfl)) (by unfold Func.isWrapper; first | (rw [if_pos (by decide +kernel)]; kernel_rfl) | (rw [if_neg (by decide +kernel)]; exact ⟨rfl, rfl⟩))
    (fun os started H enc _ => lifted os started H enc)

theorem proved : Rows.ScriptverifyHiddenCardSaid :=
  Claim7.holds_tied_plain_at .later [] [.data, .data] true (true, "981c6cb183bb81abbdac906878550a4280b26a48f34e0a9542754cb4f1d15ee1") false over (fun _ h => by cases h) (by kernel_rfl) (fun _ h => by cases h) scriptverifyHidden_row_tie rfl ⟨rfl, rfl⟩ (by kernel_rfl) rfl
    (fun f fn hf hfn => by
      obtain rfl : f = 5 := Option.some.inj ((show Tryd.prog.funcNamed Rows.scriptverifyHiddenRow.func = some 5 by kernel_rfl).symm.trans hf) |>.symm
      obtain rfl : fn = Tryd.f5 := (Option.some.inj (Tryd.func5.symm.trans hfn)).symm
      exact ⟨by kernel_rfl, fun j t ht => by
        rw [Tryd.params5] at ht
        have hm : t ∈ [22] := by simpa using Array.mem_of_getElem? ht
        have hall : ([22].all fun u => !Tryd.prog.wantsStandIn u) = true := by kernel_rfl
        exact (show Tryd.prog.wantsStandIn t = false by simpa using List.all_eq_true.1 hall t hm)⟩)
    (by kernel_rfl)
end Go.Proofs.YtbacmnbjkhjopaaDoor.scriptverifyHidden
namespace Go.Proofs.YtbacmnbjkhjopaaDoor
theorem scriptverifyHidden_holds : Rows.ScriptverifyHiddenCardSaid := scriptverifyHidden.proved
#print axioms scriptverifyHidden_holds
end Go.Proofs.YtbacmnbjkhjopaaDoor
