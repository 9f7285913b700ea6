/- 'Rows.ScriptvmNumbersSaid'. Its frame began as the shell that proof-skeleton printed for another law. -/
import Derived.Test.YtgaeknackpfdcaaDoorZNU5
import Derived.Test.YtgaeknackpfdcaaDoorRows
import Derived.WalkKit
import Derived.ProofKit
import Derived.OpenShut
import Derived.SizedLaws
import Derived.Test.YtgaeknackpfdcaaDoorCards
import Derived.Test.YtgaeknackpfdcaaDoorTie
import Derived.LaidLaws
import Derived.Lay
import Derived.SevenTiedAt
import Derived.MakeChecks
import Derived.Stop.Joined
import Derived.ChangeMaps5
namespace Go.Proofs.YtgaeknackpfdcaaDoor.scriptvmNumbers
open Go.ChangeShapes Go.WideShapes Go.ChangeAt Go.RowKit
set_option linter.unusedVariables false
set_option linter.unusedSimpArgs false

theorem own : ownKnob Tryd.prog.godebug = none := by kernel_rfl
theorem laid : laidOutB Tryd.prog = true := by kernel_rfl

theorem tabd0 : (Rows.laid_narrator_scriptverify_pops : DataW Unit) = Lib.tabData .i64 VI.popsL := by kernel_rfl
theorem tab0 {W : World} (h : laidMetH Tryd.prog Rows.scriptvmNumbersRow.laid W) : Lib.TabIs Tryd.prog W "narrator/scriptverify.pops" .i64 VI.popsL := by
  rw [MakeChecks.laidMetH_plain _ _ _ (by kernel_rfl)] at h
  have h2 : laidMet Tryd.prog (("narrator/scriptverify.pops", (Rows.laid_narrator_scriptverify_pops : DataW Unit)) :: _) W := h
  rw [tabd0] at h2
  exact Lib.tabIs_of_head (t := 90) (e := 3) (n := 21) (g := 0) (by kernel_rfl) (by kernel_rfl) Tryd.underlying90 Tryd.underlying3 (by kernel_rfl) (by kernel_rfl) h2

theorem tabd1 : (Rows.laid_narrator_scriptverify_pushes : DataW Unit) = Lib.tabData .i64 VI.pushesL := by kernel_rfl
theorem tab1 {W : World} (h : laidMetH Tryd.prog Rows.scriptvmNumbersRow.laid W) : Lib.TabIs Tryd.prog W "narrator/scriptverify.pushes" .i64 VI.pushesL := by
  rw [MakeChecks.laidMetH_plain _ _ _ (by kernel_rfl)] at h
  have h2 : laidMet Tryd.prog (("narrator/scriptverify.pushes", (Rows.laid_narrator_scriptverify_pushes : DataW Unit)) :: _) W := (VI.laid_tail h)
  rw [tabd1] at h2
  exact Lib.tabIs_of_head (t := 90) (e := 3) (n := 21) (g := 1) (by kernel_rfl) (by kernel_rfl) Tryd.underlying90 Tryd.underlying3 (by kernel_rfl) (by kernel_rfl) h2

set_option maxRecDepth 100000 in
theorem lifted (os : Os) (started : os.Started) (H : Type) (enc : TypeId × Value → H) :
    ReturnsInHanded {} Tryd.checked os 7 .any (fun w args => (Rows.scriptvmNumbersSpec.pre enc Tryd.prog Tryd.f7 Rows.scriptvmNumbersRow.domain false w args ∧ laidMetH Tryd.prog Rows.scriptvmNumbersRow.laid w) ∧ sizedMet enc Tryd.prog Tryd.f7 (OpenSpec.ofChange Rows.scriptvmNumbersSpec) false w args) (Rows.scriptvmNumbersSpec.post enc Tryd.prog Tryd.f7 false true false false) := by
  refine returnsInHanded_of_change_and (C := Tryd.checked) (X := fun w _ => laidMetH Tryd.prog Rows.scriptvmNumbersRow.laid w) (fun _ _ _ hh h => h.of_heap hh) own started (by kernel_rfl) Tryd.func7
    (ChangeSpec.witness_shaped (enc := enc) (C := Tryd.checked) (os := os) (X := fun w _ => laidMetH Tryd.prog Rows.scriptvmNumbersRow.laid w) false (World.laidAll Tryd.prog os Rows.scriptvmNumbersRow.laid) #[.int .i32 0, .int .i32 0, .int .u16 0] 8 (World.laidAll_os _ _ _)
      (World.shaped_of_ZipB (by kernel_rfl) (by kernel_rfl)) (by kernel_rfl) (by kernel_rfl) (by kernel_rfl)
      (by rw [MakeChecks.laidMetH_plain _ _ _ (by kernel_rfl)]; exact laidMet_laidAll _ (by kernel_rfl) (by kernel_rfl))) ?_
  intro W base args ds gs before hval0 hW hcnd hsz hL _
  have hval : ∀ (j : Nat) t v, Tryd.f7.params[j]? = some t → args[j]? = some v → Value.okWide Tryd.prog W .any base t v := hval0
  have hW' := hW
  obtain ⟨p, q, hA0, hV, rfl, hfz, hnd⟩ := hW
  have hA : DataW.TrodAll enc Tryd.prog W 0 (fun _ => true) true Tryd.f7.params.toList args.toList ds p := hA0
  rw [Tryd.params7] at hA hval
  obtain ⟨v0, vs0, d0, ds0, p0, q0, hargs, rfl, rfl, h0, r0⟩ := trodAll_cons hA
  obtain ⟨v1, vs1, d1, ds1, p1, q1, hargs1, rfl, rfl, h1, r1⟩ := trodAll_cons r0
  obtain ⟨v2, vs2, d2, ds2, p2, q2, hargs2, rfl, rfl, h2, r2⟩ := trodAll_cons r1
  obtain ⟨rfl, rfl, rfl⟩ := trodAll_nil r2
  subst hargs2
  subst hargs1
  obtain rfl : args = #[v0, v1, v2] := by cases args; simp_all
  obtain ⟨rfl, rfl⟩ := trodVars_none hV
  obtain ⟨n0, e0, w0⟩ := VI.read_int (k := .i32) (by kernel_rfl) (hval 0 21 v0 rfl rfl) h0
  replace w0 := VI.rng_i32 w0
  obtain ⟨n1, e1, w1⟩ := VI.read_int (k := .i32) (by kernel_rfl) (hval 1 21 v1 rfl rfl) h1
  replace w1 := VI.rng_i32 w1
  obtain ⟨n2, e2, w2⟩ := VI.read_int (k := .u16) (by kernel_rfl) (hval 2 35 v2 rfl rfl) h2
  replace w2 := VI.rng_u16 w2
  clear hA0 hval0
  obtain ⟨L, h⟩ := VI.c7 n0 w0 n1 w1 n2 w2
  refine (VI.law_calls (hseq := VI.seqOK) (E := VI.E) (vs := #[v0, v1, v2]) (w := W) h VI.extOK (VI.globs2 (tab0 hL) (tab1 hL)) (VI.args_of (vs := [v0, v1, v2]) ⟨e0, e1, e2, trivial⟩)).mono fun e W' ⟨he, hg⟩ => ?_
  subst he
  exact ⟨_, rfl, VI.post_of_old (pa := p0 ++ (p1 ++ (p2 ++ ([])))) (pv := []) hW' (fun _ _ _ => (trodAll_cons_mk (shut_bool Tryd.underlying4 _) trodAll_mk0)) (fun sp hs => (trodAll_cons_mk (VI.stays laid (by kernel_rfl) (of_decide_eq_true (by kernel_rfl)) h0 hg (fun p hp => hW'.lt p (by simp [hp])) sp (fun p hp => hs p (by simp [hp]))) (trodAll_cons_mk (VI.stays laid (by kernel_rfl) (of_decide_eq_true (by kernel_rfl)) h1 hg (fun p hp => hW'.lt p (by simp [hp])) sp (fun p hp => hs p (by simp [hp]))) (trodAll_cons_mk (VI.stays laid (by kernel_rfl) (of_decide_eq_true (by kernel_rfl)) h2 hg (fun p hp => hW'.lt p (by simp [hp])) sp (fun p hp => hs p (by simp [hp]))) trodAll_mk0)))) (fun _ _ => rfl) hg (by simp)⟩

theorem over : Rows.scriptvmNumbersRow.holds Tryd.pinned (OpenSpec.ofChange Rows.scriptvmNumbersSpec) :=
  OpenClaim.holds_of_wide 7 Tryd.f7 rfl rfl rfl rfl rfl rfl rfl ⟨rfl, rfl, rfl, rfl, rfl⟩ rfl rfl rfl rfl rfl (by kernel_rfl) Tryd.func7 (by kernel_rfl)
    (of_decide_eq_true (by kernel_rfl)) (by unfold Func.isWrapper; first | (rw [if_pos (by decide +kernel)]; kernel_rfl) | (rw [if_neg (by decide +kernel)]; exact ⟨rfl, rfl⟩))
    (fun os started H enc _ => lifted os started H enc)

theorem proved : Rows.ScriptvmNumbersCardSaid :=
  Claim7.holds_tied_plain_at .later [] [.data, .data] true (true, "9e6e89fa7a943d06e91756bc09fb3758c4f55f8eaf771093d3a66bebea25ce20") false over (fun _ h => by cases h) (by kernel_rfl) (fun _ h => by cases h) scriptvmNumbers_row_tie rfl ⟨rfl, rfl⟩ (by kernel_rfl) rfl
    (fun f fn hf hfn => by
      obtain rfl : f = 7 := Option.some.inj ((show Tryd.prog.funcNamed Rows.scriptvmNumbersRow.func = some 7 by kernel_rfl).symm.trans hf) |>.symm
      obtain rfl : fn = Tryd.f7 := (Option.some.inj (Tryd.func7.symm.trans hfn)).symm
      exact ⟨by kernel_rfl, fun j t ht => by
        rw [Tryd.params7] at ht
        have hm : t ∈ [21, 21, 35] := by simpa using Array.mem_of_getElem? ht
        have hall : ([21, 21, 35].all fun u => !Tryd.prog.wantsStandIn u) = true := by kernel_rfl
        exact (show Tryd.prog.wantsStandIn t = false by simpa using List.all_eq_true.1 hall t hm)⟩)
    (by kernel_rfl)
end Go.Proofs.YtgaeknackpfdcaaDoor.scriptvmNumbers
namespace Go.Proofs.YtgaeknackpfdcaaDoor
theorem scriptvmNumbers_holds : Rows.ScriptvmNumbersCardSaid := scriptvmNumbers.proved
#print axioms scriptvmNumbers_holds
end Go.Proofs.YtgaeknackpfdcaaDoor
