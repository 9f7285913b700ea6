/- 'Rows.CsiparamMarkersSaid'. Its frame began as the shell that proof-skeleton printed for another law. -/
import Derived.Test.YtijkhfgkcndnpaaDoorRows
import Derived.WalkKit
import Derived.ProofKit
import Derived.OpenShut
import Derived.SizedLaws
import Derived.Test.YtijkhfgkcndnpaaDoorL9
import Derived.Test.YtijkhfgkcndnpaaDoorVC
import Derived.Test.YtijkhfgkcndnpaaDoorN4
import Derived.Test.YtijkhfgkcndnpaaDoorCards
import Derived.Test.YtijkhfgkcndnpaaDoorTie
import Derived.LaidLaws
import Derived.Lay
import Derived.SevenTiedAt
import Derived.MakeChecks
import Derived.Stop.Joined
import Derived.ChangeMaps5
namespace Go.Proofs.YtijkhfgkcndnpaaDoor.csiparamMarkers
open Go.ChangeShapes Go.WideShapes Go.ChangeAt Go.RowKit
set_option linter.unusedVariables false
set_option linter.unusedSimpArgs false

theorem own : ownKnob Tryd.prog.godebug = none := by kernel_rfl
theorem laid : laidOutB Tryd.prog = true := by kernel_rfl

theorem pow_tab : (Rows.laid_internal_strconv_uint64pow10 : DataW Unit) = Lib.tabData .u64 Lib.pow10Tab := by kernel_rfl
theorem tabs {W : World} (h : laidMetH Tryd.prog Rows.csiparamMarkersRow.laid W) : ∃ name, Tryd.prog.globalNamed name = some (Tryd.laysAI_ren.g 17) ∧ Lib.TabIs Tryd.prog W name .u64 Lib.pow10Tab := by
  rw [MakeChecks.laidMetH_plain _ _ _ (by kernel_rfl)] at h
  have h2 := (VI.laid_tail (VI.laid_tail h))
  rw [pow_tab] at h2
  exact ⟨_, Tryd.laysAI.m17, Lib.tabIs_of_head (t := 70) (e := 56) (n := 20) Tryd.laysAI.m17 (by kernel_rfl) Tryd.underlying70 Tryd.underlying56 (by kernel_rfl) (by kernel_rfl) h2⟩

set_option maxRecDepth 100000 in
theorem lifted (os : Os) (started : os.Started) (H : Type) (enc : TypeId × Value → H) :
    ReturnsInHanded {} Tryd.checked os 10 .any (fun w args => (Rows.csiparamMarkersSpec.pre enc Tryd.prog Tryd.f10 Rows.csiparamMarkersRow.domain false w args ∧ laidMetH Tryd.prog Rows.csiparamMarkersRow.laid w) ∧ sizedMet enc Tryd.prog Tryd.f10 (OpenSpec.ofChange Rows.csiparamMarkersSpec) false w args) (Rows.csiparamMarkersSpec.post enc Tryd.prog Tryd.f10 false true false false) := by
  refine returnsInHanded_of_change_and (C := Tryd.checked) (X := fun w _ => laidMetH Tryd.prog Rows.csiparamMarkersRow.laid w) (fun _ _ _ hh h => h.of_heap hh) own started (by kernel_rfl) Tryd.func10
    (ChangeSpec.witness_shaped (enc := enc) (C := Tryd.checked) (os := os) (X := fun w _ => laidMetH Tryd.prog Rows.csiparamMarkersRow.laid w) false (World.laidAll Tryd.prog os Rows.csiparamMarkersRow.laid) #[.string ⟨#[]⟩, .int .u8 0, .int .u8 0] 8 (World.laidAll_os _ _ _)
      (World.shaped_of_ZipB (by kernel_rfl) (by kernel_rfl)) (by kernel_rfl) (by kernel_rfl) (by kernel_rfl)
      (by rw [MakeChecks.laidMetH_plain _ _ _ (by kernel_rfl)]; exact laidMet_laidAll _ (by kernel_rfl) (by kernel_rfl))) ?_
  intro W base args ds gs before hval0 hW hcnd hsz hL _
  have hval : ∀ (j : Nat) t v, Tryd.f10.params[j]? = some t → args[j]? = some v → Value.okWide Tryd.prog W .any base t v := hval0
  have hW' := hW
  obtain ⟨p, q, hA0, hV, rfl, hfz, hnd⟩ := hW
  have hA : DataW.TrodAll enc Tryd.prog W 0 (fun _ => true) true Tryd.f10.params.toList args.toList ds p := hA0
  rw [Tryd.params10] at hA hval
  obtain ⟨v0, vs0, d0, ds0, p0, q0, hargs, rfl, rfl, h0, r0⟩ := trodAll_cons hA
  obtain ⟨v1, vs1, d1, ds1, p1, q1, hargs1, rfl, rfl, h1, r1⟩ := trodAll_cons r0
  obtain ⟨v2, vs2, d2, ds2, p2, q2, hargs2, rfl, rfl, h2, r2⟩ := trodAll_cons r1
  obtain ⟨rfl, rfl, rfl⟩ := trodAll_nil r2
  subst hargs2
  subst hargs1
  obtain rfl : args = #[v0, v1, v2] := by cases args; simp_all
  obtain ⟨rfl, rfl⟩ := trodVars_none hV
  obtain ⟨s0, e0, w0⟩ := VI.read_str (by kernel_rfl) (hval 0 9 v0 rfl rfl) h0
  have sz0 : s0.length ≤ 0x7ffffffff000 := by
    obtain ⟨z, rfl, rfl, rfl, _⟩ := Go.ChangeMaps.open_string Tryd.underlying9 (hval 0 9 v0 rfl rfl) h0
    have hz := VI.relA_str e0
    have := VI.weight_str (t := 9) 0 hsz (by rw [Tryd.params10]; rfl) rfl
    simp only [Value.string.injEq] at hz
    subst hz
    exact this
  obtain ⟨n1, e1, w1⟩ := VI.read_int (k := .u8) (by kernel_rfl) (hval 1 5 v1 rfl rfl) h1
  replace w1 := VI.rng_u8 w1
  obtain ⟨n2, e2, w2⟩ := VI.read_int (k := .u8) (by kernel_rfl) (hval 2 5 v2 rfl rfl) h2
  replace w2 := VI.rng_u8 w2
  clear hA0 hval0
  obtain ⟨nm, htn, htab⟩ := tabs hL
  obtain ⟨L, h⟩ := VI.c10 s0 n1 n2 sz0 w1 w2
  refine (VI.law_calls (E := VI.E) (vs := #[v0, v1, v2]) (w := W) h VI.extOK (VI.globs htn htab) (VI.args_of (vs := [v0, v1, v2]) ⟨e0, e1, e2, trivial⟩)).mono fun e W' ⟨he, hg⟩ => ?_
  subst he
  exact ⟨_, rfl, VI.post_of_old (pa := p0 ++ (p1 ++ (p2 ++ ([])))) (pv := []) hW' (fun _ _ _ => (trodAll_cons_mk (shut_bool Tryd.underlying4 _) trodAll_mk0)) (fun sp hs => (trodAll_cons_mk (VI.stays laid (by kernel_rfl) (of_decide_eq_true (by kernel_rfl)) h0 hg (fun p hp => hW'.lt p (by simp [hp])) sp (fun p hp => hs p (by simp [hp]))) (trodAll_cons_mk (VI.stays laid (by kernel_rfl) (of_decide_eq_true (by kernel_rfl)) h1 hg (fun p hp => hW'.lt p (by simp [hp])) sp (fun p hp => hs p (by simp [hp]))) (trodAll_cons_mk (VI.stays laid (by kernel_rfl) (of_decide_eq_true (by kernel_rfl)) h2 hg (fun p hp => hW'.lt p (by simp [hp])) sp (fun p hp => hs p (by simp [hp]))) trodAll_mk0)))) (fun _ _ => rfl) hg (by simp)⟩

theorem over : Rows.csiparamMarkersRow.holds Tryd.pinned (OpenSpec.ofChange Rows.csiparamMarkersSpec) :=
  OpenClaim.holds_of_wide 10 Tryd.f10 rfl rfl rfl rfl rfl rfl rfl ⟨rfl, rfl, rfl, rfl, rfl⟩ rfl rfl rfl rfl rfl (by kernel_rfl) Tryd.func10 (by kernel_rfl)
    (of_decide_eq_true (by kernel_rfl)) (by unfold Func.isWrapper; first | (rw [if_pos (by decide +kernel)]; kernel_rfl) | (rw [if_neg (by decide +kernel)]; exact ⟨rfl, rfl⟩))
    (fun os started H enc _ => lifted os started H enc)

theorem proved : Rows.CsiparamMarkersCardSaid :=
  Claim7.holds_tied_plain_at .later [] [.data, .data, .data, .data, .pinned] true (true, "5696138b0fc6908ef3a8331e72833a907de5093a78c00ad67fed80ddb4a9412a") false over (fun _ h => by cases h) (by kernel_rfl) (fun _ h => by cases h) csiparamMarkers_row_tie rfl ⟨rfl, rfl⟩ (by kernel_rfl) rfl
    (fun f fn hf hfn => by
      obtain rfl : f = 10 := Option.some.inj ((show Tryd.prog.funcNamed Rows.csiparamMarkersRow.func = some 10 by kernel_rfl).symm.trans hf) |>.symm
      obtain rfl : fn = Tryd.f10 := (Option.some.inj (Tryd.func10.symm.trans hfn)).symm
      exact ⟨by kernel_rfl, fun j t ht => by
        rw [Tryd.params10] at ht
        have hm : t ∈ [9, 5, 5] := by simpa using Array.mem_of_getElem? ht
        have hall : ([9, 5, 5].all fun u => !Tryd.prog.wantsStandIn u) = true := by kernel_rfl
        exact (show Tryd.prog.wantsStandIn t = false by simpa using List.all_eq_true.1 hall t hm)⟩)
    (by kernel_rfl)
end Go.Proofs.YtijkhfgkcndnpaaDoor.csiparamMarkers
namespace Go.Proofs.YtijkhfgkcndnpaaDoor
theorem csiparamMarkers_holds : Rows.CsiparamMarkersCardSaid := csiparamMarkers.proved
#print axioms csiparamMarkers_holds
end Go.Proofs.YtijkhfgkcndnpaaDoor
