/- 'Rows.TopVisibleSaid'. Its frame began as the shell that proof-skeleton printed for another law. -/
import Derived.Test.YtediniocfjapiaaGreatDoorZTVI8
import Derived.Test.YtediniocfjapiaaGreatDoorRows
import Derived.WalkKit
import Derived.ProofKit
import Derived.OpenShut
import Derived.SizedLaws
import Derived.Test.YtediniocfjapiaaGreatDoorCards
import Derived.Test.YtediniocfjapiaaGreatDoorTie
import Derived.LaidLaws
import Derived.Lay
import Derived.SevenTiedAt
import Derived.MakeChecks
import Derived.Stop.Joined
import Derived.ChangeMaps5
namespace Go.Proofs.YtediniocfjapiaaGreatDoor.topVisible
open Go.ChangeShapes Go.WideShapes Go.ChangeAt Go.RowKit
set_option linter.unusedVariables false
set_option linter.unusedSimpArgs false

theorem own : ownKnob Tryz.prog.godebug = none := by kernel_rfl
theorem laid : laidOutB Tryz.prog = true := by kernel_rfl

set_option maxRecDepth 100000 in
theorem lifted (os : Os) (started : os.Started) (H : Type) (enc : TypeId × Value → H) :
    ReturnsInHanded {} Tryz.checked os 3 .any (fun w args => (Rows.topVisibleSpec.pre enc Tryz.prog Tryz.f3 Rows.topVisibleRow.domain false w args ∧ laidMetH Tryz.prog Rows.topVisibleRow.laid w) ∧ sizedMet enc Tryz.prog Tryz.f3 (OpenSpec.ofChange Rows.topVisibleSpec) false w args) (Rows.topVisibleSpec.post enc Tryz.prog Tryz.f3 false true false false) := by
  refine returnsInHanded_of_change_and (C := Tryz.checked) (X := fun w _ => laidMetH Tryz.prog Rows.topVisibleRow.laid w) (fun _ _ _ hh h => h.of_heap hh) own started (by kernel_rfl) Tryz.func3
    (ChangeSpec.witness_shaped (enc := enc) (C := Tryz.checked) (os := os) (X := fun w _ => laidMetH Tryz.prog Rows.topVisibleRow.laid w) false (World.laidAll Tryz.prog os Rows.topVisibleRow.laid) #[.int .u8 0, .int .u8 0, .string ⟨#[]⟩] 8 (World.laidAll_os _ _ _)
      (World.shaped_of_ZipB (by kernel_rfl) (by kernel_rfl)) (by kernel_rfl) (by kernel_rfl) (by kernel_rfl)
      (by rw [MakeChecks.laidMetH_plain _ _ _ (by kernel_rfl)]; exact laidMet_laidAll _ (by kernel_rfl) (by kernel_rfl))) ?_
  intro W base args ds gs before hval0 hW hcnd hsz hL _
  have hval : ∀ (j : Nat) t v, Tryz.f3.params[j]? = some t → args[j]? = some v → Value.okWide Tryz.prog W .any base t v := hval0
  have hW' := hW
  obtain ⟨p, q, hA0, hV, rfl, hfz, hnd⟩ := hW
  have hA : DataW.TrodAll enc Tryz.prog W 0 (fun _ => true) true Tryz.f3.params.toList args.toList ds p := hA0
  rw [Tryz.params3] at hA hval
  obtain ⟨v0, vs0, d0, ds0, p0, q0, hargs, rfl, rfl, h0, r0⟩ := trodAll_cons hA
  obtain ⟨v1, vs1, d1, ds1, p1, q1, hargs1, rfl, rfl, h1, r1⟩ := trodAll_cons r0
  obtain ⟨v2, vs2, d2, ds2, p2, q2, hargs2, rfl, rfl, h2, r2⟩ := trodAll_cons r1
  obtain ⟨rfl, rfl, rfl⟩ := trodAll_nil r2
  subst hargs2
  subst hargs1
  obtain rfl : args = #[v0, v1, v2] := by cases args; simp_all
  obtain ⟨rfl, rfl⟩ := trodVars_none hV
  obtain ⟨n0, e0, w0⟩ := VI.read_int (k := .u8) (by kernel_rfl) (hval 0 5 v0 rfl rfl) h0
  replace w0 := VI.rng_u8 w0
  obtain ⟨n1, e1, w1⟩ := VI.read_int (k := .u8) (by kernel_rfl) (hval 1 5 v1 rfl rfl) h1
  replace w1 := VI.rng_u8 w1
  obtain ⟨s2, e2, w2⟩ := VI.read_str (by kernel_rfl) (hval 2 9 v2 rfl rfl) h2
  have sz2 : s2.length ≤ 0x7ffffffff000 := by
    obtain ⟨z, rfl, rfl, rfl, _⟩ := Go.ChangeMaps.open_string Tryz.underlying9 (hval 2 9 v2 rfl rfl) h2
    have hz := VI.relA_str e2
    have := VI.weight_str (t := 9) 2 hsz (by rw [Tryz.params3]; rfl) rfl
    simp only [Value.string.injEq] at hz
    subst hz
    exact this
  clear hA0 hval0
  obtain ⟨L, h⟩ := VI.cv3 n0 n1 w0 w1 s2 sz2
  refine (VI.law_calls (hseq := VI.seqOK) (hmk := VI.mkOK) (E := VI.E) (vs := #[v0, v1, v2]) (w := W) h VI.extOK (VI.noGlob VI.E_glob) (VI.args_of (vs := [v0, v1, v2]) ⟨e0, e1, e2, trivial⟩)).mono fun e W' ⟨he, hg⟩ => ?_
  subst he
  exact ⟨_, rfl, VI.post_of_old (pa := p0 ++ (p1 ++ (p2 ++ ([])))) (pv := []) hW' (fun _ _ _ => (trodAll_cons_mk (shut_bool Tryz.underlying4 _) trodAll_mk0)) (fun sp hs => (trodAll_cons_mk (VI.stays laid (by kernel_rfl) (of_decide_eq_true (by kernel_rfl)) h0 hg (fun p hp => hW'.lt p (by simp [hp])) sp (fun p hp => hs p (by simp [hp]))) (trodAll_cons_mk (VI.stays laid (by kernel_rfl) (of_decide_eq_true (by kernel_rfl)) h1 hg (fun p hp => hW'.lt p (by simp [hp])) sp (fun p hp => hs p (by simp [hp]))) (trodAll_cons_mk (VI.stays laid (by kernel_rfl) (of_decide_eq_true (by kernel_rfl)) h2 hg (fun p hp => hW'.lt p (by simp [hp])) sp (fun p hp => hs p (by simp [hp]))) trodAll_mk0)))) (fun _ _ => rfl) hg (by simp)⟩

theorem over : Rows.topVisibleRow.holds Tryz.pinned (OpenSpec.ofChange Rows.topVisibleSpec) :=
  OpenClaim.holds_of_wide 3 Tryz.f3 rfl rfl rfl rfl rfl rfl rfl ⟨rfl, rfl, rfl, rfl, rfl⟩ rfl rfl rfl rfl rfl (by kernel_rfl) Tryz.func3 (by kernel_rfl)
    (of_decide_eq_true (by kernel_rfl)) (by unfold Func.isWrapper; first | (rw [if_pos (by decide +kernel)]; kernel_rfl) | (rw [if_neg (by decide +kernel)]; exact ⟨rfl, rfl⟩))
    (fun os started H enc _ => lifted os started H enc)

theorem proved : Rows.TopVisibleCardSaid :=
  Claim7.holds_tied_plain_at .later [] [.data, .data, .data, .data, .data, .pinned] true (true, "43de3f2fc34136cb2a114cd8096bcdf1570f9c243767ebc0a4852ceaf9deb4a9") false over (fun _ h => by cases h) (by kernel_rfl) (fun _ h => by cases h) topVisible_row_tie rfl ⟨rfl, rfl⟩ (by kernel_rfl) rfl
    (fun f fn hf hfn => by
      obtain rfl : f = 3 := Option.some.inj ((show Tryz.prog.funcNamed Rows.topVisibleRow.func = some 3 by kernel_rfl).symm.trans hf) |>.symm
      obtain rfl : fn = Tryz.f3 := (Option.some.inj (Tryz.func3.symm.trans hfn)).symm
      exact ⟨by kernel_rfl, fun j t ht => by
        rw [Tryz.params3] at ht
        have hm : t ∈ [5, 5, 9] := by simpa using Array.mem_of_getElem? ht
        have hall : ([5, 5, 9].all fun u => !Tryz.prog.wantsStandIn u) = true := by kernel_rfl
        exact (show Tryz.prog.wantsStandIn t = false by simpa using List.all_eq_true.1 hall t hm)⟩)
    (by kernel_rfl)
end Go.Proofs.YtediniocfjapiaaGreatDoor.topVisible
namespace Go.Proofs.YtediniocfjapiaaGreatDoor
theorem topVisible_holds : Rows.TopVisibleCardSaid := topVisible.proved
#print axioms topVisible_holds
end Go.Proofs.YtediniocfjapiaaGreatDoor
