/- 'Rows.VtparseBrokenSaid'. Its frame began as the shell that proof-skeleton printed for another law. -/
import Derived.Test.YtcifhkdbaienjaaDoorZZB7
import Derived.Test.YtcifhkdbaienjaaDoorRows
import Derived.WalkKit
import Derived.ProofKit
import Derived.OpenShut
import Derived.SizedLaws
import Derived.Test.YtcifhkdbaienjaaDoorCards
import Derived.Test.YtcifhkdbaienjaaDoorTie
import Derived.LaidLaws
import Derived.Lay
import Derived.SevenTiedAt
import Derived.MakeChecks
import Derived.Stop.Joined
import Derived.ChangeMaps5
namespace Go.Proofs.YtcifhkdbaienjaaDoor.vtparseBroken
open Go.ChangeShapes Go.WideShapes Go.ChangeAt Go.RowKit
set_option linter.unusedVariables false
set_option linter.unusedSimpArgs false

theorem own : ownKnob Tryd.prog.godebug = none := by kernel_rfl
theorem laid : laidOutB Tryd.prog = true := by kernel_rfl

theorem pow_tab : (Rows.laid_internal_strconv_uint64pow10 : DataW Unit) = Lib.tabData .u64 Lib.pow10Tab := by kernel_rfl
theorem tabs {W : World} (h : laidMetH Tryd.prog Rows.vtparseBrokenRow.laid W) : ∃ name, Tryd.prog.globalNamed name = some (Tryd.laysAI_ren.g 17) ∧ Lib.TabIs Tryd.prog W name .u64 Lib.pow10Tab := by
  rw [MakeChecks.laidMetH_plain _ _ _ (by kernel_rfl)] at h
  have h2 := (VI.laid_tail (VI.laid_tail h))
  rw [pow_tab] at h2
  exact ⟨_, Tryd.laysAI.m17, Lib.tabIs_of_head (t := 91) (e := 81) (n := 20) Tryd.laysAI.m17 (by kernel_rfl) Tryd.underlying91 Tryd.underlying81 (by kernel_rfl) (by kernel_rfl) h2⟩

set_option maxRecDepth 100000 in
theorem lifted (os : Os) (started : os.Started) (H : Type) (enc : TypeId × Value → H) :
    ReturnsInHanded {} Tryd.checked os 6 .any (fun w args => (Rows.vtparseBrokenSpec.pre enc Tryd.prog Tryd.f6 Rows.vtparseBrokenRow.domain false w args ∧ laidMetH Tryd.prog Rows.vtparseBrokenRow.laid w) ∧ sizedMet enc Tryd.prog Tryd.f6 (OpenSpec.ofChange Rows.vtparseBrokenSpec) false w args) (Rows.vtparseBrokenSpec.post enc Tryd.prog Tryd.f6 false true false false) := by
  refine returnsInHanded_of_change_and (C := Tryd.checked) (X := fun w _ => laidMetH Tryd.prog Rows.vtparseBrokenRow.laid w) (fun _ _ _ hh h => h.of_heap hh) own started (by kernel_rfl) Tryd.func6
    (ChangeSpec.witness_shaped (enc := enc) (C := Tryd.checked) (os := os) (X := fun w _ => laidMetH Tryd.prog Rows.vtparseBrokenRow.laid w) false (World.laidAll Tryd.prog os Rows.vtparseBrokenRow.laid) #[.agg #[.int .i64 0, .int .i32 0, .int .u8 0, .int .u8 0, .string ⟨#[]⟩, .slice none 0 0, .string ⟨#[]⟩], .agg #[.int .i64 0, .int .i32 0, .int .u8 0, .int .u8 0, .string ⟨#[]⟩, .slice none 0 0, .string ⟨#[]⟩], .int .u8 0] 8 (World.laidAll_os _ _ _)
      (World.shaped_of_ZipB (by kernel_rfl) (by kernel_rfl)) (by kernel_rfl) (by kernel_rfl) (by kernel_rfl)
      (by rw [MakeChecks.laidMetH_plain _ _ _ (by kernel_rfl)]; exact laidMet_laidAll _ (by kernel_rfl) (by kernel_rfl))) ?_
  intro W base args ds gs before hval0 hW hcnd hsz hL _
  have hval : ∀ (j : Nat) t v, Tryd.f6.params[j]? = some t → args[j]? = some v → Value.okWide Tryd.prog W .any base t v := hval0
  have hW' := hW
  obtain ⟨p, q, hA0, hV, rfl, hfz, hnd⟩ := hW
  have hA : DataW.TrodAll enc Tryd.prog W 0 (fun _ => true) true Tryd.f6.params.toList args.toList ds p := hA0
  rw [Tryd.params6] at hA hval
  obtain ⟨v0, vs0, d0, ds0, p0, q0, hargs, rfl, rfl, h0, r0⟩ := trodAll_cons hA
  obtain ⟨v1, vs1, d1, ds1, p1, q1, hargs1, rfl, rfl, h1, r1⟩ := trodAll_cons r0
  obtain ⟨v2, vs2, d2, ds2, p2, q2, hargs2, rfl, rfl, h2, r2⟩ := trodAll_cons r1
  obtain ⟨rfl, rfl, rfl⟩ := trodAll_nil r2
  subst hargs2
  subst hargs1
  obtain rfl : args = #[v0, v1, v2] := by cases args; simp_all
  obtain ⟨rfl, rfl⟩ := trodVars_none hV
  obtain ⟨cs0, e0, q0⟩ := VI.read_agg laid (D := 3) (cs := [.int .i64, .int .i32, .int .u8, .int .u8, .str, .sl 3, .str]) (of_decide_eq_true (by kernel_rfl)) (by kernel_rfl) (by kernel_rfl) (hval 0 31 v0 rfl rfl) h0
  obtain ⟨c0_0, _, rfl, w102, h101⟩ := q0.int
  obtain ⟨c0_1, _, rfl, w104, h103⟩ := h101.int
  obtain ⟨c0_2, _, rfl, w106, h105⟩ := h103.int
  obtain ⟨c0_3, _, rfl, w108, h107⟩ := h105.int
  obtain ⟨c0_4, _, rfl, w110, h109⟩ := h107.str
  obtain ⟨r114, _, rfl, w112, q113, h111⟩ := h109.sl (D := 1) (cs' := [.int .i64]) (by kernel_rfl)
  obtain ⟨c0_5, rfl, m115⟩ := VI.rows_map (fun a : Int => [.v (.int .i64 a)]) (fun a : Int => (-9223372036854775808 ≤ a ∧ a ≤ 9223372036854775807)) (fun r hr => by
      have h116 := q113 r hr
      obtain ⟨x117, _, rfl, w119, h118⟩ := h116.int
      obtain rfl := h118.nil
      exact ⟨x117, rfl, VI.rng_i64 w119⟩)
  obtain ⟨c0_6, _, rfl, w121, h120⟩ := h111.str
  obtain rfl := h120.nil
  have wc0_0 := VI.rng_i64 w102
  have wc0_1 := VI.rng_i32 w104
  have wc0_2 := VI.rng_u8 w106
  have wc0_3 := VI.rng_u8 w108
  have wc0_4 := w110
  have wc0_5 := (And.intro (show c0_5.length ≤ maxLen by simpa using w112) m115)
  have wc0_6 := w121
  obtain ⟨cs1, e1, q1⟩ := VI.read_agg laid (D := 3) (cs := [.int .i64, .int .i32, .int .u8, .int .u8, .str, .sl 3, .str]) (of_decide_eq_true (by kernel_rfl)) (by kernel_rfl) (by kernel_rfl) (hval 1 31 v1 rfl rfl) h1
  obtain ⟨c1_0, _, rfl, w123, h122⟩ := q1.int
  obtain ⟨c1_1, _, rfl, w125, h124⟩ := h122.int
  obtain ⟨c1_2, _, rfl, w127, h126⟩ := h124.int
  obtain ⟨c1_3, _, rfl, w129, h128⟩ := h126.int
  obtain ⟨c1_4, _, rfl, w131, h130⟩ := h128.str
  obtain ⟨r135, _, rfl, w133, q134, h132⟩ := h130.sl (D := 1) (cs' := [.int .i64]) (by kernel_rfl)
  obtain ⟨c1_5, rfl, m136⟩ := VI.rows_map (fun a : Int => [.v (.int .i64 a)]) (fun a : Int => (-9223372036854775808 ≤ a ∧ a ≤ 9223372036854775807)) (fun r hr => by
      have h137 := q134 r hr
      obtain ⟨x138, _, rfl, w140, h139⟩ := h137.int
      obtain rfl := h139.nil
      exact ⟨x138, rfl, VI.rng_i64 w140⟩)
  obtain ⟨c1_6, _, rfl, w142, h141⟩ := h132.str
  obtain rfl := h141.nil
  have wc1_0 := VI.rng_i64 w123
  have wc1_1 := VI.rng_i32 w125
  have wc1_2 := VI.rng_u8 w127
  have wc1_3 := VI.rng_u8 w129
  have wc1_4 := w131
  have wc1_5 := (And.intro (show c1_5.length ≤ maxLen by simpa using w133) m136)
  have wc1_6 := w142
  obtain ⟨n2, e2, w2⟩ := VI.read_int (k := .u8) (by kernel_rfl) (hval 2 5 v2 rfl rfl) h2
  replace w2 := VI.rng_u8 w2
  clear hA0 hval0
  obtain ⟨nm, htn, htab⟩ := tabs hL
  obtain ⟨L, h⟩ := VI.c6 c0_0 c0_1 c0_2 c0_3 c0_4 c0_5 c0_6 c1_0 c1_1 c1_2 c1_3 c1_4 c1_5 c1_6 n2 wc0_1 wc0_2 wc0_3 wc0_4 wc0_5.1 wc1_1 wc1_2 wc1_3 wc1_4 wc1_5.1 w2
  refine (VI.law_calls (hseq := VI.noSeq fun _ => rfl) (E := VI.E) (vs := #[v0, v1, v2]) (w := W) h VI.extOK (VI.globs htn htab) (VI.args_of (vs := [v0, v1, v2]) ⟨e0, e1, e2, trivial⟩)).mono fun e W' ⟨he, hg⟩ => ?_
  subst he
  exact ⟨_, rfl, VI.post_of_old (pa := p0 ++ (p1 ++ (p2 ++ ([])))) (pv := []) hW' (fun _ _ _ => (trodAll_cons_mk (shut_bool Tryd.underlying4 _) trodAll_mk0)) (fun sp hs => (trodAll_cons_mk (VI.stays laid (by kernel_rfl) (of_decide_eq_true (by kernel_rfl)) h0 hg (fun p hp => hW'.lt p (by simp [hp])) sp (fun p hp => hs p (by simp [hp]))) (trodAll_cons_mk (VI.stays laid (by kernel_rfl) (of_decide_eq_true (by kernel_rfl)) h1 hg (fun p hp => hW'.lt p (by simp [hp])) sp (fun p hp => hs p (by simp [hp]))) (trodAll_cons_mk (VI.stays laid (by kernel_rfl) (of_decide_eq_true (by kernel_rfl)) h2 hg (fun p hp => hW'.lt p (by simp [hp])) sp (fun p hp => hs p (by simp [hp]))) trodAll_mk0)))) (fun _ _ => rfl) hg (by simp)⟩

theorem over : Rows.vtparseBrokenRow.holds Tryd.pinned (OpenSpec.ofChange Rows.vtparseBrokenSpec) :=
  OpenClaim.holds_of_wide 6 Tryd.f6 rfl rfl rfl rfl rfl rfl rfl ⟨rfl, rfl, rfl, rfl, rfl⟩ rfl rfl rfl rfl rfl (by kernel_rfl) Tryd.func6 (by kernel_rfl)
    (of_decide_eq_true (by kernel_rfl)) (by unfold Func.isWrapper; first | (rw [if_pos (by decide +kernel)]; kernel_rfl) | (rw [if_neg (by decide +kernel)]; exact ⟨rfl, rfl⟩))
    (fun os started H enc _ => lifted os started H enc)

theorem proved : Rows.VtparseBrokenCardSaid :=
  Claim7.holds_tied_plain_at .later [] [.data, .data, .data] true (true, "00a9a6eb9d0df0f4aeeddcd98ce6f991dfaf49862bc29ab721b38c105abeccbf") false over (fun _ h => by cases h) (by kernel_rfl) (fun _ h => by cases h) vtparseBroken_row_tie rfl ⟨rfl, rfl⟩ (by kernel_rfl) rfl
    (fun f fn hf hfn => by
      obtain rfl : f = 6 := Option.some.inj ((show Tryd.prog.funcNamed Rows.vtparseBrokenRow.func = some 6 by kernel_rfl).symm.trans hf) |>.symm
      obtain rfl : fn = Tryd.f6 := (Option.some.inj (Tryd.func6.symm.trans hfn)).symm
      exact ⟨by kernel_rfl, fun j t ht => by
        rw [Tryd.params6] at ht
        have hm : t ∈ [31, 31, 5] := by simpa using Array.mem_of_getElem? ht
        have hall : ([31, 31, 5].all fun u => !Tryd.prog.wantsStandIn u) = true := by kernel_rfl
        exact (show Tryd.prog.wantsStandIn t = false by simpa using List.all_eq_true.1 hall t hm)⟩)
    (by kernel_rfl)
end Go.Proofs.YtcifhkdbaienjaaDoor.vtparseBroken
namespace Go.Proofs.YtcifhkdbaienjaaDoor
theorem vtparseBroken_holds : Rows.VtparseBrokenCardSaid := vtparseBroken.proved
#print axioms vtparseBroken_holds
end Go.Proofs.YtcifhkdbaienjaaDoor
