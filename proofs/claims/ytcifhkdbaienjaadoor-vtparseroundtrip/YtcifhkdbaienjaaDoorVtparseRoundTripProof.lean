/- 'Rows.VtparseRoundTripSaid'. Its frame began as the shell that proof-skeleton printed for another law. -/
import Derived.Test.YtcifhkdbaienjaaDoorZZR7
import Derived.Test.YtcifhkdbaienjaaDoorRows
import Derived.WalkKit
import Derived.ProofKit
import Derived.OpenShut
import Derived.SizedLaws
import Derived.Test.YtcifhkdbaienjaaDoorCards
import Derived.Test.YtcifhkdbaienjaaDoorTie
import Derived.LaidLaws
import Derived.Lay
import Derived.SevenTiedAt
import Derived.MakeChecks
import Derived.Stop.Joined
import Derived.ChangeMaps5
namespace Go.Proofs.YtcifhkdbaienjaaDoor.vtparseRoundTrip
open Go.ChangeShapes Go.WideShapes Go.ChangeAt Go.RowKit
set_option linter.unusedVariables false
set_option linter.unusedSimpArgs false

theorem own : ownKnob Tryd.prog.godebug = none := by kernel_rfl
theorem laid : laidOutB Tryd.prog = true := by kernel_rfl

theorem pow_tab : (Rows.laid_internal_strconv_uint64pow10 : DataW Unit) = Lib.tabData .u64 Lib.pow10Tab := by kernel_rfl
theorem tabs {W : World} (h : laidMetH Tryd.prog Rows.vtparseRoundTripRow.laid W) : ∃ name, Tryd.prog.globalNamed name = some (Tryd.laysAI_ren.g 17) ∧ Lib.TabIs Tryd.prog W name .u64 Lib.pow10Tab := by
  rw [MakeChecks.laidMetH_plain _ _ _ (by kernel_rfl)] at h
  have h2 := (VI.laid_tail (VI.laid_tail h))
  rw [pow_tab] at h2
  exact ⟨_, Tryd.laysAI.m17, Lib.tabIs_of_head (t := 91) (e := 81) (n := 20) Tryd.laysAI.m17 (by kernel_rfl) Tryd.underlying91 Tryd.underlying81 (by kernel_rfl) (by kernel_rfl) h2⟩

set_option maxRecDepth 100000 in
theorem lifted (os : Os) (started : os.Started) (H : Type) (enc : TypeId × Value → H) :
    ReturnsInHanded {} Tryd.checked os 7 .any (fun w args => (Rows.vtparseRoundTripSpec.pre enc Tryd.prog Tryd.f7 Rows.vtparseRoundTripRow.domain false w args ∧ laidMetH Tryd.prog Rows.vtparseRoundTripRow.laid w) ∧ sizedMet enc Tryd.prog Tryd.f7 (OpenSpec.ofChange Rows.vtparseRoundTripSpec) false w args) (Rows.vtparseRoundTripSpec.post enc Tryd.prog Tryd.f7 false true false false) := by
  refine returnsInHanded_of_change_and (C := Tryd.checked) (X := fun w _ => laidMetH Tryd.prog Rows.vtparseRoundTripRow.laid w) (fun _ _ _ hh h => h.of_heap hh) own started (by kernel_rfl) Tryd.func7
    (ChangeSpec.witness_shaped (enc := enc) (C := Tryd.checked) (os := os) (X := fun w _ => laidMetH Tryd.prog Rows.vtparseRoundTripRow.laid w) false (World.laidAll Tryd.prog os Rows.vtparseRoundTripRow.laid) #[.slice none 0 0] 8 (World.laidAll_os _ _ _)
      (World.shaped_of_ZipB (by kernel_rfl) (by kernel_rfl)) (by kernel_rfl) (by kernel_rfl) (by kernel_rfl)
      (by rw [MakeChecks.laidMetH_plain _ _ _ (by kernel_rfl)]; exact laidMet_laidAll _ (by kernel_rfl) (by kernel_rfl))) ?_
  intro W base args ds gs before hval0 hW hcnd hsz hL _
  have hval : ∀ (j : Nat) t v, Tryd.f7.params[j]? = some t → args[j]? = some v → Value.okWide Tryd.prog W .any base t v := hval0
  have hW' := hW
  obtain ⟨p, q, hA0, hV, rfl, hfz, hnd⟩ := hW
  have hA : DataW.TrodAll enc Tryd.prog W 0 (fun _ => true) true Tryd.f7.params.toList args.toList ds p := hA0
  rw [Tryd.params7] at hA hval
  obtain ⟨v0, vs0, d0, ds0, p0, q0, hargs, rfl, rfl, h0, r0⟩ := trodAll_cons hA
  obtain ⟨rfl, rfl, rfl⟩ := trodAll_nil r0
  obtain rfl : args = #[v0] := by cases args; simp_all
  obtain ⟨rfl, rfl⟩ := trodVars_none hV
  obtain ⟨rw0, e0, ln0, q0⟩ := VI.read_sl laid (e := 31) (D := 3) (cs := [.int .i64, .int .i32, .int .u8, .int .u8, .str, .sl 3, .str]) (of_decide_eq_true (by kernel_rfl)) (by kernel_rfl) (by kernel_rfl) (by kernel_rfl) (hval 0 26 v0 rfl rfl) h0
  obtain ⟨l0, rfl, m101⟩ := VI.rows_map (fun a : Int × Int × Int × Int × (List UInt8) × (List (Int)) × (List UInt8) => [.v (.int .i64 a.1), .v (.int .i32 a.2.1), .v (.int .u8 a.2.2.1), .v (.int .u8 a.2.2.2.1), .str a.2.2.2.2.1, .sl 1 (a.2.2.2.2.2.1.map (fun a : Int => [.v (.int .i64 a)])) false, .str a.2.2.2.2.2.2]) (fun a : Int × Int × Int × Int × (List UInt8) × (List (Int)) × (List UInt8) => (-9223372036854775808 ≤ a.1 ∧ a.1 ≤ 9223372036854775807) ∧ (-2147483648 ≤ a.2.1 ∧ a.2.1 ≤ 2147483647) ∧ (0 ≤ a.2.2.1 ∧ a.2.2.1 ≤ 255) ∧ (0 ≤ a.2.2.2.1 ∧ a.2.2.2.1 ≤ 255) ∧ a.2.2.2.2.1.length ≤ maxLen ∧ (a.2.2.2.2.2.1.length ≤ maxLen ∧ ∀ b ∈ a.2.2.2.2.2.1, (fun a : Int => (-9223372036854775808 ≤ a ∧ a ≤ 9223372036854775807)) b) ∧ a.2.2.2.2.2.2.length ≤ maxLen) (fun r hr => by
      have h102 := q0 r hr
      obtain ⟨x103, _, rfl, w105, h104⟩ := h102.int
      obtain ⟨x106, _, rfl, w108, h107⟩ := h104.int
      obtain ⟨x109, _, rfl, w111, h110⟩ := h107.int
      obtain ⟨x112, _, rfl, w114, h113⟩ := h110.int
      obtain ⟨x115, _, rfl, w117, h116⟩ := h113.str
      obtain ⟨r122, _, rfl, w120, q121, h119⟩ := h116.sl (D := 1) (cs' := [.int .i64]) (by kernel_rfl)
      obtain ⟨x118, rfl, m123⟩ := VI.rows_map (fun a : Int => [.v (.int .i64 a)]) (fun a : Int => (-9223372036854775808 ≤ a ∧ a ≤ 9223372036854775807)) (fun r hr => by
          have h124 := q121 r hr
          obtain ⟨x125, _, rfl, w127, h126⟩ := h124.int
          obtain rfl := h126.nil
          exact ⟨x125, rfl, VI.rng_i64 w127⟩)
      obtain ⟨x128, _, rfl, w130, h129⟩ := h119.str
      obtain rfl := h129.nil
      exact ⟨(x103, x106, x109, x112, x115, x118, x128), rfl, ⟨VI.rng_i64 w105, VI.rng_i32 w108, VI.rng_u8 w111, VI.rng_u8 w114, w117, (And.intro (show x118.length ≤ maxLen by simpa using w120) m123), w130⟩⟩)
  replace ln0 : l0.length ≤ maxLen := by simpa using ln0
  have w0 := m101
  have sz0 : l0.length * 72 ≤ 0x7ffffffff000 := Nat.le_trans (Nat.mul_le_mul_right _ (by simpa using VI.sl_dlen (e := 31) (by kernel_rfl) h0 e0)) (VI.weight_at (t := 26) (e := 31) 0 hsz (by rw [Tryd.params7]; rfl) rfl (by kernel_rfl))
  rw [show Tryd.prog.cellsOf 31 = 7 from by kernel_rfl] at e0
  clear hA0 hval0
  obtain ⟨nm, htn, htab⟩ := tabs hL
  obtain ⟨L, h⟩ := VI.c7 l0 ln0 (fun a ha => ⟨(w0 a ha).2.1, (w0 a ha).2.2.1, (w0 a ha).2.2.2.1⟩)
  refine (VI.law_calls (hseq := VI.noSeq fun _ => rfl) (E := VI.E) (vs := #[v0]) (w := W) h VI.extOK (VI.globs htn htab) (VI.args_of (vs := [v0]) ⟨e0, trivial⟩)).mono fun e W' ⟨he, hg⟩ => ?_
  subst he
  exact ⟨_, rfl, VI.post_of_old (pa := p0 ++ ([])) (pv := []) hW' (fun _ _ _ => (trodAll_cons_mk (shut_bool Tryd.underlying4 _) trodAll_mk0)) (fun sp hs => (trodAll_cons_mk (VI.stays laid (by kernel_rfl) (of_decide_eq_true (by kernel_rfl)) h0 hg (fun p hp => hW'.lt p (by simp [hp])) sp (fun p hp => hs p (by simp [hp]))) trodAll_mk0)) (fun _ _ => rfl) hg (by simp)⟩

theorem over : Rows.vtparseRoundTripRow.holds Tryd.pinned (OpenSpec.ofChange Rows.vtparseRoundTripSpec) :=
  OpenClaim.holds_of_wide 7 Tryd.f7 rfl rfl rfl rfl rfl rfl rfl ⟨rfl, rfl, rfl, rfl, rfl⟩ rfl rfl rfl rfl rfl (by kernel_rfl) Tryd.func7 (by kernel_rfl)
    (of_decide_eq_true (by kernel_rfl)) (by unfold Func.isWrapper; first | (rw [if_pos (by decide +kernel)]; kernel_rfl) | (rw [if_neg (by decide +kernel)]; exact ⟨rfl, rfl⟩))
    (fun os started H enc _ => lifted os started H enc)

theorem proved : Rows.VtparseRoundTripCardSaid :=
  Claim7.holds_tied_plain_at .later [] [.data, .data, .data] true (true, "00a9a6eb9d0df0f4aeeddcd98ce6f991dfaf49862bc29ab721b38c105abeccbf") false over (fun _ h => by cases h) (by kernel_rfl) (fun _ h => by cases h) vtparseRoundTrip_row_tie rfl ⟨rfl, rfl⟩ (by kernel_rfl) rfl
    (fun f fn hf hfn => by
      obtain rfl : f = 7 := Option.some.inj ((show Tryd.prog.funcNamed Rows.vtparseRoundTripRow.func = some 7 by kernel_rfl).symm.trans hf) |>.symm
      obtain rfl : fn = Tryd.f7 := (Option.some.inj (Tryd.func7.symm.trans hfn)).symm
      exact ⟨by kernel_rfl, fun j t ht => by
        rw [Tryd.params7] at ht
        have hm : t ∈ [26] := by simpa using Array.mem_of_getElem? ht
        have hall : ([26].all fun u => !Tryd.prog.wantsStandIn u) = true := by kernel_rfl
        exact (show Tryd.prog.wantsStandIn t = false by simpa using List.all_eq_true.1 hall t hm)⟩)
    (by kernel_rfl)
end Go.Proofs.YtcifhkdbaienjaaDoor.vtparseRoundTrip
namespace Go.Proofs.YtcifhkdbaienjaaDoor
theorem vtparseRoundTrip_holds : Rows.VtparseRoundTripCardSaid := vtparseRoundTrip.proved
#print axioms vtparseRoundTrip_holds
end Go.Proofs.YtcifhkdbaienjaaDoor
