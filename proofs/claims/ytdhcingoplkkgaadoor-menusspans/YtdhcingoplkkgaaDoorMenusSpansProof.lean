/- 'Rows.MenusSpansSaid'. Its frame began as the shell that proof-skeleton printed for another law. -/
import Derived.Test.YtdhcingoplkkgaaDoorZSP4
import Derived.Test.YtdhcingoplkkgaaDoorRows
import Derived.WalkKit
import Derived.ProofKit
import Derived.OpenShut
import Derived.SizedLaws
import Derived.Test.YtdhcingoplkkgaaDoorCards
import Derived.Test.YtdhcingoplkkgaaDoorTie
import Derived.LaidLaws
import Derived.Lay
import Derived.SevenTiedAt
import Derived.MakeChecks
import Derived.Stop.Joined
import Derived.ChangeMaps5
namespace Go.Proofs.YtdhcingoplkkgaaDoor.menusSpans
open Go.ChangeShapes Go.WideShapes Go.ChangeAt Go.RowKit
set_option linter.unusedVariables false
set_option linter.unusedSimpArgs false

theorem own : ownKnob Tryd.prog.godebug = none := by kernel_rfl
theorem laid : laidOutB Tryd.prog = true := by kernel_rfl

set_option maxRecDepth 100000 in
theorem lifted (os : Os) (started : os.Started) (H : Type) (enc : TypeId × Value → H) :
    ReturnsInHanded {} Tryd.checked os 6 .any (fun w args => (Rows.menusSpansSpec.pre enc Tryd.prog Tryd.f6 Rows.menusSpansRow.domain false w args ∧ laidMetH Tryd.prog Rows.menusSpansRow.laid w) ∧ sizedMet enc Tryd.prog Tryd.f6 (OpenSpec.ofChange Rows.menusSpansSpec) false w args) (Rows.menusSpansSpec.post enc Tryd.prog Tryd.f6 false true false false) := by
  refine returnsInHanded_of_change_and (C := Tryd.checked) (X := fun w _ => laidMetH Tryd.prog Rows.menusSpansRow.laid w) (fun _ _ _ hh h => h.of_heap hh) own started (by kernel_rfl) Tryd.func6
    (ChangeSpec.witness_shaped (enc := enc) (C := Tryd.checked) (os := os) (X := fun w _ => laidMetH Tryd.prog Rows.menusSpansRow.laid w) false (World.laidAll Tryd.prog os Rows.menusSpansRow.laid) #[.slice none 0 0] 8 (World.laidAll_os _ _ _)
      (World.shaped_of_ZipB (by kernel_rfl) (by kernel_rfl)) (by kernel_rfl) (by kernel_rfl) (by kernel_rfl)
      (by rw [MakeChecks.laidMetH_plain _ _ _ (by kernel_rfl)]; exact laidMet_laidAll _ (by kernel_rfl) (by kernel_rfl))) ?_
  intro W base args ds gs before hval0 hW hcnd hsz hL _
  have hval : ∀ (j : Nat) t v, Tryd.f6.params[j]? = some t → args[j]? = some v → Value.okWide Tryd.prog W .any base t v := hval0
  have hW' := hW
  obtain ⟨p, q, hA0, hV, rfl, hfz, hnd⟩ := hW
  have hA : DataW.TrodAll enc Tryd.prog W 0 (fun _ => true) true Tryd.f6.params.toList args.toList ds p := hA0
  rw [Tryd.params6] at hA hval
  obtain ⟨v0, vs0, d0, ds0, p0, q0, hargs, rfl, rfl, h0, r0⟩ := trodAll_cons hA
  obtain ⟨rfl, rfl, rfl⟩ := trodAll_nil r0
  obtain rfl : args = #[v0] := by cases args; simp_all
  obtain ⟨rfl, rfl⟩ := trodVars_none hV
  obtain ⟨rw0, e0, ln0, q0⟩ := VI.read_sl laid (e := 45) (D := 2) (cs := [.str, .bool, .int .i64]) (of_decide_eq_true (by kernel_rfl)) (by kernel_rfl) (by kernel_rfl) (by kernel_rfl) (hval 0 36 v0 rfl rfl) h0
  obtain ⟨l0, rfl, m101⟩ := VI.rows_map (fun a : (List UInt8) × Bool × Int => [.str a.1, .v (.bool a.2.1), .v (.int .i64 a.2.2)]) (fun a : (List UInt8) × Bool × Int => a.1.length ≤ maxLen ∧ (-9223372036854775808 ≤ a.2.2 ∧ a.2.2 ≤ 9223372036854775807)) (fun r hr => by
      have h102 := q0 r hr
      obtain ⟨x103, _, rfl, w105, h104⟩ := h102.str
      obtain ⟨x106, _, rfl, h107⟩ := h104.bool
      obtain ⟨x108, _, rfl, w110, h109⟩ := h107.int
      obtain rfl := h109.nil
      exact ⟨(x103, x106, x108), rfl, ⟨w105, VI.rng_i64 w110⟩⟩)
  replace ln0 : l0.length ≤ maxLen := by simpa using ln0
  have w0 := m101
  have sz0 : l0.length * 32 ≤ 0x7ffffffff000 := Nat.le_trans (Nat.mul_le_mul_right _ (by simpa using VI.sl_dlen (e := 45) (by kernel_rfl) h0 e0)) (VI.weight_at (t := 36) (e := 45) 0 hsz (by rw [Tryd.params6]; rfl) rfl (by kernel_rfl))
  rw [show Tryd.prog.cellsOf 45 = 3 from by kernel_rfl] at e0
  clear hA0 hval0
  obtain ⟨L, h⟩ := VI.c6 l0 ln0
  refine (VI.law_calls (hseq := VI.noSeq fun _ => rfl) (E := VI.E) (vs := #[v0]) (w := W) h VI.extOK (VI.noGlob VI.E_glob) (VI.args_of (vs := [v0]) ⟨e0, trivial⟩)).mono fun e W' ⟨he, hg⟩ => ?_
  subst he
  exact ⟨_, rfl, VI.post_of_old (pa := p0 ++ ([])) (pv := []) hW' (fun _ _ _ => (trodAll_cons_mk (shut_bool Tryd.underlying4 _) trodAll_mk0)) (fun sp hs => (trodAll_cons_mk (VI.stays laid (by kernel_rfl) (of_decide_eq_true (by kernel_rfl)) h0 hg (fun p hp => hW'.lt p (by simp [hp])) sp (fun p hp => hs p (by simp [hp]))) trodAll_mk0)) (fun _ _ => rfl) hg (by simp)⟩

theorem over : Rows.menusSpansRow.holds Tryd.pinned (OpenSpec.ofChange Rows.menusSpansSpec) :=
  OpenClaim.holds_of_wide 6 Tryd.f6 rfl rfl rfl rfl rfl rfl rfl ⟨rfl, rfl, rfl, rfl, rfl⟩ rfl rfl rfl rfl rfl (by kernel_rfl) Tryd.func6 (by kernel_rfl)
    (of_decide_eq_true (by kernel_rfl)) (by unfold Func.isWrapper; first | (rw [if_pos (by decide +kernel)]; kernel_rfl) | (rw [if_neg (by decide +kernel)]; exact ⟨rfl, rfl⟩))
    (fun os started H enc _ => lifted os started H enc)

theorem proved : Rows.MenusSpansCardSaid :=
  Claim7.holds_tied_plain_at .later [] [.data, .pinned] true (true, "78f756686a46c1d90ab8fbf95253137b5110baff33a9438962c52d410cf0889f") false over (fun _ h => by cases h) (by kernel_rfl) (fun _ h => by cases h) menusSpans_row_tie rfl ⟨rfl, rfl⟩ (by kernel_rfl) rfl
    (fun f fn hf hfn => by
      obtain rfl : f = 6 := Option.some.inj ((show Tryd.prog.funcNamed Rows.menusSpansRow.func = some 6 by kernel_rfl).symm.trans hf) |>.symm
      obtain rfl : fn = Tryd.f6 := (Option.some.inj (Tryd.func6.symm.trans hfn)).symm
      exact ⟨by kernel_rfl, fun j t ht => by
        rw [Tryd.params6] at ht
        have hm : t ∈ [36] := by simpa using Array.mem_of_getElem? ht
        have hall : ([36].all fun u => !Tryd.prog.wantsStandIn u) = true := by kernel_rfl
        exact (show Tryd.prog.wantsStandIn t = false by simpa using List.all_eq_true.1 hall t hm)⟩)
    (by kernel_rfl)
end Go.Proofs.YtdhcingoplkkgaaDoor.menusSpans
namespace Go.Proofs.YtdhcingoplkkgaaDoor
theorem menusSpans_holds : Rows.MenusSpansCardSaid := menusSpans.proved
#print axioms menusSpans_holds
end Go.Proofs.YtdhcingoplkkgaaDoor
