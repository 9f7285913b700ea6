/- 'Rows.TopProperTerminalSaid'. Its frame began as the shell that proof-skeleton printed for another law. -/
import Derived.Test.YtflnccklneafnaaGreatDoorZTPQ6
import Derived.Test.YtflnccklneafnaaGreatDoorRows
import Derived.WalkKit
import Derived.ProofKit
import Derived.OpenShut
import Derived.SizedLaws
import Derived.Test.YtflnccklneafnaaGreatDoorCards
import Derived.Test.YtflnccklneafnaaGreatDoorTie
import Derived.LaidLaws
import Derived.Lay
import Derived.SevenTiedAt
import Derived.MakeChecks
import Derived.Stop.Joined
import Derived.ChangeMaps5
namespace Go.Proofs.YtflnccklneafnaaGreatDoor.topProperTerminal
open Go.ChangeShapes Go.WideShapes Go.ChangeAt Go.RowKit
set_option linter.unusedVariables false
set_option linter.unusedSimpArgs false

theorem own : ownKnob Tryz.prog.godebug = none := by kernel_rfl
theorem laid : laidOutB Tryz.prog = true := by kernel_rfl

theorem laid4 : (Rows.topProperTerminalRow.laid : List (String × DataW Unit)) = [("math/bits.deBruijn32tab", Rows.laid_math_bits_deBruijn32tab), ("math/bits.deBruijn64tab", Rows.laid_math_bits_deBruijn64tab), ("internal/strconv.uint64pow10", Lib.tabData .u64 Lib.pow10Tab), ("narrator/attr.codes", Lib.tabData .i64 [1, 2, 3, 4, 5, 7, 8, 9]), ("unicode/utf8.acceptRanges", Lib.acceptData), ("unicode/utf8.first", Lib.firstData)] := by kernel_rfl
theorem tabs4 {W : World} (h : laidMetH Tryz.prog Rows.topProperTerminalRow.laid W) : laidMet Tryz.prog [("math/bits.deBruijn32tab", Rows.laid_math_bits_deBruijn32tab), ("math/bits.deBruijn64tab", Rows.laid_math_bits_deBruijn64tab), ("internal/strconv.uint64pow10", Lib.tabData .u64 Lib.pow10Tab), ("narrator/attr.codes", Lib.tabData .i64 [1, 2, 3, 4, 5, 7, 8, 9]), ("unicode/utf8.acceptRanges", Lib.acceptData), ("unicode/utf8.first", Lib.firstData)] W := by
  rw [MakeChecks.laidMetH_plain _ _ _ (by kernel_rfl)] at h
  rw [← laid4]
  exact h

set_option maxRecDepth 100000 in
theorem lifted (os : Os) (started : os.Started) (H : Type) (enc : TypeId × Value → H) :
    ReturnsInHanded {} Tryz.checked os 4 .any (fun w args => (Rows.topProperTerminalSpec.pre enc Tryz.prog Tryz.f4 Rows.topProperTerminalRow.domain false w args ∧ laidMetH Tryz.prog Rows.topProperTerminalRow.laid w) ∧ sizedMet enc Tryz.prog Tryz.f4 (OpenSpec.ofChange Rows.topProperTerminalSpec) false w args) (Rows.topProperTerminalSpec.post enc Tryz.prog Tryz.f4 false true false false) := by
  refine returnsInHanded_of_change_and (C := Tryz.checked) (X := fun w _ => laidMetH Tryz.prog Rows.topProperTerminalRow.laid w) (fun _ _ _ hh h => h.of_heap hh) own started (by kernel_rfl) Tryz.func4
    (ChangeSpec.witness_shaped (enc := enc) (C := Tryz.checked) (os := os) (X := fun w _ => laidMetH Tryz.prog Rows.topProperTerminalRow.laid w) false (World.laidAll Tryz.prog os Rows.topProperTerminalRow.laid) #[.slice none 0 0] 8 (World.laidAll_os _ _ _)
      (World.shaped_of_ZipB (by kernel_rfl) (by kernel_rfl)) (by kernel_rfl) (by kernel_rfl) (by kernel_rfl)
      (by rw [MakeChecks.laidMetH_plain _ _ _ (by kernel_rfl)]; exact laidMet_laidAll _ (by kernel_rfl) (by kernel_rfl))) ?_
  intro W base args ds gs before hval0 hW hcnd hsz hL _
  have hval : ∀ (j : Nat) t v, Tryz.f4.params[j]? = some t → args[j]? = some v → Value.okWide Tryz.prog W .any base t v := hval0
  have hW' := hW
  obtain ⟨p, q, hA0, hV, rfl, hfz, hnd⟩ := hW
  have hA : DataW.TrodAll enc Tryz.prog W 0 (fun _ => true) true Tryz.f4.params.toList args.toList ds p := hA0
  rw [Tryz.params4] at hA hval
  obtain ⟨v0, vs0, d0, ds0, p0, q0, hargs, rfl, rfl, h0, r0⟩ := trodAll_cons hA
  obtain ⟨rfl, rfl, rfl⟩ := trodAll_nil r0
  obtain rfl : args = #[v0] := by cases args; simp_all
  obtain ⟨rfl, rfl⟩ := trodVars_none hV
  obtain ⟨rw0, e0, ln0, q0⟩ := VI.read_sl laid (e := 51) (D := 2) (cs := [.str, .int .u8, .int .u8, .bool]) (of_decide_eq_true (by kernel_rfl)) (by kernel_rfl) (by kernel_rfl) (by kernel_rfl) (hval 0 49 v0 rfl rfl) h0
  obtain ⟨l0, rfl, m101⟩ := VI.rows_map (fun a : (List UInt8) × Int × Int × Bool => [.str a.1, .v (.int .u8 a.2.1), .v (.int .u8 a.2.2.1), .v (.bool a.2.2.2)]) (fun a : (List UInt8) × Int × Int × Bool => a.1.length ≤ maxLen ∧ (0 ≤ a.2.1 ∧ a.2.1 ≤ 255) ∧ (0 ≤ a.2.2.1 ∧ a.2.2.1 ≤ 255)) (fun r hr => by
      have h102 := q0 r hr
      obtain ⟨x103, _, rfl, w105, h104⟩ := h102.str
      obtain ⟨x106, _, rfl, w108, h107⟩ := h104.int
      obtain ⟨x109, _, rfl, w111, h110⟩ := h107.int
      obtain ⟨x112, _, rfl, h113⟩ := h110.bool
      obtain rfl := h113.nil
      exact ⟨(x103, x106, x109, x112), rfl, ⟨w105, VI.rng_u8 w108, VI.rng_u8 w111⟩⟩)
  replace ln0 : l0.length ≤ maxLen := by simpa using ln0
  have w0 := m101
  have sz0 : l0.length * 24 ≤ 0x7ffffffff000 := Nat.le_trans (Nat.mul_le_mul_right _ (by simpa using VI.sl_dlen (e := 51) (by kernel_rfl) h0 e0)) (VI.weight_at (t := 49) (e := 51) 0 hsz (by rw [Tryz.params4]; rfl) rfl (by kernel_rfl))
  rw [show Tryz.prog.cellsOf 51 = 4 from by kernel_rfl] at e0
  clear hA0 hval0
  obtain ⟨L, h⟩ := VI.cvP l0 ln0 w0
  refine (VI.law_calls (hseq := VI.noSeq fun _ => rfl) (hmk := VI.mkOK) (E := VI.E) (vs := #[v0]) (w := W) h VI.extOK (VI.globs4 (tabs4 hL)) (VI.args_of (vs := [v0]) ⟨e0, trivial⟩)).mono fun e W' ⟨he, hg⟩ => ?_
  subst he
  exact ⟨_, rfl, VI.post_of_old (pa := p0 ++ ([])) (pv := []) hW' (fun _ _ _ => (trodAll_cons_mk (shut_bool Tryz.underlying4 _) trodAll_mk0)) (fun sp hs => (trodAll_cons_mk (VI.stays laid (by kernel_rfl) (of_decide_eq_true (by kernel_rfl)) h0 hg (fun p hp => hW'.lt p (by simp [hp])) sp (fun p hp => hs p (by simp [hp]))) trodAll_mk0)) (fun _ _ => rfl) hg (by simp)⟩

theorem over : Rows.topProperTerminalRow.holds Tryz.pinned (OpenSpec.ofChange Rows.topProperTerminalSpec) :=
  OpenClaim.holds_of_wide 4 Tryz.f4 rfl rfl rfl rfl rfl rfl rfl ⟨rfl, rfl, rfl, rfl, rfl⟩ rfl rfl rfl rfl rfl (by kernel_rfl) Tryz.func4 (by kernel_rfl)
    (of_decide_eq_true (by kernel_rfl)) (by unfold Func.isWrapper; first | (rw [if_pos (by decide +kernel)]; kernel_rfl) | (rw [if_neg (by decide +kernel)]; exact ⟨rfl, rfl⟩))
    (fun os started H enc _ => lifted os started H enc)

theorem proved : Rows.TopProperTerminalCardSaid :=
  Claim7.holds_tied_plain_at .later [] [.data, .data, .data, .data, .data, .pinned] true (true, "d4d06a73089537d8b07060eb11d38df6b55a37b336c7d87aafd612c5ce560fdd") false over (fun _ h => by cases h) (by kernel_rfl) (fun _ h => by cases h) topProperTerminal_row_tie rfl ⟨rfl, rfl⟩ (by kernel_rfl) rfl
    (fun f fn hf hfn => by
      obtain rfl : f = 4 := Option.some.inj ((show Tryz.prog.funcNamed Rows.topProperTerminalRow.func = some 4 by kernel_rfl).symm.trans hf) |>.symm
      obtain rfl : fn = Tryz.f4 := (Option.some.inj (Tryz.func4.symm.trans hfn)).symm
      exact ⟨by kernel_rfl, fun j t ht => by
        rw [Tryz.params4] at ht
        have hm : t ∈ [49] := by simpa using Array.mem_of_getElem? ht
        have hall : ([49].all fun u => !Tryz.prog.wantsStandIn u) = true := by kernel_rfl
        exact (show Tryz.prog.wantsStandIn t = false by simpa using List.all_eq_true.1 hall t hm)⟩)
    (by kernel_rfl)
end Go.Proofs.YtflnccklneafnaaGreatDoor.topProperTerminal
namespace Go.Proofs.YtflnccklneafnaaGreatDoor
theorem topProperTerminal_holds : Rows.TopProperTerminalCardSaid := topProperTerminal.proved
#print axioms topProperTerminal_holds
end Go.Proofs.YtflnccklneafnaaGreatDoor
