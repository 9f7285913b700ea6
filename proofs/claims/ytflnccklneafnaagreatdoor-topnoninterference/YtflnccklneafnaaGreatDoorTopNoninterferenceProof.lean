/- 'Rows.TopNoninterferenceSaid'. Its frame began as the shell that proof-skeleton printed for another law. -/
import Derived.Test.YtflnccklneafnaaGreatDoorZTNQ6
import Derived.Test.YtflnccklneafnaaGreatDoorRows
import Derived.WalkKit
import Derived.ProofKit
import Derived.OpenShut
import Derived.SizedLaws
import Derived.Test.YtflnccklneafnaaGreatDoorCards
import Derived.Test.YtflnccklneafnaaGreatDoorTie
import Derived.LaidLaws
import Derived.Lay
import Derived.SevenTiedAt
import Derived.MakeChecks
import Derived.Stop.Joined
import Derived.ChangeMaps5
namespace Go.Proofs.YtflnccklneafnaaGreatDoor.topNoninterference
open Go.ChangeShapes Go.WideShapes Go.ChangeAt Go.RowKit
set_option linter.unusedVariables false
set_option linter.unusedSimpArgs false

theorem own : ownKnob Tryz.prog.godebug = none := by kernel_rfl
theorem laid : laidOutB Tryz.prog = true := by kernel_rfl

theorem laid4 : (Rows.topNoninterferenceRow.laid : List (String × DataW Unit)) = [("math/bits.deBruijn32tab", Rows.laid_math_bits_deBruijn32tab), ("math/bits.deBruijn64tab", Rows.laid_math_bits_deBruijn64tab), ("internal/strconv.uint64pow10", Lib.tabData .u64 Lib.pow10Tab), ("narrator/attr.codes", Lib.tabData .i64 [1, 2, 3, 4, 5, 7, 8, 9]), ("unicode/utf8.acceptRanges", Lib.acceptData), ("unicode/utf8.first", Lib.firstData)] := by kernel_rfl
theorem tabs4 {W : World} (h : laidMetH Tryz.prog Rows.topNoninterferenceRow.laid W) : laidMet Tryz.prog [("math/bits.deBruijn32tab", Rows.laid_math_bits_deBruijn32tab), ("math/bits.deBruijn64tab", Rows.laid_math_bits_deBruijn64tab), ("internal/strconv.uint64pow10", Lib.tabData .u64 Lib.pow10Tab), ("narrator/attr.codes", Lib.tabData .i64 [1, 2, 3, 4, 5, 7, 8, 9]), ("unicode/utf8.acceptRanges", Lib.acceptData), ("unicode/utf8.first", Lib.firstData)] W := by
  rw [MakeChecks.laidMetH_plain _ _ _ (by kernel_rfl)] at h
  rw [← laid4]
  exact h

set_option maxRecDepth 100000 in
theorem lifted (os : Os) (started : os.Started) (H : Type) (enc : TypeId × Value → H) :
    ReturnsInHanded {} Tryz.checked os 5 .any (fun w args => (Rows.topNoninterferenceSpec.pre enc Tryz.prog Tryz.f5 Rows.topNoninterferenceRow.domain false w args ∧ laidMetH Tryz.prog Rows.topNoninterferenceRow.laid w) ∧ sizedMet enc Tryz.prog Tryz.f5 (OpenSpec.ofChange Rows.topNoninterferenceSpec) false w args) (Rows.topNoninterferenceSpec.post enc Tryz.prog Tryz.f5 false true false false) := by
  refine returnsInHanded_of_change_and (C := Tryz.checked) (X := fun w _ => laidMetH Tryz.prog Rows.topNoninterferenceRow.laid w) (fun _ _ _ hh h => h.of_heap hh) own started (by kernel_rfl) Tryz.func5
    (ChangeSpec.witness_shaped (enc := enc) (C := Tryz.checked) (os := os) (X := fun w _ => laidMetH Tryz.prog Rows.topNoninterferenceRow.laid w) false (World.laidAll Tryz.prog os Rows.topNoninterferenceRow.laid) #[.int .u8 0, .int .u8 0, .slice none 0 0] 8 (World.laidAll_os _ _ _)
      (World.shaped_of_ZipB (by kernel_rfl) (by kernel_rfl)) (by kernel_rfl) (by kernel_rfl) (by kernel_rfl)
      (by rw [MakeChecks.laidMetH_plain _ _ _ (by kernel_rfl)]; exact laidMet_laidAll _ (by kernel_rfl) (by kernel_rfl))) ?_
  intro W base args ds gs before hval0 hW hcnd hsz hL _
  have hval : ∀ (j : Nat) t v, Tryz.f5.params[j]? = some t → args[j]? = some v → Value.okWide Tryz.prog W .any base t v := hval0
  have hW' := hW
  obtain ⟨p, q, hA0, hV, rfl, hfz, hnd⟩ := hW
  have hA : DataW.TrodAll enc Tryz.prog W 0 (fun _ => true) true Tryz.f5.params.toList args.toList ds p := hA0
  rw [Tryz.params5] at hA hval
  obtain ⟨v0, vs0, d0, ds0, p0, q0, hargs, rfl, rfl, h0, r0⟩ := trodAll_cons hA
  obtain ⟨v1, vs1, d1, ds1, p1, q1, hargs1, rfl, rfl, h1, r1⟩ := trodAll_cons r0
  obtain ⟨v2, vs2, d2, ds2, p2, q2, hargs2, rfl, rfl, h2, r2⟩ := trodAll_cons r1
  obtain ⟨rfl, rfl, rfl⟩ := trodAll_nil r2
  subst hargs2
  subst hargs1
  obtain rfl : args = #[v0, v1, v2] := by cases args; simp_all
  obtain ⟨rfl, rfl⟩ := trodVars_none hV
  obtain ⟨n0, e0, w0⟩ := VI.read_int (k := .u8) (by kernel_rfl) (hval 0 5 v0 rfl rfl) h0
  replace w0 := VI.rng_u8 w0
  obtain ⟨n1, e1, w1⟩ := VI.read_int (k := .u8) (by kernel_rfl) (hval 1 5 v1 rfl rfl) h1
  replace w1 := VI.rng_u8 w1
  obtain ⟨rw2, e2, ln2, q2⟩ := VI.read_sl laid (e := 57) (D := 2) (cs := [.str, .str, .str]) (of_decide_eq_true (by kernel_rfl)) (by kernel_rfl) (by kernel_rfl) (by kernel_rfl) (hval 2 55 v2 rfl rfl) h2
  obtain ⟨l2, rfl, m101⟩ := VI.rows_map (fun a : (List UInt8) × (List UInt8) × (List UInt8) => [.str a.1, .str a.2.1, .str a.2.2]) (fun a : (List UInt8) × (List UInt8) × (List UInt8) => a.1.length ≤ maxLen ∧ a.2.1.length ≤ maxLen ∧ a.2.2.length ≤ maxLen) (fun r hr => by
      have h102 := q2 r hr
      obtain ⟨x103, _, rfl, w105, h104⟩ := h102.str
      obtain ⟨x106, _, rfl, w108, h107⟩ := h104.str
      obtain ⟨x109, _, rfl, w111, h110⟩ := h107.str
      obtain rfl := h110.nil
      exact ⟨(x103, x106, x109), rfl, ⟨w105, w108, w111⟩⟩)
  replace ln2 : l2.length ≤ maxLen := by simpa using ln2
  have w2 := m101
  have sz2 : l2.length * 48 ≤ 0x7ffffffff000 := Nat.le_trans (Nat.mul_le_mul_right _ (by simpa using VI.sl_dlen (e := 57) (by kernel_rfl) h2 e2)) (VI.weight_at (t := 55) (e := 57) 2 hsz (by rw [Tryz.params5]; rfl) rfl (by kernel_rfl))
  rw [show Tryz.prog.cellsOf 57 = 3 from by kernel_rfl] at e2
  clear hA0 hval0
  obtain ⟨L, h⟩ := VI.cvN n0 n1 w0 w1 l2 ln2
  refine (VI.law_calls (hseq := VI.seqOK) (hmk := VI.mkOK) (E := VI.E) (vs := #[v0, v1, v2]) (w := W) h VI.extOK (VI.globs4 (tabs4 hL)) (VI.args_of (vs := [v0, v1, v2]) ⟨e0, e1, e2, trivial⟩)).mono fun e W' ⟨he, hg⟩ => ?_
  subst he
  exact ⟨_, rfl, VI.post_of_old (pa := p0 ++ (p1 ++ (p2 ++ ([])))) (pv := []) hW' (fun _ _ _ => (trodAll_cons_mk (shut_bool Tryz.underlying4 _) trodAll_mk0)) (fun sp hs => (trodAll_cons_mk (VI.stays laid (by kernel_rfl) (of_decide_eq_true (by kernel_rfl)) h0 hg (fun p hp => hW'.lt p (by simp [hp])) sp (fun p hp => hs p (by simp [hp]))) (trodAll_cons_mk (VI.stays laid (by kernel_rfl) (of_decide_eq_true (by kernel_rfl)) h1 hg (fun p hp => hW'.lt p (by simp [hp])) sp (fun p hp => hs p (by simp [hp]))) (trodAll_cons_mk (VI.stays laid (by kernel_rfl) (of_decide_eq_true (by kernel_rfl)) h2 hg (fun p hp => hW'.lt p (by simp [hp])) sp (fun p hp => hs p (by simp [hp]))) trodAll_mk0)))) (fun _ _ => rfl) hg (by simp)⟩

theorem over : Rows.topNoninterferenceRow.holds Tryz.pinned (OpenSpec.ofChange Rows.topNoninterferenceSpec) :=
  OpenClaim.holds_of_wide 5 Tryz.f5 rfl rfl rfl rfl rfl rfl rfl ⟨rfl, rfl, rfl, rfl, rfl⟩ rfl rfl rfl rfl rfl (by kernel_rfl) Tryz.func5 (by kernel_rfl)
    (of_decide_eq_true (by kernel_rfl)) (by unfold Func.isWrapper; first | (rw [if_pos (by decide +kernel)]; kernel_rfl) | (rw [if_neg (by decide +kernel)]; exact ⟨rfl, rfl⟩))
    (fun os started H enc _ => lifted os started H enc)

theorem proved : Rows.TopNoninterferenceCardSaid :=
  Claim7.holds_tied_plain_at .later [] [.data, .data, .data, .data, .data, .pinned] true (true, "d4d06a73089537d8b07060eb11d38df6b55a37b336c7d87aafd612c5ce560fdd") false over (fun _ h => by cases h) (by kernel_rfl) (fun _ h => by cases h) topNoninterference_row_tie rfl ⟨rfl, rfl⟩ (by kernel_rfl) rfl
    (fun f fn hf hfn => by
      obtain rfl : f = 5 := Option.some.inj ((show Tryz.prog.funcNamed Rows.topNoninterferenceRow.func = some 5 by kernel_rfl).symm.trans hf) |>.symm
      obtain rfl : fn = Tryz.f5 := (Option.some.inj (Tryz.func5.symm.trans hfn)).symm
      exact ⟨by kernel_rfl, fun j t ht => by
        rw [Tryz.params5] at ht
        have hm : t ∈ [5, 5, 55] := by simpa using Array.mem_of_getElem? ht
        have hall : ([5, 5, 55].all fun u => !Tryz.prog.wantsStandIn u) = true := by kernel_rfl
        exact (show Tryz.prog.wantsStandIn t = false by simpa using List.all_eq_true.1 hall t hm)⟩)
    (by kernel_rfl)
end Go.Proofs.YtflnccklneafnaaGreatDoor.topNoninterference
namespace Go.Proofs.YtflnccklneafnaaGreatDoor
theorem topNoninterference_holds : Rows.TopNoninterferenceCardSaid := topNoninterference.proved
#print axioms topNoninterference_holds
end Go.Proofs.YtflnccklneafnaaGreatDoor
