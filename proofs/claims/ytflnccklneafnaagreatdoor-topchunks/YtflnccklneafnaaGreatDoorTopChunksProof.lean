/- 'Rows.TopChunksSaid'. Its frame began as the shell that proof-skeleton printed for another law. -/
import Derived.Test.YtflnccklneafnaaGreatDoorZTCQ6
import Derived.Test.YtflnccklneafnaaGreatDoorRows
import Derived.WalkKit
import Derived.ProofKit
import Derived.OpenShut
import Derived.SizedLaws
import Derived.Test.YtflnccklneafnaaGreatDoorCards
import Derived.Test.YtflnccklneafnaaGreatDoorTie
import Derived.LaidLaws
import Derived.Lay
import Derived.SevenTiedAt
import Derived.MakeChecks
import Derived.Stop.Joined
import Derived.ChangeMaps5
namespace Go.Proofs.YtflnccklneafnaaGreatDoor.topChunks
open Go.ChangeShapes Go.WideShapes Go.ChangeAt Go.RowKit
set_option linter.unusedVariables false
set_option linter.unusedSimpArgs false

theorem own : ownKnob Tryz.prog.godebug = none := by kernel_rfl
theorem laid : laidOutB Tryz.prog = true := by kernel_rfl

theorem laid4 : (Rows.topChunksRow.laid : List (String × DataW Unit)) = [("math/bits.deBruijn32tab", Rows.laid_math_bits_deBruijn32tab), ("math/bits.deBruijn64tab", Rows.laid_math_bits_deBruijn64tab), ("internal/strconv.uint64pow10", Lib.tabData .u64 Lib.pow10Tab), ("narrator/attr.codes", Lib.tabData .i64 [1, 2, 3, 4, 5, 7, 8, 9]), ("unicode/utf8.acceptRanges", Lib.acceptData), ("unicode/utf8.first", Lib.firstData)] := by kernel_rfl
theorem tabs4 {W : World} (h : laidMetH Tryz.prog Rows.topChunksRow.laid W) : laidMet Tryz.prog [("math/bits.deBruijn32tab", Rows.laid_math_bits_deBruijn32tab), ("math/bits.deBruijn64tab", Rows.laid_math_bits_deBruijn64tab), ("internal/strconv.uint64pow10", Lib.tabData .u64 Lib.pow10Tab), ("narrator/attr.codes", Lib.tabData .i64 [1, 2, 3, 4, 5, 7, 8, 9]), ("unicode/utf8.acceptRanges", Lib.acceptData), ("unicode/utf8.first", Lib.firstData)] W := by
  rw [MakeChecks.laidMetH_plain _ _ _ (by kernel_rfl)] at h
  rw [← laid4]
  exact h

set_option maxRecDepth 100000 in
theorem lifted (os : Os) (started : os.Started) (H : Type) (enc : TypeId × Value → H) :
    ReturnsInHanded {} Tryz.checked os 3 .any (fun w args => (Rows.topChunksSpec.pre enc Tryz.prog Tryz.f3 Rows.topChunksRow.domain false w args ∧ laidMetH Tryz.prog Rows.topChunksRow.laid w) ∧ sizedMet enc Tryz.prog Tryz.f3 (OpenSpec.ofChange Rows.topChunksSpec) false w args) (Rows.topChunksSpec.post enc Tryz.prog Tryz.f3 false true false false) := by
  refine returnsInHanded_of_change_and (C := Tryz.checked) (X := fun w _ => laidMetH Tryz.prog Rows.topChunksRow.laid w) (fun _ _ _ hh h => h.of_heap hh) own started (by kernel_rfl) Tryz.func3
    (ChangeSpec.witness_shaped (enc := enc) (C := Tryz.checked) (os := os) (X := fun w _ => laidMetH Tryz.prog Rows.topChunksRow.laid w) false (World.laidAll Tryz.prog os Rows.topChunksRow.laid) #[.agg #[.int .u8 0, .int .u8 0, .string ⟨#[]⟩, .slice none 0 0]] 8 (World.laidAll_os _ _ _)
      (World.shaped_of_ZipB (by kernel_rfl) (by kernel_rfl)) (by kernel_rfl) (by kernel_rfl) (by kernel_rfl)
      (by rw [MakeChecks.laidMetH_plain _ _ _ (by kernel_rfl)]; exact laidMet_laidAll _ (by kernel_rfl) (by kernel_rfl))) ?_
  intro W base args ds gs before hval0 hW hcnd hsz hL _
  have hval : ∀ (j : Nat) t v, Tryz.f3.params[j]? = some t → args[j]? = some v → Value.okWide Tryz.prog W .any base t v := hval0
  have hW' := hW
  obtain ⟨p, q, hA0, hV, rfl, hfz, hnd⟩ := hW
  have hA : DataW.TrodAll enc Tryz.prog W 0 (fun _ => true) true Tryz.f3.params.toList args.toList ds p := hA0
  rw [Tryz.params3] at hA hval
  obtain ⟨v0, vs0, d0, ds0, p0, q0, hargs, rfl, rfl, h0, r0⟩ := trodAll_cons hA
  obtain ⟨rfl, rfl, rfl⟩ := trodAll_nil r0
  obtain rfl : args = #[v0] := by cases args; simp_all
  obtain ⟨rfl, rfl⟩ := trodVars_none hV
  obtain ⟨cs0, e0, q0⟩ := VI.read_agg laid (D := 3) (cs := [.int .u8, .int .u8, .str, .sl 5]) (of_decide_eq_true (by kernel_rfl)) (by kernel_rfl) (by kernel_rfl) (hval 0 24 v0 rfl rfl) h0
  obtain ⟨c0_0, _, rfl, w102, h101⟩ := q0.int
  obtain ⟨c0_1, _, rfl, w104, h103⟩ := h101.int
  obtain ⟨c0_2, _, rfl, w106, h105⟩ := h103.str
  obtain ⟨r110, _, rfl, w108, q109, h107⟩ := h105.sl (D := 1) (cs' := [.int .u8]) (by kernel_rfl)
  obtain ⟨c0_3, rfl, m111⟩ := VI.rows_map (fun a : Int => [.v (.int .u8 a)]) (fun a : Int => (0 ≤ a ∧ a ≤ 255)) (fun r hr => by
      have h112 := q109 r hr
      obtain ⟨x113, _, rfl, w115, h114⟩ := h112.int
      obtain rfl := h114.nil
      exact ⟨x113, rfl, VI.rng_u8 w115⟩)
  obtain rfl := h107.nil
  have wc0_0 := VI.rng_u8 w102
  have wc0_1 := VI.rng_u8 w104
  have wc0_2 := w106
  have wc0_3 := (And.intro (show c0_3.length ≤ maxLen by simpa using w108) m111)
  clear hA0 hval0
  obtain ⟨L, h⟩ := VI.cvC c0_0 c0_1 wc0_0 wc0_1 c0_2 wc0_2 c0_3 wc0_3
  refine (VI.law_calls (hseq := VI.noSeq fun _ => rfl) (hmk := VI.mkOK) (E := VI.E) (vs := #[v0]) (w := W) h VI.extOK (VI.globs4 (tabs4 hL)) (VI.args_of (vs := [v0]) ⟨e0, trivial⟩)).mono fun e W' ⟨he, hg⟩ => ?_
  subst he
  exact ⟨_, rfl, VI.post_of_old (pa := p0 ++ ([])) (pv := []) hW' (fun _ _ _ => (trodAll_cons_mk (shut_bool Tryz.underlying4 _) trodAll_mk0)) (fun sp hs => (trodAll_cons_mk (VI.stays laid (by kernel_rfl) (of_decide_eq_true (by kernel_rfl)) h0 hg (fun p hp => hW'.lt p (by simp [hp])) sp (fun p hp => hs p (by simp [hp]))) trodAll_mk0)) (fun _ _ => rfl) hg (by simp)⟩

theorem over : Rows.topChunksRow.holds Tryz.pinned (OpenSpec.ofChange Rows.topChunksSpec) :=
  OpenClaim.holds_of_wide 3 Tryz.f3 rfl rfl rfl rfl rfl rfl rfl ⟨rfl, rfl, rfl, rfl, rfl⟩ rfl rfl rfl rfl rfl (by kernel_rfl) Tryz.func3 (by kernel_rfl)
    (of_decide_eq_true (by kernel_rfl)) (by unfold Func.isWrapper; first | (rw [if_pos (by decide +kernel)]; kernel_rfl) | (rw [if_neg (by decide +kernel)]; exact ⟨rfl, rfl⟩))
    (fun os started H enc _ => lifted os started H enc)

theorem proved : Rows.TopChunksCardSaid :=
  Claim7.holds_tied_plain_at .later [] [.data, .data, .data, .data, .data, .pinned] true (true, "d4d06a73089537d8b07060eb11d38df6b55a37b336c7d87aafd612c5ce560fdd") false over (fun _ h => by cases h) (by kernel_rfl) (fun _ h => by cases h) topChunks_row_tie rfl ⟨rfl, rfl⟩ (by kernel_rfl) rfl
    (fun f fn hf hfn => by
      obtain rfl : f = 3 := Option.some.inj ((show Tryz.prog.funcNamed Rows.topChunksRow.func = some 3 by kernel_rfl).symm.trans hf) |>.symm
      obtain rfl : fn = Tryz.f3 := (Option.some.inj (Tryz.func3.symm.trans hfn)).symm
      exact ⟨by kernel_rfl, fun j t ht => by
        rw [Tryz.params3] at ht
        have hm : t ∈ [24] := by simpa using Array.mem_of_getElem? ht
        have hall : ([24].all fun u => !Tryz.prog.wantsStandIn u) = true := by kernel_rfl
        exact (show Tryz.prog.wantsStandIn t = false by simpa using List.all_eq_true.1 hall t hm)⟩)
    (by kernel_rfl)
end Go.Proofs.YtflnccklneafnaaGreatDoor.topChunks
namespace Go.Proofs.YtflnccklneafnaaGreatDoor
theorem topChunks_holds : Rows.TopChunksCardSaid := topChunks.proved
#print axioms topChunks_holds
end Go.Proofs.YtflnccklneafnaaGreatDoor
