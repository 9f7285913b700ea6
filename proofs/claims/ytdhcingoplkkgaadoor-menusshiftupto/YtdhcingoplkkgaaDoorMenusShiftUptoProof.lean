/- 'Rows.MenusShiftUptoSaid'. Its frame began as the shell that proof-skeleton printed for another law. -/
import Derived.Test.YtdhcingoplkkgaaDoorZSH5
import Derived.Test.YtdhcingoplkkgaaDoorRows
import Derived.WalkKit
import Derived.ProofKit
import Derived.OpenShut
import Derived.SizedLaws
import Derived.Test.YtdhcingoplkkgaaDoorCards
import Derived.Test.YtdhcingoplkkgaaDoorTie
import Derived.LaidLaws
import Derived.Lay
import Derived.SevenTiedAt
import Derived.MakeChecks
import Derived.Stop.Joined
import Derived.ChangeMaps5
import Derived.Deep.DeepHandedRow
namespace Go.Proofs.YtdhcingoplkkgaaDoor.menusShiftUpto
open Go.ChangeShapes Go.WideShapes Go.ChangeAt Go.RowKit
set_option linter.unusedVariables false
set_option linter.unusedSimpArgs false

theorem own : ownKnob Tryd.prog.godebug = none := by kernel_rfl
theorem laid : laidOutB Tryd.prog = true := by kernel_rfl

theorem reads (os : Os) {H : Type} (enc : TypeId × Value → H) : ∃ places, DataW.whole enc Tryd.prog ((World.laidAll Tryd.prog os Rows.menusShiftUptoRow.laid).forCall (fun _ _ => 0) ⟨#[], #[.agg #[.int .i64 0, .int .i64 0, .slice none 0 0, .int .i64 0, .int .i64 0, .bool false], .int .u8 0], []⟩).memory Tryd.f4.params.toList Rows.menusShiftSpec.vars false #[.agg #[.int .i64 0, .int .i64 0, .slice none 0 0, .int .i64 0, .int .i64 0, .bool false], .int .u8 0].toList 8 = some ([.agg [.lit (.int .i64 0), .lit (.int .i64 0), .nil, .lit (.int .i64 0), .lit (.int .i64 0), .lit (.bool false)], .lit (.int .u8 0)], [], places) :=
  ⟨[], by kernel_rfl⟩
mutual
theorem wd_le {H : Type} : ∀ d : DataW H, VI.wd d + 1 ≤ Rows.uptoBulk d
  | .lit l => by cases l <;> simp [VI.wd, Rows.uptoBulk]
  | .nil => by simp [VI.wd, Rows.uptoBulk]
  | .ptr d => by simp [VI.wd, Rows.uptoBulk]
  | .slice e s => by have := wdA_le e; simp only [VI.wd, Rows.uptoBulk]; omega
  | .agg p => by have := wdA_le p; simp only [VI.wd, Rows.uptoBulk]; omega
  | .iface _ d => by simp [VI.wd, Rows.uptoBulk]
  | .map _ => by simp [VI.wd, Rows.uptoBulk]
  | .held _ => by simp [VI.wd, Rows.uptoBulk]
theorem wdA_le {H : Type} : ∀ l : List (DataW H), VI.wdA l ≤ Rows.uptoBulkAll l
  | [] => by simp [VI.wdA, Rows.uptoBulkAll]
  | d :: r => by have h1 := wd_le d; have h2 := wdA_le r; simp only [VI.wdA, Rows.uptoBulkAll]; omega
end

theorem bulk0 {H : Type} {d0 d1 : DataW H} (h : Rows.uptoSmall H ([d0, d1] ++ []) = true) : VI.wd d0 ≤ 1048576 := by
  have h1 := of_decide_eq_true h
  simp only [List.append_nil, Rows.uptoBulkAll] at h1
  have h2 := wd_le d0
  omega

set_option maxRecDepth 100000 in
theorem lifted (os : Os) (started : os.Started) (H : Type) (enc : TypeId × Value → H) (F : Stop.Interp) :
    ReturnsInHanded {} Tryd.checked os 4 .any ((Rows.OpenSpec.upto Rows.menusShiftSpec).preRow enc Tryd.prog Tryd.f4 Rows.menusShiftUptoRow.domain false Rows.menusShiftUptoRow.laid) (((Rows.OpenSpec.upto Rows.menusShiftSpec).at F).post enc Tryd.prog Tryd.f4 false true false false) := by
  obtain ⟨places, hx⟩ := reads os enc
  refine returnsInHanded_of_row (C := Tryd.checked) (s := Rows.OpenSpec.upto Rows.menusShiftSpec) own started (by kernel_rfl) Tryd.func4
    ⟨World.laidAll Tryd.prog os Rows.menusShiftUptoRow.laid, fun _ _ => 0, ⟨#[], #[.agg #[.int .i64 0, .int .i64 0, .slice none 0 0, .int .i64 0, .int .i64 0, .bool false], .int .u8 0], []⟩, World.laidAll_os _ _ _, World.shaped_of_ZipB (by kernel_rfl) (by kernel_rfl), rfl,
      (Input.okWide_of_okWideB (by kernel_rfl)).2,
      OpenSpec.preRow_of_cond 8 hx (by kernel_rfl) (fun k hk => by cases hk; kernel_rfl) (by kernel_rfl) (by rw [MakeChecks.laidMetH_plain _ _ _ (by kernel_rfl)]; exact laidMet_laidAll _ (by kernel_rfl) (by kernel_rfl)),
      by simp only [Assume.holds]; exact ⟨by simp, by simp, fun _ => Modest.zero, by simp, by simp⟩⟩ ?_
  intro W base args ds gs before hval0 hW _ hcond hsz hL _ _
  have hval : ∀ (j : Nat) t v, Tryd.f4.params[j]? = some t → args[j]? = some v → Value.okWide Tryd.prog W .any base t v := hval0
  have hW' := hW
  obtain ⟨p, q, hA0, hV, rfl, hfz, hnd⟩ := hW
  have hA : DataW.TrodAll enc Tryd.prog W 0 (fun _ => true) true Tryd.f4.params.toList args.toList ds p := hA0
  rw [Tryd.params4] at hA hval
  obtain ⟨v0, vs0, d0, ds0, p0, q0, hargs, rfl, rfl, h0, r0⟩ := trodAll_cons hA
  obtain ⟨v1, vs1, d1, ds1, p1, q1, hargs1, rfl, rfl, h1, r1⟩ := trodAll_cons r0
  obtain ⟨rfl, rfl, rfl⟩ := trodAll_nil r1
  subst hargs1
  obtain rfl : args = #[v0, v1] := by cases args; simp_all
  obtain ⟨rfl, rfl⟩ := trodVars_none hV
  obtain ⟨cs0, e0, q0, bd0⟩ := VI.read_aggB laid (D := 5) (cs := [.int .i64, .int .i64, .sl 36, .int .i64, .int .i64, .bool]) (of_decide_eq_true (by kernel_rfl)) (by kernel_rfl) (by kernel_rfl) (hval 0 24 v0 rfl rfl) h0
  obtain ⟨c0_0, _, rfl, w102, h101⟩ := q0.int
  obtain ⟨c0_1, _, rfl, w104, h103⟩ := h101.int
  obtain ⟨r108, _, rfl, w106, q107, h105⟩ := h103.sl (D := 3) (cs' := [.sl 45]) (by kernel_rfl)
  obtain ⟨c0_2, rfl, m109⟩ := VI.rows_map (fun a : (List ((List UInt8) × Bool × Int)) => [.sl 3 (a.map (fun a : (List UInt8) × Bool × Int => [.str a.1, .v (.bool a.2.1), .v (.int .i64 a.2.2)])) false]) (fun a : (List ((List UInt8) × Bool × Int)) => (a.length ≤ maxLen ∧ ∀ b ∈ a, (fun a : (List UInt8) × Bool × Int => a.1.length ≤ maxLen ∧ (-9223372036854775808 ≤ a.2.2 ∧ a.2.2 ≤ 9223372036854775807)) b)) (fun r hr => by
      have h110 := q107 r hr
      obtain ⟨r115, _, rfl, w113, q114, h112⟩ := h110.sl (D := 2) (cs' := [.str, .bool, .int .i64]) (by kernel_rfl)
      obtain ⟨x111, rfl, m116⟩ := VI.rows_map (fun a : (List UInt8) × Bool × Int => [.str a.1, .v (.bool a.2.1), .v (.int .i64 a.2.2)]) (fun a : (List UInt8) × Bool × Int => a.1.length ≤ maxLen ∧ (-9223372036854775808 ≤ a.2.2 ∧ a.2.2 ≤ 9223372036854775807)) (fun r hr => by
          have h117 := q114 r hr
          obtain ⟨x118, _, rfl, w120, h119⟩ := h117.str
          obtain ⟨x121, _, rfl, h122⟩ := h119.bool
          obtain ⟨x123, _, rfl, w125, h124⟩ := h122.int
          obtain rfl := h124.nil
          exact ⟨(x118, x121, x123), rfl, ⟨w120, VI.rng_i64 w125⟩⟩)
      obtain rfl := h112.nil
      exact ⟨x111, rfl, (And.intro (show x111.length ≤ maxLen by simpa using w113) m116)⟩)
  obtain ⟨c0_3, _, rfl, w127, h126⟩ := h105.int
  obtain ⟨c0_4, _, rfl, w129, h128⟩ := h126.int
  obtain ⟨c0_5, _, rfl, h130⟩ := h128.bool
  obtain rfl := h130.nil
  have wc0_0 := VI.rng_i64 w102
  have wc0_1 := VI.rng_i64 w104
  have wc0_2 := (And.intro (show c0_2.length ≤ maxLen by simpa using w106) m109)
  have wc0_3 := VI.rng_i64 w127
  have wc0_4 := VI.rng_i64 w129
  have bk0 := Nat.le_trans bd0 (bulk0 (hcond _ rfl))
  obtain ⟨n1, e1, w1⟩ := VI.read_int (k := .u8) (by kernel_rfl) (hval 1 5 v1 rfl rfl) h1
  replace w1 := VI.rng_u8 w1
  clear hA0 hval0
  obtain ⟨L, h⟩ := VI.c4 c0_0 c0_1 c0_2 c0_3 c0_4 c0_5 bk0 n1 w1
  refine (VI.law_calls (hseq := VI.noSeq fun _ => rfl) (E := VI.E) (vs := #[v0, v1]) (w := W) h VI.extOK (VI.noGlob VI.E_glob) (VI.args_of (vs := [v0, v1]) ⟨e0, e1, trivial⟩)).mono fun e W' ⟨he, hg⟩ => ?_
  subst he
  exact ⟨_, rfl, VI.post_of_old (pa := p0 ++ (p1 ++ ([]))) (pv := []) hW' (fun _ _ _ => (trodAll_cons_mk (shut_bool Tryd.underlying4 _) trodAll_mk0)) (fun sp hs => (trodAll_cons_mk (VI.stays laid (by kernel_rfl) (of_decide_eq_true (by kernel_rfl)) h0 hg (fun p hp => hW'.lt p (by simp [hp])) sp (fun p hp => hs p (by simp [hp]))) (trodAll_cons_mk (VI.stays laid (by kernel_rfl) (of_decide_eq_true (by kernel_rfl)) h1 hg (fun p hp => hW'.lt p (by simp [hp])) sp (fun p hp => hs p (by simp [hp]))) trodAll_mk0))) (fun _ _ => rfl) hg (by simp)⟩

theorem over : Rows.menusShiftUptoRow.holds Tryd.pinned (Rows.OpenSpec.upto Rows.menusShiftSpec) :=
  OpenClaim.holds_of_cond 4 Tryd.f4 rfl rfl rfl rfl rfl rfl rfl ⟨rfl, rfl, rfl, rfl, rfl⟩ rfl rfl rfl rfl rfl (by kernel_rfl) Tryd.func4 (by kernel_rfl)
    (of_decide_eq_true (by kernel_rfl)) (by unfold Func.isWrapper; first | (rw [if_pos (by decide +kernel)]; kernel_rfl) | (rw [if_neg (by decide +kernel)]; exact ⟨rfl, rfl⟩))
    (fun os started H enc _ F => by rw [OpenClaim.pre_eq_preRow]; exact lifted os started H enc F)

theorem proved : Rows.MenusShiftUptoCardSaid :=
  Claim7.holds_tied_plain_at .later [] [.data, .pinned] true (true, "78f756686a46c1d90ab8fbf95253137b5110baff33a9438962c52d410cf0889f") false over (fun _ h => by cases h) (by kernel_rfl) (fun _ h => by cases h) menusShiftUpto_row_tie rfl ⟨rfl, rfl⟩ (by kernel_rfl) rfl
    (fun f fn hf hfn => by
      obtain rfl : f = 4 := Option.some.inj ((show Tryd.prog.funcNamed Rows.menusShiftUptoRow.func = some 4 by kernel_rfl).symm.trans hf) |>.symm
      obtain rfl : fn = Tryd.f4 := (Option.some.inj (Tryd.func4.symm.trans hfn)).symm
      exact ⟨by kernel_rfl, fun j t ht => by
        rw [Tryd.params4] at ht
        have hm : t ∈ [24, 5] := by simpa using Array.mem_of_getElem? ht
        have hall : ([24, 5].all fun u => !Tryd.prog.wantsStandIn u) = true := by kernel_rfl
        exact (show Tryd.prog.wantsStandIn t = false by simpa using List.all_eq_true.1 hall t hm)⟩)
    (by kernel_rfl)
end Go.Proofs.YtdhcingoplkkgaaDoor.menusShiftUpto
namespace Go.Proofs.YtdhcingoplkkgaaDoor
theorem menusShiftUpto_holds : Rows.MenusShiftUptoCardSaid := menusShiftUpto.proved
#print axioms menusShiftUpto_holds
end Go.Proofs.YtdhcingoplkkgaaDoor
