/- 'Rows.TopScriptIndependenceSaid'. Its frame began as the shell that proof-skeleton printed for another law. -/
import Derived.Test.YtbilphkejchpfaaDoorZTSI7
import Derived.Test.YtbilphkejchpfaaDoorRows
import Derived.WalkKit
import Derived.ProofKit
import Derived.OpenShut
import Derived.SizedLaws
import Derived.Test.YtbilphkejchpfaaDoorCards
import Derived.Test.YtbilphkejchpfaaDoorTie
import Derived.LaidLaws
import Derived.Lay
import Derived.SevenTiedAt
import Derived.MakeChecks
import Derived.Stop.Joined
import Derived.ChangeMaps5
namespace Go.Proofs.YtbilphkejchpfaaDoor.topScriptIndependence
open Go.ChangeShapes Go.WideShapes Go.ChangeAt Go.RowKit
set_option linter.unusedVariables false
set_option linter.unusedSimpArgs false

theorem own : ownKnob Tryd.prog.godebug = none := by kernel_rfl
theorem laid : laidOutB Tryd.prog = true := by kernel_rfl

theorem tabd0 : (Rows.laid_narrator_scriptverify_pops : DataW Unit) = Lib.tabData .i64 VI.popsL := by kernel_rfl
theorem tab0 {W : World} (h : laidMetH Tryd.prog Rows.topScriptIndependenceRow.laid W) : Lib.TabIs Tryd.prog W "narrator/scriptverify.pops" .i64 VI.popsL := by
  rw [MakeChecks.laidMetH_plain _ _ _ (by kernel_rfl)] at h
  have h2 : laidMet Tryd.prog (("narrator/scriptverify.pops", (Rows.laid_narrator_scriptverify_pops : DataW Unit)) :: _) W := (VI.laid_tail (VI.laid_tail (VI.laid_tail (VI.laid_tail h))))
  rw [tabd0] at h2
  exact Lib.tabIs_of_head (t := 90) (e := 3) (n := 21) (g := 0) (by kernel_rfl) (by kernel_rfl) Tryd.underlying90 Tryd.underlying3 (by kernel_rfl) (by kernel_rfl) h2

theorem tabd1 : (Rows.laid_narrator_scriptverify_pushes : DataW Unit) = Lib.tabData .i64 VI.pushesL := by kernel_rfl
theorem tab1 {W : World} (h : laidMetH Tryd.prog Rows.topScriptIndependenceRow.laid W) : Lib.TabIs Tryd.prog W "narrator/scriptverify.pushes" .i64 VI.pushesL := by
  rw [MakeChecks.laidMetH_plain _ _ _ (by kernel_rfl)] at h
  have h2 : laidMet Tryd.prog (("narrator/scriptverify.pushes", (Rows.laid_narrator_scriptverify_pushes : DataW Unit)) :: _) W := (VI.laid_tail (VI.laid_tail (VI.laid_tail (VI.laid_tail (VI.laid_tail h)))))
  rw [tabd1] at h2
  exact Lib.tabIs_of_head (t := 90) (e := 3) (n := 21) (g := 1) (by kernel_rfl) (by kernel_rfl) Tryd.underlying90 Tryd.underlying3 (by kernel_rfl) (by kernel_rfl) h2

theorem tabd2 : (Rows.laid_internal_strconv_uint64pow10 : DataW Unit) = Lib.tabData .u64 Lib.pow10Tab := by kernel_rfl
theorem tab2 {W : World} (h : laidMetH Tryd.prog Rows.topScriptIndependenceRow.laid W) : Lib.TabIs Tryd.prog W "internal/strconv.uint64pow10" .u64 Lib.pow10Tab := by
  rw [MakeChecks.laidMetH_plain _ _ _ (by kernel_rfl)] at h
  have h2 : laidMet Tryd.prog (("internal/strconv.uint64pow10", (Rows.laid_internal_strconv_uint64pow10 : DataW Unit)) :: _) W := (VI.laid_tail (VI.laid_tail h))
  rw [tabd2] at h2
  exact Lib.tabIs_of_head (t := 138) (e := 127) (n := 20) (g := 2) (by kernel_rfl) (by kernel_rfl) Tryd.underlying138 Tryd.underlying127 (by kernel_rfl) (by kernel_rfl) h2

set_option maxRecDepth 100000 in
theorem lifted (os : Os) (started : os.Started) (H : Type) (enc : TypeId × Value → H) :
    ReturnsInHanded {} Tryd.checked os 3 .any (fun w args => (Rows.topScriptIndependenceSpec.pre enc Tryd.prog Tryd.f3 Rows.topScriptIndependenceRow.domain false w args ∧ laidMetH Tryd.prog Rows.topScriptIndependenceRow.laid w) ∧ sizedMet enc Tryd.prog Tryd.f3 (OpenSpec.ofChange Rows.topScriptIndependenceSpec) false w args) (Rows.topScriptIndependenceSpec.post enc Tryd.prog Tryd.f3 false true false false) := by
  refine returnsInHanded_of_change_and (C := Tryd.checked) (X := fun w _ => laidMetH Tryd.prog Rows.topScriptIndependenceRow.laid w) (fun _ _ _ hh h => h.of_heap hh) own started (by kernel_rfl) Tryd.func3
    (ChangeSpec.witness_shaped (enc := enc) (C := Tryd.checked) (os := os) (X := fun w _ => laidMetH Tryd.prog Rows.topScriptIndependenceRow.laid w) false (World.laidAll Tryd.prog os Rows.topScriptIndependenceRow.laid) #[.slice none 0 0, .int .i64 0, .slice none 0 0, .slice none 0 0, .agg #[.int .i64 0, .int .i64 0, .int .i64 0]] 8 (World.laidAll_os _ _ _)
      (World.shaped_of_ZipB (by kernel_rfl) (by kernel_rfl)) (by kernel_rfl) (by kernel_rfl) (by kernel_rfl)
      (by rw [MakeChecks.laidMetH_plain _ _ _ (by kernel_rfl)]; exact laidMet_laidAll _ (by kernel_rfl) (by kernel_rfl))) ?_
  intro W base args ds gs before hval0 hW hcnd hsz hL _
  have hval : ∀ (j : Nat) t v, Tryd.f3.params[j]? = some t → args[j]? = some v → Value.okWide Tryd.prog W .any base t v := hval0
  have hW' := hW
  obtain ⟨p, q, hA0, hV, rfl, hfz, hnd⟩ := hW
  have hA : DataW.TrodAll enc Tryd.prog W 0 (fun _ => true) true Tryd.f3.params.toList args.toList ds p := hA0
  rw [Tryd.params3] at hA hval
  obtain ⟨v0, vs0, d0, ds0, p0, q0, hargs, rfl, rfl, h0, r0⟩ := trodAll_cons hA
  obtain ⟨v1, vs1, d1, ds1, p1, q1, hargs1, rfl, rfl, h1, r1⟩ := trodAll_cons r0
  obtain ⟨v2, vs2, d2, ds2, p2, q2, hargs2, rfl, rfl, h2, r2⟩ := trodAll_cons r1
  obtain ⟨v3, vs3, d3, ds3, p3, q3, hargs3, rfl, rfl, h3, r3⟩ := trodAll_cons r2
  obtain ⟨v4, vs4, d4, ds4, p4, q4, hargs4, rfl, rfl, h4, r4⟩ := trodAll_cons r3
  obtain ⟨rfl, rfl, rfl⟩ := trodAll_nil r4
  subst hargs4
  subst hargs3
  subst hargs2
  subst hargs1
  obtain rfl : args = #[v0, v1, v2, v3, v4] := by cases args; simp_all
  obtain ⟨rfl, rfl⟩ := trodVars_none hV
  obtain ⟨rw0, e0, ln0, q0⟩ := VI.read_sl laid (e := 44) (D := 2) (cs := [.int .i64, .int .i64]) (of_decide_eq_true (by kernel_rfl)) (by kernel_rfl) (by kernel_rfl) (by kernel_rfl) (hval 0 22 v0 rfl rfl) h0
  obtain ⟨l0, rfl, m101⟩ := VI.rows_map (fun a : Int × Int => [.v (.int .i64 a.1), .v (.int .i64 a.2)]) (fun a : Int × Int => (-9223372036854775808 ≤ a.1 ∧ a.1 ≤ 9223372036854775807) ∧ (-9223372036854775808 ≤ a.2 ∧ a.2 ≤ 9223372036854775807)) (fun r hr => by
      have h102 := q0 r hr
      obtain ⟨x103, _, rfl, w105, h104⟩ := h102.int
      obtain ⟨x106, _, rfl, w108, h107⟩ := h104.int
      obtain rfl := h107.nil
      exact ⟨(x103, x106), rfl, ⟨VI.rng_i64 w105, VI.rng_i64 w108⟩⟩)
  replace ln0 : l0.length ≤ maxLen := by simpa using ln0
  have w0 := m101
  have sz0 : l0.length * 16 ≤ 0x7ffffffff000 := Nat.le_trans (Nat.mul_le_mul_right _ (by simpa using VI.sl_dlen (e := 44) (by kernel_rfl) h0 e0)) (VI.weight_at (t := 22) (e := 44) 0 hsz (by rw [Tryd.params3]; rfl) rfl (by kernel_rfl))
  rw [show Tryd.prog.cellsOf 44 = 2 from by kernel_rfl] at e0
  obtain ⟨n1, e1, w1⟩ := VI.read_int (k := .i64) (by kernel_rfl) (hval 1 3 v1 rfl rfl) h1
  replace w1 := VI.rng_i64 w1
  obtain ⟨rw2, e2, ln2, q2⟩ := VI.read_sl laid (e := 89) (D := 2) (cs := [.str, .bool, .int .i64]) (of_decide_eq_true (by kernel_rfl)) (by kernel_rfl) (by kernel_rfl) (by kernel_rfl) (hval 2 23 v2 rfl rfl) h2
  obtain ⟨l2, rfl, m109⟩ := VI.rows_map (fun a : (List UInt8) × Bool × Int => [.str a.1, .v (.bool a.2.1), .v (.int .i64 a.2.2)]) (fun a : (List UInt8) × Bool × Int => a.1.length ≤ maxLen ∧ (-9223372036854775808 ≤ a.2.2 ∧ a.2.2 ≤ 9223372036854775807)) (fun r hr => by
      have h110 := q2 r hr
      obtain ⟨x111, _, rfl, w113, h112⟩ := h110.str
      obtain ⟨x114, _, rfl, h115⟩ := h112.bool
      obtain ⟨x116, _, rfl, w118, h117⟩ := h115.int
      obtain rfl := h117.nil
      exact ⟨(x111, x114, x116), rfl, ⟨w113, VI.rng_i64 w118⟩⟩)
  replace ln2 : l2.length ≤ maxLen := by simpa using ln2
  have w2 := m109
  have sz2 : l2.length * 32 ≤ 0x7ffffffff000 := Nat.le_trans (Nat.mul_le_mul_right _ (by simpa using VI.sl_dlen (e := 89) (by kernel_rfl) h2 e2)) (VI.weight_at (t := 23) (e := 89) 2 hsz (by rw [Tryd.params3]; rfl) rfl (by kernel_rfl))
  rw [show Tryd.prog.cellsOf 89 = 3 from by kernel_rfl] at e2
  obtain ⟨rw3, e3, ln3, q3⟩ := VI.read_sl laid (e := 89) (D := 2) (cs := [.str, .bool, .int .i64]) (of_decide_eq_true (by kernel_rfl)) (by kernel_rfl) (by kernel_rfl) (by kernel_rfl) (hval 3 23 v3 rfl rfl) h3
  obtain ⟨l3, rfl, m119⟩ := VI.rows_map (fun a : (List UInt8) × Bool × Int => [.str a.1, .v (.bool a.2.1), .v (.int .i64 a.2.2)]) (fun a : (List UInt8) × Bool × Int => a.1.length ≤ maxLen ∧ (-9223372036854775808 ≤ a.2.2 ∧ a.2.2 ≤ 9223372036854775807)) (fun r hr => by
      have h120 := q3 r hr
      obtain ⟨x121, _, rfl, w123, h122⟩ := h120.str
      obtain ⟨x124, _, rfl, h125⟩ := h122.bool
      obtain ⟨x126, _, rfl, w128, h127⟩ := h125.int
      obtain rfl := h127.nil
      exact ⟨(x121, x124, x126), rfl, ⟨w123, VI.rng_i64 w128⟩⟩)
  replace ln3 : l3.length ≤ maxLen := by simpa using ln3
  have w3 := m119
  have sz3 : l3.length * 32 ≤ 0x7ffffffff000 := Nat.le_trans (Nat.mul_le_mul_right _ (by simpa using VI.sl_dlen (e := 89) (by kernel_rfl) h3 e3)) (VI.weight_at (t := 23) (e := 89) 3 hsz (by rw [Tryd.params3]; rfl) rfl (by kernel_rfl))
  rw [show Tryd.prog.cellsOf 89 = 3 from by kernel_rfl] at e3
  obtain ⟨cs4, e4, q4⟩ := VI.read_agg laid (D := 2) (cs := [.int .i64, .int .i64, .int .i64]) (of_decide_eq_true (by kernel_rfl)) (by kernel_rfl) (by kernel_rfl) (hval 4 25 v4 rfl rfl) h4
  obtain ⟨c4_0, _, rfl, w130, h129⟩ := q4.int
  obtain ⟨c4_1, _, rfl, w132, h131⟩ := h129.int
  obtain ⟨c4_2, _, rfl, w134, h133⟩ := h131.int
  obtain rfl := h133.nil
  have wc4_0 := VI.rng_i64 w130
  have wc4_1 := VI.rng_i64 w132
  have wc4_2 := VI.rng_i64 w134
  clear hA0 hval0
  obtain ⟨L, h⟩ := VI.c3 l0 ln0 n1 w1 l2 ln2 w2 l3 ln3 w3 c4_0 c4_1 c4_2 ⟨wc4_0, wc4_1, wc4_2⟩
  refine (VI.law_calls (hseq := VI.seqOK) (E := VI.E) (vs := #[v0, v1, v2, v3, v4]) (w := W) h VI.extOK (VI.globs3 (tab0 hL) (tab1 hL) (tab2 hL)) (VI.args_of (vs := [v0, v1, v2, v3, v4]) ⟨e0, e1, e2, e3, e4, trivial⟩)).mono fun e W' ⟨he, hg⟩ => ?_
  subst he
  exact ⟨_, rfl, VI.post_of_old (pa := p0 ++ (p1 ++ (p2 ++ (p3 ++ (p4 ++ ([])))))) (pv := []) hW' (fun _ _ _ => (trodAll_cons_mk (shut_bool Tryd.underlying4 _) trodAll_mk0)) (fun sp hs => (trodAll_cons_mk (VI.stays laid (by kernel_rfl) (of_decide_eq_true (by kernel_rfl)) h0 hg (fun p hp => hW'.lt p (by simp [hp])) sp (fun p hp => hs p (by simp [hp]))) (trodAll_cons_mk (VI.stays laid (by kernel_rfl) (of_decide_eq_true (by kernel_rfl)) h1 hg (fun p hp => hW'.lt p (by simp [hp])) sp (fun p hp => hs p (by simp [hp]))) (trodAll_cons_mk (VI.stays laid (by kernel_rfl) (of_decide_eq_true (by kernel_rfl)) h2 hg (fun p hp => hW'.lt p (by simp [hp])) sp (fun p hp => hs p (by simp [hp]))) (trodAll_cons_mk (VI.stays laid (by kernel_rfl) (of_decide_eq_true (by kernel_rfl)) h3 hg (fun p hp => hW'.lt p (by simp [hp])) sp (fun p hp => hs p (by simp [hp]))) (trodAll_cons_mk (VI.stays laid (by kernel_rfl) (of_decide_eq_true (by kernel_rfl)) h4 hg (fun p hp => hW'.lt p (by simp [hp])) sp (fun p hp => hs p (by simp [hp]))) trodAll_mk0)))))) (fun _ _ => rfl) hg (by simp)⟩

theorem over : Rows.topScriptIndependenceRow.holds Tryd.pinned (OpenSpec.ofChange Rows.topScriptIndependenceSpec) :=
  OpenClaim.holds_of_wide 3 Tryd.f3 rfl rfl rfl rfl rfl rfl rfl ⟨rfl, rfl, rfl, rfl, rfl⟩ rfl rfl rfl rfl rfl (by kernel_rfl) Tryd.func3 (by kernel_rfl)
    (of_decide_eq_true (by kernel_rfl)) (by unfold Func.isWrapper; first | (rw [if_pos (by decide +kernel)]; kernel_rfl) | (rw [if_neg (by decide +kernel)]; exact ⟨rfl, rfl⟩))
    (fun os started H enc _ => lifted os started H enc)

theorem proved : Rows.TopScriptIndependenceCardSaid :=
  Claim7.holds_tied_plain_at .later [] [.data, .data, .data, .data, .data, .data, .pinned] true (true, "9bee98e081bb31ff43df4771d55548558f323a84c6798de2f63255ceaa79daef") false over (fun _ h => by cases h) (by kernel_rfl) (fun _ h => by cases h) topScriptIndependence_row_tie rfl ⟨rfl, rfl⟩ (by kernel_rfl) rfl
    (fun f fn hf hfn => by
      obtain rfl : f = 3 := Option.some.inj ((show Tryd.prog.funcNamed Rows.topScriptIndependenceRow.func = some 3 by kernel_rfl).symm.trans hf) |>.symm
      obtain rfl : fn = Tryd.f3 := (Option.some.inj (Tryd.func3.symm.trans hfn)).symm
      exact ⟨by kernel_rfl, fun j t ht => by
        rw [Tryd.params3] at ht
        have hm : t ∈ [22, 3, 23, 23, 25] := by simpa using Array.mem_of_getElem? ht
        have hall : ([22, 3, 23, 23, 25].all fun u => !Tryd.prog.wantsStandIn u) = true := by kernel_rfl
        exact (show Tryd.prog.wantsStandIn t = false by simpa using List.all_eq_true.1 hall t hm)⟩)
    (by kernel_rfl)
end Go.Proofs.YtbilphkejchpfaaDoor.topScriptIndependence
namespace Go.Proofs.YtbilphkejchpfaaDoor
theorem topScriptIndependence_holds : Rows.TopScriptIndependenceCardSaid := topScriptIndependence.proved
#print axioms topScriptIndependence_holds
end Go.Proofs.YtbilphkejchpfaaDoor
