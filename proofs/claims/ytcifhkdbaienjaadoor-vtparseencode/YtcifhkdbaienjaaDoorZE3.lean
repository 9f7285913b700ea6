import Derived.ChangeSame
import Derived.ChangeSlices
import Derived.WideShapes
import Derived.RowKit
import Derived.WideKeyArgs
import Derived.ChangeArms
import Derived.ChangeReads
import Derived.ChangeMaps5
import Derived.Lib.Bytealg
import Derived.Lib.ItoaNum
import Derived.Lib.SlTrimSet
import Derived.Test.YtcifhkdbaienjaaDoorZE2
set_option linter.unusedSimpArgs false
set_option linter.unusedVariables false
set_option linter.unusedSimpArgs false
set_option linter.unusedVariables false
namespace Go.VI
section
variable {E : Env} {cl cl' : CallF}

def CLe (cl cl' : CallF) : Prop := ∀ f a H r, cl f a H = some r → cl' f a H = some r
def XLe (ex ex' : Exec) : Prop := ∀ B f c fr H r, ex B f c fr H = some r → ex' B f c fr H = some r

theorem exCl_le (h : CLe cl cl') : CLe (exCl E cl) (exCl E cl') := by
  intro f a H r hr
  unfold exCl at hr ⊢
  split
  · rename_i g hg; rw [hg] at hr; exact hr
  · rename_i hg; rw [hg] at hr; exact h _ _ _ _ hr
theorem iso_le (h : CLe cl cl') : CLe (callIso E cl) (callIso E cl') := by
  intro f a H r hr
  unfold callIso at hr ⊢
  cases hp : (prepE E f H a) with
  | none => rw [hp] at hr; cases hr
  | some x =>
    obtain ⟨as, H1⟩ := x
    rw [hp] at hr
    simp only at hr ⊢
    split at hr
    · cases hr
    · rename_i r0 L hc
      rw [exCl_le h _ _ _ _ hc]
      exact hr
theorem evOp_le (h : CLe cl cl') {o : Op} {fr : Fr} {H : Hp} {r : AV × Hp} (hr : evOp E cl o fr H = some r) : evOp E cl' o fr H = some r := by
  unfold evOp at hr ⊢
  split at hr
  · split at hr
    · split at hr
      · rename_i g as hg he
        rw [if_pos he]
        exact iso_le h _ _ _ _ hr
      · cases hr
    · cases hr
  · exact hr
theorem evOps_le (h : CLe cl cl') {ops : List Oper} : ∀ {l : List Oper} {fr : Fr} {H : Hp} {r : Fr × Hp}, evOps E cl ops l fr H = some r → evOps E cl' ops l fr H = some r
  | [], fr, H, r, hr => hr
  | o :: l, fr, H, r, hr => by
    simp only [evOps] at hr ⊢
    split at hr
    · split at hr
      · rename_i v H' hv
        rw [evOp_le h hv]
        exact evOps_le h hr
      · cases hr
    · exact evOps_le h hr
    · cases hr
theorem stp_le (h : CLe cl cl') {ops : List Oper} {o : Oper} {fr : Fr} {H : Hp} {r : Fr × Hp × List Nat} (hr : stp E cl ops o fr H = some r) : stp E cl' ops o fr H = some r := by
  unfold stp at hr ⊢
  split at hr
  · split at hr
    · rename_i v H' hv
      rw [evOp_le h hv]
      exact hr
    · cases hr
  · exact hr
  · cases hr
theorem evT_le (h : CLe cl cl') {ops : List Oper} : ∀ {l : List Oper} {fr : Fr} {H : Hp} {r : Fr × Hp × List (List Nat)}, evT E cl ops l fr H = some r → evT E cl' ops l fr H = some r
  | [], fr, H, r, hr => hr
  | o :: l, fr, H, r, hr => by
    simp only [evT] at hr ⊢
    split at hr
    · rename_i fr1 H1 t hs
      rw [stp_le h hs]
      simp only
      split at hr
      · rename_i fr2 H2 ts ht
        rw [evT_le h ht]
        exact hr
      · cases hr
    · cases hr
theorem evOpD_le (h : CLe cl cl') {c : Nat} {o : Op} {fr : Fr} {H : Hp} {r : AV × Hp} (hr : evOpD E cl c o fr H = some r) : evOpD E cl' c o fr H = some r := by
  unfold evOpD at hr ⊢
  cases hf : isFresh o with
  | true => rw [hf] at hr; exact hr
  | false => rw [hf] at hr; exact evOp_le h hr
theorem evD_le (h : CLe cl cl') {ops : List Oper} : ∀ {l : List Oper} {c : Nat} {fr : Fr} {H : Hp} {r : Fr × Hp × List (List Nat)}, evD E cl ops c l fr H = some r → evD E cl' ops c l fr H = some r
  | [], c, fr, H, r, hr => hr
  | o :: l, c, fr, H, r, hr => by
    simp only [evD] at hr ⊢
    split at hr
    · split at hr
      · rename_i v H' hv
        rw [evOpD_le h hv]
        simp only
        split at hr
        · rename_i fr2 H2 ts ht
          rw [evD_le h ht]
          exact hr
        · cases hr
      · cases hr
    · split at hr
      · rename_i fr2 H2 ts ht
        rw [evD_le h ht]
        exact hr
      · cases hr
    · cases hr
theorem loc_le {ex ex' : Exec} (h : XLe ex ex') : CLe (callLoc E ex) (callLoc E ex') := by
  intro f a H r hr
  unfold callLoc at hr ⊢
  split at hr
  · rename_i fn hfn
    split at hr
    · rename_i c hc
      split at hr
      · rename_i hok
        simp only [hok, if_true]
        rw [if_pos ⟨trivial, trivial⟩]
        cases hx : ex H.length f c (frameOf 0 a) H with
        | none => rw [hx] at hr; cases hr
        | some x => rw [h _ _ _ _ _ _ hx, ← hx]; exact hr
      · cases hr
    · cases hr
  · cases hr
theorem exec_le : ∀ n, XLe (exec E n) (exec E (n + 1)) := by
  intro n
  induction n with
  | zero => intro B f c fr H r h; simp [exec] at h
  | succ n ih =>
    intro B f c fr H r h
    have hcl : CLe (callLoc E (exec E n)) (callLoc E (exec E (n + 1))) := loc_le ih
    cases c with
    | region id ops draw =>
      cases draw with
      | false =>
        rw [exec] at h ⊢
        split at h
        · rename_i fr' H' hv
          rw [evOps_le hcl hv]; exact h
        · cases h
      | true =>
        rw [exec] at h ⊢
        cases hhol : E.hol f id with
        | true =>
          rw [hhol] at h
          simp only at h ⊢
          split at h
          · rename_i fr' H' tr hv
            rw [evD_le hcl hv]; exact h
          · cases h
        | false =>
          rw [hhol] at h
          simp only at h ⊢
          split at h
          · rename_i fr' H' tr hv
            rw [evT_le hcl hv]; exact h
          · cases h
    | seq a b =>
      rw [exec] at h ⊢
      cases hx : exec E n B f a fr H with
      | none => rw [hx] at h; cases h
      | some x =>
        rw [hx] at h
        rw [ih _ _ _ _ _ _ hx]
        obtain ⟨ex, fr', H'⟩ := x
        cases ex with
        | normal => exact ih _ _ _ _ _ _ h
        | exit id => exact h
        | ret => exact h
    | cond c a b =>
      rw [exec] at h ⊢
      split at h
      · exact ih _ _ _ _ _ _ h
      · exact ih _ _ _ _ _ _ h
      · cases h
    | block id c =>
      rw [exec] at h ⊢
      cases hx : exec E n B f c fr H with
      | none => rw [hx] at h; cases h
      | some x =>
        rw [hx] at h
        rw [ih _ _ _ _ _ _ hx]
        exact h
    | loop c =>
      rw [exec] at h ⊢
      cases hx : exec E n B f c (hdE E B f ((firstRegion c).getD 0) fr H).1 (hdE E B f ((firstRegion c).getD 0) fr H).2 with
      | none => rw [hx] at h; cases h
      | some x =>
        rw [hx] at h
        rw [ih _ _ _ _ _ _ hx]
        obtain ⟨ex, fr', H'⟩ := x
        cases ex with
        | normal => exact ih _ _ _ _ _ _ h
        | exit id => exact h
        | ret => exact h
    | scope c => rw [exec] at h ⊢; exact ih _ _ _ _ _ _ h
    | _ => exact h
theorem exec_mono {n m : Nat} (h : n ≤ m) : XLe (exec E n) (exec E m) := by
  induction h with
  | refl => exact fun _ _ _ _ _ _ h => h
  | step _ ih => exact fun B f c fr H r h => exec_le _ _ _ _ _ _ _ (ih B f c fr H r h)

open Classical in
noncomputable def execT (E : Env) : Exec := fun B f c fr H => if h : ∃ n r, exec E n B f c fr H = some r then some (Classical.choose (Classical.choose_spec h)) else none
theorem execT_iff {B : Nat} {f : FuncId} {c : Code} {fr : Fr} {H : Hp} {r : Ex × Fr × Hp} : execT E B f c fr H = some r ↔ ∃ n, exec E n B f c fr H = some r := by
  unfold execT
  split
  · rename_i h
    have hs := Classical.choose_spec (Classical.choose_spec h)
    constructor
    · intro e
      exact ⟨_, by rw [hs]; exact e⟩
    · rintro ⟨n, hn⟩
      have h1 := exec_mono (Nat.le_max_left (Classical.choose h) n) _ _ _ _ _ _ hs
      have h2 := exec_mono (Nat.le_max_right (Classical.choose h) n) _ _ _ _ _ _ hn
      rw [h1] at h2
      exact h2
  · rename_i h
    constructor
    · intro e; cases e
    · rintro ⟨n, hn⟩; exact absurd ⟨n, r, hn⟩ h
noncomputable def callT (E : Env) : CallF := callLoc E (execT E)

theorem cle_T (n : Nat) : CLe (callLoc E (exec E n)) (callT E) := loc_le fun B f c fr H r h => execT_iff.2 ⟨n, h⟩
theorem cle_nm {n m : Nat} (h : n ≤ m) : CLe (callLoc E (exec E n)) (callLoc E (exec E m)) := loc_le (exec_mono h)
theorem callT_lim {f : FuncId} {a : List AV} {H : Hp} {r : AV × Hp} (hr : callT E f a H = some r) : ∃ n, callLoc E (exec E n) f a H = some r := by
  unfold callT callLoc at hr
  unfold callLoc
  split at hr
  · rename_i fn hfn
    split at hr
    · rename_i c hc
      split at hr
      · rename_i hok
        cases hx : execT E H.length f c (frameOf 0 a) H with
        | none => rw [hx] at hr; cases hr
        | some x =>
          obtain ⟨n, hn⟩ := execT_iff.1 hx
          refine ⟨n, ?_⟩
          rw [if_pos hok, hn, ← hx]; exact hr
      · cases hr
    · cases hr
  · cases hr
theorem exCl_lim {f : FuncId} {a : List AV} {H : Hp} {r : AV × Hp} (hr : exCl E (callT E) f a H = some r) : ∃ n, exCl E (callLoc E (exec E n)) f a H = some r := by
  unfold exCl at hr ⊢
  cases hg : E.ext f with
  | some g => rw [hg] at hr; exact ⟨0, hr⟩
  | none => rw [hg] at hr; exact callT_lim hr
theorem iso_lim {f : FuncId} {a : List AV} {H : Hp} {r : AV × Hp} (hr : callIso E (callT E) f a H = some r) : ∃ n, callIso E (callLoc E (exec E n)) f a H = some r := by
  unfold callIso at hr
  cases hp : (prepE E f H a) with
  | none => rw [hp] at hr; cases hr
  | some x =>
    obtain ⟨as, H1⟩ := x
    rw [hp] at hr
    simp only at hr
    split at hr
    · cases hr
    · rename_i r0 L hc
      obtain ⟨n, hn⟩ := exCl_lim hc
      refine ⟨n, ?_⟩
      unfold callIso
      rw [hp]
      simp only
      rw [hn]; exact hr
theorem evOp_lim {o : Op} {fr : Fr} {H : Hp} {r : AV × Hp} (hr : evOp E (callT E) o fr H = some r) : ∃ n, evOp E (callLoc E (exec E n)) o fr H = some r := by
  unfold evOp at hr
  split at hr
  · rename_i f args tys
    split at hr
    · rename_i g as hg
      split at hr
      · rename_i he
        obtain ⟨n, hn⟩ := iso_lim hr
        refine ⟨n, ?_⟩
        simp only [evOp, hg, he, if_true, hn]
      · cases hr
    · cases hr
  · rename_i hno
    refine ⟨0, ?_⟩
    unfold evOp
    split
    · exact absurd rfl (hno _ _ _)
    · exact hr
theorem evOps_lim {ops : List Oper} : ∀ {l : List Oper} {fr : Fr} {H : Hp} {r : Fr × Hp}, evOps E (callT E) ops l fr H = some r → ∃ n, evOps E (callLoc E (exec E n)) ops l fr H = some r
  | [], fr, H, r, hr => ⟨0, hr⟩
  | o :: l, fr, H, r, hr => by
    simp only [evOps] at hr ⊢
    cases hg : guardE ops fr o with
    | none => rw [hg] at hr; cases hr
    | some b =>
      rw [hg] at hr
      cases b with
      | false => exact evOps_lim hr
      | true =>
        simp only at hr ⊢
        split at hr
        · rename_i v H' hv
          obtain ⟨n, hn⟩ := evOp_lim hv
          obtain ⟨m, hm⟩ := evOps_lim hr
          refine ⟨max n m, ?_⟩
          rw [evOp_le (cle_nm (Nat.le_max_left n m)) hn]
          exact evOps_le (cle_nm (Nat.le_max_right n m)) hm
        · cases hr
theorem stp_lim {ops : List Oper} {o : Oper} {fr : Fr} {H : Hp} {r : Fr × Hp × List Nat} (hr : stp E (callT E) ops o fr H = some r) : ∃ n, stp E (callLoc E (exec E n)) ops o fr H = some r := by
  unfold stp at hr
  cases hg : guardE ops fr o with
  | none => rw [hg] at hr; cases hr
  | some b =>
    rw [hg] at hr
    cases b with
    | false => exact ⟨0, by unfold stp; rw [hg]; exact hr⟩
    | true =>
      simp only at hr
      split at hr
      · rename_i v H' hv
        obtain ⟨n, hn⟩ := evOp_lim hv
        refine ⟨n, ?_⟩
        unfold stp
        rw [hg, hn]; exact hr
      · cases hr
theorem evT_lim {ops : List Oper} : ∀ {l : List Oper} {fr : Fr} {H : Hp} {r : Fr × Hp × List (List Nat)}, evT E (callT E) ops l fr H = some r → ∃ n, evT E (callLoc E (exec E n)) ops l fr H = some r
  | [], fr, H, r, hr => ⟨0, hr⟩
  | o :: l, fr, H, r, hr => by
    simp only [evT] at hr ⊢
    split at hr
    · rename_i fr1 H1 t hs
      split at hr
      · rename_i fr2 H2 ts ht
        obtain ⟨n, hn⟩ := stp_lim hs
        obtain ⟨m, hm⟩ := evT_lim ht
        refine ⟨max n m, ?_⟩
        rw [stp_le (cle_nm (Nat.le_max_left n m)) hn]
        simp only
        rw [evT_le (cle_nm (Nat.le_max_right n m)) hm]
        exact hr
      · cases hr
    · cases hr

variable {B : Nat} {f : FuncId} {fr : Fr} {H : Hp} {id : Nat}
theorem execT_skip : execT E B f .skip fr H = some (.normal, fr, H) := execT_iff.2 ⟨1, rfl⟩
theorem execT_label (l : Nat) : execT E B f (.label l) fr H = some (.normal, fr, H) := execT_iff.2 ⟨1, rfl⟩
theorem execT_ret : execT E B f .ret fr H = some (.ret, fr, H) := execT_iff.2 ⟨1, rfl⟩
theorem execT_exit (id : Nat) : execT E B f (.exit id) fr H = some (.exit id, fr, H) := execT_iff.2 ⟨1, rfl⟩
def regK (E : Env) (f : FuncId) (id : Nat) (r : Option (Fr × Hp)) : Option (Ex × Fr × Hp) := match r with
  | some (fr', H') => some (.normal, norm (E.keep f id) fr', H')
  | none => none
def regTK (E : Env) (f : FuncId) (id : Nat) (r : Option (Fr × Hp × List (List Nat))) : Option (Ex × Fr × Hp) := match r with
  | some (fr', H', tr) => if (E.flo f id).all (floatOk tr) = true then some (.normal, norm (E.keep f id) fr', H') else none
  | none => none
theorem execT_region (id : Nat) (ops : Array Oper) : execT E B f (.region id ops false) fr H = regK E f id (evOps E (callT E) ops.toList ops.toList fr H) := by
  refine Option.ext fun r => ?_
  rw [execT_iff]
  constructor
  · rintro ⟨n, h⟩
    cases n with
    | zero => simp [exec] at h
    | succ n =>
      simp only [exec] at h
      split at h
      · rename_i fr' H' hv
        rw [evOps_le (cle_T n) hv]; exact h
      · cases h
  · intro h
    cases hv : evOps E (callT E) ops.toList ops.toList fr H with
    | none => rw [hv] at h; cases h
    | some x =>
      obtain ⟨n, hn⟩ := evOps_lim hv
      refine ⟨n + 1, ?_⟩
      rw [hv] at h
      simp only [exec]
      rw [hn]; exact h
theorem execT_draw (hh : E.hol f id = false) (ops : Array Oper) : execT E B f (.region id ops true) fr H = regTK E f id (evT E (callT E) ops.toList ops.toList fr H) := by
  refine Option.ext fun r => ?_
  rw [execT_iff]
  constructor
  · rintro ⟨n, h⟩
    cases n with
    | zero => simp [exec] at h
    | succ n =>
      simp only [exec, hh] at h
      split at h
      · rename_i fr' H' tr hv
        rw [evT_le (cle_T n) hv]; exact h
      · cases h
  · intro h
    cases hv : evT E (callT E) ops.toList ops.toList fr H with
    | none => rw [hv] at h; cases h
    | some x =>
      obtain ⟨n, hn⟩ := evT_lim hv
      refine ⟨n + 1, ?_⟩
      rw [hv] at h
      simp only [exec, hh]
      rw [hn]; exact h
theorem evT_evOps {cl : CallF} {ops : List Oper} : ∀ (l : List Oper) (fr : Fr) (H : Hp), (evT E cl ops l fr H).map (fun x => (x.1, x.2.1)) = evOps E cl ops l fr H
  | [], fr, H => rfl
  | o :: l, fr, H => by
    simp only [evT, stp, evOps]
    cases guardE ops fr o with
    | none => rfl
    | some b =>
      cases b with
      | false =>
        simp only
        rw [← evT_evOps l]
        cases evT E cl ops l (putD o.dst (.tup []) fr) H <;> rfl
      | true =>
        simp only
        cases evOp E cl o.op fr H with
        | none => rfl
        | some x =>
          simp only
          rw [← evT_evOps l]
          cases evT E cl ops l (putD o.dst x.1 fr) x.2 <;> rfl
theorem execT_draw0 (hh : E.hol f id = false) (hfl : E.flo f id = []) (ops : Array Oper) : execT E B f (.region id ops true) fr H = regK E f id (evOps E (callT E) ops.toList ops.toList fr H) := by
  rw [execT_draw hh, ← evT_evOps]
  cases evT E (callT E) ops.toList ops.toList fr H with
  | none => rfl
  | some x =>
    obtain ⟨fr', H', tr⟩ := x
    simp only [regTK, hfl, List.all_nil, if_true, Option.map_some, regK]
def seqK (k : Fr → Hp → Option (Ex × Fr × Hp)) (r : Option (Ex × Fr × Hp)) : Option (Ex × Fr × Hp) := match r with
  | some (.normal, fr', H') => k fr' H'
  | r => r
theorem execT_seq (a b : Code) : execT E B f (.seq a b) fr H = seqK (execT E B f b) (execT E B f a fr H) := by
  refine Option.ext fun r => ?_
  rw [execT_iff]
  constructor
  · rintro ⟨n, h⟩
    cases n with
    | zero => simp [exec] at h
    | succ n =>
      rw [exec] at h
      cases hx : exec E n B f a fr H with
      | none => rw [hx] at h; cases h
      | some x =>
        rw [hx] at h
        rw [execT_iff.2 ⟨n, hx⟩]
        obtain ⟨ex, fr', H'⟩ := x
        cases ex with
        | normal => exact execT_iff.2 ⟨n, h⟩
        | exit id => exact h
        | ret => exact h
  · intro h
    cases hx : execT E B f a fr H with
    | none => rw [hx] at h; cases h
    | some x =>
      rw [hx] at h
      obtain ⟨n, hn⟩ := execT_iff.1 hx
      obtain ⟨ex, fr', H'⟩ := x
      cases ex with
      | normal =>
        obtain ⟨m, hm⟩ := execT_iff.1 h
        refine ⟨max n m + 1, ?_⟩
        rw [exec, exec_mono (Nat.le_max_left n m) _ _ _ _ _ _ hn]
        exact exec_mono (Nat.le_max_right n m) _ _ _ _ _ _ hm
      | exit id => exact ⟨n + 1, by rw [exec, hn]; exact h⟩
      | ret => exact ⟨n + 1, by rw [exec, hn]; exact h⟩
theorem execT_loop (c : Code) : execT E B f (.loop c) fr H = seqK (execT E B f (.loop c)) (execT E B f c (hdE E B f ((firstRegion c).getD 0) fr H).1 (hdE E B f ((firstRegion c).getD 0) fr H).2) := by
  refine Option.ext fun r => ?_
  rw [execT_iff]
  constructor
  · rintro ⟨n, h⟩
    cases n with
    | zero => simp [exec] at h
    | succ n =>
      rw [exec] at h
      cases hx : exec E n B f c (hdE E B f ((firstRegion c).getD 0) fr H).1 (hdE E B f ((firstRegion c).getD 0) fr H).2 with
      | none => rw [hx] at h; cases h
      | some x =>
        rw [hx] at h
        rw [execT_iff.2 ⟨n, hx⟩]
        obtain ⟨ex, fr', H'⟩ := x
        cases ex with
        | normal => exact execT_iff.2 ⟨n, h⟩
        | exit id => exact h
        | ret => exact h
  · intro h
    cases hx : execT E B f c (hdE E B f ((firstRegion c).getD 0) fr H).1 (hdE E B f ((firstRegion c).getD 0) fr H).2 with
    | none => rw [hx] at h; cases h
    | some x =>
      rw [hx] at h
      obtain ⟨n, hn⟩ := execT_iff.1 hx
      obtain ⟨ex, fr', H'⟩ := x
      cases ex with
      | normal =>
        obtain ⟨m, hm⟩ := execT_iff.1 h
        refine ⟨max n m + 1, ?_⟩
        rw [exec, exec_mono (Nat.le_max_left n m) _ _ _ _ _ _ hn]
        exact exec_mono (Nat.le_max_right n m) _ _ _ _ _ _ hm
      | exit id => exact ⟨n + 1, by rw [exec, hn]; exact h⟩
      | ret => exact ⟨n + 1, by rw [exec, hn]; exact h⟩
def condK (v : AV) (a b : Option (Ex × Fr × Hp)) : Option (Ex × Fr × Hp) := match v with
  | .i (.v (.bool true)) => a
  | .i (.v (.bool false)) => b
  | _ => none
theorem condK_dec (p : Prop) [Decidable p] (a b : Option (Ex × Fr × Hp)) : condK (.i (.v (.bool (decide p)))) a b = if p then a else b := by
  by_cases h : p <;> simp [h, condK]
theorem execT_cond (c : Operand) (a b : Code) : execT E B f (.cond c a b) fr H = condK (opd E fr c) (execT E B f a fr H) (execT E B f b fr H) := by
  refine Option.ext fun r => ?_
  rw [execT_iff]
  constructor
  · rintro ⟨n, h⟩
    cases n with
    | zero => simp [exec] at h
    | succ n =>
      rw [exec] at h
      split at h
      · rename_i hc
        rw [hc]; exact execT_iff.2 ⟨n, h⟩
      · rename_i hc
        rw [hc]; exact execT_iff.2 ⟨n, h⟩
      · cases h
  · intro h
    unfold condK at h
    split at h
    · rename_i hc
      obtain ⟨n, hn⟩ := execT_iff.1 h
      exact ⟨n + 1, by rw [exec, hc]; exact hn⟩
    · rename_i hc
      obtain ⟨n, hn⟩ := execT_iff.1 h
      exact ⟨n + 1, by rw [exec, hc]; exact hn⟩
    · cases h
def blockK (id : Nat) (r : Option (Ex × Fr × Hp)) : Option (Ex × Fr × Hp) := match r with
  | some (.exit j, fr', H') => if j = id then some (.normal, fr', H') else some (.exit j, fr', H')
  | r => r
theorem execT_block (id : Nat) (c : Code) : execT E B f (.block id c) fr H = blockK id (execT E B f c fr H) := by
  refine Option.ext fun r => ?_
  rw [execT_iff]
  constructor
  · rintro ⟨n, h⟩
    cases n with
    | zero => simp [exec] at h
    | succ n =>
      rw [exec] at h
      cases hx : exec E n B f c fr H with
      | none => rw [hx] at h; cases h
      | some x =>
        rw [hx] at h
        rw [execT_iff.2 ⟨n, hx⟩]
        exact h
  · intro h
    cases hx : execT E B f c fr H with
    | none => rw [hx] at h; cases h
    | some x =>
      rw [hx] at h
      obtain ⟨n, hn⟩ := execT_iff.1 hx
      exact ⟨n + 1, by rw [exec, hn]; exact h⟩
theorem execT_scope (c : Code) : execT E B f (.scope c) fr H = execT E B f c fr H := by
  refine Option.ext fun r => ?_
  rw [execT_iff, execT_iff]
  constructor
  · rintro ⟨n, h⟩
    cases n with
    | zero => simp [exec] at h
    | succ n => exact ⟨n, by simpa only [exec] using h⟩
  · rintro ⟨n, h⟩
    exact ⟨n + 1, by simpa only [exec] using h⟩

def endK (E : Env) (f : FuncId) (B : Nat) (rs : List ResultVar) (r : Option (Ex × Fr × Hp)) : Option (AV × Hp) := match r with
  | some (.exit _, _, _) => none
  | some (_, fr, H') => match resE E fr H' rs with
    | some r => retE E f B H' r
    | none => none
  | none => none
theorem callT_eq {fn : Func} {c : Code} {args : List AV} (hf : E.P.funcs[f]? = some fn) (hc : fn.body = some c) (hok : fnOk E f = true) (hl : args.length ≤ fn.ntmps) :
    callT E f args H = endK E f H.length fn.results.toList (execT E H.length f c (frameOf 0 args) H) := by
  unfold callT callLoc endK
  rw [hf]
  simp only [hc]
  rw [if_pos ⟨hok, hl⟩]
  cases execT E H.length f c (frameOf 0 args) H with
  | none => rfl
  | some x =>
    obtain ⟨ex, fr, H'⟩ := x
    cases ex <;> rfl
theorem callT_ok (hext : ExtOK E) : CallOK E (callT E) := by
  intro f args H r H' h
  obtain ⟨n, hn⟩ := callT_lim h
  exact call_ok hext n f args H r H' hn
theorem callT_of {n : Nat} {args : List AV} {r : AV × Hp} (h : call E n f args H = some r) : callT E f args H = some r := cle_T n _ _ _ _ h
end
end Go.VI

set_option linter.unusedSimpArgs false
set_option linter.unusedVariables false
namespace Go.VI
open Go.WideShapes Go.ChangeShapes
section
variable {E : Env}

def imm0 (w : World) : Imm := fun b => w.heap[b]?
def eta0 : Eta := fun _ => none
theorem conc_start (w : World) (hg : ∀ g cells, E.glob g = some cells → RelI (imm0 w) (.pt cells 0) (.pointer (some ⟨g, 0, none⟩))) : Conc E (imm0 w) eta0 [] w :=
  ⟨fun b o h => h, fun c x h => by simp at h, fun c c' b n n' h => by simp [eta0] at h, fun c b n h => by simp [eta0] at h, hg⟩

structure Old (w w' : World) : Prop where
  os : w'.os = w.os
  output : w'.output = w.output
  heap : ∀ b, b < w.heap.size → w'.heap[b]? = w.heap[b]?
theorem Old.kept {w w' : World} (h : Old w w') (may : MemPlace → Prop) : w.keptBut w' may := by
  refine ⟨h.os, h.output, fun i hi => ?_⟩
  rw [h.heap i hi]
  cases hh : w.heap[i]? with
  | none => rfl
  | some o => cases o <;> simp
theorem old_of {w w' : World} {I' : Imm} {η' : Eta} (hT : Trans (imm0 w) eta0 w I' η' w') : Old w w' :=
  ⟨hT.os, hT.output, fun b hb => hT.frame b hb fun c n h => by simp [eta0] at h⟩

theorem law_calls {f : FuncId} {args : List AV} {vs : Array Value} {w : World} {H' : Hp} (h : callT E f args [] = some (.i (.v (.bool true)), H')) (hext : ExtOK E) (hg : ∀ g cells, E.glob g = some cells → RelI (imm0 w) (.pt cells 0) (.pointer (some ⟨g, 0, none⟩)))
    (hA : ArgsOK (imm0 w) eta0 [] args vs) : Calls E.P f vs w fun e w' => e = .returned (.bool true) ∧ Old w w' :=
  (callT_ok hext f args [] _ H' h _ _ w vs (conc_start w hg) hA).mono fun e w' he => by
    obtain ⟨x, rfl, I2, η2, _, k2, _, k4⟩ := he
    exact ⟨congrArg _ (relA_v k4), old_of k2⟩

theorem args_nil {I η H} : ArgsOK I η H [] #[] := ⟨rfl, fun k a h => by simp at h⟩
def RelAs (I : Imm) (η : Eta) (H : Hp) : List AV → List Value → Prop
  | [], [] => True
  | a :: as, v :: vs => RelA I η H a v ∧ RelAs I η H as vs
  | _, _ => False
theorem args_of {I η H} : ∀ {as : List AV} {vs : List Value}, RelAs I η H as vs → ArgsOK I η H as vs.toArray
  | [], [], _ => args_nil
  | a :: as, v :: vs, h => by
    have ih := args_of h.2
    refine ⟨by simpa using ih.1, fun k b hk => ?_⟩
    cases k with
    | zero => simp at hk; subst hk; simpa using h.1
    | succ k => simpa using ih.2 k b (by simpa using hk)
  | [], _ :: _, h => h.elim
  | _ :: _, [], h => h.elim
theorem post_of_old {H : Type} {enc : TypeId × Value → H} {P : Program} {f : Func} {s : ChangeSpec} {apart fresh handsOn : Bool} {W W' : World} {args : Array Value} {v : Value} {ds gs : List (DataW H)} {before pa pv : List MemPlace}
    (hW : DataW.Whole enc P f.params.toList s.vars apart W args.toList ds gs before)
    (hres : ∀ (b : Nat) (sp : Nat → Bool) (hd : Bool), DataW.TrodAll enc P W' b sp hd f.resultTypes.toList (v.resultList f.resultTypes.size) (s.fn H (ds ++ gs)).results [])
    (hargs : ∀ sp : Nat → Bool, (∀ p ∈ before, sp p.block = true) → DataW.TrodAll enc P W' 0 sp true f.params.toList args.toList (s.fn H (ds ++ gs)).args pa)
    (hvars : ∀ sp : Nat → Bool, (∀ p ∈ before, sp p.block = true) → DataW.TrodVars enc P W' sp s.vars (s.fn H (ds ++ gs)).vars pv)
    (hold : Old W W') (hps : before = pa ++ pv) : s.post enc P f apart fresh handsOn false W args v W' := by
  have hlt : ∀ p ∈ before, (fun b => decide (b < W.heap.size)) p.block = true := fun p hp => by simpa using hW.lt p hp
  exact ⟨ds, gs, before, [], pa, pv, hW, hres _ _ _, hargs _ hlt, hvars _ hlt, hold.kept _, fun h => by cases h⟩
end
end Go.VI

set_option linter.unusedSimpArgs false
set_option linter.unusedVariables false
namespace Go.VI
section
variable {E : Env} {cl : CallF} {ops : List Oper} {fr : Fr} {H : Hp} {f : FuncId}

def opK (E : Env) (cl : CallF) (ops : List Oper) (dst : Option Nat) (r : List Oper) (fr : Fr) : Option (AV × Hp) → Option (Fr × Hp)
  | some (v, H') => evOps E cl ops r (putD dst v fr) H'
  | none => none
def gV (want : Bool) : AV → Option Bool
  | .i (.v (.bool b)) => some (b == want)
  | .tup [] => some false
  | _ => none
def gB (ops : List Oper) (fr : Fr) (j : Nat) (want : Bool) : Option Bool :=
  match (ops[j]?).bind (·.dst) with
  | some d => gV want (get d fr)
  | none => none
def guK (E : Env) (cl : CallF) (ops : List Oper) (dst : Option Nat) (op : Op) (r : List Oper) (fr : Fr) (H : Hp) : Option Bool → Option (Fr × Hp)
  | some true => opK E cl ops dst r fr (evOp E cl op fr H)
  | some false => evOps E cl ops r (putD dst (.tup []) fr) H
  | none => none
theorem opK_some (dst : Option Nat) (r : List Oper) (v : AV) (H' : Hp) : opK E cl ops dst r fr (some (v, H')) = evOps E cl ops r (putD dst v fr) H' := rfl
theorem guK_t (dst : Option Nat) (op : Op) (r : List Oper) : guK E cl ops dst op r fr H (some true) = opK E cl ops dst r fr (evOp E cl op fr H) := rfl
theorem guK_f (dst : Option Nat) (op : Op) (r : List Oper) : guK E cl ops dst op r fr H (some false) = evOps E cl ops r (putD dst (.tup []) fr) H := rfl
theorem gV_b (b want : Bool) : gV want (.i (.v (.bool b))) = some (b == want) := rfl
theorem gV_u (want : Bool) : gV want (.tup []) = some false := rfl
theorem evOps_nil : evOps E cl ops [] fr H = some (fr, H) := rfl
theorem evOps_cons (dst : Option Nat) (op : Op) (ty : TypeId) (pos : String) (af : Array Edge) (r : List Oper) : evOps E cl ops (⟨dst, op, ty, pos, af, none⟩ :: r) fr H = opK E cl ops dst r fr (evOp E cl op fr H) := by
  simp only [evOps, guardE]
  cases evOp E cl op fr H with
  | none => rfl
  | some x => rfl
theorem guard_gB (dst : Option Nat) (op : Op) (ty : TypeId) (pos : String) (af : Array Edge) (j : Nat) (w : Bool) : guardE ops fr ⟨dst, op, ty, pos, af, some (j, w)⟩ = gB ops fr j w := by
  simp only [guardE, gB]
  cases (ops[j]?).bind (·.dst) with
  | none => rfl
  | some d => simp only [gV]; rfl
theorem evOps_guard (dst : Option Nat) (op : Op) (ty : TypeId) (pos : String) (af : Array Edge) (j : Nat) (w : Bool) (r : List Oper) : evOps E cl ops (⟨dst, op, ty, pos, af, some (j, w)⟩ :: r) fr H = guK E cl ops dst op r fr H (gB ops fr j w) := by
  simp only [evOps, guard_gB]
  cases gB ops fr j w with
  | none => rfl
  | some b =>
    cases b with
    | false => rfl
    | true =>
      simp only [guK]
      cases evOp E cl op fr H with
      | none => rfl
      | some x => rfl

def tK (t : List Nat) : Option (Fr × Hp × List (List Nat)) → Option (Fr × Hp × List (List Nat))
  | some (fr2, H2, ts) => some (fr2, H2, t :: ts)
  | none => none
def opT (E : Env) (cl : CallF) (ops : List Oper) (dst : Option Nat) (op : Op) (r : List Oper) (fr : Fr) (H : Hp) : Option (AV × Hp) → Option (Fr × Hp × List (List Nat))
  | some (v, H') => tK (touch E fr H op ++ List.range' H.length (H'.length - H.length)) (evT E cl ops r (putD dst v fr) H')
  | none => none
def guT (E : Env) (cl : CallF) (ops : List Oper) (dst : Option Nat) (op : Op) (r : List Oper) (fr : Fr) (H : Hp) : Option Bool → Option (Fr × Hp × List (List Nat))
  | some true => opT E cl ops dst op r fr H (evOp E cl op fr H)
  | some false => tK [] (evT E cl ops r (putD dst (.tup []) fr) H)
  | none => none
theorem tK_some (t : List Nat) (fr2 : Fr) (H2 : Hp) (ts : List (List Nat)) : tK t (some (fr2, H2, ts)) = some (fr2, H2, t :: ts) := rfl
theorem opT_some (dst : Option Nat) (op : Op) (r : List Oper) (v : AV) (H' : Hp) : opT E cl ops dst op r fr H (some (v, H')) = tK (touch E fr H op ++ List.range' H.length (H'.length - H.length)) (evT E cl ops r (putD dst v fr) H') := rfl
theorem guT_t (dst : Option Nat) (op : Op) (r : List Oper) : guT E cl ops dst op r fr H (some true) = opT E cl ops dst op r fr H (evOp E cl op fr H) := rfl
theorem guT_f (dst : Option Nat) (op : Op) (r : List Oper) : guT E cl ops dst op r fr H (some false) = tK [] (evT E cl ops r (putD dst (.tup []) fr) H) := rfl
theorem evT_nil : evT E cl ops [] fr H = some (fr, H, []) := rfl
theorem evT_cons (dst : Option Nat) (op : Op) (ty : TypeId) (pos : String) (af : Array Edge) (r : List Oper) : evT E cl ops (⟨dst, op, ty, pos, af, none⟩ :: r) fr H = opT E cl ops dst op r fr H (evOp E cl op fr H) := by
  simp only [evT, stp, guardE]
  cases evOp E cl op fr H with
  | none => rfl
  | some x => simp only [opT, tK]; rfl
theorem evT_guard (dst : Option Nat) (op : Op) (ty : TypeId) (pos : String) (af : Array Edge) (j : Nat) (w : Bool) (r : List Oper) : evT E cl ops (⟨dst, op, ty, pos, af, some (j, w)⟩ :: r) fr H = guT E cl ops dst op r fr H (gB ops fr j w) := by
  simp only [evT, stp, guard_gB]
  cases gB ops fr j w with
  | none => rfl
  | some b =>
    cases b with
    | false => simp only [guT, tK]; rfl
    | true =>
      simp only [guT]
      cases evOp E cl op fr H with
      | none => rfl
      | some x => simp only [opT, tK]; rfl

def opD (E : Env) (cl : CallF) (ops : List Oper) (c : Nat) (dst : Option Nat) (op : Op) (r : List Oper) (fr : Fr) (H : Hp) : Option (AV × Hp) → Option (Fr × Hp × List (List Nat))
  | some (v, H') => tK (touchD E c fr H op ++ List.range' H.length (H'.length - H.length)) (evD E cl ops (stepC c op) r (putD dst v fr) H')
  | none => none
def guD (E : Env) (cl : CallF) (ops : List Oper) (c : Nat) (dst : Option Nat) (op : Op) (r : List Oper) (fr : Fr) (H : Hp) : Option Bool → Option (Fr × Hp × List (List Nat))
  | some true => opD E cl ops c dst op r fr H (evOpD E cl c op fr H)
  | some false => tK [] (evD E cl ops (stepC c op) r (putD dst (.tup []) fr) H)
  | none => none
theorem opD_some (c : Nat) (dst : Option Nat) (op : Op) (r : List Oper) (v : AV) (H' : Hp) : opD E cl ops c dst op r fr H (some (v, H')) = tK (touchD E c fr H op ++ List.range' H.length (H'.length - H.length)) (evD E cl ops (stepC c op) r (putD dst v fr) H') := rfl
theorem guD_t (c : Nat) (dst : Option Nat) (op : Op) (r : List Oper) : guD E cl ops c dst op r fr H (some true) = opD E cl ops c dst op r fr H (evOpD E cl c op fr H) := rfl
theorem guD_f (c : Nat) (dst : Option Nat) (op : Op) (r : List Oper) : guD E cl ops c dst op r fr H (some false) = tK [] (evD E cl ops (stepC c op) r (putD dst (.tup []) fr) H) := rfl
theorem guD_dec (c : Nat) (dst : Option Nat) (op : Op) (r : List Oper) (p : Prop) [Decidable p] : guD E cl ops c dst op r fr H (some (decide p)) = if p then opD E cl ops c dst op r fr H (evOpD E cl c op fr H) else tK [] (evD E cl ops (stepC c op) r (putD dst (.tup []) fr) H) := by by_cases h : p <;> simp [h, guD]
theorem guD_b (c : Nat) (dst : Option Nat) (op : Op) (r : List Oper) (b : Bool) : guD E cl ops c dst op r fr H (some b) = if b = true then opD E cl ops c dst op r fr H (evOpD E cl c op fr H) else tK [] (evD E cl ops (stepC c op) r (putD dst (.tup []) fr) H) := by cases b <;> rfl
theorem evD_nil (c : Nat) : evD E cl ops c [] fr H = some (fr, H, []) := rfl
theorem evD_op (c : Nat) (dst : Option Nat) (op : Op) (ty : TypeId) (pos : String) (af : Array Edge) (r : List Oper) : evD E cl ops c (⟨dst, op, ty, pos, af, none⟩ :: r) fr H = opD E cl ops c dst op r fr H (evOpD E cl c op fr H) := by
  simp only [evD, guardE]
  cases evOpD E cl c op fr H with
  | none => rfl
  | some x => simp only [opD, tK]; rfl
theorem evD_guard (c : Nat) (dst : Option Nat) (op : Op) (ty : TypeId) (pos : String) (af : Array Edge) (j : Nat) (w : Bool) (r : List Oper) : evD E cl ops c (⟨dst, op, ty, pos, af, some (j, w)⟩ :: r) fr H = guD E cl ops c dst op r fr H (gB ops fr j w) := by
  simp only [evD, guard_gB]
  cases gB ops fr j w with
  | none => rfl
  | some b =>
    cases b with
    | false => simp only [guD, tK]; rfl
    | true =>
      simp only [guD]
      cases evOpD E cl c op fr H with
      | none => rfl
      | some x => simp only [opD, tK]; rfl
theorem putH_hole (c : Nat) (r : Option (Option Nat × Chunk)) : putH c H r (some (.sl 0 0 [] true)) = match r with | some (k, ch) => some (mkR c k, H.set c ch) | none => none := rfl

def crK (args : List AV) : Option (List AV × Hp) → List Nat
  | some (as, H1) => refsL args ++ reach H1 64 (refsL as) []
  | none => []
theorem crK_some (args as : List AV) (H1 : Hp) : crK args (some (as, H1)) = refsL args ++ reach H1 64 (refsL as) [] := rfl
theorem cr_prep {f : FuncId} (args : List AV) : calleeR E f args H = crK args (prepE E f H args) := by
  unfold calleeR crK; cases prepE E f H args <;> rfl
theorem reach_nil (n : Nat) (seen : List Nat) : reach H n [] seen = seen := by cases n <;> rfl
def tcK (E : Env) (H : Hp) (args : List AV) : AV → List Nat
  | .clo (.func g) first caps => calleeR E g (first ++ args ++ caps) H
  | _ => []
theorem tcK_f (args : List AV) (g : Nat) (first caps : List AV) : tcK E H args (.clo (.func g) first caps) = calleeR E g (first ++ args ++ caps) H := rfl
theorem touch_call (x : Operand) (args : Array Operand) (tys : Array TypeId) : touch E fr H (.call ⟨.value x, args, tys⟩) = tcK E H (args.toList.map (opd E fr)) (opd E fr x) := by
  simp only [touch, calleeE, tcK]
  split
  · rename_i g as hg
    split at hg
    · rename_i g' first caps hx
      simp only [Option.some.injEq, Prod.mk.injEq] at hg
      obtain ⟨rfl, rfl⟩ := hg
      rw [hx]
    · cases hg
  · rename_i hg
    split at hg
    · cases hg
    · rename_i hne
      split
      · rename_i g first caps hx; exact absurd hx (hne _ _ _)
      · rfl
theorem touch_bi (b : Builtin) (args : Array Operand) (tys : Array TypeId) : touch E fr H (.call ⟨.builtin b, args, tys⟩) = refsL (args.toList.map (opd E fr)) := rfl
theorem touch_load (t : TypeId) (x : Operand) : touch E fr H (.load t x) = refsA (opd E fr x) := rfl
theorem touch_ia (t : TypeId) (x i : Operand) : touch E fr H (.indexAddr t x i) = refsA (opd E fr x) := rfl
theorem touch_slice (t : TypeId) (x : Operand) (lo hi mx : Option Operand) : touch E fr H (.slice t x lo hi mx) = refsA (opd E fr x) := rfl
theorem touch_store (t : TypeId) (a x : Operand) : touch E fr H (.store t a x) = refsA (opd E fr a) ++ refsA (opd E fr x) := rfl
theorem touch_bs (t : TypeId) (n : Nat) (ps : Array (Nat × Operand)) : touch E fr H (.buildSlice t n ps) = buildRefs E t n (ps.toList.map fun p => (p.1, opd E fr p.2)) := rfl

theorem touch_move (x : Operand) : touch E fr H (.move x) = [] := rfl
theorem touch_assign (x : Operand) : touch E fr H (.assign x) = [] := rfl
theorem touch_pick (a b c : Operand) : touch E fr H (.pick a b c) = [] := rfl
theorem touch_bin (op : BinOp) (t u : TypeId) (x y : Operand) : touch E fr H (.binOp op t x y u) = [] := rfl
theorem touch_un (op : UnOp) (t : TypeId) (x : Operand) : touch E fr H (.unOp op t x) = [] := rfl
theorem touch_conv (s d : TypeId) (x : Operand) : touch E fr H (.convert s d x) = refsA (opd E fr x) := rfl
theorem touch_range (t : TypeId) (x : Operand) : touch E fr H (.range t x) = [] := rfl
theorem touch_next (it : Operand) (b : Bool) : touch E fr H (.next it b) = refsA (opd E fr it) := rfl
theorem touch_mf (fn : Fn) (a b : Array Operand) : touch E fr H (.makeFunc fn a b) = [] := rfl
theorem touch_field (t : TypeId) (x : Operand) (k : Nat) : touch E fr H (.field t x k) = [] := rfl
theorem touch_fa (t : TypeId) (x : Operand) (k : Nat) : touch E fr H (.fieldAddr t x k) = [] := rfl
theorem touch_ix (t : TypeId) (x y : Operand) : touch E fr H (.index t x y) = [] := rfl
theorem touch_ex (x : Operand) (n : Nat) : touch E fr H (.extract x n) = [] := rfl
theorem touch_nil (x : Operand) : touch E fr H (.nilCheck x) = [] := rfl
theorem touch_bd (t : TypeId) (ps : Array (Nat × Operand)) : touch E fr H (.build t ps) = [] := rfl
theorem touch_alloc (t : TypeId) : touch E fr H (.alloc t) = [] := rfl
theorem touch_box (t : TypeId) (x : Operand) : touch E fr H (.box t x) = [] := rfl
theorem touch_ms (t : TypeId) (x y : Operand) : touch E fr H (.makeSlice t x y) = [] := rfl

theorem seqK_n (k : Fr → Hp → Option (Ex × Fr × Hp)) (fr' : Fr) (H' : Hp) : seqK k (some (.normal, fr', H')) = k fr' H' := rfl
theorem seqK_e (k : Fr → Hp → Option (Ex × Fr × Hp)) (id : Nat) (fr' : Fr) (H' : Hp) : seqK k (some (.exit id, fr', H')) = some (.exit id, fr', H') := rfl
theorem seqK_r (k : Fr → Hp → Option (Ex × Fr × Hp)) (fr' : Fr) (H' : Hp) : seqK k (some (.ret, fr', H')) = some (.ret, fr', H') := rfl
theorem regK_some (id : Nat) (fr' : Fr) (H' : Hp) : regK E f id (some (fr', H')) = some (.normal, norm (E.keep f id) fr', H') := rfl
theorem regTK_some (id : Nat) (fr' : Fr) (H' : Hp) (tr : List (List Nat)) : regTK E f id (some (fr', H', tr)) = if (E.flo f id).all (floatOk tr) = true then some (.normal, norm (E.keep f id) fr', H') else none := rfl
theorem condK_t (a b : Option (Ex × Fr × Hp)) : condK (.i (.v (.bool true))) a b = a := rfl
theorem condK_f (a b : Option (Ex × Fr × Hp)) : condK (.i (.v (.bool false))) a b = b := rfl
theorem blockK_n (id : Nat) (fr' : Fr) (H' : Hp) : blockK id (some (.normal, fr', H')) = some (.normal, fr', H') := rfl
theorem blockK_r (id : Nat) (fr' : Fr) (H' : Hp) : blockK id (some (.ret, fr', H')) = some (.ret, fr', H') := rfl
theorem blockK_e (id j : Nat) (fr' : Fr) (H' : Hp) : blockK id (some (.exit j, fr', H')) = if j = id then some (.normal, fr', H') else some (.exit j, fr', H') := rfl
def endR (E : Env) (f : FuncId) (B : Nat) (H : Hp) : Option AV → Option (AV × Hp)
  | some r => retE E f B H r
  | none => none
theorem endR_some (B : Nat) (r : AV) : endR E f B H (some r) = retE E f B H r := rfl
theorem endK_r (B : Nat) (rs : List ResultVar) (fr' : Fr) (H' : Hp) : endK E f B rs (some (.ret, fr', H')) = endR E f B H' (resE E fr' H' rs) := by
  simp only [endK, endR] <;> rfl
theorem endK_n (B : Nat) (rs : List ResultVar) (fr' : Fr) (H' : Hp) : endK E f B rs (some (.normal, fr', H')) = endR E f B H' (resE E fr' H' rs) := by
  simp only [endK, endR] <;> rfl
def rtK (E : Env) (f : FuncId) (B : Nat) (H : Hp) (vs : List AV) : Bool → Option (List AV × Hp)
  | true => some (cnL B (matL (E.resk f) vs H).2 (matL (E.resk f) vs H).1, cnHs B (matL (E.resk f) vs H).2 0 (matL (E.resk f) vs H).2)
  | false => match prep H vs with
    | some (as, H1) => some (cnL B H1 (canLs (E.resk f) as), cnHs B H1 0 H1)
    | none => none
def rtP (E : Env) (f : FuncId) (B : Nat) : Option (List AV × Hp) → Option (List AV × Hp)
  | some (as, H1) => some (cnL B H1 (canLs (E.resk f) as), cnHs B H1 0 H1)
  | none => none
theorem retL_eq (B : Nat) (vs : List AV) : retL E f B H vs = rtK E f B H vs (E.own f) := by
  unfold retL rtK; cases E.own f <;> rfl
theorem rtK_f (B : Nat) (vs : List AV) : rtK E f B H vs false = rtP E f B (prep H vs) := by
  unfold rtK rtP; rfl
theorem rtK_t (B : Nat) (vs : List AV) : rtK E f B H vs true = some (cnL B (matL (E.resk f) vs H).2 (matL (E.resk f) vs H).1, cnHs B (matL (E.resk f) vs H).2 0 (matL (E.resk f) vs H).2) := rfl
theorem rtP_some (B : Nat) (as : List AV) (H1 : Hp) : rtP E f B (some (as, H1)) = some (cnL B H1 (canLs (E.resk f) as), cnHs B H1 0 H1) := rfl
theorem retE_tup (B : Nat) (vs : List AV) : retE E f B H (.tup vs) = retN (retL E f B H vs) := rfl
theorem retE_i (B : Nat) (x : IV) : retE E f B H (.i x) = ret1 (retL E f B H [.i x]) := rfl
theorem retE_agg (B : Nat) (l : List AV) : retE E f B H (.agg l) = ret1 (retL E f B H [.agg l]) := rfl
theorem retE_ref (B c g o n : Nat) : retE E f B H (.ref c g o n) = ret1 (retL E f B H [.ref c g o n]) := rfl
theorem retE_ptr (B c g r k : Nat) : retE E f B H (.ptr c g r k) = ret1 (retL E f B H [.ptr c g r k]) := rfl
theorem retE_clo (B : Nat) (fn : Fn) (a b : List AV) : retE E f B H (.clo fn a b) = ret1 (retL E f B H [.clo fn a b]) := rfl
theorem ret1_some (a : AV) (H1 : Hp) : ret1 (some ([a], H1)) = some (a, H1) := rfl
theorem retN_some (as : List AV) (H1 : Hp) : retN (some (as, H1)) = some (.tup as, H1) := rfl
theorem canI_n (x : IV) : canI none x = x := by cases x <;> rfl
theorem canI_v (k : Option Nat) (x : Value) : canI k (.v x) = .v x := by cases k <;> rfl
theorem canI_str (k : Option Nat) (x : List UInt8) : canI k (.str x) = .str x := by cases k <;> rfl
theorem canI_pt (k : Option Nat) (x : List IV) (o : Nat) : canI k (.pt x o) = .pt x o := by cases k <;> rfl
theorem canI_sl (z : Nat) (rows : List (List IV)) (ex : Bool) : canI (some z) (.sl z rows ex) = .sl z rows false := by simp [canI]
theorem canI_nil (z sz : Nat) (ex : Bool) : canI (some z) (.sl sz [] ex) = .sl z [] false := by simp only [canI]; split <;> rfl
theorem canR_nil (l : List IV) : canR [] l = l := by cases l <;> rfl
theorem canR_e (ks : List (Option Nat)) : canR ks [] = [] := by cases ks <;> rfl
theorem canR_cons (k : Option Nat) (ks : List (Option Nat)) (x : IV) (r : List IV) : canR (k :: ks) (x :: r) = canI k x :: canR ks r := rfl
theorem canC_nil (l : List AV) : canC [] l = l := by cases l <;> rfl
theorem canC_e (ks : List (Option Nat)) : canC ks [] = [] := by cases ks <;> rfl
theorem canC_i (k : Option Nat) (ks : List (Option Nat)) (x : IV) (r : List AV) : canC (k :: ks) (.i x :: r) = .i (canI k x) :: canC ks r := rfl
theorem canC_ref (k : Option Nat) (ks : List (Option Nat)) (c g o n : Nat) (r : List AV) : canC (k :: ks) (.ref c g o n :: r) = .ref c g o n :: canC ks r := rfl
theorem canC_ptr (k : Option Nat) (ks : List (Option Nat)) (c g o n : Nat) (r : List AV) : canC (k :: ks) (.ptr c g o n :: r) = .ptr c g o n :: canC ks r := rfl
theorem canC_clo (k : Option Nat) (ks : List (Option Nat)) (f : Fn) (a b : List AV) (r : List AV) : canC (k :: ks) (.clo f a b :: r) = .clo f a b :: canC ks r := rfl
theorem canA_i (k : Option Nat) (ks : List (Option Nat)) (x : IV) : canA (k :: ks) (.i x) = .i (canI k x) := rfl
theorem canA_i0 (x : IV) : canA [] (.i x) = .i x := by show AV.i (canI none x) = _; rw [canI_n]
theorem canA_agg (ks : List (Option Nat)) (l : List AV) : canA ks (.agg l) = .agg (canC ks l) := rfl
theorem canA_ref (ks : List (Option Nat)) (c g o n : Nat) : canA ks (.ref c g o n) = .ref c g o n := rfl
theorem canA_ptr (ks : List (Option Nat)) (c g o n : Nat) : canA ks (.ptr c g o n) = .ptr c g o n := rfl
theorem canA_clo (ks : List (Option Nat)) (fn : Fn) (a b : List AV) : canA ks (.clo fn a b) = .clo fn a b := rfl
theorem canA_tup (ks : List (Option Nat)) (l : List AV) : canA ks (.tup l) = .tup l := rfl
theorem canLs_nil (l : List AV) : canLs [] l = l := by cases l <;> rfl
theorem canLs_e (ks : List (List (Option Nat))) : canLs ks [] = [] := by cases ks <;> rfl
theorem canLs_cons (k : List (Option Nat)) (ks : List (List (Option Nat))) (a : AV) (r : List AV) : canLs (k :: ks) (a :: r) = canA k a :: canLs ks r := rfl
theorem matV_nil (z sz : Nat) : matV z H (.i (.sl sz [] true)) = (.ref H.length 0 0 0, H ++ [.sl z 0 [] false]) := rfl
theorem matV_false (z sz : Nat) (rows : List (List IV)) : matV z H (.i (.sl sz rows false)) = (.i (.sl sz rows false), H) := by cases rows <;> rfl
theorem matV_ref (z c g o n : Nat) : matV z H (.ref c g o n) = (.ref c g o n, H) := rfl
theorem mat1_z (z : Nat) (a : AV) : mat1 [some z] H a = matV z H a := rfl
theorem mat1_n (a : AV) : mat1 [none] H a = (a, H) := rfl
theorem mat1_0 (a : AV) : mat1 [] H a = (a, H) := rfl
theorem mat1_2 (k k' : Option Nat) (ks : List (Option Nat)) (a : AV) : mat1 (k :: k' :: ks) H a = (a, H) := by cases k <;> rfl
theorem matL_nil (l : List AV) : matL [] l H = (l, H) := by cases l <;> rfl
theorem matL_e (ks : List (List (Option Nat))) : matL ks [] H = ([], H) := by cases ks <;> rfl
theorem matL_cons (k : List (Option Nat)) (ks : List (List (Option Nat))) (a : AV) (r : List AV) : matL (k :: ks) (a :: r) H = ((mat1 k H a).1 :: (matL ks r (mat1 k H a).2).1, (matL ks r (mat1 k H a).2).2) := rfl
theorem matF_nil : matF [] fr H = (fr, H) := rfl
theorem matF_cons (k z : Nat) (r : List (Nat × Nat)) : matF ((k, z) :: r) fr H = matF r ((k, (matV z H (get k fr)).1) :: fr) (matV z H (get k fr)).2 := rfl
theorem matB_nil : matB [] fr H = H := rfl
theorem matB_cons (k j z : Nat) (r : List (Nat × Nat × Nat)) : matB ((k, j, z) :: r) fr H = matB r fr (matB2 j z H (get k fr)) := rfl
theorem matB2_ptr (j z c g r k : Nat) : matB2 j z H (.ptr c g r k) = matB1 j z c H H[c]? := rfl
def matB3 (j z c : Nat) (H : Hp) (cells : List AV) : Option AV → Hp
  | some a => (matV z H a).2.set c (.box (cells.set j (matV z H a).1))
  | none => H
theorem matB1_box (j z c : Nat) (cells : List AV) : matB1 j z c H (some (.box cells)) = matB3 j z c H cells cells[j]? := by
  unfold matB1 matB3; simp only; cases cells[j]? <;> rfl
theorem matB3_some (j z c : Nat) (cells : List AV) (a : AV) : matB3 j z c H cells (some a) = (matV z H a).2.set c (.box (cells.set j (matV z H a).1)) := rfl
theorem frzF_nil : frzF [] fr H = (fr, H) := rfl
theorem frzF_cons (k z : Nat) (r : List (Nat × Nat)) : frzF ((k, z) :: r) fr H = frzF r (frz1 k z fr H (freeze H (get k fr))).1 (frz1 k z fr H (freeze H (get k fr))).2 := rfl
theorem frz1_some (k z : Nat) (x : IV) (H1 : Hp) : frz1 k z fr H (some (x, H1)) = ((k, .i (canI (some z) x)) :: fr, H1) := rfl
theorem cnA_i (B : Nat) (x : IV) : cnA B H (.i x) = .i x := by simp [cnA]
theorem cnA_dead (B : Nat) : cnA B H .dead = .dead := by simp [cnA]
theorem cnA_agg (B : Nat) (l : List AV) : cnA B H (.agg l) = .agg (cnL B H l) := by simp [cnA]
theorem cnA_tup (B : Nat) (l : List AV) : cnA B H (.tup l) = .tup (cnL B H l) := by simp [cnA]
theorem cnA_clo (B : Nat) (f : Fn) (a b : List AV) : cnA B H (.clo f a b) = .clo f (cnL B H a) (cnL B H b) := by simp [cnA]
theorem cnA_ref (B c g o n : Nat) : cnA B H (.ref c g o n) = if c < B then .ref c g o n else cnRef c g o n H[c]? := by simp [cnA]
theorem cnA_ptr (B c g r k : Nat) : cnA B H (.ptr c g r k) = if c < B then .ptr c g r k else cnPtr c g r k H[c]? := by simp [cnA]
theorem cnRef_sl (c g o n sz g' : Nat) (rows : List (List IV)) (ex : Bool) : cnRef c g o n (some (.sl sz g' rows ex)) = if g = g' then .ref c 0 o n else .dead := rfl
theorem cnRef_fz (c g o n sz g' : Nat) (rows : List (List IV)) (ex : Bool) : cnRef c g o n (some (.fz sz g' rows ex)) = if g = g' then .i (.sl sz ((rows.drop o).take n) (ex && decide (o + n = rows.length))) else .dead := rfl
theorem cnPtr_sl (c g r k sz g' : Nat) (rows : List (List IV)) (ex : Bool) : cnPtr c g r k (some (.sl sz g' rows ex)) = if g = g' then .ptr c 0 r k else .dead := rfl
theorem cnPtr_fz (c g r k sz g' : Nat) (rows : List (List IV)) (ex : Bool) : cnPtr c g r k (some (.fz sz g' rows ex)) = .ptr c g r k := rfl
theorem cnPtr_box (c g r k : Nat) (cells : List AV) : cnPtr c g r k (some (.box cells)) = .ptr c g r k := rfl
theorem cnPtr_iter (c g r k : Nat) (s : List UInt8) (p : Nat) : cnPtr c g r k (some (.iter s p)) = .ptr c g r k := rfl
theorem cnL_nil (B : Nat) : cnL B H [] = [] := by simp [cnL]
theorem cnL_cons (B : Nat) (a : AV) (r : List AV) : cnL B H (a :: r) = cnA B H a :: cnL B H r := by simp [cnL]
theorem cnC_box (B c : Nat) (cells : List AV) : cnC B H c (.box cells) = .box (cnL B H cells) := rfl
theorem cnC_sl (B c sz g : Nat) (rows : List (List IV)) (ex : Bool) : cnC B H c (.sl sz g rows ex) = if c < B then .sl sz g rows ex else .sl sz 0 rows false := rfl
theorem cnC_fz (B c sz g : Nat) (rows : List (List IV)) (ex : Bool) : cnC B H c (.fz sz g rows ex) = .fz sz g rows ex := rfl
theorem cnC_iter (B c : Nat) (s : List UInt8) (p : Nat) : cnC B H c (.iter s p) = .iter s p := rfl
theorem cnHs_nil (B c : Nat) : cnHs B H c [] = [] := rfl
theorem cnHs_cons (B c : Nat) (x : Chunk) (r : Hp) : cnHs B H c (x :: r) = cnC B H c x :: cnHs B H (c + 1) r := rfl
theorem cnF_nil (B : Nat) : cnF B H [] = [] := rfl
theorem cnF_cons (B k : Nat) (a : AV) (r : Fr) : cnF B H ((k, a) :: r) = (k, cnA B H a) :: cnF B H r := rfl
theorem gcn_eq (B : Nat) : gcn B fr H = gc B (cnF B H fr) (cnHs B H 0 H) := rfl
def peP (E : Env) (g : FuncId) : Option (List AV × Hp) → Option (List AV × Hp)
  | some (as, H1) => some (canLs (E.argk g) as, H1)
  | none => none
theorem peP_some (g : FuncId) (as : List AV) (H1 : Hp) : peP E g (some (as, H1)) = some (canLs (E.argk g) as, H1) := rfl
theorem prepE_v {g : FuncId} (hb : E.byref g = false) (args : List AV) : prepE E g H args = peP E g (prep H args) := by
  unfold prepE peP; rw [hb]; rfl
theorem prepE_r {g : FuncId} (hb : E.byref g = true) (args : List AV) : prepE E g H args = some (matL (E.argk g) args H) := by
  unfold prepE; rw [hb]
def prK (a : AV) : Option (List AV × Hp) → Option (List AV × Hp)
  | some (as, H2) => some (a :: as, H2)
  | none => none
def prF (r : List AV) : Option (IV × Hp) → Option (List AV × Hp)
  | some (x, H1) => prK (.i x) (prep H1 r)
  | none => none
def prG (l r : List AV) (H : Hp) : Option (List IV × Hp) → Option (List AV × Hp)
  | some (xs, H1) => prK (.agg (ivs xs)) (prep H1 r)
  | none => prK (.agg l) (prep H r)
theorem prK_some (a : AV) (as : List AV) (H2 : Hp) : prK a (some (as, H2)) = some (a :: as, H2) := rfl
theorem prF_some (r : List AV) (x : IV) (H1 : Hp) : prF r (some (x, H1)) = prK (.i x) (prep H1 r) := rfl
theorem prG_some (l r : List AV) (xs : List IV) (H1 : Hp) : prG l r H (some (xs, H1)) = prK (.agg (ivs xs)) (prep H1 r) := rfl
theorem prG_none (l r : List AV) : prG l r H none = prK (.agg l) (prep H r) := rfl
theorem pr_nil : prep H [] = some ([], H) := rfl
theorem pr_i (x : IV) (r : List AV) : prep H (.i x :: r) = prK (.i x) (prep H r) := by simp only [prep]; cases prep H r <;> rfl
theorem pr_dead (r : List AV) : prep H (.dead :: r) = prK .dead (prep H r) := by simp only [prep]; cases prep H r <;> rfl
theorem pr_ptr (c g o n : Nat) (r : List AV) : prep H (.ptr c g o n :: r) = prK (.ptr c g o n) (prep H r) := by simp only [prep]; cases prep H r <;> rfl
theorem pr_clo (f : Fn) (a b : List AV) (r : List AV) : prep H (.clo f a b :: r) = prK (.clo f a b) (prep H r) := by simp only [prep]; cases prep H r <;> rfl
theorem pr_tup (l : List AV) (r : List AV) : prep H (.tup l :: r) = prK (.tup l) (prep H r) := by simp only [prep]; cases prep H r <;> rfl
theorem pr_ref (c g o n : Nat) (r : List AV) : prep H (.ref c g o n :: r) = prF r (freeze H (.ref c g o n)) := by
  simp only [prep, prF]
  cases freeze H (.ref c g o n) with
  | none => rfl
  | some p => simp only; cases prep p.2 r <;> rfl
theorem pr_agg (l : List AV) (r : List AV) : prep H (.agg l :: r) = prG l r H (freezeAll H l) := by
  simp only [prep, prG]
  cases freezeAll H l with
  | none => simp only; cases prep H r <;> rfl
  | some p => simp only; cases prep p.2 r <;> rfl
def fzK (c g o n : Nat) (H : Hp) : Option Chunk → Option (IV × Hp)
  | some (.sl sz g' rows ex) => if g = g' then some (.sl sz ((rows.drop o).take n) (ex && decide (o + n = rows.length)), H.set c (.fz sz g rows ex)) else none
  | some (.fz sz g' rows ex) => if g = g' then some (.sl sz ((rows.drop o).take n) (ex && decide (o + n = rows.length)), H) else none
  | _ => none
theorem fz_i (x : IV) : freeze H (.i x) = some (x, H) := rfl
theorem fz_ref (c g o n : Nat) : freeze H (.ref c g o n) = fzK c g o n H H[c]? := by
  simp only [freeze, fzK]
  cases H[c]? with
  | none => rfl
  | some x => cases x <;> rfl
theorem fz_ptr (c g o n : Nat) : freeze H (.ptr c g o n) = none := rfl
theorem fz_clo (f : Fn) (a b : List AV) : freeze H (.clo f a b) = none := rfl
theorem fzK_sl (c g o n sz g' : Nat) (rows : List (List IV)) (ex : Bool) : fzK c g o n H (some (.sl sz g' rows ex)) = if g = g' then some (.sl sz ((rows.drop o).take n) (ex && decide (o + n = rows.length)), H.set c (.fz sz g rows ex)) else none := rfl
theorem fzK_fz (c g o n sz g' : Nat) (rows : List (List IV)) (ex : Bool) : fzK c g o n H (some (.fz sz g' rows ex)) = if g = g' then some (.sl sz ((rows.drop o).take n) (ex && decide (o + n = rows.length)), H) else none := rfl
def faK (x : IV) : Option (List IV × Hp) → Option (List IV × Hp)
  | some (xs, H2) => some (x :: xs, H2)
  | none => none
def faF (r : List AV) : Option (IV × Hp) → Option (List IV × Hp)
  | some (x, H1) => faK x (freezeAll H1 r)
  | none => none
theorem faK_some (x : IV) (xs : List IV) (H2 : Hp) : faK x (some (xs, H2)) = some (x :: xs, H2) := rfl
theorem faK_none (x : IV) : faK x none = none := rfl
theorem faF_some (r : List AV) (x : IV) (H1 : Hp) : faF r (some (x, H1)) = faK x (freezeAll H1 r) := rfl
theorem faF_none (r : List AV) : faF r none = none := rfl
theorem fa_nil : freezeAll H [] = some ([], H) := rfl
theorem fa_cons (a : AV) (r : List AV) : freezeAll H (a :: r) = faF r (freeze H a) := by
  simp only [freezeAll, faF]
  cases freeze H a with
  | none => rfl
  | some p => simp only; cases freezeAll p.2 r <;> rfl
theorem fa_map : ∀ (l : List IV), freezeAll H (l.map .i) = some (l, H)
  | [] => rfl
  | a :: l => by simp only [List.map_cons, fa_cons, fz_i, faF_some, fa_map l, faK_some]
def pK (H : Hp) : Option AV → Option (AV × Hp)
  | some v => some (v, H)
  | none => none
theorem pK_some (v : AV) : pK H (some v) = some (v, H) := rfl
theorem map_pK (o : Option AV) : (o.map fun v => (v, H)) = pK H o := by cases o <;> rfl
theorem op_move (x : Operand) : evOp E cl (.move x) fr H = some (opd E fr x, H) := rfl
theorem op_assign (x : Operand) : evOp E cl (.assign x) fr H = some (opd E fr x, H) := rfl
def pickK (a b : AV) : AV → Option AV
  | .i (.v (.bool t)) => some (bif t then a else b)
  | _ => none
theorem op_pick (c a b : Operand) : evOp E cl (.pick c a b) fr H = pK H (pickK (opd E fr a) (opd E fr b) (opd E fr c)) := by
  rw [← map_pK]; simp only [evOp, heavy, evL, Bool.false_eq_true, if_false]
  congr 1
theorem op_load (t : TypeId) (a : Operand) : evOp E cl (.load t a) fr H = pK H (loadE E H t (opd E fr a)) := map_pK _
theorem op_bin (op : BinOp) (t u : TypeId) (x y : Operand) : evOp E cl (.binOp op t x y u) fr H = pK H (binE E.P op t (opd E fr x) (opd E fr y)) := map_pK _
theorem op_un (op : UnOp) (t : TypeId) (x : Operand) : evOp E cl (.unOp op t x) fr H = pK H (unE op (opd E fr x)) := map_pK _
theorem op_slice (t : TypeId) (x : Operand) (lo hi mx : Option Operand) : evOp E cl (.slice t x lo hi mx) fr H = pK H (sliceE E H t (opd E fr x) (lo.map (opd E fr)) (hi.map (opd E fr)) (mx.map (opd E fr))) := map_pK _
theorem op_index (t : TypeId) (x ix : Operand) : evOp E cl (.index t x ix) fr H = pK H (idxE E t (opd E fr x) (opd E fr ix)) := map_pK _
theorem op_indexAddr (t : TypeId) (x ix : Operand) : evOp E cl (.indexAddr t x ix) fr H = pK H (idxAddrE E H t (opd E fr x) (opd E fr ix)) := map_pK _
theorem op_field (t : TypeId) (x : Operand) (k : Nat) : evOp E cl (.field t x k) fr H = pK H (fieldE E t (opd E fr x) k) := map_pK _
theorem op_build (t : TypeId) (ps : Array (Nat × Operand)) : evOp E cl (.build t ps) fr H = pK H (buildE E t (ps.toList.map fun p => (p.1, opd E fr p.2))) := map_pK _
theorem op_makeFunc (fn : Fn) (first caps : Array Operand) : evOp E cl (.makeFunc fn first caps) fr H = some (.clo fn (first.toList.map (opd E fr)) (caps.toList.map (opd E fr)), H) := rfl
theorem op_light (o : Op) (h : heavy E o = false) (hn : ∀ f a t, o ≠ .call ⟨.value f, a, t⟩) : evOp E cl o fr H = pK H (evL E fr H o) := by
  rw [← map_pK]
  unfold evOp
  split
  · exact absurd rfl (hn _ _ _)
  · simp [h]
theorem op_heavy (o : Op) (h : heavy E o = true) (hn : ∀ f a t, o ≠ .call ⟨.value f, a, t⟩) : evOp E cl o fr H = evH E fr H o := by
  unfold evOp
  split
  · exact absurd rfl (hn _ _ _)
  · simp [h]
theorem op_nil (x : Operand) : evOp E cl (.nilCheck x) fr H = pK H (evL E fr H (.nilCheck x)) := map_pK _
theorem op_extract (x : Operand) (n : Nat) : evOp E cl (.extract x n) fr H = pK H (evL E fr H (.extract x n)) := map_pK _
theorem op_fieldAddr (s : TypeId) (x : Operand) (k : Nat) : evOp E cl (.fieldAddr s x k) fr H = pK H (evL E fr H (.fieldAddr s x k)) := map_pK _
theorem op_len (args : Array Operand) (tys : Array TypeId) : evOp E cl (.call ⟨.builtin .len, args, tys⟩) fr H = pK H (evL E fr H (.call ⟨.builtin .len, args, tys⟩)) := map_pK _
theorem op_max (args : Array Operand) (tys : Array TypeId) : evOp E cl (.call ⟨.builtin .max, args, tys⟩) fr H = pK H (foldE maxE (args.toList.map (opd E fr))) := map_pK _
theorem op_min (args : Array Operand) (tys : Array TypeId) : evOp E cl (.call ⟨.builtin .min, args, tys⟩) fr H = pK H (foldE minE (args.toList.map (opd E fr))) := map_pK _
theorem op_append (args : Array Operand) (tys : Array TypeId) : evOp E cl (.call ⟨.builtin .append, args, tys⟩) fr H = evH E fr H (.call ⟨.builtin .append, args, tys⟩) := rfl
theorem op_convert (s d : TypeId) (x : Operand) (h : slO E.P d = none) (hs : slO E.P s = none) : evOp E cl (.convert s d x) fr H = pK H (convE E s d (opd E fr x)) := by
  rw [op_light _ (by simp [heavy, h]) (by intro f a t e; cases e)]; simp only [evL, hs]
theorem op_convS (s d e : TypeId) (x : Operand) (h : slO E.P d = none) (hs : slO E.P s = some e) : evOp E cl (.convert s d x) fr H = pK H (convS E H e d (opd E fr x)) := by
  rw [op_light _ (by simp [heavy, h]) (by intro f a t e; cases e)]; simp only [evL, hs]
theorem op_range (t : TypeId) (x : Operand) : evOp E cl (.range t x) fr H = evH E fr H (.range t x) := rfl
theorem op_next (it : Operand) (b : Bool) : evOp E cl (.next it b) fr H = evH E fr H (.next it b) := rfl
theorem op_alloc (t : TypeId) : evOp E cl (.alloc t) fr H = evH E fr H (.alloc t) := rfl
theorem op_box (t : TypeId) (x : Operand) : evOp E cl (.box t x) fr H = evH E fr H (.box t x) := rfl
theorem op_buildSlice (t : TypeId) (n : Nat) (ps : Array (Nat × Operand)) : evOp E cl (.buildSlice t n ps) fr H = buildSliceE E H t n (ps.toList.map fun p => (p.1, opd E fr p.2)) := rfl
def stK : Option Hp → Option (AV × Hp)
  | some H' => some (.dead, H')
  | none => none
theorem stK_some (H' : Hp) : stK (some H') = some (.dead, H') := rfl
theorem op_store (t : TypeId) (a x : Operand) : evOp E cl (.store t a x) fr H = stK (storeE E H t (opd E fr a) (opd E fr x)) := by
  show (storeE E H t (opd E fr a) (opd E fr x)).map _ = _
  cases storeE E H t (opd E fr a) (opd E fr x) <;> rfl
theorem op_makeSlice (t : TypeId) (l c : Operand) : evOp E cl (.makeSlice t l c) fr H = makeSliceE E H t (opd E fr l) (opd E fr c) := rfl
def caK (E : Env) (cl : CallF) (H : Hp) (as : List AV) (g : Nat) : Bool → Option (AV × Hp)
  | true => callIso E cl g as H
  | false => none
theorem caK_t (as : List AV) (g : Nat) : caK E cl H as g true = callIso E cl g as H := rfl
def clK (E : Env) (cl : CallF) (H : Hp) (args : List AV) : AV → Option (AV × Hp)
  | .clo (.func g) first caps => caK E cl H (first ++ args ++ caps) g (enterOk E g)
  | _ => none
theorem clK_f (args : List AV) (g : Nat) (first caps : List AV) : clK E cl H args (.clo (.func g) first caps) = caK E cl H (first ++ args ++ caps) g (enterOk E g) := rfl
theorem op_call (x : Operand) (args : Array Operand) (tys : Array TypeId) : evOp E cl (.call ⟨.value x, args, tys⟩) fr H = clK E cl H (args.toList.map (opd E fr)) (opd E fr x) := by
  simp only [evOp, calleeE, clK]
  split
  · rename_i g as hg
    split at hg
    · rename_i g' first caps hx
      simp only [Option.some.injEq, Prod.mk.injEq] at hg
      obtain ⟨rfl, rfl⟩ := hg
      rw [hx]
      simp only [caK]
      cases enterOk E g' <;> simp
    · cases hg
  · rename_i hg
    split at hg
    · cases hg
    · rename_i hne
      split
      · rename_i g first caps hx; exact absurd hx (hne _ _ _)
      · rfl

theorem refs_ren (ρ : Nat → Option Nat) : (∀ a, refsA a = [] → renA ρ a = a) ∧ (∀ l, refsL l = [] → renL ρ l = l) := by
  refine ⟨fun a => ?_, fun l => ?_⟩
  · induction a using AV.rec (motive_2 := fun l => refsL l = [] → renL ρ l = l) <;> (try intro h) <;> simp_all [refsA, refsL, renA, renL]
  · induction l using AV.rec_1 (motive_1 := fun a => refsA a = [] → renA ρ a = a) <;> (try intro h) <;> simp_all [refsA, refsL, renA, renL]
def loops : Code → List Code
  | .seq a b => loops a ++ loops b
  | .cond _ a b => loops a ++ loops b
  | .block _ c => loops c
  | .scope c => loops c
  | .loop c => .loop c :: loops c
  | _ => []
def loopAt (fn : Func) (k : Nat) : Code := ((fn.body.map loops).getD []).getD k .skip
end
end Go.VI

set_option linter.unusedSimpArgs false
set_option linter.unusedVariables false
namespace Go.VI
open Go.WideShapes Go.ChangeShapes Go.RowKit
section
variable {Hh : Type} {enc : TypeId × Value → Hh} {P : Program} {W : World}

end
end Go.VI

set_option linter.unusedSimpArgs false
set_option linter.unusedVariables false
namespace Go.VI
open Go.WideShapes Go.ChangeShapes Go.RowKit

inductive Cty where
  | bool | int (k : IntKind) | str | sl (e : TypeId)
def ctys (P : Program) : Nat → TypeId → Option (List Cty)
  | 0, _ => none
  | d + 1, t => match P.underlying t with
    | some .bool => some [.bool]
    | some (.int k) => some [.int k]
    | some .string => some [.str]
    | some (.slice e) => match ctys P d e with
      | some (_ :: _) => some [.sl e]
      | _ => none
    | some (.array n e) => (ctys P d e).map fun l => (List.replicate n l).flatten
    | some (.struct fs) => (fs.toList.mapM fun f => ctys P d f.type).map List.flatten
    | _ => none

inductive Sh (P : Program) : Cty → IV → Prop
  | bool (b : Bool) : Sh P .bool (.v (.bool b))
  | int (k : IntKind) (n : Int) (h : (Lit.int k n).wf = true) : Sh P (.int k) (.v (.int k n))
  | str (l : List UInt8) (h : l.length ≤ maxLen) : Sh P .str (.str l)
  | sl (e : TypeId) (d : Nat) (cs : List Cty) (rows : List (List IV)) (hc : ctys P d e = some cs) (hl : rows.length ≤ maxLen)
      (h1 : ∀ (i : Nat) (r : List IV), rows[i]? = some r → r.length = cs.length)
      (h2 : ∀ (i : Nat) (r : List IV) (k : Nat) (c : Cty) (x : IV), rows[i]? = some r → cs[k]? = some c → r[k]? = some x → Sh P c x) : Sh P (.sl e) (.sl (P.cellsOf e) rows false)

def Gd (P : Program) (I : Imm) : List Value → List Cty → List IV → Prop
  | [], [], [] => True
  | v :: vs, c :: cs, a :: l => RelI I a v ∧ Sh P c a ∧ Gd P I vs cs l
  | _, _, _ => False
theorem Gd.append {P : Program} {I : Imm} : ∀ {vs cs l vs' cs' l'}, Gd P I vs cs l → Gd P I vs' cs' l' → Gd P I (vs ++ vs') (cs ++ cs') (l ++ l')
  | [], [], [], _, _, _, _, h' => h'
  | v :: vs, c :: cs, a :: l, _, _, _, h, h' => ⟨h.1, h.2.1, Gd.append h.2.2 h'⟩
  | [], _ :: _, _, _, _, _, h, _ => h.elim
  | [], [], _ :: _, _, _, _, h, _ => h.elim
  | _ :: _, [], _, _, _, _, h, _ => h.elim
  | _ :: _, _ :: _, [], _, _, _, h, _ => h.elim
theorem Gd.len {P : Program} {I : Imm} : ∀ {vs cs l}, Gd P I vs cs l → vs.length = l.length ∧ cs.length = l.length
  | [], [], [], _ => ⟨rfl, rfl⟩
  | v :: vs, c :: cs, a :: l, h => by have := Gd.len h.2.2; simp [this.1, this.2]
  | [], _ :: _, _, h => h.elim
  | [], [], _ :: _, h => h.elim
  | _ :: _, [], _, h => h.elim
  | _ :: _, _ :: _, [], h => h.elim
theorem Gd.at {P : Program} {I : Imm} : ∀ {vs cs l}, Gd P I vs cs l → ∀ (k : Nat) (a : IV), l[k]? = some a → ∃ v c, vs[k]? = some v ∧ cs[k]? = some c ∧ RelI I a v ∧ Sh P c a
  | [], [], [], _, k, a, ha => by simp at ha
  | v :: vs, c :: cs, b :: l, h, 0, a, ha => by simp at ha; subst ha; exact ⟨v, c, rfl, rfl, h.1, h.2.1⟩
  | v :: vs, c :: cs, b :: l, h, k + 1, a, ha => Gd.at h.2.2 k a (by simpa using ha)
  | [], _ :: _, _, h, _, _, _ => h.elim
  | [], [], _ :: _, h, _, _, _ => h.elim
  | _ :: _, [], _, h, _, _, _ => h.elim
  | _ :: _, _ :: _, [], h, _, _, _ => h.elim

theorem ctys_succ {P : Program} : ∀ (d : Nat) (t : TypeId) (l : List Cty), ctys P d t = some l → ctys P (d + 1) t = some l := by
  intro d
  induction d with
  | zero => intro t l h; cases h
  | succ d ih =>
    intro t l h
    rw [ctys] at h ⊢
    split at h
    · exact h
    · exact h
    · exact h
    · rename_i e _
      split at h
      · rename_i c r hc
        rw [ih _ _ hc]; exact h
      · cases h
    · rename_i n e _
      cases hc : ctys P d e with
      | none => rw [hc] at h; cases h
      | some l' => rw [hc] at h; rw [ih _ _ hc]; exact h
    · rename_i fs _
      cases hc : fs.toList.mapM (fun f => ctys P d f.type) with
      | none => rw [hc] at h; cases h
      | some l' =>
        rw [hc] at h
        rw [mapM_carry hc (fun f y _ _ hy => ih _ _ hy)]; exact h
    · cases h
theorem ctys_le {P : Program} {d d' : Nat} (hd : d ≤ d') {t : TypeId} {l : List Cty} (h : ctys P d t = some l) : ctys P d' t = some l := by
  induction hd with
  | refl => exact h
  | step _ ih => exact ctys_succ _ _ _ ih
theorem ctys_det {P : Program} {d d' : Nat} {t : TypeId} {l l' : List Cty} (h : ctys P d t = some l) (h' : ctys P d' t = some l') : l = l' := by
  have h1 := ctys_le (Nat.le_max_left d d') h
  have h2 := ctys_le (Nat.le_max_right d d') h'
  exact Option.some.inj (h1.symm.trans h2)

section
variable {Hh : Type} {enc : TypeId × Value → Hh} {P : Program} {W : World} {sp : Nat → Bool} {held : Bool}

theorem trod_array {t e : TypeId} {m fuel : Nat} {cs : List Value} {x : DataW Hh × List MemPlace} (ht : P.underlying t = some (.array m e)) (h : DataW.trod enc P W 0 sp held fuel t cs = some x) :
    ∃ n, fuel = n + 1 ∧ cs.length = P.cellsOf t ∧ ∀ i, i < m → ∃ y, DataW.trod enc P W 0 sp held n e ((cs.drop (i * P.cellsOf e)).take (P.cellsOf e)) = some y := by
  cases fuel with
  | zero => simp [DataW.trod] at h
  | succ n =>
    unfold DataW.trod at h
    rw [ht] at h
    split at h <;> simp_all
    obtain ⟨hl, xs, hp, hd⟩ := h
    intro i hi
    have h1 := mapM_some_get hp i i (by simp [List.getElem?_range, hi])
    have h2 := mapM_some_length hp
    rw [List.length_range] at h2
    have h3 : i < xs.length := by omega
    rw [h1, List.getElem?_eq_getElem h3]
    exact ⟨xs[i].1, xs[i].2, rfl⟩

theorem cells_at {a : Addr} {n : Nat} {cs : List Value} (h : W.cells? 0 a n = some cs) : cs.length = n ∧ ∀ i, i < n → W.cell? (a.add i) = cs[i]? := by
  unfold World.cells? at h
  rw [if_pos (Nat.zero_le _)] at h
  have h2 := mapM_some_length h
  exact ⟨by simpa using h2, fun i hi => mapM_some_get h i i (by simp [hi])⟩

theorem read_fields {n : Nat} (rd : ∀ (d : Nat) (t : TypeId) (cs : List Value) (x : DataW Hh × List MemPlace) (cts : List Cty), t < P.types.size → ctys P d t = some cts → DataW.trod enc P W 0 sp held n t cs = some x → ∃ l, Gd P (imm0 W) cs cts l) (d : Nat) :
    ∀ (fl : List Field) (cl : List (List Cty)) (cs : List Value), fl.mapM (fun f => ctys P d f.type) = some cl → (∀ f ∈ fl, f.type < P.types.size) → cs.length = (fl.map fun f => P.cellsOf f.type).sum →
      (∀ (j : Nat) f, fl[j]? = some f → ∃ x, DataW.trod enc P W 0 sp held n f.type ((cs.drop ((fl.take j).map fun f => P.cellsOf f.type).sum).take (P.cellsOf f.type)) = some x) →
      ∃ l, Gd P (imm0 W) cs cl.flatten l := by
  intro fl
  induction fl with
  | nil =>
    intro cl cs h _ hlen _
    simp at h hlen
    subst h
    obtain rfl : cs = [] := hlen
    exact ⟨[], trivial⟩
  | cons f fl ih =>
    intro cl cs h hty hlen hx
    rw [List.mapM_cons] at h
    cases h1 : ctys P d f.type with
    | none => rw [h1] at h; cases h
    | some c1 =>
      cases h2 : fl.mapM (fun f => ctys P d f.type) with
      | none => rw [h1, h2] at h; cases h
      | some c2 =>
        rw [h1, h2] at h
        have h' : some (c1 :: c2) = some cl := h
        cases h'
        obtain ⟨x, hx0⟩ := hx 0 f rfl
        simp only [List.take_zero, List.map_nil, List.sum_nil, List.drop_zero] at hx0
        obtain ⟨l1, g1⟩ := rd d f.type _ x c1 (hty f (by simp)) h1 hx0
        simp only [List.map_cons, List.sum_cons] at hlen
        obtain ⟨l2, g2⟩ := ih c2 (cs.drop (P.cellsOf f.type)) h2 (fun g hg => hty g (by simp [hg])) (by rw [List.length_drop]; omega) (fun j g hg => by
          obtain ⟨y, hy⟩ := hx (j + 1) g (by simpa using hg)
          simp only [List.take_succ_cons, List.map_cons, List.sum_cons] at hy
          exact ⟨y, by rw [List.drop_drop]; exact hy⟩)
        refine ⟨l1 ++ l2, ?_⟩
        have := g1.append g2
        rw [List.take_append_drop] at this
        simpa using this

theorem read_array {n : Nat} {e : TypeId} {c1 : List Cty} (rd : ∀ (cs : List Value) (x : DataW Hh × List MemPlace), DataW.trod enc P W 0 sp held n e cs = some x → ∃ l, Gd P (imm0 W) cs c1 l) :
    ∀ (m : Nat) (cs : List Value), cs.length = m * P.cellsOf e → (∀ i, i < m → ∃ y, DataW.trod enc P W 0 sp held n e ((cs.drop (i * P.cellsOf e)).take (P.cellsOf e)) = some y) → ∃ l, Gd P (imm0 W) cs (List.replicate m c1).flatten l := by
  intro m
  induction m with
  | zero =>
    intro cs hlen _
    obtain rfl : cs = [] := by simpa using hlen
    exact ⟨[], trivial⟩
  | succ m ih =>
    intro cs hlen hx
    obtain ⟨x, hx0⟩ := hx 0 (by omega)
    simp only [Nat.zero_mul, List.drop_zero] at hx0
    obtain ⟨l1, g1⟩ := rd _ x hx0
    rw [Nat.succ_mul] at hlen
    obtain ⟨l2, g2⟩ := ih (cs.drop (P.cellsOf e)) (by rw [List.length_drop]; omega) (fun i hi => by
      obtain ⟨y, hy⟩ := hx (i + 1) (by omega)
      rw [Nat.succ_mul, Nat.add_comm] at hy
      exact ⟨y, by rw [List.drop_drop]; exact hy⟩)
    refine ⟨l1 ++ l2, ?_⟩
    have := g1.append g2
    rw [List.take_append_drop] at this
    simpa [List.replicate_succ] using this

theorem read_cells (hl : laidOutB P = true) : ∀ (n d : Nat) (t : TypeId) (cs : List Value) (x : DataW Hh × List MemPlace) (cts : List Cty), t < P.types.size → ctys P d t = some cts →
    DataW.trod enc P W 0 sp held n t cs = some x → ∃ l, Gd P (imm0 W) cs cts l := by
  intro n
  induction n with
  | zero => intro d t cs x cts _ _ h; simp [DataW.trod] at h
  | succ n ih =>
    intro d t cs x cts ht hc h
    cases d with
    | zero => cases hc
    | succ d =>
      rw [ctys] at hc
      split at hc
      · rename_i hu
        cases hc
        obtain ⟨b, rfl, rfl⟩ := DataW.trod_bool hu h
        exact ⟨[.v (.bool b)], .v _ rfl, .bool b, trivial⟩
      · rename_i k hu
        cases hc
        obtain ⟨z, rfl, rfl, hw⟩ := DataW.trod_int hu h
        exact ⟨[.v (.int k z)], .v _ rfl, .int k z hw, trivial⟩
      · rename_i hu
        cases hc
        obtain ⟨s, rfl, rfl, hw⟩ := DataW.trod_string hu h
        exact ⟨[.str s.data.toList], .str _, .str _ (by simpa using hw), trivial⟩
      · rename_i e hu
        split at hc
        · rename_i c0 c1 he
          cases hc
          rcases DataW.trod_slice hu h with ⟨rfl, _⟩ | ⟨a, len, cap, elems, rest, n', hn, rfl, _, _, hlc, hm, hel, hat, _, _⟩
          · exact ⟨[.sl (P.cellsOf e) [] false], .nil _ _ _ _ (fun h => by cases h), .sl e d _ [] he (Nat.zero_le _) (fun i r h => by simp at h) (fun i r k c x h => by simp at h), trivial⟩
          · cases hn
            have he' : e < P.types.size := (kid_slice hl ht hu)
            have hex : ∀ i, ∃ l, i < len → ∃ cs', W.cells? 0 (a.add (i * P.cellsOf e)) (P.cellsOf e) = some cs' ∧ Gd P (imm0 W) cs' (c0 :: c1) l := by
              intro i
              by_cases hi : i < len
              · have h1 := hat i hi
                have h2 : elems[i]? = some elems[i] := List.getElem?_eq_getElem (by omega)
                rw [h2, Option.bind_eq_some_iff] at h1
                obtain ⟨cs', h3, h4⟩ := h1
                obtain ⟨l, hg⟩ := ih d e cs' _ _ he' he h4
                exact ⟨l, fun _ => ⟨cs', h3, hg⟩⟩
              · exact ⟨[], fun h => absurd h hi⟩
            obtain ⟨f, hf⟩ := Classical.skolem.1 hex
            have hrow : ∀ i r, ((List.range len).map f)[i]? = some r → i < len ∧ r = f i := by
              intro i r hr
              simp only [List.getElem?_map, Option.map_eq_some_iff, List.getElem?_range] at hr
              obtain ⟨j, hj, rfl⟩ := hr
              rw [List.getElem?_eq_some_iff] at hj
              obtain ⟨h1, h2⟩ := hj
              simp at h1 h2
              subst h2
              exact ⟨h1, rfl⟩
            have hsh : Sh P (.sl e) (.sl (P.cellsOf e) ((List.range len).map f) false) := by
              refine .sl e d _ _ he (by simp; omega) (fun i r hr => ?_) (fun i r k c y hr hc hy => ?_)
              · obtain ⟨hi, rfl⟩ := hrow i r hr
                obtain ⟨cs', _, hg⟩ := hf i hi
                exact hg.len.2.symm
              · obtain ⟨hi, rfl⟩ := hrow i r hr
                obtain ⟨cs', _, hg⟩ := hf i hi
                obtain ⟨v, c', _, h2, _, h4⟩ := hg.at k y hy
                rw [hc] at h2; cases h2; exact h4
            refine ⟨[.sl (P.cellsOf e) ((List.range len).map f) false], ?_, hsh, trivial⟩
            by_cases h0 : len = 0
            · subst h0
              exact .nil _ _ _ cap (fun h => by cases h)
            · obtain ⟨cs0, hc0, hg0⟩ := hf 0 (by omega)
              have hz : 0 < P.cellsOf e := by
                have := (cells_at hc0).1
                have h2 := hg0.len
                simp at h2
                omega
              have hcell := (cells_at hc0).2 0 hz
              have hlen0 := (cells_at hc0).1
              obtain ⟨b, off, spot⟩ := a
              have hne : cs0[0]? = some cs0[0] := List.getElem?_eq_getElem (by omega)
              rw [hne] at hcell
              unfold World.cell? at hcell
              split at hcell
              · rename_i cs el fz hbk
                split at hcell
                · cases hcell
                · rename_i hsp
                  have hspot : spot = none := by cases spot with | none => rfl | some _ => simp [Addr.add] at hsp
                  subst hspot
                  have ha : ∀ o i, Addr.add ⟨b, o, none⟩ i = ⟨b, o + i, none⟩ := by intro o i; unfold Addr.add; split <;> simp_all
                  simp only [ha] at hbk
                  have hcv : ∀ i, i < len → ∀ k, k < P.cellsOf e → ∀ cs', W.cells? 0 (Addr.add ⟨b, off, none⟩ (i * P.cellsOf e)) (P.cellsOf e) = some cs' → cs[off + i * P.cellsOf e + k]? = cs'[k]? := by
                    intro i hi k hk cs' hc'
                    have := (cells_at hc').2 k hk
                    simp only [ha] at this
                    unfold World.cell? at this
                    simp only [hbk] at this
                    simpa using this
                  have key := RelI.sl (I := imm0 W) (P.cellsOf e) ((List.range len).map f) false b off cap cs el fz (fun i k => (cs[off + i * P.cellsOf e + k]?).getD undef) hbk (by simp; omega) (fun h => by cases h)
                    (fun i r hr => by
                      obtain ⟨hi, rfl⟩ := hrow i r hr
                      obtain ⟨cs', h1, hg⟩ := hf i hi
                      rw [← hg.len.1]; exact (cells_at h1).1)
                    (fun i r k y hr hy => by
                      obtain ⟨hi, rfl⟩ := hrow i r hr
                      obtain ⟨cs', h1, hg⟩ := hf i hi
                      obtain ⟨v, c', h2, _, _, _⟩ := hg.at k y hy
                      have hk : k < P.cellsOf e := by rw [← (cells_at h1).1]; exact (List.getElem?_eq_some_iff.1 h2).1
                      rw [hcv i hi k hk cs' h1, h2]; rfl)
                    (fun i r k y hr hy => by
                      obtain ⟨hi, rfl⟩ := hrow i r hr
                      obtain ⟨cs', h1, hg⟩ := hf i hi
                      obtain ⟨v, c', h2, _, h3, _⟩ := hg.at k y hy
                      have hk : k < P.cellsOf e := by rw [← (cells_at h1).1]; exact (List.getElem?_eq_some_iff.1 h2).1
                      rw [hcv i hi k hk cs' h1, h2]; exact h3)
                  have hl' : ((List.range len).map f).length = len := by simp
                  rw [hl'] at key
                  exact key
              · cases hcell
        · cases hc
      · rename_i m e hu
        cases hc1 : ctys P d e with
        | none => rw [hc1] at hc; cases hc
        | some c1 =>
          rw [hc1] at hc
          have hc' : some (List.replicate m c1).flatten = some cts := hc
          cases hc'
          obtain ⟨n', hn, hlen, hx⟩ := trod_array hu h
          cases hn
          obtain ⟨k1, k2⟩ := kid_array hl ht hu
          exact read_array (fun cs x hx => ih d e cs x c1 k1 hc1 hx) m cs (by rw [hlen, k2]) hx
      · rename_i fs hu
        cases hc1 : fs.toList.mapM (fun f => ctys P d f.type) with
        | none => rw [hc1] at hc; cases hc
        | some c1 =>
          rw [hc1] at hc
          have hc' : some c1.flatten = some cts := hc
          cases hc'
          obtain ⟨xs, n', hn, _, hlen, hxl, hx⟩ := DataW.trod_struct hu h
          cases hn
          obtain ⟨k1, k2, k3⟩ := kid_struct hl ht hu
          refine read_fields (fun d t cs x cts => ih d t cs x cts) d fs.toList c1 cs hc1 k1 (by rw [hlen, k2]) (fun j f hf => ?_)
          have h1 := hx j f (by simpa using hf)
          have hj : j < xs.length := by
            have := (List.getElem?_eq_some_iff.1 hf).1
            simp at this; omega
          rw [k3 j f hf, List.getElem?_eq_getElem hj] at h1
          exact ⟨_, h1⟩
      · cases hc

theorem relA_row {I : Imm} {η : Eta} {H : Hp} {cs : Array Value} {cts : List Cty} {l : List IV} (h : Gd P I cs.toList cts l) : RelA I η H (.agg (l.map .i)) (.agg cs) := by
  have hl := h.len.1
  refine .agg _ cs (by simpa using hl) (fun k a ha => ?_)
  simp only [List.getElem?_map, Option.map_eq_some_iff] at ha
  obtain ⟨x, hx, rfl⟩ := ha
  obtain ⟨v, c, h1, _, h3, _⟩ := h.at k x hx
  have : cs[k]? = some v := by simpa using h1
  rw [Array.getD_eq_getD_getElem?, this]
  exact .i _ _ h3
theorem read_arg (hl : laidOutB P = true) {t : TypeId} {v : Value} {d : DataW Hh} {ps : List MemPlace} {cts : List Cty} (D : Nat) (ht : t < P.types.size) (hc : ctys P D t = some cts)
    (hd : DataW.Trod enc P W 0 sp held t v d ps) : ∃ l, Gd P (imm0 W) v.cells.toList cts l := by
  obtain ⟨n, hn⟩ := hd
  exact read_cells hl n D t _ _ _ ht hc hn
theorem stays (hl : laidOutB P = true) {t : TypeId} {v : Value} {d : DataW Hh} {ps : List MemPlace} {W' : World} (hr : P.readableRec t = true) (ht : t < P.types.size)
    (hd : DataW.Trod enc P W 0 (fun _ => true) true t v d ps) (ho : Old W W') (hps : ∀ p ∈ ps, p.block < W.heap.size) (sp' : Nat → Bool) (hs : ∀ p ∈ ps, sp' p.block = true) : DataW.Trod enc P W' 0 sp' true t v d ps :=
  WideElems.Trod_stays hl hr ht hd (fun p hp => by
    have := ho.heap _ (hps p hp)
    cases p with
    | cell b off => simp only [World.sameAt, World.cell?, MemPlace.block] at this ⊢; rw [this]
    | map b => exact this) hs

def ShL (P : Program) : List Cty → List IV → Prop
  | [], [] => True
  | c :: cs, a :: l => Sh P c a ∧ ShL P cs l
  | _, _ => False
theorem Gd.sh {P : Program} {I : Imm} : ∀ {vs cs l}, Gd P I vs cs l → ShL P cs l
  | [], [], [], _ => trivial
  | v :: vs, c :: cs, a :: l, h => ⟨h.2.1, Gd.sh h.2.2⟩
  | [], _ :: _, _, h => h.elim
  | [], [], _ :: _, h => h.elim
  | _ :: _, [], _, h => h.elim
  | _ :: _, _ :: _, [], h => h.elim
theorem ShL.nil {l : List IV} (h : ShL P [] l) : l = [] := by cases l with | nil => rfl | cons a l => exact h.elim
theorem ShL.cons {c : Cty} {cs : List Cty} {l : List IV} (h : ShL P (c :: cs) l) : ∃ a l', l = a :: l' ∧ Sh P c a ∧ ShL P cs l' := by
  cases l with | nil => exact h.elim | cons a l => exact ⟨a, l, rfl, h.1, h.2⟩
theorem Sh.of_bool {a : IV} (h : Sh P .bool a) : ∃ b, a = .v (.bool b) := by cases h; exact ⟨_, rfl⟩
theorem Sh.of_int {a : IV} {k : IntKind} (h : Sh P (.int k) a) : ∃ n, a = .v (.int k n) ∧ (Lit.int k n).wf = true := by cases h; exact ⟨_, rfl, by assumption⟩
theorem Sh.of_str {a : IV} (h : Sh P .str a) : ∃ s, a = .str s ∧ s.length ≤ maxLen := by cases h; exact ⟨_, rfl, by assumption⟩
theorem shL_at : ∀ {cs : List Cty} {l : List IV}, l.length = cs.length → (∀ (k : Nat) (c : Cty) (x : IV), cs[k]? = some c → l[k]? = some x → Sh P c x) → ShL P cs l
  | [], [], _, _ => trivial
  | c :: cs, a :: l, hl, h => ⟨h 0 c a rfl rfl, shL_at (by simpa using hl) fun k c x hc hx => h (k + 1) c x (by simpa using hc) (by simpa using hx)⟩
  | [], _ :: _, hl, _ => by simp at hl
  | _ :: _, [], hl, _ => by simp at hl
theorem Sh.of_sl {a : IV} {e : TypeId} (h : Sh P (.sl e) a) {D : Nat} {cs : List Cty} (hc : ctys P D e = some cs) : ∃ rows, a = .sl (P.cellsOf e) rows false ∧ rows.length ≤ maxLen ∧ ∀ r ∈ rows, ShL P cs r := by
  cases h with
  | sl e d cs' rows hc' hl h1 h2 =>
    cases ctys_det hc hc'
    refine ⟨rows, rfl, hl, fun r hr => ?_⟩
    obtain ⟨i, hi⟩ := List.getElem?_of_mem hr
    exact shL_at (h1 i r hi) fun k c x hc hx => h2 i r k c x hi hc hx
theorem ShL.bool {cs : List Cty} {l : List IV} (h : ShL P (.bool :: cs) l) : ∃ b l', l = .v (.bool b) :: l' ∧ ShL P cs l' := by
  obtain ⟨a, l', rfl, h1, h2⟩ := h.cons
  obtain ⟨b, rfl⟩ := h1.of_bool
  exact ⟨b, l', rfl, h2⟩
theorem ShL.int {k : IntKind} {cs : List Cty} {l : List IV} (h : ShL P (.int k :: cs) l) : ∃ n l', l = .v (.int k n) :: l' ∧ (Lit.int k n).wf = true ∧ ShL P cs l' := by
  obtain ⟨a, l', rfl, h1, h2⟩ := h.cons
  obtain ⟨n, rfl, hn⟩ := h1.of_int
  exact ⟨n, l', rfl, hn, h2⟩
theorem ShL.str {cs : List Cty} {l : List IV} (h : ShL P (.str :: cs) l) : ∃ s l', l = .str s :: l' ∧ s.length ≤ maxLen ∧ ShL P cs l' := by
  obtain ⟨a, l', rfl, h1, h2⟩ := h.cons
  obtain ⟨s, rfl, hn⟩ := h1.of_str
  exact ⟨s, l', rfl, hn, h2⟩
theorem ShL.sl {e : TypeId} {cs : List Cty} {l : List IV} (h : ShL P (.sl e :: cs) l) {D : Nat} {cs' : List Cty} (hc : ctys P D e = some cs') :
    ∃ rows l', l = .sl (P.cellsOf e) rows false :: l' ∧ rows.length ≤ maxLen ∧ (∀ r ∈ rows, ShL P cs' r) ∧ ShL P cs l' := by
  obtain ⟨a, l', rfl, h1, h2⟩ := h.cons
  obtain ⟨rows, rfl, hn, hr⟩ := h1.of_sl hc
  exact ⟨rows, l', rfl, hn, hr, h2⟩
theorem rows_map {α : Type} (f : α → List IV) (p : α → Prop) : ∀ {rows : List (List IV)}, (∀ r ∈ rows, ∃ a, r = f a ∧ p a) → ∃ l : List α, rows = l.map f ∧ ∀ a ∈ l, p a
  | [], _ => ⟨[], rfl, fun a h => by simp at h⟩
  | r :: rows, h => by
    obtain ⟨a, rfl, ha⟩ := h r (by simp)
    obtain ⟨l, rfl, hl⟩ := rows_map f p (rows := rows) fun r hr => h r (by simp [hr])
    exact ⟨a :: l, rfl, by simpa using ⟨ha, hl⟩⟩

variable {r : Reach} {b0 : Nat} {t : TypeId} {v : Value} {d : DataW Hh} {ps : List MemPlace}
theorem read_agg (hl : laidOutB P = true) {D : Nat} {cs : List Cty} (ht : t < P.types.size) (hu : (P.underlying t).map (fun | .struct _ => true | .array _ _ => true | _ => false) = some true) (hc : ctys P D t = some cs) (hval : Value.okWide P W r b0 t v) (hd : DataW.Trod enc P W 0 sp held t v d ps) :
    ∃ l : List IV, RelA (imm0 W) eta0 [] (.agg (l.map .i)) v ∧ ShL P cs l := by
  obtain ⟨l, hg⟩ := read_arg hl D ht hc hd
  have hv : ∃ cs, v = .agg cs := by
    unfold Value.okWide at hval
    split at hval
    · obtain ⟨cs, h, _⟩ := hval; exact ⟨cs, h⟩
    · obtain ⟨cs, h, _⟩ := hval; exact ⟨cs, h⟩
    · rename_i h1 h2
      cases hh : P.underlying t with
      | none => rw [hh] at hu; cases hu
      | some x =>
        rw [hh] at hu
        cases x <;> simp at hu
        · exact absurd hh (h2 _ _)
        · exact absurd hh (h1 _)
  obtain ⟨vs, rfl⟩ := hv
  exact ⟨l, relA_row hg, hg.sh⟩
end

section
variable {Hh : Type} {enc : TypeId × Value → Hh} {P : Program} {W : World} {sp : Nat → Bool} {held : Bool}
end

theorem rng_u8 {n : Int} (h : (Lit.int .u8 n).wf = true) : 0 ≤ n ∧ n ≤ 255 := by
  simp only [Lit.wf, Bool.and_eq_true, IntKind.min, IntKind.max, IntKind.signed, IntKind.bits] at h
  simp at h
  omega
theorem rng_i32 {n : Int} (h : (Lit.int .i32 n).wf = true) : -2147483648 ≤ n ∧ n ≤ 2147483647 := by
  simp only [Lit.wf, Bool.and_eq_true, IntKind.min, IntKind.max, IntKind.signed, IntKind.bits] at h
  simp at h
  omega
theorem rng_i64 {n : Int} (h : (Lit.int .i64 n).wf = true) : -9223372036854775808 ≤ n ∧ n ≤ 9223372036854775807 := by
  simp only [Lit.wf, Bool.and_eq_true, IntKind.min, IntKind.max, IntKind.signed, IntKind.bits] at h
  simp at h
  omega
end Go.VI

set_option linter.unusedSimpArgs false
set_option linter.unusedVariables false
namespace Go.VI
section
variable {E : Env} {cl : CallF} {H : Hp}

def isoK (E : Env) (cl : CallF) (f : FuncId) (args1 : List AV) (H1 : Hp) : Option (AV × Hp) :=
    let R := reach H1 64 (refsL args1) []
    let into := posIn R
    match exCl E cl f (renL into args1) (R.map fun c => ((H1[c]?).map (Chunk.ren into)).getD (.iter [] 0)) with
    | none => none
    | some (r, L) => if L.length < R.length then none else
      let K := (reach L 64 (refsA r ++ (L.take R.length).flatMap Chunk.refs) []).filter fun i => decide (R.length ≤ i)
      let back := backRen R H1.length K
      some (renA back r, setAll H1 R ((L.take R.length).map (Chunk.ren back)) ++ K.map fun i => ((L[i]?).map (Chunk.ren back)).getD (.iter [] 0))
def prepK (E : Env) (cl : CallF) (f : FuncId) : Option (List AV × Hp) → Option (AV × Hp)
  | some (as, H1) => isoK E cl f as H1
  | none => none
theorem prepK_some (f : FuncId) (as : List AV) (H1 : Hp) : prepK E cl f (some (as, H1)) = isoK E cl f as H1 := rfl
theorem iso_prep {f : FuncId} (args : List AV) : callIso E cl f args H = prepK E cl f (prepE E f H args) := by
  unfold callIso
  cases prepE E f H args with
  | none => rfl
  | some x => rfl
theorem isoK_val {g : Nat} {as : List AV} {r : AV} (he : E.ext g = none) (hr : refsL as = []) (hrr : refsA r = []) (hc : ∃ L, cl g as [] = some (r, L)) : isoK E cl g as H = some (r, H) := by
  obtain ⟨L, hc⟩ := hc
  have h1 := (refs_ren (posIn [])).2 as hr
  have h2 : ∀ ρ, renA ρ r = r := fun ρ => (refs_ren ρ).1 r hrr
  unfold isoK
  simp [exCl, he, hr, reach, h1, hc, hrr, h2, setAll]
def isoF (H : Hp) (R : List Nat) (r : AV) (L : Hp) (K : List Nat) : Option (AV × Hp) :=
  some (renA (backRen R H.length K) r, setAll H R ((L.take R.length).map (Chunk.ren (backRen R H.length K))) ++ K.map fun i => ((L[i]?).map (Chunk.ren (backRen R H.length K))).getD (.iter [] 0))
def isoB (H : Hp) (R : List Nat) : Option (AV × Hp) → Option (AV × Hp)
  | none => none
  | some (r, L) => if L.length < R.length then none else isoF H R r L ((reach L 64 (refsA r ++ (L.take R.length).flatMap Chunk.refs) []).filter fun i => decide (R.length ≤ i))
def isoL (E : Env) (cl : CallF) (f : FuncId) (as : List AV) (H : Hp) (R : List Nat) : Option (AV × Hp) := isoB H R (cl f (renL (posIn R) as) (R.map fun c => ((H[c]?).map (Chunk.ren (posIn R))).getD (.iter [] 0)))
theorem isoK_R {f : FuncId} (he : E.ext f = none) (as : List AV) : isoK E cl f as H = isoL E cl f as H (reach H 64 (refsL as) []) := by
  unfold isoK isoL isoB
  simp only [exCl, he]
  generalize cl f _ _ = q
  cases q <;> rfl
theorem isoB_some (R : List Nat) (r : AV) (L : Hp) : isoB H R (some (r, L)) = if L.length < R.length then none else isoF H R r L ((reach L 64 (refsA r ++ (L.take R.length).flatMap Chunk.refs) []).filter fun i => decide (R.length ≤ i)) := rfl
theorem reach_one {L : Hp} {c : Nat} {x : Chunk} (h : L[c]? = some x) (hx : x.refs = []) : reach L 64 [c] [] = [c] := by
  have hl : ¬ L.length ≤ c := by
    have := (List.getElem?_eq_some_iff.1 h).1
    omega
  simp [reach, h, hx, hl]
end

def appT (E : Env) (t t2 : TypeId) : Option Nat :=
  match slO E.P t with
  | some e => match szO E.P e, bytesO E.P e, zeroO E.P e with
    | some z, some b, some zv => if 0 < z ∧ b ≤ 65536 ∧ ((slO E.P t2).isSome = true ∨ isStrO E.P t2 = true) ∧ (cellsA zv).length = z ∧ (cellsA zv).all one = true then some z else none
    | _, _, _ => none
  | none => none
def apC (z : Nat) (H : Hp) (c g off len : Nat) (new : List (List IV)) : Option Chunk → Option (AV × Hp)
  | some (.sl sz g' rows ex) => if g = g' ∧ off = 0 ∧ sz = z ∧ len + new.length < 1073741824 then
      some (.ref c (g + 1) 0 (len + new.length), H.set c (.sl z (g + 1) (rows.take len ++ new) (ex && rows.isEmpty && new.isEmpty))) else none
  | some (.fz sz g' rows ex) => if g = g' ∧ off = 0 ∧ sz = z ∧ ex = true ∧ len = rows.length ∧ new ≠ [] ∧ len + new.length < 1073741824 then
      some (.ref H.length 0 0 (len + new.length), H ++ [.sl z 0 (rows ++ new) false]) else none
  | _ => none
def apV (z : Nat) (H : Hp) (new : List (List IV)) : AV → Option (AV × Hp)
  | .i (.sl sz rows ex) => if ex = true ∧ (rows = [] ∨ (sz = z ∧ new ≠ [])) ∧ rows.length + new.length < 1073741824 then
      some (.ref H.length 0 0 (rows.length + new.length), H ++ [.sl z 0 (rows ++ new) (rows.isEmpty && new.isEmpty)]) else none
  | .ref c g off len => apC z H c g off len new H[c]?
  | _ => none
def apS (z : Nat) (H : Hp) (s : AV) : Option (Nat × List (List IV) × Bool) → Option (AV × Hp)
  | some (z', new, _) => if new = [] ∨ z' = z then apV z H new s else none
  | none => none
theorem ap_eq {E : Env} {t t2 z : Nat} (h : appT E t t2 = some z) (H : Hp) (s x : AV) : appendE E H t t2 s x = apS z H s (srcE H x) := by
  unfold appT at h
  split at h
  · rename_i e he
    split at h
    · rename_i z1 b zv h1 h2 h3
      split at h
      · rename_i hc
        cases h
        unfold appendE
        rw [he]
        simp only [h1, h2, h3]
        cases hx : srcE H x with
        | none => rfl
        | some y =>
          obtain ⟨z', new, exx⟩ := y
          simp only [apS]
          by_cases hn : new = [] ∨ z' = z
          · rw [if_pos hn, if_pos ⟨hn, hc⟩]
            cases s with
            | i x => cases x <;> rfl
            | ref c g off len =>
              simp only [apV]
              cases H[c]? with
              | none => rfl
              | some ch => cases ch <;> rfl
            | _ => rfl
          · rw [if_neg hn, if_neg (fun h => hn h.1)]
      · cases h
    · cases h
  · cases h
def bsT (E : Env) (t : TypeId) : Option (Nat × List AV × List (Option Nat)) :=
  match slO E.P t with
  | some e => match szO E.P e, zeroO E.P e with
    | some z, some zero => if (cellsA zero).length = z ∧ 0 < z ∧ (cellsA zero).all one = true then some (z, cellsA zero, E.kinds e) else none
    | _, _ => none
  | none => none
def bsG (ks : List (Option Nat)) (z n : Nat) : Option (List IV × Hp) → Option (AV × Hp)
  | some (xs, H1) => some (.ref H1.length 0 0 n, H1 ++ [.sl z 0 (chop z n (canR (List.replicate n ks).flatten xs)) true])
  | none => none
def bsF (ks : List (Option Nat)) (z n : Nat) (H : Hp) : Option (List AV) → Option (AV × Hp)
  | some cells => bsG ks z n (freezeAll H cells)
  | none => none
theorem bs_eq {E : Env} {t z : Nat} {zc : List AV} {ks : List (Option Nat)} (h : bsT E t = some (z, zc, ks)) (H : Hp) (n : Nat) (hn : n * z ≤ 16777216) (parts : List (Nat × AV)) :
    buildSliceE E H t n parts = bsF ks z n H (fillA z (List.replicate n zc).flatten parts) := by
  unfold bsT at h
  split at h
  · rename_i e he
    split at h
    · rename_i z1 zero h1 h2
      split at h
      · rename_i hc
        cases h
        unfold buildSliceE
        rw [he]
        simp only [h1, h2]
        rw [if_pos ⟨hn, hc⟩]
        cases fillA z (List.replicate n (cellsA zero)).flatten parts with
        | none => rfl
        | some cells =>
          simp only [bsF]
          cases freezeAll H cells with
          | none => rfl
          | some y => rfl
      · cases h
    · cases h
  · cases h
def brK : Option (List AV) → List Nat
  | some c => refsL c
  | none => []
theorem brK_some (c : List AV) : brK (some c) = refsL c := rfl
theorem br_eq {E : Env} {t z : Nat} {zc : List AV} {ks : List (Option Nat)} (h : bsT E t = some (z, zc, ks)) (n : Nat) (parts : List (Nat × AV)) :
    buildRefs E t n parts = brK (fillA z (List.replicate n zc).flatten parts) := by
  unfold bsT at h
  split at h
  · rename_i e he
    split at h
    · rename_i z1 zero h1 h2
      split at h
      · rename_i hc
        cases h
        unfold buildRefs brK
        rw [he]
        simp only [h1, h2]
        cases fillA z (List.replicate n (cellsA zero)).flatten parts <;> rfl
      · cases h
    · cases h
  · cases h
theorem bsF_some (ks : List (Option Nat)) (z n : Nat) (H : Hp) (cells : List AV) : bsF ks z n H (some cells) = bsG ks z n (freezeAll H cells) := rfl
theorem bsG_some (ks : List (Option Nat)) (z n : Nat) (xs : List IV) (H1 : Hp) : bsG ks z n (some (xs, H1)) = some (.ref H1.length 0 0 n, H1 ++ [.sl z 0 (chop z n (canR (List.replicate n ks).flatten xs)) true]) := rfl
theorem apS_some (z z' : Nat) (H : Hp) (s : AV) (new : List (List IV)) (e : Bool) : apS z H s (some (z', new, e)) = if new = [] ∨ z' = z then apV z H new s else none := rfl
theorem apV_ref (z : Nat) (H : Hp) (new : List (List IV)) (c g off len : Nat) : apV z H new (.ref c g off len) = apC z H c g off len new H[c]? := rfl
theorem apV_i (z : Nat) (H : Hp) (new : List (List IV)) (sz : Nat) (rows : List (List IV)) (ex : Bool) : apV z H new (.i (.sl sz rows ex)) = if ex = true ∧ (rows = [] ∨ (sz = z ∧ new ≠ [])) ∧ rows.length + new.length < 1073741824 then
      some (.ref H.length 0 0 (rows.length + new.length), H ++ [.sl z 0 (rows ++ new) (rows.isEmpty && new.isEmpty)]) else none := rfl
theorem apC_sl (z : Nat) (H : Hp) (c g off len : Nat) (new : List (List IV)) (sz g' : Nat) (rows : List (List IV)) (ex : Bool) : apC z H c g off len new (some (.sl sz g' rows ex)) = if g = g' ∧ off = 0 ∧ sz = z ∧ len + new.length < 1073741824 then
      some (.ref c (g + 1) 0 (len + new.length), H.set c (.sl z (g + 1) (rows.take len ++ new) (ex && rows.isEmpty && new.isEmpty))) else none := rfl
theorem apC_fz (z : Nat) (H : Hp) (c g off len : Nat) (new : List (List IV)) (sz g' : Nat) (rows : List (List IV)) (ex : Bool) : apC z H c g off len new (some (.fz sz g' rows ex)) = if g = g' ∧ off = 0 ∧ sz = z ∧ ex = true ∧ len = rows.length ∧ new ≠ [] ∧ len + new.length < 1073741824 then
      some (.ref H.length 0 0 (len + new.length), H ++ [.sl z 0 (rows ++ new) false]) else none := rfl
theorem src_str (H : Hp) (l : List UInt8) : srcE H (.i (.str l)) = some (1, l.map fun b => [IV.v (.int .u8 b.toNat)], true) := rfl
theorem src_sl (H : Hp) (sz : Nat) (rows : List (List IV)) (ex : Bool) : srcE H (.i (.sl sz rows ex)) = some (sz, rows, ex) := rfl
def rsC (g off len : Nat) : Option Chunk → Option (Nat × List (List IV) × Bool)
  | some (.sl sz g' rows ex) => if g = g' then some (sz, (rows.drop off).take len, ex && decide (off + len = rows.length)) else none
  | some (.fz sz g' rows ex) => if g = g' then some (sz, (rows.drop off).take len, ex && decide (off + len = rows.length)) else none
  | _ => none
theorem src_ref (H : Hp) (c g off len : Nat) : srcE H (.ref c g off len) = rsC g off len H[c]? := by
  simp only [srcE, rowsE]
  cases H[c]? with
  | none => rfl
  | some x => cases x <;> rfl
theorem rsC_sl (g off len sz g' : Nat) (rows : List (List IV)) (ex : Bool) : rsC g off len (some (.sl sz g' rows ex)) = if g = g' then some (sz, (rows.drop off).take len, ex && decide (off + len = rows.length)) else none := rfl
theorem rsC_fz (g off len sz g' : Nat) (rows : List (List IV)) (ex : Bool) : rsC g off len (some (.fz sz g' rows ex)) = if g = g' then some (sz, (rows.drop off).take len, ex && decide (off + len = rows.length)) else none := rfl
def consK : Option AV → Option (List AV) → Option (List AV)
  | some a, some as => some (a :: as)
  | _, _ => none
def tupK : Option (List AV) → Option AV
  | some [a] => some a
  | some as => some (.tup as)
  | none => none
theorem consK_some (a : AV) (as : List AV) : consK (some a) (some as) = some (a :: as) := rfl
theorem tupK_0 : tupK (some []) = some (.tup []) := rfl
theorem tupK_1 (a : AV) : tupK (some [a]) = some a := rfl
theorem tupK_2 (a b : AV) (l : List AV) : tupK (some (a :: b :: l)) = some (.tup (a :: b :: l)) := rfl
section
variable {E : Env} {fr : Fr} {H : Hp}
theorem resE_eq (l : List ResultVar) : resE E fr H l = tupK (resEs E fr H l) := by
  unfold resE
  cases resEs E fr H l with
  | none => rfl
  | some as => cases as with
    | nil => rfl
    | cons a as => cases as <;> rfl
theorem resEs_nil : resEs E fr H [] = some [] := rfl
theorem resEs_cons (r : ResultVar) (l : List ResultVar) : resEs E fr H (r :: l) = consK (resE1 E fr H r) (resEs E fr H l) := by
  simp only [resEs]
  cases resE1 E fr H r <;> cases resEs E fr H l <;> rfl
theorem resE1_t (t : Nat) : resE1 E fr H (.tmp t) = some (get t fr) := rfl
theorem resE1_c (a t : Nat) : resE1 E fr H (.cell a t) = loadE E H t (get a fr) := rfl
end

def msT (E : Env) (t : TypeId) : Option (Nat × List IV) :=
  match slO E.P t with
  | some e => match szO E.P e, zeroRow E e, bytesO E.P e with
    | some z, some row, some b => if row.length = z ∧ 0 < z ∧ b ≤ 65536 then some (z, canR (E.kinds e) row) else none
    | _, _, _ => none
  | none => none
theorem ms_eq {E : Env} {t z : Nat} {row : List IV} (h : msT E t = some (z, row)) (H : Hp) (k k' : IntKind) (n m : Int) :
    makeSliceE E H t (.i (.v (.int k n))) (.i (.v (.int k' m))) = if 0 ≤ n ∧ n = m ∧ n < 1073741824 then some (.ref H.length 0 0 n.toNat, H ++ [.sl z 0 (List.replicate n.toNat row) true]) else none := by
  unfold msT at h
  split at h
  · rename_i e he
    split at h
    · rename_i z0 row0 b h1 h2 h3
      split at h
      · rename_i hc
        cases h
        unfold makeSliceE
        simp only [he, h1, h2, h3]
        obtain ⟨c1, c2, c3⟩ := hc
        by_cases hn : 0 ≤ n ∧ n = m ∧ n < 1073741824
        · rw [if_pos hn, if_pos ⟨hn.1, hn.2.1, hn.2.2, c1, c2, c3⟩]
        · rw [if_neg hn, if_neg (fun h => hn ⟨h.1, h.2.1, h.2.2.1⟩)]
      · cases h
    · cases h
  · cases h
def aggK : Option (List AV) → Option AV
  | some c => some (.agg c)
  | none => none
theorem aggK_some (c : List AV) : aggK (some c) = some (.agg c) := rfl
theorem bd_arr {E : Env} {t n e z : Nat} {zc : List AV} (h0 : zeroO E.P t = some (.agg zc)) (h1 : arrO E.P t = some (n, e)) (h2 : szO E.P e = some z) (parts : List (Nat × AV)) : buildE E t parts = aggK (fillA z zc parts) := by
  unfold buildE
  rw [h0]
  simp only [h1, h2]
  cases fillA z zc parts <;> rfl
theorem bd_struct {E : Env} {t : Nat} {zc : List AV} {pl : List (Nat × Nat)} (h0 : zeroO E.P t = some (.agg zc)) (h1 : arrO E.P t = none) (h2 : placesO E.P t = some pl) (parts : List (Nat × AV)) : buildE E t parts = aggK (fillS pl zc parts) := by
  unfold buildE
  rw [h0]
  simp only [h1, h2]
  cases fillS pl zc parts <;> rfl
def fsK (pl : List (Nat × Nat)) (cells : List AV) (v : AV) (r : List (Nat × AV)) : Option (Nat × Nat) → Option (List AV)
  | some (off, z) => if (cellsA v).length = z ∧ off + z ≤ cells.length ∧ (cellsA v).all one = true then fillS pl (over cells off (cellsA v)) r else none
  | none => none
theorem fillS_nil (pl : List (Nat × Nat)) (cells : List AV) : fillS pl cells [] = some cells := rfl
theorem fillS_cons (pl : List (Nat × Nat)) (cells : List AV) (i : Nat) (v : AV) (r : List (Nat × AV)) : fillS pl cells ((i, v) :: r) = fsK pl cells v r pl[i]? := by
  simp only [fillS]
  cases pl[i]? <;> rfl
theorem fsK_some (pl : List (Nat × Nat)) (cells : List AV) (v : AV) (r : List (Nat × AV)) (off z : Nat) : fsK pl cells v r (some (off, z)) = if (cellsA v).length = z ∧ off + z ≤ cells.length ∧ (cellsA v).all one = true then fillS pl (over cells off (cellsA v)) r else none := rfl

def stR (n c g k : Nat) (H1 : Hp) (xs : List IV) (sz r : Nat) (rows : List (List IV)) (ex : Bool) : Option (List IV) → Option Hp
  | some row => some (H1.set c (.sl sz g (rows.set r (row.take k ++ xs ++ row.drop (k + n))) ex))
  | none => none
def stG (n c g r k : Nat) (H1 : Hp) (xs : List IV) : Option Chunk → Option Hp
  | some (.sl sz g' rows ex) => if g = g' ∧ k + n ≤ sz then stR n c g' k H1 xs sz r rows ex rows[r]? else none
  | _ => none
def stF (ks : List (Option Nat)) (n c g r k : Nat) : Option (List IV × Hp) → Option Hp
  | some (xs, H1) => stG n c g r k H1 (canR ks xs) H1[c]?
  | none => none
def stC (ks : List (Option Nat)) (n : Nat) (H : Hp) (c g r k : Nat) (cv : List AV) : Option Chunk → Option Hp
  | some (.box cells) => if k + n ≤ cells.length then some (H.set c (.box (over cells k cv))) else none
  | some (.sl ..) => stF ks n c g r k (freezeAll H cv)
  | _ => none
theorem st_eq {E : Env} {t n : Nat} (h : szO E.P t = some n) (H : Hp) (c g r k : Nat) (v : AV) :
    storeE E H t (.ptr c g r k) v = if (cellsA v).length = n ∧ (cellsA v).all one = true then stC (E.kinds t) n H c g r k (cellsA v) H[c]? else none := by
  unfold storeE
  rw [h]
  simp only
  split
  · cases H[c]? with
    | none => rfl
    | some x =>
      cases x with
      | sl sz g' rows ex =>
        simp only [stC]
        cases freezeAll H (cellsA v) with
        | none => rfl
        | some y =>
          obtain ⟨xs, H1⟩ := y
          simp only [stF]
          cases H1[c]? with
          | none => rfl
          | some x =>
            cases x with
            | sl sz g' rows ex =>
              simp only [stG]
              split
              · cases rows[r]? <;> rfl
              · rfl
            | _ => rfl
      | _ => rfl
  · rfl
theorem stC_box (ks : List (Option Nat)) (n : Nat) (H : Hp) (c g r k : Nat) (cv cells : List AV) : stC ks n H c g r k cv (some (.box cells)) = if k + n ≤ cells.length then some (H.set c (.box (over cells k cv))) else none := rfl
theorem stC_sl (ks : List (Option Nat)) (n : Nat) (H : Hp) (c g r k : Nat) (cv : List AV) (sz g' : Nat) (rows : List (List IV)) (ex : Bool) : stC ks n H c g r k cv (some (.sl sz g' rows ex)) = stF ks n c g r k (freezeAll H cv) := rfl
theorem stF_some (ks : List (Option Nat)) (n c g r k : Nat) (xs : List IV) (H1 : Hp) : stF ks n c g r k (some (xs, H1)) = stG n c g r k H1 (canR ks xs) H1[c]? := rfl
theorem stG_sl (n c g r k : Nat) (H1 : Hp) (xs : List IV) (sz g' : Nat) (rows : List (List IV)) (ex : Bool) : stG n c g r k H1 xs (some (.sl sz g' rows ex)) = if g = g' ∧ k + n ≤ sz then stR n c g' k H1 xs sz r rows ex rows[r]? else none := rfl
theorem stR_some (n c g k : Nat) (H1 : Hp) (xs : List IV) (sz r : Nat) (rows : List (List IV)) (ex : Bool) (row : List IV) : stR n c g k H1 xs sz r rows ex (some row) = some (H1.set c (.sl sz g (rows.set r (row.take k ++ xs ++ row.drop (k + n))) ex)) := rfl
theorem set_concat {α : Type} (l : List α) (a b : α) : (l ++ [a]).set l.length b = l ++ [b] := by simp
theorem norm_nil (fr : Fr) : norm [] fr = [] := rfl
theorem norm_cons (k : Nat) (l : List Nat) (fr : Fr) : norm (k :: l) fr = (k, get k fr) :: norm l fr := rfl

noncomputable def rl (E : Env) (B : Nat) (f : FuncId) (c : Code) (fr : Fr) (H : Hp) : Option (Ex × Fr × Hp) :=
  match c with
  | .loop c => seqK (execT E B f (.loop c)) (execT E B f c fr H)
  | _ => none
noncomputable def rlG (E : Env) (B : Nat) (f : FuncId) (c : Code) (p : Fr × Hp) : Option (Ex × Fr × Hp) := rl E B f c p.1 p.2
noncomputable def rlM (E : Env) (B : Nat) (f : FuncId) (c : Code) (hd : List Nat) (z : List (Nat × Nat)) (fr : Fr) (H : Hp) : Option (Ex × Fr × Hp) := rlG E B f c (gcn B (norm hd (frzF z fr H).1) (frzF z fr H).2)
theorem rlM_eq (E : Env) (B : Nat) (f : FuncId) (c : Code) (hd : List Nat) (z : List (Nat × Nat)) (fr : Fr) (H : Hp) : rlM E B f c hd z fr H = rlG E B f c (gcn B (norm hd (frzF z fr H).1) (frzF z fr H).2) := rfl
section
variable {E : Env} {B : Nat} {f : FuncId} {fn : Func} {k : Nat} {c : Code} {hd : List Nat}
theorem rlG_mk (c : Code) (fr : Fr) (H : Hp) : rlG E B f c (fr, H) = rl E B f c fr H := rfl
theorem rl_intro (hc : loopAt fn k = .loop c) (hm : E.mat f ((firstRegion c).getD 0) = []) (hb : E.matb f ((firstRegion c).getD 0) = []) (hz : E.frz f ((firstRegion c).getD 0) = []) (hh : E.head f ((firstRegion c).getD 0) = hd) (fr : Fr) (H : Hp) : execT E B f (.loop c) fr H = rlG E B f (loopAt fn k) (gcn B (norm hd fr) H) := by
  unfold rlG rl
  rw [hc, execT_loop]
  simp only [hdE, hm, hb, hz, hh, matF_nil, matB_nil, frzF_nil]
theorem rl_introM {m : List (Nat × Nat)} {mb : List (Nat × Nat × Nat)} {z : List (Nat × Nat)} (hc : loopAt fn k = .loop c) (hm : E.mat f ((firstRegion c).getD 0) = m) (hb : E.matb f ((firstRegion c).getD 0) = mb) (hz : E.frz f ((firstRegion c).getD 0) = z) (hh : E.head f ((firstRegion c).getD 0) = hd) (fr : Fr) (H : Hp) :
    execT E B f (.loop c) fr H = rlM E B f (loopAt fn k) hd z (matF m fr H).1 (matB mb (matF m fr H).1 (matF m fr H).2) := by
  unfold rlM rlG rl
  rw [hc, execT_loop]
  simp only [hdE, hm, hb, hz, hh]
theorem rl_step (hc : loopAt fn k = .loop c) (fr : Fr) (H : Hp) : rl E B f (loopAt fn k) fr H = seqK (execT E B f (.loop c)) (execT E B f c fr H) := by
  unfold rl
  rw [hc]
end
theorem gc_T {B : Nat} {H : Hp} (h : B ≤ H.length) (fr : Fr) : gc B fr H = gcW (gcR B fr H) fr H := by unfold gc; rw [if_pos h]
theorem nc1 (k : Nat) : (k : Int) + 1 = ((k + 1 : Nat) : Int) := rfl

theorem w_i8 {n : Int} (h1 : -128 ≤ n) (h2 : n ≤ 127) : IntKind.i8.wrap n = n := by
  simp only [IntKind.wrap, IntKind.signed, IntKind.bits, Bool.true_and, ge_iff_le, decide_eq_true_eq]
  split <;> omega
theorem w_u8 {n : Int} (h1 : 0 ≤ n) (h2 : n ≤ 255) : IntKind.u8.wrap n = n := by
  simp only [IntKind.wrap, IntKind.signed, IntKind.bits, Bool.false_and, Bool.false_eq_true, if_false]
  omega
theorem w_i16 {n : Int} (h1 : -32768 ≤ n) (h2 : n ≤ 32767) : IntKind.i16.wrap n = n := by
  simp only [IntKind.wrap, IntKind.signed, IntKind.bits, Bool.true_and, ge_iff_le, decide_eq_true_eq]
  split <;> omega
theorem w_u16 {n : Int} (h1 : 0 ≤ n) (h2 : n ≤ 65535) : IntKind.u16.wrap n = n := by
  simp only [IntKind.wrap, IntKind.signed, IntKind.bits, Bool.false_and, Bool.false_eq_true, if_false]
  omega
theorem w_i32 {n : Int} (h1 : -2147483648 ≤ n) (h2 : n ≤ 2147483647) : IntKind.i32.wrap n = n := by
  simp only [IntKind.wrap, IntKind.signed, IntKind.bits, Bool.true_and, ge_iff_le, decide_eq_true_eq]
  split <;> omega
theorem w_u32 {n : Int} (h1 : 0 ≤ n) (h2 : n ≤ 4294967295) : IntKind.u32.wrap n = n := by
  simp only [IntKind.wrap, IntKind.signed, IntKind.bits, Bool.false_and, Bool.false_eq_true, if_false]
  omega
theorem w_i64 {n : Int} (h1 : -9223372036854775808 ≤ n) (h2 : n ≤ 9223372036854775807) : IntKind.i64.wrap n = n := by
  simp only [IntKind.wrap, IntKind.signed, IntKind.bits, Bool.true_and, ge_iff_le, decide_eq_true_eq]
  split <;> omega
theorem w_u64 {n : Int} (h1 : 0 ≤ n) (h2 : n ≤ 18446744073709551615) : IntKind.u64.wrap n = n := by
  simp only [IntKind.wrap, IntKind.signed, IntKind.bits, Bool.false_and, Bool.false_eq_true, if_false]
  omega
theorem lt_T {a b : Int} (h : a < b) : (a < b) = True := eq_true h
theorem lt_F {a b : Int} (h : b ≤ a) : (a < b) = False := eq_false (by omega)
theorem le_T {a b : Int} (h : a ≤ b) : (a ≤ b) = True := eq_true h
theorem le_F {a b : Int} (h : b < a) : (a ≤ b) = False := eq_false (by omega)
theorem eq_F {a b : Int} (h : ¬ a = b) : (a = b) = False := eq_false h
theorem eq_T {a b : Int} (h : a = b) : (a = b) = True := eq_true h
theorem nlt_T {a b : Nat} (h : a < b) : (a < b) = True := eq_true h
theorem nlt_F {a b : Nat} (h : b ≤ a) : (a < b) = False := eq_false (by omega)
theorem nle_T {a b : Nat} (h : a ≤ b) : (a ≤ b) = True := eq_true h
theorem nle_F {a b : Nat} (h : b < a) : (a ≤ b) = False := eq_false (by omega)
end Go.VI

set_option linter.unusedSimpArgs false
set_option linter.unusedVariables false
namespace Go.VI
def powT : List IV := Lib.pow10Tab.map fun z => .v (.int .u64 z)
def envP (P : Program) : Env := { P := P, keep := fun _ _ => [], head := fun _ _ => [], flo := fun _ _ => [], hol := fun _ _ => false, glob := fun _ => none, byref := fun _ => false, ext := fun _ => none, kinds := fun _ => [], argk := fun _ => [], resk := fun _ => [], own := fun _ => false, mat := fun _ _ => [], matb := fun _ _ => [], frz := fun _ _ => [] }
theorem appendE_P (E : Env) : appendE (envP E.P) = appendE E := rfl
def extAppendInt (P : Program) (t t2 : TypeId) : List AV → Hp → Option (AV × Hp)
  | [s, .i (.v (.int .i64 n)), .i (.v (.int .i64 b))], H => if b = 10 ∧ 0 ≤ n ∧ n ≤ 9223372036854775807 then appendE (envP P) H t t2 s (.i (.str (Lib.decDigits n.toNat))) else none
  | _, _ => none
def Ext1 (E : Env) (f : FuncId) (h : List AV → Hp → Option (AV × Hp)) : Prop := ∀ args H r H', h args H = some (r, H') → ∀ I η w vs, Conc E I η H w → ArgsOK I η H args vs →
  Calls E.P f vs w fun e w' => ∃ x, e = .returned x ∧ After E I η H w H' w' fun I' η' => RelA I' η' H' r x
theorem args_three {I : Imm} {η : Eta} {H : Hp} {a b c : AV} {vs : Array Value} (h : ArgsOK I η H [a, b, c] vs) : ∃ x y z, vs = #[x, y, z] ∧ RelA I η H a x ∧ RelA I η H b y ∧ RelA I η H c z := by
  obtain ⟨hs, hr⟩ := h
  obtain ⟨l⟩ := vs
  match l, hs with
  | [x, y, z], _ => exact ⟨x, y, z, rfl, hr 0 a rfl, hr 1 b rfl, hr 2 c rfl⟩
end Go.VI

set_option linter.unusedSimpArgs false
set_option linter.unusedVariables false
namespace Go.VI
theorem condK_b (b : Bool) (x y : Option (Ex × Fr × Hp)) : condK (.i (.v (.bool b))) x y = if b = true then x else y := by cases b <;> rfl
theorem condK_ndec (p : Prop) [Decidable p] (a b : Option (Ex × Fr × Hp)) : condK (.i (.v (.bool (decide (¬ p))))) a b = if p then b else a := by by_cases h : p <;> simp [h, condK]
theorem be_ii (P : Program) (op : BinOp) (t : TypeId) (k k' : IntKind) (a b : Int) : binE P op t (.i (.v (.int k a))) (.i (.v (.int k' b))) = intE op k a k' b := rfl
theorem be_ss (P : Program) (op : BinOp) (t : TypeId) (a b : List UInt8) : binE P op t (.i (.str a)) (.i (.str b)) = strE op a b := rfl
theorem be_bb (P : Program) (t : TypeId) (a b : Bool) : binE P .eql t (.i (.v (.bool a))) (.i (.v (.bool b))) = (eqE P t (.i (.v (.bool a))) (.i (.v (.bool b)))).map .bool := rfl
theorem be_bn (P : Program) (t : TypeId) (a b : Bool) : binE P .neq t (.i (.v (.bool a))) (.i (.v (.bool b))) = (eqE P t (.i (.v (.bool a))) (.i (.v (.bool b)))).map fun b => .bool (!b) := rfl
theorem be_pn (P : Program) (t : TypeId) (c g r k : Nat) : binE P .eql t (.ptr c g r k) (.i (.v (.pointer none))) = (eqE P t (.ptr c g r k) (.i (.v (.pointer none)))).map .bool := rfl
theorem be_pnn (P : Program) (t : TypeId) (c g r k : Nat) : binE P .neq t (.ptr c g r k) (.i (.v (.pointer none))) = (eqE P t (.ptr c g r k) (.i (.v (.pointer none)))).map fun b => .bool (!b) := rfl
theorem be_tn (P : Program) (t : TypeId) (c : List IV) (o : Nat) : binE P .eql t (.i (.pt c o)) (.i (.v (.pointer none))) = (eqE P t (.i (.pt c o)) (.i (.v (.pointer none)))).map .bool := rfl
theorem be_tnn (P : Program) (t : TypeId) (c : List IV) (o : Nat) : binE P .neq t (.i (.pt c o)) (.i (.v (.pointer none))) = (eqE P t (.i (.pt c o)) (.i (.v (.pointer none)))).map fun b => .bool (!b) := rfl
theorem be_nn (P : Program) (t : TypeId) : binE P .eql t (.i (.v (.pointer none))) (.i (.v (.pointer none))) = (eqE P t (.i (.v (.pointer none))) (.i (.v (.pointer none)))).map .bool := rfl
theorem be_nnn (P : Program) (t : TypeId) : binE P .neq t (.i (.v (.pointer none))) (.i (.v (.pointer none))) = (eqE P t (.i (.v (.pointer none))) (.i (.v (.pointer none)))).map fun b => .bool (!b) := rfl
section
variable {E : Env} {cl : CallF} {ops : List Oper} {fr : Fr} {H : Hp}
theorem guK_b (dst : Option Nat) (op : Op) (r : List Oper) (b : Bool) : guK E cl ops dst op r fr H (some b) = if b = true then opK E cl ops dst r fr (evOp E cl op fr H) else evOps E cl ops r (putD dst (.tup []) fr) H := by cases b <;> rfl
theorem guT_b (dst : Option Nat) (op : Op) (r : List Oper) (b : Bool) : guT E cl ops dst op r fr H (some b) = if b = true then opT E cl ops dst op r fr H (evOp E cl op fr H) else tK [] (evT E cl ops r (putD dst (.tup []) fr) H) := by cases b <;> rfl
theorem guK_dec (dst : Option Nat) (op : Op) (r : List Oper) (p : Prop) [Decidable p] : guK E cl ops dst op r fr H (some (decide p)) = if p then opK E cl ops dst r fr (evOp E cl op fr H) else evOps E cl ops r (putD dst (.tup []) fr) H := by by_cases h : p <;> simp [h, guK]
theorem guT_dec (dst : Option Nat) (op : Op) (r : List Oper) (p : Prop) [Decidable p] : guT E cl ops dst op r fr H (some (decide p)) = if p then opT E cl ops dst op r fr H (evOp E cl op fr H) else tK [] (evT E cl ops r (putD dst (.tup []) fr) H) := by by_cases h : p <;> simp [h, guT]
theorem guK_ndec (dst : Option Nat) (op : Op) (r : List Oper) (p : Prop) [Decidable p] : guK E cl ops dst op r fr H (some (decide (¬ p))) = if p then evOps E cl ops r (putD dst (.tup []) fr) H else opK E cl ops dst r fr (evOp E cl op fr H) := by by_cases h : p <;> simp [h, guK]
theorem guT_ndec (dst : Option Nat) (op : Op) (r : List Oper) (p : Prop) [Decidable p] : guT E cl ops dst op r fr H (some (decide (¬ p))) = if p then tK [] (evT E cl ops r (putD dst (.tup []) fr) H) else opT E cl ops dst op r fr H (evOp E cl op fr H) := by by_cases h : p <;> simp [h, guT]
theorem pickK_t (a b : AV) : pickK a b (.i (.v (.bool true))) = some a := rfl
theorem pickK_f (a b : AV) : pickK a b (.i (.v (.bool false))) = some b := rfl
theorem pickK_bb (a b t : Bool) : pickK (.i (.v (.bool a))) (.i (.v (.bool b))) (.i (.v (.bool t))) = some (.i (.v (.bool (bif t then a else b)))) := by cases t <;> rfl
theorem ndec (p : Prop) [Decidable p] : (!decide p) = decide (¬ p) := by by_cases h : p <;> simp [h]
theorem odec (p q : Prop) [Decidable p] [Decidable q] : (decide p || decide q) = decide (p ∨ q) := by by_cases h : p <;> simp [h]
theorem adec (p q : Prop) [Decidable p] [Decidable q] : (decide p && decide q) = decide (p ∧ q) := by by_cases h : p <;> simp [h]
theorem sdec (a b : List UInt8) : (a == b) = decide (a = b) := by by_cases h : a = b <;> simp [h]
theorem u8_eq (a b : UInt8) : (a = b) = (a.toNat = b.toNat) := by simp [UInt8.toNat_inj]
def cvK (H : Hp) : AV → Option (AV × Hp)
  | .i (.str l) => if l.length < 1073741824 then some (.ref H.length 0 0 l.length, H ++ [.sl 1 0 (l.map fun b => [IV.v (.int .u8 b.toNat)]) false]) else none
  | _ => none
theorem cvK_str (l : List UInt8) : cvK H (.i (.str l)) = if l.length < 1073741824 then some (.ref H.length 0 0 l.length, H ++ [.sl 1 0 (l.map fun b => [IV.v (.int .u8 b.toNat)]) false]) else none := rfl
theorem op_convB {s d : TypeId} (h1 : isStrO E.P s = true) (h2 : (slO E.P d).bind (kindO E.P) = some .u8) (x : Operand) : evOp E cl (.convert s d x) fr H = cvK H (opd E fr x) := by
  have h3 : (slO E.P d).isSome = true := by cases h : slO E.P d with | none => rw [h] at h2; cases h2 | some _ => rfl
  rw [op_heavy _ (by simpa [heavy] using h3) (by intro f a t e; cases e)]
  simp only [evH]
  generalize opd E fr x = y
  cases y with
  | i y => cases y with
    | str l => simp only [cvK, h1, h2, true_and]
    | _ => rfl
  | _ => rfl
def cvS : Option (Nat × List (List IV) × Bool) → Option AV
  | some (z, rows, _) => if rows = [] ∨ z = 1 then (numsOf rows).map fun l => .str (l.map fun n => UInt8.ofNat n.toNat) else none
  | none => none
theorem cvS_some (z : Nat) (rows : List (List IV)) (ex : Bool) : cvS (some (z, rows, ex)) = if rows = [] ∨ z = 1 then (numsOf rows).map fun l => .str (l.map fun n => UInt8.ofNat n.toNat) else none := rfl
theorem op_cvS {s d e : TypeId} (h : slO E.P d = none) (hs : slO E.P s = some e) (h1 : isStrO E.P d = true) (h2 : kindO E.P e = some .u8) (x : Operand) : evOp E cl (.convert s d x) fr H = pK H (cvS (rowsE H (opd E fr x))) := by
  rw [op_convS s d e x h hs]
  simp only [convS, h1, h2, and_self, if_true]
  cases rowsE H (opd E fr x) <;> rfl
theorem rowsE_i (sz : Nat) (rows : List (List IV)) (ex : Bool) : rowsE H (.i (.sl sz rows ex)) = some (sz, rows, ex) := rfl
theorem rowsE_ref (c g off len : Nat) : rowsE H (.ref c g off len) = rsC g off len H[c]? := by
  simp only [rowsE]
  cases H[c]? with
  | none => rfl
  | some x => cases x <;> rfl
theorem numsOf_nil : numsOf [] = some [] := rfl
theorem numsOf_cons (n : Int) (r : List (List IV)) : numsOf ([.v (.int .u8 n)] :: r) = (numsOf r).map (n :: ·) := rfl
theorem numsOf_bytes (l : List UInt8) : numsOf (l.map fun b => [IV.v (.int .u8 b.toNat)]) = some (l.map fun b => (b.toNat : Int)) := by
  induction l with
  | nil => rfl
  | cons b l ih => simp only [List.map_cons, numsOf_cons, ih, Option.map_some]
theorem bytes_back (l : List UInt8) : (l.map fun b => (b.toNat : Int)).map (fun n => UInt8.ofNat n.toNat) = l := by
  rw [List.map_map]
  conv => rhs; rw [← List.map_id l]
  refine List.map_congr_left fun b _ => ?_
  simp
def nxK (H : Hp) (c : Nat) : Option Chunk → Option (AV × Hp)
  | some (.iter s pos) => if pos < s.length then
      some (.tup [.i (.v (.bool true)), .i (.v (.int .i64 pos)), .i (.v (.int .i32 (Utf8.decode ⟨⟨s⟩⟩ pos).1))], H.set c (.iter s (pos + (Utf8.decode ⟨⟨s⟩⟩ pos).2))) else some (.tup [.i (.v (.bool false))], H)
  | _ => none
theorem nxK_iter (c : Nat) (s : List UInt8) (pos : Nat) : nxK H c (some (.iter s pos)) = if pos < s.length then
      some (.tup [.i (.v (.bool true)), .i (.v (.int .i64 pos)), .i (.v (.int .i32 (Utf8.decode ⟨⟨s⟩⟩ pos).1))], H.set c (.iter s (pos + (Utf8.decode ⟨⟨s⟩⟩ pos).2))) else some (.tup [.i (.v (.bool false))], H) := rfl
def nxA (H : Hp) : AV → Option (AV × Hp)
  | .ptr c _ _ 0 => nxK H c H[c]?
  | _ => none
theorem nxA_ptr (c g r : Nat) : nxA H (.ptr c g r 0) = nxK H c H[c]? := rfl
theorem op_nx (it : Operand) : evOp E cl (.next it true) fr H = nxA H (opd E fr it) := by
  rw [op_next]
  simp only [evH]
  cases opd E fr it with
  | ptr c g r k => cases k with
    | zero =>
      simp only [nxA]
      cases H[c]? with
      | none => rfl
      | some x => cases x <;> rfl
    | succ k => rfl
  | _ => rfl

def slSK (s : List UInt8) : Option Nat → Option Nat → Option AV
  | some l, some h => if l ≤ h ∧ h ≤ s.length then some (.i (.str ((s.drop l).take (h - l)))) else none
  | _, _ => none
theorem slSK_some (s : List UInt8) (l h : Nat) : slSK s (some l) (some h) = if l ≤ h ∧ h ≤ s.length then some (.i (.str ((s.drop l).take (h - l)))) else none := rfl
theorem bnd_n (d : Nat) : bnd d none = some d := rfl
theorem bnd_i (d : Nat) (k : IntKind) (n : Int) : bnd d (some (.i (.v (.int k n)))) = if 0 ≤ n then some n.toNat else none := rfl
theorem sl_str {t : TypeId} (ht : isStrO E.P t = true) (s : List UInt8) (lo hi : Option AV) : sliceE E H t (.i (.str s)) lo hi none = slSK s (bnd 0 lo) (bnd s.length hi) := by
  simp only [sliceE, lenE, ht, Option.isNone_none, and_self, if_true]
  cases bnd 0 lo with
  | none => rfl
  | some l => cases bnd s.length hi <;> rfl
def slN1 (z sz : Nat) (rows : List (List IV)) (ex : Bool) : Option Nat → Option Nat → Option AV
  | some l, some h => if (l ≤ h ∧ h ≤ rows.length) ∧ (rows = [] ∨ z = sz) then some (.i (.sl sz ((rows.drop l).take (h - l)) (ex && decide (h = rows.length)))) else none
  | _, _ => none
def slN2 (z c g off len : Nat) : Option Nat → Option Nat → Option Chunk → Option AV
  | some l, some h, some (.sl sz g' _ _) => if (l ≤ h ∧ h ≤ len) ∧ g = g' ∧ z = sz then some (.ref c g (off + l) (h - l)) else none
  | some l, some h, some (.fz sz g' rows ex) => if (l ≤ h ∧ h ≤ len) ∧ g = g' ∧ z = sz ∧ off + len ≤ rows.length then some (.i (.sl sz ((rows.drop (off + l)).take (h - l)) (ex && decide (off + h = rows.length)))) else none
  | _, _, _ => none
def slN (z : Nat) (H : Hp) (lo hi : Option AV) : AV → Option AV
  | .i (.sl sz rows ex) => slN1 z sz rows ex (bnd 0 lo) (bnd rows.length hi)
  | .ref c g off len => slN2 z c g off len (bnd 0 lo) (bnd len hi) H[c]?
  | _ => none
theorem slN_i (z : Nat) (lo hi : Option AV) (sz : Nat) (rows : List (List IV)) (ex : Bool) : slN z H lo hi (.i (.sl sz rows ex)) = slN1 z sz rows ex (bnd 0 lo) (bnd rows.length hi) := rfl
theorem slN_ref (z : Nat) (lo hi : Option AV) (c g off len : Nat) : slN z H lo hi (.ref c g off len) = slN2 z c g off len (bnd 0 lo) (bnd len hi) H[c]? := rfl
theorem slN1_some (z sz : Nat) (rows : List (List IV)) (ex : Bool) (l h : Nat) : slN1 z sz rows ex (some l) (some h) = if (l ≤ h ∧ h ≤ rows.length) ∧ (rows = [] ∨ z = sz) then some (.i (.sl sz ((rows.drop l).take (h - l)) (ex && decide (h = rows.length)))) else none := rfl
theorem slN2_sl (z c g off len l h sz g' : Nat) (rows : List (List IV)) (ex : Bool) : slN2 z c g off len (some l) (some h) (some (.sl sz g' rows ex)) = if (l ≤ h ∧ h ≤ len) ∧ g = g' ∧ z = sz then some (.ref c g (off + l) (h - l)) else none := rfl
theorem slN2_fz (z c g off len l h sz g' : Nat) (rows : List (List IV)) (ex : Bool) : slN2 z c g off len (some l) (some h) (some (.fz sz g' rows ex)) = if (l ≤ h ∧ h ≤ len) ∧ g = g' ∧ z = sz ∧ off + len ≤ rows.length then some (.i (.sl sz ((rows.drop (off + l)).take (h - l)) (ex && decide (off + h = rows.length)))) else none := rfl
theorem rg0 : List.range 0 = [] := rfl
theorem rg1 : List.range 1 = [0] := rfl
theorem rg2 : List.range 2 = [0, 1] := rfl
theorem rg3 : List.range 3 = [0, 1, 2] := rfl
theorem rg4 : List.range 4 = [0, 1, 2, 3] := rfl
theorem rg5 : List.range 5 = [0, 1, 2, 3, 4] := rfl
theorem reach_cons (n c : Nat) (r seen : List Nat) : reach H (n + 1) (c :: r) seen = if c ∈ seen ∨ H.length ≤ c then reach H n r seen else reach H n (((H[c]?).map Chunk.refs).getD [] ++ r) (seen ++ [c]) := rfl
end
end Go.VI

set_option linter.unusedVariables false
set_option linter.defProp false
namespace Go.VI
def va0 := And.intro @execT_seq (And.intro @execT_region (And.intro @execT_cond (And.intro @execT_block (And.intro @execT_exit (And.intro @execT_ret (And.intro @execT_skip (And.intro @execT_label (And.intro @execT_scope (And.intro @seqK_n (And.intro @seqK_e (And.intro @seqK_r (And.intro @regK_some (And.intro @regTK_some (And.intro @condK_t (And.intro @condK_f (And.intro @blockK_n (And.intro @blockK_r (And.intro @blockK_e (@endK_r)))))))))))))))))))
def va1 := And.intro @endK_n (And.intro @endR_some (And.intro @resE_eq (And.intro @resEs_nil (And.intro @resEs_cons (And.intro @resE1_t (And.intro @resE1_c (And.intro @consK_some (And.intro @tupK_1 (And.intro @tupK_2 (And.intro @evOps_nil (And.intro @evOps_cons (And.intro @evOps_guard (And.intro @opK_some (And.intro @guK_t (And.intro @guK_f (And.intro @gV_b (And.intro @gV_u (And.intro @evT_nil (@evT_cons)))))))))))))))))))
def va2 := And.intro @evT_guard (And.intro @tK_some (And.intro @opT_some (And.intro @guT_t (And.intro @guT_f (And.intro @pK_some (And.intro @op_move (And.intro @op_assign (And.intro @op_pick (And.intro @pickK_bb (And.intro @pickK_t (And.intro @pickK_f (And.intro @op_load (And.intro @op_bin (And.intro @op_un (And.intro @op_slice (And.intro @op_index (And.intro @op_indexAddr (And.intro @op_field (@op_build)))))))))))))))))))
def va3 := And.intro @op_makeFunc (And.intro @op_nil (And.intro @op_extract (And.intro @op_fieldAddr (And.intro @op_len (And.intro @op_max (And.intro @op_min (And.intro @op_append (And.intro @op_range (And.intro @op_nx (And.intro @nxA_ptr (And.intro @nxK_iter (And.intro @op_alloc (And.intro @op_box (And.intro @op_buildSlice (And.intro @op_store (And.intro @stK_some (And.intro @op_makeSlice (And.intro @op_call (@clK_f)))))))))))))))))))
def va4 := And.intro @caK_t (And.intro @touch_call (And.intro @touch_bi (And.intro @touch_load (And.intro @touch_ia (And.intro @touch_slice (And.intro @touch_store (And.intro @touch_bs (And.intro @touch_move (And.intro @touch_assign (And.intro @touch_pick (And.intro @touch_bin (And.intro @touch_un (And.intro @touch_conv (And.intro @touch_range (And.intro @touch_next (And.intro @touch_mf (And.intro @touch_field (And.intro @touch_fa (@touch_ix)))))))))))))))))))
def va5 := And.intro @touch_ex (And.intro @touch_nil (And.intro @touch_bd (And.intro @touch_alloc (And.intro @touch_box (And.intro @touch_ms (And.intro @tcK_f (And.intro @crK_some (And.intro @reach_nil (And.intro @reach_cons (And.intro @gc_T (And.intro @rlG_mk (And.intro @rg0 (And.intro @rg1 (And.intro @rg2 (And.intro @rg3 (And.intro @rg4 (And.intro @rg5 (And.intro @evD_nil (@evD_op)))))))))))))))))))
def va6 := And.intro @evD_guard (And.intro @opD_some (And.intro @guD_t (And.intro @guD_f (And.intro @putH_hole (And.intro @norm_nil (And.intro @norm_cons (And.intro @be_ii (And.intro @be_ss (And.intro @be_bb (And.intro @be_bn (And.intro @be_pn (And.intro @be_pnn (And.intro @be_tn (And.intro @be_tnn (And.intro @be_nn (And.intro @be_nnn (And.intro @prepK_some (And.intro @peP_some (@brK_some)))))))))))))))))))
def va7 := And.intro @tupK_0 (And.intro @pr_nil (And.intro @pr_i (And.intro @pr_dead (And.intro @pr_ptr (And.intro @pr_clo (And.intro @pr_tup (And.intro @pr_ref (And.intro @pr_agg (And.intro @prK_some (And.intro @prF_some (And.intro @prG_some (And.intro @prG_none (And.intro @fz_i (And.intro @fz_ref (And.intro @fz_ptr (And.intro @fz_clo (And.intro @fzK_sl (And.intro @fzK_fz (@faK_some)))))))))))))))))))
def va8 := And.intro @faK_none (And.intro @faF_some (And.intro @faF_none (And.intro @fa_nil (And.intro @fa_cons (And.intro @fa_map (And.intro @retE_tup (And.intro @retE_i (And.intro @retE_agg (And.intro @retE_ref (And.intro @retE_ptr (And.intro @retE_clo (And.intro @retL_eq (And.intro @rtK_f (And.intro @rtK_t (And.intro @rtP_some (And.intro @ret1_some (And.intro @retN_some (And.intro @canI_n (@canI_v)))))))))))))))))))
def va9 := And.intro @canI_str (And.intro @canI_pt (And.intro @canI_sl (And.intro @canI_nil (And.intro @canR_nil (And.intro @canR_e (And.intro @canR_cons (And.intro @canC_nil (And.intro @canC_e (And.intro @canC_i (And.intro @canC_ref (And.intro @canC_ptr (And.intro @canC_clo (And.intro @canA_i (And.intro @canA_i0 (And.intro @canA_agg (And.intro @canA_ref (And.intro @canA_ptr (And.intro @canA_clo (@canA_tup)))))))))))))))))))
def va10 := And.intro @canLs_nil (And.intro @canLs_e (And.intro @canLs_cons (And.intro @matV_nil (And.intro @matV_false (And.intro @matV_ref (And.intro @mat1_z (And.intro @mat1_n (And.intro @mat1_0 (And.intro @mat1_2 (And.intro @matL_nil (And.intro @matL_e (And.intro @matL_cons (And.intro @matF_nil (And.intro @matF_cons (And.intro @matB_nil (And.intro @matB_cons (And.intro @matB2_ptr (And.intro @matB1_box (@matB3_some)))))))))))))))))))
def va11 := And.intro @frzF_nil (And.intro @frzF_cons (And.intro @frz1_some (And.intro @cnA_i (And.intro @cnA_dead (And.intro @cnA_agg (And.intro @cnA_tup (And.intro @cnA_clo (And.intro @cnA_ref (And.intro @cnA_ptr (And.intro @cnRef_sl (And.intro @cnRef_fz (And.intro @cnPtr_sl (And.intro @cnPtr_fz (And.intro @cnPtr_box (And.intro @cnPtr_iter (And.intro @cnL_nil (And.intro @cnL_cons (And.intro @cnC_box (@cnC_sl)))))))))))))))))))
def va12 := And.intro @cnC_fz (And.intro @cnC_iter (And.intro @cnHs_nil (And.intro @cnHs_cons (And.intro @cnF_nil (And.intro @cnF_cons (And.intro @gcn_eq (And.intro @rlM_eq (And.intro @nc1 (And.intro @cvK_str (And.intro @u8_eq (And.intro @slSK_some (And.intro @bnd_n (And.intro @bnd_i (And.intro @slN_i (And.intro @slN_ref (And.intro @slN1_some (And.intro @slN2_sl (And.intro @slN2_fz (@cvS_some)))))))))))))))))))
def va13 := And.intro @rowsE_i (And.intro @rowsE_ref (And.intro @numsOf_nil (And.intro @numsOf_cons (And.intro @numsOf_bytes (And.intro @bytes_back (And.intro @apS_some (And.intro @apV_i (And.intro @apV_ref (And.intro @apC_sl (And.intro @apC_fz (And.intro @src_str (And.intro @src_sl (And.intro @src_ref (And.intro @rsC_sl (And.intro @rsC_fz (And.intro @bsF_some (And.intro @bsG_some (And.intro @stC_box (@stC_sl)))))))))))))))))))
def va14 := And.intro @stF_some (And.intro @stG_sl (And.intro @stR_some (And.intro @set_concat (And.intro @aggK_some (And.intro @fillS_nil (And.intro @fillS_cons (@fsK_some)))))))
def vb0 := And.intro @List.flatMap_cons.{0, 0} (And.intro @List.flatMap_nil.{0, 0} (And.intro @List.filter_cons.{0} (And.intro @List.filter_nil.{0} (And.intro @List.mem_cons.{0} (And.intro @List.not_mem_nil.{0} (And.intro @List.replicate_zero.{0} (And.intro @List.replicate_succ.{0} (And.intro @List.foldl_cons.{0, 0} (And.intro @List.foldl_nil.{0, 0} (And.intro @List.toList_toArray.{0} (And.intro @List.getElem?_cons_zero.{0} (And.intro @List.getElem?_cons_succ.{0} (And.intro @List.getElem?_toArray.{0} (And.intro @Option.map_some.{0, 0} (And.intro @Option.map_none.{0, 0} (And.intro @Option.bind_some.{0, 0} (And.intro @Option.bind_none.{0, 0} (And.intro @Option.getD_some.{0} (@Option.getD_none.{0})))))))))))))))))))
def vb1 := And.intro @Option.isSome_some.{0} (And.intro @Option.isSome_none.{0} (And.intro @Option.isNone_none.{0} (And.intro @Bool.false_eq_true (And.intro @List.all_nil.{0} (And.intro @List.all_cons.{0} (And.intro @List.cons_append.{0} (And.intro @List.nil_append.{0} (And.intro @List.append_nil.{0} (And.intro @Bool.and_true (And.intro @Bool.true_and (And.intro @Bool.and_false (And.intro @Bool.false_and (And.intro @Bool.or_true (And.intro @Bool.true_or (And.intro @Bool.or_false (And.intro @Bool.false_or (And.intro @Bool.not_true (And.intro @Bool.not_false (@List.getD_cons_zero.{0})))))))))))))))))))
def vb2 := And.intro @List.getD_cons_succ.{0} (And.intro @Nat.add_zero (And.intro @Nat.zero_add (And.intro @List.length_cons.{0} (And.intro @List.length_nil.{0} (And.intro @List.length_map.{0, 0} (And.intro @Nat.sub_self (And.intro @List.range'_zero (And.intro @List.range'_one (And.intro @Nat.lt_irrefl (And.intro @Nat.le_refl (And.intro @Int.toNat_natCast (And.intro @Nat.zero_lt_succ (And.intro @Int.natCast_nonneg (And.intro @List.drop_zero.{0} (And.intro @List.contains_nil.{0} (And.intro @List.contains_cons.{0} (And.intro @List.elem_nil.{0} (And.intro @List.cons.injEq.{0} (@Int.cast_ofNat_Int)))))))))))))))))))
def vb3 := And.intro @List.getElem?_nil.{0} (And.intro @Option.some.injEq.{0} (And.intro @List.append_eq.{0} (And.intro @List.set_cons_zero.{0} (And.intro @List.set_cons_succ.{0} (And.intro @List.set_nil.{0} (And.intro @List.length_set.{0} (And.intro @List.length_append.{0} (And.intro @List.getElem?_map.{0, 0} (And.intro @Bool.cond_true_left (And.intro @Bool.cond_false_right (And.intro @Bool.cond_false_left (And.intro @Bool.cond_true_right (And.intro @Int.not_lt (And.intro @Int.not_le (And.intro @UInt8.ofNat_toNat (And.intro @Classical.not_not (And.intro @List.flatten_cons.{0} (And.intro @List.flatten_nil.{0} (@List.getElem?_concat_length.{0})))))))))))))))))))
end Go.VI

set_option linter.unusedSimpArgs false
set_option linter.unusedVariables false
namespace Go.VI

theorem isoK_app {E : Env} {cl : CallF} {H : Hp} {f c g g' n m sz : Nat} {as : List AV} {rows rows' : List (List IV)} {ex ex' : Bool} {h : List AV → List Chunk → Option (AV × List Chunk)} (he : E.ext f = some h) (hH : H[c]? = some (.sl sz g rows ex)) (has : refsL as = [])
    (hc : h (.ref 0 g 0 n :: as) [.sl sz g rows ex] = some (.ref 0 g' 0 m, [.sl sz g' rows' ex'])) :
    isoK E cl f (.ref c g 0 n :: as) H = some (.ref c g' 0 m, H.set c (.sl sz g' rows' ex')) := by
  have h1 : ∀ ρ, renL ρ as = as := fun ρ => (refs_ren ρ).2 as has
  have hR := reach_one hH (by rfl)
  unfold isoK
  simp [exCl, he, refsL, refsA, hR, renL, renA, posIn, hH, Chunk.ren, has, h1, hc, Chunk.refs, reach, setAll, backRen]
end Go.VI

