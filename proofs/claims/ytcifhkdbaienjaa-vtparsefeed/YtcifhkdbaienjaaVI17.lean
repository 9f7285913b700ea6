/- VI, part 17: the interpreter without fuel, by equations. -/
import Derived.Test.YtcifhkdbaienjaaVI16
set_option linter.unusedSimpArgs false
set_option linter.unusedVariables false
namespace Go.VI
section
variable {E : Env} {cl cl' : CallF}

/-- the second answers whatever the first answers -/
def CLe (cl cl' : CallF) : Prop := ∀ f a H r, cl f a H = some r → cl' f a H = some r
def XLe (ex ex' : Exec) : Prop := ∀ B f c fr H r, ex B f c fr H = some r → ex' B f c fr H = some r

theorem iso_le (h : CLe cl cl') : CLe (callIso E cl) (callIso E cl') := by
  intro f a H r hr
  unfold callIso at hr ⊢
  cases hp : (prepE E f H a) with
  | none => rw [hp] at hr; cases hr
  | some x =>
    obtain ⟨as, H1⟩ := x
    rw [hp] at hr
    simp only at hr ⊢
    cases hg : E.ext f with
    | some g => rw [hg] at hr; exact hr
    | none =>
      rw [hg] at hr
      simp only at hr ⊢
      split at hr
      · cases hr
      · rename_i r0 L hc
        rw [h _ _ _ _ hc]
        exact hr
theorem evOp_le (h : CLe cl cl') {o : Op} {fr : Fr} {H : Hp} {r : AV × Hp} (hr : evOp E cl o fr H = some r) : evOp E cl' o fr H = some r := by
  unfold evOp at hr ⊢
  split at hr
  · split at hr
    · split at hr
      · rename_i g as hg he
        rw [if_pos he]
        exact iso_le h _ _ _ _ hr
      · cases hr
    · cases hr
  · exact hr
theorem evOps_le (h : CLe cl cl') {ops : List Oper} : ∀ {l : List Oper} {fr : Fr} {H : Hp} {r : Fr × Hp}, evOps E cl ops l fr H = some r → evOps E cl' ops l fr H = some r
  | [], fr, H, r, hr => hr
  | o :: l, fr, H, r, hr => by
    simp only [evOps] at hr ⊢
    split at hr
    · split at hr
      · rename_i v H' hv
        rw [evOp_le h hv]
        exact evOps_le h hr
      · cases hr
    · exact evOps_le h hr
    · cases hr
theorem stp_le (h : CLe cl cl') {ops : List Oper} {o : Oper} {fr : Fr} {H : Hp} {r : Fr × Hp × List Nat} (hr : stp E cl ops o fr H = some r) : stp E cl' ops o fr H = some r := by
  unfold stp at hr ⊢
  split at hr
  · split at hr
    · rename_i v H' hv
      rw [evOp_le h hv]
      exact hr
    · cases hr
  · exact hr
  · cases hr
theorem evT_le (h : CLe cl cl') {ops : List Oper} : ∀ {l : List Oper} {fr : Fr} {H : Hp} {r : Fr × Hp × List (List Nat)}, evT E cl ops l fr H = some r → evT E cl' ops l fr H = some r
  | [], fr, H, r, hr => hr
  | o :: l, fr, H, r, hr => by
    simp only [evT] at hr ⊢
    split at hr
    · rename_i fr1 H1 t hs
      rw [stp_le h hs]
      simp only
      split at hr
      · rename_i fr2 H2 ts ht
        rw [evT_le h ht]
        exact hr
      · cases hr
    · cases hr
theorem evOpD_le (h : CLe cl cl') {c : Nat} {o : Op} {fr : Fr} {H : Hp} {r : AV × Hp} (hr : evOpD E cl c o fr H = some r) : evOpD E cl' c o fr H = some r := by
  unfold evOpD at hr ⊢
  cases hf : isFresh o with
  | true => rw [hf] at hr; exact hr
  | false => rw [hf] at hr; exact evOp_le h hr
theorem evD_le (h : CLe cl cl') {ops : List Oper} : ∀ {l : List Oper} {c : Nat} {fr : Fr} {H : Hp} {r : Fr × Hp × List (List Nat)}, evD E cl ops c l fr H = some r → evD E cl' ops c l fr H = some r
  | [], c, fr, H, r, hr => hr
  | o :: l, c, fr, H, r, hr => by
    simp only [evD] at hr ⊢
    split at hr
    · split at hr
      · rename_i v H' hv
        rw [evOpD_le h hv]
        simp only
        split at hr
        · rename_i fr2 H2 ts ht
          rw [evD_le h ht]
          exact hr
        · cases hr
      · cases hr
    · split at hr
      · rename_i fr2 H2 ts ht
        rw [evD_le h ht]
        exact hr
      · cases hr
    · cases hr
theorem loc_le {ex ex' : Exec} (h : XLe ex ex') : CLe (callLoc E ex) (callLoc E ex') := by
  intro f a H r hr
  unfold callLoc at hr ⊢
  split at hr
  · rename_i fn hfn
    split at hr
    · rename_i c hc
      split at hr
      · rename_i hok
        simp only [hok, if_true]
        rw [if_pos ⟨trivial, trivial⟩]
        cases hx : ex H.length f c (frameOf 0 a) H with
        | none => rw [hx] at hr; cases hr
        | some x => rw [h _ _ _ _ _ _ hx, ← hx]; exact hr
      · cases hr
    · cases hr
  · cases hr
theorem exec_le : ∀ n, XLe (exec E n) (exec E (n + 1)) := by
  intro n
  induction n with
  | zero => intro B f c fr H r h; simp [exec] at h
  | succ n ih =>
    intro B f c fr H r h
    have hcl : CLe (callLoc E (exec E n)) (callLoc E (exec E (n + 1))) := loc_le ih
    cases c with
    | region id ops draw =>
      cases draw with
      | false =>
        rw [exec] at h ⊢
        split at h
        · rename_i fr' H' hv
          rw [evOps_le hcl hv]; exact h
        · cases h
      | true =>
        rw [exec] at h ⊢
        cases hhol : E.hol f id with
        | true =>
          rw [hhol] at h
          simp only at h ⊢
          split at h
          · rename_i fr' H' tr hv
            rw [evD_le hcl hv]; exact h
          · cases h
        | false =>
          rw [hhol] at h
          simp only at h ⊢
          split at h
          · rename_i fr' H' tr hv
            rw [evT_le hcl hv]; exact h
          · cases h
    | seq a b =>
      rw [exec] at h ⊢
      cases hx : exec E n B f a fr H with
      | none => rw [hx] at h; cases h
      | some x =>
        rw [hx] at h
        rw [ih _ _ _ _ _ _ hx]
        obtain ⟨ex, fr', H'⟩ := x
        cases ex with
        | normal => exact ih _ _ _ _ _ _ h
        | exit id => exact h
        | ret => exact h
    | cond c a b =>
      rw [exec] at h ⊢
      split at h
      · exact ih _ _ _ _ _ _ h
      · exact ih _ _ _ _ _ _ h
      · cases h
    | block id c =>
      rw [exec] at h ⊢
      cases hx : exec E n B f c fr H with
      | none => rw [hx] at h; cases h
      | some x =>
        rw [hx] at h
        rw [ih _ _ _ _ _ _ hx]
        exact h
    | loop c =>
      rw [exec] at h ⊢
      cases hx : exec E n B f c (hdE E B f ((firstRegion c).getD 0) fr H).1 (hdE E B f ((firstRegion c).getD 0) fr H).2 with
      | none => rw [hx] at h; cases h
      | some x =>
        rw [hx] at h
        rw [ih _ _ _ _ _ _ hx]
        obtain ⟨ex, fr', H'⟩ := x
        cases ex with
        | normal => exact ih _ _ _ _ _ _ h
        | exit id => exact h
        | ret => exact h
    | scope c => rw [exec] at h ⊢; exact ih _ _ _ _ _ _ h
    | _ => exact h
theorem exec_mono {n m : Nat} (h : n ≤ m) : XLe (exec E n) (exec E m) := by
  induction h with
  | refl => exact fun _ _ _ _ _ _ h => h
  | step _ ih => exact fun B f c fr H r h => exec_le _ _ _ _ _ _ _ (ih B f c fr H r h)

open Classical in
noncomputable def execT (E : Env) : Exec := fun B f c fr H => if h : ∃ n r, exec E n B f c fr H = some r then some (Classical.choose (Classical.choose_spec h)) else none
theorem execT_iff {B : Nat} {f : FuncId} {c : Code} {fr : Fr} {H : Hp} {r : Ex × Fr × Hp} : execT E B f c fr H = some r ↔ ∃ n, exec E n B f c fr H = some r := by
  unfold execT
  split
  · rename_i h
    have hs := Classical.choose_spec (Classical.choose_spec h)
    constructor
    · intro e
      exact ⟨_, by rw [hs]; exact e⟩
    · rintro ⟨n, hn⟩
      have h1 := exec_mono (Nat.le_max_left (Classical.choose h) n) _ _ _ _ _ _ hs
      have h2 := exec_mono (Nat.le_max_right (Classical.choose h) n) _ _ _ _ _ _ hn
      rw [h1] at h2
      exact h2
  · rename_i h
    constructor
    · intro e; cases e
    · rintro ⟨n, hn⟩; exact absurd ⟨n, r, hn⟩ h
/-- the call, without fuel -/
noncomputable def callT (E : Env) : CallF := callLoc E (execT E)

theorem cle_T (n : Nat) : CLe (callLoc E (exec E n)) (callT E) := loc_le fun B f c fr H r h => execT_iff.2 ⟨n, h⟩
theorem cle_nm {n m : Nat} (h : n ≤ m) : CLe (callLoc E (exec E n)) (callLoc E (exec E m)) := loc_le (exec_mono h)
theorem callT_lim {f : FuncId} {a : List AV} {H : Hp} {r : AV × Hp} (hr : callT E f a H = some r) : ∃ n, callLoc E (exec E n) f a H = some r := by
  unfold callT callLoc at hr
  unfold callLoc
  split at hr
  · rename_i fn hfn
    split at hr
    · rename_i c hc
      split at hr
      · rename_i hok
        cases hx : execT E H.length f c (frameOf 0 a) H with
        | none => rw [hx] at hr; cases hr
        | some x =>
          obtain ⟨n, hn⟩ := execT_iff.1 hx
          refine ⟨n, ?_⟩
          rw [if_pos hok, hn, ← hx]; exact hr
      · cases hr
    · cases hr
  · cases hr
theorem iso_lim {f : FuncId} {a : List AV} {H : Hp} {r : AV × Hp} (hr : callIso E (callT E) f a H = some r) : ∃ n, callIso E (callLoc E (exec E n)) f a H = some r := by
  unfold callIso at hr
  cases hp : (prepE E f H a) with
  | none => rw [hp] at hr; cases hr
  | some x =>
    obtain ⟨as, H1⟩ := x
    rw [hp] at hr
    simp only at hr
    cases hg : E.ext f with
    | some g =>
      refine ⟨0, ?_⟩
      unfold callIso
      rw [hp, hg]; rw [hg] at hr; exact hr
    | none =>
      rw [hg] at hr
      simp only at hr
      split at hr
      · cases hr
      · rename_i r0 L hc
        obtain ⟨n, hn⟩ := callT_lim hc
        refine ⟨n, ?_⟩
        unfold callIso
        rw [hp, hg]
        simp only
        rw [hn]; exact hr
theorem evOp_lim {o : Op} {fr : Fr} {H : Hp} {r : AV × Hp} (hr : evOp E (callT E) o fr H = some r) : ∃ n, evOp E (callLoc E (exec E n)) o fr H = some r := by
  unfold evOp at hr
  split at hr
  · rename_i f args tys
    split at hr
    · rename_i g as hg
      split at hr
      · rename_i he
        obtain ⟨n, hn⟩ := iso_lim hr
        refine ⟨n, ?_⟩
        simp only [evOp, hg, he, if_true, hn]
      · cases hr
    · cases hr
  · rename_i hno
    refine ⟨0, ?_⟩
    unfold evOp
    split
    · exact absurd rfl (hno _ _ _)
    · exact hr
theorem evOps_lim {ops : List Oper} : ∀ {l : List Oper} {fr : Fr} {H : Hp} {r : Fr × Hp}, evOps E (callT E) ops l fr H = some r → ∃ n, evOps E (callLoc E (exec E n)) ops l fr H = some r
  | [], fr, H, r, hr => ⟨0, hr⟩
  | o :: l, fr, H, r, hr => by
    simp only [evOps] at hr ⊢
    cases hg : guardE ops fr o with
    | none => rw [hg] at hr; cases hr
    | some b =>
      rw [hg] at hr
      cases b with
      | false => exact evOps_lim hr
      | true =>
        simp only at hr ⊢
        split at hr
        · rename_i v H' hv
          obtain ⟨n, hn⟩ := evOp_lim hv
          obtain ⟨m, hm⟩ := evOps_lim hr
          refine ⟨max n m, ?_⟩
          rw [evOp_le (cle_nm (Nat.le_max_left n m)) hn]
          exact evOps_le (cle_nm (Nat.le_max_right n m)) hm
        · cases hr
theorem stp_lim {ops : List Oper} {o : Oper} {fr : Fr} {H : Hp} {r : Fr × Hp × List Nat} (hr : stp E (callT E) ops o fr H = some r) : ∃ n, stp E (callLoc E (exec E n)) ops o fr H = some r := by
  unfold stp at hr
  cases hg : guardE ops fr o with
  | none => rw [hg] at hr; cases hr
  | some b =>
    rw [hg] at hr
    cases b with
    | false => exact ⟨0, by unfold stp; rw [hg]; exact hr⟩
    | true =>
      simp only at hr
      split at hr
      · rename_i v H' hv
        obtain ⟨n, hn⟩ := evOp_lim hv
        refine ⟨n, ?_⟩
        unfold stp
        rw [hg, hn]; exact hr
      · cases hr
theorem evT_lim {ops : List Oper} : ∀ {l : List Oper} {fr : Fr} {H : Hp} {r : Fr × Hp × List (List Nat)}, evT E (callT E) ops l fr H = some r → ∃ n, evT E (callLoc E (exec E n)) ops l fr H = some r
  | [], fr, H, r, hr => ⟨0, hr⟩
  | o :: l, fr, H, r, hr => by
    simp only [evT] at hr ⊢
    split at hr
    · rename_i fr1 H1 t hs
      split at hr
      · rename_i fr2 H2 ts ht
        obtain ⟨n, hn⟩ := stp_lim hs
        obtain ⟨m, hm⟩ := evT_lim ht
        refine ⟨max n m, ?_⟩
        rw [stp_le (cle_nm (Nat.le_max_left n m)) hn]
        simp only
        rw [evT_le (cle_nm (Nat.le_max_right n m)) hm]
        exact hr
      · cases hr
    · cases hr

theorem evD_lim {ops : List Oper} : ∀ {l : List Oper} {c : Nat} {fr : Fr} {H : Hp} {r : Fr × Hp × List (List Nat)}, evD E (callT E) ops c l fr H = some r → ∃ n, evD E (callLoc E (exec E n)) ops c l fr H = some r
  | [], c, fr, H, r, hr => ⟨0, hr⟩
  | o :: l, c, fr, H, r, hr => by
    simp only [evD] at hr ⊢
    cases hg : guardE ops fr o with
    | none => rw [hg] at hr; cases hr
    | some b =>
      rw [hg] at hr
      cases b with
      | false =>
        simp only at hr ⊢
        split at hr
        · rename_i fr2 H2 ts ht
          obtain ⟨m, hm⟩ := evD_lim ht
          refine ⟨m, ?_⟩
          rw [hm]; exact hr
        · cases hr
      | true =>
        simp only at hr ⊢
        split at hr
        · rename_i v H' hv
          split at hr
          · rename_i fr2 H2 ts ht
            have hn : ∃ n, evOpD E (callLoc E (exec E n)) c o.op fr H = some (v, H') := by
              unfold evOpD at hv ⊢
              cases hf : isFresh o.op with
              | true => rw [hf] at hv; exact ⟨0, hv⟩
              | false => rw [hf] at hv; exact evOp_lim hv
            obtain ⟨n, hn⟩ := hn
            obtain ⟨m, hm⟩ := evD_lim ht
            refine ⟨max n m, ?_⟩
            rw [evOpD_le (cle_nm (Nat.le_max_left n m)) hn]
            simp only
            rw [evD_le (cle_nm (Nat.le_max_right n m)) hm]
            exact hr
          · cases hr
        · cases hr
    
/-! the equations -/
variable {B : Nat} {f : FuncId} {fr : Fr} {H : Hp} {id : Nat}
theorem execT_skip : execT E B f .skip fr H = some (.normal, fr, H) := execT_iff.2 ⟨1, rfl⟩
theorem execT_label (l : Nat) : execT E B f (.label l) fr H = some (.normal, fr, H) := execT_iff.2 ⟨1, rfl⟩
theorem execT_ret : execT E B f .ret fr H = some (.ret, fr, H) := execT_iff.2 ⟨1, rfl⟩
theorem execT_exit (id : Nat) : execT E B f (.exit id) fr H = some (.exit id, fr, H) := execT_iff.2 ⟨1, rfl⟩
def regK (E : Env) (f : FuncId) (id : Nat) (r : Option (Fr × Hp)) : Option (Ex × Fr × Hp) := match r with
  | some (fr', H') => some (.normal, norm (E.keep f id) fr', H')
  | none => none
def regTK (E : Env) (f : FuncId) (id : Nat) (r : Option (Fr × Hp × List (List Nat))) : Option (Ex × Fr × Hp) := match r with
  | some (fr', H', tr) => if (E.flo f id).all (floatOk tr) = true then some (.normal, norm (E.keep f id) fr', H') else none
  | none => none
theorem execT_region (id : Nat) (ops : Array Oper) : execT E B f (.region id ops false) fr H = regK E f id (evOps E (callT E) ops.toList ops.toList fr H) := by
  refine Option.ext fun r => ?_
  rw [execT_iff]
  constructor
  · rintro ⟨n, h⟩
    cases n with
    | zero => simp [exec] at h
    | succ n =>
      simp only [exec] at h
      split at h
      · rename_i fr' H' hv
        rw [evOps_le (cle_T n) hv]; exact h
      · cases h
  · intro h
    cases hv : evOps E (callT E) ops.toList ops.toList fr H with
    | none => rw [hv] at h; cases h
    | some x =>
      obtain ⟨n, hn⟩ := evOps_lim hv
      refine ⟨n + 1, ?_⟩
      rw [hv] at h
      simp only [exec]
      rw [hn]; exact h
theorem execT_draw (hh : E.hol f id = false) (ops : Array Oper) : execT E B f (.region id ops true) fr H = regTK E f id (evT E (callT E) ops.toList ops.toList fr H) := by
  refine Option.ext fun r => ?_
  rw [execT_iff]
  constructor
  · rintro ⟨n, h⟩
    cases n with
    | zero => simp [exec] at h
    | succ n =>
      simp only [exec, hh] at h
      split at h
      · rename_i fr' H' tr hv
        rw [evT_le (cle_T n) hv]; exact h
      · cases h
  · intro h
    cases hv : evT E (callT E) ops.toList ops.toList fr H with
    | none => rw [hv] at h; cases h
    | some x =>
      obtain ⟨n, hn⟩ := evT_lim hv
      refine ⟨n + 1, ?_⟩
      rw [hv] at h
      simp only [exec, hh]
      rw [hn]; exact h
theorem execT_drawD (hh : E.hol f id = true) (ops : Array Oper) : execT E B f (.region id ops true) fr H = regTK E f id (evD E (callT E) ops.toList H.length ops.toList fr (H ++ List.replicate (nFresh ops.toList) hole)) := by
  refine Option.ext fun r => ?_
  rw [execT_iff]
  constructor
  · rintro ⟨n, h⟩
    cases n with
    | zero => simp [exec] at h
    | succ n =>
      simp only [exec, hh] at h
      split at h
      · rename_i fr' H' tr hv
        rw [evD_le (cle_T n) hv]; exact h
      · cases h
  · intro h
    cases hv : evD E (callT E) ops.toList H.length ops.toList fr (H ++ List.replicate (nFresh ops.toList) hole) with
    | none => rw [hv] at h; cases h
    | some x =>
      obtain ⟨n, hn⟩ := evD_lim hv
      refine ⟨n + 1, ?_⟩
      rw [hv] at h
      simp only [exec, hh]
      rw [hn]; exact h
theorem evT_evOps {cl : CallF} {ops : List Oper} : ∀ (l : List Oper) (fr : Fr) (H : Hp), (evT E cl ops l fr H).map (fun x => (x.1, x.2.1)) = evOps E cl ops l fr H
  | [], fr, H => rfl
  | o :: l, fr, H => by
    simp only [evT, stp, evOps]
    cases guardE ops fr o with
    | none => rfl
    | some b =>
      cases b with
      | false =>
        simp only
        rw [← evT_evOps l]
        cases evT E cl ops l (putD o.dst (.tup []) fr) H <;> rfl
      | true =>
        simp only
        cases evOp E cl o.op fr H with
        | none => rfl
        | some x =>
          simp only
          rw [← evT_evOps l]
          cases evT E cl ops l (putD o.dst x.1 fr) x.2 <;> rfl
/-- where nothing floats, the text's order is enough -/
theorem execT_draw0 (hh : E.hol f id = false) (hfl : E.flo f id = []) (ops : Array Oper) : execT E B f (.region id ops true) fr H = regK E f id (evOps E (callT E) ops.toList ops.toList fr H) := by
  rw [execT_draw hh, ← evT_evOps]
  cases evT E (callT E) ops.toList ops.toList fr H with
  | none => rfl
  | some x =>
    obtain ⟨fr', H', tr⟩ := x
    simp only [regTK, hfl, List.all_nil, if_true, Option.map_some, regK]
/-- what follows the first half -/
def seqK (k : Fr → Hp → Option (Ex × Fr × Hp)) (r : Option (Ex × Fr × Hp)) : Option (Ex × Fr × Hp) := match r with
  | some (.normal, fr', H') => k fr' H'
  | r => r
theorem execT_seq (a b : Code) : execT E B f (.seq a b) fr H = seqK (execT E B f b) (execT E B f a fr H) := by
  refine Option.ext fun r => ?_
  rw [execT_iff]
  constructor
  · rintro ⟨n, h⟩
    cases n with
    | zero => simp [exec] at h
    | succ n =>
      rw [exec] at h
      cases hx : exec E n B f a fr H with
      | none => rw [hx] at h; cases h
      | some x =>
        rw [hx] at h
        rw [execT_iff.2 ⟨n, hx⟩]
        obtain ⟨ex, fr', H'⟩ := x
        cases ex with
        | normal => exact execT_iff.2 ⟨n, h⟩
        | exit id => exact h
        | ret => exact h
  · intro h
    cases hx : execT E B f a fr H with
    | none => rw [hx] at h; cases h
    | some x =>
      rw [hx] at h
      obtain ⟨n, hn⟩ := execT_iff.1 hx
      obtain ⟨ex, fr', H'⟩ := x
      cases ex with
      | normal =>
        obtain ⟨m, hm⟩ := execT_iff.1 h
        refine ⟨max n m + 1, ?_⟩
        rw [exec, exec_mono (Nat.le_max_left n m) _ _ _ _ _ _ hn]
        exact exec_mono (Nat.le_max_right n m) _ _ _ _ _ _ hm
      | exit id => exact ⟨n + 1, by rw [exec, hn]; exact h⟩
      | ret => exact ⟨n + 1, by rw [exec, hn]; exact h⟩
theorem execT_loop (c : Code) : execT E B f (.loop c) fr H = seqK (execT E B f (.loop c)) (execT E B f c (hdE E B f ((firstRegion c).getD 0) fr H).1 (hdE E B f ((firstRegion c).getD 0) fr H).2) := by
  refine Option.ext fun r => ?_
  rw [execT_iff]
  constructor
  · rintro ⟨n, h⟩
    cases n with
    | zero => simp [exec] at h
    | succ n =>
      rw [exec] at h
      cases hx : exec E n B f c (hdE E B f ((firstRegion c).getD 0) fr H).1 (hdE E B f ((firstRegion c).getD 0) fr H).2 with
      | none => rw [hx] at h; cases h
      | some x =>
        rw [hx] at h
        rw [execT_iff.2 ⟨n, hx⟩]
        obtain ⟨ex, fr', H'⟩ := x
        cases ex with
        | normal => exact execT_iff.2 ⟨n, h⟩
        | exit id => exact h
        | ret => exact h
  · intro h
    cases hx : execT E B f c (hdE E B f ((firstRegion c).getD 0) fr H).1 (hdE E B f ((firstRegion c).getD 0) fr H).2 with
    | none => rw [hx] at h; cases h
    | some x =>
      rw [hx] at h
      obtain ⟨n, hn⟩ := execT_iff.1 hx
      obtain ⟨ex, fr', H'⟩ := x
      cases ex with
      | normal =>
        obtain ⟨m, hm⟩ := execT_iff.1 h
        refine ⟨max n m + 1, ?_⟩
        rw [exec, exec_mono (Nat.le_max_left n m) _ _ _ _ _ _ hn]
        exact exec_mono (Nat.le_max_right n m) _ _ _ _ _ _ hm
      | exit id => exact ⟨n + 1, by rw [exec, hn]; exact h⟩
      | ret => exact ⟨n + 1, by rw [exec, hn]; exact h⟩
/-- a test that has been decided -/
def condK (v : AV) (a b : Option (Ex × Fr × Hp)) : Option (Ex × Fr × Hp) := match v with
  | .i (.v (.bool true)) => a
  | .i (.v (.bool false)) => b
  | _ => none
theorem condK_dec (p : Prop) [Decidable p] (a b : Option (Ex × Fr × Hp)) : condK (.i (.v (.bool (decide p)))) a b = if p then a else b := by
  by_cases h : p <;> simp [h, condK]
theorem execT_cond (c : Operand) (a b : Code) : execT E B f (.cond c a b) fr H = condK (opd E fr c) (execT E B f a fr H) (execT E B f b fr H) := by
  refine Option.ext fun r => ?_
  rw [execT_iff]
  constructor
  · rintro ⟨n, h⟩
    cases n with
    | zero => simp [exec] at h
    | succ n =>
      rw [exec] at h
      split at h
      · rename_i hc
        rw [hc]; exact execT_iff.2 ⟨n, h⟩
      · rename_i hc
        rw [hc]; exact execT_iff.2 ⟨n, h⟩
      · cases h
  · intro h
    unfold condK at h
    split at h
    · rename_i hc
      obtain ⟨n, hn⟩ := execT_iff.1 h
      exact ⟨n + 1, by rw [exec, hc]; exact hn⟩
    · rename_i hc
      obtain ⟨n, hn⟩ := execT_iff.1 h
      exact ⟨n + 1, by rw [exec, hc]; exact hn⟩
    · cases h
def blockK (id : Nat) (r : Option (Ex × Fr × Hp)) : Option (Ex × Fr × Hp) := match r with
  | some (.exit j, fr', H') => if j = id then some (.normal, fr', H') else some (.exit j, fr', H')
  | r => r
theorem execT_block (id : Nat) (c : Code) : execT E B f (.block id c) fr H = blockK id (execT E B f c fr H) := by
  refine Option.ext fun r => ?_
  rw [execT_iff]
  constructor
  · rintro ⟨n, h⟩
    cases n with
    | zero => simp [exec] at h
    | succ n =>
      rw [exec] at h
      cases hx : exec E n B f c fr H with
      | none => rw [hx] at h; cases h
      | some x =>
        rw [hx] at h
        rw [execT_iff.2 ⟨n, hx⟩]
        exact h
  · intro h
    cases hx : execT E B f c fr H with
    | none => rw [hx] at h; cases h
    | some x =>
      rw [hx] at h
      obtain ⟨n, hn⟩ := execT_iff.1 hx
      exact ⟨n + 1, by rw [exec, hn]; exact h⟩
theorem execT_scope (c : Code) : execT E B f (.scope c) fr H = execT E B f c fr H := by
  refine Option.ext fun r => ?_
  rw [execT_iff, execT_iff]
  constructor
  · rintro ⟨n, h⟩
    cases n with
    | zero => simp [exec] at h
    | succ n => exact ⟨n, by simpa only [exec] using h⟩
  · rintro ⟨n, h⟩
    exact ⟨n + 1, by simpa only [exec] using h⟩

/-- how a call ends -/
def endK (E : Env) (f : FuncId) (B : Nat) (rs : List ResultVar) (r : Option (Ex × Fr × Hp)) : Option (AV × Hp) := match r with
  | some (.exit _, _, _) => none
  | some (_, fr, H') => match resE E fr H' rs with
    | some r => retE E f B H' r
    | none => none
  | none => none
theorem callT_eq {fn : Func} {c : Code} {args : List AV} (hf : E.P.funcs[f]? = some fn) (hc : fn.body = some c) (hok : fnOk E f = true) (hl : args.length ≤ fn.ntmps) :
    callT E f args H = endK E f H.length fn.results.toList (execT E H.length f c (frameOf 0 args) H) := by
  unfold callT callLoc endK
  rw [hf]
  simp only [hc]
  rw [if_pos ⟨hok, hl⟩]
  cases execT E H.length f c (frameOf 0 args) H with
  | none => rfl
  | some x =>
    obtain ⟨ex, fr, H'⟩ := x
    cases ex <;> rfl
theorem callT_ok (hext : ExtOK E) : CallOK E (callT E) := by
  intro f args H r H' h
  obtain ⟨n, hn⟩ := callT_lim h
  exact call_ok hext n f args H r H' hn
theorem callT_of {n : Nat} {args : List AV} {r : AV × Hp} (h : call E n f args H = some r) : callT E f args H = some r := cle_T n _ _ _ _ h
end
end Go.VI
