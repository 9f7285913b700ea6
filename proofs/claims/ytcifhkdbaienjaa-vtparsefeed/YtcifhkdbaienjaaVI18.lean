/- VI, part 18: from the interpreter's answer to a call at any world. -/
import Derived.Test.YtcifhkdbaienjaaVI17
import Derived.ChangeSame
set_option linter.unusedSimpArgs false
set_option linter.unusedVariables false
namespace Go.VI
open Go.WideShapes Go.ChangeShapes
section
variable {E : Env}

/-- the world as it lies: all of it immutable, nothing owned -/
def imm0 (w : World) : Imm := fun b => w.heap[b]?
def eta0 : Eta := fun _ => none
theorem conc_start (w : World) (hg : ∀ g cells, E.glob g = some cells → RelI (imm0 w) (.pt cells 0) (.pointer (some ⟨g, 0, none⟩))) : Conc E (imm0 w) eta0 [] w :=
  ⟨fun b o h => h, fun c x h => by simp at h, fun c c' b n n' h => by simp [eta0] at h, fun c b n h => by simp [eta0] at h, hg⟩

/-- what was there lies as it lay -/
structure Old (w w' : World) : Prop where
  os : w'.os = w.os
  output : w'.output = w.output
  heap : ∀ b, b < w.heap.size → w'.heap[b]? = w.heap[b]?
theorem Old.kept {w w' : World} (h : Old w w') (may : MemPlace → Prop) : w.keptBut w' may := by
  refine ⟨h.os, h.output, fun i hi => ?_⟩
  rw [h.heap i hi]
  cases hh : w.heap[i]? with
  | none => rfl
  | some o => cases o <;> simp
theorem old_of {w w' : World} {I' : Imm} {η' : Eta} (hT : Trans (imm0 w) eta0 w I' η' w') : Old w w' :=
  ⟨hT.os, hT.output, fun b hb => hT.frame b hb fun c n h => by simp [eta0] at h⟩

/-- the law's call: from its arguments' readings to the answer -/
theorem law_calls {f : FuncId} {args : List AV} {vs : Array Value} {w : World} {H' : Hp} (h : callT E f args [] = some (.i (.v (.bool true)), H')) (hext : ExtOK E) (hg : ∀ g cells, E.glob g = some cells → RelI (imm0 w) (.pt cells 0) (.pointer (some ⟨g, 0, none⟩)))
    (hA : ArgsOK (imm0 w) eta0 [] args vs) : Calls E.P f vs w fun e w' => e = .returned (.bool true) ∧ Old w w' :=
  (callT_ok hext f args [] _ H' h _ _ w vs (conc_start w hg) hA).mono fun e w' he => by
    obtain ⟨x, rfl, I2, η2, _, k2, _, k4⟩ := he
    exact ⟨congrArg _ (relA_v k4), old_of k2⟩

theorem args_nil {I η H} : ArgsOK I η H [] #[] := ⟨rfl, fun k a h => by simp at h⟩
def RelAs (I : Imm) (η : Eta) (H : Hp) : List AV → List Value → Prop
  | [], [] => True
  | a :: as, v :: vs => RelA I η H a v ∧ RelAs I η H as vs
  | _, _ => False
theorem args_of {I η H} : ∀ {as : List AV} {vs : List Value}, RelAs I η H as vs → ArgsOK I η H as vs.toArray
  | [], [], _ => args_nil
  | a :: as, v :: vs, h => by
    have ih := args_of h.2
    refine ⟨by simpa using ih.1, fun k b hk => ?_⟩
    cases k with
    | zero => simp at hk; subst hk; simpa using h.1
    | succ k => simpa using ih.2 k b (by simpa using hk)
  | [], _ :: _, h => h.elim
  | _ :: _, [], h => h.elim
theorem noExt (h : ∀ f, E.ext f = none) : ExtOK E := fun f g hg => by rw [h] at hg; cases hg
theorem noGlob (h : ∀ g, E.glob g = none) {w : World} : ∀ g cells, E.glob g = some cells → RelI (imm0 w) (.pt cells 0) (.pointer (some ⟨g, 0, none⟩)) := fun g cells hg => by rw [h] at hg; cases hg

theorem post_of_old {H : Type} {enc : TypeId × Value → H} {P : Program} {f : Func} {s : ChangeSpec} {apart fresh handsOn : Bool} {W W' : World} {args : Array Value} {v : Value} {ds gs : List (DataW H)} {before pa pv : List MemPlace}
    (hW : DataW.Whole enc P f.params.toList s.vars apart W args.toList ds gs before)
    (hres : ∀ (b : Nat) (sp : Nat → Bool) (hd : Bool), DataW.TrodAll enc P W' b sp hd f.resultTypes.toList (v.resultList f.resultTypes.size) (s.fn H (ds ++ gs)).results [])
    (hargs : ∀ sp : Nat → Bool, (∀ p ∈ before, sp p.block = true) → DataW.TrodAll enc P W' 0 sp true f.params.toList args.toList (s.fn H (ds ++ gs)).args pa)
    (hvars : ∀ sp : Nat → Bool, (∀ p ∈ before, sp p.block = true) → DataW.TrodVars enc P W' sp s.vars (s.fn H (ds ++ gs)).vars pv)
    (hold : Old W W') (hps : before = pa ++ pv) : s.post enc P f apart fresh handsOn false W args v W' := by
  have hlt : ∀ p ∈ before, (fun b => decide (b < W.heap.size)) p.block = true := fun p hp => by simpa using hW.lt p hp
  exact ⟨ds, gs, before, [], pa, pv, hW, hres _ _ _, hargs _ hlt, hvars _ hlt, hold.kept _, fun h => by cases h⟩
end
end Go.VI
