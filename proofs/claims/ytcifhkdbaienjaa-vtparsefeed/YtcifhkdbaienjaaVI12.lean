/- VI, part 12: operations in a row. -/
import Derived.Test.YtcifhkdbaienjaaVI11
import Derived.Tactics
set_option linter.unusedSimpArgs false
set_option linter.unusedVariables false
namespace Go.VI
section
variable {E : Env} {I : Imm} {η : Eta} {H : Hp} {w : World}

theorem args_append {l m : List AV} {xs ys : Array Value} (h : ArgsOK I η H l xs) (k : ArgsOK I η H m ys) : ArgsOK I η H (l ++ m) (xs ++ ys) := by
  refine ⟨by simp [h.1, k.1], fun j a ha => ?_⟩
  rw [List.getElem?_append] at ha
  rw [Array.getD_eq_getD_getElem?]
  split at ha
  · rename_i hj
    have := h.2 _ _ ha
    rw [Array.getElem?_append_left (by rw [h.1]; exact hj), ← Array.getD_eq_getD_getElem?]; exact this
  · rename_i hj
    have := k.2 _ _ ha
    rw [Array.getElem?_append_right (by rw [h.1]; omega), h.1, ← Array.getD_eq_getD_getElem?]; exact this
theorem args_map {fr : Fr} {a : Act} (hC : Conc E I η H w) (hf : FrOK I η H fr a.tmps) (l : Array Operand) : ArgsOK I η H (l.toList.map (opd E fr)) (l.map a.eval) := by
  refine ⟨by simp, fun k b hb => ?_⟩
  simp only [List.getElem?_map, Option.map_eq_some_iff, Array.getElem?_toList] at hb
  obtain ⟨x, hx, rfl⟩ := hb
  have hlt := (Array.getElem?_eq_some_iff.1 hx).1
  rw [getD_map _ _ _ hlt, (Array.getElem?_eq_some_iff.1 hx).2]
  exact opd_ok hC hf x

theorem evOp_ok {cl : CallF} (hcl : CallOK E (callIso E cl)) {fr : Fr} {a : Act} {o : Oper} {v : AV} {H' : Hp} (h : evOp E cl o.op fr H = some (v, H')) (hC : Conc E I η H w) (hf : FrOK I η H fr a.tmps)
    {K : Act → World → Prop} {Q : Exit → Act → World → Prop} (hK : ∀ x w', After E I η H w H' w' (fun I' η' => RelA I' η' H' v x) → K (a.put o.dst x) w') : o.wp E.P a w K Q := by
  have other : (∀ f args tys, o.op ≠ .call ⟨.value f, args, tys⟩) → (if heavy E o.op then evH E fr H o.op else (evL E fr H o.op).map fun v => (v, H)) = some (v, H') → o.wp E.P a w K Q := by
    intro _ h
    split at h
    · obtain ⟨nx, x, w', h1, h2, h3⟩ := evH_ok h hC hf
      unfold Oper.wp
      rw [h1]
      cases nx <;> simp only [nv] at h2 <;> first | (cases h2; done) | skip
      · cases h2; exact hK _ _ h3
      · cases h2; exact hK _ _ h3
    · simp only [Option.map_eq_some_iff, Prod.mk.injEq] at h
      obtain ⟨v', h1, rfl, rfl⟩ := h
      obtain ⟨x, h2, h3⟩ := evL_ok h1 hC hf
      unfold Oper.wp
      rw [h2]
      exact hK _ _ (After.refl hC h3)
  by_cases hcall : ∃ f args tys, o.op = .call ⟨.value f, args, tys⟩
  · obtain ⟨f, args, tys, ho⟩ := hcall
    rw [ho] at h
    simp only [evOp] at h
    split at h
    · rename_i g as hg
      split at h
      · rename_i hen
        unfold calleeE at hg
        split at hg
        · rename_i g' first caps hf0
          simp only [Option.some.injEq, Prod.mk.injEq] at hg
          obtain ⟨rfl, rfl⟩ := hg
          have rf := opd_ok hC hf f
          rw [hf0] at rf
          generalize hy : a.eval f = y at rf
          cases rf with
          | clo fn fs cs xs ys hl hm h1 h2 =>
            have hA : ArgsOK I η H (first ++ args.toList.map (opd E fr) ++ caps) (xs ++ args.map a.eval ++ ys) := args_append (args_append ⟨hl, h1⟩ (args_map hC hf args)) ⟨hm, h2⟩
            have hen' : ∃ fn, E.P.funcs[g']? = some fn ∧ fn.body.isSome = true ∧ (fn.name == "runtime.NumGoroutine") = false := by
              unfold enterOk at hen
              split at hen
              · rename_i fn hfn
                simp only [Bool.and_eq_true, Bool.not_eq_true'] at hen
                exact ⟨fn, hfn, hen.1, hen.2⟩
              · cases hen
            obtain ⟨fn, hfn, hb, hn⟩ := hen'
            have hrun : (execOp a.eval o).run E.P w = .ok (.enter g' (xs ++ args.map a.eval ++ ys)) w := by
              have hb' : ¬ fn.body = none := by cases hbb : fn.body <;> simp_all
              have hn' : ¬ fn.name = "runtime.NumGoroutine" := by simpa using hn
              simp [execOp, ho, resolve, hy, Deferred.ofValue, invoke, callFunc, hfn, hn', hb']
            unfold Oper.wp
            rw [hrun, Oper.upon_enter]
            refine (hcl _ _ _ _ _ h I η w _ hC hA).mono fun e w' he => ?_
            obtain ⟨x, rfl, hx⟩ := he
            exact hK _ _ hx
        · cases hg
      · cases h
    · cases h
  · have hne : ∀ f args tys, o.op ≠ .call ⟨.value f, args, tys⟩ := fun f args tys e => hcall ⟨f, args, tys, e⟩
    refine other hne ?_
    unfold evOp at h
    split at h
    · rename_i f args tys he
      exact absurd he (hne _ _ _)
    · exact h

theorem guard_ok {fr : Fr} {tmps : Array Value} (hf : FrOK I η H fr tmps) {ops : Array Oper} {o : Oper} {b : Bool} (h : guardE ops.toList fr o = some b) : Region.wanted o (yielded ops tmps) = b := by
  unfold guardE at h
  unfold Region.wanted
  split at h
  · rename_i hg
    cases h; rw [hg]
  · rename_i j want hg
    rw [hg]
    simp only [Array.getElem?_toList] at h
    split at h
    · rename_i d hd
      have r := hf d
      split at h
      · rename_i c hc
        cases h
        rw [hc] at r
        have hv := relA_v r
        have : tmps[d]? = some (.bool c) := by
          rw [Array.getD_eq_getD_getElem?] at hv
          cases h : tmps[d]? with
          | none => rw [h] at hv; simp [undef] at hv
          | some x => rw [h] at hv; simp at hv; rw [hv]
        simp [yielded, hd, this]
      · rename_i hc
        cases h
        rw [hc] at r
        obtain ⟨cs, hcs, hz, _⟩ := relA_tup r
        have : ∀ c, tmps[d]? ≠ some (.bool c) := by
          intro c hcc
          simp [Array.getD_eq_getD_getElem?, hcc] at hcs
        have hy : yielded ops tmps j = none := by
          unfold yielded
          rw [hd]
          show (match tmps[d]? with | some (.bool b) => some b | _ => none) = none
          split
          · rename_i c hcc; exact absurd hcc (this c)
          · rfl
        show (yielded ops tmps j == some want) = false
        rw [hy]; rfl
      · cases h
    · cases h

/-- the slots that are written lie in the frame -/
def DstOK (n : Nat) (l : List Oper) : Prop := ∀ o ∈ l, ∀ d, o.dst = some d → d < n
theorem put_size (a : Act) (d : Option Nat) (x : Value) : (a.put d x).tmps.size = a.tmps.size := by cases d <;> simp [Act.put]
theorem put_defers (a : Act) (d : Option Nat) (x : Value) : (a.put d x).defers = a.defers := by cases d <;> simp [Act.put]

theorem evOps_ok {cl : CallF} (hcl : CallOK E (callIso E cl)) {ops : Array Oper} {Q : Exit → Act → World → Prop} : ∀ (l : List Oper) {fr fr' : Fr} {H H' : Hp} {I : Imm} {η : Eta} {a : Act} {w : World}, evOps E cl ops.toList l fr H = some (fr', H') →
    Conc E I η H w → FrOK I η H fr a.tmps → DstOK a.tmps.size l →
    (∀ a' w', a'.defers = a.defers → a'.tmps.size = a.tmps.size → After E I η H w H' w' (fun I' η' => FrOK I' η' H' fr' a'.tmps) → Q .normal a' w') → wpList E.P ops Q l a w
  | [], fr, fr', H, H', I, η, a, w, h, hC, hf, _, hQ => by
    simp only [evOps, Option.some.injEq, Prod.mk.injEq] at h
    obtain ⟨rfl, rfl⟩ := h
    exact hQ a w rfl rfl (After.refl hC hf)
  | o :: l, fr, fr', H, H', I, η, a, w, h, hC, hf, hd, hQ => by
    simp only [evOps] at h
    unfold wpList
    split at h
    · rename_i hg
      rw [guard_ok hf hg]
      simp only [if_true]
      split at h
      · rename_i v H1 hv
        refine .inl (evOp_ok hcl hv hC hf fun x w1 hx => ?_)
        obtain ⟨I1, η1, hC1, hT1, hm1, hr1⟩ := hx
        refine evOps_ok hcl l h hC1 ((hf.mono hm1).put hr1 o.dst fun k hk => hd o (by simp) k hk) (by rw [put_size]; exact fun o ho d hdd => hd o (by simp [ho]) d hdd) fun a' w' hdef hsz hA => ?_
        rw [put_defers] at hdef
        rw [put_size] at hsz
        obtain ⟨I2, η2, k1, k2, k3, k4⟩ := hA
        exact hQ a' w' hdef hsz ⟨I2, η2, k1, hT1.trans k2, hm1.trans k3, k4⟩
      · cases h
    · rename_i hg
      rw [guard_ok hf hg]
      simp only [Bool.false_eq_true, if_false]
      refine evOps_ok hcl l h hC (hf.put (relA_undef _ _ _) o.dst fun k hk => hd o (by simp) k hk) (by rw [put_size]; exact fun o ho d hdd => hd o (by simp [ho]) d hdd) fun a' w' hdef hsz hA => ?_
      rw [put_defers] at hdef
      rw [put_size] at hsz
      exact hQ a' w' hdef hsz hA
    · cases h
end
end Go.VI
