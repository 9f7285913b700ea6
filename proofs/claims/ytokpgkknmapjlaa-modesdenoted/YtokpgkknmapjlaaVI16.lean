/- VI, part 16: code, and calls. -/
import Derived.Test.YtokpgkknmapjlaaVI26
import Derived.LoopN
import Derived.Scope
set_option linter.unusedSimpArgs false
set_option linter.unusedVariables false
namespace Go.VI
section
variable {E : Env} {I : Imm} {η : Eta} {H : Hp} {w : World}

theorem conc_drawn (hC : Conc E I η H w) (n : Nat) : Conc E I η H { w with drawn := n } :=
  ⟨hC.imm, fun c x h => by have := hC.ch c x h; cases x <;> exact this, hC.inj, hC.sep, hC.glob⟩
theorem trans_drawn {I' : Imm} {η' : Eta} {w' : World} {n : Nat} (h : Trans I η { w with drawn := n } I' η' w') : Trans I η w I' η' w' :=
  ⟨h.os, h.tape, h.output, h.size, h.frame, h.imm, h.immNew, h.own⟩

theorem apartT_symm {a b : List Nat} (h : apartT a b = true) : apartT b a = true := by
  simp only [apartT, List.all_eq_true]
  intro c hc
  have : c ∉ a := fun ha => apartT_spec h ha hc
  simpa using this

theorem draw_compat {ops : Array Oper} {ts : List (List Nat)} {pairs : List (Nat × Nat)} (hd : drawOk E ops = true) (hfl : (floats E ops).all (fun p => pairs.contains p) = true) (hk : pairs.all (floatOk ts) = true) :
    ∀ j i, j < i → i < ops.size → bound (Region.before ops) j i = false → CompatI E ops (fun k => ts.getD k []) j i := by
  intro j i hji hi hb x y hx hy
  unfold drawOk at hd
  simp only [Bool.and_eq_true, List.all_eq_true, List.mem_range] at hd
  have h1 := hd.2 i hi j hji
  rw [hx, hy] at h1
  simp only [hb, Bool.false_or, Bool.and_eq_true, Bool.not_eq_true', Bool.and_eq_false_iff] at h1
  refine ⟨h1.1, fun ⟨ha, hb'⟩ => ?_, fun hf => ?_⟩
  · rcases h1.2 with h | h
    · rw [ha] at h; cases h
    · rw [hb'] at h; cases h
  · have hm : (j, i) ∈ floats E ops := by
      unfold floats
      simp only [List.mem_flatMap, List.mem_range, List.mem_filterMap]
      refine ⟨i, hi, j, hji, ?_⟩
      rw [hx, hy]
      have : ((heavy E x.op && readsH y.op) || (heavy E y.op && readsH x.op)) = true := by
        rcases hf with ⟨a, b⟩ | ⟨a, b⟩ <;> simp [a, b]
      simp [hb, this]
    have hc := (List.all_eq_true.1 hfl) _ hm
    have hc' : (j, i) ∈ pairs := by simpa using hc
    have := (List.all_eq_true.1 hk) _ hc'
    unfold floatOk at this
    exact ⟨this, apartT_symm this⟩

theorem draw_back {ops : Array Oper} (hd : drawOk E ops = true) : ∀ (i : Nat) (o : Oper), ops[i]? = some o → ∀ e ∈ o.after, Region.binds .any e = true → e.on < i := by
  intro i o ho e he hb
  unfold drawOk at hd
  simp only [Bool.and_eq_true, List.all_eq_true, List.mem_range] at hd
  have h1 := hd.1.2 i (Array.getElem?_eq_some_iff.1 ho).1
  rw [ho] at h1
  simp only [Array.all_eq_true] at h1
  obtain ⟨k, hk, rfl⟩ := Array.mem_iff_getElem.1 he
  have := h1 k hk
  simpa [hb] using this

theorem draw_ok {cl : CallF} (hcl : CallOK E (callIso E cl)) {id : Nat} {ops : Array Oper} {fr fr' : Fr} {H' : Hp} {ts : List (List Nat)} {a : Act} {Q : Exit → Act → World → Prop}
    (h : evT E cl ops.toList ops.toList fr H = some (fr', H', ts)) {pairs : List (Nat × Nat)} (hk : pairs.all (floatOk ts) = true) (hd : drawOk E ops = true) (hfl : (floats E ops).all (fun p => pairs.contains p) = true)
    (hm : E.P.follows .mixedOrders = true) (hC : Conc E I η H w) (hf : FrOK I η H fr a.tmps) (hdst : DstOK a.tmps.size ops.toList)
    (hQ : ∀ a' w' fr3, FrEq fr' fr3 → a'.defers = a.defers → a'.tmps.size = a.tmps.size → After E I η H w H' w' (fun I' η' => FrOK I' η' H' fr3 a'.tmps) → Q .normal a' w') : (Code.region id ops true).wp E.P Q a w := by
  refine wp_region_any hm ?_
  have hrun : Run E cl ops (fun k => ts.getD k []) (List.range' 0 ops.toList.length) fr H fr' H' :=
    run_of_evT ops.toList 0 fr H fr' H' ts h (fun j => by simp) (fun j _ => by simp)
  have := any_ok hcl (ops := ops) (Q := Q) (fr2 := fr') (n0 := a.tmps.size) (d0 := a.defers) (draw_compat hd hfl hk) (draw_back hd) hdst (List.range' 0 ops.toList.length) (Array.replicate ops.size false) I η fr H a { w with drawn := w.drawn + 1 } fr'
    (List.pairwise_lt_range' ..) (fun i => by
      simp only [List.mem_range', Array.length_toList]
      constructor
      · rintro ⟨k, hk, rfl⟩
        refine ⟨by omega, ?_⟩
        rw [Array.getD_eq_getD_getElem?, Array.getElem?_replicate]; split <;> rfl
      · rintro ⟨h1, _⟩; exact ⟨i, h1, by omega⟩) (by simp) (fun i o ho hl => by
      rw [Array.getD_eq_getD_getElem?, Array.getElem?_replicate] at hl; split at hl <;> simp at hl) hrun (conc_drawn hC _) hf rfl rfl
      (fun a' w' fr3 he hdef hs hA => by
        obtain ⟨I2, η2, k1, k2, k3, k4⟩ := hA
        exact hQ a' w' fr3 he hdef hs ⟨I2, η2, k1, trans_drawn k2, k3, k4⟩)
  simpa using this

theorem draw_compatD {ops : Array Oper} {ts : List (List Nat)} {pairs : List (Nat × Nat)} (hd : drawOkD E ops = true) (hfl : (floatsD E ops).all (fun p => pairs.contains p) = true) (hk : pairs.all (floatOk ts) = true) :
    ∀ j i, j < i → i < ops.size → bound (Region.before ops) j i = false → CompatJ E ops (fun k => ts.getD k []) j i := by
  intro j i hji hi hb x y hx hy
  unfold drawOkD at hd
  simp only [Bool.and_eq_true, List.all_eq_true, List.mem_range] at hd
  have h1 := hd.2 i hi j hji
  rw [hx, hy] at h1
  simp only [hb, Bool.false_or, Bool.and_eq_true, Bool.or_eq_true, Bool.not_eq_true', Bool.and_eq_false_iff] at h1
  refine ⟨h1.1, fun ha hb' => ?_, fun hf => ?_⟩
  · rcases h1.2 with (h | h) | h
    · rcases h with h | h
      · rw [ha] at h; cases h
      · rw [hb'] at h; cases h
    · exact .inl h
    · exact .inr h
  · have hm : (j, i) ∈ floatsD E ops := by
      unfold floatsD
      simp only [List.mem_flatMap, List.mem_range, List.mem_filterMap]
      refine ⟨i, hi, j, hji, ?_⟩
      rw [hx, hy]
      have : ((heavy E x.op && (readsH y.op || heavy E y.op)) || (heavy E y.op && (readsH x.op || heavy E x.op))) = true := by
        rcases hf with ⟨a, b | b⟩ | ⟨a, b | b⟩ <;> simp [a, b]
      simp [hb, this]
    have hc := (List.all_eq_true.1 hfl) _ hm
    have hc' : (j, i) ∈ pairs := by simpa using hc
    have := (List.all_eq_true.1 hk) _ hc'
    unfold floatOk at this
    exact ⟨this, apartT_symm this⟩

theorem draw_backD {ops : Array Oper} (hd : drawOkD E ops = true) : ∀ (i : Nat) (o : Oper), ops[i]? = some o → ∀ e ∈ o.after, Region.binds .any e = true → e.on < i := by
  intro i o ho e he hb
  unfold drawOkD at hd
  simp only [Bool.and_eq_true, List.all_eq_true, List.mem_range] at hd
  have h1 := hd.1.2 i (Array.getElem?_eq_some_iff.1 ho).1
  rw [ho] at h1
  simp only [Array.all_eq_true] at h1
  obtain ⟨k, hk, rfl⟩ := Array.mem_iff_getElem.1 he
  have := h1 k hk
  simpa [hb] using this

theorem draw_okD {cl : CallF} (hcl : CallOK E (callIso E cl)) {id : Nat} {ops : Array Oper} {fr fr' : Fr} {H' : Hp} {ts : List (List Nat)} {a : Act} {Q : Exit → Act → World → Prop}
    (h : evD E cl ops.toList H.length ops.toList fr (H ++ List.replicate (nFresh ops.toList) hole) = some (fr', H', ts)) {pairs : List (Nat × Nat)} (hk : pairs.all (floatOk ts) = true) (hd : drawOkD E ops = true) (hfl : (floatsD E ops).all (fun p => pairs.contains p) = true)
    (hm : E.P.follows .mixedOrders = true) (hC : Conc E I η H w) (hf : FrOK I η H fr a.tmps) (hdst : DstOK a.tmps.size ops.toList)
    (hQ : ∀ a' w' fr3, FrEq fr' fr3 → a'.defers = a.defers → a'.tmps.size = a.tmps.size → After E I η H w H' w' (fun I' η' => FrOK I' η' H' fr3 a'.tmps) → Q .normal a' w') : (Code.region id ops true).wp E.P Q a w := by
  refine wp_region_any hm ?_
  obtain ⟨hC0, hm0⟩ := conc_holes hC (nFresh ops.toList)
  have hrun : RunD E cl ops (fun k => ts.getD k []) (fun i => H.length + nFresh (ops.toList.take i)) (List.range' 0 ops.toList.length) fr (H ++ List.replicate (nFresh ops.toList) hole) fr' H' :=
    run_of_evD ops.toList 0 _ fr _ fr' H' ts h (fun j => by simp) (fun j _ => by simp) (fun j _ => by simp)
  have := any_okD hcl (ops := ops) (Q := Q) (fr2 := fr') (n0 := a.tmps.size) (d0 := a.defers) (draw_compatD hd hfl hk) (draw_backD hd) hdst (List.range' 0 ops.toList.length) (Array.replicate ops.size false) I η fr _ a { w with drawn := w.drawn + 1 } fr'
    (List.pairwise_lt_range' ..) (fun i => by
      simp only [List.mem_range', Array.length_toList]
      constructor
      · rintro ⟨k, hk, rfl⟩
        refine ⟨by omega, ?_⟩
        rw [Array.getD_eq_getD_getElem?, Array.getElem?_replicate]; split <;> rfl
      · rintro ⟨h1, _⟩; exact ⟨i, h1, by omega⟩) (by simp) (fun i o ho hl => by
      rw [Array.getD_eq_getD_getElem?, Array.getElem?_replicate] at hl; split at hl <;> simp at hl) hrun (conc_drawn hC0 _) (hf.mono hm0) rfl rfl
      (fun a' w' fr3 he hdef hs hA => by
        obtain ⟨I2, η2, k1, k2, k3, k4⟩ := hA
        exact hQ a' w' fr3 he hdef hs ⟨I2, η2, k1, trans_drawn k2, hm0.trans k3, k4⟩)
  simpa using this

/-! code -/
def exOf : Ex → Exit
  | .normal => .normal
  | .exit id => .exit id
  | .ret => .ret

theorem frOK_eq {fr fr' : Fr} {tmps : Array Value} (he : FrEq fr fr') (h : FrOK I η H fr' tmps) : FrOK I η H fr tmps := fun k => by rw [he k]; exact h k

theorem opd_bool {fr : Fr} {a : Act} (hC : Conc E I η H w) (hf : FrOK I η H fr a.tmps) {c : Operand} {b : Bool} (h : opd E fr c = .i (.v (.bool b))) : a.eval c = .bool b := by
  have := opd_ok hC hf c
  rw [h] at this
  exact relA_v this

def ExecOK (E : Env) (n : Nat) : Prop := ∀ f c fr H ex fr' H', exec E n f c fr H = some (ex, fr', H') → ∀ I η w a Q, codeOk E f a.tmps.size c = true → E.P.follows .mixedOrders = true → Conc E I η H w → FrOK I η H fr a.tmps →
  (∀ a' w', a'.defers = a.defers → a'.tmps.size = a.tmps.size → After E I η H w H' w' (fun I' η' => FrOK I' η' H' fr' a'.tmps) → Q (exOf ex) a' w') → c.wp E.P Q a w
def LoopOK (E : Env) (n : Nat) : Prop := ∀ f c fr H ex fr' H', exec E n f (.loop c) fr H = some (ex, fr', H') → ∀ I η w a Q, codeOk E f a.tmps.size c = true → E.P.follows .mixedOrders = true → Conc E I η H w → FrOK I η H fr a.tmps →
  (∀ a' w', a'.defers = a.defers → a'.tmps.size = a.tmps.size → After E I η H w H' w' (fun I' η' => FrOK I' η' H' fr' a'.tmps) → Q (exOf ex) a' w') → Code.rounds E.P c Q n a w

theorem loadVar_ok (hC : Conc E I η H w) {p : AV} {y : Value} (h : RelA I η H p y) {t : TypeId} {v : AV} (hl : loadE E H t p = some v) :
    ∃ b x, y = .pointer (some b) ∧ (loadVar t b).run E.P w = .ok x w ∧ RelA I η H v x := by
  obtain ⟨x, h1, h2⟩ := load_ok hC h hl
  have hp : ∃ b, y = .pointer (some b) := by
    unfold loadE at hl
    split at hl
    · rename_i cells k n hb _ _
      obtain ⟨b, base, rfl, _⟩ := behind_ok hC h hb; exact ⟨_, rfl⟩
    · rename_i cells k n hb _ _
      obtain ⟨b, base, rfl, _⟩ := behind_ok hC h hb; exact ⟨_, rfl⟩
    · cases hl
  obtain ⟨b, rfl⟩ := hp
  exact ⟨b, x, rfl, by simpa [Instr.loadAt, Instr.sureAddr] using h1, h2⟩

def resS (tmps : Array Value) : ResultVar → Sem Value
  | .tmp t => pure (tmps.getD t undef)
  | .cell a t => do loadVar t (← asAddr (tmps.getD a undef))
theorem res_ok (hC : Conc E I η H w) {fr : Fr} {tmps : Array Value} (hf : FrOK I η H fr tmps) : ∀ (l : List ResultVar) (as : List AV), resEs E fr H l = some as →
    ∃ xs : List Value, (l.mapM (resS tmps)).run E.P w = .ok xs w ∧ xs.length = as.length ∧ ∀ (k : Nat) (a : AV), as[k]? = some a → RelA I η H a (xs.toArray.getD k undef)
  | [], as, h => by
    simp only [resEs, Option.some.injEq] at h; subst h
    exact ⟨[], by simp, rfl, fun k a h => by simp at h⟩
  | r :: l, as, h => by
    simp only [resEs] at h
    split at h
    · rename_i a0 as0 h1 h2
      simp only [Option.some.injEq] at h; subst h
      obtain ⟨xs, e1, e2, e3⟩ := res_ok hC hf l as0 h2
      have h0 : ∃ x, (resS tmps r).run E.P w = .ok x w ∧ RelA I η H a0 x := by
        cases r with
        | tmp t =>
          simp only [resE1, Option.some.injEq] at h1; subst h1
          exact ⟨_, rfl, hf t⟩
        | cell a t =>
          simp only [resE1] at h1
          obtain ⟨b, x, k1, k2, k3⟩ := loadVar_ok hC (hf a) h1
          refine ⟨x, ?_, k3⟩
          simp only [resS, k1, asAddr, Sem.run_bind, Sem.run_pure, Result.andThen_ok, k2]
      obtain ⟨x, hx, rx⟩ := h0
      refine ⟨x :: xs, ?_, by simp [e2], fun k a h => ?_⟩
      · rw [List.mapM_cons, Sem.run_bind, hx]
        simp only [Result.andThen_ok, Sem.run_bind, e1, Sem.run_pure]
      · cases k with
        | zero => simp at h; subst h; simpa using rx
        | succ k => simpa using e3 k a (by simpa using h)
    · cases h

theorem results_ok (hC : Conc E I η H w) {fr : Fr} {tmps : Array Value} (hf : FrOK I η H fr tmps) {fn : Func} {r : AV} (h : resE E fr H fn.results.toList = some r) :
    ∃ v, (results fn tmps).run E.P w = .ok v w ∧ RelA I η H r v := by
  unfold resE at h
  have key : ∀ as, resEs E fr H fn.results.toList = some as → ∃ xs : List Value, (results fn tmps).run E.P w = .ok (if h : xs.toArray.size = 1 then xs.toArray[0] else .tuple xs.toArray) w ∧ xs.length = as.length ∧ ∀ (k : Nat) (a : AV), as[k]? = some a → RelA I η H a (xs.toArray.getD k undef) := by
    intro as has
    obtain ⟨xs, e1, e2, e3⟩ := res_ok hC hf _ as has
    refine ⟨xs, ?_, e2, e3⟩
    unfold results
    rw [Sem.run_bind, Array.mapM_eq_mapM_toList, map_eq_pure_bind, Sem.run_bind]
    change ((Sem.run E.P (List.mapM (resS tmps) fn.results.toList) w).andThen _).andThen _ = _
    rw [e1]
    rfl
  split at h
  · rename_i a has
    obtain rfl := Option.some.inj h
    obtain ⟨xs, e1, e2, e3⟩ := key _ has
    refine ⟨_, e1, ?_⟩
    have hx : xs.toArray.size = 1 := by simpa using e2
    rw [dif_pos hx]
    have := e3 0 _ rfl
    simpa [Array.getD_eq_getD_getElem?, hx] using this
  · rename_i as hne has
    cases h
    obtain ⟨xs, e1, e2, e3⟩ := key _ has
    refine ⟨_, e1, ?_⟩
    have hx : ¬ xs.toArray.size = 1 := fun h1 => by
      simp only [List.size_toArray] at h1
      rw [e2] at h1
      obtain ⟨a, rfl⟩ := List.length_eq_one_iff.1 h1
      exact hne a rfl
    rw [dif_neg hx]
    exact .tup _ _ (by simpa using e2) e3
  · cases h

theorem frameOf_get : ∀ (l : List AV) (j k : Nat), get (j + k) (frameOf j l) = (l[k]?).getD .dead
  | [], j, k => by simp [frameOf, get]
  | a :: l, j, 0 => by simp [frameOf, get]
  | a :: l, j, k + 1 => by
    have := frameOf_get l (j + 1) k
    rw [show j + (k + 1) = j + 1 + k by omega]
    simp only [frameOf, get, show ¬ j + 1 + k = j by omega, if_false]
    rw [this]; simp

theorem callLoc_ok {n : Nat} (hex : ExecOK E n) : CallOK E (callLoc E (exec E n)) := by
  intro f args H r H' h I η w vs hC hA
  unfold callLoc at h
  split at h
  · rename_i fn hfn
    split at h
    · rename_i c hc
      split at h
      · rename_i hok
        obtain ⟨hfo, hlen⟩ := hok
        unfold fnOk at hfo
        rw [hfn] at hfo
        simp only [hc, Bool.and_eq_true] at hfo
        split at h
        · cases h
        · rename_i ex fr H1 hne hx
          split at h
          · rename_i r' hr
            simp only [Option.some.injEq, Prod.mk.injEq] at h
            obtain ⟨rfl, rfl⟩ := h
            refine calls_of_wp hfn hc ?_
            have hsz : (vs ++ Array.replicate (fn.ntmps - vs.size) undef).size = fn.ntmps := by
              have := hA.1; simp; omega
            refine hex f c _ H ex fr H1 hx I η w _ _ (by rw [hsz]; exact hfo.1) hfo.2 hC (fun k => ?_) fun a' w' hdef hs hAf => ?_
            · have := frameOf_get args 0 k
              simp only [Nat.zero_add] at this
              rw [this]
              cases hk : args[k]? with
              | none => exact .dead _
              | some b =>
                have h1 := hA.2 k b hk
                have hkl := (List.getElem?_eq_some_iff.1 hk).1
                have : (vs ++ Array.replicate (fn.ntmps - vs.size) undef).getD k undef = vs.getD k undef := by
                  rw [Array.getD_eq_getD_getElem?, Array.getElem?_append_left (by rw [hA.1]; exact hkl), ← Array.getD_eq_getD_getElem?]
                rw [this]; exact h1
            · obtain ⟨I2, η2, k1, k2, k3, k4⟩ := hAf
              obtain ⟨v, hv, rv⟩ := results_ok k1 k4 hr
              have hfin : a'.defers = [] ∧ ∃ v, (results fn a'.tmps).run E.P w' = .ok v w' ∧ ∃ x, Ending.returned v = .returned x ∧ After E I η H w H1 w' fun I' η' => RelA I' η' H1 r' x :=
                ⟨hdef, v, hv, v, rfl, I2, η2, k1, k2, k3, rv⟩
              cases ex with
              | normal => exact hfin
              | ret => exact hfin
              | exit id => exact (hne id rfl).elim
          · cases h
        · cases h
      · cases h
    · cases h
  · cases h

theorem exec_ok (hext : ExtOK E) : ∀ n, ExecOK E n ∧ LoopOK E n := by
  intro n
  induction n with
  | zero => exact ⟨fun f c fr H ex fr' H' h => by simp [exec] at h, fun f c fr H ex fr' H' h => by simp [exec] at h⟩
  | succ n ih =>
    obtain ⟨ihE, ihL⟩ := ih
    have hcl : CallOK E (callIso E (callLoc E (exec E n))) := iso_ok (callLoc_ok ihE) hext
    have loop : LoopOK E (n + 1) := by
      intro f c fr H ex fr' H' h I η w a Q hco hm hC hf hQ
      rw [rounds_succ]
      simp only [exec] at h
      split at h
      · rename_i fr1 H1 h1
        refine ihE f c _ H _ fr1 H1 h1 I η w a _ hco hm hC (hf.normed _) fun a' w' hdef hs hA => ?_
        obtain ⟨I2, η2, k1, k2, k3, k4⟩ := hA
        refine ihL f c fr1 H1 ex fr' H' h I2 η2 w' a' Q (by rw [hs]; exact hco) hm k1 k4 fun a'' w'' hdef' hs' hA' => ?_
        obtain ⟨I3, η3, j1, j2, j3, j4⟩ := hA'
        exact hQ a'' w'' (hdef'.trans hdef) (hs'.trans hs) ⟨I3, η3, j1, k2.trans j2, k3.trans j3, j4⟩
      · rename_i hne
        refine ihE f c _ H ex fr' H' h I η w a _ hco hm hC (hf.normed _) fun a' w' hdef hs hA => ?_
        have := hQ a' w' hdef hs hA
        cases ex with
        | normal => exact absurd h (hne _ _)
        | exit id => exact this
        | ret => exact this
    refine ⟨?_, loop⟩
    intro f c fr H ex fr' H' h I η w a Q hco hm hC hf hQ
    cases c with
    | skip =>
      simp only [exec, Option.some.injEq, Prod.mk.injEq] at h
      obtain ⟨rfl, rfl, rfl⟩ := h
      exact wp_skip (hQ a w rfl rfl (After.refl hC hf))
    | label l =>
      simp only [exec, Option.some.injEq, Prod.mk.injEq] at h
      obtain ⟨rfl, rfl, rfl⟩ := h
      exact wp_label (hQ a w rfl rfl (After.refl hC hf))
    | ret =>
      simp only [exec, Option.some.injEq, Prod.mk.injEq] at h
      obtain ⟨rfl, rfl, rfl⟩ := h
      exact wp_ret (hQ a w rfl rfl (After.refl hC hf))
    | exit id =>
      simp only [exec, Option.some.injEq, Prod.mk.injEq] at h
      obtain ⟨rfl, rfl, rfl⟩ := h
      exact wp_exit (hQ a w rfl rfl (After.refl hC hf))
    | region id ops draw =>
      simp only [codeOk, Bool.and_eq_true, Bool.or_eq_true, Bool.not_eq_true'] at hco
      have hdst : DstOK a.tmps.size ops.toList := by
        intro o ho d hd
        have := (List.all_eq_true.1 hco.1) o ho
        rw [hd] at this; simpa using this
      cases draw with
      | false =>
        simp only [exec] at h
        split at h
        · rename_i fr1 H1 h1
          simp only [Option.some.injEq, Prod.mk.injEq] at h
          obtain ⟨rfl, rfl, rfl⟩ := h
          refine wp_region_list (evOps_ok hcl ops.toList h1 hC hf hdst fun a' w' hdef hs hA => hQ a' w' hdef hs (hA.imp fun I' η' _ _ h => h.normed _))
        · cases h
      | true =>
        simp only [exec] at h
        cases hhol : E.hol f id with
        | true =>
          rw [hhol] at h hco
          simp only at h hco
          split at h
          · rename_i fr1 H1 tr h1
            split at h
            · rename_i hk
              simp only [Option.some.injEq, Prod.mk.injEq] at h
              obtain ⟨rfl, rfl, rfl⟩ := h
              have hd := hco.2.resolve_left (by simp)
              simp only [Bool.and_eq_true] at hd
              refine draw_okD hcl h1 hk hd.1 hd.2 hm hC hf hdst fun a' w' fr3 he hdef hs hA => hQ a' w' hdef hs (hA.imp fun I' η' _ _ h => (frOK_eq he h).normed _)
            · cases h
          · cases h
        | false =>
        rw [hhol] at h hco
        simp only at h hco
        split at h
        · rename_i fr1 H1 tr h1
          split at h
          · rename_i hk
            simp only [Option.some.injEq, Prod.mk.injEq] at h
            obtain ⟨rfl, rfl, rfl⟩ := h
            have hd := hco.2.resolve_left (by simp)
            simp only [Bool.and_eq_true] at hd
            refine draw_ok hcl h1 hk hd.1 hd.2 hm hC hf hdst fun a' w' fr3 he hdef hs hA => hQ a' w' hdef hs (hA.imp fun I' η' _ _ h => (frOK_eq he h).normed _)
          · cases h
        · cases h
    | seq x y =>
      simp only [codeOk, Bool.and_eq_true] at hco
      simp only [exec] at h
      refine wp_seq ?_
      split at h
      · rename_i fr1 H1 h1
        refine ihE f x _ H _ fr1 H1 h1 I η w a _ hco.1 hm hC hf fun a' w' hdef hs hA => ?_
        obtain ⟨I2, η2, k1, k2, k3, k4⟩ := hA
        refine ihE f y fr1 H1 ex fr' H' h I2 η2 w' a' Q (by rw [hs]; exact hco.2) hm k1 k4 fun a'' w'' hdef' hs' hA' => ?_
        obtain ⟨I3, η3, j1, j2, j3, j4⟩ := hA'
        exact hQ a'' w'' (hdef'.trans hdef) (hs'.trans hs) ⟨I3, η3, j1, k2.trans j2, k3.trans j3, j4⟩
      · rename_i hne
        refine ihE f x _ H ex fr' H' h I η w a _ hco.1 hm hC hf fun a' w' hdef hs hA => ?_
        have := hQ a' w' hdef hs hA
        cases ex with
        | normal => exact absurd h (hne _ _)
        | exit id => exact this
        | ret => exact this
    | cond c x y =>
      simp only [codeOk, Bool.and_eq_true] at hco
      simp only [exec] at h
      split at h
      · rename_i hb
        exact wp_cond_true (opd_bool hC hf hb) (ihE f x fr H ex fr' H' h I η w a Q hco.1 hm hC hf hQ)
      · rename_i hb
        exact wp_cond_false (opd_bool hC hf hb) (ihE f y fr H ex fr' H' h I η w a Q hco.2 hm hC hf hQ)
      · cases h
    | block id c =>
      simp only [codeOk] at hco
      simp only [exec] at h
      refine wp_block ?_
      split at h
      · rename_i j fr1 H1 h1
        refine ihE f c fr H _ fr1 H1 h1 I η w a _ hco hm hC hf fun a' w' hdef hs hA => ?_
        show Exit.inBlock id Q (.exit j) a' w'
        unfold Exit.inBlock
        split at h
        · rename_i hj
          simp only [Option.some.injEq, Prod.mk.injEq] at h
          obtain ⟨rfl, rfl, rfl⟩ := h
          simp only [hj, if_true]
          exact hQ a' w' hdef hs hA
        · rename_i hj
          simp only [Option.some.injEq, Prod.mk.injEq] at h
          obtain ⟨rfl, rfl, rfl⟩ := h
          simp only [hj, if_false]
          exact hQ a' w' hdef hs hA
      · rename_i hne
        refine ihE f c fr H ex fr' H' h I η w a _ hco hm hC hf fun a' w' hdef hs hA => ?_
        have := hQ a' w' hdef hs hA
        cases ex with
        | normal => exact this
        | exit id => exact absurd h (hne _ _ _)
        | ret => exact this
    | loop c =>
      simp only [codeOk] at hco
      exact wp_loop_rounds _ (loop f c fr H ex fr' H' h I η w a Q hco hm hC hf hQ)
    | scope c =>
      simp only [codeOk] at hco
      simp only [exec] at h
      refine wp_scope_straight (ihE f c fr H ex fr' H' h I η w a _ hco hm hC hf fun a' w' hdef hs hA => ?_)
      have := hQ a' w' hdef hs hA
      cases ex <;> exact this
    | _ => simp [exec] at h

theorem call_ok (hext : ExtOK E) (n : Nat) : CallOK E (call E n) := callLoc_ok (exec_ok hext n).1
end
end Go.VI
