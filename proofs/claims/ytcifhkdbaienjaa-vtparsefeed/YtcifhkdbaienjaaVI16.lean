/- VI, part 16: code, and calls. -/
import Derived.Test.YtcifhkdbaienjaaVI26
import Derived.LoopN
import Derived.Scope
set_option linter.unusedSimpArgs false
set_option linter.unusedVariables false
namespace Go.VI
section
variable {E : Env} {I : Imm} {η : Eta} {H : Hp} {w : World}

theorem conc_drawn (hC : Conc E I η H w) (n : Nat) : Conc E I η H { w with drawn := n } :=
  ⟨hC.imm, fun c x h => by have := hC.ch c x h; cases x <;> exact this, hC.inj, hC.sep, hC.glob⟩
theorem trans_drawn {I' : Imm} {η' : Eta} {w' : World} {n : Nat} (h : Trans I η { w with drawn := n } I' η' w') : Trans I η w I' η' w' :=
  ⟨h.os, h.tape, h.output, h.size, h.frame, h.imm, h.immNew, h.own⟩

theorem apartT_symm {a b : List Nat} (h : apartT a b = true) : apartT b a = true := by
  simp only [apartT, List.all_eq_true]
  intro c hc
  have : c ∉ a := fun ha => apartT_spec h ha hc
  simpa using this

theorem draw_compat {ops : Array Oper} {ts : List (List Nat)} {pairs : List (Nat × Nat)} (hd : drawOk E ops = true) (hfl : (floats E ops).all (fun p => pairs.contains p) = true) (hk : pairs.all (floatOk ts) = true) :
    ∀ j i, j < i → i < ops.size → bound (Region.before ops) j i = false → CompatI E ops (fun k => ts.getD k []) j i := by
  intro j i hji hi hb x y hx hy
  unfold drawOk at hd
  simp only [Bool.and_eq_true, List.all_eq_true, List.mem_range] at hd
  have h1 := hd.2 i hi j hji
  rw [hx, hy] at h1
  simp only [hb, Bool.false_or, Bool.and_eq_true, Bool.not_eq_true', Bool.and_eq_false_iff] at h1
  refine ⟨h1.1, fun ⟨ha, hb'⟩ => ?_, fun hf => ?_⟩
  · rcases h1.2 with h | h
    · rw [ha] at h; cases h
    · rw [hb'] at h; cases h
  · have hm : (j, i) ∈ floats E ops := by
      unfold floats
      simp only [List.mem_flatMap, List.mem_range, List.mem_filterMap]
      refine ⟨i, hi, j, hji, ?_⟩
      rw [hx, hy]
      have : ((heavy E x.op && readsH y.op) || (heavy E y.op && readsH x.op)) = true := by
        rcases hf with ⟨a, b⟩ | ⟨a, b⟩ <;> simp [a, b]
      simp [hb, this]
    have hc := (List.all_eq_true.1 hfl) _ hm
    have hc' : (j, i) ∈ pairs := by simpa using hc
    have := (List.all_eq_true.1 hk) _ hc'
    unfold floatOk at this
    exact ⟨this, apartT_symm this⟩

theorem draw_back {ops : Array Oper} (hd : drawOk E ops = true) : ∀ (i : Nat) (o : Oper), ops[i]? = some o → ∀ e ∈ o.after, Region.binds .any e = true → e.on < i := by
  intro i o ho e he hb
  unfold drawOk at hd
  simp only [Bool.and_eq_true, List.all_eq_true, List.mem_range] at hd
  have h1 := hd.1.2 i (Array.getElem?_eq_some_iff.1 ho).1
  rw [ho] at h1
  simp only [Array.all_eq_true] at h1
  obtain ⟨k, hk, rfl⟩ := Array.mem_iff_getElem.1 he
  have := h1 k hk
  simpa [hb] using this

theorem draw_ok {cl : CallF} (hcl : CallOK E (callIso E cl)) {id : Nat} {ops : Array Oper} {fr fr' : Fr} {H' : Hp} {ts : List (List Nat)} {a : Act} {Q : Exit → Act → World → Prop}
    (h : evT E cl ops.toList ops.toList fr H = some (fr', H', ts)) {pairs : List (Nat × Nat)} (hk : pairs.all (floatOk ts) = true) (hd : drawOk E ops = true) (hfl : (floats E ops).all (fun p => pairs.contains p) = true)
    (hm : E.P.follows .mixedOrders = true) (hC : Conc E I η H w) (hf : FrOK I η H fr a.tmps) (hdst : DstOK a.tmps.size ops.toList)
    (hQ : ∀ a' w' fr3, FrEq fr' fr3 → a'.defers = a.defers → a'.tmps.size = a.tmps.size → After E I η H w H' w' (fun I' η' => FrOK I' η' H' fr3 a'.tmps) → Q .normal a' w') : (Code.region id ops true).wp E.P Q a w := by
  refine wp_region_any hm ?_
  have hrun : Run E cl ops (fun k => ts.getD k []) (List.range' 0 ops.toList.length) fr H fr' H' :=
    run_of_evT ops.toList 0 fr H fr' H' ts h (fun j => by simp) (fun j _ => by simp)
  have := any_ok hcl (ops := ops) (Q := Q) (fr2 := fr') (n0 := a.tmps.size) (d0 := a.defers) (draw_compat hd hfl hk) (draw_back hd) hdst (List.range' 0 ops.toList.length) (Array.replicate ops.size false) I η fr H a { w with drawn := w.drawn + 1 } fr'
    (List.pairwise_lt_range' ..) (fun i => by
      simp only [List.mem_range', Array.length_toList]
      constructor
      · rintro ⟨k, hk, rfl⟩
        refine ⟨by omega, ?_⟩
        rw [Array.getD_eq_getD_getElem?, Array.getElem?_replicate]; split <;> rfl
      · rintro ⟨h1, _⟩; exact ⟨i, h1, by omega⟩) (by simp) (fun i o ho hl => by
      rw [Array.getD_eq_getD_getElem?, Array.getElem?_replicate] at hl; split at hl <;> simp at hl) hrun (conc_drawn hC _) hf rfl rfl
      (fun a' w' fr3 he hdef hs hA => by
        obtain ⟨I2, η2, k1, k2, k3, k4⟩ := hA
        exact hQ a' w' fr3 he hdef hs ⟨I2, η2, k1, trans_drawn k2, k3, k4⟩)
  simpa using this

theorem draw_compatD {ops : Array Oper} {ts : List (List Nat)} {pairs : List (Nat × Nat)} (hd : drawOkD E ops = true) (hfl : (floatsD E ops).all (fun p => pairs.contains p) = true) (hk : pairs.all (floatOk ts) = true) :
    ∀ j i, j < i → i < ops.size → bound (Region.before ops) j i = false → CompatJ E ops (fun k => ts.getD k []) j i := by
  intro j i hji hi hb x y hx hy
  unfold drawOkD at hd
  simp only [Bool.and_eq_true, List.all_eq_true, List.mem_range] at hd
  have h1 := hd.2 i hi j hji
  rw [hx, hy] at h1
  simp only [hb, Bool.false_or, Bool.and_eq_true, Bool.or_eq_true, Bool.not_eq_true', Bool.and_eq_false_iff] at h1
  refine ⟨h1.1, fun ha hb' => ?_, fun hf => ?_⟩
  · rcases h1.2 with (h | h) | h
    · rcases h with h | h
      · rw [ha] at h; cases h
      · rw [hb'] at h; cases h
    · exact .inl h
    · exact .inr h
  · have hm : (j, i) ∈ floatsD E ops := by
      unfold floatsD
      simp only [List.mem_flatMap, List.mem_range, List.mem_filterMap]
      refine ⟨i, hi, j, hji, ?_⟩
      rw [hx, hy]
      have : ((heavy E x.op && (readsH y.op || heavy E y.op)) || (heavy E y.op && (readsH x.op || heavy E x.op))) = true := by
        rcases hf with ⟨a, b | b⟩ | ⟨a, b | b⟩ <;> simp [a, b]
      simp [hb, this]
    have hc := (List.all_eq_true.1 hfl) _ hm
    have hc' : (j, i) ∈ pairs := by simpa using hc
    have := (List.all_eq_true.1 hk) _ hc'
    unfold floatOk at this
    exact ⟨this, apartT_symm this⟩

theorem draw_backD {ops : Array Oper} (hd : drawOkD E ops = true) : ∀ (i : Nat) (o : Oper), ops[i]? = some o → ∀ e ∈ o.after, Region.binds .any e = true → e.on < i := by
  intro i o ho e he hb
  unfold drawOkD at hd
  simp only [Bool.and_eq_true, List.all_eq_true, List.mem_range] at hd
  have h1 := hd.1.2 i (Array.getElem?_eq_some_iff.1 ho).1
  rw [ho] at h1
  simp only [Array.all_eq_true] at h1
  obtain ⟨k, hk, rfl⟩ := Array.mem_iff_getElem.1 he
  have := h1 k hk
  simpa [hb] using this

theorem draw_okD {cl : CallF} (hcl : CallOK E (callIso E cl)) {id : Nat} {ops : Array Oper} {fr fr' : Fr} {H' : Hp} {ts : List (List Nat)} {a : Act} {Q : Exit → Act → World → Prop}
    (h : evD E cl ops.toList H.length ops.toList fr (H ++ List.replicate (nFresh ops.toList) hole) = some (fr', H', ts)) {pairs : List (Nat × Nat)} (hk : pairs.all (floatOk ts) = true) (hd : drawOkD E ops = true) (hfl : (floatsD E ops).all (fun p => pairs.contains p) = true)
    (hm : E.P.follows .mixedOrders = true) (hC : Conc E I η H w) (hf : FrOK I η H fr a.tmps) (hdst : DstOK a.tmps.size ops.toList)
    (hQ : ∀ a' w' fr3, FrEq fr' fr3 → a'.defers = a.defers → a'.tmps.size = a.tmps.size → After E I η H w H' w' (fun I' η' => FrOK I' η' H' fr3 a'.tmps) → Q .normal a' w') : (Code.region id ops true).wp E.P Q a w := by
  refine wp_region_any hm ?_
  obtain ⟨hC0, hm0⟩ := conc_holes hC (nFresh ops.toList)
  have hrun : RunD E cl ops (fun k => ts.getD k []) (fun i => H.length + nFresh (ops.toList.take i)) (List.range' 0 ops.toList.length) fr (H ++ List.replicate (nFresh ops.toList) hole) fr' H' :=
    run_of_evD ops.toList 0 _ fr _ fr' H' ts h (fun j => by simp) (fun j _ => by simp) (fun j _ => by simp)
  have := any_okD hcl (ops := ops) (Q := Q) (fr2 := fr') (n0 := a.tmps.size) (d0 := a.defers) (draw_compatD hd hfl hk) (draw_backD hd) hdst (List.range' 0 ops.toList.length) (Array.replicate ops.size false) I η fr _ a { w with drawn := w.drawn + 1 } fr'
    (List.pairwise_lt_range' ..) (fun i => by
      simp only [List.mem_range', Array.length_toList]
      constructor
      · rintro ⟨k, hk, rfl⟩
        refine ⟨by omega, ?_⟩
        rw [Array.getD_eq_getD_getElem?, Array.getElem?_replicate]; split <;> rfl
      · rintro ⟨h1, _⟩; exact ⟨i, h1, by omega⟩) (by simp) (fun i o ho hl => by
      rw [Array.getD_eq_getD_getElem?, Array.getElem?_replicate] at hl; split at hl <;> simp at hl) hrun (conc_drawn hC0 _) (hf.mono hm0) rfl rfl
      (fun a' w' fr3 he hdef hs hA => by
        obtain ⟨I2, η2, k1, k2, k3, k4⟩ := hA
        exact hQ a' w' fr3 he hdef hs ⟨I2, η2, k1, trans_drawn k2, hm0.trans k3, k4⟩)
  simpa using this

/-! code -/
def exOf : Ex → Exit
  | .normal => .normal
  | .exit id => .exit id
  | .ret => .ret

theorem frOK_eq {fr fr' : Fr} {tmps : Array Value} (he : FrEq fr fr') (h : FrOK I η H fr' tmps) : FrOK I η H fr tmps := fun k => by rw [he k]; exact h k

theorem opd_bool {fr : Fr} {a : Act} (hC : Conc E I η H w) (hf : FrOK I η H fr a.tmps) {c : Operand} {b : Bool} (h : opd E fr c = .i (.v (.bool b))) : a.eval c = .bool b := by
  have := opd_ok hC hf c
  rw [h] at this
  exact relA_v this

/-! what is known behind a piece of code: of the values that lie in the chunks below B -/
def MonoB (B : Nat) (I : Imm) (η : Eta) (H : Hp) (I' : Imm) (η' : Eta) (H' : Hp) : Prop := ∀ a v, (∀ d ∈ refsA a, d < B) → RelA I η H a v → RelA I' η' H' a v
theorem MonoB.trans {B : Nat} {I η H I' η' H' I'' η'' H''} (h : MonoB B I η H I' η' H') (k : MonoB B I' η' H' I'' η'' H'') : MonoB B I η H I'' η'' H'' := fun a v hd r => k a v hd (h a v hd r)
def AfterB (E : Env) (B : Nat) (I : Imm) (η : Eta) (H : Hp) (w : World) (H' : Hp) (w' : World) (Q : Imm → Eta → Prop) : Prop :=
  ∃ I' η', Conc E I' η' H' w' ∧ Trans I η w I' η' w' ∧ MonoB B I η H I' η' H' ∧ Q I' η'
theorem After.b {B : Nat} {H' : Hp} {w' : World} {Q : Imm → Eta → Prop} (h : After E I η H w H' w' Q) : AfterB E B I η H w H' w' Q := by
  obtain ⟨I', η', h1, h2, h3, h4⟩ := h
  exact ⟨I', η', h1, h2, fun a v _ r => h3 a v r, h4⟩
theorem ren_id {ρ : Nat → Option Nat} : (∀ a, (∀ d ∈ refsA a, ρ d = some d) → renA ρ a = a) ∧ (∀ l, (∀ d ∈ refsL l, ρ d = some d) → renL ρ l = l) := by
  refine ⟨fun a => ?_, fun l => ?_⟩
  · induction a using AV.rec (motive_2 := fun l => (∀ d ∈ refsL l, ρ d = some d) → renL ρ l = l) <;> (try intro h) <;> simp_all [refsA, refsL, renA, renL]
  · induction l using AV.rec_1 (motive_1 := fun a => (∀ d ∈ refsA a, ρ d = some d) → renA ρ a = a) <;> (try intro h) <;> simp_all [refsA, refsL, renA, renL]
theorem gcR_ok {B : Nat} (hB : B ≤ H.length) (fr : Fr) : (gcR B fr H).Nodup ∧ ∀ c ∈ gcR B fr H, c < H.length := by
  obtain ⟨h1, h2⟩ := reach_ok H 64 (refsL (fr.map (·.2)) ++ (H.take B).flatMap Chunk.refs) [] (by simp) (by simp)
  unfold gcR
  refine ⟨List.nodup_append.2 ⟨List.nodup_range, h1.filter _, fun a ha b hb => ?_⟩, fun c hc => ?_⟩
  · simp at ha hb; omega
  · simp only [List.mem_append, List.mem_range, List.mem_filter] at hc
    rcases hc with hc | hc
    · omega
    · exact h2 c hc.1
theorem get_ren (ρ : Nat → Option Nat) (k : Nat) : ∀ fr : Fr, get k (fr.map fun x => (x.1, renA ρ x.2)) = renA ρ (get k fr)
  | [] => by simp [get, renA]
  | (j, a) :: fr => by
    simp only [List.map_cons, get]
    split
    · rfl
    · exact get_ren ρ k fr
theorem gc_ok (B : Nat) {fr : Fr} {tmps : Array Value} (hC : Conc E I η H w) (hf : FrOK I η H fr tmps) :
    ∃ η', Conc E I η' (gc B fr H).2 w ∧ FrOK I η' (gc B fr H).2 (gc B fr H).1 tmps ∧ (∀ c b n, η' c = some (b, n) → ∃ c', η c' = some (b, n)) ∧ MonoB B I η H I η' (gc B fr H).2 := by
  unfold gc
  split
  · rename_i hB
    obtain ⟨hn, hlt⟩ := gcR_ok hB fr
    refine ⟨locEta η (gcR B fr H), loc_conc hC hn hlt, fun k => ?_, fun c b n h => ?_, fun a v hd r => ?_⟩
    · show RelA _ _ _ (get k (fr.map fun x => (x.1, renA (posIn (gcR B fr H)) x.2))) _
      rw [get_ren]
      exact ren_ok (loc_ren hn hlt) (hf k)
    · unfold locEta at h
      split at h
      · exact ⟨_, h⟩
      · cases h
    · have := ren_ok (loc_ren (η := η) hn hlt) r
      rw [ren_id.1 a fun d hd' => posIn_get hn (by
        unfold gcR
        have := hd d hd'
        rw [List.getElem?_append_left (by simpa using this)]
        simp [this])] at this
      exact this
  · exact ⟨η, hC, hf, fun c b n h => ⟨c, h⟩, fun a v _ r => r⟩

/-! chunks counted anew -/
theorem cnL_map (B : Nat) (H : Hp) : ∀ l : List AV, cnL B H l = l.map (cnA B H)
  | [] => by simp [cnL]
  | a :: l => by simp [cnL, cnL_map B H l]
theorem cnHs_get (B : Nat) (H : Hp) : ∀ (l : Hp) (k c : Nat), (cnHs B H k l)[c]? = (l[c]?).map (cnC B H (k + c))
  | [], k, c => by simp [cnHs]
  | x :: l, k, 0 => by simp [cnHs]
  | x :: l, k, c + 1 => by
    have := cnHs_get B H l (k + 1) c
    simp only [cnHs, List.getElem?_cons_succ, this]
    rw [show k + 1 + c = k + (c + 1) by omega]
theorem cnHs_len (B : Nat) (H : Hp) : ∀ (l : Hp) (k : Nat), (cnHs B H k l).length = l.length
  | [], k => rfl
  | x :: l, k => by simp [cnHs, cnHs_len B H l]
theorem cn_at (B : Nat) (H : Hp) (c : Nat) : (cnHs B H 0 H)[c]? = (H[c]?).map (cnC B H c) := by
  rw [cnHs_get]; simp
theorem cn_sl {B : Nat} {c sz g : Nat} {rows : List (List IV)} {ex : Bool} (h : (cnHs B H 0 H)[c]? = some (.sl sz g rows ex)) :
    ∃ g0 ex0, H[c]? = some (.sl sz g0 rows ex0) ∧ ((c < B ∧ g = g0 ∧ ex = ex0) ∨ (B ≤ c ∧ g = 0 ∧ ex = false)) := by
  rw [cn_at] at h
  cases hH : H[c]? with
  | none => rw [hH] at h; cases h
  | some x =>
    rw [hH] at h
    cases x with
    | sl sz0 g0 rows0 ex0 =>
      simp only [Option.map_some, cnC, Option.some.injEq] at h
      split at h
      · cases h; exact ⟨_, _, rfl, .inl ⟨by assumption, rfl, rfl⟩⟩
      · cases h; exact ⟨_, _, rfl, .inr ⟨by omega, rfl, rfl⟩⟩
    | _ => simp [cnC] at h
theorem cn_fz {B : Nat} {c sz g : Nat} {rows : List (List IV)} {ex : Bool} (h : (cnHs B H 0 H)[c]? = some (.fz sz g rows ex)) : H[c]? = some (.fz sz g rows ex) := by
  rw [cn_at] at h
  cases hH : H[c]? with
  | none => rw [hH] at h; cases h
  | some x =>
    rw [hH] at h
    cases x with
    | sl sz0 g0 rows0 ex0 => simp only [Option.map_some, cnC, Option.some.injEq] at h; split at h <;> cases h
    | fz => simpa [cnC] using h
    | _ => simp [cnC] at h
theorem cn_iter {B : Nat} {c : Nat} {s : List UInt8} {p : Nat} (h : (cnHs B H 0 H)[c]? = some (.iter s p)) : H[c]? = some (.iter s p) := by
  rw [cn_at] at h
  cases hH : H[c]? with
  | none => rw [hH] at h; cases h
  | some x =>
    rw [hH] at h
    cases x with
    | sl sz0 g0 rows0 ex0 => simp only [Option.map_some, cnC, Option.some.injEq] at h; split at h <;> cases h
    | iter => simpa [cnC] using h
    | _ => simp [cnC] at h
theorem cn_box {B : Nat} {c : Nat} {cells : List AV} (h : (cnHs B H 0 H)[c]? = some (.box cells)) : ∃ cells0, H[c]? = some (.box cells0) ∧ cells = cnL B H cells0 := by
  rw [cn_at] at h
  cases hH : H[c]? with
  | none => rw [hH] at h; cases h
  | some x =>
    rw [hH] at h
    cases x with
    | sl sz0 g0 rows0 ex0 => simp only [Option.map_some, cnC, Option.some.injEq] at h; split at h <;> cases h
    | box cells0 => simp only [Option.map_some, cnC, Option.some.injEq, Chunk.box.injEq] at h; exact ⟨_, rfl, h.symm⟩
    | _ => simp [cnC] at h
theorem refsL_mem {d : Nat} : ∀ {l : List AV}, d ∈ refsL l ↔ ∃ a, a ∈ l ∧ d ∈ refsA a
  | [] => by simp [refsL]
  | a :: l => by simp [refsL, refsL_mem (l := l)]
theorem cn_keep {B : Nat} {a : AV} {v : Value} (r : RelA I η H a v) (hd : ∀ d ∈ refsA a, d < B) : RelA I η (cnHs B H 0 H) a v := by
  induction r with
  | dead v => exact .dead v
  | i x v h => exact .i x v h
  | agg cells cs hl _ ih => exact .agg cells cs hl fun k a ha => ih k a ha fun d h => hd d (refsL_mem.2 ⟨a, List.mem_of_getElem? ha, h⟩)
  | clo fn a b fs cs hl hm _ _ ih1 ih2 =>
    exact .clo fn a b fs cs hl hm (fun k x hx => ih1 k x hx fun d h => hd d (List.mem_append.2 (.inl (refsL_mem.2 ⟨x, List.mem_of_getElem? hx, h⟩))))
      (fun k x hx => ih2 k x hx fun d h => hd d (List.mem_append.2 (.inr (refsL_mem.2 ⟨x, List.mem_of_getElem? hx, h⟩))))
  | tup vs xs hl _ ih => exact .tup vs xs hl fun k a ha => ih k a ha fun d h => hd d (refsL_mem.2 ⟨a, List.mem_of_getElem? ha, h⟩)
  | ref c g off len v hc hs hf hp hg =>
    have hcB : c < B := hd c (by simp [refsA])
    refine .ref _ _ _ _ _ (by rw [cnHs_len]; exact hc) (fun sz rows ex h => ?_) (fun sz rows ex h => hf _ _ _ (cn_fz h)) hp (fun sz g' rows ex h => ?_)
    · obtain ⟨g0, ex0, h1, ⟨_, rfl, rfl⟩ | ⟨h2, _⟩⟩ := cn_sl h
      · exact hs _ _ _ h1
      · omega
    · obtain ⟨g0, ex0, h1, ⟨_, rfl, rfl⟩ | ⟨h2, _⟩⟩ := cn_sl h
      · exact hg _ _ _ _ h1
      · omega
  | ptr c g r k v hc hb hs hf hi hp hg =>
    have hcB : c < B := hd c (by simp [refsA])
    refine .ptr _ _ _ _ _ (by rw [cnHs_len]; exact hc) (fun cells h => ?_) (fun sz rows ex h => ?_) (fun sz rows ex row h => hf _ _ _ _ (cn_fz h)) (fun s p h => hi _ _ (cn_iter h)) hp (fun sz g' rows ex h => ?_)
    · obtain ⟨c0, h1, _⟩ := cn_box h; exact hb _ h1
    · obtain ⟨g0, ex0, h1, ⟨_, rfl, rfl⟩ | ⟨h2, _⟩⟩ := cn_sl h
      · exact hs _ _ _ h1
      · omega
    · obtain ⟨g0, ex0, h1, ⟨_, rfl, rfl⟩ | ⟨h2, _⟩⟩ := cn_sl h
      · exact hg _ _ _ _ h1
      · omega
theorem cn_rel {B : Nat} {a : AV} {v : Value} (r : RelA I η H a v) : RelA I η (cnHs B H 0 H) (cnA B H a) v := by
  induction r with
  | dead v => simp only [cnA]; exact .dead v
  | i x v h => simp only [cnA]; exact .i x v h
  | agg cells cs hl _ ih =>
    simp only [cnA, cnL_map]
    refine .agg _ _ (by simpa using hl) fun k a ha => ?_
    simp only [List.getElem?_map, Option.map_eq_some_iff] at ha
    obtain ⟨b, hb, rfl⟩ := ha
    exact ih k b hb
  | clo fn a b fs cs hl hm _ _ ih1 ih2 =>
    simp only [cnA, cnL_map]
    refine .clo _ _ _ _ _ (by simpa using hl) (by simpa using hm) (fun k a ha => ?_) (fun k a ha => ?_)
    · simp only [List.getElem?_map, Option.map_eq_some_iff] at ha
      obtain ⟨b, hb, rfl⟩ := ha
      exact ih1 k b hb
    · simp only [List.getElem?_map, Option.map_eq_some_iff] at ha
      obtain ⟨b, hb, rfl⟩ := ha
      exact ih2 k b hb
  | tup vs xs hl _ ih =>
    simp only [cnA, cnL_map]
    refine .tup _ _ (by simpa using hl) fun k a ha => ?_
    simp only [List.getElem?_map, Option.map_eq_some_iff] at ha
    obtain ⟨b, hb, rfl⟩ := ha
    exact ih k b hb
  | ref c g off len v hc hs hf hp hg =>
    simp only [cnA]
    split
    · exact cn_keep (.ref c g off len v hc hs hf hp hg) (by simpa [refsA])
    · rename_i hcB
      unfold cnRef
      split
      · rename_i sz g' rows ex hH
        split
        · rename_i e; subst e
          refine .ref _ _ _ _ _ (by rw [cnHs_len]; exact hc) (fun sz2 rows2 ex2 h => ?_) (fun sz2 rows2 ex2 h => ?_) hp (fun _ _ _ _ _ => Nat.zero_le _)
          · obtain ⟨g0, ex0, h1, _⟩ := cn_sl h
            rw [hH] at h1; cases h1
            exact hs _ _ _ hH
          · have := cn_fz h; rw [hH] at this; cases this
        · exact .dead v
      · rename_i sz g' rows ex hH
        split
        · rename_i e; subst e
          exact .i _ _ (hf _ _ _ hH).2
        · exact .dead v
      · exact .dead v
  | ptr c g r k v hc hb hs hf hi hp hg =>
    simp only [cnA]
    split
    · exact cn_keep (.ptr c g r k v hc hb hs hf hi hp hg) (by simpa [refsA])
    · rename_i hcB
      unfold cnPtr
      split
      · rename_i sz g' rows ex hH
        split
        · rename_i e; subst e
          refine .ptr _ _ _ _ _ (by rw [cnHs_len]; exact hc) (fun cells h => ?_) (fun sz2 rows2 ex2 h => ?_) (fun sz2 rows2 ex2 row h => ?_) (fun s p h => ?_) hp (fun _ _ _ _ _ => Nat.zero_le _)
          · obtain ⟨c0, h1, _⟩ := cn_box h; rw [hH] at h1; cases h1
          · obtain ⟨g0, ex0, h1, _⟩ := cn_sl h
            rw [hH] at h1; cases h1
            exact hs _ _ _ hH
          · have := cn_fz h; rw [hH] at this; cases this
          · have := cn_iter h; rw [hH] at this; cases this
        · exact .dead v
      · rename_i x hne hH
        refine .ptr _ _ _ _ _ (by rw [cnHs_len]; exact hc) (fun cells h => ?_) (fun sz2 rows2 ex2 h => ?_) (fun sz2 rows2 ex2 row h => hf _ _ _ _ (cn_fz h)) (fun s p h => hi _ _ (cn_iter h)) hp (fun sz2 g2 rows2 ex2 h => ?_)
        · obtain ⟨c0, h1, _⟩ := cn_box h; exact hb _ h1
        · obtain ⟨g0, ex0, h1, _⟩ := cn_sl h
          rw [hH] at h1; cases h1; exact (hne _ _ _ _ rfl).elim
        · obtain ⟨g0, ex0, h1, _⟩ := cn_sl h
          rw [hH] at h1; cases h1; exact (hne _ _ _ _ rfl).elim
      · exact .dead v
theorem cn_conc (B : Nat) (hC : Conc E I η H w) : Conc E I η (cnHs B H 0 H) w := by
  refine ⟨hC.imm, fun c x hx => ?_, hC.inj, fun c b n h => ?_, hC.glob⟩
  · rw [cn_at] at hx
    simp only [Option.map_eq_some_iff] at hx
    obtain ⟨y, hy, rfl⟩ := hx
    have hk := hC.ch c y hy
    cases y with
    | box cells =>
      obtain ⟨b, cs, elem, fz, h1, h2, h3, h4, h5⟩ := hk
      refine ⟨b, cs, elem, fz, h1, h2, h3, by rw [cnL_map]; simpa using h4, fun k a ha => ?_⟩
      rw [cnL_map] at ha
      simp only [List.getElem?_map, Option.map_eq_some_iff] at ha
      obtain ⟨b, hb, rfl⟩ := ha
      exact cn_rel (h5 k b hb)
    | sl sz g rows ex =>
      simp only [cnC]
      split
      · exact hk
      · obtain ⟨h1, h2, h3⟩ := hk
        refine ⟨h1, h2, ?_⟩
        rcases h3 with h3 | ⟨b, cs, elem, fz, h4, h5, h6, h7, h8, h9⟩
        · exact .inl h3
        · exact .inr ⟨b, cs, elem, fz, h4, h5, h6, h7, (fun h => by cases h), h9⟩
    | fz => exact hk
    | iter => exact hk
  · have := hC.sep c b n h
    exact ⟨this.1, this.2.1, by rw [cnHs_len]; exact this.2.2⟩
theorem get_cnF (B : Nat) (k : Nat) : ∀ fr : Fr, get k (cnF B H fr) = cnA B H (get k fr)
  | [] => by simp [get, cnF, cnA]
  | (j, a) :: fr => by
    simp only [cnF, get]
    split
    · rfl
    · exact get_cnF B k fr
theorem AfterB.trans {B : Nat} {H' H'' : Hp} {w' w'' : World} {Q Q' : Imm → Eta → Prop} (h : AfterB E B I η H w H' w' Q) (k : ∀ I' η', Conc E I' η' H' w' → Q I' η' → AfterB E B I' η' H' w' H'' w'' Q') : AfterB E B I η H w H'' w'' Q' := by
  obtain ⟨I', η', h1, h2, h3, h4⟩ := h
  obtain ⟨I'', η'', k1, k2, k3, k4⟩ := k I' η' h1 h4
  exact ⟨I'', η'', k1, h2.trans k2, h3.trans k3, k4⟩
theorem cn_after (B : Nat) (hC : Conc E I η H w) {Q : Imm → Eta → Prop} (hQ : Q I η) : AfterB E B I η H w (cnHs B H 0 H) w Q :=
  ⟨I, η, cn_conc B hC, Trans.refl _ _ _, fun a v hd r => cn_keep r hd, hQ⟩
theorem gcn_ok (B : Nat) {fr : Fr} {tmps : Array Value} (hC : Conc E I η H w) (hf : FrOK I η H fr tmps) :
    AfterB E B I η H w (gcn B fr H).2 w fun I' η' => FrOK I' η' (gcn B fr H).2 (gcn B fr H).1 tmps := by
  unfold gcn
  refine (cn_after B hC (Q := fun I' η' => FrOK I' η' (cnHs B H 0 H) (cnF B H fr) tmps) fun k => by rw [get_cnF]; exact cn_rel (hf k)).trans fun I1 η1 hC1 hf1 => ?_
  obtain ⟨η', C1, F1, O1, M1⟩ := gc_ok B hC1 hf1
  exact ⟨I1, η', C1, ⟨rfl, rfl, rfl, Nat.le_refl _, fun _ _ _ => rfl, fun _ _ h => h, fun _ h => .inl h, fun c b n h => by obtain ⟨c', h'⟩ := O1 c b n h; exact .inr ⟨c', n, h'⟩⟩, M1, F1⟩
theorem matF_ok {tmps : Array Value} : ∀ (l : List (Nat × Nat)) {I : Imm} {η : Eta} {H : Hp} {fr : Fr}, Conc E I η H w → FrOK I η H fr tmps → After E I η H w (matF l fr H).2 w fun I' η' => FrOK I' η' (matF l fr H).2 (matF l fr H).1 tmps
  | [], I, η, H, fr, hC, hf => After.refl hC hf
  | (k, z) :: l, I, η, H, fr, hC, hf => by
    simp only [matF]
    refine (matV_ok hC z (hf k)).trans fun I1 η1 hC1 _ hm hx => ?_
    exact matF_ok l hC1 fun j => by
      simp only [get]
      split
      · rename_i e; subst e; exact hx
      · exact hm _ _ (hf j)
theorem matB1_ok (hC : Conc E I η H w) (j z c : Nat) : After E I η H w (matB1 j z c H H[c]?) w fun _ _ => True := by
  unfold matB1
  split
  · rename_i cells hc
    split
    · rename_i a ha
      obtain ⟨b, cs, elem, fz, e1, e2, e3, e4, e5⟩ := hC.ch _ _ hc
      have hcl := (List.getElem?_eq_some_iff.1 hc).1
      refine (matV_ok hC z (e5 j a ha)).trans fun I1 η1 hC1 hI hm hx => ?_
      have hc1 : (matV z H a).2[c]? = some (.box cells) := by
        obtain ⟨x, hx⟩ := matV_app z H a
        rw [hx, List.getElem?_append_left hcl]; exact hc
      obtain ⟨b', cs', elem', fz', f1, f2, f3, f4, f5⟩ := hC1.ch _ _ hc1
      have hcs : cs' = cs := by
        have h1 : RelA I1 η1 (matV z H a).2 (.ptr c 0 0 0) (.pointer (some ⟨b, 0, none⟩)) := hm _ _ (.ptr c 0 0 0 _ hcl (fun _ _ => ⟨b, _, e1, rfl⟩) (fun _ _ _ h => by rw [hc] at h; cases h) (fun _ _ _ _ h => by rw [hc] at h; cases h) (fun _ _ h => by rw [hc] at h; cases h) ⟨_, rfl⟩ (fun _ _ _ _ h => by rw [hc] at h; cases h))
        cases h1 with
        | ptr _ _ _ _ _ _ hb =>
          obtain ⟨b2, n2, g1, g2⟩ := hb _ hc1
          rw [f1] at g1; cases g1
          cases g2
          rw [e2] at f2; cases f2; rfl
      subst hcs
      refine wrote hC1 f1 hc1 (fun _ _ => rfl) rfl rfl rfl rfl ?_ (fun hm2 => ?_) (fun _ => trivial)
      · intro y hy
        rcases set_get hy with ⟨_, rfl⟩ | ⟨e, _⟩
        · exact .inl ⟨cells, hc1, rfl⟩
        · exact absurd rfl e
      · refine ⟨b', cs', elem', fz', f1, f2, f3, by simpa using f4, fun k x hk => ?_⟩
        by_cases hkj : j = k
        · subst hkj
          have hjl := (List.getElem?_eq_some_iff.1 ha).1
          rw [List.getElem?_set_self hjl] at hk
          cases hk
          exact hm2 _ _ hx
        · rw [List.getElem?_set_ne hkj] at hk
          exact hm2 _ _ (f5 k x hk)
    · exact After.refl hC trivial
  · exact After.refl hC trivial
theorem matB_ok {tmps : Array Value} {fr : Fr} : ∀ (l : List (Nat × Nat × Nat)) {I : Imm} {η : Eta} {H : Hp}, Conc E I η H w → FrOK I η H fr tmps → After E I η H w (matB l fr H) w fun I' η' => FrOK I' η' (matB l fr H) fr tmps
  | [], I, η, H, hC, hf => After.refl hC hf
  | (k, j, z) :: l, I, η, H, hC, hf => by
    have h1 : After E I η H w (matB2 j z H (get k fr)) w fun _ _ => True := by
      unfold matB2; split
      · exact matB1_ok hC _ _ _
      · exact After.refl hC trivial
    simp only [matB]
    exact h1.trans fun I1 η1 hC1 _ hm _ => matB_ok l hC1 fun k => hm _ _ (hf k)
theorem frzF_ok {tmps : Array Value} : ∀ (l : List (Nat × Nat)) {I : Imm} {η : Eta} {H : Hp} {fr : Fr}, Conc E I η H w → FrOK I η H fr tmps → After E I η H w (frzF l fr H).2 w fun I' η' => FrOK I' η' (frzF l fr H).2 (frzF l fr H).1 tmps
  | [], I, η, H, fr, hC, hf => After.refl hC hf
  | (k, z) :: l, I, η, H, fr, hC, hf => by
    simp only [frzF]
    cases hz : freeze H (get k fr) with
    | none => simp only [frz1]; exact frzF_ok l hC hf
    | some p =>
      obtain ⟨x, H1⟩ := p
      simp only [frz1]
      refine (freeze_ok hC (hf k) hz).trans fun I1 η1 hC1 _ hm hx => ?_
      exact frzF_ok l hC1 fun j => by
        simp only [get]
        split
        · rename_i e; subst e; exact .i _ _ (canI_ok hx)
        · exact hm _ _ (hf j)
theorem hd_ok (B : Nat) {f : FuncId} {id : Nat} {fr : Fr} {tmps : Array Value} (hC : Conc E I η H w) (hf : FrOK I η H fr tmps) :
    AfterB E B I η H w (hdE E B f id fr H).2 w fun I' η' => FrOK I' η' (hdE E B f id fr H).2 (hdE E B f id fr H).1 tmps := by
  unfold hdE
  simp only
  refine (matF_ok (E.mat f id) hC hf).b.trans fun I1 η1 hC1 hf1 => ?_
  refine (matB_ok (E.matb f id) hC1 hf1).b.trans fun I2 η2 hC2 hf2 => ?_
  refine (frzF_ok (E.frz f id) hC2 hf2).b.trans fun I3 η3 hC3 hf3 => ?_
  exact gcn_ok B hC3 (hf3.normed _)
theorem retL_ok {f : FuncId} {B : Nat} (hC : Conc E I η H w) {vs as : List AV} {H' : Hp} (h : retL E f B H vs = some (as, H')) (g : Nat → Value) (r : ∀ (k : Nat) (a : AV), vs[k]? = some a → RelA I η H a (g k)) :
    AfterB E B I η H w H' w fun I' η' => as.length = vs.length ∧ ∀ (k : Nat) (a : AV), as[k]? = some a → RelA I' η' H' a (g k) := by
  have fin : ∀ {I1 η1 H1 as1}, Conc E I1 η1 H1 w → (as1.length = vs.length ∧ ∀ (k : Nat) (a : AV), as1[k]? = some a → RelA I1 η1 H1 a (g k)) →
      AfterB E B I1 η1 H1 w (cnHs B H1 0 H1) w fun I' η' => (cnL B H1 as1).length = vs.length ∧ ∀ (k : Nat) (a : AV), (cnL B H1 as1)[k]? = some a → RelA I' η' (cnHs B H1 0 H1) a (g k) := by
    intro I1 η1 H1 as1 hC1 hq
    refine cn_after B hC1 ⟨by rw [cnL_map]; simpa using hq.1, fun k a ha => ?_⟩
    rw [cnL_map] at ha
    simp only [List.getElem?_map, Option.map_eq_some_iff] at ha
    obtain ⟨b, hb, rfl⟩ := ha
    exact cn_rel (hq.2 k b hb)
  unfold retL at h
  split at h
  · simp only [Option.some.injEq, Prod.mk.injEq] at h
    obtain ⟨rfl, rfl⟩ := h
    exact (matL_ok (E.resk f) vs hC g r).b.trans fun I1 η1 hC1 hq => fin hC1 hq
  · split at h
    · rename_i as1 H1 hp
      simp only [Option.some.injEq, Prod.mk.injEq] at h
      obtain ⟨rfl, rfl⟩ := h
      exact (prep_ok hC g hp r).b.trans fun I1 η1 hC1 hq => fin hC1 ⟨by rw [canLs_len]; exact hq.1, canLs_ok _ _ g hq.2⟩
    · cases h
theorem retE_ok {f : FuncId} {B : Nat} (hC : Conc E I η H w) {r0 r : AV} {v : Value} {H' : Hp} (h : retE E f B H r0 = some (r, H')) (rv : RelA I η H r0 v) : AfterB E B I η H w H' w fun I' η' => RelA I' η' H' r v := by
  have single : ∀ a, ret1 (retL E f B H [a]) = some (r, H') → RelA I η H a v → AfterB E B I η H w H' w fun I' η' => RelA I' η' H' r v := by
    intro a h ra
    unfold ret1 at h
    split at h
    · rename_i a1 H1 hr
      simp only [Option.some.injEq, Prod.mk.injEq] at h
      obtain ⟨rfl, rfl⟩ := h
      obtain ⟨I1, η1, k1, k2, k3, k4⟩ := retL_ok hC hr (fun _ => v) (fun k b hb => by
        cases k with
        | zero => simp at hb; subst hb; exact ra
        | succ k => simp at hb)
      exact ⟨I1, η1, k1, k2, k3, k4.2 0 _ rfl⟩
    · cases h
  cases r0 with
  | tup vs =>
    simp only [retE, retN] at h
    split at h
    · rename_i as H1 hr
      simp only [Option.some.injEq, Prod.mk.injEq] at h
      obtain ⟨rfl, rfl⟩ := h
      cases rv with
      | tup _ xs hl hx =>
        obtain ⟨I1, η1, k1, k2, k3, k4⟩ := retL_ok hC hr (fun k => xs.getD k undef) hx
        exact ⟨I1, η1, k1, k2, k3, .tup _ _ (by rw [k4.1]; exact hl) k4.2⟩
    · cases h
  | dead => exact single _ h rv
  | i => exact single _ h rv
  | agg => exact single _ h rv
  | ref => exact single _ h rv
  | ptr => exact single _ h rv
  | clo => exact single _ h rv

def ExecOK (E : Env) (n : Nat) : Prop := ∀ B f c fr H ex fr' H', exec E n B f c fr H = some (ex, fr', H') → ∀ I η w a Q, codeOk E f a.tmps.size c = true → E.P.follows .mixedOrders = true → Conc E I η H w → FrOK I η H fr a.tmps →
  (∀ a' w', a'.defers = a.defers → a'.tmps.size = a.tmps.size → AfterB E B I η H w H' w' (fun I' η' => FrOK I' η' H' fr' a'.tmps) → Q (exOf ex) a' w') → c.wp E.P Q a w
def LoopOK (E : Env) (n : Nat) : Prop := ∀ B f c fr H ex fr' H', exec E n B f (.loop c) fr H = some (ex, fr', H') → ∀ I η w a Q, codeOk E f a.tmps.size c = true → E.P.follows .mixedOrders = true → Conc E I η H w → FrOK I η H fr a.tmps →
  (∀ a' w', a'.defers = a.defers → a'.tmps.size = a.tmps.size → AfterB E B I η H w H' w' (fun I' η' => FrOK I' η' H' fr' a'.tmps) → Q (exOf ex) a' w') → Code.rounds E.P c Q n a w

theorem loadVar_ok (hC : Conc E I η H w) {p : AV} {y : Value} (h : RelA I η H p y) {t : TypeId} {v : AV} (hl : loadE E H t p = some v) :
    ∃ b x, y = .pointer (some b) ∧ (loadVar t b).run E.P w = .ok x w ∧ RelA I η H v x := by
  obtain ⟨x, h1, h2⟩ := load_ok hC h hl
  have hp : ∃ b, y = .pointer (some b) := by
    unfold loadE at hl
    split at hl
    · rename_i cells k n hb _ _
      obtain ⟨b, base, rfl, _⟩ := behind_ok hC h hb; exact ⟨_, rfl⟩
    · rename_i cells k n hb _ _
      obtain ⟨b, base, rfl, _⟩ := behind_ok hC h hb; exact ⟨_, rfl⟩
    · cases hl
  obtain ⟨b, rfl⟩ := hp
  exact ⟨b, x, rfl, by simpa [Instr.loadAt, Instr.sureAddr] using h1, h2⟩

def resS (tmps : Array Value) : ResultVar → Sem Value
  | .tmp t => pure (tmps.getD t undef)
  | .cell a t => do loadVar t (← asAddr (tmps.getD a undef))
theorem res_ok (hC : Conc E I η H w) {fr : Fr} {tmps : Array Value} (hf : FrOK I η H fr tmps) : ∀ (l : List ResultVar) (as : List AV), resEs E fr H l = some as →
    ∃ xs : List Value, (l.mapM (resS tmps)).run E.P w = .ok xs w ∧ xs.length = as.length ∧ ∀ (k : Nat) (a : AV), as[k]? = some a → RelA I η H a (xs.toArray.getD k undef)
  | [], as, h => by
    simp only [resEs, Option.some.injEq] at h; subst h
    exact ⟨[], by simp, rfl, fun k a h => by simp at h⟩
  | r :: l, as, h => by
    simp only [resEs] at h
    split at h
    · rename_i a0 as0 h1 h2
      simp only [Option.some.injEq] at h; subst h
      obtain ⟨xs, e1, e2, e3⟩ := res_ok hC hf l as0 h2
      have h0 : ∃ x, (resS tmps r).run E.P w = .ok x w ∧ RelA I η H a0 x := by
        cases r with
        | tmp t =>
          simp only [resE1, Option.some.injEq] at h1; subst h1
          exact ⟨_, rfl, hf t⟩
        | cell a t =>
          simp only [resE1] at h1
          obtain ⟨b, x, k1, k2, k3⟩ := loadVar_ok hC (hf a) h1
          refine ⟨x, ?_, k3⟩
          simp only [resS, k1, asAddr, Sem.run_bind, Sem.run_pure, Result.andThen_ok, k2]
      obtain ⟨x, hx, rx⟩ := h0
      refine ⟨x :: xs, ?_, by simp [e2], fun k a h => ?_⟩
      · rw [List.mapM_cons, Sem.run_bind, hx]
        simp only [Result.andThen_ok, Sem.run_bind, e1, Sem.run_pure]
      · cases k with
        | zero => simp at h; subst h; simpa using rx
        | succ k => simpa using e3 k a (by simpa using h)
    · cases h

theorem results_ok (hC : Conc E I η H w) {fr : Fr} {tmps : Array Value} (hf : FrOK I η H fr tmps) {fn : Func} {r : AV} (h : resE E fr H fn.results.toList = some r) :
    ∃ v, (results fn tmps).run E.P w = .ok v w ∧ RelA I η H r v := by
  unfold resE at h
  have key : ∀ as, resEs E fr H fn.results.toList = some as → ∃ xs : List Value, (results fn tmps).run E.P w = .ok (if h : xs.toArray.size = 1 then xs.toArray[0] else .tuple xs.toArray) w ∧ xs.length = as.length ∧ ∀ (k : Nat) (a : AV), as[k]? = some a → RelA I η H a (xs.toArray.getD k undef) := by
    intro as has
    obtain ⟨xs, e1, e2, e3⟩ := res_ok hC hf _ as has
    refine ⟨xs, ?_, e2, e3⟩
    unfold results
    rw [Sem.run_bind, Array.mapM_eq_mapM_toList, map_eq_pure_bind, Sem.run_bind]
    change ((Sem.run E.P (List.mapM (resS tmps) fn.results.toList) w).andThen _).andThen _ = _
    rw [e1]
    rfl
  split at h
  · rename_i a has
    obtain rfl := Option.some.inj h
    obtain ⟨xs, e1, e2, e3⟩ := key _ has
    refine ⟨_, e1, ?_⟩
    have hx : xs.toArray.size = 1 := by simpa using e2
    rw [dif_pos hx]
    have := e3 0 _ rfl
    simpa [Array.getD_eq_getD_getElem?, hx] using this
  · rename_i as hne has
    cases h
    obtain ⟨xs, e1, e2, e3⟩ := key _ has
    refine ⟨_, e1, ?_⟩
    have hx : ¬ xs.toArray.size = 1 := fun h1 => by
      simp only [List.size_toArray] at h1
      rw [e2] at h1
      obtain ⟨a, rfl⟩ := List.length_eq_one_iff.1 h1
      exact hne a rfl
    rw [dif_neg hx]
    exact .tup _ _ (by simpa using e2) e3
  · cases h

theorem frameOf_get : ∀ (l : List AV) (j k : Nat), get (j + k) (frameOf j l) = (l[k]?).getD .dead
  | [], j, k => by simp [frameOf, get]
  | a :: l, j, 0 => by simp [frameOf, get]
  | a :: l, j, k + 1 => by
    have := frameOf_get l (j + 1) k
    rw [show j + (k + 1) = j + 1 + k by omega]
    simp only [frameOf, get, show ¬ j + 1 + k = j by omega, if_false]
    rw [this]; simp

theorem callLoc_ok {n : Nat} (hex : ExecOK E n) : CallOK E (callLoc E (exec E n)) := by
  intro f args H r H' h I η w vs hC hA
  unfold callLoc at h
  split at h
  · rename_i fn hfn
    split at h
    · rename_i c hc
      split at h
      · rename_i hok
        obtain ⟨hfo, hlen⟩ := hok
        unfold fnOk at hfo
        rw [hfn] at hfo
        simp only [hc, Bool.and_eq_true] at hfo
        split at h
        · cases h
        · rename_i ex fr H1 hne hx
          split at h
          · rename_i r' hr
            refine calls_of_wp hfn hc ?_
            have hsz : (vs ++ Array.replicate (fn.ntmps - vs.size) undef).size = fn.ntmps := by
              have := hA.1; simp; omega
            refine hex H.length f c _ H ex fr H1 hx I η w _ _ (by rw [hsz]; exact hfo.1) hfo.2 hC (fun k => ?_) fun a' w' hdef hs hAf => ?_
            · have := frameOf_get args 0 k
              simp only [Nat.zero_add] at this
              rw [this]
              cases hk : args[k]? with
              | none => exact .dead _
              | some b =>
                have h1 := hA.2 k b hk
                have hkl := (List.getElem?_eq_some_iff.1 hk).1
                have : (vs ++ Array.replicate (fn.ntmps - vs.size) undef).getD k undef = vs.getD k undef := by
                  rw [Array.getD_eq_getD_getElem?, Array.getElem?_append_left (by rw [hA.1]; exact hkl), ← Array.getD_eq_getD_getElem?]
                rw [this]; exact h1
            · obtain ⟨I2, η2, k1, k2, k3, k4⟩ := hAf
              obtain ⟨v, hv, rv⟩ := results_ok k1 k4 hr
              obtain ⟨I3, η3, j1, j2, j3, j4⟩ := retE_ok k1 (B := H.length) h rv
              have hfin : a'.defers = [] ∧ ∃ v, (results fn a'.tmps).run E.P w' = .ok v w' ∧ ∃ x, Ending.returned v = .returned x ∧ After E I η H w H' w' fun I' η' => RelA I' η' H' r x :=
                ⟨hdef, v, hv, v, rfl, I3, η3, j1, k2.trans j2, fun a v r => j3 a v (rel_refs r) (k3 a v (rel_refs r) r), j4⟩
              cases ex with
              | normal => exact hfin
              | ret => exact hfin
              | exit id => exact (hne id rfl).elim
          · cases h
        · cases h
      · cases h
    · cases h
  · cases h

theorem exec_ok (hext : ExtOK E) : ∀ n, ExecOK E n ∧ LoopOK E n := by
  intro n
  induction n with
  | zero => exact ⟨fun B f c fr H ex fr' H' h => by simp [exec] at h, fun B f c fr H ex fr' H' h => by simp [exec] at h⟩
  | succ n ih =>
    obtain ⟨ihE, ihL⟩ := ih
    have hcl : CallOK E (callIso E (callLoc E (exec E n))) := iso_ok (callLoc_ok ihE) hext
    have loop : LoopOK E (n + 1) := by
      intro B f c fr H ex fr' H' h I η w a Q hco hm hC hf hQ
      rw [rounds_succ]
      simp only [exec] at h
      obtain ⟨I1, η1, C1, T1, M1, F1⟩ := hd_ok B (f := f) (id := (firstRegion c).getD 0) hC hf
      split at h
      · rename_i fr1 H1 h1
        refine ihE B f c _ _ _ fr1 H1 h1 I1 η1 w a _ hco hm C1 F1 fun a' w' hdef hs hA => ?_
        obtain ⟨I2, η2, k1, k2, k3, k4⟩ := hA
        refine ihL B f c fr1 H1 ex fr' H' h I2 η2 w' a' Q (by rw [hs]; exact hco) hm k1 k4 fun a'' w'' hdef' hs' hA' => ?_
        obtain ⟨I3, η3, j1, j2, j3, j4⟩ := hA'
        exact hQ a'' w'' (hdef'.trans hdef) (hs'.trans hs) ⟨I3, η3, j1, T1.trans (k2.trans j2), M1.trans (k3.trans j3), j4⟩
      · rename_i hne
        refine ihE B f c _ _ ex fr' H' h I1 η1 w a _ hco hm C1 F1 fun a' w' hdef hs hA => ?_
        obtain ⟨I2, η2, k1, k2, k3, k4⟩ := hA
        have := hQ a' w' hdef hs ⟨I2, η2, k1, T1.trans k2, M1.trans k3, k4⟩
        cases ex with
        | normal => exact absurd h (hne _ _)
        | exit id => exact this
        | ret => exact this
    refine ⟨?_, loop⟩
    intro B f c fr H ex fr' H' h I η w a Q hco hm hC hf hQ
    cases c with
    | skip =>
      simp only [exec, Option.some.injEq, Prod.mk.injEq] at h
      obtain ⟨rfl, rfl, rfl⟩ := h
      exact wp_skip (hQ a w rfl rfl (After.refl hC hf).b)
    | label l =>
      simp only [exec, Option.some.injEq, Prod.mk.injEq] at h
      obtain ⟨rfl, rfl, rfl⟩ := h
      exact wp_label (hQ a w rfl rfl (After.refl hC hf).b)
    | ret =>
      simp only [exec, Option.some.injEq, Prod.mk.injEq] at h
      obtain ⟨rfl, rfl, rfl⟩ := h
      exact wp_ret (hQ a w rfl rfl (After.refl hC hf).b)
    | exit id =>
      simp only [exec, Option.some.injEq, Prod.mk.injEq] at h
      obtain ⟨rfl, rfl, rfl⟩ := h
      exact wp_exit (hQ a w rfl rfl (After.refl hC hf).b)
    | region id ops draw =>
      simp only [codeOk, Bool.and_eq_true, Bool.or_eq_true, Bool.not_eq_true'] at hco
      have hdst : DstOK a.tmps.size ops.toList := by
        intro o ho d hd
        have := (List.all_eq_true.1 hco.1) o ho
        rw [hd] at this; simpa using this
      cases draw with
      | false =>
        simp only [exec] at h
        split at h
        · rename_i fr1 H1 h1
          simp only [Option.some.injEq, Prod.mk.injEq] at h
          obtain ⟨rfl, rfl, rfl⟩ := h
          refine wp_region_list (evOps_ok hcl ops.toList h1 hC hf hdst fun a' w' hdef hs hA => hQ a' w' hdef hs (hA.imp fun I' η' _ _ h => h.normed _).b)
        · cases h
      | true =>
        simp only [exec] at h
        cases hhol : E.hol f id with
        | true =>
          rw [hhol] at h hco
          simp only at h hco
          split at h
          · rename_i fr1 H1 tr h1
            split at h
            · rename_i hk
              simp only [Option.some.injEq, Prod.mk.injEq] at h
              obtain ⟨rfl, rfl, rfl⟩ := h
              have hd := hco.2.resolve_left (by simp)
              simp only [Bool.and_eq_true] at hd
              refine draw_okD hcl h1 hk hd.1 hd.2 hm hC hf hdst fun a' w' fr3 he hdef hs hA => hQ a' w' hdef hs (hA.imp fun I' η' _ _ h => (frOK_eq he h).normed _).b
            · cases h
          · cases h
        | false =>
        rw [hhol] at h hco
        simp only at h hco
        split at h
        · rename_i fr1 H1 tr h1
          split at h
          · rename_i hk
            simp only [Option.some.injEq, Prod.mk.injEq] at h
            obtain ⟨rfl, rfl, rfl⟩ := h
            have hd := hco.2.resolve_left (by simp)
            simp only [Bool.and_eq_true] at hd
            refine draw_ok hcl h1 hk hd.1 hd.2 hm hC hf hdst fun a' w' fr3 he hdef hs hA => hQ a' w' hdef hs (hA.imp fun I' η' _ _ h => (frOK_eq he h).normed _).b
          · cases h
        · cases h
    | seq x y =>
      simp only [codeOk, Bool.and_eq_true] at hco
      simp only [exec] at h
      refine wp_seq ?_
      split at h
      · rename_i fr1 H1 h1
        refine ihE B f x _ H _ fr1 H1 h1 I η w a _ hco.1 hm hC hf fun a' w' hdef hs hA => ?_
        obtain ⟨I2, η2, k1, k2, k3, k4⟩ := hA
        refine ihE B f y fr1 H1 ex fr' H' h I2 η2 w' a' Q (by rw [hs]; exact hco.2) hm k1 k4 fun a'' w'' hdef' hs' hA' => ?_
        obtain ⟨I3, η3, j1, j2, j3, j4⟩ := hA'
        exact hQ a'' w'' (hdef'.trans hdef) (hs'.trans hs) ⟨I3, η3, j1, k2.trans j2, k3.trans j3, j4⟩
      · rename_i hne
        refine ihE B f x _ H ex fr' H' h I η w a _ hco.1 hm hC hf fun a' w' hdef hs hA => ?_
        have := hQ a' w' hdef hs hA
        cases ex with
        | normal => exact absurd h (hne _ _)
        | exit id => exact this
        | ret => exact this
    | cond c x y =>
      simp only [codeOk, Bool.and_eq_true] at hco
      simp only [exec] at h
      split at h
      · rename_i hb
        exact wp_cond_true (opd_bool hC hf hb) (ihE B f x fr H ex fr' H' h I η w a Q hco.1 hm hC hf hQ)
      · rename_i hb
        exact wp_cond_false (opd_bool hC hf hb) (ihE B f y fr H ex fr' H' h I η w a Q hco.2 hm hC hf hQ)
      · cases h
    | block id c =>
      simp only [codeOk] at hco
      simp only [exec] at h
      refine wp_block ?_
      split at h
      · rename_i j fr1 H1 h1
        refine ihE B f c fr H _ fr1 H1 h1 I η w a _ hco hm hC hf fun a' w' hdef hs hA => ?_
        show Exit.inBlock id Q (.exit j) a' w'
        unfold Exit.inBlock
        split at h
        · rename_i hj
          simp only [Option.some.injEq, Prod.mk.injEq] at h
          obtain ⟨rfl, rfl, rfl⟩ := h
          simp only [hj, if_true]
          exact hQ a' w' hdef hs hA
        · rename_i hj
          simp only [Option.some.injEq, Prod.mk.injEq] at h
          obtain ⟨rfl, rfl, rfl⟩ := h
          simp only [hj, if_false]
          exact hQ a' w' hdef hs hA
      · rename_i hne
        refine ihE B f c fr H ex fr' H' h I η w a _ hco hm hC hf fun a' w' hdef hs hA => ?_
        have := hQ a' w' hdef hs hA
        cases ex with
        | normal => exact this
        | exit id => exact absurd h (hne _ _ _)
        | ret => exact this
    | loop c =>
      simp only [codeOk] at hco
      exact wp_loop_rounds _ (loop B f c fr H ex fr' H' h I η w a Q hco hm hC hf hQ)
    | scope c =>
      simp only [codeOk] at hco
      simp only [exec] at h
      refine wp_scope_straight (ihE B f c fr H ex fr' H' h I η w a _ hco hm hC hf fun a' w' hdef hs hA => ?_)
      have := hQ a' w' hdef hs hA
      cases ex <;> exact this
    | _ => simp [exec] at h

theorem call_ok (hext : ExtOK E) (n : Nat) : CallOK E (call E n) := callLoc_ok (exec_ok hext n).1
end
end Go.VI
