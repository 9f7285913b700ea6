/- VI, part 14: regions that draw their order. -/
import Derived.Test.YtcifhkdbaienjaaVI13
set_option linter.unusedSimpArgs false
set_option linter.unusedVariables false
namespace Go.VI
section
variable {E : Env} {cl : CallF} {ops : Array Oper}

/-- two frames that no operation tells apart -/
def FrEq (fr fr' : Fr) : Prop := ∀ k, get k fr = get k fr'
theorem FrEq.refl (fr : Fr) : FrEq fr fr := fun _ => rfl
theorem FrEq.trans {a b c : Fr} (h : FrEq a b) (k : FrEq b c) : FrEq a c := fun i => (h i).trans (k i)
theorem FrEq.put {fr fr' : Fr} (h : FrEq fr fr') (d : Option Nat) (v : AV) : FrEq (putD d v fr) (putD d v fr') := by
  cases d with
  | none => exact h
  | some d => intro k; simp only [putD, get]; split <;> first | rfl | exact h k
theorem FrEq.swap (fr : Fr) {d e : Option Nat} (h : ∀ k, d = some k → e ≠ some k) (v u : AV) : FrEq (putD d v (putD e u fr)) (putD e u (putD d v fr)) := by
  cases d with
  | none => exact .refl _
  | some d =>
    cases e with
    | none => exact .refl _
    | some e =>
      have hne : e ≠ d := fun x => h d rfl (by rw [x])
      intro k
      simp only [putD, get]
      by_cases h1 : k = d
      · subst h1; simp [Ne.symm hne]
      · simp [h1]
theorem opd_eq {fr fr' : Fr} (h : FrEq fr fr') (x : Operand) : opd E fr x = opd E fr' x := by
  cases x <;> simp only [opd]
  exact h _
theorem opd_put {fr : Fr} {d : Option Nat} {v : AV} {x : Operand} (h : ∀ k, d = some k → x ≠ .tmp k) : opd E (putD d v fr) x = opd E fr x := by
  cases d with
  | none => rfl
  | some d =>
    cases x with
    | tmp t =>
      have : t ≠ d := fun e => h d rfl (by rw [e])
      simp [opd, putD, get, this]
    | _ => rfl
theorem guard_eq {fr fr' : Fr} (h : FrEq fr fr') (o : Oper) : guardE ops.toList fr o = guardE ops.toList fr' o := by
  unfold guardE
  split
  · rfl
  · split
    · rw [h _]
    · rfl
theorem guard_put {fr : Fr} {o : Oper} {d : Option Nat} {v : AV} (h : ∀ k, d = some k → k ∉ o.looksAt ops) : guardE ops.toList (putD d v fr) o = guardE ops.toList fr o := by
  cases d with
  | none => rfl
  | some d =>
    unfold guardE
    split
    · rfl
    · rename_i j want hg
      split
      · rename_i t ht
        have : t ≠ d := fun e => h d rfl (by
          subst e
          simp only [Array.getElem?_toList] at ht
          simp [Oper.looksAt, hg, ht])
        simp [putD, get, this]
      · rfl
theorem agree_put {fr : Fr} {o : Oper} {d : Option Nat} {v : AV} (h : ∀ k, d = some k → k ∉ o.looksAt ops) : Agree E (putD d v fr) fr o.op := fun x hx =>
  opd_put fun k hk e => h k hk (by
    subst e
    simp only [Oper.looksAt, List.mem_append, List.mem_filterMap]
    exact .inl ⟨.tmp k, by simpa using hx, rfl⟩)

/-- one operation's value, heap, and what it touched -/
def val1 (E : Env) (cl : CallF) (ops : Array Oper) (o : Oper) (fr : Fr) (H : Hp) : Option (AV × Hp × List Nat) :=
  match guardE ops.toList fr o with
  | some true => match evOp E cl o.op fr H with
    | some (v, H') => some (v, H', touch E fr H o.op ++ List.range' H.length (H'.length - H.length))
    | none => none
  | some false => some (.tup [], H, [])
  | none => none
theorem stp_val {o : Oper} {fr : Fr} {H : Hp} : stp E cl ops.toList o fr H = (val1 E cl ops o fr H).map fun x => (putD o.dst x.1 fr, x.2.1, x.2.2) := by
  unfold stp val1
  cases guardE ops.toList fr o with
  | none => rfl
  | some b =>
    cases b with
    | false => rfl
    | true => cases evOp E cl o.op fr H <;> rfl
theorem val_eq {fr fr' : Fr} (h : FrEq fr fr') (o : Oper) (H : Hp) : val1 E cl ops o fr H = val1 E cl ops o fr' H := by
  unfold val1
  have ha : Agree E fr fr' o.op := fun x _ => opd_eq h x
  rw [guard_eq h, evOp_agree ha, touch_agree ha]
theorem val_put {fr : Fr} {o : Oper} {d : Option Nat} {v : AV} {H : Hp} (h : ∀ k, d = some k → k ∉ o.looksAt ops) : val1 E cl ops o (putD d v fr) H = val1 E cl ops o fr H := by
  unfold val1
  rw [guard_put h, evOp_agree (agree_put h), touch_agree (agree_put h)]

theorem apartT_spec {a b : List Nat} (h : apartT a b = true) {c : Nat} (ha : c ∈ a) : c ∉ b := by
  simp only [apartT, List.all_eq_true] at h
  have := h c ha
  simpa using this
/-- a light operation on two heaps that are one where it reads -/
theorem light_val {o : Oper} {fr : Fr} {H H' : Hp} (hl : heavy E o.op = false) (h : readsH o.op = true → ∀ c ∈ touch E fr H o.op, H'[c]? = H[c]?) {v : AV} {H1 : Hp} {T : List Nat}
    (hv : val1 E cl ops o fr H = some (v, H1, T)) : H1 = H ∧ val1 E cl ops o fr H' = some (v, H', T) := by
  unfold val1 at hv ⊢
  split at hv
  · rename_i hg
    split at hv
    · rename_i v' H'' hev
      simp only [Option.some.injEq, Prod.mk.injEq] at hv
      obtain ⟨rfl, rfl, rfl⟩ := hv
      unfold evOp at hev ⊢
      split at hev
      · rename_i f args tys ho
        rw [ho] at hl; simp [heavy] at hl
      · rename_i hno
        rw [hl] at hev
        simp only [Bool.false_eq_true, if_false, Option.map_eq_some_iff, Prod.mk.injEq] at hev
        obtain ⟨u, hu, rfl, rfl⟩ := hev
        refine ⟨rfl, ?_⟩
        have ht : touch E fr H' o.op = touch E fr H o.op := by
          generalize o.op = op at hl hno
          cases op <;> (try rfl)
          rename_i c
          obtain ⟨callee, args, tys⟩ := c
          cases callee with
          | value f => exact absurd rfl (hno f args tys)
          | _ => rfl
        simp only [hl, Bool.false_eq_true, if_false, evL_heap h, hu, Option.map_some, ht, Nat.sub_self, List.range'_zero]
    · cases hv
  · rename_i hg
    simp only [Option.some.injEq, Prod.mk.injEq] at hv
    obtain ⟨rfl, rfl, rfl⟩ := hv
    exact ⟨rfl, rfl⟩
  · cases hv

/-- what two unbound operations owe each other -/
structure Compat (E : Env) (ops : Array Oper) (x y : Oper) (Tx Ty : List Nat) : Prop where
  apart : x.apart ops y = true
  light : ¬ (heavy E x.op = true ∧ heavy E y.op = true)
  float : (heavy E x.op = true ∧ readsH y.op = true) ∨ (heavy E y.op = true ∧ readsH x.op = true) → apartT Tx Ty = true ∧ apartT Ty Tx = true

theorem val_leaves {o : Oper} {fr : Fr} {H H' : Hp} {v : AV} {T : List Nat} (h : val1 E cl ops o fr H = some (v, H', T)) : H.length ≤ H'.length ∧ ∀ c, c ∉ T → H'[c]? = H[c]? := by
  unfold val1 at h
  split at h
  · split at h
    · rename_i v' H'' hev
      simp only [Option.some.injEq, Prod.mk.injEq] at h
      obtain ⟨rfl, rfl, rfl⟩ := h
      have hl := evOp_leaves hev
      refine ⟨hl.1, fun c hc => ?_⟩
      simp only [List.mem_append, List.mem_range', not_or] at hc
      by_cases h1 : c < H.length
      · exact hl.2 c h1 hc.1
      · have h2 : H''.length ≤ c := by
          have := hl.1
          refine Nat.le_of_not_lt fun h3 => hc.2 ⟨c - H.length, by omega, by omega⟩
        rw [List.getElem?_eq_none h2, List.getElem?_eq_none (by omega)]
    · cases h
  · simp only [Option.some.injEq, Prod.mk.injEq] at h
    obtain ⟨rfl, rfl, rfl⟩ := h
    exact ⟨Nat.le_refl _, fun _ _ => rfl⟩
  · cases h
theorem touch_sub {o : Oper} {fr : Fr} {H H' : Hp} {v : AV} {T : List Nat} (h : val1 E cl ops o fr H = some (v, H', T)) (hg : guardE ops.toList fr o = some true) : ∀ c ∈ touch E fr H o.op, c ∈ T := by
  unfold val1 at h
  rw [hg] at h
  simp only at h
  split at h
  · simp only [Option.some.injEq, Prod.mk.injEq] at h
    obtain ⟨_, _, rfl⟩ := h
    intro c hc; simp [hc]
  · cases h

/-- an operation that is not wanted does nothing on any heap -/
theorem skip_val {o : Oper} {fr : Fr} {H H' : Hp} (hg : guardE ops.toList fr o = some false) : val1 E cl ops o fr H' = some (.tup [], H', []) := by
  unfold val1; rw [hg]

/-- two neighbours change places -/
theorem swap {x y : Oper} {fr : Fr} {H H1 H2 : Hp} {vx vy : AV} {Tx Ty : List Nat} (hx : val1 E cl ops x fr H = some (vx, H1, Tx)) (hy : val1 E cl ops y (putD x.dst vx fr) H1 = some (vy, H2, Ty))
    (hc : Compat E ops x y Tx Ty) : ∃ H1', val1 E cl ops y fr H = some (vy, H1', Ty) ∧ val1 E cl ops x (putD y.dst vy fr) H1' = some (vx, H2, Tx) ∧ FrEq (putD y.dst vy (putD x.dst vx fr)) (putD x.dst vx (putD y.dst vy fr)) := by
  obtain ⟨a1, a2, a3⟩ := Oper.apart_spec hc.apart
  rw [val_put a1] at hy
  have hfr : FrEq (putD y.dst vy (putD x.dst vx fr)) (putD x.dst vx (putD y.dst vy fr)) := FrEq.swap fr (fun k hk e => a2 k e hk) _ _
  -- not wanted: nothing is asked
  cases hgx : guardE ops.toList fr x with
  | none => unfold val1 at hx; rw [hgx] at hx; cases hx
  | some gx =>
  cases hgy : guardE ops.toList fr y with
  | none => unfold val1 at hy; rw [hgy] at hy; cases hy
  | some gy =>
  cases gx with
  | false =>
    rw [skip_val hgx] at hx
    · simp only [Option.some.injEq, Prod.mk.injEq] at hx
      obtain ⟨rfl, rfl, rfl⟩ := hx
      exact ⟨H2, hy, by rw [val_put a3]; exact skip_val hgx (H := H), hfr⟩
    · exact H
  | true =>
  cases gy with
  | false =>
    rw [skip_val hgy] at hy
    · simp only [Option.some.injEq, Prod.mk.injEq] at hy
      obtain ⟨rfl, rfl, rfl⟩ := hy
      exact ⟨H, skip_val hgy (H := H), by rw [val_put a3]; exact hx, hfr⟩
    · exact H
  | true =>
  by_cases hhx : heavy E x.op = true
  · have hhy : heavy E y.op = false := by
      cases h : heavy E y.op with
      | false => rfl
      | true => exact absurd ⟨hhx, h⟩ hc.light
    -- y reads nothing that x changes
    have hlx := val_leaves hx
    have hty : touch E fr H1 y.op = touch E fr H y.op := by
      generalize hop : y.op = op at hhy
      cases op <;> (try rfl)
      rename_i c
      obtain ⟨callee, args, tys⟩ := c
      cases callee with
      | value f => simp [heavy] at hhy
      | _ => rfl
    have hsub := touch_sub hy hgy
    have key : readsH y.op = true → ∀ c ∈ touch E fr H1 y.op, H[c]? = H1[c]? := by
      intro hr c hcc
      have hT := (hc.float (.inl ⟨hhx, hr⟩)).2
      have := apartT_spec hT (hsub c hcc)
      exact (hlx.2 c this).symm
    obtain ⟨rfl, hy'⟩ := light_val hhy key hy
    exact ⟨H, hy', by rw [val_put a3]; exact hx, hfr⟩
  · have hhx' : heavy E x.op = false := by simpa using hhx
    have key0 : readsH x.op = true → ∀ c ∈ touch E fr H x.op, H[c]? = H[c]? := fun _ _ _ => rfl
    obtain ⟨rfl, _⟩ := light_val (H' := H) hhx' key0 hx
    have hly := val_leaves hy
    have hsub := touch_sub hx hgx
    by_cases hhy : heavy E y.op = true
    · have key : readsH x.op = true → ∀ c ∈ touch E fr H1 x.op, H2[c]? = H1[c]? := by
        intro hr c hcc
        have hT := (hc.float (.inr ⟨hhy, hr⟩)).1
        exact hly.2 c (apartT_spec hT (hsub c hcc))
      obtain ⟨_, hx'⟩ := light_val hhx' key hx
      exact ⟨H2, hy, by rw [val_put a3]; exact hx', hfr⟩
    · have hhy' : heavy E y.op = false := by simpa using hhy
      obtain ⟨rfl, _⟩ := light_val (H' := H1) hhy' (fun _ _ _ => rfl) hy
      exact ⟨H2, hy, by rw [val_put a3]; exact hx, hfr⟩
end
end Go.VI
