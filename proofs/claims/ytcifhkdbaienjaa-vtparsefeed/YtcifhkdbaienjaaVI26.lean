/- VI, part 26: whatever order such a region draws, it comes to what the text's order comes to. -/
import Derived.Test.YtcifhkdbaienjaaVI25
set_option linter.unusedSimpArgs false
set_option linter.unusedVariables false
namespace Go.VI
section
variable {E : Env} {cl : CallF} {ops : Array Oper}

def val1D (E : Env) (cl : CallF) (ops : Array Oper) (c : Nat) (o : Oper) (fr : Fr) (H : Hp) : Option (AV × Hp × List Nat) :=
  match guardE ops.toList fr o with
  | some true => match evOpD E cl c o.op fr H with
    | some (v, H') => some (v, H', touchD E c fr H o.op ++ List.range' H.length (H'.length - H.length))
    | none => none
  | some false => some (.tup [], H, [])
  | none => none
theorem evD_cons {c : Nat} {o : Oper} {r : List Oper} {fr : Fr} {H : Hp} : evD E cl ops.toList c (o :: r) fr H = match val1D E cl ops c o fr H with
    | some (v, H', T) => match evD E cl ops.toList (stepC c o.op) r (putD o.dst v fr) H' with
      | some (fr2, H2, ts) => some (fr2, H2, T :: ts)
      | none => none
    | none => none := by
  simp only [evD, val1D]
  cases guardE ops.toList fr o with
  | none => rfl
  | some b =>
    cases b with
    | false => rfl
    | true => cases evOpD E cl c o.op fr H <;> rfl
theorem evOpD_agree {c : Nat} {fr fr' : Fr} {H : Hp} {op : Op} (h : Agree E fr fr' op) : evOpD E cl c op fr H = evOpD E cl c op fr' H := by
  unfold evOpD; rw [evH_agree h, evOp_agree h]
theorem touchD_agree {c : Nat} {fr fr' : Fr} {H : Hp} {op : Op} (h : Agree E fr fr' op) : touchD E c fr H op = touchD E c fr' H op := by
  unfold touchD; rw [touch_agree h]
theorem val_eqD {c : Nat} {fr fr' : Fr} (h : FrEq fr fr') (o : Oper) (H : Hp) : val1D E cl ops c o fr H = val1D E cl ops c o fr' H := by
  unfold val1D
  have ha : Agree E fr fr' o.op := fun x _ => opd_eq h x
  rw [guard_eq h, evOpD_agree ha, touchD_agree ha]
theorem val_putD {c : Nat} {fr : Fr} {o : Oper} {d : Option Nat} {v : AV} {H : Hp} (h : ∀ k, d = some k → k ∉ o.looksAt ops) : val1D E cl ops c o (putD d v fr) H = val1D E cl ops c o fr H := by
  unfold val1D
  rw [guard_put h, evOpD_agree (agree_put h), touchD_agree (agree_put h)]
theorem skip_valD {c : Nat} {o : Oper} {fr : Fr} {H' : Hp} (hg : guardE ops.toList fr o = some false) : val1D E cl ops c o fr H' = some (.tup [], H', []) := by
  unfold val1D; rw [hg]
theorem valD_old {c : Nat} {o : Oper} (h : isFresh o.op = false) (fr : Fr) (H : Hp) : val1D E cl ops c o fr H = val1 E cl ops o fr H := by
  unfold val1D val1 evOpD touchD; simp only [h]; rfl
theorem valD_new {c : Nat} {o : Oper} (h : isFresh o.op = true) {fr : Fr} {H : Hp} (hg : guardE ops.toList fr o = some true) {v : AV} {H1 : Hp} {T : List Nat} (hv : val1D E cl ops c o fr H = some (v, H1, T)) :
    ∃ k ch, freshOf (evH E fr [] o.op) = some (k, ch) ∧ H[c]? = some hole ∧ v = mkR c k ∧ H1 = H.set c ch ∧ T = [c] := by
  unfold val1D evOpD touchD at hv
  rw [hg, h] at hv
  simp only at hv
  split at hv
  · rename_i v' H' he
    simp only [Option.some.injEq, Prod.mk.injEq] at hv
    obtain ⟨rfl, rfl, rfl⟩ := hv
    unfold putH at he
    split at he
    · rename_i hh
      split at he
      · rename_i k ch hf
        simp only [Option.some.injEq, Prod.mk.injEq] at he
        obtain ⟨rfl, rfl⟩ := he
        exact ⟨k, ch, hf, hh, rfl, rfl, by simp⟩
      · cases he
    · cases he
  · cases hv
theorem valD_mk {c : Nat} {o : Oper} (h : isFresh o.op = true) {fr : Fr} {H : Hp} (hg : guardE ops.toList fr o = some true) {k : Option Nat} {ch : Chunk} (hf : freshOf (evH E fr [] o.op) = some (k, ch)) (hh : H[c]? = some hole) :
    val1D E cl ops c o fr H = some (mkR c k, H.set c ch, [c]) := by
  unfold val1D evOpD touchD
  rw [hg, h, hh, hf]
  simp [putH, hole]
theorem fresh_heavy {o : Op} (h : isFresh o = true) : heavy E o = true := by
  cases o <;> first | rfl | simp [isFresh] at h

/-- what two unbound operations owe each other -/
structure CompatD (E : Env) (ops : Array Oper) (x y : Oper) (Tx Ty : List Nat) : Prop where
  apart : x.apart ops y = true
  two : heavy E x.op = true → heavy E y.op = true → isFresh x.op = true ∨ isFresh y.op = true
  float : (heavy E x.op = true ∧ (readsH y.op = true ∨ heavy E y.op = true)) ∨ (heavy E y.op = true ∧ (readsH x.op = true ∨ heavy E x.op = true)) → apartT Tx Ty = true ∧ apartT Ty Tx = true

theorem swapD {x y : Oper} {cx cy : Nat} {fr : Fr} {H H1 H2 : Hp} {vx vy : AV} {Tx Ty : List Nat} (hx : val1D E cl ops cx x fr H = some (vx, H1, Tx)) (hy : val1D E cl ops cy y (putD x.dst vx fr) H1 = some (vy, H2, Ty))
    (hc : CompatD E ops x y Tx Ty) : ∃ H1', val1D E cl ops cy y fr H = some (vy, H1', Ty) ∧ val1D E cl ops cx x (putD y.dst vy fr) H1' = some (vx, H2, Tx) ∧ FrEq (putD y.dst vy (putD x.dst vx fr)) (putD x.dst vx (putD y.dst vy fr)) := by
  obtain ⟨a1, a2, a3⟩ := Oper.apart_spec hc.apart
  have hfr : FrEq (putD y.dst vy (putD x.dst vx fr)) (putD x.dst vx (putD y.dst vy fr)) := FrEq.swap fr (fun k hk e => a2 k e hk) _ _
  cases fx : isFresh x.op with
  | false =>
    cases fy : isFresh y.op with
    | false =>
      rw [valD_old fx] at hx
      rw [valD_old fy] at hy
      obtain ⟨H1', h1, h2, h3⟩ := swap hx hy ⟨hc.apart, fun ⟨p, q⟩ => by rcases hc.two p q with e | e <;> simp_all, fun hf => hc.float (by rcases hf with ⟨p, q⟩ | ⟨p, q⟩ <;> simp [p, q])⟩
      exact ⟨H1', by rw [valD_old fy]; exact h1, by rw [valD_old fx]; exact h2, h3⟩
    | true =>
      rw [val_putD a1] at hy
      cases hgx : guardE ops.toList fr x with
      | none => unfold val1D at hx; rw [hgx] at hx; cases hx
      | some gx =>
      cases hgy : guardE ops.toList fr y with
      | none => unfold val1D at hy; rw [hgy] at hy; cases hy
      | some gy =>
      cases gx with
      | false =>
        rw [skip_valD hgx] at hx
        simp only [Option.some.injEq, Prod.mk.injEq] at hx
        obtain ⟨rfl, rfl, rfl⟩ := hx
        exact ⟨H2, hy, by rw [val_putD a3]; exact skip_valD hgx, hfr⟩
      | true =>
      cases gy with
      | false =>
        rw [skip_valD hgy] at hy
        simp only [Option.some.injEq, Prod.mk.injEq] at hy
        obtain ⟨rfl, rfl, rfl⟩ := hy
        exact ⟨H, skip_valD hgy, by rw [val_putD a3]; exact hx, hfr⟩
      | true =>
      obtain ⟨k, ch, f1, f2, rfl, rfl, rfl⟩ := valD_new fy hgy hy
      rw [valD_old fx] at hx
      by_cases hhx : heavy E x.op = true
      · have hT := (hc.float (.inl ⟨hhx, .inr (fresh_heavy fy)⟩)).2
        have hcT : cy ∉ Tx := apartT_spec hT (by simp)
        have hl := val_leaves hx
        have hH : H[cy]? = some hole := by rw [← hl.2 cy hcT]; exact f2
        have hlt : cy < H.length := (List.getElem?_eq_some_iff.1 hH).1
        refine ⟨H.set cy ch, valD_mk fy hgy f1 hH, ?_, hfr⟩
        rw [val_putD a3, valD_old fx]
        unfold val1 at hx ⊢
        rw [hgx] at hx ⊢
        simp only at hx ⊢
        split at hx
        · rename_i v' H' hev
          simp only [Option.some.injEq, Prod.mk.injEq] at hx
          obtain ⟨rfl, rfl, rfl⟩ := hx
          simp only [List.mem_append, not_or] at hcT
          obtain ⟨e1, e2⟩ := evOp_set ch hev hhx fx hcT.1 hlt
          rw [e1]
          simp only [e2, List.length_set]
        · cases hx
      · have hhx' : heavy E x.op = false := by simpa using hhx
        obtain ⟨rfl, _⟩ := light_val (H' := H) hhx' (fun _ _ _ => rfl) hx
        refine ⟨H1.set cy ch, valD_mk fy hgy f1 f2, ?_, hfr⟩
        rw [val_putD a3, valD_old fx]
        refine (light_val (H' := H1.set cy ch) hhx' (fun hr c hcc => ?_) hx).2
        have hT := (hc.float (.inr ⟨fresh_heavy fy, .inl hr⟩)).1
        have : c ∉ [cy] := apartT_spec hT (touch_sub hx hgx c hcc)
        rw [List.getElem?_set_ne]
        rintro rfl; simp at this
  | true =>
    rw [val_putD a1] at hy
    cases hgx : guardE ops.toList fr x with
    | none => unfold val1D at hx; rw [hgx] at hx; cases hx
    | some gx =>
    cases hgy : guardE ops.toList fr y with
    | none => unfold val1D at hy; rw [hgy] at hy; cases hy
    | some gy =>
    cases gx with
    | false =>
      rw [skip_valD hgx] at hx
      simp only [Option.some.injEq, Prod.mk.injEq] at hx
      obtain ⟨rfl, rfl, rfl⟩ := hx
      exact ⟨H2, hy, by rw [val_putD a3]; exact skip_valD hgx, hfr⟩
    | true =>
    cases gy with
    | false =>
      rw [skip_valD hgy] at hy
      simp only [Option.some.injEq, Prod.mk.injEq] at hy
      obtain ⟨rfl, rfl, rfl⟩ := hy
      exact ⟨H, skip_valD hgy, by rw [val_putD a3]; exact hx, hfr⟩
    | true =>
    obtain ⟨kx, chx, f1, f2, rfl, rfl, rfl⟩ := valD_new fx hgx hx
    have hltx : cx < H.length := (List.getElem?_eq_some_iff.1 f2).1
    have back : (H.set cx chx).set cx hole = H := by
      rw [List.set_set]
      obtain ⟨h1, h2⟩ := List.getElem?_eq_some_iff.1 f2
      rw [← h2]; exact List.set_getElem_self h1
    cases fy : isFresh y.op with
    | true =>
      obtain ⟨ky, chy, g1, g2, rfl, rfl, rfl⟩ := valD_new fy hgy hy
      have hT := (hc.float (.inl ⟨fresh_heavy fx, .inr (fresh_heavy fy)⟩)).1
      have hne : cx ∉ [cy] := apartT_spec hT (by simp)
      have hne' : cx ≠ cy := by simpa using hne
      rw [List.getElem?_set_ne hne'] at g2
      refine ⟨H.set cy chy, valD_mk fy hgy g1 g2, ?_, hfr⟩
      rw [val_putD a3, List.set_comm _ _ hne']
      exact valD_mk fx hgx f1 (by rw [List.getElem?_set_ne (Ne.symm hne')]; exact f2)
    | false =>
      rw [valD_old fy] at hy
      by_cases hhy : heavy E y.op = true
      · have hT := (hc.float (.inl ⟨fresh_heavy fx, .inr hhy⟩)).1
        have hcT : cx ∉ Ty := apartT_spec hT (by simp)
        have hl := val_leaves hy
        have h2 : H2[cx]? = some chx := by rw [hl.2 cx hcT, List.getElem?_set_self hltx]
        have hlt2 : cx < H2.length := (List.getElem?_eq_some_iff.1 h2).1
        refine ⟨H2.set cx hole, ?_, ?_, hfr⟩
        · rw [valD_old fy]
          unfold val1 at hy ⊢
          rw [hgy] at hy ⊢
          simp only at hy ⊢
          split at hy
          · rename_i v' H' hev
            simp only [Option.some.injEq, Prod.mk.injEq] at hy
            obtain ⟨rfl, rfl, rfl⟩ := hy
            simp only [List.mem_append, not_or] at hcT
            obtain ⟨e1, e2⟩ := evOp_set hole hev hhy fy hcT.1 (by simpa using hltx)
            rw [back] at e1 e2
            rw [e1]
            simp only [e2, List.length_set]
          · cases hy
        · rw [val_putD a3, valD_mk fx hgx f1 (List.getElem?_set_self hlt2), List.set_set]
          obtain ⟨h3, h4⟩ := List.getElem?_eq_some_iff.1 h2
          rw [← h4, List.set_getElem_self h3]
      · have hhy' : heavy E y.op = false := by simpa using hhy
        have key : readsH y.op = true → ∀ c ∈ touch E fr (H.set cx chx) y.op, H[c]? = (H.set cx chx)[c]? := by
          intro hr c hcc
          have hT := (hc.float (.inl ⟨fresh_heavy fx, .inl hr⟩)).2
          have := apartT_spec hT (touch_sub hy hgy c hcc)
          rw [List.getElem?_set_ne]
          rintro rfl; simp at this
        obtain ⟨rfl, hy'⟩ := light_val hhy' key hy
        exact ⟨H, by rw [valD_old fy]; exact hy', by rw [val_putD a3]; exact valD_mk fx hgx f1 f2, hfr⟩
end

section
variable {E : Env} {cl : CallF} {ops : Array Oper} {tr : Nat → List Nat} {hk : Nat → Nat}

inductive RunD (E : Env) (cl : CallF) (ops : Array Oper) (tr : Nat → List Nat) (hk : Nat → Nat) : List Nat → Fr → Hp → Fr → Hp → Prop
  | nil (fr : Fr) (H : Hp) : RunD E cl ops tr hk [] fr H fr H
  | cons (i : Nat) (l : List Nat) (fr : Fr) (H : Hp) (o : Oper) (v : AV) (H1 : Hp) (fr2 : Fr) (H2 : Hp) (ho : ops[i]? = some o) (hv : val1D E cl ops (hk i) o fr H = some (v, H1, tr i)) (h : RunD E cl ops tr hk l (putD o.dst v fr) H1 fr2 H2) : RunD E cl ops tr hk (i :: l) fr H fr2 H2

theorem run_eqD {l : List Nat} {fr fr' : Fr} {H : Hp} {fr2 : Fr} {H2 : Hp} (h : RunD E cl ops tr hk l fr H fr2 H2) : FrEq fr fr' → ∃ fr2', FrEq fr2 fr2' ∧ RunD E cl ops tr hk l fr' H fr2' H2 := by
  induction h generalizing fr' with
  | nil fr H => exact fun he => ⟨fr', he, .nil _ _⟩
  | cons i l fr H o v H1 fr2 H2 ho hv _ ih =>
    intro he
    obtain ⟨fr2', h1, h2⟩ := ih (he.put o.dst v)
    exact ⟨fr2', h1, .cons i l fr' H o v H1 fr2' H2 ho (by rw [← val_eqD he]; exact hv) h2⟩

def CompatJ (E : Env) (ops : Array Oper) (tr : Nat → List Nat) (j i : Nat) : Prop := ∀ x y, ops[j]? = some x → ops[i]? = some y → CompatD E ops x y (tr j) (tr i)

theorem frontD : ∀ {l1 l2 : List Nat} {i : Nat} {fr : Fr} {H : Hp} {fr2 : Fr} {H2 : Hp}, RunD E cl ops tr hk (l1 ++ i :: l2) fr H fr2 H2 → (∀ j ∈ l1, CompatJ E ops tr j i) →
    ∃ o v H1 fr2', ops[i]? = some o ∧ val1D E cl ops (hk i) o fr H = some (v, H1, tr i) ∧ FrEq fr2 fr2' ∧ RunD E cl ops tr hk (l1 ++ l2) (putD o.dst v fr) H1 fr2' H2
  | [], l2, i, fr, H, fr2, H2, h, _ => by
    cases h with
    | cons _ _ _ _ o v H1 _ _ ho hv h => exact ⟨o, v, H1, fr2, ho, hv, .refl _, h⟩
  | j :: l1, l2, i, fr, H, fr2, H2, h, hc => by
    cases h with
    | cons _ _ _ _ x vx H1 _ _ hx hvx h =>
      obtain ⟨o, v, H3, fr3, ho, hv, he, hr⟩ := frontD h (fun k hk => hc k (by simp [hk]))
      obtain ⟨H4, s1, s2, s3⟩ := swapD hvx hv (hc j (by simp) x o hx ho)
      obtain ⟨fr4, e4, r4⟩ := run_eqD hr s3
      exact ⟨o, v, H4, fr4, ho, s1, he.trans e4, .cons j _ _ _ x vx H3 fr4 H2 hx s2 r4⟩

theorem stepC_add (c : Nat) (o : Op) : stepC c o = c + stepC 0 o := by unfold stepC; cases isFresh o <;> simp
theorem nFresh_cons (o : Oper) (l : List Oper) : nFresh (o :: l) = stepC 0 o.op + nFresh l := by
  have key : ∀ (l : List Oper) (c : Nat), l.foldl (fun c o => stepC c o.op) c = c + nFresh l := by
    intro l
    induction l with
    | nil => intro c; simp [nFresh]
    | cons o l ih =>
      intro c
      simp only [nFresh, List.foldl_cons] at ih ⊢
      rw [ih, ih (stepC 0 o.op), stepC_add c]; omega
  show l.foldl _ _ = _
  exact key l _
theorem run_of_evD : ∀ (l : List Oper) (k c : Nat) (fr : Fr) (H : Hp) (fr2 : Fr) (H2 : Hp) (ts : List (List Nat)), evD E cl ops.toList c l fr H = some (fr2, H2, ts) → (∀ j, l[j]? = ops[k + j]?) → (∀ j, j < l.length → tr (k + j) = ts.getD j []) →
    (∀ j, j < l.length → hk (k + j) = c + nFresh (l.take j)) → RunD E cl ops tr hk (List.range' k l.length) fr H fr2 H2
  | [], k, c, fr, H, fr2, H2, ts, h, _, _, _ => by
    simp only [evD, Option.some.injEq, Prod.mk.injEq] at h
    obtain ⟨rfl, rfl, rfl⟩ := h
    exact .nil _ _
  | o :: l, k, c, fr, H, fr2, H2, ts, h, hl, ht, hh => by
    rw [evD_cons] at h
    split at h
    · rename_i v H1 T hv
      split at h
      · rename_i fr3 H3 ts' hr
        simp only [Option.some.injEq, Prod.mk.injEq] at h
        obtain ⟨rfl, rfl, rfl⟩ := h
        have h0 := hl 0
        simp only [List.getElem?_cons_zero, Nat.add_zero] at h0
        have ht0 := ht 0 (by simp)
        simp only [Nat.add_zero, List.getD_cons_zero] at ht0
        have hh0 := hh 0 (by simp)
        simp only [Nat.add_zero, List.take_zero] at hh0
        rw [List.length_cons, List.range'_succ]
        refine .cons k _ fr H o v _ _ _ h0.symm (by rw [ht0, hh0]; exact hv) ?_
        refine run_of_evD l (k + 1) (stepC c o.op) _ _ _ _ ts' hr (fun j => by have := hl (j + 1); simpa [Nat.add_assoc, Nat.add_comm 1 j] using this) (fun j hj => ?_) (fun j hj => ?_)
        · have := ht (j + 1) (by simpa using hj)
          rw [show k + 1 + j = k + (j + 1) by omega, this]; simp
        · have := hh (j + 1) (by simpa using hj)
          rw [show k + 1 + j = k + (j + 1) by omega, this, List.take_succ_cons, nFresh_cons, stepC_add c]; omega
      · cases h
    · cases h
end

section
variable {E : Env} {I : Imm} {η : Eta} {H : Hp} {w : World}
theorem evOpD_ok {cl : CallF} (hcl : CallOK E (callIso E cl)) {c : Nat} {fr : Fr} {a : Act} {o : Oper} {v : AV} {H' : Hp} (h : evOpD E cl c o.op fr H = some (v, H')) (hC : Conc E I η H w) (hf : FrOK I η H fr a.tmps)
    {K : Act → World → Prop} {Q : Exit → Act → World → Prop} (hK : ∀ x w', After E I η H w H' w' (fun I' η' => RelA I' η' H' v x) → K (a.put o.dst x) w') : o.wp E.P a w K Q := by
  unfold evOpD at h
  cases fo : isFresh o.op with
  | false => rw [fo] at h; exact evOp_ok hcl h hC hf hK
  | true =>
    rw [fo] at h
    simp only at h
    unfold putH at h
    split at h
    · rename_i hh
      split at h
      · rename_i k ch hf0
        simp only [Option.some.injEq, Prod.mk.injEq] at h
        obtain ⟨rfl, rfl⟩ := h
        obtain ⟨v0, ch0, e1, hm⟩ := fresh_ev hC hf fo hf0 c
        obtain ⟨nx, x, w', h1, h2, h3⟩ := evH_ok e1 hC hf
        have h4 := move_ok hC hh hm h3
        unfold Oper.wp
        rw [h1]
        cases nx <;> simp only [nv] at h2 <;> first | (cases h2; done) | skip
        · cases h2; exact hK _ _ h4
        · cases h2; exact hK _ _ h4
      · cases h
    · cases h
theorem conc_holes (hC : Conc E I η H w) (n : Nat) : Conc E I η (H ++ List.replicate n hole) w ∧ Mono I η H I η (H ++ List.replicate n hole) := by
  have hm : Mono I η H I η (H ++ List.replicate n hole) := mono_of (fun _ _ h => h) (by simp) fun c hc => CStep.same (by rw [List.getElem?_append_left hc]) rfl
  refine ⟨⟨hC.imm, fun c x hx => ?_, hC.inj, fun c b m h => by have := hC.sep c b m h; exact ⟨this.1, this.2.1, by simp; omega⟩, hC.glob⟩, hm⟩
  by_cases hc : c < H.length
  · rw [List.getElem?_append_left hc] at hx
    exact (hC.ch c x hx).mono rfl (fun _ _ h => h) hm (fun _ _ _ => rfl)
  · rw [List.getElem?_append_right (by omega)] at hx
    have hxe := List.eq_of_mem_replicate (List.mem_of_getElem? hx)
    subst hxe
    have hnew : η c = none := by
      cases h : η c with
      | none => rfl
      | some p => have := (hC.sep _ p.1 p.2 h).2.2; omega
    exact ⟨fun _ => hnew, fun i r h => by simp at h, .inl ⟨hnew, rfl⟩⟩
end

section
variable {E : Env} {cl : CallF} {ops : Array Oper} {tr : Nat → List Nat} {hk : Nat → Nat} {Q : Exit → Act → World → Prop}

theorem any_okD (hcl : CallOK E (callIso E cl)) {fr2 : Fr} {H2 : Hp} (hcomp : ∀ j i, j < i → i < ops.size → bound (Region.before ops) j i = false → CompatJ E ops tr j i)
    (hback : ∀ (i : Nat) (o : Oper), ops[i]? = some o → ∀ e ∈ o.after, Region.binds .any e = true → e.on < i) {n0 : Nat} {d0 : List Deferred} (hdst : DstOK n0 ops.toList) :
    ∀ (R : List Nat) (listed : Array Bool) (I : Imm) (η : Eta) (fr : Fr) (H : Hp) (a : Act) (w : World) (fr2 : Fr), R.Pairwise (· < ·) → (∀ i, i ∈ R ↔ i < ops.size ∧ listed.getD i false = false) → listed.size = ops.size → Closed ops listed →
      RunD E cl ops tr hk R fr H fr2 H2 → Conc E I η H w → FrOK I η H fr a.tmps → a.tmps.size = n0 → a.defers = d0 →
      (∀ a' w' fr3, FrEq fr2 fr3 → a'.defers = d0 → a'.tmps.size = n0 → After E I η H w H2 w' (fun I' η' => FrOK I' η' H2 fr3 a'.tmps) → Q .normal a' w') → wpAny E.P .any ops Q R.length listed a w
  | [], listed, I, η, fr, H, a, w, fr2, hp, hR, hsz, hcl2, hrun, hC, hf, hn, hd, hQ => by
    refine ⟨?_, ?_⟩
    · cases h : Region.ready .any ops listed with
      | nil => rfl
      | cons i l =>
        have hi : i ∈ Region.ready .any ops listed := by rw [h]; simp
        obtain ⟨h1, o, ho, _⟩ := mem_ready.1 hi
        have hlt := (Array.getElem?_eq_some_iff.1 ho).1
        have : i ∈ ([] : List Nat) := (hR i).2 ⟨hlt, by
          rw [Array.getD_eq_getD_getElem?] at h1 ⊢
          cases hh : listed[i]? with
          | none => rfl
          | some b => rw [hh] at h1; simpa using h1⟩
        simp at this
    · cases hrun with
      | nil => exact hQ a w fr (.refl _) hd hn (After.refl hC hf)
  | r :: R, listed, I, η, fr, H, a, w, fr2, hp, hR, hsz, hcl2, hrun, hC, hf, hn, hd, hQ => by
    simp only [List.length_cons]
    refine ⟨fun hnone => ?_, fun i hi => ?_⟩
    · -- the least that is left is ready
      exfalso
      have hr := (hR r).1 (by simp)
      have hro : ops[r]? = some ops[r] := Array.getElem?_eq_getElem hr.1
      have : r ∈ Region.ready .any ops listed := by
        refine mem_ready.2 ⟨?_, _, hro, fun e he hb => ?_⟩
        · have := hr.2
          rw [Array.getD_eq_getD_getElem?] at this ⊢
          rw [Array.getElem?_eq_getElem (by omega)] at this ⊢
          simpa using this
        · have hlt := hback r _ hro e he hb
          cases hl : listed.getD e.on false with
          | true => rfl
          | false =>
            have hm : e.on ∈ r :: R := (hR e.on).2 ⟨by omega, hl⟩
            rcases List.mem_cons.1 hm with h1 | h1
            · omega
            · have := (List.pairwise_cons.1 hp).1 _ h1; omega
      rw [hnone] at this; simp at this
    · obtain ⟨h1, o, ho, hpre⟩ := mem_ready.1 hi
      have hlt := (Array.getElem?_eq_some_iff.1 ho).1
      have hiR : i ∈ r :: R := (hR i).2 ⟨hlt, by
        rw [Array.getD_eq_getD_getElem?] at h1 ⊢
        rw [Array.getElem?_eq_getElem (by omega)] at h1 ⊢
        simpa using h1⟩
      obtain ⟨l1, l2, hsplit⟩ := List.append_of_mem hiR
      rw [hsplit] at hrun hp
      have hpw := List.pairwise_append.1 hp
      have hun : ∀ j ∈ l1, CompatJ E ops tr j i := by
        intro j hj
        have hji : j < i := hpw.2.2 j hj i (by simp)
        refine hcomp j i hji hlt ?_
        cases hb : bound (Region.before ops) j i with
        | false => rfl
        | true =>
          have := bound_listed hcl2 i o ho hpre j hb
          have hjl := ((hR j).1 (by rw [hsplit]; simp [hj])).2
          rw [this] at hjl; cases hjl
      obtain ⟨o', v, H1, fr2', ho', hv, he, hrun'⟩ := frontD hrun hun
      rw [ho] at ho'; cases ho'
      have hdo : ∀ k, o.dst = some k → k < a.tmps.size := by
        intro k hk; rw [hn]; exact hdst o (by simpa using Array.mem_of_getElem? ho) k hk
      have hlen : R.length = (l1 ++ l2).length := by
        have := congrArg List.length hsplit; simp at this ⊢; omega
      have hpw' : (l1 ++ l2).Pairwise (· < ·) := by
        rw [List.pairwise_append]
        exact ⟨hpw.1, (List.pairwise_cons.1 hpw.2.1).2, fun x hx y hy => hpw.2.2 x hx y (by simp [hy])⟩
      have hni : i ∉ l1 ++ l2 := by
        intro hm
        rcases List.mem_append.1 hm with hm | hm
        · have := hpw.2.2 i hm i (by simp); omega
        · have := (List.pairwise_cons.1 hpw.2.1).1 i hm; omega
      have hR' : ∀ k, k ∈ l1 ++ l2 ↔ k < ops.size ∧ (listed.setIfInBounds i true).getD k false = false := by
        intro k
        by_cases hki : k = i
        · subst hki
          refine ⟨fun h => absurd h hni, fun h => ?_⟩
          have h2 := h.2
          rw [Array.getD_eq_getD_getElem?] at h2
          simp [hsz, hlt] at h2
        · rw [getD_set_ne false (Ne.symm hki)]
          rw [← hR k, hsplit]
          simp [hki]
      have hcl3 : Closed ops (listed.setIfInBounds i true) := by
        intro k p hp' hkl e he' hb
        by_cases hki : k = i
        · subst hki
          rw [ho] at hp'; cases hp'
          exact getD_set_true (hpre e he' hb)
        · rw [getD_set_ne false (Ne.symm hki)] at hkl
          exact getD_set_true (hcl2 k p hp' hkl e he' hb)
      have hsz' : (listed.setIfInBounds i true).size = ops.size := by simpa using hsz
      unfold wpOp
      rw [ho]
      unfold val1D at hv
      split at hv
      · rename_i hg
        split at hv
        · rename_i v' H1' hev
          simp only [Option.some.injEq, Prod.mk.injEq] at hv
          obtain ⟨rfl, rfl, _⟩ := hv
          simp only [guard_ok hf hg, if_true]
          refine .inl (evOpD_ok hcl hev hC hf fun x w1 hx => ?_)
          obtain ⟨I1, η1, hC1, hT1, hm1, hr1⟩ := hx
          rw [hlen]
          refine any_okD hcl (d0 := d0) (n0 := n0) (fr2 := fr2') hcomp hback hdst (l1 ++ l2) _ I1 η1 _ _ _ w1 fr2' hpw' hR' hsz' hcl3 hrun' hC1 ((hf.mono hm1).put hr1 o.dst hdo) (by rw [put_size]; exact hn) (by rw [put_defers]; exact hd) fun a' w' fr3 he3 hdef hs hA => ?_
          obtain ⟨I2, η2, k1, k2, k3, k4⟩ := hA
          exact hQ a' w' fr3 (he.trans he3) hdef hs ⟨I2, η2, k1, hT1.trans k2, hm1.trans k3, k4⟩
        · cases hv
      · rename_i hg
        simp only [Option.some.injEq, Prod.mk.injEq] at hv
        obtain ⟨rfl, rfl, _⟩ := hv
        simp only [guard_ok hf hg, Bool.false_eq_true, if_false]
        rw [hlen]
        refine any_okD hcl (d0 := d0) (n0 := n0) (fr2 := fr2') hcomp hback hdst (l1 ++ l2) _ I η _ _ _ w fr2' hpw' hR' hsz' hcl3 hrun' hC (hf.put (relA_undef _ _ _) o.dst hdo) (by rw [put_size]; exact hn) (by rw [put_defers]; exact hd) fun a' w' fr3 he3 hdef hs hA => ?_
        exact hQ a' w' fr3 (he.trans he3) hdef hs hA
      · cases hv
  termination_by R => R.length
  decreasing_by all_goals (have := congrArg List.length hsplit; simp at this ⊢; omega)
end
end Go.VI
