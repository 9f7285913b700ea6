/- VI, part 15: whatever order a region draws, it comes to what the text's order comes to. -/
import Derived.Test.YtcifhkdbaienjaaVI14
set_option linter.unusedSimpArgs false
set_option linter.unusedVariables false
namespace Go.VI
section
variable {E : Env} {cl : CallF} {ops : Array Oper} {tr : Nat → List Nat}

inductive Run (E : Env) (cl : CallF) (ops : Array Oper) (tr : Nat → List Nat) : List Nat → Fr → Hp → Fr → Hp → Prop
  | nil (fr : Fr) (H : Hp) : Run E cl ops tr [] fr H fr H
  | cons (i : Nat) (l : List Nat) (fr : Fr) (H : Hp) (o : Oper) (v : AV) (H1 : Hp) (fr2 : Fr) (H2 : Hp) (ho : ops[i]? = some o) (hv : val1 E cl ops o fr H = some (v, H1, tr i)) (h : Run E cl ops tr l (putD o.dst v fr) H1 fr2 H2) : Run E cl ops tr (i :: l) fr H fr2 H2

theorem run_eq {l : List Nat} {fr fr' : Fr} {H : Hp} {fr2 : Fr} {H2 : Hp} (h : Run E cl ops tr l fr H fr2 H2) : FrEq fr fr' → ∃ fr2', FrEq fr2 fr2' ∧ Run E cl ops tr l fr' H fr2' H2 := by
  induction h generalizing fr' with
  | nil fr H => exact fun he => ⟨fr', he, .nil _ _⟩
  | cons i l fr H o v H1 fr2 H2 ho hv _ ih =>
    intro he
    obtain ⟨fr2', h1, h2⟩ := ih (he.put o.dst v)
    exact ⟨fr2', h1, .cons i l fr' H o v H1 fr2' H2 ho (by rw [← val_eq he]; exact hv) h2⟩

def CompatI (E : Env) (ops : Array Oper) (tr : Nat → List Nat) (j i : Nat) : Prop := ∀ x y, ops[j]? = some x → ops[i]? = some y → Compat E ops x y (tr j) (tr i)

theorem front : ∀ {l1 l2 : List Nat} {i : Nat} {fr : Fr} {H : Hp} {fr2 : Fr} {H2 : Hp}, Run E cl ops tr (l1 ++ i :: l2) fr H fr2 H2 → (∀ j ∈ l1, CompatI E ops tr j i) →
    ∃ o v H1 fr2', ops[i]? = some o ∧ val1 E cl ops o fr H = some (v, H1, tr i) ∧ FrEq fr2 fr2' ∧ Run E cl ops tr (l1 ++ l2) (putD o.dst v fr) H1 fr2' H2
  | [], l2, i, fr, H, fr2, H2, h, _ => by
    cases h with
    | cons _ _ _ _ o v H1 _ _ ho hv h => exact ⟨o, v, H1, fr2, ho, hv, .refl _, h⟩
  | j :: l1, l2, i, fr, H, fr2, H2, h, hc => by
    cases h with
    | cons _ _ _ _ x vx H1 _ _ hx hvx h =>
      obtain ⟨o, v, H3, fr3, ho, hv, he, hr⟩ := front h (fun k hk => hc k (by simp [hk]))
      obtain ⟨H4, s1, s2, s3⟩ := swap hvx hv (hc j (by simp) x o hx ho)
      obtain ⟨fr4, e4, r4⟩ := run_eq hr s3
      exact ⟨o, v, H4, fr4, ho, s1, he.trans e4, .cons j _ _ _ x vx H3 fr4 H2 hx s2 r4⟩

theorem run_of_evT : ∀ (l : List Oper) (k : Nat) (fr : Fr) (H : Hp) (fr2 : Fr) (H2 : Hp) (ts : List (List Nat)), evT E cl ops.toList l fr H = some (fr2, H2, ts) → (∀ j, l[j]? = ops[k + j]?) → (∀ j, j < l.length → tr (k + j) = ts.getD j []) →
    Run E cl ops tr (List.range' k l.length) fr H fr2 H2
  | [], k, fr, H, fr2, H2, ts, h, _, _ => by
    simp only [evT, Option.some.injEq, Prod.mk.injEq] at h
    obtain ⟨rfl, rfl, rfl⟩ := h
    exact .nil _ _
  | o :: l, k, fr, H, fr2, H2, ts, h, hl, ht => by
    simp only [evT] at h
    split at h
    · rename_i fr1 H1 t hs
      split at h
      · rename_i fr3 H3 ts' hr
        simp only [Option.some.injEq, Prod.mk.injEq] at h
        obtain ⟨rfl, rfl, rfl⟩ := h
        rw [stp_val] at hs
        simp only [Option.map_eq_some_iff, Prod.mk.injEq] at hs
        obtain ⟨⟨v, H', T⟩, hv, e1, e2, e3⟩ := hs
        simp only at e1 e2 e3
        subst e1 e2 e3
        have h0 := hl 0
        simp only [List.getElem?_cons_zero, Nat.add_zero] at h0
        have ht0 := ht 0 (by simp)
        simp only [Nat.add_zero, List.getD_cons_zero] at ht0
        rw [List.length_cons, List.range'_succ]
        refine .cons k _ fr H o v _ _ _ h0.symm (by rw [ht0]; exact hv) ?_
        refine run_of_evT l (k + 1) _ _ _ _ ts' hr (fun j => by have := hl (j + 1); simpa [Nat.add_assoc, Nat.add_comm 1 j] using this) fun j hj => ?_
        have := ht (j + 1) (by simpa using hj)
        rw [show k + 1 + j = k + (j + 1) by omega, this]; simp
      · cases h
    · cases h

/-! what is bound -/
theorem fold_bits (acc : Array Nat) (j : Nat) : ∀ (l : List Edge) (s : Nat), (l.foldl (fun s e => if Region.binds .any e then s ||| 2 ^ e.on ||| acc.getD e.on 0 else s) s).testBit j = true →
    s.testBit j = true ∨ ∃ e ∈ l, Region.binds .any e = true ∧ (e.on = j ∨ (acc.getD e.on 0).testBit j = true)
  | [], s, h => .inl h
  | e :: l, s, h => by
    simp only [List.foldl_cons] at h
    rcases fold_bits acc j l _ h with h1 | ⟨e', he', h2⟩
    · split at h1
      · rename_i hb
        rw [Nat.testBit_or, Nat.testBit_or, Bool.or_eq_true, Bool.or_eq_true] at h1
        rcases h1 with (h1 | h1) | h1
        · exact .inl h1
        · rw [Nat.testBit_two_pow] at h1
          exact .inr ⟨e, by simp, hb, .inl (by simpa using h1)⟩
        · exact .inr ⟨e, by simp, hb, .inr h1⟩
      · exact .inl h1
    · exact .inr ⟨e', by simp [he'], h2⟩
def bitsOf (acc : Array Nat) (o : Oper) : Nat := o.after.foldl (fun s e => if Region.binds .any e then s ||| 2 ^ e.on ||| acc.getD e.on 0 else s) 0
theorem before_fold : ∀ (l : List Oper) (acc : Array Nat), (l.foldl (fun acc o => acc.push (bitsOf acc o)) acc).size = acc.size + l.length ∧ (∀ k, k < acc.size → (l.foldl (fun acc o => acc.push (bitsOf acc o)) acc).getD k 0 = acc.getD k 0) ∧
    ∀ k o, l[k]? = some o → ∃ acc' : Array Nat, acc'.size = acc.size + k ∧ (∀ m, m < acc'.size → acc'.getD m 0 = (l.foldl (fun acc o => acc.push (bitsOf acc o)) acc).getD m 0) ∧ (l.foldl (fun acc o => acc.push (bitsOf acc o)) acc).getD (acc.size + k) 0 = bitsOf acc' o
  | [], acc => ⟨by simp, fun _ _ => rfl, fun k o h => by simp at h⟩
  | o :: l, acc => by
    obtain ⟨h1, h2, h3⟩ := before_fold l (acc.push (bitsOf acc o))
    simp only [List.foldl_cons]
    have hpush : ∀ k, k < acc.size → (acc.push (bitsOf acc o)).getD k 0 = acc.getD k 0 := by
      intro k hk; simp [Array.getD_eq_getD_getElem?, Array.getElem?_push, show k ≠ acc.size by omega]
    refine ⟨by rw [h1]; simp; omega, fun k hk => by rw [h2 k (by simp; omega)]; exact hpush k hk, fun k p hp => ?_⟩
    cases k with
    | zero =>
      simp at hp; subst hp
      refine ⟨acc, rfl, fun m hm => by rw [h2 m (by simp; omega)]; exact (hpush m hm).symm, ?_⟩
      rw [h2 _ (by simp)]
      simp [Array.getD_eq_getD_getElem?]
    | succ k =>
      obtain ⟨acc', a1, a2, a3⟩ := h3 k p (by simpa using hp)
      refine ⟨acc', by rw [a1]; simp; omega, a2, ?_⟩
      rw [← a3]; congr 1; simp; omega
theorem before_spec {i j : Nat} {o : Oper} (ho : ops[i]? = some o) (h : bound (Region.before ops) j i = true) :
    ∃ e ∈ o.after, Region.binds .any e = true ∧ (e.on = j ∨ (e.on < i ∧ bound (Region.before ops) j e.on = true)) := by
  have hb : Region.before ops = ops.toList.foldl (fun acc o => acc.push (bitsOf acc o)) #[] := by
    unfold Region.before
    rw [← Array.foldl_toList]; rfl
  obtain ⟨_, _, h3⟩ := before_fold ops.toList #[]
  obtain ⟨acc', a1, a2, a3⟩ := h3 i o (by simpa using ho)
  simp only [List.size_toArray, List.length_nil, Nat.zero_add] at a1 a3
  unfold bound at h ⊢
  rw [hb, a3] at h
  unfold bitsOf at h
  rw [← Array.foldl_toList] at h
  rcases fold_bits acc' j _ 0 h with h4 | ⟨e, he, hbi, h5⟩
  · simp at h4
  · refine ⟨e, by simpa using he, hbi, ?_⟩
    rcases h5 with h5 | h5
    · exact .inl h5
    · by_cases hlt : e.on < i
      · refine .inr ⟨hlt, ?_⟩
        rw [hb, ← a2 _ (by omega)]; exact h5
      · rw [Array.getD_eq_getD_getElem?, Array.getElem?_eq_none (by omega)] at h5
        simp at h5
/-- whatever is listed has all that it is bound behind -/
def Closed (ops : Array Oper) (listed : Array Bool) : Prop := ∀ (i : Nat) (o : Oper), ops[i]? = some o → listed.getD i false = true → ∀ e ∈ o.after, Region.binds .any e = true → listed.getD e.on false = true
theorem bound_listed {listed : Array Bool} (hc : Closed ops listed) : ∀ (i : Nat) (o : Oper), ops[i]? = some o → (∀ e ∈ o.after, Region.binds .any e = true → listed.getD e.on false = true) → ∀ j, bound (Region.before ops) j i = true → listed.getD j false = true := by
  intro i
  induction i using Nat.strongRecOn with
  | _ i ih =>
    intro o ho hp j hb
    obtain ⟨e, he, hbi, h⟩ := before_spec ho hb
    have hl := hp e he hbi
    rcases h with rfl | ⟨hlt, hb2⟩
    · exact hl
    · have hi : i < ops.size := (Array.getElem?_eq_some_iff.1 ho).1
      have ho2 : ops[e.on]? = some ops[e.on] := Array.getElem?_eq_getElem (by omega)
      exact ih e.on hlt _ ho2 (hc e.on _ ho2 hl) j hb2
end

section
variable {E : Env} {cl : CallF} {ops : Array Oper} {tr : Nat → List Nat} {Q : Exit → Act → World → Prop}

theorem any_ok (hcl : CallOK E (callIso E cl)) {fr2 : Fr} {H2 : Hp} (hcomp : ∀ j i, j < i → i < ops.size → bound (Region.before ops) j i = false → CompatI E ops tr j i)
    (hback : ∀ (i : Nat) (o : Oper), ops[i]? = some o → ∀ e ∈ o.after, Region.binds .any e = true → e.on < i) {n0 : Nat} {d0 : List Deferred} (hdst : DstOK n0 ops.toList) :
    ∀ (R : List Nat) (listed : Array Bool) (I : Imm) (η : Eta) (fr : Fr) (H : Hp) (a : Act) (w : World) (fr2 : Fr), R.Pairwise (· < ·) → (∀ i, i ∈ R ↔ i < ops.size ∧ listed.getD i false = false) → listed.size = ops.size → Closed ops listed →
      Run E cl ops tr R fr H fr2 H2 → Conc E I η H w → FrOK I η H fr a.tmps → a.tmps.size = n0 → a.defers = d0 →
      (∀ a' w' fr3, FrEq fr2 fr3 → a'.defers = d0 → a'.tmps.size = n0 → After E I η H w H2 w' (fun I' η' => FrOK I' η' H2 fr3 a'.tmps) → Q .normal a' w') → wpAny E.P .any ops Q R.length listed a w
  | [], listed, I, η, fr, H, a, w, fr2, hp, hR, hsz, hcl2, hrun, hC, hf, hn, hd, hQ => by
    refine ⟨?_, ?_⟩
    · cases h : Region.ready .any ops listed with
      | nil => rfl
      | cons i l =>
        have hi : i ∈ Region.ready .any ops listed := by rw [h]; simp
        obtain ⟨h1, o, ho, _⟩ := mem_ready.1 hi
        have hlt := (Array.getElem?_eq_some_iff.1 ho).1
        have : i ∈ ([] : List Nat) := (hR i).2 ⟨hlt, by
          rw [Array.getD_eq_getD_getElem?] at h1 ⊢
          cases hh : listed[i]? with
          | none => rfl
          | some b => rw [hh] at h1; simpa using h1⟩
        simp at this
    · cases hrun with
      | nil => exact hQ a w fr (.refl _) hd hn (After.refl hC hf)
  | r :: R, listed, I, η, fr, H, a, w, fr2, hp, hR, hsz, hcl2, hrun, hC, hf, hn, hd, hQ => by
    simp only [List.length_cons]
    refine ⟨fun hnone => ?_, fun i hi => ?_⟩
    · -- the least that is left is ready
      exfalso
      have hr := (hR r).1 (by simp)
      have hro : ops[r]? = some ops[r] := Array.getElem?_eq_getElem hr.1
      have : r ∈ Region.ready .any ops listed := by
        refine mem_ready.2 ⟨?_, _, hro, fun e he hb => ?_⟩
        · have := hr.2
          rw [Array.getD_eq_getD_getElem?] at this ⊢
          rw [Array.getElem?_eq_getElem (by omega)] at this ⊢
          simpa using this
        · have hlt := hback r _ hro e he hb
          cases hl : listed.getD e.on false with
          | true => rfl
          | false =>
            have hm : e.on ∈ r :: R := (hR e.on).2 ⟨by omega, hl⟩
            rcases List.mem_cons.1 hm with h1 | h1
            · omega
            · have := (List.pairwise_cons.1 hp).1 _ h1; omega
      rw [hnone] at this; simp at this
    · obtain ⟨h1, o, ho, hpre⟩ := mem_ready.1 hi
      have hlt := (Array.getElem?_eq_some_iff.1 ho).1
      have hiR : i ∈ r :: R := (hR i).2 ⟨hlt, by
        rw [Array.getD_eq_getD_getElem?] at h1 ⊢
        rw [Array.getElem?_eq_getElem (by omega)] at h1 ⊢
        simpa using h1⟩
      obtain ⟨l1, l2, hsplit⟩ := List.append_of_mem hiR
      rw [hsplit] at hrun hp
      have hpw := List.pairwise_append.1 hp
      have hun : ∀ j ∈ l1, CompatI E ops tr j i := by
        intro j hj
        have hji : j < i := hpw.2.2 j hj i (by simp)
        refine hcomp j i hji hlt ?_
        cases hb : bound (Region.before ops) j i with
        | false => rfl
        | true =>
          have := bound_listed hcl2 i o ho hpre j hb
          have hjl := ((hR j).1 (by rw [hsplit]; simp [hj])).2
          rw [this] at hjl; cases hjl
      obtain ⟨o', v, H1, fr2', ho', hv, he, hrun'⟩ := front hrun hun
      rw [ho] at ho'; cases ho'
      have hdo : ∀ k, o.dst = some k → k < a.tmps.size := by
        intro k hk; rw [hn]; exact hdst o (by simpa using Array.mem_of_getElem? ho) k hk
      have hlen : R.length = (l1 ++ l2).length := by
        have := congrArg List.length hsplit; simp at this ⊢; omega
      have hpw' : (l1 ++ l2).Pairwise (· < ·) := by
        rw [List.pairwise_append]
        exact ⟨hpw.1, (List.pairwise_cons.1 hpw.2.1).2, fun x hx y hy => hpw.2.2 x hx y (by simp [hy])⟩
      have hni : i ∉ l1 ++ l2 := by
        intro hm
        rcases List.mem_append.1 hm with hm | hm
        · have := hpw.2.2 i hm i (by simp); omega
        · have := (List.pairwise_cons.1 hpw.2.1).1 i hm; omega
      have hR' : ∀ k, k ∈ l1 ++ l2 ↔ k < ops.size ∧ (listed.setIfInBounds i true).getD k false = false := by
        intro k
        by_cases hki : k = i
        · subst hki
          refine ⟨fun h => absurd h hni, fun h => ?_⟩
          have h2 := h.2
          rw [Array.getD_eq_getD_getElem?] at h2
          simp [hsz, hlt] at h2
        · rw [getD_set_ne false (Ne.symm hki)]
          rw [← hR k, hsplit]
          simp [hki]
      have hcl3 : Closed ops (listed.setIfInBounds i true) := by
        intro k p hp' hkl e he' hb
        by_cases hki : k = i
        · subst hki
          rw [ho] at hp'; cases hp'
          exact getD_set_true (hpre e he' hb)
        · rw [getD_set_ne false (Ne.symm hki)] at hkl
          exact getD_set_true (hcl2 k p hp' hkl e he' hb)
      have hsz' : (listed.setIfInBounds i true).size = ops.size := by simpa using hsz
      unfold wpOp
      rw [ho]
      unfold val1 at hv
      split at hv
      · rename_i hg
        split at hv
        · rename_i v' H1' hev
          simp only [Option.some.injEq, Prod.mk.injEq] at hv
          obtain ⟨rfl, rfl, _⟩ := hv
          simp only [guard_ok hf hg, if_true]
          refine .inl (evOp_ok hcl hev hC hf fun x w1 hx => ?_)
          obtain ⟨I1, η1, hC1, hT1, hm1, hr1⟩ := hx
          rw [hlen]
          refine any_ok hcl (d0 := d0) (n0 := n0) (fr2 := fr2') hcomp hback hdst (l1 ++ l2) _ I1 η1 _ _ _ w1 fr2' hpw' hR' hsz' hcl3 hrun' hC1 ((hf.mono hm1).put hr1 o.dst hdo) (by rw [put_size]; exact hn) (by rw [put_defers]; exact hd) fun a' w' fr3 he3 hdef hs hA => ?_
          obtain ⟨I2, η2, k1, k2, k3, k4⟩ := hA
          exact hQ a' w' fr3 (he.trans he3) hdef hs ⟨I2, η2, k1, hT1.trans k2, hm1.trans k3, k4⟩
        · cases hv
      · rename_i hg
        simp only [Option.some.injEq, Prod.mk.injEq] at hv
        obtain ⟨rfl, rfl, _⟩ := hv
        simp only [guard_ok hf hg, Bool.false_eq_true, if_false]
        rw [hlen]
        refine any_ok hcl (d0 := d0) (n0 := n0) (fr2 := fr2') hcomp hback hdst (l1 ++ l2) _ I η _ _ _ w fr2' hpw' hR' hsz' hcl3 hrun' hC (hf.put (relA_undef _ _ _) o.dst hdo) (by rw [put_size]; exact hn) (by rw [put_defers]; exact hd) fun a' w' fr3 he3 hdef hs hA => ?_
        exact hQ a' w' fr3 (he.trans he3) hdef hs hA
      · cases hv
  termination_by R => R.length
  decreasing_by all_goals (have := congrArg List.length hsplit; simp at this ⊢; omega)
end
end Go.VI
