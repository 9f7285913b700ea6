/- VI, part 11: calls. -/
import Derived.Test.YtcifhkdbaienjaaVI10
set_option linter.unusedSimpArgs false
set_option linter.unusedVariables false
namespace Go.VI
section
variable {E : Env} {I : Imm} {η : Eta} {H : Hp} {w : World}

/-- the heap as the callee numbers it -/
def locHp (H : Hp) (R : List Nat) : Hp := R.map fun c => ((H[c]?).map (Chunk.ren (posIn R))).getD (.iter [] 0)
def locEta (η : Eta) (R : List Nat) : Eta := fun i => match R[i]? with | some c => η c | none => none
theorem locHp_get {R : List Nat} (hlt : ∀ c ∈ R, c < H.length) {i c : Nat} (h : R[i]? = some c) : (locHp H R)[i]? = (H[c]?).map (Chunk.ren (posIn R)) := by
  have hc := hlt c (List.mem_of_getElem? h)
  simp [locHp, h, hc]
theorem loc_ren {R : List Nat} (hn : R.Nodup) (hlt : ∀ c ∈ R, c < H.length) : RenOK (posIn R) η H (locEta η R) (locHp H R) := by
  intro c i h
  have hi := posIn_some h
  refine ⟨by simp [locHp]; exact (List.getElem?_eq_some_iff.1 hi).1, by simp [locEta, hi], locHp_get hlt hi⟩
theorem loc_conc (hC : Conc E I η H w) {R : List Nat} (hn : R.Nodup) (hlt : ∀ c ∈ R, c < H.length) : Conc E I (locEta η R) (locHp H R) w := by
  refine ⟨hC.imm, fun i x hx => ?_, fun i j b n n' h1 h2 => ?_, fun i b n h => ?_, hC.glob⟩
  · have hil : i < R.length := by have := (List.getElem?_eq_some_iff.1 hx).1; simpa [locHp] using this
    have hi := List.getElem?_eq_getElem hil
    rw [locHp_get hlt hi] at hx
    simp only [Option.map_eq_some_iff] at hx
    obtain ⟨y, hy, rfl⟩ := hx
    exact ren_chunk (loc_ren hn hlt) (by simp [locEta, hi]) (hC.ch _ _ hy)
  · unfold locEta at h1 h2
    split at h1
    · rename_i c hc
      split at h2
      · rename_i d hd
        have := hC.inj _ _ _ _ _ h1 h2
        subst this
        have e1 := posIn_get hn hc
        have e2 := posIn_get hn hd
        rw [e1] at e2; exact Option.some.inj e2
      · cases h2
    · cases h1
  · unfold locEta at h
    split at h
    · rename_i c hc
      have := hC.sep _ _ _ h
      exact ⟨this.1, this.2.1, by simp [locHp]; exact (List.getElem?_eq_some_iff.1 hc).1⟩
    · cases h

/-- back in the caller's numbering -/
theorem back_ok (hC : Conc E I η H w) {R : List Nat} (hn : R.Nodup) (hlt : ∀ c ∈ R, c < H.length) {L : Hp} {w' : World} {I' : Imm} {η' : Eta} (hC' : Conc E I' η' L w') (hT : Trans I (locEta η R) w I' η' w')
    (hm : Mono I (locEta η R) (locHp H R) I' η' L) (hL : R.length ≤ L.length) {K : List Nat} (hK : K.Nodup) (hK1 : ∀ i ∈ K, R.length ≤ i) (hK2 : ∀ i ∈ K, i < L.length) {HF : Hp}
    (hF : HF = setAll H R ((L.take R.length).map (Chunk.ren (backRen R H.length K))) ++ K.map fun i => ((L[i]?).map (Chunk.ren (backRen R H.length K))).getD (.iter [] 0)) :
    ∃ ηF, Conc E I' ηF HF w' ∧ Trans I η w I' ηF w' ∧ Mono I η H I' ηF HF ∧ ∀ r x, RelA I' η' L r x → RelA I' ηF HF (renA (backRen R H.length K) r) x := by
  let ρ := backRen R H.length K
  let ηF : Eta := fun c => match posIn R c with
    | some i => η' i
    | none => if c < H.length then η c else match K[c - H.length]? with
      | some i => η' i
      | none => none
  have hlen1 : ((L.take R.length).map (Chunk.ren ρ)).length = R.length := by simp; omega
  have hget : ∀ c, HF[c]? = match posIn R c with
      | some i => (L[i]?).map (Chunk.ren ρ)
      | none => if c < H.length then H[c]? else match K[c - H.length]? with
        | some i => (L[i]?).map (Chunk.ren ρ)
        | none => none := by
    intro c
    rw [hF]
    by_cases hc : c < H.length
    · rw [List.getElem?_append_left (by rw [setAll_length]; exact hc), setAll_get _ _ _ hn hlen1 hlt]
      cases hp : posIn R c with
      | none => simp [hc]
      | some i =>
        have hi := (List.getElem?_eq_some_iff.1 (posIn_some hp)).1
        simp [List.getElem?_take, hi, ρ]
    · rw [List.getElem?_append_right (by rw [setAll_length]; omega), setAll_length]
      have hp : posIn R c = none := by
        cases h : posIn R c with
        | none => rfl
        | some i => exact absurd (hlt c (List.mem_of_getElem? (posIn_some h))) hc
      rw [hp]
      simp only [hc, if_false, List.getElem?_map]
      cases hk : K[c - H.length]? with
      | none => rfl
      | some i =>
        have := hK2 i (List.mem_of_getElem? hk)
        simp [this, ρ]
  have hFl : HF.length = H.length + K.length := by rw [hF]; simp [setAll_length]
  have hρ : RenOK ρ η' L ηF HF := by
    intro i c h
    have hh : (R[i]? = some c) ∨ (R[i]? = none ∧ ∃ j, posIn K i = some j ∧ c = j + H.length) := by
      simp only [ρ, backRen] at h
      split at h
      · rename_i d hd; cases h; exact .inl hd
      · rename_i hd
        simp only [Option.map_eq_some_iff] at h
        obtain ⟨j, hj, rfl⟩ := h
        exact .inr ⟨hd, j, hj, rfl⟩
    rcases hh with hR | ⟨_, j, hj, rfl⟩
    · have hp := posIn_get hn hR
      have hc := hlt c (List.mem_of_getElem? hR)
      exact ⟨by omega, by simp [ηF, hp], by rw [hget, hp]⟩
    · have hkj := posIn_some hj
      have hjl := (List.getElem?_eq_some_iff.1 hkj).1
      have hp : posIn R (j + H.length) = none := by
        cases h : posIn R (j + H.length) with
        | none => rfl
        | some i => have := hlt _ (List.mem_of_getElem? (posIn_some h)); omega
      have e : ¬ (j + H.length < H.length) := by omega
      refine ⟨by omega, by simp [ηF, hp, hkj]; intro h; omega, by rw [hget, hp]; simp [hkj]; intro h; omega⟩
  have own : ∀ i b n, η' i = some (b, n) → w.heap.size ≤ b ∨ ∃ c m, c ∈ R ∧ η c = some (b, m) := by
    intro i b n h
    rcases hT.own i b n h with h1 | ⟨j, m, h1⟩
    · exact .inl h1
    · unfold locEta at h1
      split at h1
      · rename_i c hc; exact .inr ⟨c, m, List.mem_of_getElem? hc, h1⟩
      · cases h1
  have frame : ∀ c, c ∉ R → ∀ b n, η c = some (b, n) → w'.heap[b]? = w.heap[b]? := by
    intro c hcR b n h
    refine hT.frame b (hC.sep _ _ _ h).2.1 fun i m hi => ?_
    unfold locEta at hi
    split at hi
    · rename_i d hd
      have := hC.inj _ _ _ _ _ h hi
      subst this
      exact hcR (List.mem_of_getElem? hd)
    · cases hi
  have cas : ∀ c b n, ηF c = some (b, n) → (∃ i, η' i = some (b, n) ∧ ((posIn R c = some i) ∨ (posIn R c = none ∧ H.length ≤ c ∧ K[c - H.length]? = some i))) ∨ (c ∉ R ∧ posIn R c = none ∧ c < H.length ∧ η c = some (b, n)) := by
    intro c b n h
    simp only [ηF] at h
    split at h
    · rename_i i hi; exact .inl ⟨i, h, .inl hi⟩
    · rename_i hp
      split at h
      · rename_i hc; exact .inr ⟨posIn_none hp, hp, hc, h⟩
      · rename_i hc
        split at h
        · rename_i i hi; exact .inl ⟨i, h, .inr ⟨hp, by omega, hi⟩⟩
        · cases h
  have cross : ∀ i b n c m, η' i = some (b, n) → c ∉ R → η c = some (b, m) → False := by
    intro i b n c m h1 hc h2
    rcases own i b n h1 with h3 | ⟨d, m', hd, h3⟩
    · have := (hC.sep _ _ _ h2).2.1; omega
    · have := hC.inj _ _ _ _ _ h2 h3
      subst this; exact hc hd
  have hmF : Mono I η H I' ηF HF := by
    intro a v r
    have toLoc := fun a v (r : RelA I η H a v) => ren_ok (H' := HF) (η' := ηF) hρ (hm _ _ (ren_ok (loc_ren hn hlt) r))
    induction r with
    | dead v => exact .dead v
    | i x v h => exact .i x v (h.mono hT.imm)
    | agg cells cs hl _ ih => exact .agg cells cs hl ih
    | clo fn first caps fs cs hl hm _ _ ih1 ih2 => exact .clo fn first caps fs cs hl hm ih1 ih2
    | tup vs xs hl _ ih => exact .tup vs xs hl ih
    | ref c g off len v hc hs hf hp hg =>
      cases hpos : posIn R c with
      | some i =>
        have := toLoc _ _ (.ref c g off len v hc hs hf hp hg)
        have hb : ρ i = some c := by simp [ρ, backRen, posIn_some hpos]
        simp only [renA, hpos] at this
        rw [hb] at this
        exact this
      | none =>
        have hH : HF[c]? = H[c]? := by rw [hget, hpos]; simp [hc]
        have hη : ηF c = η c := by simp [ηF, hpos, hc]
        refine .ref c g off len v (by omega) (fun sz rows ex h => ?_) (fun sz rows ex h => ?_) hp (fun sz g' rows ex h => ?_)
        · rw [hH] at h; have := hs _ _ _ h; unfold RefOk at *; rw [hη]; exact this
        · rw [hH] at h; exact ⟨(hf _ _ _ h).1, (hf _ _ _ h).2.mono hT.imm⟩
        · rw [hH] at h; exact hg _ _ _ _ h
    | ptr c g r k v hc hb hs hf hi hp hg =>
      cases hpos : posIn R c with
      | some i =>
        have := toLoc _ _ (.ptr c g r k v hc hb hs hf hi hp hg)
        have hb : ρ i = some c := by simp [ρ, backRen, posIn_some hpos]
        simp only [renA, hpos] at this
        rw [hb] at this
        exact this
      | none =>
        have hH : HF[c]? = H[c]? := by rw [hget, hpos]; simp [hc]
        have hη : ηF c = η c := by simp [ηF, hpos, hc]
        refine .ptr c g r k v (by omega) (fun cells h => ?_) (fun sz rows ex h => ?_) (fun sz rows ex row h hr => ?_) (fun s p h => ?_) hp (fun sz g' rows ex h => ?_)
        · rw [hH] at h; rw [hη]; exact hb _ h
        · rw [hH] at h; rw [hη]; exact hs _ _ _ h
        · rw [hH] at h; exact (hf _ _ _ _ h hr).mono hT.imm
        · rw [hH] at h; rw [hη]; exact hi _ _ h
        · rw [hH] at h; exact hg _ _ _ _ h
  refine ⟨ηF, ⟨hC'.imm, fun c x hx => ?_, fun c c' b n n' h1 h2 => ?_, fun c b n h => ?_, hC'.glob⟩, ⟨hT.os, hT.tape, hT.output, hT.size, fun b hb hno => ?_, hT.imm, fun b hb => ?_, fun c b n h => ?_⟩, hmF, fun r x hr => ren_ok hρ hr⟩
  · rw [hget] at hx
    split at hx
    · rename_i i hi
      simp only [Option.map_eq_some_iff] at hx
      obtain ⟨y, hy, rfl⟩ := hx
      exact ren_chunk hρ (by simp [ηF, hi]) (hC'.ch _ _ hy)
    · rename_i hp
      split at hx
      · rename_i hc
        exact (hC.ch _ _ hx).mono (by simp [ηF, hp, hc]) hT.imm hmF (fun b n h => frame c (posIn_none hp) b n h)
      · rename_i hc
        split at hx
        · rename_i i hi
          simp only [Option.map_eq_some_iff] at hx
          obtain ⟨y, hy, rfl⟩ := hx
          exact ren_chunk hρ (by simp [ηF, hp, hc, hi]) (hC'.ch _ _ hy)
        · cases hx
  · rcases cas _ _ _ h1 with ⟨i, e1, d1⟩ | ⟨n1, p1, l1, e1⟩
    · rcases cas _ _ _ h2 with ⟨j, e2, d2⟩ | ⟨n2, p2, l2, e2⟩
      · have hij := hC'.inj _ _ _ _ _ e1 e2
        subst hij
        rcases d1 with d1 | ⟨_, l1, d1⟩
        · rcases d2 with d2 | ⟨_, l2, d2⟩
          · have a1 := posIn_some d1
            have a2 := posIn_some d2
            rw [a1] at a2; exact Option.some.inj a2
          · have a1 := (List.getElem?_eq_some_iff.1 (posIn_some d1)).1
            have a2 := hK1 i (List.mem_of_getElem? d2); omega
        · rcases d2 with d2 | ⟨_, l2, d2⟩
          · have a1 := (List.getElem?_eq_some_iff.1 (posIn_some d2)).1
            have a2 := hK1 i (List.mem_of_getElem? d1); omega
          · have a1 := posIn_get hK d1
            have a2 := posIn_get hK d2
            rw [a1] at a2
            have := Option.some.inj a2
            omega
      · exact (cross _ _ _ _ _ e1 n2 e2).elim
    · rcases cas _ _ _ h2 with ⟨j, e2, d2⟩ | ⟨n2, p2, l2, e2⟩
      · exact (cross _ _ _ _ _ e2 n1 e1).elim
      · exact hC.inj _ _ _ _ _ e1 e2
  · rcases cas _ _ _ h with ⟨i, e1, d1⟩ | ⟨n1, p1, l1, e1⟩
    · have := hC'.sep _ _ _ e1
      refine ⟨this.1, this.2.1, ?_⟩
      rcases d1 with d1 | ⟨_, l1, d1⟩
      · have := hlt c (List.mem_of_getElem? (posIn_some d1)); omega
      · have := (List.getElem?_eq_some_iff.1 d1).1; omega
    · have hs := hC.sep _ _ _ e1
      refine ⟨?_, by have := hT.size; omega, by omega⟩
      cases hI : I' b with
      | none => rfl
      | some o =>
        exfalso
        rcases hT.immNew b (by rw [hI]; simp) with h1 | h1 | ⟨i, m, h1⟩
        · rw [hs.1] at h1; exact h1 rfl
        · omega
        · unfold locEta at h1
          split at h1
          · rename_i d hd
            have := hC.inj _ _ _ _ _ e1 h1
            subst this; exact n1 (List.mem_of_getElem? hd)
          · cases h1
  · refine hT.frame b hb fun i m hi => ?_
    unfold locEta at hi
    split at hi
    · exact hno _ _ hi
    · cases hi
  · rcases hT.immNew b hb with h1 | h1 | ⟨i, m, h1⟩
    · exact .inl h1
    · exact .inr (.inl h1)
    · unfold locEta at h1
      split at h1
      · exact .inr (.inr ⟨_, _, h1⟩)
      · cases h1
  · rcases cas _ _ _ h with ⟨i, e1, d1⟩ | ⟨n1, p1, l1, e1⟩
    · rcases own _ _ _ e1 with h1 | ⟨d, m, _, h1⟩
      · exact .inl h1
      · exact .inr ⟨_, _, h1⟩
    · exact .inr ⟨_, _, e1⟩

theorem iso_ok {cl : CallF} (hcl : CallOK E cl) (hext : ExtOK E) : CallOK E (callIso E cl) := by
  intro f args H r H' h I η w vs hC hA
  unfold callIso at h
  have hprep : ∀ args1 H1, prepE E f H args = some (args1, H1) → After E I η H w H1 w fun I' η' => ArgsOK I' η' H1 args1 vs := by
    intro args1 H1 hp
    exact (prepE_ok hC _ hp hA.2).imp fun I' η' _ _ hq => ⟨by rw [hq.1]; exact hA.1, hq.2⟩
  split at h
  · cases h
  · rename_i args1 H1 hp
    obtain ⟨I1, η1, hC1, hT1, hm1, hA1⟩ := hprep args1 H1 hp
    split at h
    · rename_i g hg
      simp only [Option.map_eq_some_iff, Prod.mk.injEq] at h
      obtain ⟨r', hr', rfl, rfl⟩ := h
      refine (hext f g hg args1 r' hr' I1 η1 H1 w vs hC1 hA1).mono fun e w' he => ?_
      obtain ⟨x, hx, I2, η2, k1, k2, k3, k4⟩ := he
      exact ⟨x, hx, I2, η2, k1, hT1.trans k2, hm1.trans k3, k4⟩
    · simp only at h
      split at h
      · cases h
      · rename_i r0 L hL
        split at h
        · cases h
        · rename_i hlen
          simp only [Option.some.injEq, Prod.mk.injEq] at h
          obtain ⟨rfl, rfl⟩ := h
          obtain ⟨hRn, hRl⟩ := reach_ok H1 64 (refsL args1) [] (by simp) (by simp)
          generalize hR : reach H1 64 (refsL args1) [] = R at *
          have hA2 : ArgsOK I1 (locEta η1 R) (locHp H1 R) (renL (posIn R) args1) vs := by
            refine ⟨by rw [renL_map]; simpa using hA1.1, fun k a ha => ?_⟩
            rw [renL_map] at ha
            simp only [List.getElem?_map, Option.map_eq_some_iff] at ha
            obtain ⟨b, hb, rfl⟩ := ha
            exact ren_ok (loc_ren hRn hRl) (hA1.2 k b hb)
          refine (hcl f _ _ _ _ hL I1 (locEta η1 R) w vs (loc_conc hC1 hRn hRl) hA2).mono fun e w' he => ?_
          obtain ⟨x, hx, I2, η2, k1, k2, k3, k4⟩ := he
          obtain ⟨hKn, hKl⟩ := reach_ok L 64 (refsA r0 ++ (L.take R.length).flatMap Chunk.refs) [] (by simp) (by simp)
          obtain ⟨ηF, b1, b2, b3, b4⟩ := back_ok hC1 hRn hRl k1 k2 k3 (by omega) (K := (reach L 64 (refsA r0 ++ (L.take R.length).flatMap Chunk.refs) []).filter fun i => decide (R.length ≤ i))
            (hKn.filter _) (fun i hi => by simpa using (List.mem_filter.1 hi).2) (fun i hi => hKl i (List.mem_filter.1 hi).1) rfl
          exact ⟨x, hx, I2, ηF, b1, hT1.trans b2, hm1.trans b3, b4 _ _ k4⟩
end
end Go.VI
