/- VI, part 6: all the light operations; freezing; new memory. -/
import Derived.Test.YtcifhkdbaienjaaVI5
set_option linter.unusedSimpArgs false
set_option linter.unusedVariables false
namespace Go.VI
section
variable {E : Env} {I : Imm} {η : Eta} {H : Hp} {w : World}

theorem toList_one {α : Type} {a : Array α} {x : α} (h : a.toList = [x]) : a = #[x] := by
  cases a; simp_all
theorem toList_two {α : Type} {a : Array α} {x y : α} (h : a.toList = [x, y]) : a = #[x, y] := by
  cases a; simp_all

theorem getD_map (f : Operand → Value) (l : Array Operand) (k : Nat) (h : k < l.size) : (l.map f).getD k undef = f l[k] := by
  simp [h]

theorem foldE_ok (P : Program) {f : AV → AV → Option AV} {g : Value → Value → Sem Value} (hfg : ∀ {a b v : AV} {x y : Value}, f a b = some v → RelA I η H a x → RelA I η H b y → ∃ u, (g x y).run P w = .ok u w ∧ RelA I η H v u)
    (l : List AV) (m : List Value) (v : AV) (hl : l.length = m.length) (hr : ∀ (k : Nat) (b : AV) (y : Value), l[k]? = some b → m[k]? = some y → RelA I η H b y) (e : Sem Value) (h : foldE f l = some v) :
    ∃ u, ((match m with | [] => e | x :: rest => rest.foldlM g x : Sem Value)).run P w = .ok u w ∧ RelA I η H v u := by
  cases l with
  | nil => simp [foldE] at h
  | cons a l =>
    cases m with
    | nil => simp at hl
    | cons x m =>
      simp only [foldE] at h
      exact fold_ok P hfg l m a v x (by simpa using hl) (fun k b y h1 h2 => hr (k + 1) b y (by simpa using h1) (by simpa using h2)) (hr 0 a x rfl rfl) h
/-! chunks that stay as they are -/
theorem ChunkOK.mono {I' : Imm} {η' : Eta} {H' : Hp} {w' : World} {c : Nat} {x : Chunk} (h : ChunkOK I η H w c x) (he : η' c = η c) (hI : I.le I') (hm : Mono I η H I' η' H')
    (hw : ∀ b n, η c = some (b, n) → w'.heap[b]? = w.heap[b]?) : ChunkOK I' η' H' w' c x := by
  cases x with
  | box cells =>
    obtain ⟨b, cs, elem, fz, h1, h2, h3, h4, h5⟩ := h
    exact ⟨b, cs, elem, fz, by rw [he]; exact h1, by rw [hw _ _ h1]; exact h2, h3, h4, fun k a ha => hm _ _ (h5 k a ha)⟩
  | sl sz g rows ex =>
    obtain ⟨h1, h2, h3⟩ := h
    refine ⟨fun e => he.trans (h1 e), h2, ?_⟩
    rcases h3 with ⟨h4, h5⟩ | ⟨b, cs, elem, fz, h4, h5, h6, h7, h8, h9⟩
    · exact .inl ⟨by rw [he]; exact h4, h5⟩
    · exact .inr ⟨b, cs, elem, fz, by rw [he]; exact h4, by rw [hw _ _ h4]; exact h5, h6, h7, h8, fun i r k a hi ha => (h9 i r k a hi ha).mono hI⟩
  | fz sz g rows ex => exact (he.trans h : η' c = none)
  | iter s p =>
    obtain ⟨b, h1, h2⟩ := h
    exact ⟨b, by rw [he]; exact h1, by rw [hw _ _ h1]; exact h2⟩

/-- behind a step: the new memory stands for the new chunks, and all that held holds -/
def After (E : Env) (I : Imm) (η : Eta) (H : Hp) (w : World) (H' : Hp) (w' : World) (Q : Imm → Eta → Prop) : Prop :=
  ∃ I' η', Conc E I' η' H' w' ∧ Trans I η w I' η' w' ∧ Mono I η H I' η' H' ∧ Q I' η'
theorem After.refl {Q : Imm → Eta → Prop} (hC : Conc E I η H w) (h : Q I η) : After E I η H w H w Q := ⟨I, η, hC, Trans.refl _ _ _, Mono.refl _ _ _, h⟩
theorem After.imp {H' : Hp} {w' : World} {Q Q' : Imm → Eta → Prop} (h : After E I η H w H' w' Q) (hq : ∀ I' η', I.le I' → Mono I η H I' η' H' → Q I' η' → Q' I' η') : After E I η H w H' w' Q' := by
  obtain ⟨I', η', h1, h2, h3, h4⟩ := h
  exact ⟨I', η', h1, h2, h3, hq _ _ h2.imm h3 h4⟩

theorem drop_take_get {α : Type} {l : List α} {o n i : Nat} {r : α} (h : ((l.drop o).take n)[i]? = some r) : l[o + i]? = some r ∧ i < n := by
  rw [List.getElem?_take] at h
  split at h
  · rename_i hi; rw [List.getElem?_drop] at h; exact ⟨h, hi⟩
  · cases h

/-- the rows of an own chunk, read where its block is held fast -/
theorem rel_rows {I' : Imm} {sz : Nat} {rows : List (List IV)} {b : Nat} {cs : Array Value} {elem : TypeId} {fz : Nat × Nat} (hI : I' b = some (.cells cs elem fz))
    (hr : ∀ (i : Nat) (r : List IV), rows[i]? = some r → r.length = sz) (hle : rows.length * sz ≤ cs.size)
    (h : ∀ (i : Nat) (r : List IV) (k : Nat) (a : IV), rows[i]? = some r → r[k]? = some a → RelI I' a (cs.getD (i * sz + k) undef)) :
    (∀ off len cap ex, off + len ≤ rows.length → len ≤ cap → (ex = true → cap = len) → RelI I' (.sl sz ((rows.drop off).take len) ex) (.slice (some ⟨b, off * sz, none⟩) len cap)) ∧
    (∀ r row k, rows[r]? = some row → RelI I' (.pt row k) (.pointer (some ⟨b, r * sz + k, none⟩))) := by
  have hlt : ∀ (i : Nat) (r : List IV) (k : Nat) (a : IV), rows[i]? = some r → r[k]? = some a → i * sz + k < cs.size := by
    intro i r k a hi ha
    have h1 := hr _ _ hi
    have h2 := (List.getElem?_eq_some_iff.1 hi).1
    have h3 := (List.getElem?_eq_some_iff.1 ha).1
    have : (i + 1) * sz ≤ rows.length * sz := Nat.mul_le_mul_right _ h2
    rw [Nat.add_mul] at this; omega
  constructor
  · intro off len cap ex ho hc hx
    have hlen : ((rows.drop off).take len).length = len := by simp; omega
    have := RelI.sl (I := I') sz ((rows.drop off).take len) ex b (off * sz) cap cs elem fz (fun i k => cs.getD ((off + i) * sz + k) undef) hI (by omega) (fun he => by rw [hx he, hlen])
      (fun i r hi => hr _ _ (drop_take_get hi).1)
      (fun i r k a hi ha => by
        have h1 := (drop_take_get hi).1
        rw [show off * sz + i * sz + k = (off + i) * sz + k by rw [Nat.add_mul]]
        exact getD_eq _ _ (hlt _ _ _ _ h1 ha))
      (fun i r k a hi ha => h _ _ _ _ (drop_take_get hi).1 ha)
    rwa [hlen] at this
  · intro r row k hrow
    exact .pt row k b (r * sz) cs elem fz (fun k => cs.getD (r * sz + k) undef) hI (fun k a ha => getD_eq _ _ (hlt _ _ _ _ hrow ha)) (fun k a ha => h _ _ _ _ hrow ha)

theorem set_get {H : Hp} {c : Nat} {x y : Chunk} {d : Nat} (h : (H.set c x)[d]? = some y) : (d = c ∧ y = x) ∨ (d ≠ c ∧ H[d]? = some y) := by
  by_cases hd : d = c
  · subst hd
    rw [List.getElem?_set_self' ] at h
    cases hH : H[d]? with
    | none => rw [hH] at h; cases h
    | some z => rw [hH] at h; simp at h; exact .inl ⟨rfl, h.symm⟩
  · rw [List.getElem?_set_ne (Ne.symm hd)] at h; exact .inr ⟨hd, h⟩

theorem freeze_ok (hC : Conc E I η H w) {a : AV} {y : Value} (r : RelA I η H a y) {x : IV} {H' : Hp} (h : freeze H a = some (x, H')) : After E I η H w H' w fun I' η' => RelI I' x y := by
  unfold freeze at h
  split at h
  · cases h; exact After.refl hC (relA_i r)
  · rename_i c g off len
    split at h
    · rename_i sz g' rows ex hH
      split at h
      · rename_i hg
        subst hg
        simp only [Option.some.injEq, Prod.mk.injEq] at h
        obtain ⟨rfl, rfl⟩ := h
        have hcl : c < H.length := (List.getElem?_eq_some_iff.1 hH).1
        obtain ⟨hz, hrl, hbk⟩ := hC.ch _ _ hH
        rcases hbk with ⟨hn, hr0⟩ | ⟨b, cs, elem, fz, hη, hw, hth, hsz, hxx, hcell⟩
        rotate_left
        have hz : 0 < sz := Nat.pos_of_ne_zero fun e => by rw [hz e] at hη; cases hη
        rotate_left
        · -- nothing lies behind it
          subst hr0
          have nilR : ∀ (v : Value) off len, RefOk η c sz [] off len v → RelI I (.sl sz ((([] : List (List IV)).drop off).take len) (ex && decide (off + len = 0))) v := by
            intro v off len hro
            obtain ⟨h1, a, cap, rfl, h2⟩ := hro
            simp at h1
            obtain ⟨rfl, rfl⟩ := h1
            rcases h2 with ⟨_, rfl⟩ | ⟨b, n, he, _⟩
            · simp; exact .nil _ _ _ _ (fun _ => rfl)
            · rw [hn] at he; cases he
          have hm : Mono I η H I η (H.set c (.fz sz g [] ex)) := by
            refine mono_of (fun _ _ h => h) (by simp) fun d hd => ?_
            by_cases hdc : d = c
            · subst hdc
              intro y hy
              rcases set_get hy with ⟨_, rfl⟩ | ⟨h1, _⟩
              · right
                intro a v ha ra
                rcases ha with ⟨off, len, rfl⟩ | ⟨r, k, rfl⟩
                · cases ra with
                  | ref c g off len v hc hs hf hp hg =>
                    refine .ref _ _ _ _ _ (by simpa using hcl) (fun _ _ _ h => by rcases set_get h with ⟨_, e⟩ | ⟨e, _⟩ <;> simp_all) (fun sz2 rows2 ex2 h => ?_) hp (fun _ _ _ _ h => by rcases set_get h with ⟨_, e⟩ | ⟨e, _⟩ <;> simp_all)
                    rcases set_get h with ⟨_, e⟩ | ⟨e, _⟩
                    · cases e
                      have := hs _ _ _ hH
                      exact ⟨this.1, nilR _ _ _ this⟩
                    · exact absurd rfl e
                · cases ra with
                  | ptr c g r k v hc hb hs hf hi hp hg =>
                    obtain ⟨b, n, he, _⟩ := hs _ _ _ hH
                    rw [hn] at he; cases he
              · exact absurd rfl h1
            · exact CStep.same (by rw [List.getElem?_set_ne (Ne.symm hdc)]) rfl
          refine ⟨I, η, ⟨hC.imm, fun d x hd => ?_, hC.inj, fun d b n hd => by have := hC.sep d b n hd; simpa using this, hC.glob⟩, Trans.refl _ _ _, hm, ?_⟩
          · rcases set_get hd with ⟨rfl, rfl⟩ | ⟨h1, h2⟩
            · exact hn
            · exact (hC.ch _ _ h2).mono rfl (fun _ _ h => h) hm (fun _ _ _ => rfl)
          · cases r with
            | ref c g off len v hc hs hf hp hg => exact nilR _ _ _ (hs _ _ _ hH)
        · -- its block is held fast from now on
          let I' : Imm := fun b' => if b' = b then some (.cells cs elem fz) else I b'
          let η' : Eta := fun d => if d = c then none else η d
          have hIb : I' b = some (.cells cs elem fz) := by simp [I']
          have hle : I.le I' := by
            intro b' o hb
            by_cases hbb : b' = b
            · subst hbb; have := (hC.sep _ _ _ hη).1; rw [this] at hb; cases hb
            · simp [I', hbb, hb]
          obtain ⟨hsl, hpt⟩ := rel_rows (I' := I') hIb hrl hsz (fun i r k a hi ha => (hcell i r k a hi ha).mono hle)
          have slR : ∀ (v : Value) off len, RefOk η c sz rows off len v → RelI I' (.sl sz ((rows.drop off).take len) (ex && decide (off + len = rows.length))) v := by
            intro v off len hro
            obtain ⟨h1, a, cap, rfl, h2⟩ := hro
            rcases h2 with ⟨he, _⟩ | ⟨b2, n2, he, h3, h4, h5⟩
            · rw [hη] at he; cases he
            · rw [hη] at he; cases he
              have hcap : len ≤ cap := by omega
              have hexc : (ex && decide (off + len = rows.length)) = true → cap = len := by
                intro he
                simp only [Bool.and_eq_true, decide_eq_true_eq] at he
                rw [hxx he.1] at h4
                have := Nat.le_of_mul_le_mul_right h4 hz
                omega
              rcases h5 with rfl | ⟨rfl, rfl⟩
              · exact hsl off len cap _ h1 hcap hexc
              · simp; exact .nil _ _ _ _ (fun _ => rfl)
          have hm : Mono I η H I' η' (H.set c (.fz sz g rows ex)) := by
            refine mono_of hle (by simp) fun d hd => ?_
            by_cases hdc : d = c
            · subst hdc
              intro y hy
              rcases set_get hy with ⟨_, rfl⟩ | ⟨h1, _⟩
              · right
                intro a v ha ra
                rcases ha with ⟨off, len, rfl⟩ | ⟨r, k, rfl⟩
                · cases ra with
                  | ref c g off len v hc hs hf hp hg =>
                    refine .ref _ _ _ _ _ (by simpa using hcl) (fun _ _ _ h => by rcases set_get h with ⟨_, e⟩ | ⟨e, _⟩ <;> simp_all) (fun sz2 rows2 ex2 h => ?_) hp (fun _ _ _ _ h => by rcases set_get h with ⟨_, e⟩ | ⟨e, _⟩ <;> simp_all)
                    rcases set_get h with ⟨_, e⟩ | ⟨e, _⟩
                    · cases e
                      have := hs _ _ _ hH
                      exact ⟨this.1, slR _ _ _ this⟩
                    · exact absurd rfl e
                · cases ra with
                  | ptr c g r k v hc hb hs hf hi hp hg =>
                    refine .ptr _ _ _ _ _ (by simpa using hcl) (fun _ h => by rcases set_get h with ⟨_, e⟩ | ⟨e, _⟩ <;> simp_all) (fun _ _ _ h => by rcases set_get h with ⟨_, e⟩ | ⟨e, _⟩ <;> simp_all) (fun sz2 rows2 ex2 row h hrow => ?_) (fun _ _ h => by rcases set_get h with ⟨_, e⟩ | ⟨e, _⟩ <;> simp_all) hp (fun _ _ _ _ h => by rcases set_get h with ⟨_, e⟩ | ⟨e, _⟩ <;> simp_all)
                    rcases set_get h with ⟨_, e⟩ | ⟨e, _⟩
                    · cases e
                      obtain ⟨b2, n2, he, rfl⟩ := hs _ _ _ hH
                      rw [hη] at he; cases he
                      exact hpt _ _ _ hrow
                    · exact absurd rfl e
              · exact absurd rfl h1
            · exact CStep.same (by rw [List.getElem?_set_ne (Ne.symm hdc)]) (by simp [η', hdc])
          refine ⟨I', η', ⟨fun b' o hb => ?_, fun d x hd => ?_, fun d d' b' n n' h1 h2 => ?_, fun d b' n hd => ?_, fun g cells hg => (hC.glob g cells hg).mono hle⟩,
            ⟨rfl, rfl, rfl, Nat.le_refl _, fun _ _ _ => rfl, hle, fun b' hb => ?_, fun d b' n hd => ?_⟩, hm, ?_⟩
          · by_cases hbb : b' = b
            · subst hbb; rw [hIb] at hb; cases hb; exact hw
            · simp [I', hbb] at hb; exact hC.imm _ _ hb
          · rcases set_get hd with ⟨rfl, rfl⟩ | ⟨h1, h2⟩
            · show η' d = none; simp [η']
            · exact (hC.ch _ _ h2).mono (by simp [η', h1]) hle hm (fun _ _ _ => rfl)
          · by_cases h3 : d = c
            · simp [η', h3] at h1
            · by_cases h4 : d' = c
              · simp [η', h4] at h2
              · simp [η', h3] at h1; simp [η', h4] at h2; exact hC.inj _ _ _ _ _ h1 h2
          · by_cases h3 : d = c
            · simp [η', h3] at hd
            · simp [η', h3] at hd
              obtain ⟨h4, h5, h6⟩ := hC.sep _ _ _ hd
              have hbb : b' ≠ b := fun e => h3 (hC.inj _ _ _ _ _ (e ▸ hd) hη)
              exact ⟨by simp [I', hbb, h4], h5, by simpa using h6⟩
          · by_cases hbb : b' = b
            · exact .inr (.inr ⟨c, _, by rw [hbb]; exact hη⟩)
            · simp [I', hbb] at hb; exact .inl (by simpa using hb)
          · by_cases h3 : d = c
            · simp [η', h3] at hd
            · simp [η', h3] at hd; exact .inr ⟨_, _, hd⟩
          · cases r with
            | ref c g off len v hc hs hf hp hg => exact slR _ _ _ (hs _ _ _ hH)
      · cases h
    · rename_i sz g' rows ex hH
      split at h
      · rename_i hg
        subst hg
        simp only [Option.some.injEq, Prod.mk.injEq] at h
        obtain ⟨rfl, rfl⟩ := h
        cases r with
        | ref c g off len v hc hs hf hp hg => exact After.refl hC (hf _ _ _ hH).2
      · cases h
    · cases h
  · cases h
end
end Go.VI
