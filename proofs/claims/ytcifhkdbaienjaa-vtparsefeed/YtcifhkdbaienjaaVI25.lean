/- VI, part 25: regions that draw their order, their new memory made in places that were set aside. -/
import Derived.Test.YtcifhkdbaienjaaVI15
set_option linter.unusedSimpArgs false
set_option linter.unusedVariables false
namespace Go.VI
section
variable {E : Env} {I : Imm} {η : Eta} {H : Hp} {w : World}

theorem mem_refsL {d : Nat} : ∀ {l : List AV}, d ∈ refsL l ↔ ∃ (k : Nat) (a : AV), l[k]? = some a ∧ d ∈ refsA a
  | [] => by simp [refsL]
  | a :: l => by
    simp only [refsL, List.mem_append, mem_refsL (l := l)]
    constructor
    · rintro (h | ⟨k, b, h1, h2⟩)
      · exact ⟨0, a, rfl, h⟩
      · exact ⟨k + 1, b, by simpa using h1, h2⟩
    · rintro ⟨k, b, h1, h2⟩
      cases k with
      | zero => simp at h1; subst h1; exact .inl h2
      | succ k => exact .inr ⟨k, b, by simpa using h1, h2⟩
theorem rel_refs {a : AV} {v : Value} (r : RelA I η H a v) : ∀ d ∈ refsA a, d < H.length := by
  induction r with
  | dead v => intro d hd; simp [refsA] at hd
  | i x v h => intro d hd; simp [refsA] at hd
  | agg cells cs hl _ ih =>
    intro d hd
    simp only [refsA] at hd
    obtain ⟨k, b, h1, h2⟩ := mem_refsL.1 hd
    exact ih k b h1 d h2
  | ref c g off len v hc hs hf hp hg => intro d hd; simp [refsA] at hd; omega
  | ptr c g r k v hc hb hs hf hi hp hg => intro d hd; simp [refsA] at hd; omega
  | clo fn first caps fs cs hl hm _ _ ih1 ih2 =>
    intro d hd
    simp only [refsA, List.mem_append] at hd
    rcases hd with hd | hd
    · obtain ⟨k, b, h1, h2⟩ := mem_refsL.1 hd
      exact ih1 k b h1 d h2
    · obtain ⟨k, b, h1, h2⟩ := mem_refsL.1 hd
      exact ih2 k b h1 d h2
  | tup vs xs hl _ ih =>
    intro d hd
    simp only [refsA] at hd
    obtain ⟨k, b, h1, h2⟩ := mem_refsL.1 hd
    exact ih k b h1 d h2

def mvEta (η : Eta) (N c : Nat) : Eta := fun d => if d = c then η N else if d = N then none else η d
/-- the new chunk is called by the place that was set aside for it -/
inductive Moved (H : Hp) (c : Nat) : Chunk → Chunk → AV → AV → Prop
  | box (cells : List AV) (h : ∀ d ∈ refsL cells, d < H.length) : Moved H c (.box cells) (.box cells) (.ptr H.length 0 0 0) (.ptr c 0 0 0)
  | sl (z n : Nat) (rows : List (List IV)) (ex : Bool) : Moved H c (.sl z 0 rows ex) (.sl z 1 rows ex) (.ref H.length 0 0 n) (.ref c 1 0 n)

theorem mv_rel {ch ch1 : Chunk} {v0 v1 : AV} {c : Nat} (hh : H[c]? = some hole) (hη : η c = none) (hk : Moved H c ch ch1 v0 v1) {a : AV} {v : Value} (r : RelA I η (H ++ [ch]) a v) :
    (∀ d ∈ refsA a, d < H.length) → RelA I (mvEta η H.length c) (H.set c ch1) a v := by
  have hcl : c < H.length := (List.getElem?_eq_some_iff.1 hh).1
  have hcc : (H ++ [ch])[c]? = some (.sl 0 0 [] true) := by rw [List.getElem?_append_left hcl]; exact hh
  have oth : ∀ d, d < H.length → d ≠ c → (H.set c ch1)[d]? = (H ++ [ch])[d]? ∧ mvEta η H.length c d = η d := by
    intro d hd hdc
    refine ⟨by rw [List.getElem?_set_ne (Ne.symm hdc), List.getElem?_append_left hd], ?_⟩
    simp [mvEta, hdc, show d ≠ H.length by omega]
  have self : (H.set c ch1)[c]? = some ch1 := List.getElem?_set_self hcl
  induction r with
  | dead v => exact fun _ => .dead v
  | i x v h => exact fun _ => .i x v h
  | agg cells cs hl _ ih => exact fun hd => .agg cells cs hl fun k a ha => ih k a ha fun d h => hd d (by simp only [refsA]; exact mem_refsL.2 ⟨k, a, ha, h⟩)
  | clo fn first caps fs cs hl hm _ _ ih1 ih2 =>
    exact fun hd => .clo fn first caps fs cs hl hm (fun k a ha => ih1 k a ha fun d h => hd d (by simp only [refsA, List.mem_append]; exact .inl (mem_refsL.2 ⟨k, a, ha, h⟩))) (fun k a ha => ih2 k a ha fun d h => hd d (by simp only [refsA, List.mem_append]; exact .inr (mem_refsL.2 ⟨k, a, ha, h⟩)))
  | tup vs xs hl _ ih => exact fun hd => .tup vs xs hl fun k a ha => ih k a ha fun d h => hd d (by simp only [refsA]; exact mem_refsL.2 ⟨k, a, ha, h⟩)
  | ref d g off len v hc hs hf hp hg =>
    intro hd
    have hdl : d < H.length := hd d (by simp [refsA])
    by_cases hdc : d = c
    · subst hdc
      have hg0 := hg _ _ _ _ hcc
      obtain rfl : g = 0 := by omega
      cases hk with
      | box cells _ => exact .ref _ _ _ _ _ (by simpa using hdl) (fun _ _ _ h => by rw [self] at h; cases h) (fun _ _ _ h => by rw [self] at h; cases h) hp (fun _ _ _ _ h => by rw [self] at h; cases h)
      | sl z n rows ex => exact .ref _ _ _ _ _ (by simpa using hdl) (fun _ _ _ h => by rw [self] at h; cases h) (fun _ _ _ h => by rw [self] at h; cases h) hp (fun _ _ _ _ h => by omega)
    · obtain ⟨e1, e2⟩ := oth d hdl hdc
      refine .ref _ _ _ _ _ (by simpa using hdl) (fun sz rows ex h => ?_) (fun sz rows ex h => hf sz rows ex (by rw [← e1]; exact h)) hp (fun sz g' rows ex h => hg sz g' rows ex (by rw [← e1]; exact h))
      exact (hs sz rows ex (by rw [← e1]; exact h)).step e2 rfl
  | ptr d g r k v hc hb hs hf hi hp hg =>
    intro hd
    have hdl : d < H.length := hd d (by simp [refsA])
    by_cases hdc : d = c
    · subst hdc
      have hg0 := hg _ _ _ _ hcc
      obtain rfl : g = 0 := by omega
      obtain ⟨b, n, h1, _⟩ := hs _ _ _ hcc
      rw [hη] at h1; cases h1
    · obtain ⟨e1, e2⟩ := oth d hdl hdc
      refine .ptr _ _ _ _ _ (by simpa using hdl) (fun cells h => ?_) (fun sz rows ex h => ?_) (fun sz rows ex row h => hf sz rows ex row (by rw [← e1]; exact h)) (fun s p h => ?_) hp (fun sz g' rows ex h => hg sz g' rows ex (by rw [← e1]; exact h))
      · rw [e2]; exact hb cells (by rw [← e1]; exact h)
      · rw [e2]; exact hs sz rows ex (by rw [← e1]; exact h)
      · rw [e2]; exact hi s p (by rw [← e1]; exact h)

theorem move_ok (hC : Conc E I η H w) {c : Nat} (hh : H[c]? = some hole) {ch ch1 : Chunk} {v0 v1 : AV} {x : Value} {w' : World} (hk : Moved H c ch ch1 v0 v1)
    (hA : After E I η H w (H ++ [ch]) w' fun I' η' => RelA I' η' (H ++ [ch]) v0 x) : After E I η H w (H.set c ch1) w' fun I' η' => RelA I' η' (H.set c ch1) v1 x := by
  obtain ⟨I', η', C', T', M', R'⟩ := hA
  have hcl : c < H.length := (List.getElem?_eq_some_iff.1 hh).1
  have hcc : (H ++ [ch])[c]? = some (.sl 0 0 [] true) := by rw [List.getElem?_append_left hcl]; exact hh
  have hη : η' c = none := (C'.ch _ _ hcc).1 rfl
  have key : ∀ a v, RelA I' η' (H ++ [ch]) a v → (∀ d ∈ refsA a, d < H.length) → RelA I' (mvEta η' H.length c) (H.set c ch1) a v := fun a v r => mv_rel hh hη hk r
  have mvc : mvEta η' H.length c c = η' H.length := by simp [mvEta]
  have inv : ∀ d b n, mvEta η' H.length c d = some (b, n) → (d = c ∧ η' H.length = some (b, n)) ∨ (d ≠ c ∧ d ≠ H.length ∧ η' d = some (b, n)) := by
    intro d b n h
    unfold mvEta at h
    split at h
    · exact .inl ⟨by assumption, h⟩
    · split at h
      · cases h
      · exact .inr ⟨by assumption, by assumption, h⟩
  have lastc : (H ++ [ch])[H.length]? = some ch := by simp
  refine ⟨I', mvEta η' H.length c, ⟨C'.imm, fun d y hd => ?_, fun d d' b n n' h1 h2 => ?_, fun d b n h => ?_, C'.glob⟩,
    ⟨T'.os, T'.tape, T'.output, T'.size, T'.frame, T'.imm, T'.immNew, fun d b n h => ?_⟩, fun a v r => key a v (M' a v r) (rel_refs r), ?_⟩
  · rcases set_get hd with ⟨rfl, rfl⟩ | ⟨hdc, hd'⟩
    · have h := C'.ch _ _ lastc
      cases hk with
      | box cells hr =>
        obtain ⟨b, cs, elem, fz, h1, h2, h3, h4, h5⟩ := h
        exact ⟨b, cs, elem, fz, by rw [mvc]; exact h1, h2, h3, h4, fun k a ha => key _ _ (h5 k a ha) fun e he => hr e (mem_refsL.2 ⟨k, a, ha, he⟩)⟩
      | sl z n rows ex =>
        obtain ⟨h1, h2, h3⟩ := h
        refine ⟨fun e => by rw [mvc]; exact h1 e, h2, ?_⟩
        rcases h3 with ⟨h4, h5⟩ | ⟨b, cs, elem, fz, h4, h5⟩
        · exact .inl ⟨by rw [mvc]; exact h4, h5⟩
        · exact .inr ⟨b, cs, elem, fz, by rw [mvc]; exact h4, h5⟩
    · have hdl : d < H.length := (List.getElem?_eq_some_iff.1 hd').1
      have e2 : mvEta η' H.length c d = η' d := by simp [mvEta, hdc, show d ≠ H.length by omega]
      have h := C'.ch d y (by rw [List.getElem?_append_left hdl]; exact hd')
      have h0 := hC.ch d y hd'
      cases y with
      | box cells =>
        obtain ⟨b, cs, elem, fz, h1, h2, h3, h4, h5⟩ := h
        obtain ⟨_, cs0, _, _, _, _, _, _, k5⟩ := h0
        exact ⟨b, cs, elem, fz, by rw [e2]; exact h1, h2, h3, h4, fun k a ha => key _ _ (h5 k a ha) (rel_refs (k5 k a ha))⟩
      | sl z g rows ex =>
        obtain ⟨h1, h2, h3⟩ := h
        refine ⟨fun e => by rw [e2]; exact h1 e, h2, ?_⟩
        rcases h3 with ⟨h4, h5⟩ | ⟨b, cs, elem, fz, h4, h5⟩
        · exact .inl ⟨by rw [e2]; exact h4, h5⟩
        · exact .inr ⟨b, cs, elem, fz, by rw [e2]; exact h4, h5⟩
      | fz z g rows ex => exact (e2.trans h : mvEta η' H.length c d = none)
      | iter s p =>
        obtain ⟨b, h1, h2⟩ := h
        exact ⟨b, by rw [e2]; exact h1, h2⟩
  · rcases inv _ _ _ h1 with ⟨rfl, e1⟩ | ⟨a1, a2, e1⟩ <;> rcases inv _ _ _ h2 with ⟨rfl, e3⟩ | ⟨b1, b2, e3⟩
    · rfl
    · exact absurd (C'.inj _ _ _ _ _ e1 e3).symm b2
    · exact absurd (C'.inj _ _ _ _ _ e1 e3) a2
    · exact C'.inj _ _ _ _ _ e1 e3
  · rcases inv _ _ _ h with ⟨rfl, e1⟩ | ⟨a1, a2, e1⟩
    · have := C'.sep _ _ _ e1
      exact ⟨this.1, this.2.1, by simpa using hcl⟩
    · have := C'.sep _ _ _ e1
      refine ⟨this.1, this.2.1, ?_⟩
      have h3 := this.2.2
      simp at h3 ⊢; omega
  · rcases inv _ _ _ h with ⟨rfl, e1⟩ | ⟨a1, a2, e1⟩
    · exact T'.own _ _ _ e1
    · exact T'.own _ _ _ e1
  · have self : (H.set c ch1)[c]? = some ch1 := List.getElem?_set_self hcl
    cases hk with
    | box cells hr =>
      cases R' with
      | ptr _ _ _ _ _ hc hb hs hf hi hp hg =>
        obtain ⟨b, n, h1, h2⟩ := hb _ lastc
        exact .ptr _ _ _ _ _ (by simpa using hcl) (fun cells h => ⟨b, n, by rw [mvc]; exact h1, h2⟩) (fun _ _ _ h => by rw [self] at h; cases h) (fun _ _ _ _ h => by rw [self] at h; cases h) (fun _ _ h => by rw [self] at h; cases h) hp (fun _ _ _ _ h => by omega)
    | sl z n rows ex =>
      cases R' with
      | ref _ _ _ _ _ hc hs hf hp hg =>
        have h1 := hs _ _ _ lastc
        refine .ref _ _ _ _ _ (by simpa using hcl) (fun sz rows2 ex2 h => ?_) (fun _ _ _ h => by rw [self] at h; cases h) hp (fun _ _ _ _ h => by rw [self] at h; cases h; omega)
        rw [self] at h; cases h
        unfold RefOk at h1 ⊢
        rw [mvc]; exact h1

/-! new memory out of operands alone -/
theorem freezeAll_nil : ∀ {l : List AV} {xs : List IV} {H1 : Hp}, freezeAll [] l = some (xs, H1) → H1 = [] ∧ ∀ H, freezeAll H l = some (xs, H)
  | [], xs, H1, h => by
    simp only [freezeAll, Option.some.injEq, Prod.mk.injEq] at h
    obtain ⟨rfl, rfl⟩ := h
    exact ⟨rfl, fun H => rfl⟩
  | a :: l, xs, H1, h => by
    simp only [freezeAll] at h
    split at h
    · rename_i x H2 h1
      split at h
      · rename_i ys H3 h2
        simp only [Option.some.injEq, Prod.mk.injEq] at h
        obtain ⟨rfl, rfl⟩ := h
        cases a with
        | i z =>
          simp only [freeze, Option.some.injEq, Prod.mk.injEq] at h1
          obtain ⟨rfl, rfl⟩ := h1
          obtain ⟨rfl, e⟩ := freezeAll_nil h2
          exact ⟨rfl, fun H => by simp only [freezeAll, freeze, e H]⟩
        | _ => simp [freeze] at h1
      · cases h
    · cases h
theorem buildSlice_nil {t : TypeId} {n : Nat} {ps : List (Nat × AV)} {k : Option Nat} {ch1 : Chunk} (h : freshOf (buildSliceE E [] t n ps) = some (k, ch1)) (H : Hp) (c : Nat) :
    ∃ v0 ch, buildSliceE E H t n ps = some (v0, H ++ [ch]) ∧ Moved H c ch ch1 v0 (mkR c k) := by
  unfold buildSliceE at h ⊢
  split at h
  rotate_left
  · simp [freshOf] at h
  rename_i e he
  split at h
  rotate_left
  · simp [freshOf] at h
  rename_i z zero hz hzero
  split at h
  rotate_left
  · simp [freshOf] at h
  rename_i hc
  split at h
  rotate_left
  · simp [freshOf] at h
  rename_i cells hfill
  split at h
  rotate_left
  · simp [freshOf] at h
  rename_i xs H1 hfr
  obtain ⟨rfl, e1⟩ := freezeAll_nil hfr
  simp only [freshOf, List.nil_append, Option.some.injEq, Prod.mk.injEq] at h
  obtain ⟨rfl, rfl⟩ := h
  simp only [hc, and_self, if_true, hfill, e1 H]
  exact ⟨_, _, rfl, .sl _ _ _ _⟩
theorem makeSlice_nil {t : TypeId} {l m : AV} {k : Option Nat} {ch1 : Chunk} (h : freshOf (makeSliceE E [] t l m) = some (k, ch1)) (H : Hp) (c : Nat) :
    ∃ v0 ch, makeSliceE E H t l m = some (v0, H ++ [ch]) ∧ Moved H c ch ch1 v0 (mkR c k) := by
  unfold makeSliceE at h ⊢
  split at h
  rotate_left
  · simp [freshOf] at h
  rename_i e k1 n1 k2 n2 he
  split at h
  rotate_left
  · simp [freshOf] at h
  rename_i z row b hz hrow hb
  split at h
  rotate_left
  · simp [freshOf] at h
  rename_i hc
  simp only [freshOf, List.nil_append, Option.some.injEq, Prod.mk.injEq] at h
  obtain ⟨rfl, rfl⟩ := h
  rw [if_pos hc]
  exact ⟨_, _, rfl, .sl _ _ _ _⟩
theorem no_refs_ofVal (v : Value) : ∀ d, d ∉ refsL (cellsA (ofVal v)) := by
  intro d hd
  have r : RelA (fun _ => none) (fun _ => none) [] (ofVal v) v := relA_ofVal v
  have h := rel_refs r d
  have : d ∈ refsA (ofVal v) := by
    generalize ofVal v = a at hd
    cases a <;> simp only [cellsA, refsL, List.append_nil] at hd <;> exact hd
  exact absurd (h this) (by simp)
theorem cellsA_refs {a : AV} {d : Nat} (h : d ∈ refsL (cellsA a)) : d ∈ refsA a := by
  cases a <;> simp only [cellsA, refsL, List.append_nil] at h <;> exact h
theorem fresh_ev {fr : Fr} {a : Act} (hC : Conc E I η H w) (hf : FrOK I η H fr a.tmps) {o : Op} (ho : isFresh o = true) {k : Option Nat} {ch1 : Chunk} (h : freshOf (evH E fr [] o) = some (k, ch1)) (c : Nat) :
    ∃ v0 ch, evH E fr H o = some (v0, H ++ [ch]) ∧ Moved H c ch ch1 v0 (mkR c k) := by
  cases o with
  | alloc e =>
    simp only [evH] at h ⊢
    split at h
    · rename_i v hv
      split at h
      · rename_i h1
        simp only [freshOf, List.nil_append, Option.some.injEq, Prod.mk.injEq] at h
        obtain ⟨rfl, rfl⟩ := h
        simp only [h1, if_true]
        refine ⟨_, _, rfl, .box _ fun d hd => ?_⟩
        obtain ⟨zv, _, hze⟩ := zeroO_ok hv w
        rw [hze] at hd
        exact absurd hd (no_refs_ofVal zv d)
      · simp [freshOf] at h
    · simp [freshOf] at h
  | box t x =>
    simp only [evH] at h ⊢
    split at h
    · rename_i h1
      simp only [freshOf, List.nil_append, Option.some.injEq, Prod.mk.injEq] at h
      obtain ⟨rfl, rfl⟩ := h
      simp only [h1, if_true]
      exact ⟨_, _, rfl, .box _ fun d hd => rel_refs (opd_ok hC hf x) d (cellsA_refs hd)⟩
    · simp [freshOf] at h
  | buildSlice t n ps => exact buildSlice_nil h H c
  | makeSlice t l m => exact makeSlice_nil h H c
  | _ => simp [isFresh] at ho
end

/-! what an operation does not touch may be anything -/
section
variable {E : Env} {cl : CallF} {H : Hp}
theorem op_store0 {fr : Fr} (t : TypeId) (a x : Operand) : evOp E cl (.store t a x) fr H = (storeE E H t (opd E fr a) (opd E fr x)).map fun H' => (.dead, H') := rfl
theorem freeze_set {a : AV} {x : IV} {H1 : Hp} {c : Nat} (y : Chunk) (h : freeze H a = some (x, H1)) (hc : c ∉ refsA a) : freeze (H.set c y) a = some (x, H1.set c y) := by
  cases a with
  | i z =>
    simp only [freeze, Option.some.injEq, Prod.mk.injEq] at h
    obtain ⟨rfl, rfl⟩ := h; rfl
  | ref d g off len =>
    have hd : c ≠ d := by simpa [refsA] using hc
    simp only [freeze, List.getElem?_set_ne hd] at h ⊢
    split at h
    · rename_i he
      rw [he]
      split at h
      · rename_i hg
        simp only [Option.some.injEq, Prod.mk.injEq] at h
        obtain ⟨rfl, rfl⟩ := h
        simp only [hg, if_true]
        rw [List.set_comm _ _ hd]
      · cases h
    · rename_i he
      rw [he]
      split at h
      · rename_i hg
        simp only [Option.some.injEq, Prod.mk.injEq] at h
        obtain ⟨rfl, rfl⟩ := h
        simp only [hg, if_true]
      · cases h
    · cases h
  | _ => simp [freeze] at h
theorem freezeAll_set {c : Nat} (y : Chunk) : ∀ {l : List AV} {H H1 : Hp} {xs : List IV}, freezeAll H l = some (xs, H1) → c ∉ refsL l → freezeAll (H.set c y) l = some (xs, H1.set c y)
  | [], H, H1, xs, h, _ => by
    simp only [freezeAll, Option.some.injEq, Prod.mk.injEq] at h
    obtain ⟨rfl, rfl⟩ := h; rfl
  | a :: l, H, H1, xs, h, hc => by
    simp only [refsL, List.mem_append, not_or] at hc
    simp only [freezeAll] at h ⊢
    split at h
    · rename_i x H2 h1
      split at h
      · rename_i ys H3 h2
        simp only [Option.some.injEq, Prod.mk.injEq] at h
        obtain ⟨rfl, rfl⟩ := h
        rw [freeze_set y h1 hc.1]
        simp only [freezeAll_set y h2 hc.2]
      · cases h
    · cases h
theorem freezeAll_none {c : Nat} (y : Chunk) {l : List AV} {H : Hp} (h : freezeAll H l = none) (hc : c ∉ refsL l) : freezeAll (H.set c y) l = none := by
  cases h2 : freezeAll (H.set c y) l with
  | none => rfl
  | some p =>
    exfalso
    by_cases hl : c < H.length
    · have := freezeAll_set (c := c) H[c] h2 hc
      rw [List.set_set] at this
      simp [h] at this
    · rw [List.set_eq_of_length_le (by omega), h] at h2; cases h2
theorem prep_set {c : Nat} (y : Chunk) : ∀ {l as : List AV} {H H1 : Hp}, prep H l = some (as, H1) → c ∉ refsL l → prep (H.set c y) l = some (as, H1.set c y)
  | [], as, H, H1, h, _ => by
    simp only [prep, Option.some.injEq, Prod.mk.injEq] at h
    obtain ⟨rfl, rfl⟩ := h; rfl
  | a :: l, as, H, H1, h, hc => by
    simp only [refsL, List.mem_append, not_or] at hc
    cases a with
    | ref d g off len =>
      simp only [prep] at h ⊢
      split at h
      · rename_i x H2 h1
        split at h
        · rename_i as2 H3 h2
          simp only [Option.some.injEq, Prod.mk.injEq] at h
          obtain ⟨rfl, rfl⟩ := h
          rw [freeze_set y h1 hc.1]
          simp only [prep_set y h2 hc.2]
        · cases h
      · cases h
    | agg cells =>
      have hcc : c ∉ refsL cells := by simpa [refsA] using hc.1
      simp only [prep] at h ⊢
      cases hf : freezeAll H cells with
      | none =>
        rw [hf] at h
        rw [freezeAll_none y hf hcc]
        simp only at h ⊢
        split at h
        · rename_i as2 H3 h2
          simp only [Option.some.injEq, Prod.mk.injEq] at h
          obtain ⟨rfl, rfl⟩ := h
          rw [prep_set y h2 hc.2]
        · cases h
      | some p =>
        obtain ⟨xs, H2⟩ := p
        rw [hf] at h
        rw [freezeAll_set y hf hcc]
        simp only at h ⊢
        split at h
        · rename_i as2 H3 h2
          simp only [Option.some.injEq, Prod.mk.injEq] at h
          obtain ⟨rfl, rfl⟩ := h
          rw [prep_set y h2 hc.2]
        · cases h
    | dead | i | ptr | clo | tup =>
      simp only [prep] at h ⊢
      split at h
      · rename_i as2 H3 h2
        simp only [Option.some.injEq, Prod.mk.injEq] at h
        obtain ⟨rfl, rfl⟩ := h
        rw [prep_set y h2 hc.2]
      · cases h
theorem matV_set {c : Nat} (y : Chunk) (z : Nat) (H : Hp) (hl : c < H.length) (a : AV) : matV z (H.set c y) a = ((matV z H a).1, (matV z H a).2.set c y) := by
  unfold matV; split
  · simp only [List.length_set]
    rw [List.set_append_left _ _ hl]
  · rfl
theorem mat1_set {c : Nat} (y : Chunk) (k : List (Option Nat)) (H : Hp) (hl : c < H.length) (a : AV) : mat1 k (H.set c y) a = ((mat1 k H a).1, (mat1 k H a).2.set c y) := by
  unfold mat1; split
  · exact matV_set y _ H hl _
  · rfl
theorem mat1_len (k : List (Option Nat)) (H : Hp) (a : AV) : H.length ≤ (mat1 k H a).2.length := by
  obtain ⟨x, hx⟩ := mat1_app k H a
  rw [hx]; simp
theorem matL_set {c : Nat} (y : Chunk) : ∀ (ks : List (List (Option Nat))) (l : List AV) (H : Hp), c < H.length → matL ks l (H.set c y) = ((matL ks l H).1, (matL ks l H).2.set c y)
  | [], l, H, _ => by simp [matL]
  | k :: ks, [], H, _ => by simp [matL]
  | k :: ks, a :: l, H, hl => by
    simp only [matL, mat1_set y k H hl a]
    rw [matL_set y ks l _ (Nat.lt_of_lt_of_le hl (mat1_len _ _ _))]
theorem prepE_set {f : FuncId} {c : Nat} (y : Chunk) {l as : List AV} {H H1 : Hp} (h : prepE E f H l = some (as, H1)) (hc : c ∉ refsL l) (hl : c < H.length) : prepE E f (H.set c y) l = some (as, H1.set c y) := by
  unfold prepE at h ⊢
  split at h
  · simp only [Option.some.injEq] at h
    simp only [matL_set y _ l H hl, h]
  · split at h
    · rename_i as2 H2 h2
      simp only [Option.some.injEq, Prod.mk.injEq] at h
      obtain ⟨rfl, rfl⟩ := h
      rw [prep_set y h2 hc]
    · cases h
theorem seen_reach (H : Hp) : ∀ (n : Nat) (l seen : List Nat) (c : Nat), c ∈ seen → c ∈ reach H n l seen
  | 0, l, seen, c, h => by cases l <;> exact h
  | n + 1, [], seen, c, h => h
  | n + 1, d :: l, seen, c, h => by
    unfold reach
    split
    · exact seen_reach H n l seen c h
    · exact seen_reach H n _ _ c (by simp [h])
theorem reach_set (H : Hp) {c : Nat} (y : Chunk) : ∀ (n : Nat) (l seen : List Nat), c ∉ reach H n l seen → reach (H.set c y) n l seen = reach H n l seen
  | 0, l, seen, _ => by cases l <;> rfl
  | n + 1, [], seen, _ => rfl
  | n + 1, d :: l, seen, h => by
    unfold reach at h ⊢
    simp only [List.length_set]
    split at h
    · rename_i h1
      rw [if_pos h1, if_pos h1]; exact reach_set H y n l seen h
    · rename_i h1
      rw [if_neg h1, if_neg h1]
      have hd : c ≠ d := by
        rintro rfl
        exact h (seen_reach H n _ _ c (by simp))
      rw [List.getElem?_set_ne hd]
      exact reach_set H y n _ _ h
theorem setAll_set {c : Nat} (y : Chunk) : ∀ (R : List Nat) (xs : List Chunk) (H : Hp), c ∉ R → setAll (H.set c y) R xs = (setAll H R xs).set c y
  | [], xs, H, _ => by cases xs <;> rfl
  | d :: R, [], H, _ => rfl
  | d :: R, x :: xs, H, h => by
    simp only [List.mem_cons, not_or] at h
    simp only [setAll]
    rw [List.set_comm _ _ h.1, setAll_set y R xs _ h.2]
theorem iso_set {f : FuncId} {args : List AV} {H' : Hp} {r : AV} {c : Nat} (y : Chunk) (h : callIso E cl f args H = some (r, H')) (hc : c ∉ calleeR E f args H) (hl : c < H.length) :
    callIso E cl f args (H.set c y) = some (r, H'.set c y) ∧ calleeR E f args (H.set c y) = calleeR E f args H := by
  unfold callIso at h
  unfold calleeR at hc ⊢
  unfold callIso
  split at h
  · cases h
  · rename_i as H1 hp
    rw [hp] at hc ⊢
    simp only [List.mem_append, not_or] at hc
    have hlen := (prepE_leaves hp).1
    have hp' := prepE_set y hp hc.1 hl
    rw [hp']
    simp only
    rw [reach_set H1 y 64 _ _ hc.2]
    refine ⟨?_, rfl⟩
    split at h
    · rename_i g hg
      simp only [Option.map_eq_some_iff, Prod.mk.injEq] at h
      obtain ⟨r1, h1, rfl, rfl⟩ := h
      simp only [h1, Option.map_some]
    · simp only at h
      have hR : ∀ d ∈ reach H1 64 (refsL as) [], c ≠ d := fun d hd e => hc.2 (e ▸ hd)
      generalize reach H1 64 (refsL as) [] = R at h hR hc ⊢
      have e1 : (R.map fun d => (((H1.set c y)[d]?).map (Chunk.ren (posIn R))).getD (.iter [] 0)) = R.map fun d => ((H1[d]?).map (Chunk.ren (posIn R))).getD (.iter [] 0) :=
        List.map_congr_left fun d hd => by rw [List.getElem?_set_ne (hR d hd)]
      rw [e1]
      split at h
      · cases h
      · rename_i r0 L hL
        split at h
        · cases h
        · rename_i hlen2
          simp only [Option.some.injEq, Prod.mk.injEq] at h
          obtain ⟨rfl, rfl⟩ := h
          simp only [hL, hlen2, if_false, List.length_set]
          rw [setAll_set y _ _ _ hc.2, List.set_append_left _ _ (by rw [setAll_length]; omega)]
theorem rows_set {x : AV} {c : Nat} (y : Chunk) (hc : c ∉ refsA x) : rowsE (H.set c y) x = rowsE H x := by
  cases x with
  | ref d g off len =>
    have hd : c ≠ d := by simpa [refsA] using hc
    simp only [rowsE, List.getElem?_set_ne hd]
  | i z => cases z <;> rfl
  | _ => rfl
theorem src_set {x : AV} {c : Nat} (y : Chunk) (hc : c ∉ refsA x) : srcE (H.set c y) x = srcE H x := by
  cases x with
  | i z => cases z <;> rfl
  | ref d g off len => exact rows_set (H := H) y hc
  | _ => rfl
theorem store_set {t : TypeId} {p v : AV} {H' : Hp} {c : Nat} (y : Chunk) (h : storeE E H t p v = some H') (hp : c ∉ refsA p) (hv : c ∉ refsA v) : storeE E (H.set c y) t p v = some (H'.set c y) := by
  unfold storeE at h ⊢
  split at h
  · rename_i n hn
    split at h
    · rename_i h1
      simp only [h1, and_self, if_true]
      cases p with
      | ptr d g r k =>
        have hd : c ≠ d := by simpa [refsA] using hp
        have hcv : c ∉ refsL (cellsA v) := fun h => hv (cellsA_refs h)
        simp only [List.getElem?_set_ne hd] at h ⊢
        split at h
        · rename_i he
          rw [he]
          split at h
          · rename_i h2
            simp only [Option.some.injEq] at h
            subst h
            simp only [h2, if_true]
            rw [List.set_comm _ _ hd]
          · cases h
        · rename_i he
          rw [he]
          split at h
          · rename_i xs H1 hfr
            rw [freezeAll_set y hfr hcv]
            simp only [List.getElem?_set_ne hd] at h ⊢
            split at h
            · rename_i he2
              rw [he2]
              split at h
              · rename_i h3
                split at h
                · rename_i row hrow
                  simp only [Option.some.injEq] at h
                  subst h
                  simp only
                  rw [if_pos h3, hrow]
                  simp only
                  rw [List.set_comm _ _ hd]
                · cases h
              · cases h
            · cases h
          · cases h
        · cases h
      | _ => cases h
    · cases h
  · cases h
theorem append_set {t t2 : TypeId} {s x v : AV} {H' : Hp} {c : Nat} (y : Chunk) (h : appendE E H t t2 s x = some (v, H')) (hs : c ∉ refsA s) (hx : c ∉ refsA x) (hl : c < H.length) : appendE E (H.set c y) t t2 s x = some (v, H'.set c y) := by
  unfold appendE at h ⊢
  rw [src_set y hx]
  split at h
  rotate_left
  · cases h
  rename_i e he
  split at h
  rotate_left
  · cases h
  rename_i z b zv z' new exn hz hb hzero hsrc
  split at h
  rotate_left
  · cases h
  rename_i hc
  rw [if_pos hc]
  cases s with
  | i u =>
    cases u with
    | sl sz rows ex =>
      simp only at h ⊢
      split at h
      · rename_i h1
        simp only [Option.some.injEq, Prod.mk.injEq] at h
        obtain ⟨rfl, rfl⟩ := h
        rw [if_pos h1, List.length_set, List.set_append_left _ _ hl]
      · cases h
    | _ => cases h
  | ref d g off len =>
    have hd : c ≠ d := by simpa [refsA] using hs
    simp only [List.getElem?_set_ne hd] at h ⊢
    split at h
    · rename_i he2
      rw [he2]
      split at h
      · rename_i h1
        simp only [Option.some.injEq, Prod.mk.injEq] at h
        obtain ⟨rfl, rfl⟩ := h
        simp only
        rw [if_pos h1, List.set_comm _ _ hd]
      · cases h
    · rename_i he2
      rw [he2]
      split at h
      · rename_i h1
        simp only [Option.some.injEq, Prod.mk.injEq] at h
        obtain ⟨rfl, rfl⟩ := h
        simp only
        rw [if_pos h1, List.length_set, List.set_append_left _ _ hl]
      · cases h
    · cases h
  | _ => cases h
theorem evOp_set {fr : Fr} {o : Op} {v : AV} {H' : Hp} {c : Nat} (y : Chunk) (h : evOp E cl o fr H = some (v, H')) (hh : heavy E o = true) (hfr : isFresh o = false) (hc : c ∉ touch E fr H o) (hl : c < H.length) :
    evOp E cl o fr (H.set c y) = some (v, H'.set c y) ∧ touch E fr (H.set c y) o = touch E fr H o := by
  cases o with
  | store t a x =>
    simp only [touch, List.mem_append, not_or] at hc
    rw [op_store0] at h ⊢
    simp only [Option.map_eq_some_iff, Prod.mk.injEq] at h ⊢
    obtain ⟨H1, h1, rfl, rfl⟩ := h
    exact ⟨⟨_, store_set y h1 hc.1 hc.2, rfl, rfl⟩, rfl⟩
  | convert s d x =>
    have e0 : ∀ H, evOp E cl (.convert s d x) fr H = evH E fr H (.convert s d x) := fun H => by simp only [evOp, hh, if_true]
    rw [e0] at h ⊢
    simp only [evH] at h ⊢
    split at h
    · rename_i l hx
      split at h
      · rename_i h1
        simp only [Option.some.injEq, Prod.mk.injEq] at h
        obtain ⟨rfl, rfl⟩ := h
        rw [if_pos h1, List.length_set, List.set_append_left _ _ hl]
        exact ⟨rfl, rfl⟩
      · cases h
    · cases h
  | range t x =>
    have e0 : ∀ H, evOp E cl (.range t x) fr H = evH E fr H (.range t x) := fun H => by simp only [evOp, hh, if_true]
    rw [e0] at h ⊢
    simp only [evH] at h ⊢
    split at h
    · rename_i l hx
      split at h
      · rename_i h1
        simp only [Option.some.injEq, Prod.mk.injEq] at h
        obtain ⟨rfl, rfl⟩ := h
        rw [if_pos h1, List.length_set, List.set_append_left _ _ hl]
        exact ⟨rfl, rfl⟩
      · cases h
    · cases h
  | next it b =>
    have e0 : ∀ H, evOp E cl (.next it b) fr H = evH E fr H (.next it b) := fun H => by simp only [evOp, hh, if_true]
    rw [e0] at h ⊢
    simp only [evH] at h ⊢
    simp only [touch] at hc
    split at h
    · rename_i d g r hx
      rw [hx] at hc
      have hd : c ≠ d := by simpa [refsA] using hc
      simp only [List.getElem?_set_ne hd]
      split at h
      · rename_i s pos he
        rw [he]
        simp only
        split at h
        · rename_i h1
          simp only [Option.some.injEq, Prod.mk.injEq] at h
          obtain ⟨rfl, rfl⟩ := h
          rw [if_pos h1, List.set_comm _ _ hd]
          exact ⟨rfl, rfl⟩
        · rename_i h1
          simp only [Option.some.injEq, Prod.mk.injEq] at h
          obtain ⟨rfl, rfl⟩ := h
          rw [if_neg h1]
          exact ⟨rfl, rfl⟩
      · cases h
    · cases h
  | call cc =>
    obtain ⟨callee, args, tys⟩ := cc
    cases callee with
    | value f =>
      simp only [evOp] at h ⊢
      simp only [touch] at hc ⊢
      split at h
      · rename_i g as hg
        rw [hg] at hc
        simp only at hc ⊢
        split at h
        · rename_i hen
          simp only [hen, if_true]
          exact iso_set y h hc hl
        · cases h
      · cases h
    | builtin b =>
      cases b with
      | append =>
        have e0 : ∀ H, evOp E cl (.call ⟨.builtin .append, args, tys⟩) fr H = evH E fr H (.call ⟨.builtin .append, args, tys⟩) := fun H => rfl
        rw [e0] at h ⊢
        simp only [evH] at h ⊢
        simp only [touch] at hc
        split at h
        · rename_i s x t t2 h1 h2
          rw [h1] at hc
          simp only [List.map_cons, List.map_nil, refsL, List.append_nil, List.mem_append, not_or] at hc
          exact ⟨append_set y h hc.1 hc.2 hl, rfl⟩
        · cases h
      | _ => simp [heavy] at hh
    | _ => simp [heavy] at hh
  | alloc | box | buildSlice | makeSlice => simp [isFresh] at hfr
  | _ => simp [heavy] at hh
end
end Go.VI
