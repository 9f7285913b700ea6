import Derived.LoopN
import Derived.LoopNIn
import Derived.OrdersIn
import Derived.RangeFuncLeaves
import Derived.RangeFuncRecord
import Derived.RangeFuncSeq
import Derived.Below
import Derived.Scope
import Derived.ChangeSame
import Derived.Test.YtediniocfjapiaaGreatDoorZTVI2
set_option linter.unusedSimpArgs false
set_option linter.unusedVariables false
set_option linter.unusedSimpArgs false
set_option linter.unusedVariables false
namespace Go.VI
section
variable {E : Env} {I : Imm} {η : Eta} {H : Hp} {w : World}

theorem mem_refsL {d : Nat} : ∀ {l : List AV}, d ∈ refsL l ↔ ∃ (k : Nat) (a : AV), l[k]? = some a ∧ d ∈ refsA a
 | [] => by simp [refsL]
 | a :: l => by
  simp only [refsL, List.mem_append, mem_refsL (l := l)]
  constructor
  ·rintro (h | ⟨k, b, h1, h2⟩)
   ·exact ⟨0, a, rfl, h⟩
   ·exact ⟨k + 1, b, by simpa using h1, h2⟩
  ·rintro ⟨k, b, h1, h2⟩
   cases k with
   | zero => simp at h1; subst h1; exact .inl h2
   | succ k => exact .inr ⟨k, b, by simpa using h1, h2⟩
theorem rel_refs {a : AV} {v : Value} (r : RelA I η H a v) : ∀ d ∈ refsA a, d < H.length := by
 induction r with
 | dead v => intro d hd; simp [refsA] at hd
 | i x v h => intro d hd; simp [refsA] at hd
 | agg cells cs hl _ ih =>
  intro d hd
  simp only [refsA] at hd
  obtain ⟨k, b, h1, h2⟩ := mem_refsL.1 hd
  exact ih k b h1 d h2
 | ref c g off len v hc hs hf hp hg => intro d hd; simp [refsA] at hd; omega
 | ptr c g r k v hc hb hs hf hi hp hg => intro d hd; simp [refsA] at hd; omega
 | mref c v hc hm ht hu hp hz => intro d hd; simp [refsA] at hd; omega
 | clo fn first caps fs cs hl hm _ _ ih1 ih2 =>
  intro d hd
  simp only [refsA, List.mem_append] at hd
  rcases hd with hd | hd
  ·obtain ⟨k, b, h1, h2⟩ := mem_refsL.1 hd
   exact ih1 k b h1 d h2
  ·obtain ⟨k, b, h1, h2⟩ := mem_refsL.1 hd
   exact ih2 k b h1 d h2
 | tup vs xs hl _ ih =>
  intro d hd
  simp only [refsA] at hd
  obtain ⟨k, b, h1, h2⟩ := mem_refsL.1 hd
  exact ih k b h1 d h2

def mvEta (η : Eta) (N c : Nat) : Eta := fun d => if d = c then η N else if d = N then none else η d
inductive Moved (H : Hp) (c : Nat) : Chunk → Chunk → AV → AV → Prop
 | box (cells : List AV) (h : ∀ d ∈ refsL cells, d < H.length) : Moved H c (.box cells) (.box cells) (.ptr H.length 0 0 0) (.ptr c 0 0 0)
 | sl (z n : Nat) (rows : List (List IV)) (ex : Bool) : Moved H c (.sl z 0 rows ex) (.sl z 1 rows ex) (.ref H.length 0 0 n) (.ref c 1 0 n)
 | map : Moved H c (.map []) (.map []) (.mref H.length) (.mref c)

theorem mv_rel {ch ch1 : Chunk} {v0 v1 : AV} {c : Nat} (hh : H[c]? = some hole) (hη : η c = none) (hk : Moved H c ch ch1 v0 v1) {a : AV} {v : Value} (r : RelA I η (H ++ [ch]) a v) :
  (∀ d ∈ refsA a, d < H.length) → RelA I (mvEta η H.length c) (H.set c ch1) a v := by
 have hcl : c < H.length := (List.getElem?_eq_some_iff.1 hh).1
 have hcc : (H ++ [ch])[c]? = some (.sl 0 0 [] true) := by rw [List.getElem?_append_left hcl]; exact hh
 have oth : ∀ d, d < H.length → d ≠ c → (H.set c ch1)[d]? = (H ++ [ch])[d]? ∧ mvEta η H.length c d = η d := by
  intro d hd hdc
  refine ⟨by rw [List.getElem?_set_ne (Ne.symm hdc), List.getElem?_append_left hd], ?_⟩
  simp [mvEta, hdc, show d ≠ H.length by omega]
 have self : (H.set c ch1)[c]? = some ch1 := List.getElem?_set_self hcl
 induction r with
 | dead v => exact fun _ => .dead v
 | i x v h => exact fun _ => .i x v h
 | agg cells cs hl _ ih => exact fun hd => .agg cells cs hl fun k a ha => ih k a ha fun d h => hd d (by simp only [refsA]; exact mem_refsL.2 ⟨k, a, ha, h⟩)
 | clo fn first caps fs cs hl hm _ _ ih1 ih2 =>
  exact fun hd => .clo fn first caps fs cs hl hm (fun k a ha => ih1 k a ha fun d h => hd d (by simp only [refsA, List.mem_append]; exact .inl (mem_refsL.2 ⟨k, a, ha, h⟩))) (fun k a ha => ih2 k a ha fun d h => hd d (by simp only [refsA, List.mem_append]; exact .inr (mem_refsL.2 ⟨k, a, ha, h⟩)))
 | tup vs xs hl _ ih => exact fun hd => .tup vs xs hl fun k a ha => ih k a ha fun d h => hd d (by simp only [refsA]; exact mem_refsL.2 ⟨k, a, ha, h⟩)
 | ref d g off len v hc hs hf hp hg =>
  intro hd
  have hdl : d < H.length := hd d (by simp [refsA])
  by_cases hdc : d = c
  ·subst hdc
   have hg0 := hg _ _ _ _ hcc
   obtain rfl : g = 0 := by omega
   cases hk with
   | box cells _ => exact .ref _ _ _ _ _ (by simpa using hdl) (fun _ _ _ h => by rw [self] at h; cases h) (fun _ _ _ h => by rw [self] at h; cases h) hp (fun _ _ _ _ h => by rw [self] at h; cases h)
   | sl z n rows ex => exact .ref _ _ _ _ _ (by simpa using hdl) (fun _ _ _ h => by rw [self] at h; cases h) (fun _ _ _ h => by rw [self] at h; cases h) hp (fun _ _ _ _ h => by omega)
   | map => exact .ref _ _ _ _ _ (by simpa using hdl) (fun _ _ _ h => by rw [self] at h; cases h) (fun _ _ _ h => by rw [self] at h; cases h) hp (fun _ _ _ _ h => by rw [self] at h; cases h)
  ·obtain ⟨e1, e2⟩ := oth d hdl hdc
   refine .ref _ _ _ _ _ (by simpa using hdl) (fun sz rows ex h => ?_) (fun sz rows ex h => hf sz rows ex (by rw [← e1]; exact h)) hp (fun sz g' rows ex h => hg sz g' rows ex (by rw [← e1]; exact h))
   exact (hs sz rows ex (by rw [← e1]; exact h)).step e2 rfl
 | mref d v hc hm ht hu hp hz =>
  intro hd
  have hdl : d < H.length := hd d (by simp [refsA])
  by_cases hdc : d = c
  ·subst hdc
   exact absurd hcc (hz _ _ _ _)
  ·obtain ⟨e1, e2⟩ := oth d hdl hdc
   refine .mref _ _ (by simpa using hdl) (fun es h => ?_) (fun t cells h => ?_) (fun t l h => ?_) hp (fun sz g rows ex h => hz _ _ _ _ (by rw [← e1]; exact h))
   ·rw [e2]; exact hm es (by rw [← e1]; exact h)
   ·rw [e2]; exact ht t cells (by rw [← e1]; exact h)
   ·rw [e2]; exact hu t l (by rw [← e1]; exact h)
 | ptr d g r k v hc hb hs hf hi hp hg =>
  intro hd
  have hdl : d < H.length := hd d (by simp [refsA])
  by_cases hdc : d = c
  ·subst hdc
   have hg0 := hg _ _ _ _ hcc
   obtain rfl : g = 0 := by omega
   obtain ⟨b, n, h1, _⟩ := hs _ _ _ hcc
   rw [hη] at h1; cases h1
  ·obtain ⟨e1, e2⟩ := oth d hdl hdc
   refine .ptr _ _ _ _ _ (by simpa using hdl) (fun cells h => ?_) (fun sz rows ex h => ?_) (fun sz rows ex row h => hf sz rows ex row (by rw [← e1]; exact h)) (fun s p h => ?_) hp (fun sz g' rows ex h => hg sz g' rows ex (by rw [← e1]; exact h))
   ·rw [e2]; exact hb cells (by rw [← e1]; exact h)
   ·rw [e2]; exact hs sz rows ex (by rw [← e1]; exact h)
   ·rw [e2]; exact hi s p (by rw [← e1]; exact h)

theorem move_ok (hC : Conc E I η H w) {c : Nat} (hh : H[c]? = some hole) {ch ch1 : Chunk} {v0 v1 : AV} {x : Value} {w' : World} (hk : Moved H c ch ch1 v0 v1)
  (hA : After E I η H w (H ++ [ch]) w' fun I' η' => RelA I' η' (H ++ [ch]) v0 x) : After E I η H w (H.set c ch1) w' fun I' η' => RelA I' η' (H.set c ch1) v1 x := by
 obtain ⟨I', η', C', T', M', R'⟩ := hA
 have hcl : c < H.length := (List.getElem?_eq_some_iff.1 hh).1
 have hcc : (H ++ [ch])[c]? = some (.sl 0 0 [] true) := by rw [List.getElem?_append_left hcl]; exact hh
 have hη : η' c = none := (C'.ch _ _ hcc).1 rfl
 have key : ∀ a v, RelA I' η' (H ++ [ch]) a v → (∀ d ∈ refsA a, d < H.length) → RelA I' (mvEta η' H.length c) (H.set c ch1) a v := fun a v r => mv_rel hh hη hk r
 have mvc : mvEta η' H.length c c = η' H.length := by simp [mvEta]
 have inv : ∀ d b n, mvEta η' H.length c d = some (b, n) → (d = c ∧ η' H.length = some (b, n)) ∨ (d ≠ c ∧ d ≠ H.length ∧ η' d = some (b, n)) := by
  intro d b n h
  unfold mvEta at h
  split at h
  ·exact .inl ⟨by assumption, h⟩
  ·split at h
   ·cases h
   ·exact .inr ⟨by assumption, by assumption, h⟩
 have lastc : (H ++ [ch])[H.length]? = some ch := by simp
 refine ⟨I', mvEta η' H.length c, ⟨C'.imm, fun d y hd => ?_, fun d d' b n n' h1 h2 => ?_, fun d b n h => ?_, C'.glob⟩,
  ⟨T'.os, T'.tape, T'.output, T'.size, T'.frame, T'.imm, T'.immNew, fun d b n h => ?_⟩, fun a v r => key a v (M' a v r) (rel_refs r), ?_⟩
 ·rcases set_get hd with ⟨rfl, rfl⟩ | ⟨hdc, hd'⟩
  ·have h := C'.ch _ _ lastc
   cases hk with
   | box cells hr =>
    obtain ⟨b, cs, elem, fz, h1, h2, h3, h4, h5⟩ := h
    exact ⟨b, cs, elem, fz, by rw [mvc]; exact h1, h2, h3, h4, fun k a ha => key _ _ (h5 k a ha) fun e he => hr e (mem_refsL.2 ⟨k, a, ha, he⟩)⟩
   | sl z n rows ex =>
    obtain ⟨h1, h2, h3⟩ := h
    refine ⟨fun e => by rw [mvc]; exact h1 e, h2, ?_⟩
    rcases h3 with ⟨h4, h5⟩ | ⟨b, cs, elem, fz, h4, h5⟩
    ·exact .inl ⟨by rw [mvc]; exact h4, h5⟩
    ·exact .inr ⟨b, cs, elem, fz, by rw [mvc]; exact h4, h5⟩
   | map =>
    obtain ⟨b, arr, cl, h1, h2, h3⟩ := h
    exact ⟨b, arr, cl, by rw [mvc]; exact h1, h2, h3.of fun a v ha => by simp at ha⟩
  ·have hdl : d < H.length := (List.getElem?_eq_some_iff.1 hd').1
   have e2 : mvEta η' H.length c d = η' d := by simp [mvEta, hdc, show d ≠ H.length by omega]
   have h := C'.ch d y (by rw [List.getElem?_append_left hdl]; exact hd')
   have h0 := hC.ch d y hd'
   cases y with
   | box cells =>
    obtain ⟨b, cs, elem, fz, h1, h2, h3, h4, h5⟩ := h
    obtain ⟨_, cs0, _, _, _, _, _, _, k5⟩ := h0
    exact ⟨b, cs, elem, fz, by rw [e2]; exact h1, h2, h3, h4, fun k a ha => key _ _ (h5 k a ha) (rel_refs (k5 k a ha))⟩
   | sl z g rows ex =>
    obtain ⟨h1, h2, h3⟩ := h
    refine ⟨fun e => by rw [e2]; exact h1 e, h2, ?_⟩
    rcases h3 with ⟨h4, h5⟩ | ⟨b, cs, elem, fz, h4, h5⟩
    ·exact .inl ⟨by rw [e2]; exact h4, h5⟩
    ·exact .inr ⟨b, cs, elem, fz, by rw [e2]; exact h4, h5⟩
   | fz z g rows ex => exact (e2.trans h : mvEta η' H.length c d = none)
   | iter s p =>
    obtain ⟨b, h1, h2⟩ := h
    exact ⟨b, by rw [e2]; exact h1, h2⟩
   | map es =>
    obtain ⟨b, arr, cl, h1, h2, h3⟩ := h
    obtain ⟨_, arr0, _, _, k2, k3⟩ := h0
    exact ⟨b, arr, cl, by rw [e2]; exact h1, h2, h3.of fun a v ha r => key _ _ r (rel_refs (k3.ex ha).choose_spec)⟩
   | tb t cells =>
    obtain ⟨b, cs, h1, h2, h4, h5⟩ := h
    obtain ⟨_, cs0, _, _, _, k5⟩ := h0
    exact ⟨b, cs, by rw [e2]; exact h1, h2, h4, fun k a ha => key _ _ (h5 k a ha) (rel_refs (k5 k a ha))⟩
   | buf t l =>
    obtain ⟨b, cs, h1, h2, h3⟩ := h
    exact ⟨b, cs, by rw [e2]; exact h1, h2, h3⟩
   | gone => exact (e2.trans h : mvEta η' H.length c d = none)
 ·rcases inv _ _ _ h1 with ⟨rfl, e1⟩ | ⟨a1, a2, e1⟩ <;> rcases inv _ _ _ h2 with ⟨rfl, e3⟩ | ⟨b1, b2, e3⟩
  ·rfl
  ·exact absurd (C'.inj _ _ _ _ _ e1 e3).symm b2
  ·exact absurd (C'.inj _ _ _ _ _ e1 e3) a2
  ·exact C'.inj _ _ _ _ _ e1 e3
 ·rcases inv _ _ _ h with ⟨rfl, e1⟩ | ⟨a1, a2, e1⟩
  ·have := C'.sep _ _ _ e1
   exact ⟨this.1, this.2.1, by simpa using hcl⟩
  ·have := C'.sep _ _ _ e1
   refine ⟨this.1, this.2.1, ?_⟩
   have h3 := this.2.2
   simp at h3 ⊢; omega
 ·rcases inv _ _ _ h with ⟨rfl, e1⟩ | ⟨a1, a2, e1⟩
  ·exact T'.own _ _ _ e1
  ·exact T'.own _ _ _ e1
 ·have self : (H.set c ch1)[c]? = some ch1 := List.getElem?_set_self hcl
  cases hk with
  | box cells hr =>
   cases R' with
   | ptr _ _ _ _ _ hc hb hs hf hi hp hg =>
    obtain ⟨b, n, h1, h2⟩ := hb _ lastc
    exact .ptr _ _ _ _ _ (by simpa using hcl) (fun cells h => ⟨b, n, by rw [mvc]; exact h1, h2⟩) (fun _ _ _ h => by rw [self] at h; cases h) (fun _ _ _ _ h => by rw [self] at h; cases h) (fun _ _ h => by rw [self] at h; cases h) hp (fun _ _ _ _ h => by omega)
  | sl z n rows ex =>
   cases R' with
   | ref _ _ _ _ _ hc hs hf hp hg =>
    have h1 := hs _ _ _ lastc
    refine .ref _ _ _ _ _ (by simpa using hcl) (fun sz rows2 ex2 h => ?_) (fun _ _ _ h => by rw [self] at h; cases h) hp (fun _ _ _ _ h => by rw [self] at h; cases h; omega)
    rw [self] at h; cases h
    unfold RefOk at h1 ⊢
    rw [mvc]; exact h1
  | map =>
   cases R' with
   | mref _ _ hc hm ht hu hp hz =>
    obtain ⟨b, n, h1, h2⟩ := hm _ lastc
    exact .mref _ _ (by simpa using hcl) (fun es h => ⟨b, n, by rw [mvc]; exact h1, h2⟩) (fun _ _ h => by rw [self] at h; cases h) (fun _ _ h => by rw [self] at h; cases h) hp (fun _ _ _ _ h => by rw [self] at h; cases h)

theorem freezeAll_nil : ∀ {l : List AV} {xs : List IV} {H1 : Hp}, freezeAll [] l = some (xs, H1) → H1 = [] ∧ ∀ H, freezeAll H l = some (xs, H)
 | [], xs, H1, h => by
  simp only [freezeAll, Option.some.injEq, Prod.mk.injEq] at h
  obtain ⟨rfl, rfl⟩ := h
  exact ⟨rfl, fun H => rfl⟩
 | a :: l, xs, H1, h => by
  simp only [freezeAll] at h
  split at h
  ·rename_i x H2 h1
   split at h
   ·rename_i ys H3 h2
    simp only [Option.some.injEq, Prod.mk.injEq] at h
    obtain ⟨rfl, rfl⟩ := h
    cases a with
    | i z =>
     simp only [freeze, Option.some.injEq, Prod.mk.injEq] at h1
     obtain ⟨rfl, rfl⟩ := h1
     obtain ⟨rfl, e⟩ := freezeAll_nil h2
     exact ⟨rfl, fun H => by simp only [freezeAll, freeze, e H]⟩
    | _ => simp [freeze] at h1
   ·cases h
  ·cases h
theorem buildSlice_nil {t : TypeId} {n : Nat} {ps : List (Nat × AV)} {k : Option (Option Nat)} {ch1 : Chunk} (h : freshOf (buildSliceE E [] t n ps) = some (k, ch1)) (H : Hp) (c : Nat) :
  ∃ v0 ch, buildSliceE E H t n ps = some (v0, H ++ [ch]) ∧ Moved H c ch ch1 v0 (mkR c k) := by
 unfold buildSliceE at h ⊢
 split at h
 rotate_left
 ·simp [freshOf] at h
 rename_i e he
 split at h
 rotate_left
 ·simp [freshOf] at h
 rename_i z zero hz hzero
 split at h
 rotate_left
 ·simp [freshOf] at h
 rename_i hc
 split at h
 rotate_left
 ·simp [freshOf] at h
 rename_i cells hfill
 split at h
 rotate_left
 ·simp [freshOf] at h
 rename_i xs H1 hfr
 obtain ⟨rfl, e1⟩ := freezeAll_nil hfr
 simp only [freshOf, List.nil_append, Option.some.injEq, Prod.mk.injEq] at h
 obtain ⟨rfl, rfl⟩ := h
 simp only [hc, and_self, if_true, hfill, e1 H]
 exact ⟨_, _, rfl, .sl _ _ _ _⟩
theorem makeSlice_nil {t : TypeId} {l m : AV} {k : Option (Option Nat)} {ch1 : Chunk} (h : freshOf (makeSliceE E [] t l m) = some (k, ch1)) (H : Hp) (c : Nat) :
  ∃ v0 ch, makeSliceE E H t l m = some (v0, H ++ [ch]) ∧ Moved H c ch ch1 v0 (mkR c k) := by
 unfold makeSliceE at h ⊢
 split at h
 rotate_left
 ·simp [freshOf] at h
 rename_i e k1 n1 k2 n2 he
 split at h
 rotate_left
 ·simp [freshOf] at h
 rename_i z row b hz hrow hb
 split at h
 rotate_left
 ·rename_i hc1
  split at h
  ·rename_i hc
   simp only [freshOf, List.nil_append, Option.some.injEq, Prod.mk.injEq] at h
   obtain ⟨rfl, rfl⟩ := h
   rw [if_neg hc1, if_pos hc]
   exact ⟨_, _, rfl, .sl _ _ _ _⟩
  ·simp [freshOf] at h
 rename_i hc
 simp only [freshOf, List.nil_append, Option.some.injEq, Prod.mk.injEq] at h
 obtain ⟨rfl, rfl⟩ := h
 rw [if_pos hc]
 exact ⟨_, _, rfl, .sl _ _ _ _⟩
theorem no_refs_ofVal (v : Value) : ∀ d, d ∉ refsL (cellsA (ofVal v)) := by
 intro d hd
 have r : RelA (fun _ => none) (fun _ => none) [] (ofVal v) v := relA_ofVal v
 have h := rel_refs r d
 have : d ∈ refsA (ofVal v) := by
  generalize ofVal v = a at hd
  cases a <;> simp only [cellsA, refsL, List.append_nil] at hd <;> exact hd
 exact absurd (h this) (by simp)
theorem cellsA_refs {a : AV} {d : Nat} (h : d ∈ refsL (cellsA a)) : d ∈ refsA a := by
 cases a <;> simp only [cellsA, refsL, List.append_nil] at h <;> exact h
theorem fresh_ev {fr : Fr} {a : Act} (hC : Conc E I η H w) (hf : FrOK I η H fr a.tmps) {o : Op} (ho : isFresh o = true) {k : Option (Option Nat)} {ch1 : Chunk} (h : freshOf (evH E fr [] o) = some (k, ch1)) (c : Nat) :
  ∃ v0 ch, evH E fr H o = some (v0, H ++ [ch]) ∧ Moved H c ch ch1 v0 (mkR c k) := by
 cases o with
 | alloc e =>
  simp only [evH] at h ⊢
  split at h
  ·rename_i v hv
   split at h
   ·rename_i h1
    split at h
    ·split at h <;> simp [freshOf] at h
    rename_i ht
    simp only [freshOf, List.nil_append, Option.some.injEq, Prod.mk.injEq] at h
    obtain ⟨rfl, rfl⟩ := h
    simp only [h1, if_true, ht]
    refine ⟨_, _, rfl, .box _ fun d hd => ?_⟩
    obtain ⟨zv, _, hze⟩ := zeroO_ok hv w
    rw [hze] at hd
    exact absurd hd (no_refs_ofVal zv d)
   ·simp [freshOf] at h
  ·simp [freshOf] at h
 | box t x =>
  simp only [evH] at h ⊢
  split at h
  ·rename_i h1
   simp only [freshOf, List.nil_append, Option.some.injEq, Prod.mk.injEq] at h
   obtain ⟨rfl, rfl⟩ := h
   simp only [h1, if_true]
   exact ⟨_, _, rfl, .box _ fun d hd => rel_refs (opd_ok hC hf x) d (cellsA_refs hd)⟩
  ·simp [freshOf] at h
 | buildSlice t n ps => exact buildSlice_nil h H c
 | makeSlice t l m => exact makeSlice_nil h H c
 | makeMap t r =>
  cases r with
  | some r => simp [isFresh] at ho
  | none =>
   simp only [evH] at h ⊢
   split at h
   ·rename_i p hp
    simp only [freshOf, List.nil_append, Option.some.injEq, Prod.mk.injEq] at h
    obtain ⟨rfl, rfl⟩ := h
    exact ⟨_, _, rfl, .map⟩
   ·simp [freshOf] at h
 | _ => simp [isFresh] at ho
end

section
variable {E : Env} {cl : CallF} {H : Hp}
theorem op_store0 {fr : Fr} (t : TypeId) (a x : Operand) : evOp E cl (.store t a x) fr H = (storeE E H t (opd E fr a) (opd E fr x)).map fun H' => (.dead, H') := rfl
theorem freeze_set {a : AV} {x : IV} {H1 : Hp} {c : Nat} (y : Chunk) (h : freeze H a = some (x, H1)) (hc : c ∉ refsA a) : freeze (H.set c y) a = some (x, H1.set c y) := by
 cases a with
 | i z =>
  simp only [freeze, Option.some.injEq, Prod.mk.injEq] at h
  obtain ⟨rfl, rfl⟩ := h; rfl
 | ref d g off len =>
  have hd : c ≠ d := by simpa [refsA] using hc
  simp only [freeze, List.getElem?_set_ne hd] at h ⊢
  split at h
  ·rename_i he
   rw [he]
   split at h
   ·rename_i hg
    simp only [Option.some.injEq, Prod.mk.injEq] at h
    obtain ⟨rfl, rfl⟩ := h
    simp only [hg, if_true]
    rw [List.set_comm _ _ hd]
   ·cases h
  ·rename_i he
   rw [he]
   split at h
   ·rename_i hg
    simp only [Option.some.injEq, Prod.mk.injEq] at h
    obtain ⟨rfl, rfl⟩ := h
    simp only [hg, if_true]
   ·cases h
  ·cases h
 | _ => simp [freeze] at h
theorem freezeAll_set {c : Nat} (y : Chunk) : ∀ {l : List AV} {H H1 : Hp} {xs : List IV}, freezeAll H l = some (xs, H1) → c ∉ refsL l → freezeAll (H.set c y) l = some (xs, H1.set c y)
 | [], H, H1, xs, h, _ => by
  simp only [freezeAll, Option.some.injEq, Prod.mk.injEq] at h
  obtain ⟨rfl, rfl⟩ := h; rfl
 | a :: l, H, H1, xs, h, hc => by
  simp only [refsL, List.mem_append, not_or] at hc
  simp only [freezeAll] at h ⊢
  split at h
  ·rename_i x H2 h1
   split at h
   ·rename_i ys H3 h2
    simp only [Option.some.injEq, Prod.mk.injEq] at h
    obtain ⟨rfl, rfl⟩ := h
    rw [freeze_set y h1 hc.1]
    simp only [freezeAll_set y h2 hc.2]
   ·cases h
  ·cases h
theorem freezeAll_none {c : Nat} (y : Chunk) {l : List AV} {H : Hp} (h : freezeAll H l = none) (hc : c ∉ refsL l) : freezeAll (H.set c y) l = none := by
 cases h2 : freezeAll (H.set c y) l with
 | none => rfl
 | some p =>
  exfalso
  by_cases hl : c < H.length
  ·have := freezeAll_set (c := c) H[c] h2 hc
   rw [List.set_set] at this
   simp [h] at this
  ·rw [List.set_eq_of_length_le (by omega), h] at h2; cases h2
theorem prep_set {c : Nat} (y : Chunk) : ∀ {l as0 : List AV} {H H1 : Hp}, prep H l = some (as0, H1) → c ∉ refsL l → prep (H.set c y) l = some (as0, H1.set c y)
 | [], as0, H, H1, h, _ => by
  simp only [prep, Option.some.injEq, Prod.mk.injEq] at h
  obtain ⟨rfl, rfl⟩ := h; rfl
 | a :: l, as0, H, H1, h, hc => by
  simp only [refsL, List.mem_append, not_or] at hc
  cases a with
  | ref d g off len =>
   simp only [prep] at h ⊢
   split at h
   ·rename_i x H2 h1
    split at h
    ·rename_i as2 H3 h2
     simp only [Option.some.injEq, Prod.mk.injEq] at h
     obtain ⟨rfl, rfl⟩ := h
     rw [freeze_set y h1 hc.1]
     simp only [prep_set y h2 hc.2]
    ·cases h
   ·cases h
  | agg cells =>
   have hcc : c ∉ refsL cells := by simpa [refsA] using hc.1
   simp only [prep] at h ⊢
   cases hf : freezeAll H cells with
   | none =>
    rw [hf] at h
    rw [freezeAll_none y hf hcc]
    simp only at h ⊢
    split at h
    ·rename_i as2 H3 h2
     simp only [Option.some.injEq, Prod.mk.injEq] at h
     obtain ⟨rfl, rfl⟩ := h
     rw [prep_set y h2 hc.2]
    ·cases h
   | some p =>
    obtain ⟨xs, H2⟩ := p
    rw [hf] at h
    rw [freezeAll_set y hf hcc]
    simp only at h ⊢
    split at h
    ·rename_i as2 H3 h2
     simp only [Option.some.injEq, Prod.mk.injEq] at h
     obtain ⟨rfl, rfl⟩ := h
     rw [prep_set y h2 hc.2]
    ·cases h
  | dead | i | ptr | mref | clo | tup =>
   simp only [prep] at h ⊢
   split at h
   ·rename_i as2 H3 h2
    simp only [Option.some.injEq, Prod.mk.injEq] at h
    obtain ⟨rfl, rfl⟩ := h
    rw [prep_set y h2 hc.2]
   ·cases h
theorem matV_set {c : Nat} (y : Chunk) (z : Nat) (H : Hp) (hl : c < H.length) (a : AV) : matV z (H.set c y) a = ((matV z H a).1, (matV z H a).2.set c y) := by
 unfold matV; split
 ·simp only [List.length_set]
  rw [List.set_append_left _ _ hl]
 ·rfl
theorem mat1_set {c : Nat} (y : Chunk) (k : List (Option Nat)) (H : Hp) (hl : c < H.length) (a : AV) : mat1 k (H.set c y) a = ((mat1 k H a).1, (mat1 k H a).2.set c y) := by
 unfold mat1; split
 ·exact matV_set y _ H hl _
 ·rfl
theorem mat1_len (k : List (Option Nat)) (H : Hp) (a : AV) : H.length ≤ (mat1 k H a).2.length := by
 obtain ⟨x, hx⟩ := mat1_app k H a
 rw [hx]; simp
theorem matL_set {c : Nat} (y : Chunk) : ∀ (ks : List (List (Option Nat))) (l : List AV) (H : Hp), c < H.length → matL ks l (H.set c y) = ((matL ks l H).1, (matL ks l H).2.set c y)
 | [], l, H, _ => by simp [matL]
 | k :: ks, [], H, _ => by simp [matL]
 | k :: ks, a :: l, H, hl => by
  simp only [matL, mat1_set y k H hl a]
  rw [matL_set y ks l _ (Nat.lt_of_lt_of_le hl (mat1_len _ _ _))]
theorem prepE_set {f : FuncId} {c : Nat} (y : Chunk) {l as0 : List AV} {H H1 : Hp} (h : prepE E f H l = some (as0, H1)) (hc : c ∉ refsL l) (hl : c < H.length) : prepE E f (H.set c y) l = some (as0, H1.set c y) := by
 unfold prepE at h ⊢
 split at h
 ·simp only [Option.some.injEq] at h
  simp only [matL_set y _ l H hl, h]
 ·split at h
  ·rename_i as2 H2 h2
   simp only [Option.some.injEq, Prod.mk.injEq] at h
   obtain ⟨rfl, rfl⟩ := h
   rw [prep_set y h2 hc]
  ·cases h
theorem seen_reach (H : Hp) : ∀ (n : Nat) (l seen : List Nat) (c : Nat), c ∈ seen → c ∈ reach H n l seen
 | 0, l, seen, c, h => by cases l <;> exact h
 | n + 1, [], seen, c, h => h
 | n + 1, d :: l, seen, c, h => by
  unfold reach
  split
  ·exact seen_reach H n l seen c h
  ·exact seen_reach H n _ _ c (by simp [h])
theorem reach_set (H : Hp) {c : Nat} (y : Chunk) : ∀ (n : Nat) (l seen : List Nat), c ∉ reach H n l seen → reach (H.set c y) n l seen = reach H n l seen
 | 0, l, seen, _ => by cases l <;> rfl
 | n + 1, [], seen, _ => rfl
 | n + 1, d :: l, seen, h => by
  unfold reach at h ⊢
  simp only [List.length_set]
  split at h
  ·rename_i h1
   rw [if_pos h1, if_pos h1]; exact reach_set H y n l seen h
  ·rename_i h1
   rw [if_neg h1, if_neg h1]
   have hd : c ≠ d := by
    rintro rfl
    exact h (seen_reach H n _ _ c (by simp))
   rw [List.getElem?_set_ne hd]
   exact reach_set H y n _ _ h
theorem setAll_set {c : Nat} (y : Chunk) : ∀ (R : List Nat) (xs : List Chunk) (H : Hp), c ∉ R → setAll (H.set c y) R xs = (setAll H R xs).set c y
 | [], xs, H, _ => by cases xs <;> rfl
 | d :: R, [], H, _ => rfl
 | d :: R, x :: xs, H, h => by
  simp only [List.mem_cons, not_or] at h
  simp only [setAll]
  rw [List.set_comm _ _ h.1, setAll_set y R xs _ h.2]
theorem iso_set {f : FuncId} {args : List AV} {H' : Hp} {r : AV} {c : Nat} (y : Chunk) (h : callIso E cl f args H = some (r, H')) (hc : c ∉ calleeR E f args H) (hl : c < H.length) :
  callIso E cl f args (H.set c y) = some (r, H'.set c y) ∧ calleeR E f args (H.set c y) = calleeR E f args H := by
 unfold callIso at h
 unfold calleeR at hc ⊢
 unfold callIso
 split at h
 ·cases h
 ·rename_i as0 H1 hp
  rw [hp] at hc ⊢
  simp only [List.mem_append, not_or] at hc
  have hlen := (prepE_leaves hp).1
  have hp' := prepE_set y hp hc.1 hl
  rw [hp']
  simp only
  rw [reach_set H1 y 64 _ _ hc.2]
  refine ⟨?_, rfl⟩
  simp only at h
  have hR : ∀ d ∈ reach H1 64 (refsL as0) [], c ≠ d := fun d hd e => hc.2 (e ▸ hd)
  generalize reach H1 64 (refsL as0) [] = R at h hR hc ⊢
  have e1 : (R.map fun d => (((H1.set c y)[d]?).map (Chunk.ren (posIn R))).getD (.iter [] 0)) = R.map fun d => ((H1[d]?).map (Chunk.ren (posIn R))).getD (.iter [] 0) :=
   List.map_congr_left fun d hd => by rw [List.getElem?_set_ne (hR d hd)]
  rw [e1]
  split at h
  ·cases h
  ·rename_i r0 L hL
   split at h
   ·cases h
   ·rename_i hlen2
    simp only [Option.some.injEq, Prod.mk.injEq] at h
    obtain ⟨rfl, rfl⟩ := h
    simp only [hL, hlen2, if_false, List.length_set]
    rw [setAll_set y _ _ _ hc.2, List.set_append_left _ _ (by rw [setAll_length]; omega)]
theorem callM_set {f : FuncId} {args : List AV} {H' : Hp} {r : AV} {c : Nat} (y : Chunk) (h : callM E cl f args H = some (r, H')) (hc : c ∉ calleeM E f args H) (hc2 : c + bigN ∉ calleeM E f args H) (hl : c < H.length) :
  callM E cl f args (H.set c y) = some (r, H'.set c y) ∧ calleeM E f args (H.set c y) = calleeM E f args H := by
 unfold callM at h ⊢
 unfold calleeM at hc hc2 ⊢
 cases hm : E.mkc f with
 | none =>
  rw [hm] at h hc hc2
  simp only at h hc hc2 ⊢
  cases hr : E.rdr f with
  | false => rw [hr] at h hc; exact iso_set y h hc hl
  | true =>
   rw [hr] at h hc2
   simp only at h hc2 ⊢
   obtain ⟨rfl, h3⟩ := rdrK_some h
   have hcr : c ∉ calleeR E f args H' := fun hm2 => hc2 (List.mem_map.2 ⟨c, hm2, rfl⟩)
   obtain ⟨e1, e2⟩ := iso_set y h3 hcr hl
   exact ⟨by rw [e1]; exact rdrK_self _, by rw [e2]⟩
 | some fn =>
  rw [hm] at h
  simp only at h ⊢
  refine ⟨?_, trivial⟩
  unfold mkE at h ⊢
  split at h
  ·split at h
   ·rename_i ho
    cases h
    rw [if_pos ho, List.length_set, List.set_append_left _ _ hl]
   ·cases h
  ·cases h
theorem rows_set {x : AV} {c : Nat} (y : Chunk) (hc : c ∉ refsA x) : rowsE (H.set c y) x = rowsE H x := by
 cases x with
 | ref d g off len =>
  have hd : c ≠ d := by simpa [refsA] using hc
  simp only [rowsE, List.getElem?_set_ne hd]
 | i z => cases z <;> rfl
 | _ => rfl
theorem src_set {x : AV} {c : Nat} (y : Chunk) (hc : c ∉ refsA x) : srcE (H.set c y) x = srcE H x := by
 cases x with
 | i z => cases z <;> rfl
 | ref d g off len => exact rows_set (H := H) y hc
 | _ => rfl
theorem store_set {t : TypeId} {p v : AV} {H' : Hp} {c : Nat} (y : Chunk) (h : storeE E H t p v = some H') (hp : c ∉ refsA p) (hv : c ∉ refsA v) : storeE E (H.set c y) t p v = some (H'.set c y) := by
 unfold storeE at h ⊢
 split at h
 ·rename_i n hn
  split at h
  ·rename_i h1
   simp only [h1, and_self, if_true]
   cases p with
   | ptr d g r k =>
    have hd : c ≠ d := by simpa [refsA] using hp
    have hcv : c ∉ refsL (cellsA v) := fun h => hv (cellsA_refs h)
    simp only [List.getElem?_set_ne hd] at h ⊢
    split at h
    ·rename_i he
     rw [he]
     split at h
     ·rename_i h2
      simp only [Option.some.injEq] at h
      subst h
      simp only [h2, if_true]
      rw [List.set_comm _ _ hd]
     ·cases h
    ·rename_i he
     rw [he]
     split at h
     ·rename_i xs H1 hfr
      rw [freezeAll_set y hfr hcv]
      simp only [List.getElem?_set_ne hd] at h ⊢
      split at h
      ·rename_i he2
       rw [he2]
       split at h
       ·rename_i h3
        split at h
        ·rename_i row hrow
         simp only [Option.some.injEq] at h
         subst h
         simp only
         rw [if_pos h3, hrow]
         simp only
         rw [List.set_comm _ _ hd]
        ·cases h
       ·cases h
      ·cases h
     ·cases h
    ·cases h
   | _ => cases h
  ·cases h
 ·cases h
theorem append_set {t t2 : TypeId} {s x v : AV} {H' : Hp} {c : Nat} (y : Chunk) (h : appendE E H t t2 s x = some (v, H')) (hs : c ∉ refsA s) (hx : c ∉ refsA x) (hl : c < H.length) : appendE E (H.set c y) t t2 s x = some (v, H'.set c y) := by
 unfold appendE at h ⊢
 rw [src_set y hx]
 split at h
 rotate_left
 ·cases h
 rename_i e he
 split at h
 rotate_left
 ·cases h
 rename_i z b zv z' new exn hz hb hzero hsrc
 split at h
 rotate_left
 ·cases h
 rename_i hc
 rw [if_pos hc]
 cases s with
 | i u =>
  cases u with
  | sl sz rows ex =>
   simp only at h ⊢
   split at h
   ·rename_i h1
    simp only [Option.some.injEq, Prod.mk.injEq] at h
    obtain ⟨rfl, rfl⟩ := h
    rw [if_pos h1, List.length_set, List.set_append_left _ _ hl]
   ·cases h
  | _ => cases h
 | ref d g off len =>
  have hd : c ≠ d := by simpa [refsA] using hs
  simp only [List.getElem?_set_ne hd] at h ⊢
  split at h
  ·rename_i he2
   rw [he2]
   split at h
   ·rename_i h1
    simp only [Option.some.injEq, Prod.mk.injEq] at h
    obtain ⟨rfl, rfl⟩ := h
    simp only
    rw [if_pos h1, List.set_comm _ _ hd]
   ·cases h
  ·rename_i he2
   rw [he2]
   split at h
   ·rename_i h1
    simp only [Option.some.injEq, Prod.mk.injEq] at h
    obtain ⟨rfl, rfl⟩ := h
    simp only
    rw [if_pos h1, List.length_set, List.set_append_left _ _ hl]
   ·cases h
  ·cases h
 | _ => cases h
theorem copy_set {t : TypeId} {d x v : AV} {H' : Hp} {c : Nat} (y : Chunk) (h : copyE E H t d x = some (v, H')) (hs : c ∉ refsA d) (hx : c ∉ refsA x) : copyE E (H.set c y) t d x = some (v, H'.set c y) := by
 unfold copyE at h ⊢
 rw [rows_set y hx]
 split at h
 rotate_left
 ·cases h
 rename_i e he
 split at h
 rotate_left
 ·cases h
 rename_i z d' g off len z' new exn hz hrows
 split at h
 rotate_left
 ·cases h
 rename_i hc
 rw [if_pos hc]
 have hd : c ≠ d' := by simpa [refsA] using hs
 simp only [List.getElem?_set_ne hd] at h ⊢
 unfold copyC at h ⊢
 split at h
 ·rename_i he2
  rw [he2]
  split at h
  ·rename_i h1
   simp only [Option.some.injEq, Prod.mk.injEq] at h
   obtain ⟨rfl, rfl⟩ := h
   simp only
   rw [if_pos h1, List.set_comm _ _ hd]
  ·cases h
 ·cases h
theorem setM_set {t : TypeId} {m k x v : AV} {H' : Hp} {c : Nat} (y : Chunk) (h : setM E H t m k x = some (v, H')) (hc : c ∉ refsA m) : setM E (H.set c y) t m k x = some (v, H'.set c y) := by
 unfold setM at h ⊢
 split at h
 ·rename_i d
  have hd : c ≠ d := by simpa [refsA] using hc
  simp only [List.getElem?_set_ne hd]
  unfold setC at h ⊢
  split at h
  ·rename_i es he
   rw [he]
   simp only
   split at h
   ·rename_i kt e kv h1
    split at h
    ·rename_i h2
     simp only [Option.map_eq_some_iff, Prod.mk.injEq] at h
     obtain ⟨es', h3, rfl, rfl⟩ := h
     simp only [h1, h2, and_self, if_true, h3, Option.map_some, List.set_comm _ _ hd]
    ·cases h
   ·cases h
  ·cases h
 ·cases h
theorem evOp_set {fr : Fr} {o : Op} {v : AV} {H' : Hp} {c : Nat} (y : Chunk) (h : evOp E cl o fr H = some (v, H')) (hh : heavy E o = true) (hfr : isFresh o = false) (hc : c ∉ touch E fr H o) (hc2 : c + bigN ∉ touch E fr H o) (hl : c < H.length) :
  evOp E cl o fr (H.set c y) = some (v, H'.set c y) ∧ touch E fr (H.set c y) o = touch E fr H o := by
 cases o with
 | store t a x =>
  simp only [touch, List.mem_append, not_or] at hc
  rw [op_store0] at h ⊢
  simp only [Option.map_eq_some_iff, Prod.mk.injEq] at h ⊢
  obtain ⟨H1, h1, rfl, rfl⟩ := h
  exact ⟨⟨_, store_set y h1 hc.1 hc.2, rfl, rfl⟩, rfl⟩
 | convert s d x =>
  have e0 : ∀ H, evOp E cl (.convert s d x) fr H = evH E fr H (.convert s d x) := fun H => by simp only [evOp, hh, if_true]
  rw [e0] at h ⊢
  simp only [evH] at h ⊢
  split at h
  ·rename_i l hx
   split at h
   ·rename_i h1
    rw [if_pos h1]
    unfold convH at h ⊢
    split at h
    ·simp only [Option.some.injEq, Prod.mk.injEq] at h
     obtain ⟨rfl, rfl⟩ := h
     rw [List.length_set, List.set_append_left _ _ hl]
     exact ⟨rfl, rfl⟩
    ·simp only [Option.some.injEq, Prod.mk.injEq] at h
     obtain ⟨rfl, rfl⟩ := h
     rw [List.length_set, List.set_append_left _ _ hl]
     exact ⟨rfl, rfl⟩
    ·cases h
   ·cases h
  ·cases h
 | slice t x lo hi mx =>
  cases mx with
  | none => simp [heavy] at hh
  | some m =>
   have e0 : ∀ H, evOp E cl (.slice t x lo hi (some m)) fr H = evH E fr H (.slice t x lo hi (some m)) := fun H => by simp only [evOp, hh, if_true]
   rw [e0] at h ⊢
   simp only [evH] at h ⊢
   simp only [touch] at hc
   split at h
   ·rename_i z H1 hz
    simp only [Option.map_eq_some_iff, Prod.mk.injEq] at h
    obtain ⟨v1, h1, rfl, rfl⟩ := h
    rw [freeze_set y hz hc]
    simp only [Option.map_eq_some_iff, Prod.mk.injEq]
    have hs : sliceE E (H1.set c y) t (.i z) (lo.map (opd E fr)) (hi.map (opd E fr)) (some (opd E fr m)) = sliceE E H1 t (.i z) (lo.map (opd E fr)) (hi.map (opd E fr)) (some (opd E fr m)) := by
     unfold sliceE
     cases z <;> rfl
    exact ⟨⟨v1, by rw [hs]; exact h1, by simp⟩, by first | rfl | trivial⟩
   ·cases h
 | range t x =>
  have e0 : ∀ H, evOp E cl (.range t x) fr H = evH E fr H (.range t x) := fun H => by simp only [evOp, hh, if_true]
  rw [e0] at h ⊢
  simp only [evH] at h ⊢
  split at h
  ·rename_i l hx
   split at h
   ·rename_i h1
    simp only [Option.some.injEq, Prod.mk.injEq] at h
    obtain ⟨rfl, rfl⟩ := h
    rw [if_pos h1, List.length_set, List.set_append_left _ _ hl]
    exact ⟨rfl, rfl⟩
   ·cases h
  ·cases h
 | makeMap t r =>
  cases r with
  | some r => simp only [evOp, hh, if_true, evH] at h; cases h
  | none => simp [isFresh] at hfr
 | mapUpdate t m k x =>
  have e0 : ∀ H, evOp E cl (.mapUpdate t m k x) fr H = evH E fr H (.mapUpdate t m k x) := fun H => by simp only [evOp, hh, if_true]
  rw [e0] at h ⊢
  simp only [evH] at h ⊢
  simp only [touch, List.mem_append, not_or] at hc
  exact ⟨setM_set y h hc.1, rfl⟩
 | insert t m k x =>
  have e0 : ∀ H, evOp E cl (.insert t m k x) fr H = evH E fr H (.insert t m k x) := fun H => by simp only [evOp, hh, if_true]
  rw [e0] at h ⊢
  simp only [evH] at h ⊢
  simp only [touch, List.mem_append, not_or] at hc
  exact ⟨setM_set y h hc.1, rfl⟩
 | next it b =>
  have e0 : ∀ H, evOp E cl (.next it b) fr H = evH E fr H (.next it b) := fun H => by simp only [evOp, hh, if_true]
  rw [e0] at h ⊢
  simp only [evH] at h ⊢
  simp only [touch] at hc
  split at h
  ·rename_i d g r hx
   rw [hx] at hc
   have hd : c ≠ d := by simpa [refsA] using hc
   simp only [List.getElem?_set_ne hd]
   split at h
   ·rename_i s pos he
    rw [he]
    simp only
    split at h
    ·rename_i h1
     simp only [Option.some.injEq, Prod.mk.injEq] at h
     obtain ⟨rfl, rfl⟩ := h
     rw [if_pos h1, List.set_comm _ _ hd]
     exact ⟨rfl, rfl⟩
    ·rename_i h1
     simp only [Option.some.injEq, Prod.mk.injEq] at h
     obtain ⟨rfl, rfl⟩ := h
     rw [if_neg h1]
     exact ⟨rfl, rfl⟩
   ·cases h
  ·cases h
 | call cc =>
  obtain ⟨callee, args, tys⟩ := cc
  cases callee with
  | value f =>
   simp only [evOp] at h ⊢
   simp only [touch] at hc hc2 ⊢
   split at h
   ·rename_i g as0 hg
    rw [hg] at hc hc2
    simp only at hc hc2 ⊢
    split at h
    ·rename_i hen
     simp only [hen, if_true]
     exact callM_set y h hc hc2 hl
    ·cases h
   ·cases h
  | builtin b =>
   cases b with
   | append =>
    have e0 : ∀ H, evOp E cl (.call ⟨.builtin .append, args, tys⟩) fr H = evH E fr H (.call ⟨.builtin .append, args, tys⟩) := fun H => rfl
    rw [e0] at h ⊢
    simp only [evH] at h ⊢
    simp only [touch] at hc
    split at h
    ·rename_i s x t t2 h1 h2
     rw [h1] at hc
     simp only [List.map_cons, List.map_nil, refsL, List.append_nil, List.mem_append, not_or] at hc
     exact ⟨append_set y h hc.1 hc.2 hl, rfl⟩
    ·rename_i hb _ _; cases hb
    ·cases h
   | copy =>
    have e0 : ∀ H, evOp E cl (.call ⟨.builtin .copy, args, tys⟩) fr H = evH E fr H (.call ⟨.builtin .copy, args, tys⟩) := fun H => rfl
    rw [e0] at h ⊢
    simp only [evH] at h ⊢
    simp only [touch] at hc
    split at h
    ·rename_i hb _ _; cases hb
    ·rename_i d x t t2 h1 h2
     rw [h1] at hc
     simp only [List.map_cons, List.map_nil, refsL, List.append_nil, List.mem_append, not_or] at hc
     exact ⟨copy_set y h hc.1 hc.2, rfl⟩
    ·cases h
   | _ => simp [heavy] at hh
  | _ => simp [heavy] at hh
 | alloc | box | buildSlice | makeSlice => simp [isFresh] at hfr
 | _ => simp [heavy] at hh

theorem ltB_total : ∀ {a b : List UInt8}, a ≠ b → ltB b a = !ltB a b
 | [], [], h => absurd rfl h
 | [], _ :: _, _ => rfl
 | _ :: _, [], _ => rfl
 | a :: r, b :: t, h => by
  simp only [ltB]
  by_cases h1 : a.toNat < b.toNat
  ·rw [if_pos h1, if_neg (show ¬ b.toNat < a.toNat by omega), if_neg (show ¬ b.toNat = a.toNat by omega)]; rfl
  ·by_cases h2 : b.toNat < a.toNat
   ·rw [if_pos h2, if_neg h1, if_neg (show ¬ a.toNat = b.toNat by omega)]; rfl
   ·have h3 : a.toNat = b.toNat := by omega
    rw [if_neg h1, if_neg h2, if_pos h3, if_pos h3.symm]
    have hab : a = b := UInt8.toNat_inj.1 h3
    subst hab
    exact ltB_total fun e => h (by rw [e])
theorem ltB_trans : ∀ {a b c : List UInt8}, ltB a b = true → ltB b c = true → ltB a c = true
 | [], [], _, h, _ => by cases h
 | [], _ :: _, [], _, h => by simp [ltB] at h
 | [], _ :: _, _ :: _, _, _ => rfl
 | _ :: _, [], _, h, _ => by simp [ltB] at h
 | _ :: _, _ :: _, [], _, h => by simp [ltB] at h
 | a :: r, b :: t, c :: u, h, k => by
  simp only [ltB] at h k ⊢
  by_cases h1 : a.toNat < b.toNat
  ·by_cases k1 : b.toNat < c.toNat
   ·rw [if_pos (by omega)]
   ·rw [if_neg k1] at k
    by_cases k2 : b.toNat = c.toNat
    ·rw [if_pos (by omega)]
    ·rw [if_neg k2] at k; cases k
  ·rw [if_neg h1] at h
   by_cases h2 : a.toNat = b.toNat
   ·rw [if_pos h2] at h
    by_cases k1 : b.toNat < c.toNat
    ·rw [if_pos (by omega)]
    ·rw [if_neg k1] at k
     by_cases k2 : b.toNat = c.toNat
     ·rw [if_pos k2] at k
      rw [if_neg (by omega), if_pos (by omega)]
      exact ltB_trans h k
     ·rw [if_neg k2] at k; cases k
   ·rw [if_neg h2] at h; cases h
theorem sameK_no {a b : IV} (h : sameK a b = some false) : (∃ k x y, a = .v (.int k x) ∧ b = .v (.int k y) ∧ x ≠ y) ∨ ∃ s t, a = .str s ∧ b = .str t ∧ s ≠ t := by
 unfold sameK at h
 split at h
 ·split at h
  ·rename_i hk
   subst hk
   exact .inl ⟨_, _, _, rfl, rfl, of_decide_eq_false (Option.some.inj h)⟩
  ·cases h
 ·exact .inr ⟨_, _, rfl, rfl, of_decide_eq_false (Option.some.inj h)⟩
 ·cases h
theorem ltK_yes {a b : IV} (h : ltK a b = true) : (∃ k k' x y, a = .v (.int k x) ∧ b = .v (.int k' y) ∧ x < y) ∨ ∃ s t, a = .str s ∧ b = .str t ∧ ltB s t = true := by
 unfold ltK at h
 split at h
 ·exact .inl ⟨_, _, _, _, rfl, rfl, of_decide_eq_true h⟩
 ·exact .inr ⟨_, _, rfl, rfl, h⟩
 ·cases h
theorem ltK_total {a b : IV} (h : sameK a b = some false) : ltK b a = !ltK a b := by
 rcases sameK_no h with ⟨k, x, y, rfl, rfl, hn⟩ | ⟨s, t, rfl, rfl, hn⟩
 ·simp only [ltK]
  by_cases h1 : x < y
  ·rw [decide_eq_true h1, decide_eq_false (by omega)]; rfl
  ·rw [decide_eq_false h1, decide_eq_true (by omega)]; rfl
 ·exact ltB_total hn
theorem ltK_trans {a b c : IV} (h : ltK a b = true) (k : ltK b c = true) : ltK a c = true := by
 rcases ltK_yes h with ⟨k1, k2, x, y, rfl, rfl, hn⟩ | ⟨s, t, rfl, rfl, hn⟩
 ·rcases ltK_yes k with ⟨k3, k4, z, u, e, rfl, hm⟩ | ⟨s, t, e, _, _⟩
  ·cases e
   exact decide_eq_true (by omega)
  ·cases e
 ·rcases ltK_yes k with ⟨k3, k4, z, u, e, _, _⟩ | ⟨s2, t2, e, rfl, hm⟩
  ·cases e
  ·cases e
   exact ltB_trans hn hm
theorem ins_comm {k1 k2 : IV} (v1 v2 : AV) (hk : sameK k1 k2 = some false) : ∀ es : List (IV × AV), insK k2 v2 (insK k1 v1 es) = insK k1 v1 (insK k2 v2 es)
 | [] => by
  simp only [insK, ltK_total hk]
  cases ltK k1 k2 <;> rfl
 | p :: r => by
  have ht := ltK_total hk
  cases h1 : ltK k1 p.1 <;> cases h2 : ltK k2 p.1
  ·simp only [insK, h1, h2, Bool.false_eq_true, if_false, ins_comm v1 v2 hk r]
  ·-- k2 < p, k1 is not
   have h3 : ltK k1 k2 = false := by
    cases h : ltK k1 k2 with
    | false => rfl
    | true => rw [ltK_trans h h2] at h1; cases h1
   simp only [insK, h1, h2, h3, Bool.false_eq_true, if_false, if_true]
  ·have h3 : ltK k2 k1 = false := by
    cases h : ltK k2 k1 with
    | false => rfl
    | true => rw [ltK_trans h h1] at h2; cases h2
   simp only [insK, h1, h2, h3, Bool.false_eq_true, if_false, if_true]
  ·simp only [insK, h1, h2, if_true]
   rw [ht]
   cases ltK k1 k2 <;> simp [h1, h2]
theorem ins_rep {k1 k2 : IV} (v1 v2 : AV) (hk : sameK k2 k1 = some false) : ∀ es : List (IV × AV), insK k1 v1 (repK k2 v2 es) = repK k2 v2 (insK k1 v1 es)
 | [] => by simp [insK, repK, hk]
 | p :: r => by
  simp only [insK, repK, repK_fst]
  split
  ·simp [repK, hk]
  ·simp only [repK, ins_rep v1 v2 hk r]
theorem rep_rep {k1 k2 : IV} (v1 v2 : AV) (hk : sameK k1 k2 = some false) : ∀ es : List (IV × AV), repK k2 v2 (repK k1 v1 es) = repK k1 v1 (repK k2 v2 es)
 | [] => rfl
 | p :: r => by
  simp only [repK, rep_rep v1 v2 hk r]
  congr 1
  have hk' : sameK k2 k1 = some false := by rw [sameK_symm]; exact hk
  obtain ⟨j, u⟩ := p
  by_cases h1 : sameK k1 j = some true
  ·have e1 := sameK_eq h1
   subst e1
   simp [h1, hk']
  ·by_cases h2 : sameK k2 j = some true
   ·simp [h1, h2, hk]
   ·simp [h1, h2]
theorem find_ins {k k1 : IV} (v1 : AV) (hk : sameK k k1 = some false) : ∀ es : List (IV × AV), findK k (insK k1 v1 es) = findK k es
 | [] => by simp [insK, findK, hk]
 | (j, u) :: r => by
  simp only [insK]
  split
  ·simp [findK, hk]
  ·simp only [findK, find_ins v1 hk r]
theorem find_rep {k k1 : IV} (v1 : AV) (hk : sameK k k1 = some false) : ∀ es : List (IV × AV), findK k (repK k1 v1 es) = findK k es
 | [] => rfl
 | (j, u) :: r => by
  simp only [repK]
  by_cases h1 : sameK k1 j = some true
  ·have e1 := sameK_eq h1
   subst e1
   simp only [h1, if_true, findK, hk, find_rep v1 hk r]
  ·simp only [h1, if_false, findK, find_rep v1 hk r]
theorem putK_comm {k1 k2 : IV} {v1 v2 : AV} {es A C : List (IV × AV)} (hk : sameK k1 k2 = some false) (h1 : putK k1 v1 es = some A) (h2 : putK k2 v2 A = some C) : ∃ B, putK k2 v2 es = some B ∧ putK k1 v1 B = some C := by
 have hk' : sameK k2 k1 = some false := by rw [sameK_symm]; exact hk
 unfold putK at h1
 split at h1
 ·rename_i f1
  cases h1
  unfold putK at h2
  rw [find_ins v1 hk'] at h2
  split at h2
  ·rename_i f2
   cases h2
   exact ⟨insK k2 v2 es, by unfold putK; rw [f2], by unfold putK; rw [find_ins v2 hk, f1, ins_comm v1 v2 hk]⟩
  ·rename_i f2
   cases h2
   exact ⟨repK k2 v2 es, by unfold putK; rw [f2], by unfold putK; rw [find_rep v2 hk, f1, ins_rep v1 v2 hk']⟩
  ·cases h2
 ·rename_i f1
  cases h1
  unfold putK at h2
  rw [find_rep v1 hk'] at h2
  split at h2
  ·rename_i f2
   cases h2
   exact ⟨insK k2 v2 es, by unfold putK; rw [f2], by unfold putK; rw [find_ins v2 hk, f1, ins_rep v2 v1 hk]⟩
  ·rename_i f2
   cases h2
   exact ⟨repK k2 v2 es, by unfold putK; rw [f2], by unfold putK; rw [find_rep v2 hk, f1, rep_rep v1 v2 hk]⟩
  ·cases h2
 ·cases h1
theorem setM_shape {t : TypeId} {m k x v : AV} {H' : Hp} (h : setM E H t m k x = some (v, H')) : ∃ c kv es es', m = .mref c ∧ k = .i kv ∧ v = .dead ∧ c < H.length ∧ H[c]? = some (.map es) ∧ putK kv x es = some es' ∧ H' = H.set c (.map es') ∧
  ∀ (H2 : Hp) (es2 es2' : List (IV × AV)), H2[c]? = some (.map es2) → putK kv x es2 = some es2' → setM E H2 t m k x = some (.dead, H2.set c (.map es2')) := by
 unfold setM at h
 split at h
 ·rename_i c
  unfold setC at h
  split at h
  ·rename_i es hH
   split at h
   ·rename_i kt e kv hm
    split at h
    ·rename_i hk
     simp only [Option.map_eq_some_iff, Prod.mk.injEq] at h
     obtain ⟨es', hp, rfl, rfl⟩ := h
     refine ⟨c, kv, es, es', rfl, rfl, rfl, (List.getElem?_eq_some_iff.1 hH).1, hH, hp, rfl, fun H2 es2 es2' h1 h2 => ?_⟩
     simp only [setM, setC, h1, hm, hk, and_self, if_true, h2, Option.map_some]
    ·cases h
   ·cases h
  ·cases h
 ·cases h
theorem ins_shape {fr : Fr} {o : Op} {v : AV} {H' : Hp} (hi : isIns o = true) (h : evOp E cl o fr H = some (v, H')) : ∃ c ch', v = .dead ∧ H' = H.set c ch' ∧ (c ∈ touch E fr H o ∧ c + bigN ∈ touch E fr H o) ∧ c < H.length ∧
  (∀ H2 : Hp, H2[c]? = H[c]? → evOp E cl o fr H2 = some (.dead, H2.set c ch')) ∧ ∀ H2 : Hp, touch E fr H2 o = touch E fr H o := by
 have main : ∀ (t : TypeId) (m k x : Operand), (∀ H, evOp E cl o fr H = setM E H t (opd E fr m) (opd E fr k) (opd E fr x)) → (∀ H : Hp, touch E fr H o = refsA (opd E fr m) ++ (refsA (opd E fr m)).map (· + bigN)) → ∃ c ch', v = .dead ∧ H' = H.set c ch' ∧ (c ∈ touch E fr H o ∧ c + bigN ∈ touch E fr H o) ∧ c < H.length ∧
   (∀ H2 : Hp, H2[c]? = H[c]? → evOp E cl o fr H2 = some (.dead, H2.set c ch')) ∧ ∀ H2 : Hp, touch E fr H2 o = touch E fr H o := by
  intro t m k x he ht
  rw [he] at h
  obtain ⟨c, kv, es, es', e1, e2, rfl, e3, e4, e5, rfl, e6⟩ := setM_shape h
  exact ⟨c, _, rfl, rfl, ⟨by rw [ht, e1]; simp [refsA], by rw [ht, e1]; simp [refsA]⟩, e3, fun H2 h2 => by rw [he]; exact e6 H2 es es' (by rw [h2]; exact e4) e5, fun H2 => by rw [ht, ht]⟩
 cases o with
 | insert t m k x => exact main t m k x (fun H => rfl) fun H => rfl
 | mapUpdate t m k x => exact main t m k x (fun H => rfl) fun H => rfl
 | _ => simp [isIns] at hi
theorem set_back {c : Nat} {ch : Chunk} {L : Hp} (h : L[c]? = some ch) : L.set c ch = L := by
 obtain ⟨h1, h2⟩ := List.getElem?_eq_some_iff.1 h
 rw [← h2]; exact List.set_getElem_self h1
end
end Go.VI

set_option linter.unusedSimpArgs false
set_option linter.unusedVariables false
namespace Go.VI
section
variable {E : Env} {cl : CallF} {ops : Array Oper}

noncomputable def val1D (E : Env) (cl : CallF) (ops : Array Oper) (c : Nat) (o : Oper) (fr : Fr) (H : Hp) : Option (AV × Hp × List Nat) :=
 match guardE ops.toList fr o with
 | some true => match evOpD E cl c o.op fr H with
  | some (v, H') => some (v, H', touchD E c fr H o.op ++ List.range' H.length (H'.length - H.length))
  | none => none
 | some false => some (.tup [], H, [])
 | none => none
theorem evD_cons {c : Nat} {o : Oper} {r : List Oper} {fr : Fr} {H : Hp} : evD E cl ops.toList c (o :: r) fr H = match val1D E cl ops c o fr H with
  | some (v, H', T) => match evD E cl ops.toList (stepC c o.op) r (putD o.dst v fr) H' with
   | some (fr2, H2, ts) => some (fr2, H2, T :: ts)
   | none => none
  | none => none := by
 simp only [evD, val1D]
 cases guardE ops.toList fr o with
 | none => rfl
 | some b =>
  cases b with
  | false => rfl
  | true => cases evOpD E cl c o.op fr H <;> rfl
theorem evOpD_agree {c : Nat} {fr fr' : Fr} {H : Hp} {op : Op} (h : Agree E fr fr' op) : evOpD E cl c op fr H = evOpD E cl c op fr' H := by
 unfold evOpD; rw [evH_agree h, evOp_agree h]
theorem touchD_agree {c : Nat} {fr fr' : Fr} {H : Hp} {op : Op} (h : Agree E fr fr' op) : touchD E c fr H op = touchD E c fr' H op := by
 unfold touchD; rw [touch_agree h]
theorem val_eqD {c : Nat} {fr fr' : Fr} (h : FrEq fr fr') (o : Oper) (H : Hp) : val1D E cl ops c o fr H = val1D E cl ops c o fr' H := by
 unfold val1D
 have ha : Agree E fr fr' o.op := fun x _ => opd_eq h x
 rw [guard_eq h, evOpD_agree ha, touchD_agree ha]
theorem val_putD {c : Nat} {fr : Fr} {o : Oper} {d : Option Nat} {v : AV} {H : Hp} (h : ∀ k, d = some k → k ∉ o.looksAt ops) : val1D E cl ops c o (putD d v fr) H = val1D E cl ops c o fr H := by
 unfold val1D
 rw [guard_put h, evOpD_agree (agree_put h), touchD_agree (agree_put h)]
theorem skip_valD {c : Nat} {o : Oper} {fr : Fr} {H' : Hp} (hg : guardE ops.toList fr o = some false) : val1D E cl ops c o fr H' = some (.tup [], H', []) := by
 unfold val1D; rw [hg]
theorem valD_old {c : Nat} {o : Oper} (h : isFresh o.op = false) (fr : Fr) (H : Hp) : val1D E cl ops c o fr H = val1 E cl ops o fr H := by
 unfold val1D val1 evOpD touchD; simp only [h] <;> rfl
theorem valD_new {c : Nat} {o : Oper} (h : isFresh o.op = true) {fr : Fr} {H : Hp} (hg : guardE ops.toList fr o = some true) {v : AV} {H1 : Hp} {T : List Nat} (hv : val1D E cl ops c o fr H = some (v, H1, T)) :
  ∃ k ch, freshOf (evH E fr [] o.op) = some (k, ch) ∧ H[c]? = some hole ∧ v = mkR c k ∧ H1 = H.set c ch ∧ T = [c, c + bigN] := by
 unfold val1D evOpD touchD at hv
 rw [hg, h] at hv
 simp only at hv
 split at hv
 ·rename_i v' H' he
  simp only [Option.some.injEq, Prod.mk.injEq] at hv
  obtain ⟨rfl, rfl, rfl⟩ := hv
  unfold putH at he
  split at he
  ·rename_i hh
   split at he
   ·rename_i k ch hf
    simp only [Option.some.injEq, Prod.mk.injEq] at he
    obtain ⟨rfl, rfl⟩ := he
    exact ⟨k, ch, hf, hh, rfl, rfl, by simp⟩
   ·cases he
  ·cases he
 ·cases hv
theorem valD_mk {c : Nat} {o : Oper} (h : isFresh o.op = true) {fr : Fr} {H : Hp} (hg : guardE ops.toList fr o = some true) {k : Option (Option Nat)} {ch : Chunk} (hf : freshOf (evH E fr [] o.op) = some (k, ch)) (hh : H[c]? = some hole) :
  val1D E cl ops c o fr H = some (mkR c k, H.set c ch, [c, c + bigN]) := by
 unfold val1D evOpD touchD
 rw [hg, h, hh, hf]
 simp [putH, hole]
theorem fresh_heavy {o : Op} (h : isFresh o = true) : heavy E o = true := by
 cases o <;> first | rfl | simp [isFresh] at h

structure CompatD (E : Env) (ops : Array Oper) (x y : Oper) (Tx Ty : List Nat) : Prop where
 apart : x.apart ops y = true
 two : heavy E x.op = true → heavy E y.op = true → isFresh x.op = true ∨ isFresh y.op = true ∨ insP x.op y.op = true
 float : keysApart x.op y.op = false → (heavy E x.op = true ∧ (readsH y.op = true ∨ heavy E y.op = true)) ∨ (heavy E y.op = true ∧ (readsH x.op = true ∨ heavy E x.op = true)) → apartT Tx Ty = true ∧ apartT Ty Tx = true

theorem val_run {o : Oper} {fr : Fr} {H H' : Hp} {v : AV} {T : List Nat} (hg : guardE ops.toList fr o = some true) (h : val1 E cl ops o fr H = some (v, H', T)) : evOp E cl o.op fr H = some (v, H') ∧ T = touch E fr H o.op ++ List.range' H.length (H'.length - H.length) := by
 unfold val1 at h
 rw [hg] at h
 simp only at h
 split at h
 ·rename_i v' H'' hev
  simp only [Option.some.injEq, Prod.mk.injEq] at h
  obtain ⟨rfl, rfl, rfl⟩ := h
  exact ⟨hev, rfl⟩
 ·cases h
theorem run_val {o : Oper} {fr : Fr} {H H' : Hp} {v : AV} (hg : guardE ops.toList fr o = some true) (h : evOp E cl o.op fr H = some (v, H')) : val1 E cl ops o fr H = some (v, H', touch E fr H o.op ++ List.range' H.length (H'.length - H.length)) := by
 unfold val1; rw [hg, h]
theorem keys_ins {x y : Op} (h : keysApart x y = true) : ∃ t m k a z t' m' b z', x = .insert t m (.const (.int k a)) z ∧ y = .insert t' m' (.const (.int k b)) z' ∧ a ≠ b := by
 unfold keysApart at h
 split at h
 ·simp only [Bool.and_eq_true, decide_eq_true_eq, Bool.not_eq_true', decide_eq_false_iff_not] at h
  obtain ⟨rfl, h2⟩ := h
  exact ⟨_, _, _, _, _, _, _, _, _, rfl, rfl, h2⟩
 ·cases h
theorem fresh_keys {x y : Op} (h : isFresh x = true ∨ isFresh y = true) : keysApart x y = false := by
 cases hk : keysApart x y with
 | false => rfl
 | true =>
  obtain ⟨_, _, _, _, _, _, _, _, _, rfl, rfl, _⟩ := keys_ins hk
  rcases h with h | h <;> simp [isFresh] at h
theorem swapI {x y : Oper} {fr : Fr} {H H1 H2 : Hp} {vx vy : AV} {Tx Ty : List Nat} (gx : guardE ops.toList fr x = some true) (gy : guardE ops.toList fr y = some true) (hx : val1 E cl ops x fr H = some (vx, H1, Tx)) (hy : val1 E cl ops y fr H1 = some (vy, H2, Ty))
  (hhx : heavy E x.op = true) (hhy : heavy E y.op = true) (fx : isFresh x.op = false) (fy : isFresh y.op = false) (hp : insP x.op y.op = true) (hT : keysApart x.op y.op = false → apartT Tx Ty = true ∧ apartT Ty Tx = true) :
  ∃ H1', val1 E cl ops y fr H = some (vy, H1', Ty) ∧ val1 E cl ops x fr H1' = some (vx, H2, Tx) := by
 have hlx := val_leaves hx
 have hly := val_leaves hy
 obtain ⟨ex, rfl⟩ := val_run gx hx
 obtain ⟨ey, rfl⟩ := val_run gy hy
 by_cases hk : keysApart x.op y.op = true
 ·-- two entries
  obtain ⟨t, m, k, a, z, t', m', b, z', e1, e2, hab⟩ := keys_ins hk
  rw [e1] at ex
  rw [e2] at ey
  have ex' : setM E H t (opd E fr m) (.i (.v (.int k a))) (opd E fr z) = some (vx, H1) := ex
  have ey' : setM E H1 t' (opd E fr m') (.i (.v (.int k b))) (opd E fr z') = some (vy, H2) := ey
  obtain ⟨c, kv, es, es', a1, a2, rfl, a3, a4, a5, rfl, a6⟩ := setM_shape ex'
  obtain ⟨d, kv', fs, fs', b1, b2, rfl, b3, b4, b5, rfl, b6⟩ := setM_shape ey'
  cases a2; cases b2
  have hs : sameK (.v (.int k a)) (.v (.int k b)) = some false := by simp [sameK, hab]
  by_cases hcd : c = d
  ·subst hcd
   rw [List.getElem?_set_self a3] at b4
   cases b4
   obtain ⟨B, p1, p2⟩ := putK_comm hs a5 b5
   have hl : (H.set c (.map B)).length = H.length := by simp
   refine ⟨H.set c (.map B), ?_, ?_⟩
   ·have := run_val (cl := cl) gy (show evOp E cl y.op fr H = some (.dead, H.set c (.map B)) from by rw [e2]; exact b6 H es B a4 p1)
    rw [this, e2]
    simp [touch]
   ·have := run_val (cl := cl) gx (show evOp E cl x.op fr (H.set c (.map B)) = some (.dead, (H.set c (.map B)).set c (.map fs')) from by rw [e1]; exact a6 _ B fs' (List.getElem?_set_self a3) p2)
    rw [this, e1, List.set_set, List.set_set]
    simp [touch]
  ·rw [List.getElem?_set_ne hcd] at b4
   refine ⟨H.set d (.map fs'), ?_, ?_⟩
   ·have := run_val (cl := cl) gy (show evOp E cl y.op fr H = some (.dead, H.set d (.map fs')) from by rw [e2]; exact b6 H fs fs' b4 b5)
    rw [this, e2]
    simp [touch]
   ·have := run_val (cl := cl) gx (show evOp E cl x.op fr (H.set d (.map fs')) = some (.dead, (H.set d (.map fs')).set c (.map es')) from by rw [e1]; exact a6 _ es es' (by rw [List.getElem?_set_ne (Ne.symm hcd)]; exact a4) a5)
    rw [this, e1, List.set_comm _ _ hcd]
    simp [touch]
 ·have hk' : keysApart x.op y.op = false := by simpa using hk
  obtain ⟨t1, t2⟩ := hT hk'
  unfold insP at hp
  simp only [hk', Bool.or_false, Bool.or_eq_true, Bool.and_eq_true, Bool.not_eq_true'] at hp
  rcases hp with ⟨ix, iy⟩ | ⟨iy, ix⟩
  ·-- the entry first
   obtain ⟨c, ch', rfl, rfl, ⟨c1, c1'⟩, c2, c3, c4⟩ := ins_shape ix ex
   have hold : H[c]? = some H[c] := List.getElem?_eq_getElem c2
   have hc : c ∉ touch E fr (H.set c ch') y.op ++ List.range' (H.set c ch').length (H2.length - (H.set c ch').length) := apartT_spec t1 (List.mem_append.2 (.inl c1))
   have hc1 : c ∉ touch E fr (H.set c ch') y.op := fun h => hc (List.mem_append.2 (.inl h))
   have hc2 : c + bigN ∉ touch E fr (H.set c ch') y.op := fun h => apartT_spec t1 (List.mem_append.2 (.inl c1')) (List.mem_append.2 (.inl h))
   obtain ⟨s1, s2⟩ := evOp_set H[c] ey hhy fy hc1 hc2 (by simpa using c2)
   have hback : (H.set c ch').set c H[c] = H := by rw [List.set_set]; exact set_back hold
   rw [hback] at s1 s2
   have h2c : H2[c]? = some ch' := by rw [hly.2 c hc, List.getElem?_set_self c2]
   have hl2 : c < H2.length := (List.getElem?_eq_some_iff.1 h2c).1
   refine ⟨H2.set c H[c], ?_, ?_⟩
   ·rw [run_val gy s1, s2]; simp
   ·rw [run_val gx (c3 (H2.set c H[c]) (by rw [List.getElem?_set_self hl2, hold])), c4 (H2.set c H[c]), List.set_set, set_back h2c]
    simp
  ·-- the entry last
   obtain ⟨c, ch', rfl, rfl, ⟨c1, c1'⟩, c2, c3, c4⟩ := ins_shape iy ey
   have hc : c ∉ touch E fr H x.op ++ List.range' H.length (H1.length - H.length) := apartT_spec t2 (List.mem_append.2 (.inl c1))
   have hc1 : c ∉ touch E fr H x.op := fun h => hc (List.mem_append.2 (.inl h))
   have hsame := hlx.2 c hc
   have hlt : c < H.length := by
    have h1 : H1[c]? = some H1[c] := List.getElem?_eq_getElem c2
    rw [hsame] at h1
    exact (List.getElem?_eq_some_iff.1 h1).1
   have hc2 : c + bigN ∉ touch E fr H x.op := fun h => apartT_spec t2 (List.mem_append.2 (.inl c1')) (List.mem_append.2 (.inl h))
   obtain ⟨s1, s2⟩ := evOp_set ch' ex hhx fx hc1 hc2 hlt
   refine ⟨H.set c ch', ?_, ?_⟩
   ·rw [run_val gy (c3 H hsame.symm), c4 H]; simp
   ·rw [run_val gx s1, s2]; simp
theorem swapD {x y : Oper} {cx cy : Nat} {fr : Fr} {H H1 H2 : Hp} {vx vy : AV} {Tx Ty : List Nat} (hx : val1D E cl ops cx x fr H = some (vx, H1, Tx)) (hy : val1D E cl ops cy y (putD x.dst vx fr) H1 = some (vy, H2, Ty))
  (hc : CompatD E ops x y Tx Ty) : ∃ H1', val1D E cl ops cy y fr H = some (vy, H1', Ty) ∧ val1D E cl ops cx x (putD y.dst vy fr) H1' = some (vx, H2, Tx) ∧ FrEq (putD y.dst vy (putD x.dst vx fr)) (putD x.dst vx (putD y.dst vy fr)) := by
 obtain ⟨a1, a2, a3⟩ := Oper.apart_spec hc.apart
 have hfr : FrEq (putD y.dst vy (putD x.dst vx fr)) (putD x.dst vx (putD y.dst vy fr)) := FrEq.swap fr (fun k hk e => a2 k e hk) _ _
 cases fx : isFresh x.op with
 | false =>
  cases fy : isFresh y.op with
  | false =>
   rw [valD_old fx] at hx
   rw [valD_old fy] at hy
   by_cases hboth : heavy E x.op = true ∧ heavy E y.op = true
   ·have hins : insP x.op y.op = true := by
     rcases hc.two hboth.1 hboth.2 with e | e | e
     ·rw [fx] at e; cases e
     ·rw [fy] at e; cases e
     ·exact e
    rw [val_put a1] at hy
    cases hgx : guardE ops.toList fr x with
    | none => unfold val1 at hx; rw [hgx] at hx; cases hx
    | some gx =>
    cases hgy : guardE ops.toList fr y with
    | none => unfold val1 at hy; rw [hgy] at hy; cases hy
    | some gy =>
    cases gx with
    | false =>
     rw [skip_val (H := H) hgx] at hx
     simp only [Option.some.injEq, Prod.mk.injEq] at hx
     obtain ⟨rfl, rfl, rfl⟩ := hx
     exact ⟨H2, by rw [valD_old fy]; exact hy, by rw [valD_old fx, val_put a3]; exact skip_val (H := H) hgx, hfr⟩
    | true =>
    cases gy with
    | false =>
     rw [skip_val (H := H) hgy] at hy
     simp only [Option.some.injEq, Prod.mk.injEq] at hy
     obtain ⟨rfl, rfl, rfl⟩ := hy
     exact ⟨H, by rw [valD_old fy]; exact skip_val (H := H) hgy, by rw [valD_old fx, val_put a3]; exact hx, hfr⟩
    | true =>
     obtain ⟨H1', h1, h2⟩ := swapI hgx hgy hx hy hboth.1 hboth.2 fx fy hins fun hk => hc.float hk (.inl ⟨hboth.1, .inr hboth.2⟩)
     exact ⟨H1', by rw [valD_old fy]; exact h1, by rw [valD_old fx, val_put a3]; exact h2, hfr⟩
   ·have hka : keysApart x.op y.op = false := by
     cases hk : keysApart x.op y.op with
     | false => rfl
     | true =>
      obtain ⟨_, _, _, _, _, _, _, _, _, e1, e2, _⟩ := keys_ins hk
      exact absurd ⟨by rw [e1]; rfl, by rw [e2]; rfl⟩ hboth
    obtain ⟨H1', h1, h2, h3⟩ := swap hx hy ⟨hc.apart, hboth, fun hf => hc.float hka (by rcases hf with ⟨p, q⟩ | ⟨p, q⟩ <;> simp [p, q])⟩
    exact ⟨H1', by rw [valD_old fy]; exact h1, by rw [valD_old fx]; exact h2, h3⟩
  | true =>
   rw [val_putD a1] at hy
   cases hgx : guardE ops.toList fr x with
   | none => unfold val1D at hx; rw [hgx] at hx; cases hx
   | some gx =>
   cases hgy : guardE ops.toList fr y with
   | none => unfold val1D at hy; rw [hgy] at hy; cases hy
   | some gy =>
   cases gx with
   | false =>
    rw [skip_valD hgx] at hx
    simp only [Option.some.injEq, Prod.mk.injEq] at hx
    obtain ⟨rfl, rfl, rfl⟩ := hx
    exact ⟨H2, hy, by rw [val_putD a3]; exact skip_valD hgx, hfr⟩
   | true =>
   cases gy with
   | false =>
    rw [skip_valD hgy] at hy
    simp only [Option.some.injEq, Prod.mk.injEq] at hy
    obtain ⟨rfl, rfl, rfl⟩ := hy
    exact ⟨H, skip_valD hgy, by rw [val_putD a3]; exact hx, hfr⟩
   | true =>
   obtain ⟨k, ch, f1, f2, rfl, rfl, rfl⟩ := valD_new fy hgy hy
   rw [valD_old fx] at hx
   by_cases hhx : heavy E x.op = true
   ·have hT := (hc.float (fresh_keys (.inr fy)) (.inl ⟨hhx, .inr (fresh_heavy fy)⟩)).2
    have hcT : cy ∉ Tx := apartT_spec hT (by simp)
    have hcT2 : cy + bigN ∉ Tx := apartT_spec hT (by simp)
    have hl := val_leaves hx
    have hH : H[cy]? = some hole := by rw [← hl.2 cy hcT]; exact f2
    have hlt : cy < H.length := (List.getElem?_eq_some_iff.1 hH).1
    refine ⟨H.set cy ch, valD_mk fy hgy f1 hH, ?_, hfr⟩
    rw [val_putD a3, valD_old fx]
    unfold val1 at hx ⊢
    rw [hgx] at hx ⊢
    simp only at hx ⊢
    split at hx
    ·rename_i v' H' hev
     simp only [Option.some.injEq, Prod.mk.injEq] at hx
     obtain ⟨rfl, rfl, rfl⟩ := hx
     simp only [List.mem_append, not_or] at hcT hcT2
     obtain ⟨e1, e2⟩ := evOp_set ch hev hhx fx hcT.1 hcT2.1 hlt
     rw [e1]
     simp only [e2, List.length_set]
    ·cases hx
   ·have hhx' : heavy E x.op = false := by simpa using hhx
    obtain ⟨rfl, _⟩ := light_val (H' := H) hhx' (fun _ _ _ => rfl) hx
    refine ⟨H1.set cy ch, valD_mk fy hgy f1 f2, ?_, hfr⟩
    rw [val_putD a3, valD_old fx]
    refine (light_val (H' := H1.set cy ch) hhx' (fun hr c hcc => ?_) hx).2
    have hT := (hc.float (fresh_keys (.inr fy)) (.inr ⟨fresh_heavy fy, .inl hr⟩)).1
    have : c ∉ [cy, cy + bigN] := apartT_spec hT (touch_sub hx hgx c hcc)
    rw [List.getElem?_set_ne]
    rintro rfl; simp at this
 | true =>
  rw [val_putD a1] at hy
  cases hgx : guardE ops.toList fr x with
  | none => unfold val1D at hx; rw [hgx] at hx; cases hx
  | some gx =>
  cases hgy : guardE ops.toList fr y with
  | none => unfold val1D at hy; rw [hgy] at hy; cases hy
  | some gy =>
  cases gx with
  | false =>
   rw [skip_valD hgx] at hx
   simp only [Option.some.injEq, Prod.mk.injEq] at hx
   obtain ⟨rfl, rfl, rfl⟩ := hx
   exact ⟨H2, hy, by rw [val_putD a3]; exact skip_valD hgx, hfr⟩
  | true =>
  cases gy with
  | false =>
   rw [skip_valD hgy] at hy
   simp only [Option.some.injEq, Prod.mk.injEq] at hy
   obtain ⟨rfl, rfl, rfl⟩ := hy
   exact ⟨H, skip_valD hgy, by rw [val_putD a3]; exact hx, hfr⟩
  | true =>
  obtain ⟨kx, chx, f1, f2, rfl, rfl, rfl⟩ := valD_new fx hgx hx
  have hltx : cx < H.length := (List.getElem?_eq_some_iff.1 f2).1
  have back : (H.set cx chx).set cx hole = H := by
   rw [List.set_set]
   obtain ⟨h1, h2⟩ := List.getElem?_eq_some_iff.1 f2
   rw [← h2]; exact List.set_getElem_self h1
  cases fy : isFresh y.op with
  | true =>
   obtain ⟨ky, chy, g1, g2, rfl, rfl, rfl⟩ := valD_new fy hgy hy
   have hT := (hc.float (fresh_keys (.inl fx)) (.inl ⟨fresh_heavy fx, .inr (fresh_heavy fy)⟩)).1
   have hne : cx ∉ [cy, cy + bigN] := apartT_spec hT (by simp)
   have hne' : cx ≠ cy := fun e => hne (by simp [e])
   rw [List.getElem?_set_ne hne'] at g2
   refine ⟨H.set cy chy, valD_mk fy hgy g1 g2, ?_, hfr⟩
   rw [val_putD a3, List.set_comm _ _ hne']
   exact valD_mk fx hgx f1 (by rw [List.getElem?_set_ne (Ne.symm hne')]; exact f2)
  | false =>
   rw [valD_old fy] at hy
   by_cases hhy : heavy E y.op = true
   ·have hT := (hc.float (fresh_keys (.inl fx)) (.inl ⟨fresh_heavy fx, .inr hhy⟩)).1
    have hcT : cx ∉ Ty := apartT_spec hT (by simp)
    have hcT2 : cx + bigN ∉ Ty := apartT_spec hT (by simp)
    have hl := val_leaves hy
    have h2 : H2[cx]? = some chx := by rw [hl.2 cx hcT, List.getElem?_set_self hltx]
    have hlt2 : cx < H2.length := (List.getElem?_eq_some_iff.1 h2).1
    refine ⟨H2.set cx hole, ?_, ?_, hfr⟩
    ·rw [valD_old fy]
     unfold val1 at hy ⊢
     rw [hgy] at hy ⊢
     simp only at hy ⊢
     split at hy
     ·rename_i v' H' hev
      simp only [Option.some.injEq, Prod.mk.injEq] at hy
      obtain ⟨rfl, rfl, rfl⟩ := hy
      simp only [List.mem_append, not_or] at hcT hcT2
      obtain ⟨e1, e2⟩ := evOp_set hole hev hhy fy hcT.1 hcT2.1 (by simpa using hltx)
      rw [back] at e1 e2
      rw [e1]
      simp only [e2, List.length_set]
     ·cases hy
    ·rw [val_putD a3, valD_mk fx hgx f1 (List.getElem?_set_self hlt2), List.set_set]
     obtain ⟨h3, h4⟩ := List.getElem?_eq_some_iff.1 h2
     rw [← h4, List.set_getElem_self h3]
   ·have hhy' : heavy E y.op = false := by simpa using hhy
    have key : readsH y.op = true → ∀ c ∈ touch E fr (H.set cx chx) y.op, H[c]? = (H.set cx chx)[c]? := by
     intro hr c hcc
     have hT := (hc.float (fresh_keys (.inl fx)) (.inl ⟨fresh_heavy fx, .inl hr⟩)).2
     have := apartT_spec hT (touch_sub hy hgy c hcc)
     rw [List.getElem?_set_ne]
     rintro rfl; simp at this
    obtain ⟨rfl, hy'⟩ := light_val hhy' key hy
    exact ⟨H, by rw [valD_old fy]; exact hy', by rw [val_putD a3]; exact valD_mk fx hgx f1 f2, hfr⟩
end

section
variable {E : Env} {cl : CallF} {ops : Array Oper} {tr : Nat → List Nat} {hk : Nat → Nat}

inductive RunD (E : Env) (cl : CallF) (ops : Array Oper) (tr : Nat → List Nat) (hk : Nat → Nat) : List Nat → Fr → Hp → Fr → Hp → Prop
 | nil (fr : Fr) (H : Hp) : RunD E cl ops tr hk [] fr H fr H
 | cons (i : Nat) (l : List Nat) (fr : Fr) (H : Hp) (o : Oper) (v : AV) (H1 : Hp) (fr2 : Fr) (H2 : Hp) (ho : ops[i]? = some o) (hv : val1D E cl ops (hk i) o fr H = some (v, H1, tr i)) (h : RunD E cl ops tr hk l (putD o.dst v fr) H1 fr2 H2) : RunD E cl ops tr hk (i :: l) fr H fr2 H2

theorem run_eqD {l : List Nat} {fr fr' : Fr} {H : Hp} {fr2 : Fr} {H2 : Hp} (h : RunD E cl ops tr hk l fr H fr2 H2) : FrEq fr fr' → ∃ fr2', FrEq fr2 fr2' ∧ RunD E cl ops tr hk l fr' H fr2' H2 := by
 induction h generalizing fr' with
 | nil fr H => exact fun he => ⟨fr', he, .nil _ _⟩
 | cons i l fr H o v H1 fr2 H2 ho hv _ ih =>
  intro he
  obtain ⟨fr2', h1, h2⟩ := ih (he.put o.dst v)
  exact ⟨fr2', h1, .cons i l fr' H o v H1 fr2' H2 ho (by rw [← val_eqD he]; exact hv) h2⟩

def CompatJ (E : Env) (ops : Array Oper) (tr : Nat → List Nat) (j i : Nat) : Prop := ∀ x y, ops[j]? = some x → ops[i]? = some y → CompatD E ops x y (tr j) (tr i)

theorem frontD : ∀ {l1 l2 : List Nat} {i : Nat} {fr : Fr} {H : Hp} {fr2 : Fr} {H2 : Hp}, RunD E cl ops tr hk (l1 ++ i :: l2) fr H fr2 H2 → (∀ j ∈ l1, CompatJ E ops tr j i) →
  ∃ o v H1 fr2', ops[i]? = some o ∧ val1D E cl ops (hk i) o fr H = some (v, H1, tr i) ∧ FrEq fr2 fr2' ∧ RunD E cl ops tr hk (l1 ++ l2) (putD o.dst v fr) H1 fr2' H2
 | [], l2, i, fr, H, fr2, H2, h, _ => by
  cases h with
  | cons _ _ _ _ o v H1 _ _ ho hv h => exact ⟨o, v, H1, fr2, ho, hv, .refl _, h⟩
 | j :: l1, l2, i, fr, H, fr2, H2, h, hc => by
  cases h with
  | cons _ _ _ _ x vx H1 _ _ hx hvx h =>
   obtain ⟨o, v, H3, fr3, ho, hv, he, hr⟩ := frontD h (fun k hk => hc k (by simp [hk]))
   obtain ⟨H4, s1, s2, s3⟩ := swapD hvx hv (hc j (by simp) x o hx ho)
   obtain ⟨fr4, e4, r4⟩ := run_eqD hr s3
   exact ⟨o, v, H4, fr4, ho, s1, he.trans e4, .cons j _ _ _ x vx H3 fr4 H2 hx s2 r4⟩

theorem stepC_add (c : Nat) (o : Op) : stepC c o = c + stepC 0 o := by unfold stepC; cases isFresh o <;> simp
theorem nFresh_cons (o : Oper) (l : List Oper) : nFresh (o :: l) = stepC 0 o.op + nFresh l := by
 have key : ∀ (l : List Oper) (c : Nat), l.foldl (fun c o => stepC c o.op) c = c + nFresh l := by
  intro l
  induction l with
  | nil => intro c; simp [nFresh]
  | cons o l ih =>
   intro c
   simp only [nFresh, List.foldl_cons] at ih ⊢
   rw [ih, ih (stepC 0 o.op), stepC_add c]; omega
 show l.foldl _ _ = _
 exact key l _
theorem run_of_evD : ∀ (l : List Oper) (k c : Nat) (fr : Fr) (H : Hp) (fr2 : Fr) (H2 : Hp) (ts : List (List Nat)), evD E cl ops.toList c l fr H = some (fr2, H2, ts) → (∀ j, l[j]? = ops[k + j]?) → (∀ j, j < l.length → tr (k + j) = ts.getD j []) →
  (∀ j, j < l.length → hk (k + j) = c + nFresh (l.take j)) → RunD E cl ops tr hk (List.range' k l.length) fr H fr2 H2
 | [], k, c, fr, H, fr2, H2, ts, h, _, _, _ => by
  simp only [evD, Option.some.injEq, Prod.mk.injEq] at h
  obtain ⟨rfl, rfl, rfl⟩ := h
  exact .nil _ _
 | o :: l, k, c, fr, H, fr2, H2, ts, h, hl, ht, hh => by
  rw [evD_cons] at h
  split at h
  ·rename_i v H1 T hv
   split at h
   ·rename_i fr3 H3 ts' hr
    simp only [Option.some.injEq, Prod.mk.injEq] at h
    obtain ⟨rfl, rfl, rfl⟩ := h
    have h0 := hl 0
    simp only [List.getElem?_cons_zero, Nat.add_zero] at h0
    have ht0 := ht 0 (by simp)
    simp only [Nat.add_zero, List.getD_cons_zero] at ht0
    have hh0 := hh 0 (by simp)
    simp only [Nat.add_zero, List.take_zero] at hh0
    rw [List.length_cons, List.range'_succ]
    refine .cons k _ fr H o v _ _ _ h0.symm (by rw [ht0, hh0]; exact hv) ?_
    refine run_of_evD l (k + 1) (stepC c o.op) _ _ _ _ ts' hr (fun j => by have := hl (j + 1); simpa [Nat.add_assoc, Nat.add_comm 1 j] using this) (fun j hj => ?_) (fun j hj => ?_)
    ·have := ht (j + 1) (by simpa using hj)
     rw [show k + 1 + j = k + (j + 1) by omega, this]; simp
    ·have := hh (j + 1) (by simpa using hj)
     rw [show k + 1 + j = k + (j + 1) by omega, this, List.take_succ_cons, nFresh_cons, stepC_add c]; omega
   ·cases h
  ·cases h
end

section
variable {E : Env} {I : Imm} {η : Eta} {H : Hp} {w : World}
theorem evOpD_ok {cl : CallF} (hcl : CallOK E (callM E cl)) {c : Nat} {fr : Fr} {a : Act} {o : Oper} {v : AV} {H' : Hp} (h : evOpD E cl c o.op fr H = some (v, H')) (hC : Conc E I η H w) (hf : FrOK I η H fr a.tmps)
  {K : Act → World → Prop} {Q : Exit → Act → World → Prop} (hK : ∀ x w', After E I η H w H' w' (fun I' η' => RelA I' η' H' v x) → K (a.put o.dst x) w') : o.wp E.P a w K Q := by
 unfold evOpD at h
 cases fo : isFresh o.op with
 | false => rw [fo] at h; exact evOp_ok hcl h hC hf hK
 | true =>
  rw [fo] at h
  simp only at h
  unfold putH at h
  split at h
  ·rename_i hh
   split at h
   ·rename_i k ch hf0
    simp only [Option.some.injEq, Prod.mk.injEq] at h
    obtain ⟨rfl, rfl⟩ := h
    obtain ⟨v0, ch0, e1, hm⟩ := fresh_ev hC hf fo hf0 c
    obtain ⟨nx, x, w', h1, h2, h3⟩ := evH_ok e1 hC hf
    have h4 := move_ok hC hh hm h3
    unfold Oper.wp
    rw [h1]
    cases nx <;> simp only [nv] at h2 <;> first | (cases h2; done) | skip
    ·cases h2; exact hK _ _ h4
    ·cases h2; exact hK _ _ h4
   ·cases h
  ·cases h
theorem evOpD_nodef {cl : CallF} {c : Nat} {o : Op} {fr : Fr} {H : Hp} {r : AV × Hp} (h : evOpD E cl c o fr H = some r) : ∀ c, o ≠ .defer c := by
 rintro c rfl
 simp [evOpD, isFresh, evOp, heavy, evL] at h
theorem conc_holes (hC : Conc E I η H w) (n : Nat) : Conc E I η (H ++ List.replicate n hole) w ∧ Mono I η H I η (H ++ List.replicate n hole) := by
 have hm : Mono I η H I η (H ++ List.replicate n hole) := mono_of (fun _ _ h => h) (by simp) fun c hc => CStep.same (by rw [List.getElem?_append_left hc]) rfl
 refine ⟨⟨hC.imm, fun c x hx => ?_, hC.inj, fun c b m h => by have := hC.sep c b m h; exact ⟨this.1, this.2.1, by simp; omega⟩, hC.glob⟩, hm⟩
 by_cases hc : c < H.length
 ·rw [List.getElem?_append_left hc] at hx
  exact (hC.ch c x hx).mono rfl (fun _ _ h => h) hm (fun _ _ _ => rfl)
 ·rw [List.getElem?_append_right (by omega)] at hx
  have hxe := List.eq_of_mem_replicate (List.mem_of_getElem? hx)
  subst hxe
  have hnew : η c = none := by
   cases h : η c with
   | none => rfl
   | some p => have := (hC.sep _ p.1 p.2 h).2.2; omega
  exact ⟨fun _ => hnew, fun i r h => by simp at h, .inl ⟨hnew, rfl⟩⟩
end

section
variable {E : Env} {cl : CallF} {ops : Array Oper} {tr : Nat → List Nat} {hk : Nat → Nat} {Q : Exit → Act → World → Prop} {ro : Option Nat} {nn : Nat}

theorem any_okD (hcl : CallOK E (callM E cl)) {fr2 : Fr} {H2 : Hp} (hcomp : ∀ j i, j < i → i < ops.size → bound (Region.before ops) j i = false → CompatJ E ops tr j i)
  (hback : ∀ (i : Nat) (o : Oper), ops[i]? = some o → ∀ e ∈ o.after, Region.binds .any e = true → e.on < i) {n0 : Nat} {d0 : List Deferred} (hdst : DstOK n0 ops.toList) :
  ∀ (R : List Nat) (listed : Array Bool) (I : Imm) (η : Eta) (fr : Fr) (H : Hp) (a : Act) (w : World) (fr2 : Fr), R.Pairwise (· < ·) → (∀ i, i ∈ R ↔ i < ops.size ∧ listed.getD i false = false) → listed.size = ops.size → Closed ops listed →
   RunD E cl ops tr hk R fr H fr2 H2 → Conc E I η H w → FrOK I η H fr a.tmps → a.tmps.size = n0 → a.defers = d0 →
   (∀ a' w' fr3, FrEq fr2 fr3 → a'.defers = d0 → a'.tmps.size = n0 → After E I η H w H2 w' (fun I' η' => FrOK I' η' H2 fr3 a'.tmps) → Q .normal a' w') → wpAnyIn (Fe ro) nn E.P .any ops Q R.length listed a w
 | [], listed, I, η, fr, H, a, w, fr2, hp, hR, hsz, hcl2, hrun, hC, hf, hn, hd, hQ => by
  refine ⟨?_, ?_⟩
  ·cases h : Region.ready .any ops listed with
   | nil => rfl
   | cons i l =>
    have hi : i ∈ Region.ready .any ops listed := by rw [h]; simp
    obtain ⟨h1, o, ho, _⟩ := mem_ready.1 hi
    have hlt := (Array.getElem?_eq_some_iff.1 ho).1
    have : i ∈ ([] : List Nat) := (hR i).2 ⟨hlt, by
     rw [Array.getD_eq_getD_getElem?] at h1 ⊢
     cases hh : listed[i]? with
     | none => rfl
     | some b => rw [hh] at h1; simpa using h1⟩
    simp at this
  ·cases hrun with
   | nil => exact hQ a w fr (.refl _) hd hn (After.refl hC hf)
 | r :: R, listed, I, η, fr, H, a, w, fr2, hp, hR, hsz, hcl2, hrun, hC, hf, hn, hd, hQ => by
  simp only [List.length_cons]
  refine ⟨fun hnone => ?_, fun i hi => ?_⟩
  ·-- the least that is left is ready
   exfalso
   have hr := (hR r).1 (by simp)
   have hro : ops[r]? = some ops[r] := Array.getElem?_eq_getElem hr.1
   have : r ∈ Region.ready .any ops listed := by
    refine mem_ready.2 ⟨?_, _, hro, fun e he hb => ?_⟩
    ·have := hr.2
     rw [Array.getD_eq_getD_getElem?] at this ⊢
     rw [Array.getElem?_eq_getElem (by omega)] at this ⊢
     simpa using this
    ·have hlt := hback r _ hro e he hb
     cases hl : listed.getD e.on false with
     | true => rfl
     | false =>
      have hm : e.on ∈ r :: R := (hR e.on).2 ⟨by omega, hl⟩
      rcases List.mem_cons.1 hm with h1 | h1
      ·omega
      ·have := (List.pairwise_cons.1 hp).1 _ h1; omega
   rw [hnone] at this; simp at this
  ·obtain ⟨h1, o, ho, hpre⟩ := mem_ready.1 hi
   have hlt := (Array.getElem?_eq_some_iff.1 ho).1
   have hiR : i ∈ r :: R := (hR i).2 ⟨hlt, by
    rw [Array.getD_eq_getD_getElem?] at h1 ⊢
    rw [Array.getElem?_eq_getElem (by omega)] at h1 ⊢
    simpa using h1⟩
   obtain ⟨l1, l2, hsplit⟩ := List.append_of_mem hiR
   rw [hsplit] at hrun hp
   have hpw := List.pairwise_append.1 hp
   have hun : ∀ j ∈ l1, CompatJ E ops tr j i := by
    intro j hj
    have hji : j < i := hpw.2.2 j hj i (by simp)
    refine hcomp j i hji hlt ?_
    cases hb : bound (Region.before ops) j i with
    | false => rfl
    | true =>
     have := bound_listed hcl2 i o ho hpre j hb
     have hjl := ((hR j).1 (by rw [hsplit]; simp [hj])).2
     rw [this] at hjl; cases hjl
   obtain ⟨o', v, H1, fr2', ho', hv, he, hrun'⟩ := frontD hrun hun
   rw [ho] at ho'; cases ho'
   have hdo : ∀ k, o.dst = some k → k < a.tmps.size := by
    intro k hk; rw [hn]; exact hdst o (by simpa using Array.mem_of_getElem? ho) k hk
   have hlen : R.length = (l1 ++ l2).length := by
    have := congrArg List.length hsplit; simp at this ⊢; omega
   have hpw' : (l1 ++ l2).Pairwise (· < ·) := by
    rw [List.pairwise_append]
    exact ⟨hpw.1, (List.pairwise_cons.1 hpw.2.1).2, fun x hx y hy => hpw.2.2 x hx y (by simp [hy])⟩
   have hni : i ∉ l1 ++ l2 := by
    intro hm
    rcases List.mem_append.1 hm with hm | hm
    ·have := hpw.2.2 i hm i (by simp); omega
    ·have := (List.pairwise_cons.1 hpw.2.1).1 i hm; omega
   have hR' : ∀ k, k ∈ l1 ++ l2 ↔ k < ops.size ∧ (listed.setIfInBounds i true).getD k false = false := by
    intro k
    by_cases hki : k = i
    ·subst hki
     refine ⟨fun h => absurd h hni, fun h => ?_⟩
     have h2 := h.2
     rw [Array.getD_eq_getD_getElem?] at h2
     simp [hsz, hlt] at h2
    ·rw [getD_set_ne false (Ne.symm hki)]
     rw [← hR k, hsplit]
     simp [hki]
   have hcl3 : Closed ops (listed.setIfInBounds i true) := by
    intro k p hp' hkl e he' hb
    by_cases hki : k = i
    ·subst hki
     rw [ho] at hp'; cases hp'
     exact getD_set_true (hpre e he' hb)
    ·rw [getD_set_ne false (Ne.symm hki)] at hkl
     exact getD_set_true (hcl2 k p hp' hkl e he' hb)
   have hsz' : (listed.setIfInBounds i true).size = ops.size := by simpa using hsz
   unfold wpOpIn
   rw [ho]
   unfold val1D at hv
   split at hv
   ·rename_i hg
    split at hv
    ·rename_i v' H1' hev
     simp only [Option.some.injEq, Prod.mk.injEq] at hv
     obtain ⟨rfl, rfl, _⟩ := hv
     simp only [guard_ok hf hg, if_true]
     refine oper_fe (evOpD_nodef hev) (evOpD_ok hcl hev hC hf fun x w1 hx => ?_)
     obtain ⟨I1, η1, hC1, hT1, hm1, hr1⟩ := hx
     rw [hlen]
     refine any_okD hcl (d0 := d0) (n0 := n0) (fr2 := fr2') hcomp hback hdst (l1 ++ l2) _ I1 η1 _ _ _ w1 fr2' hpw' hR' hsz' hcl3 hrun' hC1 ((hf.mono hm1).put hr1 o.dst hdo) (by rw [put_size]; exact hn) (by rw [put_defers]; exact hd) fun a' w' fr3 he3 hdef hs hA => ?_
     obtain ⟨I2, η2, k1, k2, k3, k4⟩ := hA
     exact hQ a' w' fr3 (he.trans he3) hdef hs ⟨I2, η2, k1, hT1.trans k2, hm1.trans k3, k4⟩
    ·cases hv
   ·rename_i hg
    simp only [Option.some.injEq, Prod.mk.injEq] at hv
    obtain ⟨rfl, rfl, _⟩ := hv
    simp only [guard_ok hf hg, Bool.false_eq_true, if_false]
    refine ⟨fun _ _ => trivial, ?_⟩
    rw [hlen]
    refine any_okD hcl (d0 := d0) (n0 := n0) (fr2 := fr2') hcomp hback hdst (l1 ++ l2) _ I η _ _ _ w fr2' hpw' hR' hsz' hcl3 hrun' hC (hf.put (relA_undef _ _ _) o.dst hdo) (by rw [put_size]; exact hn) (by rw [put_defers]; exact hd) fun a' w' fr3 he3 hdef hs hA => ?_
    exact hQ a' w' fr3 (he.trans he3) hdef hs hA
   ·cases hv
 termination_by R => R.length
 decreasing_by all_goals (have := congrArg List.length hsplit; simp at this ⊢; omega)
end
end Go.VI

set_option linter.unusedSimpArgs false
set_option linter.unusedVariables false
namespace Go.VI
section
variable {E : Env} {I : Imm} {η : Eta} {H : Hp} {w : World}

theorem conc_drawn (hC : Conc E I η H w) (n : Nat) : Conc E I η H { w with drawn := n } :=
 ⟨hC.imm, fun c x h => by have := hC.ch c x h; cases x <;> exact this, hC.inj, hC.sep, hC.glob⟩
theorem trans_drawn {I' : Imm} {η' : Eta} {w' : World} {n : Nat} (h : Trans I η { w with drawn := n } I' η' w') : Trans I η w I' η' w' :=
 ⟨h.os, h.tape, h.output, h.size, h.frame, h.imm, h.immNew, h.own⟩

theorem apartT_symm {a b : List Nat} (h : apartT a b = true) : apartT b a = true := by
 simp only [apartT, List.all_eq_true]
 intro c hc
 have : c ∉ a := fun ha => apartT_spec h ha hc
 simpa using this

theorem draw_compat {ops : Array Oper} {ts : List (List Nat)} {pairs : List (Nat × Nat)} (hd : drawOk E ops = true) (hfl : (floats E ops).all (fun p => pairs.contains p) = true) (hk : pairs.all (floatOk ts) = true) :
  ∀ j i, j < i → i < ops.size → bound (Region.before ops) j i = false → CompatI E ops (fun k => ts.getD k []) j i := by
 intro j i hji hi hb x y hx hy
 unfold drawOk at hd
 simp only [Bool.and_eq_true, List.all_eq_true, List.mem_range] at hd
 have h1 := hd.2 i hi j hji
 rw [hx, hy] at h1
 simp only [hb, Bool.false_or, Bool.and_eq_true, Bool.not_eq_true', Bool.and_eq_false_iff] at h1
 refine ⟨h1.1, fun ⟨ha, hb'⟩ => ?_, fun hf => ?_⟩
 ·rcases h1.2 with h | h
  ·rw [ha] at h; cases h
  ·rw [hb'] at h; cases h
 ·have hm : (j, i) ∈ floats E ops := by
   unfold floats
   simp only [List.mem_flatMap, List.mem_range, List.mem_filterMap]
   refine ⟨i, hi, j, hji, ?_⟩
   rw [hx, hy]
   have : ((heavy E x.op && readsH y.op) || (heavy E y.op && readsH x.op)) = true := by
    rcases hf with ⟨a, b⟩ | ⟨a, b⟩ <;> simp [a, b]
   simp [hb, this]
  have hc := (List.all_eq_true.1 hfl) _ hm
  have hc' : (j, i) ∈ pairs := by simpa using hc
  have := (List.all_eq_true.1 hk) _ hc'
  unfold floatOk at this
  exact ⟨this, apartT_symm this⟩

theorem draw_back {ops : Array Oper} (hd : drawOk E ops = true) : ∀ (i : Nat) (o : Oper), ops[i]? = some o → ∀ e ∈ o.after, Region.binds .any e = true → e.on < i := by
 intro i o ho e he hb
 unfold drawOk at hd
 simp only [Bool.and_eq_true, List.all_eq_true, List.mem_range] at hd
 have h1 := hd.1.2 i (Array.getElem?_eq_some_iff.1 ho).1
 rw [ho] at h1
 simp only [Array.all_eq_true] at h1
 obtain ⟨k, hk, rfl⟩ := Array.mem_iff_getElem.1 he
 have := h1 k hk
 simpa [hb] using this

theorem draw_ok {cl : CallF} {ro : Option Nat} {nn : Nat} (hcl : CallOK E (callM E cl)) {id : Nat} {ops : Array Oper} {fr fr' : Fr} {H' : Hp} {ts : List (List Nat)} {a : Act} {Q : Exit → Act → World → Prop}
  (h : evT E cl ops.toList ops.toList fr H = some (fr', H', ts)) {pairs : List (Nat × Nat)} (hk : pairs.all (floatOk ts) = true) (hd : drawOk E ops = true) (hfl : (floats E ops).all (fun p => pairs.contains p) = true)
  (hm : E.P.follows .mixedOrders = true) (hC : Conc E I η H w) (hf : FrOK I η H fr a.tmps) (hdst : DstOK a.tmps.size ops.toList)
  (hQ : ∀ a' w' fr3, FrEq fr' fr3 → a'.defers = a.defers → a'.tmps.size = a.tmps.size → After E I η H w H' w' (fun I' η' => FrOK I' η' H' fr3 a'.tmps) → Q .normal a' w') : (Code.region id ops true).wpIn (Fe ro) nn E.P Q a w := by
 refine wpIn_region_any hm ?_
 have hrun : Run E cl ops (fun k => ts.getD k []) (List.range' 0 ops.toList.length) fr H fr' H' :=
  run_of_evT ops.toList 0 fr H fr' H' ts h (fun j => by simp) (fun j _ => by simp)
 have := any_ok hcl (ro := ro) (nn := nn) (ops := ops) (Q := Q) (fr2 := fr') (n0 := a.tmps.size) (d0 := a.defers) (draw_compat hd hfl hk) (draw_back hd) hdst (List.range' 0 ops.toList.length) (Array.replicate ops.size false) I η fr H a { w with drawn := w.drawn + 1 } fr'
  (List.pairwise_lt_range' ..) (fun i => by
   simp only [List.mem_range', Array.length_toList]
   constructor
   ·rintro ⟨k, hk, rfl⟩
    refine ⟨by omega, ?_⟩
    rw [Array.getD_eq_getD_getElem?, Array.getElem?_replicate]; split <;> rfl
   ·rintro ⟨h1, _⟩; exact ⟨i, h1, by omega⟩) (by simp) (fun i o ho hl => by
   rw [Array.getD_eq_getD_getElem?, Array.getElem?_replicate] at hl; split at hl <;> simp at hl) hrun (conc_drawn hC _) hf rfl rfl
   (fun a' w' fr3 he hdef hs hA => by
    obtain ⟨I2, η2, k1, k2, k3, k4⟩ := hA
    exact hQ a' w' fr3 he hdef hs ⟨I2, η2, k1, trans_drawn k2, k3, k4⟩)
 simpa using this

theorem draw_compatD {ops : Array Oper} {ts : List (List Nat)} {pairs : List (Nat × Nat)} (hd : drawOkD E ops = true) (hfl : (floatsD E ops).all (fun p => pairs.contains p) = true) (hk : pairs.all (floatOk ts) = true) :
  ∀ j i, j < i → i < ops.size → bound (Region.before ops) j i = false → CompatJ E ops (fun k => ts.getD k []) j i := by
 intro j i hji hi hb x y hx hy
 unfold drawOkD at hd
 simp only [Bool.and_eq_true, List.all_eq_true, List.mem_range] at hd
 have h1 := hd.2 i hi j hji
 rw [hx, hy] at h1
 simp only [hb, Bool.false_or, Bool.and_eq_true, Bool.or_eq_true, Bool.not_eq_true', Bool.and_eq_false_iff] at h1
 refine ⟨h1.1, fun ha hb' => ?_, fun hka hf => ?_⟩
 ·rcases h1.2 with ((h | h) | h) | h
  ·rcases h with h | h
   ·rw [ha] at h; cases h
   ·rw [hb'] at h; cases h
  ·exact .inl h
  ·exact .inr (.inl h)
  ·exact .inr (.inr h)
 ·have hm : (j, i) ∈ floatsD E ops := by
   unfold floatsD
   simp only [List.mem_flatMap, List.mem_range, List.mem_filterMap]
   refine ⟨i, hi, j, hji, ?_⟩
   rw [hx, hy]
   have : ((heavy E x.op && (readsH y.op || heavy E y.op)) || (heavy E y.op && (readsH x.op || heavy E x.op))) = true := by
    rcases hf with ⟨a, b | b⟩ | ⟨a, b | b⟩ <;> simp [a, b]
   simp [hb, hka, this]
  have hc := (List.all_eq_true.1 hfl) _ hm
  have hc' : (j, i) ∈ pairs := by simpa using hc
  have := (List.all_eq_true.1 hk) _ hc'
  unfold floatOk at this
  exact ⟨this, apartT_symm this⟩

theorem draw_backD {ops : Array Oper} (hd : drawOkD E ops = true) : ∀ (i : Nat) (o : Oper), ops[i]? = some o → ∀ e ∈ o.after, Region.binds .any e = true → e.on < i := by
 intro i o ho e he hb
 unfold drawOkD at hd
 simp only [Bool.and_eq_true, List.all_eq_true, List.mem_range] at hd
 have h1 := hd.1.2 i (Array.getElem?_eq_some_iff.1 ho).1
 rw [ho] at h1
 simp only [Array.all_eq_true] at h1
 obtain ⟨k, hk, rfl⟩ := Array.mem_iff_getElem.1 he
 have := h1 k hk
 simpa [hb] using this

theorem draw_okD {cl : CallF} {ro : Option Nat} {nn : Nat} (hcl : CallOK E (callM E cl)) {id : Nat} {ops : Array Oper} {fr fr' : Fr} {H' : Hp} {ts : List (List Nat)} {a : Act} {Q : Exit → Act → World → Prop}
  (h : evD E cl ops.toList H.length ops.toList fr (H ++ List.replicate (nFresh ops.toList) hole) = some (fr', H', ts)) {pairs : List (Nat × Nat)} (hk : pairs.all (floatOk ts) = true) (hd : drawOkD E ops = true) (hfl : (floatsD E ops).all (fun p => pairs.contains p) = true)
  (hm : E.P.follows .mixedOrders = true) (hC : Conc E I η H w) (hf : FrOK I η H fr a.tmps) (hdst : DstOK a.tmps.size ops.toList)
  (hQ : ∀ a' w' fr3, FrEq fr' fr3 → a'.defers = a.defers → a'.tmps.size = a.tmps.size → After E I η H w H' w' (fun I' η' => FrOK I' η' H' fr3 a'.tmps) → Q .normal a' w') : (Code.region id ops true).wpIn (Fe ro) nn E.P Q a w := by
 refine wpIn_region_any hm ?_
 obtain ⟨hC0, hm0⟩ := conc_holes hC (nFresh ops.toList)
 have hrun : RunD E cl ops (fun k => ts.getD k []) (fun i => H.length + nFresh (ops.toList.take i)) (List.range' 0 ops.toList.length) fr (H ++ List.replicate (nFresh ops.toList) hole) fr' H' :=
  run_of_evD ops.toList 0 _ fr _ fr' H' ts h (fun j => by simp) (fun j _ => by simp) (fun j _ => by simp)
 have := any_okD hcl (ro := ro) (nn := nn) (ops := ops) (Q := Q) (fr2 := fr') (n0 := a.tmps.size) (d0 := a.defers) (draw_compatD hd hfl hk) (draw_backD hd) hdst (List.range' 0 ops.toList.length) (Array.replicate ops.size false) I η fr _ a { w with drawn := w.drawn + 1 } fr'
  (List.pairwise_lt_range' ..) (fun i => by
   simp only [List.mem_range', Array.length_toList]
   constructor
   ·rintro ⟨k, hk, rfl⟩
    refine ⟨by omega, ?_⟩
    rw [Array.getD_eq_getD_getElem?, Array.getElem?_replicate]; split <;> rfl
   ·rintro ⟨h1, _⟩; exact ⟨i, h1, by omega⟩) (by simp) (fun i o ho hl => by
   rw [Array.getD_eq_getD_getElem?, Array.getElem?_replicate] at hl; split at hl <;> simp at hl) hrun (conc_drawn hC0 _) (hf.mono hm0) rfl rfl
   (fun a' w' fr3 he hdef hs hA => by
    obtain ⟨I2, η2, k1, k2, k3, k4⟩ := hA
    exact hQ a' w' fr3 he hdef hs ⟨I2, η2, k1, trans_drawn k2, hm0.trans k3, k4⟩)
 simpa using this

def exOf : Ex → Exit
 | .normal => .normal
 | .exit id => .exit id
 | .ret => .ret

theorem frOK_eq {fr fr' : Fr} {tmps : Array Value} (he : FrEq fr fr') (h : FrOK I η H fr' tmps) : FrOK I η H fr tmps := fun k => by rw [he k]; exact h k

theorem opd_bool {fr : Fr} {a : Act} (hC : Conc E I η H w) (hf : FrOK I η H fr a.tmps) {c : Operand} {b : Bool} (h : opd E fr c = .i (.v (.bool b))) : a.eval c = .bool b := by
 have := opd_ok hC hf c
 rw [h] at this
 exact relA_v this

def MonoB (B : Nat) (I : Imm) (η : Eta) (H : Hp) (I' : Imm) (η' : Eta) (H' : Hp) : Prop := ∀ a v, (∀ d ∈ refsA a, d < B) → RelA I η H a v → RelA I' η' H' a v
theorem MonoB.trans {B : Nat} {I η H I' η' H' I'' η'' H''} (h : MonoB B I η H I' η' H') (k : MonoB B I' η' H' I'' η'' H'') : MonoB B I η H I'' η'' H'' := fun a v hd r => k a v hd (h a v hd r)
def AfterB (E : Env) (B : Nat) (I : Imm) (η : Eta) (H : Hp) (w : World) (H' : Hp) (w' : World) (Q : Imm → Eta → Prop) : Prop :=
 ∃ I' η', Conc E I' η' H' w' ∧ Trans I η w I' η' w' ∧ MonoB B I η H I' η' H' ∧ Q I' η'
theorem After.b {B : Nat} {H' : Hp} {w' : World} {Q : Imm → Eta → Prop} (h : After E I η H w H' w' Q) : AfterB E B I η H w H' w' Q := by
 obtain ⟨I', η', h1, h2, h3, h4⟩ := h
 exact ⟨I', η', h1, h2, fun a v _ r => h3 a v r, h4⟩
theorem ren_id {ρ : Nat → Option Nat} : (∀ a, (∀ d ∈ refsA a, ρ d = some d) → renA ρ a = a) ∧ (∀ l, (∀ d ∈ refsL l, ρ d = some d) → renL ρ l = l) := by
 refine ⟨fun a => ?_, fun l => ?_⟩
 ·induction a using AV.rec (motive_2 := fun l => (∀ d ∈ refsL l, ρ d = some d) → renL ρ l = l) <;> (try intro h) <;> simp_all [refsA, refsL, renA, renL]
 ·induction l using AV.rec_1 (motive_1 := fun a => (∀ d ∈ refsA a, ρ d = some d) → renA ρ a = a) <;> (try intro h) <;> simp_all [refsA, refsL, renA, renL]
theorem gcR_ok {B : Nat} (hB : B ≤ H.length) (fr : Fr) : (gcR B fr H).Nodup ∧ ∀ c ∈ gcR B fr H, c < H.length := by
 obtain ⟨h1, h2⟩ := reach_ok H 64 (refsL (fr.map (·.2)) ++ (H.take B).flatMap Chunk.refs) [] (by simp) (by simp)
 unfold gcR
 refine ⟨List.nodup_append.2 ⟨List.nodup_range, h1.filter _, fun a ha b hb => ?_⟩, fun c hc => ?_⟩
 ·simp at ha hb; omega
 ·simp only [List.mem_append, List.mem_range, List.mem_filter] at hc
  rcases hc with hc | hc
  ·omega
  ·exact h2 c hc.1
theorem get_ren (ρ : Nat → Option Nat) (k : Nat) : ∀ fr : Fr, get k (fr.map fun x => (x.1, renA ρ x.2)) = renA ρ (get k fr)
 | [] => by simp [get, renA]
 | (j, a) :: fr => by
  simp only [List.map_cons, get]
  split
  ·rfl
  ·exact get_ren ρ k fr
theorem gc_ok (B : Nat) {fr : Fr} {tmps : Array Value} (hC : Conc E I η H w) (hf : FrOK I η H fr tmps) :
  ∃ η', Conc E I η' (gc B fr H).2 w ∧ FrOK I η' (gc B fr H).2 (gc B fr H).1 tmps ∧ (∀ c b n, η' c = some (b, n) → ∃ c', η c' = some (b, n)) ∧ MonoB B I η H I η' (gc B fr H).2 := by
 unfold gc
 split
 ·rename_i hB
  obtain ⟨hn, hlt⟩ := gcR_ok hB fr
  refine ⟨locEta η (gcR B fr H), loc_conc hC hn hlt, fun k => ?_, fun c b n h => ?_, fun a v hd r => ?_⟩
  ·show RelA _ _ _ (get k (fr.map fun x => (x.1, renA (posIn (gcR B fr H)) x.2))) _
   rw [get_ren]
   exact ren_ok (loc_ren hn hlt) (hf k)
  ·unfold locEta at h
   split at h
   ·exact ⟨_, h⟩
   ·cases h
  ·have := ren_ok (loc_ren (η := η) hn hlt) r
   rw [ren_id.1 a fun d hd' => posIn_get hn (by
    unfold gcR
    have := hd d hd'
    rw [List.getElem?_append_left (by simpa using this)]
    simp [this])] at this
   exact this
 ·exact ⟨η, hC, hf, fun c b n h => ⟨c, h⟩, fun a v _ r => r⟩

theorem cnL_map (B : Nat) (H : Hp) : ∀ l : List AV, cnL B H l = l.map (cnA B H)
 | [] => by simp [cnL]
 | a :: l => by simp [cnL, cnL_map B H l]
theorem cnHs_get (B : Nat) (H : Hp) : ∀ (l : Hp) (k c : Nat), (cnHs B H k l)[c]? = (l[c]?).map (cnC B H (k + c))
 | [], k, c => by simp [cnHs]
 | x :: l, k, 0 => by simp [cnHs]
 | x :: l, k, c + 1 => by
  have := cnHs_get B H l (k + 1) c
  simp only [cnHs, List.getElem?_cons_succ, this]
  rw [show k + 1 + c = k + (c + 1) by omega]
theorem cnHs_len (B : Nat) (H : Hp) : ∀ (l : Hp) (k : Nat), (cnHs B H k l).length = l.length
 | [], k => rfl
 | x :: l, k => by simp [cnHs, cnHs_len B H l]
theorem cn_at (B : Nat) (H : Hp) (c : Nat) : (cnHs B H 0 H)[c]? = (H[c]?).map (cnC B H c) := by
 rw [cnHs_get]; simp
theorem cn_sl {B : Nat} {c sz g : Nat} {rows : List (List IV)} {ex : Bool} (h : (cnHs B H 0 H)[c]? = some (.sl sz g rows ex)) :
  ∃ g0 ex0, H[c]? = some (.sl sz g0 rows ex0) ∧ ((c < B ∧ g = g0 ∧ ex = ex0) ∨ (B ≤ c ∧ g = 0 ∧ ex = false)) := by
 rw [cn_at] at h
 cases hH : H[c]? with
 | none => rw [hH] at h; cases h
 | some x =>
  rw [hH] at h
  cases x with
  | sl sz0 g0 rows0 ex0 =>
   simp only [Option.map_some, cnC, Option.some.injEq] at h
   split at h
   ·cases h; exact ⟨_, _, rfl, .inl ⟨by assumption, rfl, rfl⟩⟩
   ·cases h; exact ⟨_, _, rfl, .inr ⟨by omega, rfl, rfl⟩⟩
  | _ => simp [cnC] at h
theorem cn_fz {B : Nat} {c sz g : Nat} {rows : List (List IV)} {ex : Bool} (h : (cnHs B H 0 H)[c]? = some (.fz sz g rows ex)) : H[c]? = some (.fz sz g rows ex) := by
 rw [cn_at] at h
 cases hH : H[c]? with
 | none => rw [hH] at h; cases h
 | some x =>
  rw [hH] at h
  cases x with
  | sl sz0 g0 rows0 ex0 => simp only [Option.map_some, cnC, Option.some.injEq] at h; split at h <;> cases h
  | fz => simpa [cnC] using h
  | _ => simp [cnC] at h
theorem cn_iter {B : Nat} {c : Nat} {s : List UInt8} {p : Nat} (h : (cnHs B H 0 H)[c]? = some (.iter s p)) : H[c]? = some (.iter s p) := by
 rw [cn_at] at h
 cases hH : H[c]? with
 | none => rw [hH] at h; cases h
 | some x =>
  rw [hH] at h
  cases x with
  | sl sz0 g0 rows0 ex0 => simp only [Option.map_some, cnC, Option.some.injEq] at h; split at h <;> cases h
  | iter => simpa [cnC] using h
  | _ => simp [cnC] at h
theorem cnE_map (B : Nat) (H : Hp) : ∀ es : List (IV × AV), cnE B H es = es.map fun p => (p.1, cnA B H p.2)
 | [] => rfl
 | p :: r => by simp [cnE, cnE_map B H r]
theorem cn_map {B : Nat} {c : Nat} {es : List (IV × AV)} (h : (cnHs B H 0 H)[c]? = some (.map es)) : ∃ es0, H[c]? = some (.map es0) ∧ es = cnE B H es0 := by
 rw [cn_at] at h
 cases hH : H[c]? with
 | none => rw [hH] at h; cases h
 | some x =>
  rw [hH] at h
  cases x with
  | sl sz0 g0 rows0 ex0 => simp only [Option.map_some, cnC, Option.some.injEq] at h; split at h <;> cases h
  | map es0 => simp only [Option.map_some, cnC, Option.some.injEq, Chunk.map.injEq] at h; exact ⟨_, rfl, h.symm⟩
  | _ => simp [cnC] at h
theorem cn_buf {B : Nat} {c : Nat} {t : Nat} {l : List UInt8} (h : (cnHs B H 0 H)[c]? = some (.buf t l)) : H[c]? = some (.buf t l) := by
 rw [cn_at] at h
 cases hH : H[c]? with
 | none => rw [hH] at h; cases h
 | some x =>
  rw [hH] at h
  cases x with
  | sl sz0 g0 rows0 ex0 => simp only [Option.map_some, cnC, Option.some.injEq] at h; split at h <;> cases h
  | buf => simpa [cnC] using h
  | _ => simp [cnC] at h
theorem cn_tb {B : Nat} {c : Nat} {t : Nat} {cells : List AV} (h : (cnHs B H 0 H)[c]? = some (.tb t cells)) : ∃ cells0, H[c]? = some (.tb t cells0) ∧ cells = cnL B H cells0 := by
 rw [cn_at] at h
 cases hH : H[c]? with
 | none => rw [hH] at h; cases h
 | some x =>
  rw [hH] at h
  cases x with
  | sl sz0 g0 rows0 ex0 => simp only [Option.map_some, cnC, Option.some.injEq] at h; split at h <;> cases h
  | tb t0 cells0 => simp only [Option.map_some, cnC, Option.some.injEq, Chunk.tb.injEq] at h; obtain ⟨rfl, h⟩ := h; exact ⟨_, rfl, h.symm⟩
  | _ => simp [cnC] at h
theorem cn_slx {B : Nat} {c sz g : Nat} {rows : List (List IV)} {ex : Bool} (h : (cnHs B H 0 H)[c]? = some (.sl sz g rows ex)) : ∃ g' rows' ex', H[c]? = some (.sl sz g' rows' ex') := by
 rw [cn_at] at h
 cases hH : H[c]? with
 | none => rw [hH] at h; cases h
 | some x =>
  rw [hH] at h
  cases x with
  | sl sz0 g0 rows0 ex0 =>
   simp only [Option.map_some, cnC, Option.some.injEq] at h
   split at h <;> cases h <;> exact ⟨_, _, _, rfl⟩
  | _ => simp [cnC] at h
theorem cn_mref {B : Nat} {c : Nat} {v : Value} (r : RelA I η H (.mref c) v) : RelA I η (cnHs B H 0 H) (.mref c) v := by
 cases r with
 | mref c v hc hm ht hu hp hz =>
  exact .mref _ _ (by rw [cnHs_len]; exact hc) (fun es h => by obtain ⟨c0, h1, _⟩ := cn_map h; exact hm _ h1) (fun t cells h => by obtain ⟨c0, h1, _⟩ := cn_tb h; exact ht _ _ h1) (fun t l h => hu _ _ (cn_buf h)) hp (fun sz g rows ex h => by obtain ⟨_, _, _, h1⟩ := cn_slx h; exact hz _ _ _ _ h1)
theorem cn_box {B : Nat} {c : Nat} {cells : List AV} (h : (cnHs B H 0 H)[c]? = some (.box cells)) : ∃ cells0, H[c]? = some (.box cells0) ∧ cells = cnL B H cells0 := by
 rw [cn_at] at h
 cases hH : H[c]? with
 | none => rw [hH] at h; cases h
 | some x =>
  rw [hH] at h
  cases x with
  | sl sz0 g0 rows0 ex0 => simp only [Option.map_some, cnC, Option.some.injEq] at h; split at h <;> cases h
  | box cells0 => simp only [Option.map_some, cnC, Option.some.injEq, Chunk.box.injEq] at h; exact ⟨_, rfl, h.symm⟩
  | _ => simp [cnC] at h
theorem refsL_mem {d : Nat} : ∀ {l : List AV}, d ∈ refsL l ↔ ∃ a, a ∈ l ∧ d ∈ refsA a
 | [] => by simp [refsL]
 | a :: l => by simp [refsL, refsL_mem (l := l)]
theorem cn_keep {B : Nat} {a : AV} {v : Value} (r : RelA I η H a v) (hd : ∀ d ∈ refsA a, d < B) : RelA I η (cnHs B H 0 H) a v := by
 induction r with
 | dead v => exact .dead v
 | i x v h => exact .i x v h
 | agg cells cs hl _ ih => exact .agg cells cs hl fun k a ha => ih k a ha fun d h => hd d (refsL_mem.2 ⟨a, List.mem_of_getElem? ha, h⟩)
 | clo fn a b fs cs hl hm _ _ ih1 ih2 =>
  exact .clo fn a b fs cs hl hm (fun k x hx => ih1 k x hx fun d h => hd d (List.mem_append.2 (.inl (refsL_mem.2 ⟨x, List.mem_of_getElem? hx, h⟩))))
   (fun k x hx => ih2 k x hx fun d h => hd d (List.mem_append.2 (.inr (refsL_mem.2 ⟨x, List.mem_of_getElem? hx, h⟩))))
 | tup vs xs hl _ ih => exact .tup vs xs hl fun k a ha => ih k a ha fun d h => hd d (refsL_mem.2 ⟨a, List.mem_of_getElem? ha, h⟩)
 | ref c g off len v hc hs hf hp hg =>
  have hcB : c < B := hd c (by simp [refsA])
  refine .ref _ _ _ _ _ (by rw [cnHs_len]; exact hc) (fun sz rows ex h => ?_) (fun sz rows ex h => hf _ _ _ (cn_fz h)) hp (fun sz g' rows ex h => ?_)
  ·obtain ⟨g0, ex0, h1, ⟨_, rfl, rfl⟩ | ⟨h2, _⟩⟩ := cn_sl h
   ·exact hs _ _ _ h1
   ·omega
  ·obtain ⟨g0, ex0, h1, ⟨_, rfl, rfl⟩ | ⟨h2, _⟩⟩ := cn_sl h
   ·exact hg _ _ _ _ h1
   ·omega
 | mref c v hc hm ht hu hp hz => exact cn_mref (.mref c v hc hm ht hu hp hz)
 | ptr c g r k v hc hb hs hf hi hp hg =>
  have hcB : c < B := hd c (by simp [refsA])
  refine .ptr _ _ _ _ _ (by rw [cnHs_len]; exact hc) (fun cells h => ?_) (fun sz rows ex h => ?_) (fun sz rows ex row h => hf _ _ _ _ (cn_fz h)) (fun s p h => hi _ _ (cn_iter h)) hp (fun sz g' rows ex h => ?_)
  ·obtain ⟨c0, h1, _⟩ := cn_box h; exact hb _ h1
  ·obtain ⟨g0, ex0, h1, ⟨_, rfl, rfl⟩ | ⟨h2, _⟩⟩ := cn_sl h
   ·exact hs _ _ _ h1
   ·omega
  ·obtain ⟨g0, ex0, h1, ⟨_, rfl, rfl⟩ | ⟨h2, _⟩⟩ := cn_sl h
   ·exact hg _ _ _ _ h1
   ·omega
theorem cn_rel {B : Nat} {a : AV} {v : Value} (r : RelA I η H a v) : RelA I η (cnHs B H 0 H) (cnA B H a) v := by
 induction r with
 | dead v => simp only [cnA]; exact .dead v
 | i x v h => simp only [cnA]; exact .i x v h
 | agg cells cs hl _ ih =>
  simp only [cnA, cnL_map]
  refine .agg _ _ (by simpa using hl) fun k a ha => ?_
  simp only [List.getElem?_map, Option.map_eq_some_iff] at ha
  obtain ⟨b, hb, rfl⟩ := ha
  exact ih k b hb
 | clo fn a b fs cs hl hm _ _ ih1 ih2 =>
  simp only [cnA, cnL_map]
  refine .clo _ _ _ _ _ (by simpa using hl) (by simpa using hm) (fun k a ha => ?_) (fun k a ha => ?_)
  ·simp only [List.getElem?_map, Option.map_eq_some_iff] at ha
   obtain ⟨b, hb, rfl⟩ := ha
   exact ih1 k b hb
  ·simp only [List.getElem?_map, Option.map_eq_some_iff] at ha
   obtain ⟨b, hb, rfl⟩ := ha
   exact ih2 k b hb
 | tup vs xs hl _ ih =>
  simp only [cnA, cnL_map]
  refine .tup _ _ (by simpa using hl) fun k a ha => ?_
  simp only [List.getElem?_map, Option.map_eq_some_iff] at ha
  obtain ⟨b, hb, rfl⟩ := ha
  exact ih k b hb
 | ref c g off len v hc hs hf hp hg =>
  simp only [cnA]
  split
  ·exact cn_keep (.ref c g off len v hc hs hf hp hg) (by simpa [refsA])
  ·rename_i hcB
   unfold cnRef
   split
   ·rename_i sz g' rows ex hH
    split
    ·rename_i e; subst e
     refine .ref _ _ _ _ _ (by rw [cnHs_len]; exact hc) (fun sz2 rows2 ex2 h => ?_) (fun sz2 rows2 ex2 h => ?_) hp (fun _ _ _ _ _ => Nat.zero_le _)
     ·obtain ⟨g0, ex0, h1, _⟩ := cn_sl h
      rw [hH] at h1; cases h1
      exact hs _ _ _ hH
     ·have := cn_fz h; rw [hH] at this; cases this
    ·exact .dead v
   ·rename_i sz g' rows ex hH
    split
    ·rename_i e; subst e
     exact .i _ _ (hf _ _ _ hH).2
    ·exact .dead v
   ·exact .dead v
 | mref c v hc hm ht hu hp hz => simp only [cnA]; exact cn_mref (.mref c v hc hm ht hu hp hz)
 | ptr c g r k v hc hb hs hf hi hp hg =>
  simp only [cnA]
  split
  ·exact cn_keep (.ptr c g r k v hc hb hs hf hi hp hg) (by simpa [refsA])
  ·rename_i hcB
   unfold cnPtr
   split
   ·rename_i sz g' rows ex hH
    split
    ·rename_i e; subst e
     refine .ptr _ _ _ _ _ (by rw [cnHs_len]; exact hc) (fun cells h => ?_) (fun sz2 rows2 ex2 h => ?_) (fun sz2 rows2 ex2 row h => ?_) (fun s p h => ?_) hp (fun _ _ _ _ _ => Nat.zero_le _)
     ·obtain ⟨c0, h1, _⟩ := cn_box h; rw [hH] at h1; cases h1
     ·obtain ⟨g0, ex0, h1, _⟩ := cn_sl h
      rw [hH] at h1; cases h1
      exact hs _ _ _ hH
     ·have := cn_fz h; rw [hH] at this; cases this
     ·have := cn_iter h; rw [hH] at this; cases this
    ·exact .dead v
   ·rename_i x hne hH
    refine .ptr _ _ _ _ _ (by rw [cnHs_len]; exact hc) (fun cells h => ?_) (fun sz2 rows2 ex2 h => ?_) (fun sz2 rows2 ex2 row h => hf _ _ _ _ (cn_fz h)) (fun s p h => hi _ _ (cn_iter h)) hp (fun sz2 g2 rows2 ex2 h => ?_)
    ·obtain ⟨c0, h1, _⟩ := cn_box h; exact hb _ h1
    ·obtain ⟨g0, ex0, h1, _⟩ := cn_sl h
     rw [hH] at h1; cases h1; exact (hne _ _ _ _ rfl).elim
    ·obtain ⟨g0, ex0, h1, _⟩ := cn_sl h
     rw [hH] at h1; cases h1; exact (hne _ _ _ _ rfl).elim
   ·exact .dead v
theorem cn_conc (B : Nat) (hC : Conc E I η H w) : Conc E I η (cnHs B H 0 H) w := by
 refine ⟨hC.imm, fun c x hx => ?_, hC.inj, fun c b n h => ?_, hC.glob⟩
 ·rw [cn_at] at hx
  simp only [Option.map_eq_some_iff] at hx
  obtain ⟨y, hy, rfl⟩ := hx
  have hk := hC.ch c y hy
  cases y with
  | box cells =>
   obtain ⟨b, cs, elem, fz, h1, h2, h3, h4, h5⟩ := hk
   refine ⟨b, cs, elem, fz, h1, h2, h3, by rw [cnL_map]; simpa using h4, fun k a ha => ?_⟩
   rw [cnL_map] at ha
   simp only [List.getElem?_map, Option.map_eq_some_iff] at ha
   obtain ⟨b, hb, rfl⟩ := ha
   exact cn_rel (h5 k b hb)
  | sl sz g rows ex =>
   simp only [cnC]
   split
   ·exact hk
   ·obtain ⟨h1, h2, h3⟩ := hk
    refine ⟨h1, h2, ?_⟩
    rcases h3 with h3 | ⟨b, cs, elem, fz, h4, h5, h6, h7, h8, h9⟩
    ·exact .inl h3
    ·exact .inr ⟨b, cs, elem, fz, h4, h5, h6, h7, (fun h => by cases h), h9⟩
  | fz => exact hk
  | iter => exact hk
  | map es =>
   obtain ⟨b, arr, cl, h1, h2, h3⟩ := hk
   exact ⟨b, arr, cl, h1, h2, by rw [cnE_map]; exact h3.to fun a v r => cn_rel r⟩
  | buf => exact hk
  | gone => exact hk
  | tb t cells =>
   obtain ⟨b, cs, h1, h2, h4, h5⟩ := hk
   refine ⟨b, cs, h1, h2, by rw [cnL_map]; simpa using h4, fun k a ha => ?_⟩
   rw [cnL_map] at ha
   simp only [List.getElem?_map, Option.map_eq_some_iff] at ha
   obtain ⟨b, hb, rfl⟩ := ha
   exact cn_rel (h5 k b hb)
 ·have := hC.sep c b n h
  exact ⟨this.1, this.2.1, by rw [cnHs_len]; exact this.2.2⟩
theorem get_cnF (B : Nat) (k : Nat) : ∀ fr : Fr, get k (cnF B H fr) = cnA B H (get k fr)
 | [] => by simp [get, cnF, cnA]
 | (j, a) :: fr => by
  simp only [cnF, get]
  split
  ·rfl
  ·exact get_cnF B k fr
theorem AfterB.trans {B : Nat} {H' H'' : Hp} {w' w'' : World} {Q Q' : Imm → Eta → Prop} (h : AfterB E B I η H w H' w' Q) (k : ∀ I' η', Conc E I' η' H' w' → Q I' η' → AfterB E B I' η' H' w' H'' w'' Q') : AfterB E B I η H w H'' w'' Q' := by
 obtain ⟨I', η', h1, h2, h3, h4⟩ := h
 obtain ⟨I'', η'', k1, k2, k3, k4⟩ := k I' η' h1 h4
 exact ⟨I'', η'', k1, h2.trans k2, h3.trans k3, k4⟩
theorem cn_after (B : Nat) (hC : Conc E I η H w) {Q : Imm → Eta → Prop} (hQ : Q I η) : AfterB E B I η H w (cnHs B H 0 H) w Q :=
 ⟨I, η, cn_conc B hC, Trans.refl _ _ _, fun a v hd r => cn_keep r hd, hQ⟩
theorem gcn_ok (B : Nat) {fr : Fr} {tmps : Array Value} (hC : Conc E I η H w) (hf : FrOK I η H fr tmps) :
  AfterB E B I η H w (gcn B fr H).2 w fun I' η' => FrOK I' η' (gcn B fr H).2 (gcn B fr H).1 tmps := by
 unfold gcn
 refine (cn_after B hC (Q := fun I' η' => FrOK I' η' (cnHs B H 0 H) (cnF B H fr) tmps) fun k => by rw [get_cnF]; exact cn_rel (hf k)).trans fun I1 η1 hC1 hf1 => ?_
 obtain ⟨η', C1, F1, O1, M1⟩ := gc_ok B hC1 hf1
 exact ⟨I1, η', C1, ⟨rfl, rfl, rfl, Nat.le_refl _, fun _ _ _ => rfl, fun _ _ h => h, fun _ h => .inl h, fun c b n h => by obtain ⟨c', h'⟩ := O1 c b n h; exact .inr ⟨c', n, h'⟩⟩, M1, F1⟩
theorem matF_ok {tmps : Array Value} : ∀ (l : List (Nat × Nat)) {I : Imm} {η : Eta} {H : Hp} {fr : Fr}, Conc E I η H w → FrOK I η H fr tmps → After E I η H w (matF l fr H).2 w fun I' η' => FrOK I' η' (matF l fr H).2 (matF l fr H).1 tmps
 | [], I, η, H, fr, hC, hf => After.refl hC hf
 | (k, z) :: l, I, η, H, fr, hC, hf => by
  simp only [matF]
  refine (matV_ok hC z (hf k)).trans fun I1 η1 hC1 _ hm hx => ?_
  exact matF_ok l hC1 fun j => by
   simp only [get]
   split
   ·rename_i e; subst e; exact hx
   ·exact hm _ _ (hf j)
theorem matB1_ok (hC : Conc E I η H w) (j z c : Nat) : After E I η H w (matB1 j z c H H[c]?) w fun _ _ => True := by
 unfold matB1
 split
 ·rename_i cells hc
  split
  ·rename_i a ha
   obtain ⟨b, cs, elem, fz, e1, e2, e3, e4, e5⟩ := hC.ch _ _ hc
   have hcl := (List.getElem?_eq_some_iff.1 hc).1
   refine (matV_ok hC z (e5 j a ha)).trans fun I1 η1 hC1 hI hm hx => ?_
   have hc1 : (matV z H a).2[c]? = some (.box cells) := by
    obtain ⟨x, hx⟩ := matV_app z H a
    rw [hx, List.getElem?_append_left hcl]; exact hc
   obtain ⟨b', cs', elem', fz', f1, f2, f3, f4, f5⟩ := hC1.ch _ _ hc1
   have hcs : cs' = cs := by
    have h1 : RelA I1 η1 (matV z H a).2 (.ptr c 0 0 0) (.pointer (some ⟨b, 0, none⟩)) := hm _ _ (.ptr c 0 0 0 _ hcl (fun _ _ => ⟨b, _, e1, rfl⟩) (fun _ _ _ h => by rw [hc] at h; cases h) (fun _ _ _ _ h => by rw [hc] at h; cases h) (fun _ _ h => by rw [hc] at h; cases h) ⟨_, rfl⟩ (fun _ _ _ _ h => by rw [hc] at h; cases h))
    cases h1 with
    | ptr _ _ _ _ _ _ hb =>
     obtain ⟨b2, n2, g1, g2⟩ := hb _ hc1
     rw [f1] at g1; cases g1
     cases g2
     rw [e2] at f2; cases f2; rfl
   subst hcs
   refine wrote hC1 f1 hc1 (fun _ _ => rfl) rfl rfl rfl rfl ?_ (fun hm2 => ?_) (fun _ => trivial)
   ·intro y hy
    rcases set_get hy with ⟨_, rfl⟩ | ⟨e, _⟩
    ·exact .inl ⟨cells, hc1, rfl⟩
    ·exact absurd rfl e
   ·refine ⟨b', cs', elem', fz', f1, f2, f3, by simpa using f4, fun k x hk => ?_⟩
    by_cases hkj : j = k
    ·subst hkj
     have hjl := (List.getElem?_eq_some_iff.1 ha).1
     rw [List.getElem?_set_self hjl] at hk
     cases hk
     exact hm2 _ _ hx
    ·rw [List.getElem?_set_ne hkj] at hk
     exact hm2 _ _ (f5 k x hk)
  ·exact After.refl hC trivial
 ·exact After.refl hC trivial
theorem matB_ok {tmps : Array Value} {fr : Fr} : ∀ (l : List (Nat × Nat × Nat)) {I : Imm} {η : Eta} {H : Hp}, Conc E I η H w → FrOK I η H fr tmps → After E I η H w (matB l fr H) w fun I' η' => FrOK I' η' (matB l fr H) fr tmps
 | [], I, η, H, hC, hf => After.refl hC hf
 | (k, j, z) :: l, I, η, H, hC, hf => by
  have h1 : After E I η H w (matB2 j z H (get k fr)) w fun _ _ => True := by
   unfold matB2; split
   ·exact matB1_ok hC _ _ _
   ·exact After.refl hC trivial
  simp only [matB]
  exact h1.trans fun I1 η1 hC1 _ hm _ => matB_ok l hC1 fun k => hm _ _ (hf k)
theorem frzF_ok {tmps : Array Value} : ∀ (l : List (Nat × Nat)) {I : Imm} {η : Eta} {H : Hp} {fr : Fr}, Conc E I η H w → FrOK I η H fr tmps → After E I η H w (frzF l fr H).2 w fun I' η' => FrOK I' η' (frzF l fr H).2 (frzF l fr H).1 tmps
 | [], I, η, H, fr, hC, hf => After.refl hC hf
 | (k, z) :: l, I, η, H, fr, hC, hf => by
  simp only [frzF]
  cases hz : freeze H (get k fr) with
  | none => simp only [frz1]; exact frzF_ok l hC hf
  | some p =>
   obtain ⟨x, H1⟩ := p
   simp only [frz1]
   refine (freeze_ok hC (hf k) hz).trans fun I1 η1 hC1 _ hm hx => ?_
   exact frzF_ok l hC1 fun j => by
    simp only [get]
    split
    ·rename_i e; subst e; exact .i _ _ (canI_ok hx)
    ·exact hm _ _ (hf j)
theorem hd_ok (B : Nat) {f : FuncId} {id : Nat} {fr : Fr} {tmps : Array Value} (hC : Conc E I η H w) (hf : FrOK I η H fr tmps) :
  AfterB E B I η H w (hdE E B f id fr H).2 w fun I' η' => FrOK I' η' (hdE E B f id fr H).2 (hdE E B f id fr H).1 tmps := by
 unfold hdE
 simp only
 refine (matF_ok (E.mat f id) hC hf).b.trans fun I1 η1 hC1 hf1 => ?_
 refine (matB_ok (E.matb f id) hC1 hf1).b.trans fun I2 η2 hC2 hf2 => ?_
 refine (frzF_ok (E.frz f id) hC2 hf2).b.trans fun I3 η3 hC3 hf3 => ?_
 exact gcn_ok B hC3 (hf3.normed _)
theorem retL_ok {f : FuncId} {B : Nat} (hC : Conc E I η H w) {vs as0 : List AV} {H' : Hp} (h : retL E f B H vs = some (as0, H')) (g : Nat → Value) (r : ∀ (k : Nat) (a : AV), vs[k]? = some a → RelA I η H a (g k)) :
  AfterB E B I η H w H' w fun I' η' => as0.length = vs.length ∧ ∀ (k : Nat) (a : AV), as0[k]? = some a → RelA I' η' H' a (g k) := by
 have fin : ∀ {I1 η1 H1 as1}, Conc E I1 η1 H1 w → (as1.length = vs.length ∧ ∀ (k : Nat) (a : AV), as1[k]? = some a → RelA I1 η1 H1 a (g k)) →
   AfterB E B I1 η1 H1 w (cnHs B H1 0 H1) w fun I' η' => (cnL B H1 as1).length = vs.length ∧ ∀ (k : Nat) (a : AV), (cnL B H1 as1)[k]? = some a → RelA I' η' (cnHs B H1 0 H1) a (g k) := by
  intro I1 η1 H1 as1 hC1 hq
  refine cn_after B hC1 ⟨by rw [cnL_map]; simpa using hq.1, fun k a ha => ?_⟩
  rw [cnL_map] at ha
  simp only [List.getElem?_map, Option.map_eq_some_iff] at ha
  obtain ⟨b, hb, rfl⟩ := ha
  exact cn_rel (hq.2 k b hb)
 unfold retL at h
 split at h
 ·simp only [Option.some.injEq, Prod.mk.injEq] at h
  obtain ⟨rfl, rfl⟩ := h
  exact (matL_ok (E.resk f) vs hC g r).b.trans fun I1 η1 hC1 hq => fin hC1 hq
 ·split at h
  ·rename_i as1 H1 hp
   simp only [Option.some.injEq, Prod.mk.injEq] at h
   obtain ⟨rfl, rfl⟩ := h
   exact (prep_ok hC g hp r).b.trans fun I1 η1 hC1 hq => fin hC1 ⟨by rw [canLs_len]; exact hq.1, canLs_ok _ _ g hq.2⟩
  ·cases h
theorem retE_ok {f : FuncId} {B : Nat} (hC : Conc E I η H w) {r0 r : AV} {v : Value} {H' : Hp} (h : retE E f B H r0 = some (r, H')) (rv : RelA I η H r0 v) : AfterB E B I η H w H' w fun I' η' => RelA I' η' H' r v := by
 have single : ∀ a, ret1 (retL E f B H [a]) = some (r, H') → RelA I η H a v → AfterB E B I η H w H' w fun I' η' => RelA I' η' H' r v := by
  intro a h ra
  unfold ret1 at h
  split at h
  ·rename_i a1 H1 hr
   simp only [Option.some.injEq, Prod.mk.injEq] at h
   obtain ⟨rfl, rfl⟩ := h
   obtain ⟨I1, η1, k1, k2, k3, k4⟩ := retL_ok hC hr (fun _ => v) (fun k b hb => by
    cases k with
    | zero => simp at hb; subst hb; exact ra
    | succ k => simp at hb)
   exact ⟨I1, η1, k1, k2, k3, k4.2 0 _ rfl⟩
  ·cases h
 cases r0 with
 | tup vs =>
  simp only [retE, retN] at h
  split at h
  ·rename_i as0 H1 hr
   simp only [Option.some.injEq, Prod.mk.injEq] at h
   obtain ⟨rfl, rfl⟩ := h
   cases rv with
   | tup _ xs hl hx =>
    obtain ⟨I1, η1, k1, k2, k3, k4⟩ := retL_ok hC hr (fun k => xs.getD k undef) hx
    exact ⟨I1, η1, k1, k2, k3, .tup _ _ (by rw [k4.1]; exact hl) k4.2⟩
  ·cases h
 | dead => exact single _ h rv
 | i => exact single _ h rv
 | agg => exact single _ h rv
 | ref => exact single _ h rv
 | ptr => exact single _ h rv
 | mref => exact single _ h rv
 | clo => exact single _ h rv

def markD (D : Nat) : Deferred := { target := .collected D, args := #[] }
def NM (I : Imm) (η : Eta) (b : Nat) : Prop := I b = none ∧ ∀ c n, η c ≠ some (b, n)
def MarksOK (b0 : Nat) (I : Imm) (η : Eta) (w : World) (ds : List Deferred) : Prop := ∃ Ds : List Nat, ds = Ds.map markD ∧ Ds.Nodup ∧ ∀ D ∈ Ds, b0 ≤ D ∧ w.heap[D]? = some (.deferred (some [])) ∧ NM I η D
theorem heap_lt {w : World} {b : Nat} {o : Obj} (h : w.heap[b]? = some o) : b < w.heap.size := (Array.getElem?_eq_some_iff.1 h).1
theorem nm_trans {I' η' w'} {b : Nat} (h : NM I η b) (hb : b < w.heap.size) (T : Trans I η w I' η' w') : NM I' η' b := by
 refine ⟨?_, fun c n e => ?_⟩
 ·cases hi : I' b with
  | none => rfl
  | some o =>
   rcases T.immNew b (by rw [hi]; simp) with h1 | h1 | ⟨c, n, h1⟩
   ·exact absurd h.1 h1
   ·omega
   ·exact absurd h1 (h.2 c n)
 ·rcases T.own c b n e with h1 | ⟨c', n', h1⟩
  ·omega
  ·exact h.2 _ _ h1
theorem nm_frame {I' η' w'} {b : Nat} {o : Obj} (h : NM I η b) (hb : w.heap[b]? = some o) (T : Trans I η w I' η' w') : w'.heap[b]? = some o := (T.frame b (heap_lt hb) h.2).trans hb
theorem marks_trans {I' η' w'} {b0 : Nat} {ds : List Deferred} (h : MarksOK b0 I η w ds) (T : Trans I η w I' η' w') : MarksOK b0 I' η' w' ds := by
 obtain ⟨Ds, h1, h2, h3⟩ := h
 refine ⟨Ds, h1, h2, fun D hD => ?_⟩
 obtain ⟨k1, k2, k3⟩ := h3 D hD
 exact ⟨k1, nm_frame k3 k2 T, nm_trans k3 (heap_lt k2) T⟩
theorem marks_nil (b0 : Nat) (I : Imm) (η : Eta) (w : World) : MarksOK b0 I η w [] := ⟨[], rfl, List.nodup_nil, fun _ h => by cases h⟩
theorem marks_put {b0 : Nat} {ds : List Deferred} {l : Nat} {r : Loop} (h : MarksOK b0 I η w ds) (hl : w.heap[l]? = some (.loop r)) (o : Obj) : MarksOK b0 I η (w.putObj l o) ds := by
 obtain ⟨Ds, h1, h2, h3⟩ := h
 refine ⟨Ds, h1, h2, fun D hD => ?_⟩
 obtain ⟨k1, k2, k3⟩ := h3 D hD
 exact ⟨k1, (World.putObj_heap_other (by rintro rfl; rw [hl] at k2; cases k2)).trans k2, k3⟩
theorem After.bm {B b0 : Nat} {H' : Hp} {w' : World} {Q : Imm → Eta → Prop} {a a' : Act} (hM : MarksOK b0 I η w a.defers) (hdef : a'.defers = a.defers) (h : After E I η H w H' w' Q) :
  AfterB E B I η H w H' w' fun I' η' => Q I' η' ∧ MarksOK b0 I' η' w' a'.defers := by
 obtain ⟨I', η', h1, h2, h3, h4⟩ := h
 exact ⟨I', η', h1, h2, fun a v _ r => h3 a v r, h4, by rw [hdef]; exact marks_trans hM h2⟩
theorem chunk_put {l c : Nat} {o : Obj} {x : Chunk} (hl : ∀ c n, η c ≠ some (l, n)) (h : ChunkOK I η H w c x) : ChunkOK I η H (w.putObj l o) c x := by
 have key : ∀ b n, η c = some (b, n) → (w.putObj l o).heap[b]? = w.heap[b]? := fun b n e => World.putObj_heap_other (by rintro rfl; exact hl _ _ e)
 cases x with
 | box cells =>
  obtain ⟨b, cs, elem, fz, h1, h2, h3⟩ := h
  exact ⟨b, cs, elem, fz, h1, (key _ _ h1).trans h2, h3⟩
 | sl sz g rows ex =>
  obtain ⟨h1, h2, h3⟩ := h
  refine ⟨h1, h2, ?_⟩
  rcases h3 with h3 | ⟨b, cs, elem, fz, h4, h5, h6⟩
  ·exact .inl h3
  ·exact .inr ⟨b, cs, elem, fz, h4, (key _ _ h4).trans h5, h6⟩
 | fz => exact h
 | iter s p =>
  obtain ⟨b, h1, h2⟩ := h
  exact ⟨b, h1, (key _ _ h1).trans h2⟩
 | map es =>
  obtain ⟨b, arr, cl, h1, h2, h3⟩ := h
  exact ⟨b, arr, cl, h1, (key _ _ h1).trans h2, h3⟩
 | tb t cells =>
  obtain ⟨b, cs, h1, h2, h3⟩ := h
  exact ⟨b, cs, h1, (key _ _ h1).trans h2, h3⟩
 | buf t l =>
  obtain ⟨b, cs, h1, h2, h3⟩ := h
  exact ⟨b, cs, h1, (key _ _ h1).trans h2, h3⟩
 | gone => exact h
theorem conc_put {l : Nat} {o : Obj} (hC : Conc E I η H w) (hl : NM I η l) : Conc E I η H (w.putObj l o) :=
 ⟨fun b o' h => (World.putObj_heap_other (by rintro rfl; rw [hl.1] at h; cases h)).trans (hC.imm b o' h), fun c x h => chunk_put hl.2 (hC.ch c x h), hC.inj,
  fun c b n h => by have := hC.sep c b n h; exact ⟨this.1, by rw [World.putObj_size]; exact this.2.1, this.2.2⟩, hC.glob⟩
theorem trans_put {I0 : Imm} {η0 : Eta} {w0 : World} {l : Nat} {o : Obj} (T : Trans I0 η0 w0 I η w) (hl : w0.heap.size ≤ l) : Trans I0 η0 w0 I η (w.putObj l o) :=
 ⟨T.os, T.tape, T.output, by rw [World.putObj_size]; exact T.size, fun b hb hn => (World.putObj_heap_other (by omega)).trans (T.frame b hb hn), T.imm, T.immNew, T.own⟩
theorem chunk_alloc {c : Nat} {o : Obj} {x : Chunk} (h : ChunkOK I η H w c x) : ChunkOK I η H (w.alloc o) c x := by
 have key : ∀ {b : Nat} {o' : Obj}, w.heap[b]? = some o' → (w.alloc o).heap[b]? = some o' := fun h => (RowKit.Below.heap_alloc w o _ (heap_lt h)).trans h
 cases x with
 | box cells =>
  obtain ⟨b, cs, elem, fz, h1, h2, h3⟩ := h
  exact ⟨b, cs, elem, fz, h1, key h2, h3⟩
 | sl sz g rows ex =>
  obtain ⟨h1, h2, h3⟩ := h
  refine ⟨h1, h2, ?_⟩
  rcases h3 with h3 | ⟨b, cs, elem, fz, h4, h5, h6⟩
  ·exact .inl h3
  ·exact .inr ⟨b, cs, elem, fz, h4, key h5, h6⟩
 | fz => exact h
 | iter s p =>
  obtain ⟨b, h1, h2⟩ := h
  exact ⟨b, h1, key h2⟩
 | map es =>
  obtain ⟨b, arr, cl, h1, h2, h3⟩ := h
  exact ⟨b, arr, cl, h1, key h2, h3⟩
 | tb t cells =>
  obtain ⟨b, cs, h1, h2, h3⟩ := h
  exact ⟨b, cs, h1, key h2, h3⟩
 | buf t l =>
  obtain ⟨b, cs, h1, h2, h3⟩ := h
  exact ⟨b, cs, h1, key h2, h3⟩
 | gone => exact h
theorem conc_alloc0 {o : Obj} (hC : Conc E I η H w) : Conc E I η H (w.alloc o) :=
 ⟨fun b o' h => (RowKit.Below.heap_alloc w o _ (heap_lt (hC.imm b o' h))).trans (hC.imm b o' h), fun c x h => chunk_alloc (hC.ch c x h), hC.inj,
  fun c b n h => by have := hC.sep c b n h; exact ⟨this.1, by rw [World.size_alloc]; omega, this.2.2⟩, hC.glob⟩
theorem trans_alloc0 {I0 : Imm} {η0 : Eta} {w0 : World} {o : Obj} (T : Trans I0 η0 w0 I η w) : Trans I0 η0 w0 I η (w.alloc o) :=
 ⟨T.os, T.tape, T.output, by rw [World.size_alloc]; have := T.size; omega, fun b hb hn => (RowKit.Below.heap_alloc w o b (by have := T.size; omega)).trans (T.frame b hb hn), T.imm, T.immNew, T.own⟩
theorem marks_alloc {b0 : Nat} {ds : List Deferred} {o : Obj} (h : MarksOK b0 I η w ds) : MarksOK b0 I η (w.alloc o) ds := by
 obtain ⟨Ds, h1, h2, h3⟩ := h
 refine ⟨Ds, h1, h2, fun D hD => ?_⟩
 obtain ⟨k1, k2, k3⟩ := h3 D hD
 exact ⟨k1, (RowKit.Below.heap_alloc w o _ (heap_lt k2)).trans k2, k3⟩
theorem conc_grow {w2 : World} (hC : Conc E I η H w) (hb : RowKit.Below w.heap.size w w2) : Conc E I η H w2 := by
 have hold := hb.block
 refine ⟨fun b o h => ?_, fun c x hx => (hC.ch c x hx).mono rfl (fun _ _ h => h) (Mono.refl _ _ _) fun b n h => hold b (hC.sep _ _ _ h).2.1, hC.inj, fun c b n h => ?_, hC.glob⟩
 ·have := hC.imm b o h
  rw [hold b (heap_lt this)]; exact this
 ·obtain ⟨h1, h2, h3⟩ := hC.sep _ _ _ h
  exact ⟨h1, Nat.lt_of_lt_of_le h2 hb.size, h3⟩
theorem trans_grow {I0 : Imm} {η0 : Eta} {w0 w2 : World} (T : Trans I0 η0 w0 I η w) (hb : RowKit.Below w.heap.size w w2) : Trans I0 η0 w0 I η w2 :=
 ⟨hb.os.trans T.os, hb.tape.trans T.tape, hb.output.trans T.output, Nat.le_trans T.size hb.size, fun b hb' hn => (hb.block b (by have := T.size; omega)).trans (T.frame b hb' hn), T.imm, T.immNew, T.own⟩
theorem marks_grow {b0 : Nat} {ds : List Deferred} {w2 : World} (h : MarksOK b0 I η w ds) (hb : RowKit.Below w.heap.size w w2) : MarksOK b0 I η w2 ds := by
 obtain ⟨Ds, h1, h2, h3⟩ := h
 refine ⟨Ds, h1, h2, fun D hD => ?_⟩
 obtain ⟨k1, k2, k3⟩ := h3 D hD
 exact ⟨k1, (hb.block _ (heap_lt k2)).trans k2, k3⟩
theorem nm_new (hC : Conc E I η H w) {b : Nat} (hb : w.heap.size ≤ b) : NM I η b := by
 refine ⟨?_, fun c n e => ?_⟩
 ·cases hi : I b with
  | none => rfl
  | some o => have := heap_lt (hC.imm b o hi); omega
 ·have := (hC.sep c b n e).2.1; omega
theorem leaves_marks {I0 : Imm} {η0 : Eta} {w0 : World} {nn : Nat} {fn : Func} {tmps : Array Value} {R : Ending → World → Prop} : ∀ (Ds : List Nat) (w : World), Conc E I η H w → Trans I0 η0 w0 I η w → Ds.Nodup →
  (∀ D ∈ Ds, w0.heap.size ≤ D ∧ w.heap[D]? = some (.deferred (some [])) ∧ NM I η D) →
  (∀ w', Conc E I η H w' → Trans I0 η0 w0 I η w' → ∃ v, (results fn tmps).run E.P w' = .ok v w' ∧ R (.returned v) w') → LeavesInM (Fe none) nn E.P fn tmps R (Ds.map markD) .returning w
 | [], w, hC, T, _, _, hR => hR w hC T
 | D :: Ds, w, hC, T, hn, hD, hR => by
  obtain ⟨k1, k2, k3⟩ := hD D (.head _)
  have hn' := List.nodup_cons.1 hn
  refine ⟨by simp, .inl ⟨D, _, rfl, run_takeDeferred k2, ?_⟩⟩
  refine leaves_marks Ds _ (conc_put hC k3) (trans_put T k1) hn'.2 (fun D' hD' => ?_) hR
  obtain ⟨j1, j2, j3⟩ := hD D' (.tail _ hD')
  exact ⟨j1, (World.putObj_heap_other (by rintro rfl; exact hn'.1 hD')).trans j2, j3⟩

def ExecOK (E : Env) (n : Nat) : Prop := ∀ (ro : Option Nat) (nn b0 : Nat) B f c fr H ex fr' H', exec E n B f c fr H = some (ex, fr', H') → ∀ I η w a Q, codeOk E f a.tmps.size c = true → (ro = none ∨ rdOk c = true) → E.P.follows .mixedOrders = true → Conc E I η H w → FrOK I η H fr a.tmps →
 MarksOK b0 I η w a.defers → b0 ≤ w.heap.size →
 (∀ a' w', a'.tmps.size = a.tmps.size → AfterB E B I η H w H' w' (fun I' η' => FrOK I' η' H' fr' a'.tmps ∧ MarksOK b0 I' η' w' a'.defers) → Q (exOf ex) a' w') → c.wpIn (Fe ro) nn E.P Q a w
def LoopOK (E : Env) (n : Nat) : Prop := ∀ (ro : Option Nat) (nn b0 : Nat) B f c fr H ex fr' H', exec E n B f (.loop c) fr H = some (ex, fr', H') → ∀ I η w a Q, codeOk E f a.tmps.size c = true → (ro = none ∨ rdOk c = true) → E.P.follows .mixedOrders = true → Conc E I η H w → FrOK I η H fr a.tmps →
 MarksOK b0 I η w a.defers → b0 ≤ w.heap.size →
 (∀ a' w', a'.tmps.size = a.tmps.size → AfterB E B I η H w H' w' (fun I' η' => FrOK I' η' H' fr' a'.tmps ∧ MarksOK b0 I' η' w' a'.defers) → Q (exOf ex) a' w') → Code.roundsIn (Fe ro) nn E.P c Q n a w

def ptrV (b : Nat) : Value := .pointer (some ⟨b, 0, none⟩)
def Seq1 (P : Program) (g : FuncId) (L : List (List IV) → Option (List AV)) : Prop := ∀ (l nn : Nat) (css : List (List IV)) (xs : List AV) (bs : List Nat) (I : Imm) (J : Nat → World → Prop) (Jx : World → Prop) (W : World), L css = some xs → bs.length = css.length →
 (∀ (k b : Nat) (cs : List IV), bs[k]? = some b → css[k]? = some cs → ∀ (m : Nat) (a : IV), cs[m]? = some a → ∃ v, W.cell? ⟨b, m, none⟩ = some v ∧ RelI I a v) →
 (∀ j W, J j W → ∀ b o, I b = some o → W.heap[b]? = some o) →
 (∀ j W k, J j W → J j { W with drawn := k }) → (∀ W k, Jx W → Jx { W with drawn := k }) →
 (∀ j W W', J j W → RowKit.Below W.heap.size W W' → J j W') → (∀ W W', Jx W → RowKit.Below W.heap.size W W' → Jx W') →
 (∀ m j y x W, xs[j]? = some y → RelA I (fun _ => none) [] y x → J j W → YieldAt Fence.wide m P l #[x] W fun e W' => (e = .returned (.bool true) ∧ J (j + 1) W') ∨ (e = .returned (.bool false) ∧ Jx W')) →
 J 0 W → CallsIn Fence.wide nn P g (#[.func (.yield l) #[] #[]] ++ (bs.map ptrV).toArray) W fun e W' => (∃ v, e = .returned v) ∧ (J xs.length W' ∨ Jx W')
def SeqOK (E : Env) : Prop := ∀ g L, E.seq g = some L → enterOk E g = true ∧ Seq1 E.P g L
theorem noSeq (h : ∀ f, E.seq f = none) : SeqOK E := fun f g hg => by rw [h] at hg; cases hg
theorem ivsOf_get : ∀ (cells : List AV) (l : List IV), ivsOf cells = some l → ∀ (m : Nat) (x : IV), l[m]? = some x → cells[m]? = some (.i x)
 | [], l, h, m, x, hx => by
  simp only [ivsOf, Option.some.injEq] at h
  subst h; simp at hx
 | a :: r, l, h, m, x, hx => by
  unfold ivsOf at h
  split at h
  ·rename_i h0; cases h0
  ·rename_i x0 r0 h0
   cases h0
   simp only [Option.map_eq_some_iff] at h
   obtain ⟨l', h1, rfl⟩ := h
   cases m with
   | zero => simpa using hx
   | succ m => simpa using ivsOf_get r l' h1 m x (by simpa using hx)
  ·cases h
theorem caps_ok (hC : Conc E I η H w) : ∀ (caps : List AV) (css : List (List IV)) (vs : List Value), capsI H caps = some css → vs.length = caps.length → (∀ (k : Nat) (a : AV), caps[k]? = some a → RelA I η H a (vs.getD k undef)) →
  ∃ bs : List Nat, vs = bs.map ptrV ∧ bs.length = css.length ∧ (∀ b ∈ bs, b < w.heap.size) ∧ ∀ (k b : Nat) (cs : List IV), bs[k]? = some b → css[k]? = some cs → ∀ (m : Nat) (a : IV), cs[m]? = some a → ∃ v, w.cell? ⟨b, m, none⟩ = some v ∧ RelI I a v
 | [], css, vs, h, hl, _ => by
  simp only [capsI, Option.some.injEq] at h
  subst h
  exact ⟨[], List.length_eq_zero_iff.1 hl, rfl, (fun b h => by cases h), fun k b cs h => by simp at h⟩
 | a :: r, css, vs, h, hl, hr => by
  unfold capsI at h
  split at h
  ·rename_i h0; cases h0
  ·rename_i c g r0 h0
   cases h0
   split at h
   ·rename_i cells hc
    split at h
    ·rename_i ns css' hi hcr
     cases h
     cases vs with
     | nil => simp at hl
     | cons v vs =>
      obtain ⟨bs, e1, e2, e4, e3⟩ := caps_ok hC r css' vs hcr (by simpa using hl) fun k a ha => by simpa using hr (k + 1) a ha
      have h0 := hr 0 _ rfl
      obtain ⟨b, cs, elem, fz, k1, k2, k3, k4, k5⟩ := hC.ch _ _ hc
      have hv : v = ptrV b := by
       cases h0 with
       | ptr _ _ _ _ _ _ hb =>
        obtain ⟨b', n', q1, q2⟩ := hb _ hc
        rw [k1] at q1; cases q1
        exact q2
      refine ⟨b :: bs, by rw [hv, e1]; rfl, by simp [e2], fun b' hb' => ?_, fun k b' cs' hb hcs m a ha => ?_⟩
      ·rcases List.mem_cons.1 hb' with rfl | hb'
       ·exact heap_lt k2
       ·exact e4 _ hb'
      cases k with
      | zero =>
       simp only [List.getElem?_cons_zero, Option.some.injEq] at hb hcs
       subst hb hcs
       have hcell := ivsOf_get cells _ hi m a ha
       have hlt : m < cs.size := by rw [k4]; exact (List.getElem?_eq_some_iff.1 hcell).1
       refine ⟨cs[m], by simp [World.cell?, k2, hlt], ?_⟩
       have := relA_i (k5 m _ hcell)
       rwa [Array.getD_eq_getD_getElem?, Array.getElem?_eq_getElem hlt, Option.getD_some] at this
      | succ k => exact e3 k b' cs' (by simpa using hb) (by simpa using hcs) m a ha
    ·cases h
   ·cases h
  ·cases h

def codeX : Ex → Option Code
 | .normal => none
 | .ret => some .ret
 | .exit id => some (.exit id)
theorem map_mark_inj : ∀ {l m : List Nat}, l.map markD = m.map markD → l = m
 | [], [], _ => rfl
 | [], _ :: _, h => by simp at h
 | _ :: _, [], h => by simp at h
 | a :: l, b :: m, h => by
  simp only [List.map_cons, List.cons.injEq] at h
  have h1 : a = b := by simpa [markD] using h.1
  rw [h1, map_mark_inj h.2]

theorem round_ok {n : Nat} (hex : ExecOK E n) {m f l : Nat} {asg body : Code} {fr : Fr} {H2 : Hp} {e0 : Ex} {tmps : Array Value} {r0 : Loop} {R : Ending → World → Prop}
  (h : rdE (fun B' c fr H => exec E n B' f c fr H) asg body fr H = some (e0, H2)) (hra : rdOk asg = true) (hrb : rdOk body = true) (hca : codeOk E f tmps.size asg = true) (hcb : codeOk E f tmps.size body = true) (hm : E.P.follows .mixedOrders = true)
  (hC : Conc E I η H w) (hf : FrOK I η H fr tmps) (hl : w.heap[l]? = some (.loop r0)) (hr : r0.state = .ready) (hnl : NM I η l)
  (hR : ∀ I3 η3 w3, Conc E I3 η3 H2 w3 → (∃ I2 η2 w2, Trans I η w I2 η2 w2 ∧ Trans I2 η2 (w2.putObj l (.loop { r0 with state := .busy })) I3 η3 w3) → MonoB H.length I η H I3 η3 H2 → w3.heap[l]? = some (.loop { r0 with state := .busy }) → NM I3 η3 l →
   ∃ v w', (Instr.endRound l (codeX e0)).run E.P w3 = .ok v w' ∧ R (.returned v) w') :
  asg.wpIn (Fe (some l)) m E.P (Exit.then (fun a₁ w₁ => ∃ w₂, (Instr.beginRound l).run E.P w₁ = .ok () w₂ ∧ body.wpIn (Fe (some l)) m E.P (roundPost E.P l R) a₁ w₂) (fun _ _ _ => False)) { tmps := tmps, defers := [] } w := by
 unfold rdE at h
 split at h
 ·rename_i fr1 H1 hasg
  split at h
  ·rename_i e fr2 H2' hbody
   simp only [Option.some.injEq, Prod.mk.injEq] at h
   obtain ⟨rfl, rfl⟩ := h
   refine hex (some l) m 0 H.length f asg fr H .normal fr1 H1 hasg I η w _ _ hca (.inr hra) hm hC hf (marks_nil _ _ _ _) (Nat.zero_le _) fun a1 w2 hs1 hA1 => ?_
   obtain ⟨I2, η2, k1, k2, k3, k4, k5⟩ := hA1
   have hl2 := nm_frame hnl hl k2
   have hn2 := nm_trans hnl (heap_lt hl) k2
   refine ⟨_, run_beginRound hl2 hr, ?_⟩
   refine hex (some l) m 0 H.length f body fr1 H1 e fr2 H2' hbody I2 η2 _ a1 _ (by rw [hs1]; exact hcb) (.inr hrb) hm (conc_put k1 hn2) k4 (marks_put k5 hl2 _) (Nat.zero_le _) fun a3 w3 hs3 hA3 => ?_
   obtain ⟨I3, η3, j1, j2, j3, j4, j5⟩ := hA3
   have hb2 : (w2.putObj l (.loop { r0 with state := .busy })).heap[l]? = some (.loop { r0 with state := .busy }) := World.putObj_heap_same (heap_lt hl2)
   have := hR I3 η3 w3 j1 ⟨I2, η2, w2, k2, j2⟩ (k3.trans j3) (nm_frame hn2 hb2 j2) (nm_trans hn2 (heap_lt hb2) j2)
   cases e <;> exact this
  ·cases h
 ·cases h

theorem rangeF_ok {n : Nat} (hex : ExecOK E n) (hseq : SeqOK E) {nn b0 B f p : Nat} {g : Operand} {asg body : Code} {fr fr' : Fr} {H' : Hp} {ex : Ex} {xs : List AV} {a : Act} {Q : Exit → Act → World → Prop}
  (hs : seqE E H (opd E fr g) = some xs) (h : rgE (rdE (fun B' c fr H => exec E n B' f c fr H) asg body) p fr xs H = some (ex, fr', H'))
  (hp : p < a.tmps.size) (hra : rdOk asg = true) (hrb : rdOk body = true) (hca : codeOk E f a.tmps.size asg = true) (hcb : codeOk E f a.tmps.size body = true) (hm : E.P.follows .mixedOrders = true) (hC : Conc E I η H w) (hf : FrOK I η H fr a.tmps)
  (hM : MarksOK b0 I η w a.defers) (hb0 : b0 ≤ w.heap.size)
  (hQ : ∀ a' w', a'.tmps.size = a.tmps.size → AfterB E B I η H w H' w' (fun I' η' => FrOK I' η' H' fr' a'.tmps ∧ MarksOK b0 I' η' w' a'.defers) → Q (exOf ex) a' w') : (Code.rangeFunc g #[p] asg body).wpIn (Fe none) nn E.P Q a w := by
 -- the iterator
 unfold seqE at hs
 split at hs
 ·rename_i gf caps0 hop
  split at hs
  ·rename_i L css0 hL hcap
   have hLx := hs
   obtain ⟨hen, hS⟩ := hseq gf L hL
   have rg := opd_ok hC hf g
   rw [hop] at rg
   generalize hy : a.eval g = y at rg
   cases rg with
   | clo _ _ _ fs cs hfs hcs _ hcr =>
   have hfs0 : fs = #[] := Array.size_eq_zero_iff.1 (by simpa using hfs)
   subst hfs0
   have hvr : ∀ (k : Nat) (a : AV), caps0[k]? = some a → RelA I η H a (cs.toList.getD k undef) := fun k a ha => by
    have := hcr k a ha
    rw [List.getD_eq_getElem?_getD, Array.getElem?_toList, ← Array.getD_eq_getD_getElem?]; exact this
   obtain ⟨bs, e1, e2, hbl, e3⟩ := caps_ok hC caps0 css0 cs.toList hcap (by simpa using hcs) hvr
   have hen' : ∃ fn, E.P.funcs[gf]? = some fn ∧ fn.body.isSome = true ∧ (fn.name == "runtime.NumGoroutine") = false := by
    unfold enterOk at hen
    split at hen
    ·rename_i fn hfn
     simp only [Bool.and_eq_true, Bool.not_eq_true'] at hen
     exact ⟨fn, hfn, hen.1, hen.2⟩
    ·cases hen
   obtain ⟨gfn, hgfn, hgb, hgn⟩ := hen'
   have hb' : ¬ gfn.body = none := by cases hbb : gfn.body <;> simp_all
   have hn' : ¬ gfn.name = "runtime.NumGoroutine" := by simpa using hgn
   refine wpIn_rangeFunc ?_
   intro fn hfn
   obtain ⟨rec, hrec⟩ : ∃ rec : LoopState → Option Code → Loop, rec = fun st pe => { state := st, pending := pe, fn, tmps := a.tmps, params := #[p], assign := asg, body, defers := w.heap.size } := ⟨_, rfl⟩
   obtain ⟨W1, hW1⟩ : ∃ W1, (w.alloc (.deferred (some []))).alloc (.loop (rec .ready none)) = W1 := ⟨_, rfl⟩
   have hL1 : W1.heap[w.heap.size + 1]? = some (.loop (rec .ready none)) := by
    rw [← hW1]; have := World.alloc_heap_new (w.alloc (.deferred (some []))) (.loop (rec .ready none)); rwa [World.size_alloc] at this
   have hK1 : W1.heap[w.heap.size]? = some (.deferred (some [])) := by
    rw [← hW1]; exact (RowKit.Below.heap_alloc _ _ _ (by simp)).trans (World.alloc_heap_new w _)
   have hC1 : Conc E I η H W1 := by rw [← hW1]; exact conc_alloc0 (conc_alloc0 hC)
   have hT1 : Trans I η w I η W1 := by rw [← hW1]; exact trans_alloc0 (trans_alloc0 (Trans.refl _ _ _))
   have hM1 : MarksOK b0 I η W1 (markD w.heap.size :: a.defers) := by
    obtain ⟨Ds, m1, m2, m3⟩ := (by rw [← hW1]; exact marks_alloc (marks_alloc hM) : MarksOK b0 I η W1 a.defers)
    refine ⟨w.heap.size :: Ds, by rw [m1]; rfl, List.nodup_cons.2 ⟨fun hmem => ?_, m2⟩, fun D hD => ?_⟩
    ·obtain ⟨Ds', q1, _, q3⟩ := hM
     rw [map_mark_inj (m1.symm.trans q1)] at hmem
     have := heap_lt (q3 _ hmem).2.1
     omega
    ·rcases List.mem_cons.1 hD with rfl | hD
     ·exact ⟨hb0, hK1, nm_new hC (Nat.le_refl _)⟩
     ·exact m3 D hD
   refine ⟨w.heap.size + 1, [markD w.heap.size], W1, { target := .fn (.func gf) cs, args := #[.func (.yield (w.heap.size + 1)) #[] #[]] }, W1, gf,
    #[.func (.yield (w.heap.size + 1)) #[] #[]] ++ cs, W1, ?_, ?_, fun _ _ => trivial, ?_, fun h => (by cases h), ?_⟩
   ·rw [← hW1, hrec]; exact run_enterLoop_outer _ _ _ _ _
   ·simp only [resolve, hy]
    have hev : a.eval (.const (.func (.yield (w.heap.size + 1)) #[] #[])) = .func (.yield (w.heap.size + 1)) #[] #[] := rfl
    simp [Deferred.ofValue, hev]
   ·simp [invoke, callFunc, hgfn, hn', hb']
   ·-- the rounds
    have hnl : NM I η (w.heap.size + 1) := nm_new hC (by omega)
    have hargs : (#[.func (.yield (w.heap.size + 1)) #[] #[]] ++ cs : Array Value) = #[.func (.yield (w.heap.size + 1)) #[] #[]] ++ (bs.map ptrV).toArray := by rw [← e1]
    rw [hargs]
    refine (hS (w.heap.size + 1) (nn - 1) css0 xs bs I
     (fun j W => ∃ I' η' Hj, Conc E I' η' Hj W ∧ Trans I η w I' η' W ∧ Mono I η H I' η' Hj ∧ rgE (rdE (fun B' c fr H => exec E n B' f c fr H) asg body) p fr (xs.drop j) Hj = some (ex, fr', H') ∧
      MarksOK b0 I' η' W (markD w.heap.size :: a.defers) ∧ W.heap[w.heap.size + 1]? = some (.loop (rec .ready none)) ∧ NM I' η' (w.heap.size + 1))
     (fun W => ∃ I' η' c, codeX ex = some c ∧ fr' = fr ∧ Conc E I' η' H' W ∧ Trans I η w I' η' W ∧ Mono I η H I' η' H' ∧ MarksOK b0 I' η' W (markD w.heap.size :: a.defers) ∧
      W.heap[w.heap.size + 1]? = some (.loop (rec .done (some c))) ∧ NM I' η' (w.heap.size + 1))
     W1 hLx e2 ?_ ?_ ?_ ?_ ?_ ?_ ?_ ⟨I, η, H, hC1, hT1, Mono.refl _ _ _, by rw [List.drop_zero]; exact h, hM1, hL1, hnl⟩).mono ?_
    ·-- what the iterator reads
     intro k b cs' hb hcs' m x hx
     obtain ⟨v, q1, q2⟩ := e3 k b cs' hb hcs' m x hx
     refine ⟨v, ?_, q2⟩
     have hk : W1.heap[b]? = w.heap[b]? := by
      have hb1 := hbl b (List.mem_of_getElem? hb)
      rw [← hW1]
      exact (RowKit.Below.heap_alloc _ _ _ (by rw [World.size_alloc]; omega)).trans (RowKit.Below.heap_alloc _ _ _ hb1)
     simpa [World.cell?, hk] using q1
    ·rintro j W ⟨I', η', Hj, c1, c2, _⟩ b o hb
     exact c1.imm b o (c2.imm b o hb)
    ·rintro j W k ⟨I', η', Hj, c1, c2, c3, c5, c6, c7, c8⟩
     exact ⟨I', η', Hj, conc_drawn c1 k, ⟨c2.os, c2.tape, c2.output, c2.size, c2.frame, c2.imm, c2.immNew, c2.own⟩, c3, c5, c6, c7, c8⟩
    ·rintro W k ⟨I', η', c, c0, c00, c1, c2, c3, c6, c7, c8⟩
     exact ⟨I', η', c, c0, c00, conc_drawn c1 k, ⟨c2.os, c2.tape, c2.output, c2.size, c2.frame, c2.imm, c2.immNew, c2.own⟩, c3, c6, c7, c8⟩
    ·rintro j W W' ⟨I', η', Hj, c1, c2, c3, c5, c6, c7, c8⟩ hb
     exact ⟨I', η', Hj, conc_grow c1 hb, trans_grow c2 hb, c3, c5, marks_grow c6 hb, (hb.block _ (heap_lt c7)).trans c7, c8⟩
    ·rintro W W' ⟨I', η', c, c0, c00, c1, c2, c3, c6, c7, c8⟩ hb
     exact ⟨I', η', c, c0, c00, conc_grow c1 hb, trans_grow c2 hb, c3, marks_grow c6 hb, (hb.block _ (heap_lt c7)).trans c7, c8⟩
    ·-- one round
     rintro m j y0 x W hx hyx ⟨I', η', Hj, c1, c2, c3, c5, c6, c7, c8⟩
     have hjl := (List.getElem?_eq_some_iff.1 hx).1
     rw [List.drop_eq_getElem_cons hjl, (List.getElem?_eq_some_iff.1 hx).2] at c5
     have hyd := run_yield (P := E.P) (args := #[x]) c7 (by rw [hrec]; rfl)
     have hr1 : (rec .ready none).fn = fn ∧ (rec .ready none).tmps = a.tmps ∧ (rec .ready none).params = #[p] ∧ (rec .ready none).assign = asg ∧ (rec .ready none).body = body := by rw [hrec]; exact ⟨rfl, rfl, rfl, rfl, rfl⟩
     obtain ⟨r1, r2, r3, r4, r5⟩ := hr1
     rw [r1, r2, r3, r4, r5] at hyd
     have hzip : ((#[p] : Array Tmp).zip #[x]).foldl (fun tmps (t, a) => tmps.setIfInBounds t a) a.tmps = a.tmps.setIfInBounds p x := by simp
     rw [hzip] at hyd
     refine ⟨fn, _, asg, body, hyd, roundIn_of_wpIn hfn ?_⟩
     -- what the round does
     simp only [rgE] at c5
     have hfr : FrOK I' η' Hj ((p, y0) :: fr) (a.tmps.setIfInBounds p x) := by
      have h1 : FrOK I' η' Hj fr ({ tmps := a.tmps, defers := [] } : Act).tmps := hf.mono c3
      exact h1.put (v := y0) (x := x) (mono_of c2.imm (Nat.zero_le _) (fun c hc => absurd hc (Nat.not_lt_zero _)) _ _ hyx) (some p) (fun k hk => by cases hk; exact hp)
     cases hrd : rdE (fun B' c fr H => exec E n B' f c fr H) asg body ((p, y0) :: fr) Hj with
     | none => rw [hrd] at c5; cases c5
     | some q =>
      obtain ⟨e0, H2⟩ := q
      rw [hrd] at c5
      refine round_ok hex hrd hra hrb (by simpa using hca) (by simpa using hcb) hm c1 hfr c7 (by rw [hrec]) c8 fun I3 η3 w3 g1 g2 g3 g4 g5 => ?_
      obtain ⟨I2, η2, w2, t1, t2⟩ := g2
      have hT : Trans I η w I3 η3 w3 := (trans_put (l := w.heap.size + 1) (c2.trans t1) (by omega)).trans t2
      have hl2 := nm_frame c8 c7 t1
      have hM3 : MarksOK b0 I3 η3 w3 (markD w.heap.size :: a.defers) := marks_trans (marks_put (marks_trans c6 t1) hl2 _) t2
      have hMo : Mono I η H I3 η3 H2 := fun a v r => g3 a v (rel_refs (c3 a v r)) (c3 a v r)
      have hend := run_endRound (P := E.P) (codeX e0) g4
      rw [hrec] at hend
      refine ⟨_, _, hend, ?_⟩
      have hsame : ∀ o, (w3.putObj (w.heap.size + 1) o).heap[w.heap.size + 1]? = some o := fun o => World.putObj_heap_same (heap_lt g4)
      cases e0 with
      | normal =>
       simp only at c5
       refine .inl ⟨rfl, I3, η3, H2, conc_put g1 g5, trans_put hT (by omega), hMo, c5, marks_put hM3 g4 _, ?_, g5⟩
       rw [hsame, hrec]; rfl
      | ret =>
       simp only [Option.some.injEq, Prod.mk.injEq] at c5
       obtain ⟨rfl, rfl, rfl⟩ := c5
       refine .inr ⟨rfl, I3, η3, .ret, rfl, rfl, conc_put g1 g5, trans_put hT (by omega), hMo, marks_put hM3 g4 _, ?_, g5⟩
       rw [hsame, hrec]; rfl
      | exit id =>
       simp only [Option.some.injEq, Prod.mk.injEq] at c5
       obtain ⟨rfl, rfl, rfl⟩ := c5
       refine .inr ⟨rfl, I3, η3, .exit id, rfl, rfl, conc_put g1 g5, trans_put hT (by omega), hMo, marks_put hM3 g4 _, ?_, g5⟩
       rw [hsame, hrec]; rfl
    ·-- behind the iterator
     rintro e W2 ⟨⟨v, rfl⟩, (⟨I', η', Hj, c1, c2, c3, c5, c6, c7, c8⟩ | ⟨I', η', c, c0, c00, c1, c2, c3, c6, c7, c8⟩)⟩
     ·rw [List.drop_length] at c5
      simp only [rgE, Option.some.injEq, Prod.mk.injEq] at c5
      obtain ⟨rfl, rfl, rfl⟩ := c5
      refine ⟨none, _, by have := run_endLoop (P := E.P) c7 (by rw [hrec]; simp); rw [hrec] at this; exact this, ?_⟩
      refine hQ _ _ rfl ⟨I', η', conc_put c1 c8, trans_put c2 (by omega), fun a v _ r => c3 a v r, hf.mono c3, marks_put c6 c7 _⟩
     ·subst c00
      refine ⟨some c, _, by have := run_endLoop (P := E.P) c7 (by rw [hrec]; simp); rw [hrec] at this; exact this, ?_⟩
      have hq := hQ { a with defers := [markD w.heap.size] ++ a.defers } (W2.putObj (w.heap.size + 1) (.loop { rec .done (some c) with state := .exhausted })) rfl ⟨I', η', conc_put c1 c8, trans_put c2 (by omega), fun a v _ r => c3 a v r, hf.mono c3, marks_put c6 c7 _⟩
      rw [hrec] at hq
      cases ex with
      | normal => cases c0
      | ret => cases c0; exact wpIn_ret hq
      | exit id => cases c0; exact wpIn_exit hq
  ·cases hs
 ·cases hs

theorem loadVar_ok (hC : Conc E I η H w) {p : AV} {y : Value} (h : RelA I η H p y) {t : TypeId} {v : AV} (hl : loadE E H t p = some v) :
  ∃ b x, y = .pointer (some b) ∧ (loadVar t b).run E.P w = .ok x w ∧ RelA I η H v x := by
 obtain ⟨x, h1, h2⟩ := load_ok hC h hl
 have hp : ∃ b, y = .pointer (some b) := by
  unfold loadE at hl
  split at hl
  ·rename_i cells k n hb _ _
   obtain ⟨b, base, rfl, _⟩ := behind_ok hC h hb; exact ⟨_, rfl⟩
  ·rename_i cells k n hb _ _
   obtain ⟨b, base, rfl, _⟩ := behind_ok hC h hb; exact ⟨_, rfl⟩
  ·cases hl
 obtain ⟨b, rfl⟩ := hp
 exact ⟨b, x, rfl, by simpa [Instr.loadAt, Instr.sureAddr] using h1, h2⟩

def resS (tmps : Array Value) : ResultVar → Sem Value
 | .tmp t => pure (tmps.getD t undef)
 | .cell a t => do loadVar t (← asAddr (tmps.getD a undef))
theorem res_ok (hC : Conc E I η H w) {fr : Fr} {tmps : Array Value} (hf : FrOK I η H fr tmps) : ∀ (l : List ResultVar) (as0 : List AV), resEs E fr H l = some as0 →
  ∃ xs : List Value, (l.mapM (resS tmps)).run E.P w = .ok xs w ∧ xs.length = as0.length ∧ ∀ (k : Nat) (a : AV), as0[k]? = some a → RelA I η H a (xs.toArray.getD k undef)
 | [], as0, h => by
  simp only [resEs, Option.some.injEq] at h; subst h
  exact ⟨[], by simp, rfl, fun k a h => by simp at h⟩
 | r :: l, as0, h => by
  simp only [resEs] at h
  split at h
  ·rename_i a0 as0 h1 h2
   simp only [Option.some.injEq] at h; subst h
   obtain ⟨xs, e1, e2, e3⟩ := res_ok hC hf l as0 h2
   have h0 : ∃ x, (resS tmps r).run E.P w = .ok x w ∧ RelA I η H a0 x := by
    cases r with
    | tmp t =>
     simp only [resE1, Option.some.injEq] at h1; subst h1
     exact ⟨_, rfl, hf t⟩
    | cell a t =>
     simp only [resE1] at h1
     obtain ⟨b, x, k1, k2, k3⟩ := loadVar_ok hC (hf a) h1
     refine ⟨x, ?_, k3⟩
     simp only [resS, k1, asAddr, Sem.run_bind, Sem.run_pure, Result.andThen_ok, k2]
   obtain ⟨x, hx, rx⟩ := h0
   refine ⟨x :: xs, ?_, by simp [e2], fun k a h => ?_⟩
   ·rw [List.mapM_cons, Sem.run_bind, hx]
    simp only [Result.andThen_ok, Sem.run_bind, e1, Sem.run_pure]
   ·cases k with
    | zero => simp at h; subst h; simpa using rx
    | succ k => simpa using e3 k a (by simpa using h)
  ·cases h

theorem results_ok (hC : Conc E I η H w) {fr : Fr} {tmps : Array Value} (hf : FrOK I η H fr tmps) {fn : Func} {r : AV} (h : resE E fr H fn.results.toList = some r) :
  ∃ v, (results fn tmps).run E.P w = .ok v w ∧ RelA I η H r v := by
 unfold resE at h
 have key : ∀ as0, resEs E fr H fn.results.toList = some as0 → ∃ xs : List Value, (results fn tmps).run E.P w = .ok (if h : xs.toArray.size = 1 then xs.toArray[0] else .tuple xs.toArray) w ∧ xs.length = as0.length ∧ ∀ (k : Nat) (a : AV), as0[k]? = some a → RelA I η H a (xs.toArray.getD k undef) := by
  intro as0 has
  obtain ⟨xs, e1, e2, e3⟩ := res_ok hC hf _ as0 has
  refine ⟨xs, ?_, e2, e3⟩
  unfold results
  rw [Sem.run_bind, Array.mapM_eq_mapM_toList, map_eq_pure_bind, Sem.run_bind]
  change ((Sem.run E.P (List.mapM (resS tmps) fn.results.toList) w).andThen _).andThen _ = _
  rw [e1]
  rfl
 split at h
 ·rename_i a has
  obtain rfl := Option.some.inj h
  obtain ⟨xs, e1, e2, e3⟩ := key _ has
  refine ⟨_, e1, ?_⟩
  have hx : xs.toArray.size = 1 := by simpa using e2
  rw [dif_pos hx]
  have := e3 0 _ rfl
  simpa [Array.getD_eq_getD_getElem?, hx] using this
 ·rename_i as0 hne has
  cases h
  obtain ⟨xs, e1, e2, e3⟩ := key _ has
  refine ⟨_, e1, ?_⟩
  have hx : ¬ xs.toArray.size = 1 := fun h1 => by
   simp only [List.size_toArray] at h1
   rw [e2] at h1
   obtain ⟨a, rfl⟩ := List.length_eq_one_iff.1 h1
   exact hne a rfl
  rw [dif_neg hx]
  exact .tup _ _ (by simpa using e2) e3
 ·cases h

theorem frameOf_get : ∀ (l : List AV) (j k : Nat), get (j + k) (frameOf j l) = (l[k]?).getD .dead
 | [], j, k => by simp [frameOf, get]
 | a :: l, j, 0 => by simp [frameOf, get]
 | a :: l, j, k + 1 => by
  have := frameOf_get l (j + 1) k
  rw [show j + (k + 1) = j + 1 + k by omega]
  simp only [frameOf, get, show ¬ j + 1 + k = j by omega, if_false]
  rw [this]; simp

theorem callLoc_ok {n : Nat} (hex : ExecOK E n) : CallOK E (callLoc E (exec E n)) := by
 intro f args H r H' h I η w vs hC hA
 unfold callLoc at h
 split at h
 ·rename_i fn hfn
  split at h
  ·rename_i c hc
   split at h
   ·rename_i hok
    obtain ⟨hfo, hlen⟩ := hok
    unfold fnOk at hfo
    rw [hfn] at hfo
    simp only [hc, Bool.and_eq_true] at hfo
    split at h
    ·cases h
    ·rename_i ex fr H1 hne hx
     split at h
     ·rename_i r' hr
      refine (callsIn_wide (n := 0)).1 (callsIn_of_wp_marks hfn hc trivial ?_ rfl)
      have hsz : (vs ++ Array.replicate (fn.ntmps - vs.size) undef).size = fn.ntmps := by
       have := hA.1; simp; omega
      refine hex none 0 w.heap.size H.length f c _ H ex fr H1 hx I η w _ _ (by rw [hsz]; exact hfo.1) (.inl rfl) hfo.2 hC (fun k => ?_) (marks_nil _ _ _ _) (Nat.le_refl _) fun a' w' hs hAf => ?_
      ·have := frameOf_get args 0 k
       simp only [Nat.zero_add] at this
       rw [this]
       cases hk : args[k]? with
       | none => exact .dead _
       | some b =>
        have h1 := hA.2 k b hk
        have hkl := (List.getElem?_eq_some_iff.1 hk).1
        have : (vs ++ Array.replicate (fn.ntmps - vs.size) undef).getD k undef = vs.getD k undef := by
         rw [Array.getD_eq_getD_getElem?, Array.getElem?_append_left (by rw [hA.1]; exact hkl), ← Array.getD_eq_getD_getElem?]
        rw [this]; exact h1
      ·obtain ⟨I2, η2, k1, k2, k3, k4, Ds, m1, m2, m3⟩ := hAf
       have hfin : LeavesInM Fence.wide 0 E.P fn a'.tmps (fun e w' => ∃ x, e = .returned x ∧ After E I η H w H' w' fun I' η' => RelA I' η' H' r x) a'.defers .returning w' := by
        rw [m1]
        refine leaves_marks (w0 := w) (I0 := I) (η0 := η) Ds w' k1 k2 m2 m3 fun w'' C2 T2 => ?_
        obtain ⟨v, hv, rv⟩ := results_ok C2 k4 hr
        obtain ⟨I3, η3, j1, j2, j3, j4⟩ := retE_ok C2 (B := H.length) h rv
        exact ⟨v, hv, v, rfl, I3, η3, j1, T2.trans j2, fun a v r => j3 a v (rel_refs r) (k3 a v (rel_refs r) r), j4⟩
       cases ex with
       | normal => exact hfin
       | ret => exact hfin
       | exit id => exact (hne id rfl).elim
     ·cases h
    ·cases h
   ·cases h
  ·cases h
 ·cases h

theorem exec_ok (hext : ExtOK E) (hseq : SeqOK E) (hmk : MkOK E) : ∀ n, ExecOK E n ∧ LoopOK E n := by
 intro n
 induction n with
 | zero => exact ⟨fun ro nn b0 B f c fr H ex fr' H' h => by simp [exec] at h, fun ro nn b0 B f c fr H ex fr' H' h => by simp [exec] at h⟩
 | succ n ih =>
  obtain ⟨ihE, ihL⟩ := ih
  have hcl : CallOK E (callM E (callLoc E (exec E n))) := callM_ok hmk (iso_ok (callLoc_ok ihE) hext)
  have loop : LoopOK E (n + 1) := by
   intro ro nn b0 B f c fr H ex fr' H' h I η w a Q hco hro hm hC hf hM hb0 hQ
   rw [roundsIn_succ]
   simp only [exec] at h
   obtain ⟨I1, η1, C1, T1, M1, F1⟩ := hd_ok B (f := f) (id := (firstRegion c).getD 0) hC hf
   split at h
   ·rename_i fr1 H1 h1
    refine ihE ro nn b0 B f c _ _ _ fr1 H1 h1 I1 η1 w a _ hco hro hm C1 F1 (marks_trans hM T1) hb0 fun a' w' hs hA => ?_
    obtain ⟨I2, η2, k1, k2, k3, k4, k5⟩ := hA
    refine ihL ro nn b0 B f c fr1 H1 ex fr' H' h I2 η2 w' a' Q (by rw [hs]; exact hco) hro hm k1 k4 k5 (Nat.le_trans hb0 k2.size) fun a'' w'' hs' hA' => ?_
    obtain ⟨I3, η3, j1, j2, j3, j4⟩ := hA'
    exact hQ a'' w'' (hs'.trans hs) ⟨I3, η3, j1, T1.trans (k2.trans j2), M1.trans (k3.trans j3), j4⟩
   ·rename_i hne
    refine ihE ro nn b0 B f c _ _ ex fr' H' h I1 η1 w a _ hco hro hm C1 F1 (marks_trans hM T1) hb0 fun a' w' hs hA => ?_
    obtain ⟨I2, η2, k1, k2, k3, k4⟩ := hA
    have := hQ a' w' hs ⟨I2, η2, k1, T1.trans k2, M1.trans k3, k4⟩
    cases ex with
    | normal => exact absurd h (hne _ _)
    | exit id => exact this
    | ret => exact this
  refine ⟨?_, loop⟩
  intro ro nn b0 B f c fr H ex fr' H' h I η w a Q hco hro hm hC hf hM hb0 hQ
  cases c with
  | skip =>
   simp only [exec, Option.some.injEq, Prod.mk.injEq] at h
   obtain ⟨rfl, rfl, rfl⟩ := h
   exact wpIn_skip (hQ a w rfl ((After.refl hC hf).bm hM rfl))
  | label l =>
   simp only [exec, Option.some.injEq, Prod.mk.injEq] at h
   obtain ⟨rfl, rfl, rfl⟩ := h
   exact wpIn_label (hQ a w rfl ((After.refl hC hf).bm hM rfl))
  | ret =>
   simp only [exec, Option.some.injEq, Prod.mk.injEq] at h
   obtain ⟨rfl, rfl, rfl⟩ := h
   exact wpIn_ret (hQ a w rfl ((After.refl hC hf).bm hM rfl))
  | exit id =>
   simp only [exec, Option.some.injEq, Prod.mk.injEq] at h
   obtain ⟨rfl, rfl, rfl⟩ := h
   exact wpIn_exit (hQ a w rfl ((After.refl hC hf).bm hM rfl))
  | region id ops draw =>
   simp only [codeOk, Bool.and_eq_true, Bool.or_eq_true, Bool.not_eq_true'] at hco
   have hdst : DstOK a.tmps.size ops.toList := by
    intro o ho d hd
    have := (List.all_eq_true.1 hco.1) o ho
    rw [hd] at this; simpa using this
   cases draw with
   | false =>
    simp only [exec] at h
    split at h
    ·rename_i fr1 H1 h1
     simp only [Option.some.injEq, Prod.mk.injEq] at h
     obtain ⟨rfl, rfl, rfl⟩ := h
     refine wpIn_region_list (evOps_ok hcl ops.toList h1 hC hf hdst fun a' w' hdef hs hA => hQ a' w' hs ((hA.imp fun I' η' _ _ h => h.normed _).bm hM hdef))
    ·cases h
   | true =>
    simp only [exec] at h
    cases hhol : E.hol f id with
    | true =>
     rw [hhol] at h hco
     simp only at h hco
     split at h
     ·rename_i fr1 H1 tr h1
      split at h
      ·rename_i hk
       simp only [Option.some.injEq, Prod.mk.injEq] at h
       obtain ⟨rfl, rfl, rfl⟩ := h
       have hd := hco.2.resolve_left (by simp)
       simp only [Bool.and_eq_true] at hd
       refine draw_okD hcl h1 hk hd.1 hd.2 hm hC hf hdst fun a' w' fr3 he hdef hs hA => hQ a' w' hs ((hA.imp fun I' η' _ _ h => (frOK_eq he h).normed _).bm hM hdef)
      ·cases h
     ·cases h
    | false =>
    rw [hhol] at h hco
    simp only at h hco
    split at h
    ·rename_i fr1 H1 tr h1
     split at h
     ·rename_i hk
      simp only [Option.some.injEq, Prod.mk.injEq] at h
      obtain ⟨rfl, rfl, rfl⟩ := h
      have hd := hco.2.resolve_left (by simp)
      simp only [Bool.and_eq_true] at hd
      refine draw_ok hcl h1 hk hd.1 hd.2 hm hC hf hdst fun a' w' fr3 he hdef hs hA => hQ a' w' hs ((hA.imp fun I' η' _ _ h => (frOK_eq he h).normed _).bm hM hdef)
     ·cases h
    ·cases h
  | seq x y =>
   simp only [codeOk, Bool.and_eq_true] at hco
   simp only [exec] at h
   refine wpIn_seq ?_
   have hro1 : ro = none ∨ rdOk x = true := hro.imp id fun h => by simp only [rdOk, Bool.and_eq_true] at h; exact h.1
   have hro2 : ro = none ∨ rdOk y = true := hro.imp id fun h => by simp only [rdOk, Bool.and_eq_true] at h; exact h.2
   split at h
   ·rename_i fr1 H1 h1
    refine ihE ro nn b0 B f x _ H _ fr1 H1 h1 I η w a _ hco.1 hro1 hm hC hf hM hb0 fun a' w' hs hA => ?_
    obtain ⟨I2, η2, k1, k2, k3, k4, k5⟩ := hA
    refine ihE ro nn b0 B f y fr1 H1 ex fr' H' h I2 η2 w' a' Q (by rw [hs]; exact hco.2) hro2 hm k1 k4 k5 (Nat.le_trans hb0 k2.size) fun a'' w'' hs' hA' => ?_
    obtain ⟨I3, η3, j1, j2, j3, j4⟩ := hA'
    exact hQ a'' w'' (hs'.trans hs) ⟨I3, η3, j1, k2.trans j2, k3.trans j3, j4⟩
   ·rename_i hne
    refine ihE ro nn b0 B f x _ H ex fr' H' h I η w a _ hco.1 hro1 hm hC hf hM hb0 fun a' w' hs hA => ?_
    have := hQ a' w' hs hA
    cases ex with
    | normal => exact absurd h (hne _ _)
    | exit id => exact this
    | ret => exact this
  | cond c x y =>
   simp only [codeOk, Bool.and_eq_true] at hco
   simp only [exec] at h
   split at h
   ·rename_i hb
    exact wpIn_cond_true (opd_bool hC hf hb) (ihE ro nn b0 B f x fr H ex fr' H' h I η w a Q hco.1 (hro.imp id fun h => by simp only [rdOk, Bool.and_eq_true] at h; exact h.1) hm hC hf hM hb0 hQ)
   ·rename_i hb
    exact wpIn_cond_false (opd_bool hC hf hb) (ihE ro nn b0 B f y fr H ex fr' H' h I η w a Q hco.2 (hro.imp id fun h => by simp only [rdOk, Bool.and_eq_true] at h; exact h.2) hm hC hf hM hb0 hQ)
   ·cases h
  | block id c =>
   simp only [codeOk] at hco
   simp only [exec] at h
   refine wpIn_block ?_
   have hro1 : ro = none ∨ rdOk c = true := hro
   split at h
   ·rename_i j fr1 H1 h1
    refine ihE ro nn b0 B f c fr H _ fr1 H1 h1 I η w a _ hco hro1 hm hC hf hM hb0 fun a' w' hs hA => ?_
    show Exit.inBlock id Q (.exit j) a' w'
    unfold Exit.inBlock
    split at h
    ·rename_i hj
     simp only [Option.some.injEq, Prod.mk.injEq] at h
     obtain ⟨rfl, rfl, rfl⟩ := h
     simp only [hj, if_true]
     exact hQ a' w' hs hA
    ·rename_i hj
     simp only [Option.some.injEq, Prod.mk.injEq] at h
     obtain ⟨rfl, rfl, rfl⟩ := h
     simp only [hj, if_false]
     exact hQ a' w' hs hA
   ·rename_i hne
    refine ihE ro nn b0 B f c fr H ex fr' H' h I η w a _ hco hro1 hm hC hf hM hb0 fun a' w' hs hA => ?_
    have := hQ a' w' hs hA
    cases ex with
    | normal => exact this
    | exit id => exact absurd h (hne _ _ _)
    | ret => exact this
  | loop c =>
   simp only [codeOk] at hco
   exact wpIn_loop_rounds _ (loop ro nn b0 B f c fr H ex fr' H' h I η w a Q hco hro hm hC hf hM hb0 hQ)
  | scope c =>
   simp only [codeOk] at hco
   simp only [exec] at h
   rcases hro with rfl | hro
   ·refine wpIn_wide.2 (wp_scope_straight (wpIn_wide.1 (ihE none nn b0 B f c fr H ex fr' H' h I η w a _ hco (.inl rfl) hm hC hf hM hb0 fun a' w' hs hA => ?_)))
    have := hQ a' w' hs hA
    cases ex <;> exact this
   ·cases hro
  | rangeFunc g ps x y =>
   simp only [codeOk, Bool.and_eq_true, List.all_eq_true, decide_eq_true_eq] at hco
   obtain ⟨⟨hps, hra, hrb⟩, hca, hcb⟩ := hco
   rcases hro with rfl | hro
   ·simp only [exec] at h
    split at h
    ·rename_i p xs hpp hs
     have hps' : ps = #[p] := by rw [← Array.toList_inj]; exact hpp
     subst hps'
     exact rangeF_ok ihE hseq hs h (hps p (by simp)) hra hrb hca hcb hm hC hf hM hb0 hQ
    ·cases h
   ·cases hro
  | _ => simp [exec] at h

theorem call_ok (hext : ExtOK E) (hseq : SeqOK E) (hmk : MkOK E) (n : Nat) : CallOK E (call E n) := callLoc_ok (exec_ok hext hseq hmk n).1
end
end Go.VI

set_option linter.unusedSimpArgs false
set_option linter.unusedVariables false
namespace Go.VI
section
variable {E : Env} {cl cl' : CallF}

def CLe (cl cl' : CallF) : Prop := ∀ f a H r, cl f a H = some r → cl' f a H = some r
def XLe (ex ex' : Exec) : Prop := ∀ B f c fr H r, ex B f c fr H = some r → ex' B f c fr H = some r

theorem exCl_le (h : CLe cl cl') : CLe (exCl E cl) (exCl E cl') := by
 intro f a H r hr
 unfold exCl at hr ⊢
 split
 ·rename_i g hg; rw [hg] at hr; exact hr
 ·rename_i hg; rw [hg] at hr; exact h _ _ _ _ hr
theorem iso_le (h : CLe cl cl') : CLe (callIso E cl) (callIso E cl') := by
 intro f a H r hr
 unfold callIso at hr ⊢
 cases hp : (prepE E f H a) with
 | none => rw [hp] at hr; cases hr
 | some x =>
  obtain ⟨as0, H1⟩ := x
  rw [hp] at hr
  simp only at hr ⊢
  split at hr
  ·cases hr
  ·rename_i r0 L hc
   rw [exCl_le h _ _ _ _ hc]
   exact hr
theorem callM_le (h : CLe cl cl') : CLe (callM E cl) (callM E cl') := by
 intro f a H r hr
 unfold callM at hr ⊢
 split
 ·rename_i g hg; rw [hg] at hr; exact hr
 ·rename_i hg
  rw [hg] at hr
  simp only at hr
  split
  ·rename_i h2
   rw [h2] at hr
   obtain ⟨r0, H'⟩ := r
   obtain ⟨rfl, h3⟩ := rdrK_some hr
   rw [iso_le h _ _ _ _ h3]; exact rdrK_self _
  ·rename_i h2; rw [h2] at hr; exact iso_le h _ _ _ _ hr
theorem evOp_le (h : CLe cl cl') {o : Op} {fr : Fr} {H : Hp} {r : AV × Hp} (hr : evOp E cl o fr H = some r) : evOp E cl' o fr H = some r := by
 unfold evOp at hr ⊢
 split at hr
 ·split at hr
  ·split at hr
   ·rename_i g as0 hg he
    rw [if_pos he]
    exact callM_le h _ _ _ _ hr
   ·cases hr
  ·cases hr
 ·exact hr
theorem evOps_le (h : CLe cl cl') {ops : List Oper} : ∀ {l : List Oper} {fr : Fr} {H : Hp} {r : Fr × Hp}, evOps E cl ops l fr H = some r → evOps E cl' ops l fr H = some r
 | [], fr, H, r, hr => hr
 | o :: l, fr, H, r, hr => by
  simp only [evOps] at hr ⊢
  split at hr
  ·split at hr
   ·rename_i v H' hv
    rw [evOp_le h hv]
    exact evOps_le h hr
   ·cases hr
  ·exact evOps_le h hr
  ·cases hr
theorem stp_le (h : CLe cl cl') {ops : List Oper} {o : Oper} {fr : Fr} {H : Hp} {r : Fr × Hp × List Nat} (hr : stp E cl ops o fr H = some r) : stp E cl' ops o fr H = some r := by
 unfold stp at hr ⊢
 split at hr
 ·split at hr
  ·rename_i v H' hv
   rw [evOp_le h hv]
   exact hr
  ·cases hr
 ·exact hr
 ·cases hr
theorem evT_le (h : CLe cl cl') {ops : List Oper} : ∀ {l : List Oper} {fr : Fr} {H : Hp} {r : Fr × Hp × List (List Nat)}, evT E cl ops l fr H = some r → evT E cl' ops l fr H = some r
 | [], fr, H, r, hr => hr
 | o :: l, fr, H, r, hr => by
  simp only [evT] at hr ⊢
  split at hr
  ·rename_i fr1 H1 t hs
   rw [stp_le h hs]
   simp only
   split at hr
   ·rename_i fr2 H2 ts ht
    rw [evT_le h ht]
    exact hr
   ·cases hr
  ·cases hr
theorem evOpD_le (h : CLe cl cl') {c : Nat} {o : Op} {fr : Fr} {H : Hp} {r : AV × Hp} (hr : evOpD E cl c o fr H = some r) : evOpD E cl' c o fr H = some r := by
 unfold evOpD at hr ⊢
 cases hf : isFresh o with
 | true => rw [hf] at hr; exact hr
 | false => rw [hf] at hr; exact evOp_le h hr
theorem evD_le (h : CLe cl cl') {ops : List Oper} : ∀ {l : List Oper} {c : Nat} {fr : Fr} {H : Hp} {r : Fr × Hp × List (List Nat)}, evD E cl ops c l fr H = some r → evD E cl' ops c l fr H = some r
 | [], c, fr, H, r, hr => hr
 | o :: l, c, fr, H, r, hr => by
  simp only [evD] at hr ⊢
  split at hr
  ·split at hr
   ·rename_i v H' hv
    rw [evOpD_le h hv]
    simp only
    split at hr
    ·rename_i fr2 H2 ts ht
     rw [evD_le h ht]
     exact hr
    ·cases hr
   ·cases hr
  ·split at hr
   ·rename_i fr2 H2 ts ht
    rw [evD_le h ht]
    exact hr
   ·cases hr
  ·cases hr
theorem loc_le {ex ex' : Exec} (h : XLe ex ex') : CLe (callLoc E ex) (callLoc E ex') := by
 intro f a H r hr
 unfold callLoc at hr ⊢
 split at hr
 ·rename_i fn hfn
  split at hr
  ·rename_i c hc
   split at hr
   ·rename_i hok
    simp only [hok, if_true]
    rw [if_pos ⟨trivial, trivial⟩]
    cases hx : ex H.length f c (frameOf 0 a) H with
    | none => rw [hx] at hr; cases hr
    | some x => rw [h _ _ _ _ _ _ hx, ← hx]; exact hr
   ·cases hr
  ·cases hr
 ·cases hr
theorem rd_le {ex ex' : Nat → Code → Fr → Hp → Option (Ex × Fr × Hp)} (h : ∀ B c fr H r, ex B c fr H = some r → ex' B c fr H = some r) {a b : Code} {fr : Fr} {H : Hp} {q : Ex × Hp} (hr : rdE ex a b fr H = some q) : rdE ex' a b fr H = some q := by
 unfold rdE at hr ⊢
 split at hr
 ·rename_i fr1 H1 h1
  rw [h _ _ _ _ _ h1]
  simp only
  split at hr
  ·rename_i e fr2 H2 h2
   rw [h _ _ _ _ _ h2]; exact hr
  ·cases hr
 ·cases hr
theorem rg_le {rd rd' : Fr → Hp → Option (Ex × Hp)} (h : ∀ fr H q, rd fr H = some q → rd' fr H = some q) {p : Nat} {fr : Fr} : ∀ (xs : List AV) {H : Hp} {r : Ex × Fr × Hp}, rgE rd p fr xs H = some r → rgE rd' p fr xs H = some r
 | [], H, r, hr => hr
 | x :: xs, H, r, hr => by
  simp only [rgE] at hr ⊢
  cases hx : rd ((p, x) :: fr) H with
  | none => rw [hx] at hr; cases hr
  | some q =>
   rw [hx] at hr
   rw [h _ _ _ hx]
   obtain ⟨e, H1⟩ := q
   cases e with
   | normal =>
    simp only at hr ⊢
    exact rg_le h xs hr
   | exit id => exact hr
   | ret => exact hr
theorem exec_rangeF (n : Nat) (B f : Nat) (g : Operand) (ps : Array Tmp) (a b : Code) (fr : Fr) (H : Hp) : exec E (n + 1) B f (.rangeFunc g ps a b) fr H = match ps.toList, seqE E H (opd E fr g) with
   | [p], some xs => rgE (rdE (fun B' c fr H => exec E n B' f c fr H) a b) p fr xs H
   | _, _ => none := rfl
theorem exec_le : ∀ n, XLe (exec E n) (exec E (n + 1)) := by
 intro n
 induction n with
 | zero => intro B f c fr H r h; simp [exec] at h
 | succ n ih =>
  intro B f c fr H r h
  have hcl : CLe (callLoc E (exec E n)) (callLoc E (exec E (n + 1))) := loc_le ih
  cases c with
  | region id ops draw =>
   cases draw with
   | false =>
    rw [exec] at h ⊢
    split at h
    ·rename_i fr' H' hv
     rw [evOps_le hcl hv]; exact h
    ·cases h
   | true =>
    rw [exec] at h ⊢
    cases hhol : E.hol f id with
    | true =>
     rw [hhol] at h
     simp only at h ⊢
     split at h
     ·rename_i fr' H' tr hv
      rw [evD_le hcl hv]; exact h
     ·cases h
    | false =>
     rw [hhol] at h
     simp only at h ⊢
     split at h
     ·rename_i fr' H' tr hv
      rw [evT_le hcl hv]; exact h
     ·cases h
  | seq a b =>
   rw [exec] at h ⊢
   cases hx : exec E n B f a fr H with
   | none => rw [hx] at h; cases h
   | some x =>
    rw [hx] at h
    rw [ih _ _ _ _ _ _ hx]
    obtain ⟨ex, fr', H'⟩ := x
    cases ex with
    | normal => exact ih _ _ _ _ _ _ h
    | exit id => exact h
    | ret => exact h
  | cond c a b =>
   rw [exec] at h ⊢
   split at h
   ·exact ih _ _ _ _ _ _ h
   ·exact ih _ _ _ _ _ _ h
   ·cases h
  | block id c =>
   rw [exec] at h ⊢
   cases hx : exec E n B f c fr H with
   | none => rw [hx] at h; cases h
   | some x =>
    rw [hx] at h
    rw [ih _ _ _ _ _ _ hx]
    exact h
  | loop c =>
   rw [exec] at h ⊢
   cases hx : exec E n B f c (hdE E B f ((firstRegion c).getD 0) fr H).1 (hdE E B f ((firstRegion c).getD 0) fr H).2 with
   | none => rw [hx] at h; cases h
   | some x =>
    rw [hx] at h
    rw [ih _ _ _ _ _ _ hx]
    obtain ⟨ex, fr', H'⟩ := x
    cases ex with
    | normal => exact ih _ _ _ _ _ _ h
    | exit id => exact h
    | ret => exact h
  | scope c => rw [exec] at h ⊢; exact ih _ _ _ _ _ _ h
  | rangeFunc g ps a b =>
   rw [exec_rangeF] at h ⊢
   split at h
   ·rename_i p xs hp hs
    exact rg_le (fun fr H q hq => rd_le (fun B c fr H r hr => ih _ _ _ _ _ _ hr) hq) xs h
   ·cases h
  | _ => exact h
theorem exec_mono {n m : Nat} (h : n ≤ m) : XLe (exec E n) (exec E m) := by
 induction h with
 | refl => exact fun _ _ _ _ _ _ h => h
 | step _ ih => exact fun B f c fr H r h => exec_le _ _ _ _ _ _ _ (ih B f c fr H r h)

open Classical in
noncomputable def execT (E : Env) : Exec := fun B f c fr H => if h : ∃ n r, exec E n B f c fr H = some r then some (Classical.choose (Classical.choose_spec h)) else none
theorem execT_iff {B : Nat} {f : FuncId} {c : Code} {fr : Fr} {H : Hp} {r : Ex × Fr × Hp} : execT E B f c fr H = some r ↔ ∃ n, exec E n B f c fr H = some r := by
 unfold execT
 split
 ·rename_i h
  have hs := Classical.choose_spec (Classical.choose_spec h)
  constructor
  ·intro e
   exact ⟨_, by rw [hs]; exact e⟩
  ·rintro ⟨n, hn⟩
   have h1 := exec_mono (Nat.le_max_left (Classical.choose h) n) _ _ _ _ _ _ hs
   have h2 := exec_mono (Nat.le_max_right (Classical.choose h) n) _ _ _ _ _ _ hn
   rw [h1] at h2
   exact h2
 ·rename_i h
  constructor
  ·intro e; cases e
  ·rintro ⟨n, hn⟩; exact absurd ⟨n, r, hn⟩ h
noncomputable def callT (E : Env) : CallF := callLoc E (execT E)

theorem cle_T (n : Nat) : CLe (callLoc E (exec E n)) (callT E) := loc_le fun B f c fr H r h => execT_iff.2 ⟨n, h⟩
theorem cle_nm {n m : Nat} (h : n ≤ m) : CLe (callLoc E (exec E n)) (callLoc E (exec E m)) := loc_le (exec_mono h)
theorem callT_lim {f : FuncId} {a : List AV} {H : Hp} {r : AV × Hp} (hr : callT E f a H = some r) : ∃ n, callLoc E (exec E n) f a H = some r := by
 unfold callT callLoc at hr
 unfold callLoc
 split at hr
 ·rename_i fn hfn
  split at hr
  ·rename_i c hc
   split at hr
   ·rename_i hok
    cases hx : execT E H.length f c (frameOf 0 a) H with
    | none => rw [hx] at hr; cases hr
    | some x =>
     obtain ⟨n, hn⟩ := execT_iff.1 hx
     refine ⟨n, ?_⟩
     rw [if_pos hok, hn, ← hx]; exact hr
   ·cases hr
  ·cases hr
 ·cases hr
theorem exCl_lim {f : FuncId} {a : List AV} {H : Hp} {r : AV × Hp} (hr : exCl E (callT E) f a H = some r) : ∃ n, exCl E (callLoc E (exec E n)) f a H = some r := by
 unfold exCl at hr ⊢
 cases hg : E.ext f with
 | some g => rw [hg] at hr; exact ⟨0, hr⟩
 | none => rw [hg] at hr; exact callT_lim hr
theorem iso_lim {f : FuncId} {a : List AV} {H : Hp} {r : AV × Hp} (hr : callIso E (callT E) f a H = some r) : ∃ n, callIso E (callLoc E (exec E n)) f a H = some r := by
 unfold callIso at hr
 cases hp : (prepE E f H a) with
 | none => rw [hp] at hr; cases hr
 | some x =>
  obtain ⟨as0, H1⟩ := x
  rw [hp] at hr
  simp only at hr
  split at hr
  ·cases hr
  ·rename_i r0 L hc
   obtain ⟨n, hn⟩ := exCl_lim hc
   refine ⟨n, ?_⟩
   unfold callIso
   rw [hp]
   simp only
   rw [hn]; exact hr
theorem callM_lim {f : FuncId} {a : List AV} {H : Hp} {r : AV × Hp} (hr : callM E (callT E) f a H = some r) : ∃ n, callM E (callLoc E (exec E n)) f a H = some r := by
 unfold callM at hr ⊢
 cases hg : E.mkc f with
 | some g => rw [hg] at hr; exact ⟨0, hr⟩
 | none =>
  rw [hg] at hr
  simp only at hr ⊢
  cases h2 : E.rdr f with
  | true =>
   rw [h2] at hr
   obtain ⟨r0, H'⟩ := r
   obtain ⟨rfl, h3⟩ := rdrK_some hr
   obtain ⟨n, hn⟩ := iso_lim h3
   exact ⟨n, by rw [hn]; exact rdrK_self _⟩
  | false => rw [h2] at hr; exact iso_lim hr
theorem evOp_lim {o : Op} {fr : Fr} {H : Hp} {r : AV × Hp} (hr : evOp E (callT E) o fr H = some r) : ∃ n, evOp E (callLoc E (exec E n)) o fr H = some r := by
 unfold evOp at hr
 split at hr
 ·rename_i f args tys
  split at hr
  ·rename_i g as0 hg
   split at hr
   ·rename_i he
    obtain ⟨n, hn⟩ := callM_lim hr
    refine ⟨n, ?_⟩
    simp only [evOp, hg, he, if_true, hn]
   ·cases hr
  ·cases hr
 ·rename_i hno
  refine ⟨0, ?_⟩
  unfold evOp
  split
  ·exact absurd rfl (hno _ _ _)
  ·exact hr
theorem evOps_lim {ops : List Oper} : ∀ {l : List Oper} {fr : Fr} {H : Hp} {r : Fr × Hp}, evOps E (callT E) ops l fr H = some r → ∃ n, evOps E (callLoc E (exec E n)) ops l fr H = some r
 | [], fr, H, r, hr => ⟨0, hr⟩
 | o :: l, fr, H, r, hr => by
  simp only [evOps] at hr ⊢
  cases hg : guardE ops fr o with
  | none => rw [hg] at hr; cases hr
  | some b =>
   rw [hg] at hr
   cases b with
   | false => exact evOps_lim hr
   | true =>
    simp only at hr ⊢
    split at hr
    ·rename_i v H' hv
     obtain ⟨n, hn⟩ := evOp_lim hv
     obtain ⟨m, hm⟩ := evOps_lim hr
     refine ⟨max n m, ?_⟩
     rw [evOp_le (cle_nm (Nat.le_max_left n m)) hn]
     exact evOps_le (cle_nm (Nat.le_max_right n m)) hm
    ·cases hr
theorem stp_lim {ops : List Oper} {o : Oper} {fr : Fr} {H : Hp} {r : Fr × Hp × List Nat} (hr : stp E (callT E) ops o fr H = some r) : ∃ n, stp E (callLoc E (exec E n)) ops o fr H = some r := by
 unfold stp at hr
 cases hg : guardE ops fr o with
 | none => rw [hg] at hr; cases hr
 | some b =>
  rw [hg] at hr
  cases b with
  | false => exact ⟨0, by unfold stp; rw [hg]; exact hr⟩
  | true =>
   simp only at hr
   split at hr
   ·rename_i v H' hv
    obtain ⟨n, hn⟩ := evOp_lim hv
    refine ⟨n, ?_⟩
    unfold stp
    rw [hg, hn]; exact hr
   ·cases hr
theorem evT_lim {ops : List Oper} : ∀ {l : List Oper} {fr : Fr} {H : Hp} {r : Fr × Hp × List (List Nat)}, evT E (callT E) ops l fr H = some r → ∃ n, evT E (callLoc E (exec E n)) ops l fr H = some r
 | [], fr, H, r, hr => ⟨0, hr⟩
 | o :: l, fr, H, r, hr => by
  simp only [evT] at hr ⊢
  split at hr
  ·rename_i fr1 H1 t hs
   split at hr
   ·rename_i fr2 H2 ts ht
    obtain ⟨n, hn⟩ := stp_lim hs
    obtain ⟨m, hm⟩ := evT_lim ht
    refine ⟨max n m, ?_⟩
    rw [stp_le (cle_nm (Nat.le_max_left n m)) hn]
    simp only
    rw [evT_le (cle_nm (Nat.le_max_right n m)) hm]
    exact hr
   ·cases hr
  ·cases hr

theorem evD_lim {ops : List Oper} : ∀ {l : List Oper} {c : Nat} {fr : Fr} {H : Hp} {r : Fr × Hp × List (List Nat)}, evD E (callT E) ops c l fr H = some r → ∃ n, evD E (callLoc E (exec E n)) ops c l fr H = some r
 | [], c, fr, H, r, hr => ⟨0, hr⟩
 | o :: l, c, fr, H, r, hr => by
  simp only [evD] at hr ⊢
  cases hg : guardE ops fr o with
  | none => rw [hg] at hr; cases hr
  | some b =>
   rw [hg] at hr
   cases b with
   | false =>
    simp only at hr ⊢
    split at hr
    ·rename_i fr2 H2 ts ht
     obtain ⟨m, hm⟩ := evD_lim ht
     refine ⟨m, ?_⟩
     rw [hm]; exact hr
    ·cases hr
   | true =>
    simp only at hr ⊢
    split at hr
    ·rename_i v H' hv
     split at hr
     ·rename_i fr2 H2 ts ht
      have hn : ∃ n, evOpD E (callLoc E (exec E n)) c o.op fr H = some (v, H') := by
       unfold evOpD at hv ⊢
       cases hf : isFresh o.op with
       | true => rw [hf] at hv; exact ⟨0, hv⟩
       | false => rw [hf] at hv; exact evOp_lim hv
      obtain ⟨n, hn⟩ := hn
      obtain ⟨m, hm⟩ := evD_lim ht
      refine ⟨max n m, ?_⟩
      rw [evOpD_le (cle_nm (Nat.le_max_left n m)) hn]
      simp only
      rw [evD_le (cle_nm (Nat.le_max_right n m)) hm]
      exact hr
     ·cases hr
    ·cases hr
  
variable {B : Nat} {f : FuncId} {fr : Fr} {H : Hp} {id : Nat}
theorem execT_skip : execT E B f .skip fr H = some (.normal, fr, H) := execT_iff.2 ⟨1, rfl⟩
theorem execT_label (l : Nat) : execT E B f (.label l) fr H = some (.normal, fr, H) := execT_iff.2 ⟨1, rfl⟩
theorem execT_ret : execT E B f .ret fr H = some (.ret, fr, H) := execT_iff.2 ⟨1, rfl⟩
theorem execT_exit (id : Nat) : execT E B f (.exit id) fr H = some (.exit id, fr, H) := execT_iff.2 ⟨1, rfl⟩
def regK (E : Env) (f : FuncId) (id : Nat) (r : Option (Fr × Hp)) : Option (Ex × Fr × Hp) := match r with
 | some (fr', H') => some (.normal, norm (E.keep f id) fr', H')
 | none => none
def regTK (E : Env) (f : FuncId) (id : Nat) (r : Option (Fr × Hp × List (List Nat))) : Option (Ex × Fr × Hp) := match r with
 | some (fr', H', tr) => if (E.flo f id).all (floatOk tr) = true then some (.normal, norm (E.keep f id) fr', H') else none
 | none => none
theorem execT_region (id : Nat) (ops : Array Oper) : execT E B f (.region id ops false) fr H = regK E f id (evOps E (callT E) ops.toList ops.toList fr H) := by
 refine Option.ext fun r => ?_
 rw [execT_iff]
 constructor
 ·rintro ⟨n, h⟩
  cases n with
  | zero => simp [exec] at h
  | succ n =>
   simp only [exec] at h
   split at h
   ·rename_i fr' H' hv
    rw [evOps_le (cle_T n) hv]; exact h
   ·cases h
 ·intro h
  cases hv : evOps E (callT E) ops.toList ops.toList fr H with
  | none => rw [hv] at h; cases h
  | some x =>
   obtain ⟨n, hn⟩ := evOps_lim hv
   refine ⟨n + 1, ?_⟩
   rw [hv] at h
   simp only [exec]
   rw [hn]; exact h
theorem execT_draw (hh : E.hol f id = false) (ops : Array Oper) : execT E B f (.region id ops true) fr H = regTK E f id (evT E (callT E) ops.toList ops.toList fr H) := by
 refine Option.ext fun r => ?_
 rw [execT_iff]
 constructor
 ·rintro ⟨n, h⟩
  cases n with
  | zero => simp [exec] at h
  | succ n =>
   simp only [exec, hh] at h
   split at h
   ·rename_i fr' H' tr hv
    rw [evT_le (cle_T n) hv]; exact h
   ·cases h
 ·intro h
  cases hv : evT E (callT E) ops.toList ops.toList fr H with
  | none => rw [hv] at h; cases h
  | some x =>
   obtain ⟨n, hn⟩ := evT_lim hv
   refine ⟨n + 1, ?_⟩
   rw [hv] at h
   simp only [exec, hh]
   rw [hn]; exact h
theorem execT_drawD (hh : E.hol f id = true) (ops : Array Oper) : execT E B f (.region id ops true) fr H = regTK E f id (evD E (callT E) ops.toList H.length ops.toList fr (H ++ List.replicate (nFresh ops.toList) hole)) := by
 refine Option.ext fun r => ?_
 rw [execT_iff]
 constructor
 ·rintro ⟨n, h⟩
  cases n with
  | zero => simp [exec] at h
  | succ n =>
   simp only [exec, hh] at h
   split at h
   ·rename_i fr' H' tr hv
    rw [evD_le (cle_T n) hv]; exact h
   ·cases h
 ·intro h
  cases hv : evD E (callT E) ops.toList H.length ops.toList fr (H ++ List.replicate (nFresh ops.toList) hole) with
  | none => rw [hv] at h; cases h
  | some x =>
   obtain ⟨n, hn⟩ := evD_lim hv
   refine ⟨n + 1, ?_⟩
   rw [hv] at h
   simp only [exec, hh]
   rw [hn]; exact h
theorem evT_evOps {cl : CallF} {ops : List Oper} : ∀ (l : List Oper) (fr : Fr) (H : Hp), (evT E cl ops l fr H).map (fun x => (x.1, x.2.1)) = evOps E cl ops l fr H
 | [], fr, H => rfl
 | o :: l, fr, H => by
  simp only [evT, stp, evOps]
  cases guardE ops fr o with
  | none => rfl
  | some b =>
   cases b with
   | false =>
    simp only
    rw [← evT_evOps l]
    cases evT E cl ops l (putD o.dst (.tup []) fr) H <;> rfl
   | true =>
    simp only
    cases evOp E cl o.op fr H with
    | none => rfl
    | some x =>
     simp only
     rw [← evT_evOps l]
     cases evT E cl ops l (putD o.dst x.1 fr) x.2 <;> rfl
theorem execT_draw0 (hh : E.hol f id = false) (hfl : E.flo f id = []) (ops : Array Oper) : execT E B f (.region id ops true) fr H = regK E f id (evOps E (callT E) ops.toList ops.toList fr H) := by
 rw [execT_draw hh, ← evT_evOps]
 cases evT E (callT E) ops.toList ops.toList fr H with
 | none => rfl
 | some x =>
  obtain ⟨fr', H', tr⟩ := x
  simp only [regTK, hfl, List.all_nil, if_true, Option.map_some, regK]
def seqK (k : Fr → Hp → Option (Ex × Fr × Hp)) (r : Option (Ex × Fr × Hp)) : Option (Ex × Fr × Hp) := match r with
 | some (.normal, fr', H') => k fr' H'
 | r => r
theorem execT_seq (a b : Code) : execT E B f (.seq a b) fr H = seqK (execT E B f b) (execT E B f a fr H) := by
 refine Option.ext fun r => ?_
 rw [execT_iff]
 constructor
 ·rintro ⟨n, h⟩
  cases n with
  | zero => simp [exec] at h
  | succ n =>
   rw [exec] at h
   cases hx : exec E n B f a fr H with
   | none => rw [hx] at h; cases h
   | some x =>
    rw [hx] at h
    rw [execT_iff.2 ⟨n, hx⟩]
    obtain ⟨ex, fr', H'⟩ := x
    cases ex with
    | normal => exact execT_iff.2 ⟨n, h⟩
    | exit id => exact h
    | ret => exact h
 ·intro h
  cases hx : execT E B f a fr H with
  | none => rw [hx] at h; cases h
  | some x =>
   rw [hx] at h
   obtain ⟨n, hn⟩ := execT_iff.1 hx
   obtain ⟨ex, fr', H'⟩ := x
   cases ex with
   | normal =>
    obtain ⟨m, hm⟩ := execT_iff.1 h
    refine ⟨max n m + 1, ?_⟩
    rw [exec, exec_mono (Nat.le_max_left n m) _ _ _ _ _ _ hn]
    exact exec_mono (Nat.le_max_right n m) _ _ _ _ _ _ hm
   | exit id => exact ⟨n + 1, by rw [exec, hn]; exact h⟩
   | ret => exact ⟨n + 1, by rw [exec, hn]; exact h⟩
theorem execT_loop (c : Code) : execT E B f (.loop c) fr H = seqK (execT E B f (.loop c)) (execT E B f c (hdE E B f ((firstRegion c).getD 0) fr H).1 (hdE E B f ((firstRegion c).getD 0) fr H).2) := by
 refine Option.ext fun r => ?_
 rw [execT_iff]
 constructor
 ·rintro ⟨n, h⟩
  cases n with
  | zero => simp [exec] at h
  | succ n =>
   rw [exec] at h
   cases hx : exec E n B f c (hdE E B f ((firstRegion c).getD 0) fr H).1 (hdE E B f ((firstRegion c).getD 0) fr H).2 with
   | none => rw [hx] at h; cases h
   | some x =>
    rw [hx] at h
    rw [execT_iff.2 ⟨n, hx⟩]
    obtain ⟨ex, fr', H'⟩ := x
    cases ex with
    | normal => exact execT_iff.2 ⟨n, h⟩
    | exit id => exact h
    | ret => exact h
 ·intro h
  cases hx : execT E B f c (hdE E B f ((firstRegion c).getD 0) fr H).1 (hdE E B f ((firstRegion c).getD 0) fr H).2 with
  | none => rw [hx] at h; cases h
  | some x =>
   rw [hx] at h
   obtain ⟨n, hn⟩ := execT_iff.1 hx
   obtain ⟨ex, fr', H'⟩ := x
   cases ex with
   | normal =>
    obtain ⟨m, hm⟩ := execT_iff.1 h
    refine ⟨max n m + 1, ?_⟩
    rw [exec, exec_mono (Nat.le_max_left n m) _ _ _ _ _ _ hn]
    exact exec_mono (Nat.le_max_right n m) _ _ _ _ _ _ hm
   | exit id => exact ⟨n + 1, by rw [exec, hn]; exact h⟩
   | ret => exact ⟨n + 1, by rw [exec, hn]; exact h⟩
def condK (v : AV) (a b : Option (Ex × Fr × Hp)) : Option (Ex × Fr × Hp) := match v with
 | .i (.v (.bool true)) => a
 | .i (.v (.bool false)) => b
 | _ => none
theorem condK_dec (p : Prop) [Decidable p] (a b : Option (Ex × Fr × Hp)) : condK (.i (.v (.bool (decide p)))) a b = if p then a else b := by
 by_cases h : p <;> simp [h, condK]
theorem execT_cond (c : Operand) (a b : Code) : execT E B f (.cond c a b) fr H = condK (opd E fr c) (execT E B f a fr H) (execT E B f b fr H) := by
 refine Option.ext fun r => ?_
 rw [execT_iff]
 constructor
 ·rintro ⟨n, h⟩
  cases n with
  | zero => simp [exec] at h
  | succ n =>
   rw [exec] at h
   split at h
   ·rename_i hc
    rw [hc]; exact execT_iff.2 ⟨n, h⟩
   ·rename_i hc
    rw [hc]; exact execT_iff.2 ⟨n, h⟩
   ·cases h
 ·intro h
  unfold condK at h
  split at h
  ·rename_i hc
   obtain ⟨n, hn⟩ := execT_iff.1 h
   exact ⟨n + 1, by rw [exec, hc]; exact hn⟩
  ·rename_i hc
   obtain ⟨n, hn⟩ := execT_iff.1 h
   exact ⟨n + 1, by rw [exec, hc]; exact hn⟩
  ·cases h
def blockK (id : Nat) (r : Option (Ex × Fr × Hp)) : Option (Ex × Fr × Hp) := match r with
 | some (.exit j, fr', H') => if j = id then some (.normal, fr', H') else some (.exit j, fr', H')
 | r => r
theorem execT_block (id : Nat) (c : Code) : execT E B f (.block id c) fr H = blockK id (execT E B f c fr H) := by
 refine Option.ext fun r => ?_
 rw [execT_iff]
 constructor
 ·rintro ⟨n, h⟩
  cases n with
  | zero => simp [exec] at h
  | succ n =>
   rw [exec] at h
   cases hx : exec E n B f c fr H with
   | none => rw [hx] at h; cases h
   | some x =>
    rw [hx] at h
    rw [execT_iff.2 ⟨n, hx⟩]
    exact h
 ·intro h
  cases hx : execT E B f c fr H with
  | none => rw [hx] at h; cases h
  | some x =>
   rw [hx] at h
   obtain ⟨n, hn⟩ := execT_iff.1 hx
   exact ⟨n + 1, by rw [exec, hn]; exact h⟩
theorem execT_scope (c : Code) : execT E B f (.scope c) fr H = execT E B f c fr H := by
 refine Option.ext fun r => ?_
 rw [execT_iff, execT_iff]
 constructor
 ·rintro ⟨n, h⟩
  cases n with
  | zero => simp [exec] at h
  | succ n => exact ⟨n, by simpa only [exec] using h⟩
 ·rintro ⟨n, h⟩
  exact ⟨n + 1, by simpa only [exec] using h⟩

theorem rd_lim {f : FuncId} {a b : Code} {fr : Fr} {H : Hp} {q : Ex × Hp} (hr : rdE (fun B' c fr H => execT E B' f c fr H) a b fr H = some q) : ∃ n, rdE (fun B' c fr H => exec E n B' f c fr H) a b fr H = some q := by
 unfold rdE at hr
 split at hr
 ·rename_i fr1 H1 h1
  split at hr
  ·rename_i e fr2 H2 h2
   obtain ⟨n, hn⟩ := execT_iff.1 h1
   obtain ⟨m, hm⟩ := execT_iff.1 h2
   refine ⟨max n m, ?_⟩
   have k1 := exec_mono (Nat.le_max_left n m) _ _ _ _ _ _ hn
   have k2 := exec_mono (Nat.le_max_right n m) _ _ _ _ _ _ hm
   unfold rdE
   simp only [k1, k2]
   exact hr
  ·cases hr
 ·cases hr
theorem rg_lim {f : FuncId} {a b : Code} {p : Nat} {fr : Fr} : ∀ (xs : List AV) {H : Hp} {r : Ex × Fr × Hp}, rgE (rdE (fun B' c fr H => execT E B' f c fr H) a b) p fr xs H = some r →
  ∃ n, rgE (rdE (fun B' c fr H => exec E n B' f c fr H) a b) p fr xs H = some r
 | [], H, r, hr => ⟨0, hr⟩
 | x :: xs, H, r, hr => by
  simp only [rgE] at hr
  cases hx : rdE (fun B' c fr H => execT E B' f c fr H) a b ((p, x) :: fr) H with
  | none => rw [hx] at hr; cases hr
  | some q =>
   rw [hx] at hr
   obtain ⟨n, hn⟩ := rd_lim hx
   obtain ⟨e, H1⟩ := q
   cases e with
   | normal =>
    simp only at hr
    obtain ⟨m, hm⟩ := rg_lim xs hr
    refine ⟨max n m, ?_⟩
    have h1 := rd_le (fun B c fr H r hr => exec_mono (Nat.le_max_left n m) _ _ _ _ _ _ hr) hn
    have h2 := rg_le (fun fr H q hq => rd_le (fun B c fr H r hr => exec_mono (Nat.le_max_right n m) _ _ _ _ _ _ hr) hq) xs hm
    simp only [rgE]
    rw [h1]
    exact h2
   | exit id => exact ⟨n, by simp only [rgE]; rw [hn]; exact hr⟩
   | ret => exact ⟨n, by simp only [rgE]; rw [hn]; exact hr⟩
def rgO (rd : Fr → Hp → Option (Ex × Hp)) (p : Nat) (fr : Fr) (H : Hp) : Option (List AV) → Option (Ex × Fr × Hp)
 | some xs => rgE rd p fr xs H
 | none => none
theorem execT_rangeFunc (g : Operand) (p : Nat) (a b : Code) : execT E B f (.rangeFunc g #[p] a b) fr H = rgO (rdE (fun B' c fr H => execT E B' f c fr H) a b) p fr H (seqE E H (opd E fr g)) := by
 apply Option.ext
 intro r
 rw [execT_iff]
 constructor
 ·rintro ⟨n, hn⟩
  cases n with
  | zero => simp [exec] at hn
  | succ n =>
   rw [exec_rangeF] at hn
   cases hs : seqE E H (opd E fr g) with
   | none => rw [hs] at hn; cases hn
   | some xs =>
    rw [hs] at hn
    exact rg_le (fun fr H q hq => rd_le (fun B c fr H r hr => execT_iff.2 ⟨n, hr⟩) hq) xs hn
 ·intro h
  cases hs : seqE E H (opd E fr g) with
  | none => rw [hs] at h; cases h
  | some xs =>
   rw [hs] at h
   obtain ⟨n, hn⟩ := rg_lim xs h
   exact ⟨n + 1, by rw [exec_rangeF, hs]; exact hn⟩

def endK (E : Env) (f : FuncId) (B : Nat) (rs : List ResultVar) (r : Option (Ex × Fr × Hp)) : Option (AV × Hp) := match r with
 | some (.exit _, _, _) => none
 | some (_, fr, H') => match resE E fr H' rs with
  | some r => retE E f B H' r
  | none => none
 | none => none
theorem callT_eq {fn : Func} {c : Code} {args : List AV} (hf : E.P.funcs[f]? = some fn) (hc : fn.body = some c) (hok : fnOk E f = true) (hl : args.length ≤ fn.ntmps) :
  callT E f args H = endK E f H.length fn.results.toList (execT E H.length f c (frameOf 0 args) H) := by
 unfold callT callLoc endK
 rw [hf]
 simp only [hc]
 rw [if_pos ⟨hok, hl⟩]
 cases execT E H.length f c (frameOf 0 args) H with
 | none => rfl
 | some x =>
  obtain ⟨ex, fr, H'⟩ := x
  cases ex <;> rfl
theorem callT_ok (hext : ExtOK E) (hseq : SeqOK E) (hmk : MkOK E) : CallOK E (callT E) := by
 intro f args H r H' h
 obtain ⟨n, hn⟩ := callT_lim h
 exact call_ok hext hseq hmk n f args H r H' hn
theorem callT_of {n : Nat} {args : List AV} {r : AV × Hp} (h : call E n f args H = some r) : callT E f args H = some r := cle_T n _ _ _ _ h
end
end Go.VI

set_option linter.unusedSimpArgs false
set_option linter.unusedVariables false
namespace Go.VI
open Go.WideShapes Go.ChangeShapes
section
variable {E : Env}

def imm0 (w : World) : Imm := fun b => w.heap[b]?
def eta0 : Eta := fun _ => none
theorem conc_start (w : World) (hg : ∀ g cells, E.glob g = some cells → GlobOK (imm0 w) g cells) : Conc E (imm0 w) eta0 [] w :=
 ⟨fun b o h => h, fun c x h => by simp at h, fun c c' b n n' h => by simp [eta0] at h, fun c b n h => by simp [eta0] at h, hg⟩

structure Old (w w' : World) : Prop where
 os : w'.os = w.os
 output : w'.output = w.output
 heap : ∀ b, b < w.heap.size → w'.heap[b]? = w.heap[b]?
theorem Old.kept {w w' : World} (h : Old w w') (may : MemPlace → Prop) : w.keptBut w' may := by
 refine ⟨h.os, h.output, fun i hi => ?_⟩
 rw [h.heap i hi]
 cases hh : w.heap[i]? with
 | none => rfl
 | some o => cases o <;> simp
theorem old_of {w w' : World} {I' : Imm} {η' : Eta} (hT : Trans (imm0 w) eta0 w I' η' w') : Old w w' :=
 ⟨hT.os, hT.output, fun b hb => hT.frame b hb fun c n h => by simp [eta0] at h⟩

theorem law_calls {f : FuncId} {args : List AV} {vs : Array Value} {w : World} {H' : Hp} (h : callT E f args [] = some (.i (.v (.bool true)), H')) (hext : ExtOK E) (hg : ∀ g cells, E.glob g = some cells → GlobOK (imm0 w) g cells)
  (hA : ArgsOK (imm0 w) eta0 [] args vs) (hseq : SeqOK E := by exact Go.VI.noSeq fun _ => rfl) (hmk : MkOK E := by exact Go.VI.noMk fun _ => rfl) : Calls E.P f vs w fun e w' => e = .returned (.bool true) ∧ Old w w' :=
 (callT_ok hext hseq hmk f args [] _ H' h _ _ w vs (conc_start w hg) hA).mono fun e w' he => by
  obtain ⟨x, rfl, I2, η2, _, k2, _, k4⟩ := he
  exact ⟨congrArg _ (relA_v k4), old_of k2⟩

theorem args_nil {I η H} : ArgsOK I η H [] #[] := ⟨rfl, fun k a h => by simp at h⟩
def RelAs (I : Imm) (η : Eta) (H : Hp) : List AV → List Value → Prop
 | [], [] => True
 | a :: as0, v :: vs => RelA I η H a v ∧ RelAs I η H as0 vs
 | _, _ => False
theorem args_of {I η H} : ∀ {as0 : List AV} {vs : List Value}, RelAs I η H as0 vs → ArgsOK I η H as0 vs.toArray
 | [], [], _ => args_nil
 | a :: as0, v :: vs, h => by
  have ih := args_of h.2
  refine ⟨by simpa using ih.1, fun k b hk => ?_⟩
  cases k with
  | zero => simp at hk; subst hk; simpa using h.1
  | succ k => simpa using ih.2 k b (by simpa using hk)
 | [], _ :: _, h => h.elim
 | _ :: _, [], h => h.elim
theorem noGlob (h : ∀ g, E.glob g = none) {w : World} : ∀ g cells, E.glob g = some cells → GlobOK (imm0 w) g cells := fun g cells hg => by rw [h] at hg; cases hg

theorem post_of_old {H : Type} {enc : TypeId × Value → H} {P : Program} {f : Func} {s : ChangeSpec} {apart fresh handsOn : Bool} {W W' : World} {args : Array Value} {v : Value} {ds gs : List (DataW H)} {before pa pv : List MemPlace}
  (hW : DataW.Whole enc P f.params.toList s.vars apart W args.toList ds gs before)
  (hres : ∀ (b : Nat) (sp : Nat → Bool) (hd : Bool), DataW.TrodAll enc P W' b sp hd f.resultTypes.toList (v.resultList f.resultTypes.size) (s.fn H (ds ++ gs)).results [])
  (hargs : ∀ sp : Nat → Bool, (∀ p ∈ before, sp p.block = true) → DataW.TrodAll enc P W' 0 sp true f.params.toList args.toList (s.fn H (ds ++ gs)).args pa)
  (hvars : ∀ sp : Nat → Bool, (∀ p ∈ before, sp p.block = true) → DataW.TrodVars enc P W' sp s.vars (s.fn H (ds ++ gs)).vars pv)
  (hold : Old W W') (hps : before = pa ++ pv) : s.post enc P f apart fresh handsOn false W args v W' := by
 have hlt : ∀ p ∈ before, (fun b => decide (b < W.heap.size)) p.block = true := fun p hp => by simpa using hW.lt p hp
 exact ⟨ds, gs, before, [], pa, pv, hW, hres _ _ _, hargs _ hlt, hvars _ hlt, hold.kept _, fun h => by cases h⟩
end
end Go.VI

set_option linter.unusedSimpArgs false
set_option linter.unusedVariables false
namespace Go.VI
section
variable {E : Env} {cl : CallF} {ops : List Oper} {fr : Fr} {H : Hp} {f : FuncId}

noncomputable def opK (E : Env) (cl : CallF) (ops : List Oper) (dst : Option Nat) (r : List Oper) (fr : Fr) : Option (AV × Hp) → Option (Fr × Hp)
 | some (v, H') => evOps E cl ops r (putD dst v fr) H'
 | none => none
def gV (want : Bool) : AV → Option Bool
 | .i (.v (.bool b)) => some (b == want)
 | .tup [] => some false
 | _ => none
def gB (ops : List Oper) (fr : Fr) (j : Nat) (want : Bool) : Option Bool :=
 match (ops[j]?).bind (·.dst) with
 | some d => gV want (get d fr)
 | none => none
noncomputable def guK (E : Env) (cl : CallF) (ops : List Oper) (dst : Option Nat) (op : Op) (r : List Oper) (fr : Fr) (H : Hp) : Option Bool → Option (Fr × Hp)
 | some true => opK E cl ops dst r fr (evOp E cl op fr H)
 | some false => evOps E cl ops r (putD dst (.tup []) fr) H
 | none => none
theorem opK_some (dst : Option Nat) (r : List Oper) (v : AV) (H' : Hp) : opK E cl ops dst r fr (some (v, H')) = evOps E cl ops r (putD dst v fr) H' := rfl
theorem guK_t (dst : Option Nat) (op : Op) (r : List Oper) : guK E cl ops dst op r fr H (some true) = opK E cl ops dst r fr (evOp E cl op fr H) := rfl
theorem guK_f (dst : Option Nat) (op : Op) (r : List Oper) : guK E cl ops dst op r fr H (some false) = evOps E cl ops r (putD dst (.tup []) fr) H := rfl
theorem gV_b (b want : Bool) : gV want (.i (.v (.bool b))) = some (b == want) := rfl
theorem gV_u (want : Bool) : gV want (.tup []) = some false := rfl
theorem evOps_nil : evOps E cl ops [] fr H = some (fr, H) := rfl
theorem evOps_cons (dst : Option Nat) (op : Op) (ty : TypeId) (pos : String) (af : Array Edge) (r : List Oper) : evOps E cl ops (⟨dst, op, ty, pos, af, none⟩ :: r) fr H = opK E cl ops dst r fr (evOp E cl op fr H) := by
 simp only [evOps, guardE]
 cases evOp E cl op fr H with
 | none => rfl
 | some x => rfl
theorem guard_gB (dst : Option Nat) (op : Op) (ty : TypeId) (pos : String) (af : Array Edge) (j : Nat) (w : Bool) : guardE ops fr ⟨dst, op, ty, pos, af, some (j, w)⟩ = gB ops fr j w := by
 simp only [guardE, gB]
 cases (ops[j]?).bind (·.dst) with
 | none => rfl
 | some d => simp only [gV]; rfl
theorem evOps_guard (dst : Option Nat) (op : Op) (ty : TypeId) (pos : String) (af : Array Edge) (j : Nat) (w : Bool) (r : List Oper) : evOps E cl ops (⟨dst, op, ty, pos, af, some (j, w)⟩ :: r) fr H = guK E cl ops dst op r fr H (gB ops fr j w) := by
 simp only [evOps, guard_gB]
 cases gB ops fr j w with
 | none => rfl
 | some b =>
  cases b with
  | false => rfl
  | true =>
   simp only [guK]
   cases evOp E cl op fr H with
   | none => rfl
   | some x => rfl

def tK (t : List Nat) : Option (Fr × Hp × List (List Nat)) → Option (Fr × Hp × List (List Nat))
 | some (fr2, H2, ts) => some (fr2, H2, t :: ts)
 | none => none
noncomputable def opT (E : Env) (cl : CallF) (ops : List Oper) (dst : Option Nat) (op : Op) (r : List Oper) (fr : Fr) (H : Hp) : Option (AV × Hp) → Option (Fr × Hp × List (List Nat))
 | some (v, H') => tK (touch E fr H op ++ List.range' H.length (H'.length - H.length)) (evT E cl ops r (putD dst v fr) H')
 | none => none
noncomputable def guT (E : Env) (cl : CallF) (ops : List Oper) (dst : Option Nat) (op : Op) (r : List Oper) (fr : Fr) (H : Hp) : Option Bool → Option (Fr × Hp × List (List Nat))
 | some true => opT E cl ops dst op r fr H (evOp E cl op fr H)
 | some false => tK [] (evT E cl ops r (putD dst (.tup []) fr) H)
 | none => none
theorem tK_some (t : List Nat) (fr2 : Fr) (H2 : Hp) (ts : List (List Nat)) : tK t (some (fr2, H2, ts)) = some (fr2, H2, t :: ts) := rfl
theorem opT_some (dst : Option Nat) (op : Op) (r : List Oper) (v : AV) (H' : Hp) : opT E cl ops dst op r fr H (some (v, H')) = tK (touch E fr H op ++ List.range' H.length (H'.length - H.length)) (evT E cl ops r (putD dst v fr) H') := rfl
theorem guT_t (dst : Option Nat) (op : Op) (r : List Oper) : guT E cl ops dst op r fr H (some true) = opT E cl ops dst op r fr H (evOp E cl op fr H) := rfl
theorem guT_f (dst : Option Nat) (op : Op) (r : List Oper) : guT E cl ops dst op r fr H (some false) = tK [] (evT E cl ops r (putD dst (.tup []) fr) H) := rfl
theorem evT_nil : evT E cl ops [] fr H = some (fr, H, []) := rfl
theorem evT_cons (dst : Option Nat) (op : Op) (ty : TypeId) (pos : String) (af : Array Edge) (r : List Oper) : evT E cl ops (⟨dst, op, ty, pos, af, none⟩ :: r) fr H = opT E cl ops dst op r fr H (evOp E cl op fr H) := by
 simp only [evT, stp, guardE]
 cases evOp E cl op fr H with
 | none => rfl
 | some x => simp only [opT, tK]; rfl
theorem evT_guard (dst : Option Nat) (op : Op) (ty : TypeId) (pos : String) (af : Array Edge) (j : Nat) (w : Bool) (r : List Oper) : evT E cl ops (⟨dst, op, ty, pos, af, some (j, w)⟩ :: r) fr H = guT E cl ops dst op r fr H (gB ops fr j w) := by
 simp only [evT, stp, guard_gB]
 cases gB ops fr j w with
 | none => rfl
 | some b =>
  cases b with
  | false => simp only [guT, tK]; rfl
  | true =>
   simp only [guT]
   cases evOp E cl op fr H with
   | none => rfl
   | some x => simp only [opT, tK]; rfl

noncomputable def opD (E : Env) (cl : CallF) (ops : List Oper) (c : Nat) (dst : Option Nat) (op : Op) (r : List Oper) (fr : Fr) (H : Hp) : Option (AV × Hp) → Option (Fr × Hp × List (List Nat))
 | some (v, H') => tK (touchD E c fr H op ++ List.range' H.length (H'.length - H.length)) (evD E cl ops (stepC c op) r (putD dst v fr) H')
 | none => none
noncomputable def guD (E : Env) (cl : CallF) (ops : List Oper) (c : Nat) (dst : Option Nat) (op : Op) (r : List Oper) (fr : Fr) (H : Hp) : Option Bool → Option (Fr × Hp × List (List Nat))
 | some true => opD E cl ops c dst op r fr H (evOpD E cl c op fr H)
 | some false => tK [] (evD E cl ops (stepC c op) r (putD dst (.tup []) fr) H)
 | none => none
theorem opD_some (c : Nat) (dst : Option Nat) (op : Op) (r : List Oper) (v : AV) (H' : Hp) : opD E cl ops c dst op r fr H (some (v, H')) = tK (touchD E c fr H op ++ List.range' H.length (H'.length - H.length)) (evD E cl ops (stepC c op) r (putD dst v fr) H') := rfl
theorem guD_t (c : Nat) (dst : Option Nat) (op : Op) (r : List Oper) : guD E cl ops c dst op r fr H (some true) = opD E cl ops c dst op r fr H (evOpD E cl c op fr H) := rfl
theorem guD_f (c : Nat) (dst : Option Nat) (op : Op) (r : List Oper) : guD E cl ops c dst op r fr H (some false) = tK [] (evD E cl ops (stepC c op) r (putD dst (.tup []) fr) H) := rfl
theorem guD_dec (c : Nat) (dst : Option Nat) (op : Op) (r : List Oper) (p : Prop) [Decidable p] : guD E cl ops c dst op r fr H (some (decide p)) = if p then opD E cl ops c dst op r fr H (evOpD E cl c op fr H) else tK [] (evD E cl ops (stepC c op) r (putD dst (.tup []) fr) H) := by by_cases h : p <;> simp [h, guD]
theorem guD_b (c : Nat) (dst : Option Nat) (op : Op) (r : List Oper) (b : Bool) : guD E cl ops c dst op r fr H (some b) = if b = true then opD E cl ops c dst op r fr H (evOpD E cl c op fr H) else tK [] (evD E cl ops (stepC c op) r (putD dst (.tup []) fr) H) := by cases b <;> rfl
theorem evD_nil (c : Nat) : evD E cl ops c [] fr H = some (fr, H, []) := rfl
theorem evD_op (c : Nat) (dst : Option Nat) (op : Op) (ty : TypeId) (pos : String) (af : Array Edge) (r : List Oper) : evD E cl ops c (⟨dst, op, ty, pos, af, none⟩ :: r) fr H = opD E cl ops c dst op r fr H (evOpD E cl c op fr H) := by
 simp only [evD, guardE]
 cases evOpD E cl c op fr H with
 | none => rfl
 | some x => simp only [opD, tK]; rfl
theorem evD_guard (c : Nat) (dst : Option Nat) (op : Op) (ty : TypeId) (pos : String) (af : Array Edge) (j : Nat) (w : Bool) (r : List Oper) : evD E cl ops c (⟨dst, op, ty, pos, af, some (j, w)⟩ :: r) fr H = guD E cl ops c dst op r fr H (gB ops fr j w) := by
 simp only [evD, guard_gB]
 cases gB ops fr j w with
 | none => rfl
 | some b =>
  cases b with
  | false => simp only [guD, tK]; rfl
  | true =>
   simp only [guD]
   cases evOpD E cl c op fr H with
   | none => rfl
   | some x => simp only [opD, tK]; rfl
theorem putH_hole (c : Nat) (r : Option (Option (Option Nat) × Chunk)) : putH c H r (some (.sl 0 0 [] true)) = match r with | some (k, ch) => some (mkR c k, H.set c ch) | none => none := rfl

def crK (args : List AV) : Option (List AV × Hp) → List Nat
 | some (as0, H1) => refsL args ++ reach H1 64 (refsL as0) []
 | none => []
theorem crK_some (args as0 : List AV) (H1 : Hp) : crK args (some (as0, H1)) = refsL args ++ reach H1 64 (refsL as0) [] := rfl
theorem cr_prep {f : FuncId} (args : List AV) : calleeR E f args H = crK args (prepE E f H args) := by
 unfold calleeR crK; cases prepE E f H args <;> rfl
theorem cm_none {f : FuncId} (h : E.mkc f = none) (h2 : E.rdr f = false) (args : List AV) : calleeM E f args H = calleeR E f args H := by unfold calleeM; rw [h, h2]
theorem cm_rdr {f : FuncId} (h : E.mkc f = none) (h2 : E.rdr f = true) (args : List AV) : calleeM E f args H = (calleeR E f args H).map (· + bigN) := by unfold calleeM; rw [h, h2]
theorem reach_nil (n : Nat) (seen : List Nat) : reach H n [] seen = seen := by cases n <;> rfl
def tcK (E : Env) (H : Hp) (args : List AV) : AV → List Nat
 | .clo (.func g) first caps => calleeM E g (first ++ args ++ caps) H
 | _ => []
theorem tcK_f (args : List AV) (g : Nat) (first caps : List AV) : tcK E H args (.clo (.func g) first caps) = calleeM E g (first ++ args ++ caps) H := rfl
theorem touch_call (x : Operand) (args : Array Operand) (tys : Array TypeId) : touch E fr H (.call ⟨.value x, args, tys⟩) = tcK E H (args.toList.map (opd E fr)) (opd E fr x) := by
 simp only [touch, calleeE, tcK]
 split
 ·rename_i g as0 hg
  split at hg
  ·rename_i g' first caps hx
   simp only [Option.some.injEq, Prod.mk.injEq] at hg
   obtain ⟨rfl, rfl⟩ := hg
   rw [hx]
  ·cases hg
 ·rename_i hg
  split at hg
  ·cases hg
  ·rename_i hne
   split
   ·rename_i g first caps hx; exact absurd hx (hne _ _ _)
   ·rfl
theorem touch_bi (b : Builtin) (args : Array Operand) (tys : Array TypeId) : touch E fr H (.call ⟨.builtin b, args, tys⟩) = refsL (args.toList.map (opd E fr)) := rfl
theorem touch_load (t : TypeId) (x : Operand) : touch E fr H (.load t x) = refsA (opd E fr x) := rfl
theorem touch_ia (t : TypeId) (x i : Operand) : touch E fr H (.indexAddr t x i) = refsA (opd E fr x) := rfl
theorem touch_slice (t : TypeId) (x : Operand) (lo hi mx : Option Operand) : touch E fr H (.slice t x lo hi mx) = refsA (opd E fr x) := rfl
theorem touch_store (t : TypeId) (a x : Operand) : touch E fr H (.store t a x) = refsA (opd E fr a) ++ refsA (opd E fr x) := rfl
theorem touch_bs (t : TypeId) (n : Nat) (ps : Array (Nat × Operand)) : touch E fr H (.buildSlice t n ps) = buildRefs E t n (ps.toList.map fun p => (p.1, opd E fr p.2)) := rfl

theorem touch_move (x : Operand) : touch E fr H (.move x) = [] := rfl
theorem touch_assign (x : Operand) : touch E fr H (.assign x) = [] := rfl
theorem touch_pick (a b c : Operand) : touch E fr H (.pick a b c) = [] := rfl
theorem touch_bin (op : BinOp) (t u : TypeId) (x y : Operand) : touch E fr H (.binOp op t x y u) = [] := rfl
theorem touch_un (op : UnOp) (t : TypeId) (x : Operand) : touch E fr H (.unOp op t x) = [] := rfl
theorem touch_conv (s d : TypeId) (x : Operand) : touch E fr H (.convert s d x) = refsA (opd E fr x) := rfl
theorem touch_range (t : TypeId) (x : Operand) : touch E fr H (.range t x) = [] := rfl
theorem touch_next (it : Operand) (b : Bool) : touch E fr H (.next it b) = refsA (opd E fr it) := rfl
theorem touch_mf (fn : Fn) (a b : Array Operand) : touch E fr H (.makeFunc fn a b) = [] := rfl
theorem touch_field (t : TypeId) (x : Operand) (k : Nat) : touch E fr H (.field t x k) = [] := rfl
theorem touch_fa (t : TypeId) (x : Operand) (k : Nat) : touch E fr H (.fieldAddr t x k) = [] := rfl
theorem touch_ix (t : TypeId) (x y : Operand) : touch E fr H (.index t x y) = [] := rfl
theorem touch_ex (x : Operand) (n : Nat) : touch E fr H (.extract x n) = [] := rfl
theorem touch_nil (x : Operand) : touch E fr H (.nilCheck x) = [] := rfl
theorem touch_bd (t : TypeId) (ps : Array (Nat × Operand)) : touch E fr H (.build t ps) = [] := rfl
theorem touch_alloc (t : TypeId) : touch E fr H (.alloc t) = [] := rfl
theorem touch_box (t : TypeId) (x : Operand) : touch E fr H (.box t x) = [] := rfl
theorem touch_ms (t : TypeId) (x y : Operand) : touch E fr H (.makeSlice t x y) = [] := rfl

theorem seqK_n (k : Fr → Hp → Option (Ex × Fr × Hp)) (fr' : Fr) (H' : Hp) : seqK k (some (.normal, fr', H')) = k fr' H' := rfl
theorem seqK_e (k : Fr → Hp → Option (Ex × Fr × Hp)) (id : Nat) (fr' : Fr) (H' : Hp) : seqK k (some (.exit id, fr', H')) = some (.exit id, fr', H') := rfl
theorem seqK_r (k : Fr → Hp → Option (Ex × Fr × Hp)) (fr' : Fr) (H' : Hp) : seqK k (some (.ret, fr', H')) = some (.ret, fr', H') := rfl
theorem regK_some (id : Nat) (fr' : Fr) (H' : Hp) : regK E f id (some (fr', H')) = some (.normal, norm (E.keep f id) fr', H') := rfl
theorem regTK_some (id : Nat) (fr' : Fr) (H' : Hp) (tr : List (List Nat)) : regTK E f id (some (fr', H', tr)) = if (E.flo f id).all (floatOk tr) = true then some (.normal, norm (E.keep f id) fr', H') else none := rfl
theorem condK_t (a b : Option (Ex × Fr × Hp)) : condK (.i (.v (.bool true))) a b = a := rfl
theorem condK_f (a b : Option (Ex × Fr × Hp)) : condK (.i (.v (.bool false))) a b = b := rfl
theorem blockK_n (id : Nat) (fr' : Fr) (H' : Hp) : blockK id (some (.normal, fr', H')) = some (.normal, fr', H') := rfl
theorem blockK_r (id : Nat) (fr' : Fr) (H' : Hp) : blockK id (some (.ret, fr', H')) = some (.ret, fr', H') := rfl
theorem blockK_e (id j : Nat) (fr' : Fr) (H' : Hp) : blockK id (some (.exit j, fr', H')) = if j = id then some (.normal, fr', H') else some (.exit j, fr', H') := rfl
def endR (E : Env) (f : FuncId) (B : Nat) (H : Hp) : Option AV → Option (AV × Hp)
 | some r => retE E f B H r
 | none => none
theorem endR_some (B : Nat) (r : AV) : endR E f B H (some r) = retE E f B H r := rfl
theorem endK_r (B : Nat) (rs : List ResultVar) (fr' : Fr) (H' : Hp) : endK E f B rs (some (.ret, fr', H')) = endR E f B H' (resE E fr' H' rs) := by
 simp only [endK, endR] <;> rfl
theorem endK_n (B : Nat) (rs : List ResultVar) (fr' : Fr) (H' : Hp) : endK E f B rs (some (.normal, fr', H')) = endR E f B H' (resE E fr' H' rs) := by
 simp only [endK, endR] <;> rfl
def rtK (E : Env) (f : FuncId) (B : Nat) (H : Hp) (vs : List AV) : Bool → Option (List AV × Hp)
 | true => some (cnL B (matL (E.resk f) vs H).2 (matL (E.resk f) vs H).1, cnHs B (matL (E.resk f) vs H).2 0 (matL (E.resk f) vs H).2)
 | false => match prep H vs with
  | some (as0, H1) => some (cnL B H1 (canLs (E.resk f) as0), cnHs B H1 0 H1)
  | none => none
def rtP (E : Env) (f : FuncId) (B : Nat) : Option (List AV × Hp) → Option (List AV × Hp)
 | some (as0, H1) => some (cnL B H1 (canLs (E.resk f) as0), cnHs B H1 0 H1)
 | none => none
theorem retL_eq (B : Nat) (vs : List AV) : retL E f B H vs = rtK E f B H vs (E.own f) := by
 unfold retL rtK; cases E.own f <;> rfl
theorem rtK_f (B : Nat) (vs : List AV) : rtK E f B H vs false = rtP E f B (prep H vs) := by
 unfold rtK rtP; rfl
theorem rtK_t (B : Nat) (vs : List AV) : rtK E f B H vs true = some (cnL B (matL (E.resk f) vs H).2 (matL (E.resk f) vs H).1, cnHs B (matL (E.resk f) vs H).2 0 (matL (E.resk f) vs H).2) := rfl
theorem rtP_some (B : Nat) (as0 : List AV) (H1 : Hp) : rtP E f B (some (as0, H1)) = some (cnL B H1 (canLs (E.resk f) as0), cnHs B H1 0 H1) := rfl
theorem retE_tup (B : Nat) (vs : List AV) : retE E f B H (.tup vs) = retN (retL E f B H vs) := rfl
theorem retE_i (B : Nat) (x : IV) : retE E f B H (.i x) = ret1 (retL E f B H [.i x]) := rfl
theorem retE_agg (B : Nat) (l : List AV) : retE E f B H (.agg l) = ret1 (retL E f B H [.agg l]) := rfl
theorem retE_ref (B c g o n : Nat) : retE E f B H (.ref c g o n) = ret1 (retL E f B H [.ref c g o n]) := rfl
theorem retE_ptr (B c g r k : Nat) : retE E f B H (.ptr c g r k) = ret1 (retL E f B H [.ptr c g r k]) := rfl
theorem retE_clo (B : Nat) (fn : Fn) (a b : List AV) : retE E f B H (.clo fn a b) = ret1 (retL E f B H [.clo fn a b]) := rfl
theorem ret1_some (a : AV) (H1 : Hp) : ret1 (some ([a], H1)) = some (a, H1) := rfl
theorem retN_some (as0 : List AV) (H1 : Hp) : retN (some (as0, H1)) = some (.tup as0, H1) := rfl
theorem canI_n (x : IV) : canI none x = x := by cases x <;> rfl
theorem canI_v (k : Option Nat) (x : Value) : canI k (.v x) = .v x := by cases k <;> rfl
theorem canI_str (k : Option Nat) (x : List UInt8) : canI k (.str x) = .str x := by cases k <;> rfl
theorem canI_pt (k : Option Nat) (x : List IV) (o : Nat) : canI k (.pt x o) = .pt x o := by cases k <;> rfl
theorem canI_sl (z : Nat) (rows : List (List IV)) (ex : Bool) : canI (some z) (.sl z rows ex) = .sl z rows false := by simp [canI]
theorem canI_nil (z sz : Nat) (ex : Bool) : canI (some z) (.sl sz [] ex) = .sl z [] false := by simp only [canI]; split <;> rfl
theorem canR_nil (l : List IV) : canR [] l = l := by cases l <;> rfl
theorem canR_e (ks : List (Option Nat)) : canR ks [] = [] := by cases ks <;> rfl
theorem canR_cons (k : Option Nat) (ks : List (Option Nat)) (x : IV) (r : List IV) : canR (k :: ks) (x :: r) = canI k x :: canR ks r := rfl
theorem canC_nil (l : List AV) : canC [] l = l := by cases l <;> rfl
theorem canC_e (ks : List (Option Nat)) : canC ks [] = [] := by cases ks <;> rfl
theorem canC_i (k : Option Nat) (ks : List (Option Nat)) (x : IV) (r : List AV) : canC (k :: ks) (.i x :: r) = .i (canI k x) :: canC ks r := rfl
theorem canC_ref (k : Option Nat) (ks : List (Option Nat)) (c g o n : Nat) (r : List AV) : canC (k :: ks) (.ref c g o n :: r) = .ref c g o n :: canC ks r := rfl
theorem canC_ptr (k : Option Nat) (ks : List (Option Nat)) (c g o n : Nat) (r : List AV) : canC (k :: ks) (.ptr c g o n :: r) = .ptr c g o n :: canC ks r := rfl
theorem canC_clo (k : Option Nat) (ks : List (Option Nat)) (f : Fn) (a b : List AV) (r : List AV) : canC (k :: ks) (.clo f a b :: r) = .clo f a b :: canC ks r := rfl
theorem canA_i (k : Option Nat) (ks : List (Option Nat)) (x : IV) : canA (k :: ks) (.i x) = .i (canI k x) := rfl
theorem canA_i0 (x : IV) : canA [] (.i x) = .i x := by show AV.i (canI none x) = _; rw [canI_n]
theorem canA_agg (ks : List (Option Nat)) (l : List AV) : canA ks (.agg l) = .agg (canC ks l) := rfl
theorem canA_ref (ks : List (Option Nat)) (c g o n : Nat) : canA ks (.ref c g o n) = .ref c g o n := rfl
theorem canA_ptr (ks : List (Option Nat)) (c g o n : Nat) : canA ks (.ptr c g o n) = .ptr c g o n := rfl
theorem canA_clo (ks : List (Option Nat)) (fn : Fn) (a b : List AV) : canA ks (.clo fn a b) = .clo fn a b := rfl
theorem canA_tup (ks : List (Option Nat)) (l : List AV) : canA ks (.tup l) = .tup l := rfl
theorem canLs_nil (l : List AV) : canLs [] l = l := by cases l <;> rfl
theorem canLs_e (ks : List (List (Option Nat))) : canLs ks [] = [] := by cases ks <;> rfl
theorem canLs_cons (k : List (Option Nat)) (ks : List (List (Option Nat))) (a : AV) (r : List AV) : canLs (k :: ks) (a :: r) = canA k a :: canLs ks r := rfl
theorem matV_nil (z sz : Nat) : matV z H (.i (.sl sz [] true)) = (.ref H.length 0 0 0, H ++ [.sl z 0 [] false]) := rfl
theorem matV_false (z sz : Nat) (rows : List (List IV)) : matV z H (.i (.sl sz rows false)) = (.i (.sl sz rows false), H) := by cases rows <;> rfl
theorem matV_ref (z c g o n : Nat) : matV z H (.ref c g o n) = (.ref c g o n, H) := rfl
theorem mat1_z (z : Nat) (a : AV) : mat1 [some z] H a = matV z H a := rfl
theorem mat1_n (a : AV) : mat1 [none] H a = (a, H) := rfl
theorem mat1_0 (a : AV) : mat1 [] H a = (a, H) := rfl
theorem mat1_2 (k k' : Option Nat) (ks : List (Option Nat)) (a : AV) : mat1 (k :: k' :: ks) H a = (a, H) := by cases k <;> rfl
theorem matL_nil (l : List AV) : matL [] l H = (l, H) := by cases l <;> rfl
theorem matL_e (ks : List (List (Option Nat))) : matL ks [] H = ([], H) := by cases ks <;> rfl
theorem matL_cons (k : List (Option Nat)) (ks : List (List (Option Nat))) (a : AV) (r : List AV) : matL (k :: ks) (a :: r) H = ((mat1 k H a).1 :: (matL ks r (mat1 k H a).2).1, (matL ks r (mat1 k H a).2).2) := rfl
theorem matF_nil : matF [] fr H = (fr, H) := rfl
theorem matF_cons (k z : Nat) (r : List (Nat × Nat)) : matF ((k, z) :: r) fr H = matF r ((k, (matV z H (get k fr)).1) :: fr) (matV z H (get k fr)).2 := rfl
theorem matB_nil : matB [] fr H = H := rfl
theorem matB_cons (k j z : Nat) (r : List (Nat × Nat × Nat)) : matB ((k, j, z) :: r) fr H = matB r fr (matB2 j z H (get k fr)) := rfl
theorem matB2_ptr (j z c g r k : Nat) : matB2 j z H (.ptr c g r k) = matB1 j z c H H[c]? := rfl
def matB3 (j z c : Nat) (H : Hp) (cells : List AV) : Option AV → Hp
 | some a => (matV z H a).2.set c (.box (cells.set j (matV z H a).1))
 | none => H
theorem matB1_box (j z c : Nat) (cells : List AV) : matB1 j z c H (some (.box cells)) = matB3 j z c H cells cells[j]? := by
 unfold matB1 matB3; simp only; cases cells[j]? <;> rfl
theorem matB3_some (j z c : Nat) (cells : List AV) (a : AV) : matB3 j z c H cells (some a) = (matV z H a).2.set c (.box (cells.set j (matV z H a).1)) := rfl
theorem frzF_nil : frzF [] fr H = (fr, H) := rfl
theorem frzF_cons (k z : Nat) (r : List (Nat × Nat)) : frzF ((k, z) :: r) fr H = frzF r (frz1 k z fr H (freeze H (get k fr))).1 (frz1 k z fr H (freeze H (get k fr))).2 := rfl
theorem frz1_some (k z : Nat) (x : IV) (H1 : Hp) : frz1 k z fr H (some (x, H1)) = ((k, .i (canI (some z) x)) :: fr, H1) := rfl
theorem cnA_i (B : Nat) (x : IV) : cnA B H (.i x) = .i x := by simp [cnA]
theorem cnA_dead (B : Nat) : cnA B H .dead = .dead := by simp [cnA]
theorem cnA_agg (B : Nat) (l : List AV) : cnA B H (.agg l) = .agg (cnL B H l) := by simp [cnA]
theorem cnA_tup (B : Nat) (l : List AV) : cnA B H (.tup l) = .tup (cnL B H l) := by simp [cnA]
theorem cnA_clo (B : Nat) (f : Fn) (a b : List AV) : cnA B H (.clo f a b) = .clo f (cnL B H a) (cnL B H b) := by simp [cnA]
theorem cnA_ref (B c g o n : Nat) : cnA B H (.ref c g o n) = if c < B then .ref c g o n else cnRef c g o n H[c]? := by simp [cnA]
theorem cnA_ptr (B c g r k : Nat) : cnA B H (.ptr c g r k) = if c < B then .ptr c g r k else cnPtr c g r k H[c]? := by simp [cnA]
theorem cnRef_sl (c g o n sz g' : Nat) (rows : List (List IV)) (ex : Bool) : cnRef c g o n (some (.sl sz g' rows ex)) = if g = g' then .ref c 0 o n else .dead := rfl
theorem cnRef_fz (c g o n sz g' : Nat) (rows : List (List IV)) (ex : Bool) : cnRef c g o n (some (.fz sz g' rows ex)) = if g = g' then .i (.sl sz ((rows.drop o).take n) (ex && decide (o + n = rows.length))) else .dead := rfl
theorem cnPtr_sl (c g r k sz g' : Nat) (rows : List (List IV)) (ex : Bool) : cnPtr c g r k (some (.sl sz g' rows ex)) = if g = g' then .ptr c 0 r k else .dead := rfl
theorem cnPtr_fz (c g r k sz g' : Nat) (rows : List (List IV)) (ex : Bool) : cnPtr c g r k (some (.fz sz g' rows ex)) = .ptr c g r k := rfl
theorem cnPtr_box (c g r k : Nat) (cells : List AV) : cnPtr c g r k (some (.box cells)) = .ptr c g r k := rfl
theorem cnPtr_iter (c g r k : Nat) (s : List UInt8) (p : Nat) : cnPtr c g r k (some (.iter s p)) = .ptr c g r k := rfl
theorem cnL_nil (B : Nat) : cnL B H [] = [] := by simp [cnL]
theorem cnL_cons (B : Nat) (a : AV) (r : List AV) : cnL B H (a :: r) = cnA B H a :: cnL B H r := by simp [cnL]
theorem cnC_box (B c : Nat) (cells : List AV) : cnC B H c (.box cells) = .box (cnL B H cells) := rfl
theorem cnC_sl (B c sz g : Nat) (rows : List (List IV)) (ex : Bool) : cnC B H c (.sl sz g rows ex) = if c < B then .sl sz g rows ex else .sl sz 0 rows false := rfl
theorem cnC_fz (B c sz g : Nat) (rows : List (List IV)) (ex : Bool) : cnC B H c (.fz sz g rows ex) = .fz sz g rows ex := rfl
theorem cnC_iter (B c : Nat) (s : List UInt8) (p : Nat) : cnC B H c (.iter s p) = .iter s p := rfl
theorem cnHs_nil (B c : Nat) : cnHs B H c [] = [] := rfl
theorem cnHs_cons (B c : Nat) (x : Chunk) (r : Hp) : cnHs B H c (x :: r) = cnC B H c x :: cnHs B H (c + 1) r := rfl
theorem cnF_nil (B : Nat) : cnF B H [] = [] := rfl
theorem cnF_cons (B k : Nat) (a : AV) (r : Fr) : cnF B H ((k, a) :: r) = (k, cnA B H a) :: cnF B H r := rfl
theorem gcn_eq (B : Nat) : gcn B fr H = gc B (cnF B H fr) (cnHs B H 0 H) := rfl
def peP (E : Env) (g : FuncId) : Option (List AV × Hp) → Option (List AV × Hp)
 | some (as0, H1) => some (canLs (E.argk g) as0, H1)
 | none => none
theorem peP_some (g : FuncId) (as0 : List AV) (H1 : Hp) : peP E g (some (as0, H1)) = some (canLs (E.argk g) as0, H1) := rfl
theorem prepE_v {g : FuncId} (hb : E.byref g = false) (args : List AV) : prepE E g H args = peP E g (prep H args) := by
 unfold prepE peP; rw [hb]; rfl
theorem prepE_r {g : FuncId} (hb : E.byref g = true) (args : List AV) : prepE E g H args = some (matL (E.argk g) args H) := by
 unfold prepE; rw [hb]
def prK (a : AV) : Option (List AV × Hp) → Option (List AV × Hp)
 | some (as0, H2) => some (a :: as0, H2)
 | none => none
def prF (r : List AV) : Option (IV × Hp) → Option (List AV × Hp)
 | some (x, H1) => prK (.i x) (prep H1 r)
 | none => none
def prG (l r : List AV) (H : Hp) : Option (List IV × Hp) → Option (List AV × Hp)
 | some (xs, H1) => prK (.agg (ivs xs)) (prep H1 r)
 | none => prK (.agg l) (prep H r)
theorem prK_some (a : AV) (as0 : List AV) (H2 : Hp) : prK a (some (as0, H2)) = some (a :: as0, H2) := rfl
theorem prF_some (r : List AV) (x : IV) (H1 : Hp) : prF r (some (x, H1)) = prK (.i x) (prep H1 r) := rfl
theorem prG_some (l r : List AV) (xs : List IV) (H1 : Hp) : prG l r H (some (xs, H1)) = prK (.agg (ivs xs)) (prep H1 r) := rfl
theorem prG_none (l r : List AV) : prG l r H none = prK (.agg l) (prep H r) := rfl
theorem pr_nil : prep H [] = some ([], H) := rfl
theorem pr_i (x : IV) (r : List AV) : prep H (.i x :: r) = prK (.i x) (prep H r) := by simp only [prep]; cases prep H r <;> rfl
theorem pr_dead (r : List AV) : prep H (.dead :: r) = prK .dead (prep H r) := by simp only [prep]; cases prep H r <;> rfl
theorem pr_ptr (c g o n : Nat) (r : List AV) : prep H (.ptr c g o n :: r) = prK (.ptr c g o n) (prep H r) := by simp only [prep]; cases prep H r <;> rfl
theorem pr_clo (f : Fn) (a b : List AV) (r : List AV) : prep H (.clo f a b :: r) = prK (.clo f a b) (prep H r) := by simp only [prep]; cases prep H r <;> rfl
theorem pr_tup (l : List AV) (r : List AV) : prep H (.tup l :: r) = prK (.tup l) (prep H r) := by simp only [prep]; cases prep H r <;> rfl
theorem pr_ref (c g o n : Nat) (r : List AV) : prep H (.ref c g o n :: r) = prF r (freeze H (.ref c g o n)) := by
 simp only [prep, prF]
 cases freeze H (.ref c g o n) with
 | none => rfl
 | some p => simp only; cases prep p.2 r <;> rfl
theorem pr_agg (l : List AV) (r : List AV) : prep H (.agg l :: r) = prG l r H (freezeAll H l) := by
 simp only [prep, prG]
 cases freezeAll H l with
 | none => simp only; cases prep H r <;> rfl
 | some p => simp only; cases prep p.2 r <;> rfl
def fzK (c g o n : Nat) (H : Hp) : Option Chunk → Option (IV × Hp)
 | some (.sl sz g' rows ex) => if g = g' then some (.sl sz ((rows.drop o).take n) (ex && decide (o + n = rows.length)), H.set c (.fz sz g rows ex)) else none
 | some (.fz sz g' rows ex) => if g = g' then some (.sl sz ((rows.drop o).take n) (ex && decide (o + n = rows.length)), H) else none
 | _ => none
theorem fz_i (x : IV) : freeze H (.i x) = some (x, H) := rfl
theorem fz_ref (c g o n : Nat) : freeze H (.ref c g o n) = fzK c g o n H H[c]? := by
 simp only [freeze, fzK]
 cases H[c]? with
 | none => rfl
 | some x => cases x <;> rfl
theorem fz_ptr (c g o n : Nat) : freeze H (.ptr c g o n) = none := rfl
theorem fz_clo (f : Fn) (a b : List AV) : freeze H (.clo f a b) = none := rfl
theorem fzK_sl (c g o n sz g' : Nat) (rows : List (List IV)) (ex : Bool) : fzK c g o n H (some (.sl sz g' rows ex)) = if g = g' then some (.sl sz ((rows.drop o).take n) (ex && decide (o + n = rows.length)), H.set c (.fz sz g rows ex)) else none := rfl
theorem fzK_fz (c g o n sz g' : Nat) (rows : List (List IV)) (ex : Bool) : fzK c g o n H (some (.fz sz g' rows ex)) = if g = g' then some (.sl sz ((rows.drop o).take n) (ex && decide (o + n = rows.length)), H) else none := rfl
def faK (x : IV) : Option (List IV × Hp) → Option (List IV × Hp)
 | some (xs, H2) => some (x :: xs, H2)
 | none => none
def faF (r : List AV) : Option (IV × Hp) → Option (List IV × Hp)
 | some (x, H1) => faK x (freezeAll H1 r)
 | none => none
theorem faK_some (x : IV) (xs : List IV) (H2 : Hp) : faK x (some (xs, H2)) = some (x :: xs, H2) := rfl
theorem faK_none (x : IV) : faK x none = none := rfl
theorem faF_some (r : List AV) (x : IV) (H1 : Hp) : faF r (some (x, H1)) = faK x (freezeAll H1 r) := rfl
theorem faF_none (r : List AV) : faF r none = none := rfl
theorem fa_nil : freezeAll H [] = some ([], H) := rfl
theorem fa_cons (a : AV) (r : List AV) : freezeAll H (a :: r) = faF r (freeze H a) := by
 simp only [freezeAll, faF]
 cases freeze H a with
 | none => rfl
 | some p => simp only; cases freezeAll p.2 r <;> rfl
theorem fa_map : ∀ (l : List IV), freezeAll H (l.map .i) = some (l, H)
 | [] => rfl
 | a :: l => by simp only [List.map_cons, fa_cons, fz_i, faF_some, fa_map l, faK_some]
def pK (H : Hp) : Option AV → Option (AV × Hp)
 | some v => some (v, H)
 | none => none
theorem pK_some (v : AV) : pK H (some v) = some (v, H) := rfl
theorem map_pK (o : Option AV) : (o.map fun v => (v, H)) = pK H o := by cases o <;> rfl
theorem op_move (x : Operand) : evOp E cl (.move x) fr H = some (opd E fr x, H) := rfl
theorem op_assign (x : Operand) : evOp E cl (.assign x) fr H = some (opd E fr x, H) := rfl
def pickK (a b : AV) : AV → Option AV
 | .i (.v (.bool t)) => some (bif t then a else b)
 | _ => none
theorem op_pick (c a b : Operand) : evOp E cl (.pick c a b) fr H = pK H (pickK (opd E fr a) (opd E fr b) (opd E fr c)) := by
 rw [← map_pK]; simp only [evOp, heavy, evL, Bool.false_eq_true, if_false]
 congr 1
theorem op_load (t : TypeId) (a : Operand) : evOp E cl (.load t a) fr H = pK H (loadE E H t (opd E fr a)) := map_pK _
theorem op_bin (op : BinOp) (t u : TypeId) (x y : Operand) : evOp E cl (.binOp op t x y u) fr H = pK H (binE E.P op t (opd E fr x) (opd E fr y)) := map_pK _
theorem op_un (op : UnOp) (t : TypeId) (x : Operand) : evOp E cl (.unOp op t x) fr H = pK H (unE op (opd E fr x)) := map_pK _
theorem op_slice (t : TypeId) (x : Operand) (lo hi : Option Operand) : evOp E cl (.slice t x lo hi none) fr H = pK H (sliceE E H t (opd E fr x) (lo.map (opd E fr)) (hi.map (opd E fr)) none) := map_pK _
def s3K (k : AV → Hp → Option AV) : Option (IV × Hp) → Option (AV × Hp)
 | some (y, H1) => (k (.i y) H1).map fun v => (v, H1)
 | none => none
theorem s3K_some (k : AV → Hp → Option AV) (y : IV) (H1 : Hp) : s3K k (some (y, H1)) = pK H1 (k (.i y) H1) := by
 simp only [s3K, pK]; cases k (.i y) H1 <;> rfl
theorem op_slice3 (t : TypeId) (x : Operand) (lo hi : Option Operand) (m : Operand) : evOp E cl (.slice t x lo hi (some m)) fr H = s3K (fun y H1 => sliceE E H1 t y (lo.map (opd E fr)) (hi.map (opd E fr)) (some (opd E fr m))) (freeze H (opd E fr x)) := by
 simp only [evOp, heavy, Option.isSome_some, if_true, evH, s3K]
 split <;> simp_all
theorem op_index (t : TypeId) (x ix : Operand) : evOp E cl (.index t x ix) fr H = pK H (idxE E t (opd E fr x) (opd E fr ix)) := map_pK _
theorem op_indexAddr (t : TypeId) (x ix : Operand) : evOp E cl (.indexAddr t x ix) fr H = pK H (idxAddrE E H t (opd E fr x) (opd E fr ix)) := map_pK _
theorem op_field (t : TypeId) (x : Operand) (k : Nat) : evOp E cl (.field t x k) fr H = pK H (fieldE E t (opd E fr x) k) := map_pK _
theorem op_build (t : TypeId) (ps : Array (Nat × Operand)) : evOp E cl (.build t ps) fr H = pK H (buildE E t (ps.toList.map fun p => (p.1, opd E fr p.2))) := map_pK _
theorem op_makeFunc (fn : Fn) (first caps : Array Operand) : evOp E cl (.makeFunc fn first caps) fr H = some (.clo fn (first.toList.map (opd E fr)) (caps.toList.map (opd E fr)), H) := rfl
theorem op_light (o : Op) (h : heavy E o = false) (hn : ∀ f a t, o ≠ .call ⟨.value f, a, t⟩) : evOp E cl o fr H = pK H (evL E fr H o) := by
 rw [← map_pK]
 unfold evOp
 split
 ·exact absurd rfl (hn _ _ _)
 ·simp [h]
theorem op_heavy (o : Op) (h : heavy E o = true) (hn : ∀ f a t, o ≠ .call ⟨.value f, a, t⟩) : evOp E cl o fr H = evH E fr H o := by
 unfold evOp
 split
 ·exact absurd rfl (hn _ _ _)
 ·simp [h]
theorem op_nil (x : Operand) : evOp E cl (.nilCheck x) fr H = pK H (evL E fr H (.nilCheck x)) := map_pK _
theorem op_extract (x : Operand) (n : Nat) : evOp E cl (.extract x n) fr H = pK H (evL E fr H (.extract x n)) := map_pK _
theorem op_fieldAddr (s : TypeId) (x : Operand) (k : Nat) : evOp E cl (.fieldAddr s x k) fr H = pK H (evL E fr H (.fieldAddr s x k)) := map_pK _
theorem op_len (args : Array Operand) (tys : Array TypeId) : evOp E cl (.call ⟨.builtin .len, args, tys⟩) fr H = pK H (evL E fr H (.call ⟨.builtin .len, args, tys⟩)) := map_pK _
theorem op_max (args : Array Operand) (tys : Array TypeId) : evOp E cl (.call ⟨.builtin .max, args, tys⟩) fr H = pK H (foldE maxE (args.toList.map (opd E fr))) := map_pK _
theorem op_min (args : Array Operand) (tys : Array TypeId) : evOp E cl (.call ⟨.builtin .min, args, tys⟩) fr H = pK H (foldE minE (args.toList.map (opd E fr))) := map_pK _
theorem op_append (args : Array Operand) (tys : Array TypeId) : evOp E cl (.call ⟨.builtin .append, args, tys⟩) fr H = evH E fr H (.call ⟨.builtin .append, args, tys⟩) := rfl
theorem op_copy (args : Array Operand) (tys : Array TypeId) : evOp E cl (.call ⟨.builtin .copy, args, tys⟩) fr H = evH E fr H (.call ⟨.builtin .copy, args, tys⟩) := rfl
theorem op_convert (s d : TypeId) (x : Operand) (h : slO E.P d = none) (hs : slO E.P s = none) : evOp E cl (.convert s d x) fr H = pK H (convE E s d (opd E fr x)) := by
 rw [op_light _ (by simp [heavy, h]) (by intro f a t e; cases e)]; simp only [evL, hs]
theorem op_convS (s d e : TypeId) (x : Operand) (h : slO E.P d = none) (hs : slO E.P s = some e) : evOp E cl (.convert s d x) fr H = pK H (convS E H e d (opd E fr x)) := by
 rw [op_light _ (by simp [heavy, h]) (by intro f a t e; cases e)]; simp only [evL, hs]
theorem op_range (t : TypeId) (x : Operand) : evOp E cl (.range t x) fr H = evH E fr H (.range t x) := rfl
theorem op_next (it : Operand) (b : Bool) : evOp E cl (.next it b) fr H = evH E fr H (.next it b) := rfl
theorem op_alloc (t : TypeId) : evOp E cl (.alloc t) fr H = evH E fr H (.alloc t) := rfl
theorem op_box (t : TypeId) (x : Operand) : evOp E cl (.box t x) fr H = evH E fr H (.box t x) := rfl
theorem op_buildSlice (t : TypeId) (n : Nat) (ps : Array (Nat × Operand)) : evOp E cl (.buildSlice t n ps) fr H = buildSliceE E H t n (ps.toList.map fun p => (p.1, opd E fr p.2)) := rfl
def stK : Option Hp → Option (AV × Hp)
 | some H' => some (.dead, H')
 | none => none
theorem stK_some (H' : Hp) : stK (some H') = some (.dead, H') := rfl
theorem op_store (t : TypeId) (a x : Operand) : evOp E cl (.store t a x) fr H = stK (storeE E H t (opd E fr a) (opd E fr x)) := by
 show (storeE E H t (opd E fr a) (opd E fr x)).map _ = _
 cases storeE E H t (opd E fr a) (opd E fr x) <;> rfl
theorem op_makeSlice (t : TypeId) (l c : Operand) : evOp E cl (.makeSlice t l c) fr H = makeSliceE E H t (opd E fr l) (opd E fr c) := rfl
theorem callM_none {f : FuncId} (h : E.mkc f = none) (h2 : E.rdr f = false) (as0 : List AV) : callM E cl f as0 H = callIso E cl f as0 H := by unfold callM; rw [h, h2]
theorem callM_rdr {f : FuncId} (h : E.mkc f = none) (h2 : E.rdr f = true) (as0 : List AV) : callM E cl f as0 H = rdrK H (callIso E cl f as0 H) := by unfold callM; rw [h, h2]
theorem mkE_one (fn : FuncId) (a : AV) : mkE H fn [a] = if one a = true then some (.clo (.func fn) [] [.ptr H.length 0 0 0], H ++ [.box [a]]) else none := rfl
noncomputable def caK (E : Env) (cl : CallF) (H : Hp) (as0 : List AV) (g : Nat) : Bool → Option (AV × Hp)
 | true => callM E cl g as0 H
 | false => none
theorem caK_t (as0 : List AV) (g : Nat) : caK E cl H as0 g true = callM E cl g as0 H := rfl
noncomputable def clK (E : Env) (cl : CallF) (H : Hp) (args : List AV) : AV → Option (AV × Hp)
 | .clo (.func g) first caps => caK E cl H (first ++ args ++ caps) g (enterOk E g)
 | _ => none
theorem clK_f (args : List AV) (g : Nat) (first caps : List AV) : clK E cl H args (.clo (.func g) first caps) = caK E cl H (first ++ args ++ caps) g (enterOk E g) := rfl
theorem op_call (x : Operand) (args : Array Operand) (tys : Array TypeId) : evOp E cl (.call ⟨.value x, args, tys⟩) fr H = clK E cl H (args.toList.map (opd E fr)) (opd E fr x) := by
 simp only [evOp, calleeE, clK]
 split
 ·rename_i g as0 hg
  split at hg
  ·rename_i g' first caps hx
   simp only [Option.some.injEq, Prod.mk.injEq] at hg
   obtain ⟨rfl, rfl⟩ := hg
   rw [hx]
   simp only [caK]
   cases enterOk E g' <;> simp
  ·cases hg
 ·rename_i hg
  split at hg
  ·cases hg
  ·rename_i hne
   split
   ·rename_i g first caps hx; exact absurd hx (hne _ _ _)
   ·rfl

theorem refs_ren (ρ : Nat → Option Nat) : (∀ a, refsA a = [] → renA ρ a = a) ∧ (∀ l, refsL l = [] → renL ρ l = l) := by
 refine ⟨fun a => ?_, fun l => ?_⟩
 ·induction a using AV.rec (motive_2 := fun l => refsL l = [] → renL ρ l = l) <;> (try intro h) <;> simp_all [refsA, refsL, renA, renL]
 ·induction l using AV.rec_1 (motive_1 := fun a => refsA a = [] → renA ρ a = a) <;> (try intro h) <;> simp_all [refsA, refsL, renA, renL]
def loops : Code → List Code
 | .seq a b => loops a ++ loops b
 | .cond _ a b => loops a ++ loops b
 | .block _ c => loops c
 | .scope c => loops c
 | .loop c => .loop c :: loops c
 | _ => []
def loopAt (fn : Func) (k : Nat) : Code := ((fn.body.map loops).getD []).getD k .skip
end
end Go.VI

