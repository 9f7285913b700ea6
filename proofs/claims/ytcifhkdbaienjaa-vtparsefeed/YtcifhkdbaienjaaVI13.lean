/- VI, part 13: what an operation depends on, and what it leaves alone. -/
import Derived.Test.YtcifhkdbaienjaaVI12
set_option linter.unusedSimpArgs false
set_option linter.unusedVariables false
namespace Go.VI
section
variable {E : Env} {cl : CallF} {ops : List Oper}

def Agree (E : Env) (fr fr' : Fr) (op : Op) : Prop := ∀ x ∈ op.operands, opd E fr x = opd E fr' x
theorem map_agree {fr fr' : Fr} {l : Array Operand} (h : ∀ x ∈ l, opd E fr x = opd E fr' x) : l.toList.map (opd E fr) = l.toList.map (opd E fr') :=
  List.map_congr_left fun x hx => h x (by simpa using hx)
theorem pairs_agree {fr fr' : Fr} {l : Array (Nat × Operand)} (h : ∀ x ∈ (l.toList.map (·.2)).toArray, opd E fr x = opd E fr' x) : (l.toList.map fun p => (p.1, opd E fr p.2)) = l.toList.map fun p => (p.1, opd E fr' p.2) :=
  List.map_congr_left fun p hp => by rw [h p.2 (by simp; exact ⟨p.1, by simpa using hp⟩)]
theorem opt_agree {fr fr' : Fr} {o : Option Operand} (h : ∀ x ∈ o.toArray, opd E fr x = opd E fr' x) : o.map (opd E fr) = o.map (opd E fr') := by
  cases o with
  | none => rfl
  | some x => simp [h x (by simp)]

theorem evL_agree {fr fr' : Fr} {H : Hp} {op : Op} (h : Agree E fr fr' op) : evL E fr H op = evL E fr' H op := by
  unfold Agree at h
  cases op <;> simp only [Op.operands] at h <;> simp only [evL]
  case move x => rw [h x (by simp)]
  case assign x => rw [h x (by simp)]
  case pick c a b => rw [h c (by simp), h a (by simp), h b (by simp)]
  case build t ps => rw [pairs_agree h]
  case load t x => rw [h x (by simp)]
  case nilCheck x => rw [h x (by simp)]
  case binOp op t x y t2 => rw [h x (by simp), h y (by simp)]
  case unOp op t x => rw [h x (by simp)]
  case convert s d x => rw [h x (by simp)]
  case makeFunc fn a b => rw [map_agree (l := a) fun x hx => h x (by simp [hx]), map_agree (l := b) fun x hx => h x (by simp [hx])]
  case slice t x l hh m => rw [h x (by simp), opt_agree (o := l) fun x hx => h x (by simp [hx]), opt_agree (o := hh) fun x hx => h x (by simp [hx]), opt_agree (o := m) fun x hx => h x (by simp [hx])]
  case fieldAddr t x f => rw [h x (by simp)]
  case field t x f => rw [h x (by simp)]
  case indexAddr t x i => rw [h x (by simp), h i (by simp)]
  case index t x i => rw [h x (by simp), h i (by simp)]
  case extract x n => rw [h x (by simp)]
  case call c =>
    obtain ⟨callee, args, tys⟩ := c
    cases callee with
    | value f => rfl
    | invoke r m => rfl
    | builtin b =>
      simp only [Call.operands] at h
      have hm := map_agree (E := E) (fr := fr) (fr' := fr') (l := args) fun x hx => h x (by simpa using hx)
      simp only
      split
      · rename_i x t hx ht
        have := hm
        rw [hx] at this
        simp at this
        rw [this]
      · rename_i hx ht; rw [hm]
      · rename_i hx ht; rw [hm]
      · rfl
theorem evH_agree {fr fr' : Fr} {H : Hp} {op : Op} (h : Agree E fr fr' op) : evH E fr H op = evH E fr' H op := by
  unfold Agree at h
  cases op <;> simp only [Op.operands] at h <;> simp only [evH]
  case box t x => rw [h x (by simp)]
  case buildSlice t n ps => rw [pairs_agree h]
  case store t a x => rw [h a (by simp), h x (by simp)]
  case makeSlice t l c => rw [h l (by simp), h c (by simp)]
  case convert s d x => rw [h x (by simp)]
  case range t x => rw [h x (by simp)]
  case next it b => rw [h it (by simp)]
  case call c =>
    obtain ⟨callee, args, tys⟩ := c
    cases callee with
    | value f => rfl
    | invoke r m => rfl
    | builtin b =>
      simp only [Call.operands] at h
      have hm := map_agree (E := E) (fr := fr) (fr' := fr') (l := args) fun x hx => h x (by simpa using hx)
      simp only
      split
      · rename_i s x t t2 hx ht
        have := hm
        rw [hx] at this
        simp at this
        rw [this.1, this.2]
      · rfl
theorem callee_agree {fr fr' : Fr} {f : Operand} {args : Array Operand} {tys : Array TypeId} (h : Agree E fr fr' (.call ⟨.value f, args, tys⟩)) : calleeE E fr f args.toList = calleeE E fr' f args.toList := by
  simp only [Agree, Op.operands, Call.operands] at h
  unfold calleeE
  rw [h f (by simp), map_agree (l := args) fun x hx => h x (by simp [hx])]
theorem evOp_agree {fr fr' : Fr} {H : Hp} {op : Op} (h : Agree E fr fr' op) : evOp E cl op fr H = evOp E cl op fr' H := by
  unfold evOp
  split
  · rw [callee_agree h]
  · rw [evH_agree h, evL_agree h]
theorem touch_agree {fr fr' : Fr} {H : Hp} {op : Op} (h : Agree E fr fr' op) : touch E fr H op = touch E fr' H op := by
  have h0 := h
  unfold Agree at h
  cases op <;> simp only [Op.operands] at h <;> simp only [touch]
  case load t x => rw [h x (by simp)]
  case store t a x => rw [h a (by simp), h x (by simp)]
  case slice t x l hh m => rw [h x (by simp)]
  case indexAddr t x i => rw [h x (by simp)]
  case buildSlice t n ps => rw [pairs_agree h]
  case convert s d x => rw [h x (by simp)]
  case next it b => rw [h it (by simp)]
  case call c =>
    obtain ⟨callee, args, tys⟩ := c
    cases callee with
    | value f => simp only; rw [callee_agree h0]
    | invoke r m => rfl
    | builtin b =>
      simp only [Call.operands] at h
      simp only
      rw [map_agree (l := args) fun x hx => h x (by simpa using hx)]

/-! what a light operation reads of the heap -/
theorem behind_heap {H H' : Hp} {p : AV} (h : ∀ c ∈ refsA p, H'[c]? = H[c]?) : behind H' p = behind H p := by
  unfold behind
  split
  · rfl
  · rw [h _ (by simp [refsA])]
  · rfl
theorem evL_heap {fr : Fr} {H H' : Hp} {op : Op} (h : readsH op = true → ∀ c ∈ touch E fr H op, H'[c]? = H[c]?) : evL E fr H' op = evL E fr H op := by
  cases op <;> simp only [evL]
  case load t x =>
    simp only [readsH, touch, true_implies] at h
    unfold loadE
    rw [behind_heap h]
  case indexAddr t x i =>
    simp only [readsH, touch, true_implies] at h
    unfold idxAddrE
    split
    · split
      · rfl
      · split
        · rfl
        · rename_i c g off len _ hx
          rw [hx] at h
          rw [h c (by simp [refsA])]
        · rfl
      · rfl
    · rfl
  case slice t x l hh m =>
    simp only [readsH, touch, true_implies] at h
    unfold sliceE
    split
    · rfl
    · split
      · split
        · split
          · rfl
          · rfl
          · rename_i c g off len hx
            rw [hx] at h
            rw [h c (by simp [refsA])]
          · rfl
        · rfl
      · rfl
  case convert s d x =>
    simp only [readsH, touch, true_implies] at h
    split
    · unfold convS rowsE
      cases hx : opd E fr x with
      | ref c g off len =>
        rw [hx] at h
        simp only
        rw [h c (by simp [refsA])]
      | i z => cases z <;> rfl
      | _ => rfl
    · rfl
  case call c =>
    obtain ⟨callee, args, tys⟩ := c
    cases callee <;> rfl

/-! what a heavy operation leaves alone -/
def Leaves (H H' : Hp) (T : List Nat) : Prop := H.length ≤ H'.length ∧ ∀ c, c < H.length → c ∉ T → H'[c]? = H[c]?
theorem Leaves.refl (H : Hp) (T : List Nat) : Leaves H H T := ⟨Nat.le_refl _, fun _ _ _ => rfl⟩
theorem Leaves.app (H : Hp) (x : Hp) (T : List Nat) : Leaves H (H ++ x) T := ⟨by simp, fun c hc _ => List.getElem?_append_left hc⟩
theorem Leaves.trans {H H' H'' : Hp} {T : List Nat} (h : Leaves H H' T) (k : Leaves H' H'' T) : Leaves H H'' T :=
  ⟨Nat.le_trans h.1 k.1, fun c hc hT => by rw [k.2 c (by have := h.1; omega) hT, h.2 c hc hT]⟩
theorem Leaves.set {H : Hp} {c : Nat} {x : Chunk} {T : List Nat} (h : c ∈ T) : Leaves H (H.set c x) T :=
  ⟨by simp, fun d hd hT => by rw [List.getElem?_set_ne (fun e : c = d => hT (e ▸ h))]⟩
theorem Leaves.mono {H H' : Hp} {T T' : List Nat} (h : Leaves H H' T) (hs : ∀ c ∈ T, c ∈ T') : Leaves H H' T' := ⟨h.1, fun c hc hT => h.2 c hc fun hc => hT (hs c hc)⟩
theorem freeze_leaves {H H' : Hp} {a : AV} {x : IV} (h : freeze H a = some (x, H')) : Leaves H H' (refsA a) := by
  unfold freeze at h
  split at h
  · cases h; exact .refl _ _
  · split at h
    · split at h
      · simp only [Option.some.injEq, Prod.mk.injEq] at h
        obtain ⟨_, rfl⟩ := h
        exact .set (by simp [refsA])
      · cases h
    · split at h
      · simp only [Option.some.injEq, Prod.mk.injEq] at h
        obtain ⟨_, rfl⟩ := h
        exact .refl _ _
      · cases h
    · cases h
  · cases h
theorem freezeAll_leaves : ∀ {l : List AV} {H H' : Hp} {xs : List IV}, freezeAll H l = some (xs, H') → Leaves H H' (refsL l)
  | [], H, H', xs, h => by simp only [freezeAll, Option.some.injEq, Prod.mk.injEq] at h; obtain ⟨_, rfl⟩ := h; exact .refl _ _
  | a :: l, H, H', xs, h => by
    simp only [freezeAll] at h
    split at h
    · rename_i x H1 h1
      split at h
      · rename_i ys H2 h2
        simp only [Option.some.injEq, Prod.mk.injEq] at h
        obtain ⟨_, rfl⟩ := h
        exact ((freeze_leaves h1).mono (by simp [refsL]; exact fun c hc => .inl hc)).trans ((freezeAll_leaves h2).mono (by simp [refsL]; exact fun c hc => .inr hc))
      · cases h
    · cases h
theorem prep_leaves : ∀ {l as : List AV} {H H' : Hp}, prep H l = some (as, H') → Leaves H H' (refsL l)
  | [], as, H, H', h => by simp only [prep, Option.some.injEq, Prod.mk.injEq] at h; obtain ⟨_, rfl⟩ := h; exact .refl _ _
  | a :: l, as, H, H', h => by
    have rest : ∀ {as H'}, prep H l = some (as, H') → Leaves H H' (refsL (a :: l)) := fun h => (prep_leaves h).mono (by simp [refsL]; exact fun c hc => .inr hc)
    cases a with
    | ref c g off len =>
      simp only [prep] at h
      split at h
      · rename_i x H1 h1
        split at h
        · rename_i as2 H2 h2
          simp only [Option.some.injEq, Prod.mk.injEq] at h
          obtain ⟨_, rfl⟩ := h
          exact ((freeze_leaves h1).mono (by simp [refsL]; exact fun c hc => .inl hc)).trans ((prep_leaves h2).mono (by simp [refsL]; exact fun c hc => .inr hc))
        · cases h
      · cases h
    | agg cells =>
      simp only [prep] at h
      split at h
      · rename_i xs H1 h1
        split at h
        · rename_i as2 H2 h2
          simp only [Option.some.injEq, Prod.mk.injEq] at h
          obtain ⟨_, rfl⟩ := h
          exact ((freezeAll_leaves h1).mono (by simp [refsL, refsA]; exact fun c hc => .inl hc)).trans ((prep_leaves h2).mono (by simp [refsL]; exact fun c hc => .inr hc))
        · cases h
      · split at h
        · rename_i as2 H2 h2
          simp only [Option.some.injEq, Prod.mk.injEq] at h
          obtain ⟨_, rfl⟩ := h
          exact rest h2
        · cases h
    | dead | i | ptr | clo | tup =>
      simp only [prep] at h
      split at h
      · rename_i as2 H2 h2
        simp only [Option.some.injEq, Prod.mk.injEq] at h
        obtain ⟨_, rfl⟩ := h
        exact rest h2
      · cases h
theorem matV_app (z : Nat) (H : Hp) (a : AV) : ∃ x, (matV z H a).2 = H ++ x := by
  unfold matV; split
  · exact ⟨_, rfl⟩
  · exact ⟨[], by simp⟩
theorem mat1_app (k : List (Option Nat)) (H : Hp) (a : AV) : ∃ x, (mat1 k H a).2 = H ++ x := by
  unfold mat1; split
  · exact matV_app _ _ _
  · exact ⟨[], by simp⟩
theorem matL_app : ∀ (ks : List (List (Option Nat))) (l : List AV) (H : Hp), ∃ x, (matL ks l H).2 = H ++ x
  | [], l, H => ⟨[], by simp [matL]⟩
  | k :: ks, [], H => ⟨[], by simp [matL]⟩
  | k :: ks, a :: l, H => by
    obtain ⟨x, hx⟩ := mat1_app k H a
    obtain ⟨y, hy⟩ := matL_app ks l (mat1 k H a).2
    exact ⟨x ++ y, by simp only [matL]; rw [hy, hx, List.append_assoc]⟩
theorem prepE_leaves {f : FuncId} {l as : List AV} {H H' : Hp} (h : prepE E f H l = some (as, H')) : Leaves H H' (refsL l) := by
  unfold prepE at h
  split at h
  · simp only [Option.some.injEq] at h
    obtain ⟨x, hx⟩ := matL_app (E.argk f) l H
    rw [h] at hx
    simp only at hx
    rw [hx]; exact .app _ _ _
  · split at h
    · rename_i as2 H2 h2
      simp only [Option.some.injEq, Prod.mk.injEq] at h
      obtain ⟨_, rfl⟩ := h
      exact prep_leaves h2
    · cases h
theorem iso_leaves {f : FuncId} {args : List AV} {H H' : Hp} {r : AV} (h : callIso E cl f args H = some (r, H')) : Leaves H H' (calleeR E f args H) := by
  unfold callIso at h
  unfold calleeR
  split at h
  · cases h
  · rename_i args1 H1 hp
    rw [hp]
    show Leaves H H' (refsL args ++ reach H1 64 (refsL args1) [])
    have h1 : Leaves H H1 (refsL args ++ reach H1 64 (refsL args1) []) := by
      exact (prepE_leaves hp).mono (by intro c hc; simp [hc])
    split at h
    · simp only [Option.map_eq_some_iff, Prod.mk.injEq] at h
      obtain ⟨_, _, _, rfl⟩ := h
      exact h1
    · simp only at h
      split at h
      · cases h
      · rename_i r0 L hL
        split at h
        · cases h
        · rename_i hlen
          simp only [Option.some.injEq, Prod.mk.injEq] at h
          obtain ⟨_, rfl⟩ := h
          obtain ⟨hRn, hRl⟩ := reach_ok H1 64 (refsL args1) [] (by simp) (by simp)
          generalize reach H1 64 (refsL args1) [] = R at *
          refine h1.trans ⟨?_, fun c hc hT => ?_⟩
          · rw [List.length_append, setAll_length]; exact Nat.le_add_right _ _
          rw [List.getElem?_append_left (by rw [setAll_length]; exact hc), setAll_get _ _ _ hRn (by simp; omega) hRl]
          have : posIn R c = none := by
            cases hp : posIn R c with
            | none => rfl
            | some i => exact absurd (List.mem_of_getElem? (posIn_some hp)) (fun hm => hT (by simp [hm]))
          rw [this]
theorem evH_leaves {fr : Fr} {H H' : Hp} {op : Op} {v : AV} (h : evH E fr H op = some (v, H')) : Leaves H H' (touch E fr H op) := by
  cases op <;> simp only [evH] at h <;> (try (cases h; done))
  case alloc e =>
    split at h
    · split at h
      · simp only [Option.some.injEq, Prod.mk.injEq] at h; obtain ⟨_, rfl⟩ := h; exact .app _ _ _
      · cases h
    · cases h
  case box t x =>
    split at h
    · simp only [Option.some.injEq, Prod.mk.injEq] at h; obtain ⟨_, rfl⟩ := h; exact .app _ _ _
    · cases h
  case buildSlice t n ps =>
    simp only [touch, buildRefs]
    unfold buildSliceE at h
    split at h
    · rename_i e he
      split at h
      · rename_i z zero hz hzero
        split at h
        · split at h
          · rename_i cells hc
            split at h
            · rename_i xs H1 hf
              simp only [Option.some.injEq, Prod.mk.injEq] at h; obtain ⟨_, rfl⟩ := h
              exact (freezeAll_leaves hf).trans (.app _ _ _)
            · cases h
          · cases h
        · cases h
      · cases h
    · cases h
  case store t a x =>
    simp only [Option.map_eq_some_iff, Prod.mk.injEq] at h
    obtain ⟨H1, h1, _, rfl⟩ := h
    simp only [touch]
    unfold storeE at h1
    split at h1
    · split at h1
      · split at h1
        · rename_i c g r k hp
          rw [hp]
          split at h1
          · split at h1
            · simp only [Option.some.injEq] at h1; subst h1; exact .set (by simp [refsA])
            · cases h1
          · split at h1
            · rename_i xs H2 hf
              split at h1
              · split at h1
                · split at h1
                  · simp only [Option.some.injEq] at h1; subst h1
                    refine ((freezeAll_leaves hf).mono fun c hc => ?_).trans (.set (by simp [refsA]))
                    have : refsL (cellsA (opd E fr x)) = refsA (opd E fr x) := by
                      cases opd E fr x <;> simp [cellsA, refsL, refsA]
                    rw [this] at hc; simp [hc]
                  · cases h1
                · cases h1
              · cases h1
            · cases h1
          · cases h1
        · cases h1
      · cases h1
    · cases h1
  case convert s d x =>
    split at h
    · split at h
      · simp only [Option.some.injEq, Prod.mk.injEq] at h; obtain ⟨_, rfl⟩ := h; exact .app _ _ _
      · cases h
    · cases h
  case range t x =>
    split at h
    · split at h
      · simp only [Option.some.injEq, Prod.mk.injEq] at h; obtain ⟨_, rfl⟩ := h; exact .app _ _ _
      · cases h
    · cases h
  case next it b =>
    split at h
    · rename_i c g r hx
      split at h
      · split at h
        · simp only [Option.some.injEq, Prod.mk.injEq] at h; obtain ⟨_, rfl⟩ := h
          exact .set (by simp [touch, hx, refsA])
        · simp only [Option.some.injEq, Prod.mk.injEq] at h; obtain ⟨_, rfl⟩ := h; exact .refl _ _
      · cases h
    · cases h
  case makeSlice t l c =>
    unfold makeSliceE at h
    split at h
    · split at h
      · split at h
        · simp only [Option.some.injEq, Prod.mk.injEq] at h; obtain ⟨_, rfl⟩ := h; exact .app _ _ _
        · cases h
      · cases h
    · cases h
  case call c =>
    obtain ⟨callee, args, tys⟩ := c
    cases callee with
    | value f => cases h
    | invoke r m => cases h
    | builtin b =>
      simp only at h
      split at h
      · rename_i s x t t2 hargs htys
        simp only [touch, hargs]
        unfold appendE at h
        split at h
        · split at h
          · split at h
            · split at h
              · split at h
                · simp only [Option.some.injEq, Prod.mk.injEq] at h; obtain ⟨_, rfl⟩ := h; exact .app _ _ _
                · cases h
              · rename_i c g off len hs
                split at h
                · split at h
                  · simp only [Option.some.injEq, Prod.mk.injEq] at h; obtain ⟨_, rfl⟩ := h
                    exact .set (by simp [hs, refsL, refsA])
                  · cases h
                · split at h
                  · simp only [Option.some.injEq, Prod.mk.injEq] at h; obtain ⟨_, rfl⟩ := h; exact .app _ _ _
                  · cases h
                · cases h
              · cases h
            · cases h
          · cases h
        · cases h
      · cases h
theorem evOp_leaves {fr : Fr} {H H' : Hp} {op : Op} {v : AV} (h : evOp E cl op fr H = some (v, H')) : Leaves H H' (touch E fr H op) := by
  unfold evOp at h
  split at h
  · rename_i f args tys
    simp only [touch]
    split at h
    · rename_i g as hg
      split at h
      · exact iso_leaves h
      · cases h
    · cases h
  · split at h
    · exact evH_leaves h
    · simp only [Option.map_eq_some_iff, Prod.mk.injEq] at h
      obtain ⟨_, _, _, rfl⟩ := h
      exact .refl _ _
end
end Go.VI
