/- VI, part 10: a call on the callee's own numbering stands for a call. -/
import Derived.Test.YtcifhkdbaienjaaVI9
set_option linter.unusedSimpArgs false
set_option linter.unusedVariables false
namespace Go.VI

/-! renaming -/
theorem renL_map (ρ : Nat → Option Nat) : ∀ l : List AV, renL ρ l = l.map (renA ρ)
  | [] => by simp [renL]
  | a :: l => by simp [renL, renL_map ρ l]
/-- the chunks that are renamed are the same ones -/
def RenOK (ρ : Nat → Option Nat) (η : Eta) (H : Hp) (η' : Eta) (H' : Hp) : Prop :=
  ∀ c c', ρ c = some c' → c' < H'.length ∧ η' c' = η c ∧ H'[c']? = (H[c]?).map (Chunk.ren ρ)
theorem ren_sl {ρ : Nat → Option Nat} {x : Option Chunk} {sz g : Nat} {rows : List (List IV)} {ex : Bool} (h : x.map (Chunk.ren ρ) = some (.sl sz g rows ex)) : x = some (.sl sz g rows ex) := by
  cases x with
  | none => simp at h
  | some y => cases y <;> simp [Chunk.ren] at h <;> simp [h]
theorem ren_fz {ρ : Nat → Option Nat} {x : Option Chunk} {sz g : Nat} {rows : List (List IV)} {ex : Bool} (h : x.map (Chunk.ren ρ) = some (.fz sz g rows ex)) : x = some (.fz sz g rows ex) := by
  cases x with
  | none => simp at h
  | some y => cases y <;> simp [Chunk.ren] at h <;> simp [h]
theorem ren_iter {ρ : Nat → Option Nat} {x : Option Chunk} {s : List UInt8} {p : Nat} (h : x.map (Chunk.ren ρ) = some (.iter s p)) : x = some (.iter s p) := by
  cases x with
  | none => simp at h
  | some y => cases y <;> simp [Chunk.ren] at h <;> simp [h]
theorem ren_box {ρ : Nat → Option Nat} {x : Option Chunk} {cells : List AV} (h : x.map (Chunk.ren ρ) = some (.box cells)) : ∃ cells0, x = some (.box cells0) ∧ cells = renL ρ cells0 := by
  cases x with
  | none => simp at h
  | some y => cases y <;> simp [Chunk.ren] at h <;> simp [h]

section
variable {E : Env} {I : Imm} {η : Eta} {H : Hp} {w : World}
theorem ren_ok {ρ : Nat → Option Nat} {η' : Eta} {H' : Hp} (hρ : RenOK ρ η H η' H') {a : AV} {v : Value} (r : RelA I η H a v) : RelA I η' H' (renA ρ a) v := by
  induction r with
  | dead v => exact .dead v
  | i x v h => simp only [renA]; exact .i x v h
  | agg cells cs hl _ ih =>
    simp only [renA, renL_map]
    refine .agg _ _ (by simpa using hl) fun k a ha => ?_
    simp only [List.getElem?_map, Option.map_eq_some_iff] at ha
    obtain ⟨b, hb, rfl⟩ := ha
    exact ih k b hb
  | clo fn first caps fs cs hl hm _ _ ih1 ih2 =>
    simp only [renA, renL_map]
    refine .clo _ _ _ _ _ (by simpa using hl) (by simpa using hm) (fun k a ha => ?_) (fun k a ha => ?_)
    · simp only [List.getElem?_map, Option.map_eq_some_iff] at ha
      obtain ⟨b, hb, rfl⟩ := ha
      exact ih1 k b hb
    · simp only [List.getElem?_map, Option.map_eq_some_iff] at ha
      obtain ⟨b, hb, rfl⟩ := ha
      exact ih2 k b hb
  | tup vs xs hl _ ih =>
    simp only [renA, renL_map]
    refine .tup _ _ (by simpa using hl) fun k a ha => ?_
    simp only [List.getElem?_map, Option.map_eq_some_iff] at ha
    obtain ⟨b, hb, rfl⟩ := ha
    exact ih k b hb
  | ref c g off len v hc hs hf hp hg =>
    simp only [renA]
    cases h : ρ c with
    | none => exact .dead v
    | some c' =>
      obtain ⟨h1, h2, h3⟩ := hρ c c' h
      refine .ref c' g off len v h1 (fun sz rows ex hH => ?_) (fun sz rows ex hH => ?_) hp (fun sz g' rows ex hH => ?_)
      · rw [h3] at hH
        have := hs _ _ _ (ren_sl hH)
        unfold RefOk at *
        rw [h2]; exact this
      · rw [h3] at hH; exact hf _ _ _ (ren_fz hH)
      · rw [h3] at hH; exact hg _ _ _ _ (ren_sl hH)
  | ptr c g r k v hc hb hs hf hi hp hg =>
    simp only [renA]
    cases h : ρ c with
    | none => exact .dead v
    | some c' =>
      obtain ⟨h1, h2, h3⟩ := hρ c c' h
      refine .ptr c' g r k v h1 (fun cells hH => ?_) (fun sz rows ex hH => ?_) (fun sz rows ex row hH hr => ?_) (fun s p hH => ?_) hp (fun sz g' rows ex hH => ?_)
      · rw [h3] at hH
        obtain ⟨c0, hc0, _⟩ := ren_box hH
        rw [h2]; exact hb _ hc0
      · rw [h3] at hH; rw [h2]; exact hs _ _ _ (ren_sl hH)
      · rw [h3] at hH; exact hf _ _ _ _ (ren_fz hH) hr
      · rw [h3] at hH; rw [h2]; exact hi _ _ (ren_iter hH)
      · rw [h3] at hH; exact hg _ _ _ _ (ren_sl hH)
theorem ren_chunk {ρ : Nat → Option Nat} {η' : Eta} {H' : Hp} (hρ : RenOK ρ η H η' H') {c c' : Nat} (he : η' c' = η c) {x : Chunk} (h : ChunkOK I η H w c x) : ChunkOK I η' H' w c' (Chunk.ren ρ x) := by
  cases x with
  | box cells =>
    obtain ⟨b, cs, elem, fz, h1, h2, h3, h4, h5⟩ := h
    refine ⟨b, cs, elem, fz, by rw [he]; exact h1, h2, h3, by rw [renL_map]; simpa using h4, fun k a ha => ?_⟩
    rw [renL_map] at ha
    simp only [List.getElem?_map, Option.map_eq_some_iff] at ha
    obtain ⟨b, hb, rfl⟩ := ha
    exact ren_ok hρ (h5 k b hb)
  | sl sz g rows ex =>
    obtain ⟨h1, h2, h3⟩ := h
    refine ⟨fun e => he.trans (h1 e), h2, ?_⟩
    rcases h3 with ⟨h4, h5⟩ | ⟨b, cs, elem, fz, h4, h5⟩
    · exact .inl ⟨by rw [he]; exact h4, h5⟩
    · exact .inr ⟨b, cs, elem, fz, by rw [he]; exact h4, h5⟩
  | fz sz g rows ex => exact (he.trans h : η' c' = none)
  | iter s p =>
    obtain ⟨b, h1, h2⟩ := h
    exact ⟨b, by rw [he]; exact h1, h2⟩

/-! lists of numbers -/
theorem posIn_some : ∀ {R : List Nat} {c i : Nat}, posIn R c = some i → R[i]? = some c
  | [], c, i, h => by simp [posIn] at h
  | d :: R, c, i, h => by
    simp only [posIn] at h
    split at h
    · rename_i e; cases h; simp [e]
    · simp only [Option.map_eq_some_iff] at h
      obtain ⟨j, hj, rfl⟩ := h
      simpa using posIn_some hj
theorem posIn_get : ∀ {R : List Nat} {c i : Nat}, R.Nodup → R[i]? = some c → posIn R c = some i
  | [], c, i, _, h => by simp at h
  | d :: R, c, 0, hn, h => by simp at h; simp [posIn, h]
  | d :: R, c, i + 1, hn, h => by
    simp only [List.getElem?_cons_succ] at h
    have hm := List.mem_of_getElem? h
    have hne : c ≠ d := fun e => by subst e; exact (List.nodup_cons.1 hn).1 hm
    simp [posIn, hne, posIn_get (List.nodup_cons.1 hn).2 h]
theorem posIn_none {R : List Nat} {c : Nat} (h : posIn R c = none) : c ∉ R := by
  induction R with
  | nil => simp
  | cons d R ih =>
    simp only [posIn] at h
    split at h
    · cases h
    · rename_i hne
      simp only [Option.map_eq_none_iff] at h
      simp [hne, ih h]
theorem reach_ok (H : Hp) : ∀ (n : Nat) (l seen : List Nat), seen.Nodup → (∀ c ∈ seen, c < H.length) → (reach H n l seen).Nodup ∧ ∀ c ∈ reach H n l seen, c < H.length
  | 0, l, seen, h1, h2 => by simp only [reach]; exact ⟨h1, h2⟩
  | n + 1, [], seen, h1, h2 => by simp only [reach]; exact ⟨h1, h2⟩
  | n + 1, c :: r, seen, h1, h2 => by
    simp only [reach]
    split
    · exact reach_ok H n r seen h1 h2
    · rename_i hc
      simp only [not_or, Nat.not_le] at hc
      refine reach_ok H n _ _ ?_ ?_
      · rw [List.nodup_append]
        exact ⟨h1, by simp, fun a ha b hb => by simp at hb; subst hb; exact fun e => hc.1 (e ▸ ha)⟩
      · intro d hd
        simp at hd
        rcases hd with hd | rfl
        · exact h2 d hd
        · exact hc.2
theorem setAll_length : ∀ (R : List Nat) (xs : List Chunk) (H : Hp), (setAll H R xs).length = H.length
  | [], xs, H => by cases xs <;> rfl
  | c :: R, [], H => rfl
  | c :: R, x :: xs, H => by simp only [setAll]; rw [setAll_length R xs]; simp
theorem setAll_get : ∀ (R : List Nat) (xs : List Chunk) (H : Hp), R.Nodup → xs.length = R.length → (∀ c ∈ R, c < H.length) → ∀ c, (setAll H R xs)[c]? = match posIn R c with | some i => xs[i]? | none => H[c]?
  | [], xs, H, _, _, _, c => by cases xs <;> simp [setAll, posIn]
  | d :: R, [], H, _, h, _, c => by simp at h
  | d :: R, x :: xs, H, hn, hl, hlt, c => by
    simp only [setAll]
    rw [setAll_get R xs (H.set d x) (List.nodup_cons.1 hn).2 (by simpa using hl) (fun c hc => by simpa using hlt c (by simp [hc])) c]
    simp only [posIn]
    by_cases hcd : c = d
    · subst hcd
      have : posIn R c = none := by
        cases h : posIn R c with
        | none => rfl
        | some i => exact absurd (List.mem_of_getElem? (posIn_some h)) (List.nodup_cons.1 hn).1
      rw [this]
      have hlc := hlt c (by simp)
      simp [hlc]
    · simp only [hcd, if_false]
      cases h : posIn R c with
      | none => simp [List.getElem?_set_ne (Ne.symm hcd)]
      | some i => simp

/-! calls -/
def ArgsOK (I : Imm) (η : Eta) (H : Hp) (args : List AV) (vs : Array Value) : Prop := vs.size = args.length ∧ ∀ (k : Nat) (a : AV), args[k]? = some a → RelA I η H a (vs.getD k undef)
/-- what a call of the interpreter stands for -/
def CallOK (E : Env) (cl : CallF) : Prop := ∀ f args H r H', cl f args H = some (r, H') → ∀ I η w vs, Conc E I η H w → ArgsOK I η H args vs →
  Calls E.P f vs w fun e w' => ∃ x, e = .returned x ∧ After E I η H w H' w' fun I' η' => RelA I' η' H' r x
/-- the functions that are taken by a contract -/
def ExtOK (E : Env) : Prop := ∀ f h, E.ext f = some h → ∀ args r, h args = some r → ∀ I η H w vs, Conc E I η H w → ArgsOK I η H args vs →
  Calls E.P f vs w fun e w' => ∃ x, e = .returned x ∧ After E I η H w H w' fun I' η' => RelA I' η' H r x

theorem prep_ok : ∀ {I : Imm} {η : Eta} {H : Hp} (hC : Conc E I η H w) {args args1 : List AV} {H1 : Hp} (f : Nat → Value), prep H args = some (args1, H1) → (∀ (k : Nat) (a : AV), args[k]? = some a → RelA I η H a (f k)) →
    After E I η H w H1 w fun I' η' => args1.length = args.length ∧ ∀ (k : Nat) (a : AV), args1[k]? = some a → RelA I' η' H1 a (f k)
  | I, η, H, hC, [], args1, H1, f, h, r => by
    simp only [prep, Option.some.injEq, Prod.mk.injEq] at h
    obtain ⟨rfl, rfl⟩ := h
    exact After.refl hC ⟨rfl, fun k a h => by simp at h⟩
  | I, η, H, hC, a :: l, args1, H1, f, h, r => by
    have rest : ∀ {as : List AV} {H2 : Hp}, prep H l = some (as, H2) → After E I η H w H2 w fun I' η' => as.length = l.length ∧ ∀ (k : Nat) (b : AV), as[k]? = some b → RelA I' η' H2 b (f (k + 1)) :=
      fun h => prep_ok hC (fun k => f (k + 1)) h (fun k b hb => r (k + 1) b (by simpa using hb))
    have other : ∀ {as : List AV} {H2 : Hp}, prep H l = some (as, H2) → args1 = a :: as → H1 = H2 → After E I η H w H1 w fun I' η' => args1.length = (a :: l).length ∧ ∀ (k : Nat) (b : AV), args1[k]? = some b → RelA I' η' H1 b (f k) := by
      intro as H2 h e1 e2
      subst e1 e2
      refine (rest h).imp fun I' η' _ hm hq => ⟨by simp [hq.1], fun k b hb => ?_⟩
      cases k with
      | zero => simp at hb; subst hb; exact hm _ _ (r 0 a rfl)
      | succ k => exact hq.2 k b (by simpa using hb)
    cases a with
    | ref c g off len =>
      simp only [prep] at h
      split at h
      · rename_i x H2 h1
        split at h
        · rename_i as H3 h2
          simp only [Option.some.injEq, Prod.mk.injEq] at h
          obtain ⟨rfl, rfl⟩ := h
          refine (freeze_ok hC (r 0 _ rfl) h1).trans fun I1 η1 hC1 _ hm hx => ?_
          refine (prep_ok hC1 (fun k => f (k + 1)) h2 (fun k b hb => hm _ _ (r (k + 1) b (by simpa using hb)))).imp fun I2 η2 hI hm2 hq => ⟨by simp [hq.1], fun k b hb => ?_⟩
          cases k with
          | zero => simp at hb; subst hb; exact .i _ _ (hx.mono hI)
          | succ k => exact hq.2 k b (by simpa using hb)
        · cases h
      · cases h
    | agg cells =>
      simp only [prep] at h
      split at h
      · rename_i xs H2 h1
        split at h
        · rename_i as H3 h2
          simp only [Option.some.injEq, Prod.mk.injEq] at h
          obtain ⟨rfl, rfl⟩ := h
          have r0 := r 0 _ rfl
          have hv : ∃ cs : Array Value, f 0 = .agg cs ∧ cs.size = cells.length ∧ ∀ (k : Nat) (a : AV), cells[k]? = some a → RelA I η H a (cs.getD k undef) := by
            generalize f 0 = v at r0
            cases r0 with
            | agg _ cs hl h => exact ⟨cs, rfl, hl, h⟩
          obtain ⟨cs, hf0, hl, hcs⟩ := hv
          refine (freezeAll_ok hC (fun k => cs.getD k undef) hcs h1).trans fun I1 η1 hC1 _ hm hx => ?_
          refine (prep_ok hC1 (fun k => f (k + 1)) h2 (fun k b hb => hm _ _ (r (k + 1) b (by simpa using hb)))).imp fun I2 η2 hI hm2 hq => ⟨by simp [hq.1], fun k b hb => ?_⟩
          cases k with
          | zero =>
            simp at hb; subst hb
            rw [hf0]
            refine .agg _ _ (by simp [ivs, hx.1, hl]) fun k a ha => ?_
            simp only [ivs, List.getElem?_map, Option.map_eq_some_iff] at ha
            obtain ⟨x, hx1, rfl⟩ := ha
            exact .i _ _ ((hx.2 k x hx1).mono hI)
          | succ k => exact hq.2 k b (by simpa using hb)
        · cases h
      · split at h
        · rename_i as H2 h1
          simp only [Option.some.injEq, Prod.mk.injEq] at h
          exact other h1 h.1.symm h.2.symm
        · cases h
    | dead | i | ptr | clo | tup =>
      simp only [prep] at h
      split at h
      · rename_i as H2 h1
        simp only [Option.some.injEq, Prod.mk.injEq] at h
        exact other h1 h.1.symm h.2.symm
      · cases h
theorem canC_len : ∀ (ks : List (Option Nat)) (l : List AV), (canC ks l).length = l.length
  | [], l => rfl
  | k :: ks, [] => rfl
  | k :: ks, a :: l => by cases a <;> simp [canC, canC_len ks l]
theorem canC_get : ∀ (ks : List (Option Nat)) (l : List AV) (i : Nat) (y : AV), (canC ks l)[i]? = some y → ∃ x, l[i]? = some x ∧ (y = x ∨ ∃ k z, x = .i z ∧ y = .i (canI k z))
  | [], l, i, y, h => ⟨y, h, .inl rfl⟩
  | k :: ks, [], i, y, h => by simp [canC] at h
  | k :: ks, a :: l, 0, y, h => by
    cases a <;> simp [canC] at h <;> subst h
    case i z => exact ⟨_, rfl, .inr ⟨k, z, rfl, rfl⟩⟩
    all_goals exact ⟨_, rfl, .inl rfl⟩
  | k :: ks, a :: l, i + 1, y, h => by
    have : (canC ks l)[i]? = some y := by cases a <;> simpa [canC] using h
    simpa using canC_get ks l i y this
theorem canA_ok {ks : List (Option Nat)} {a : AV} {v : Value} (r : RelA I η H a v) : RelA I η H (canA ks a) v := by
  cases r with
  | i x v h => exact .i _ _ (canI_ok h)
  | agg cells cs hl h =>
    refine .agg _ _ (by rw [canC_len]; exact hl) fun k a ha => ?_
    obtain ⟨x, hx, rfl | ⟨k', z, rfl, rfl⟩⟩ := canC_get _ _ _ _ ha
    · exact h k _ hx
    · exact .i _ _ (canI_ok (relA_i (h k _ hx)))
  | dead v => exact .dead v
  | ref c g o n v h1 h2 h3 h4 h5 => exact .ref c g o n v h1 h2 h3 h4 h5
  | ptr c g r k v h1 h2 h3 h4 h5 h6 h7 => exact .ptr c g r k v h1 h2 h3 h4 h5 h6 h7
  | clo fn a b fs cs h1 h2 h3 h4 => exact .clo fn a b fs cs h1 h2 h3 h4
  | tup vs xs hl h => exact .tup vs xs hl h
theorem canLs_len : ∀ (ks : List (List (Option Nat))) (l : List AV), (canLs ks l).length = l.length
  | [], l => rfl
  | k :: ks, [] => rfl
  | k :: ks, a :: l => by simp [canLs, canLs_len ks l]
theorem canLs_ok : ∀ (ks : List (List (Option Nat))) (l : List AV) (f : Nat → Value), (∀ (k : Nat) (a : AV), l[k]? = some a → RelA I η H a (f k)) → ∀ (k : Nat) (a : AV), (canLs ks l)[k]? = some a → RelA I η H a (f k)
  | [], l, f, h => h
  | k :: ks, [], f, h => h
  | k0 :: ks, b :: l, f, h => fun k a ha => by
    cases k with
    | zero => simp [canLs] at ha; subst ha; exact canA_ok (h 0 b rfl)
    | succ k => exact canLs_ok ks l (fun k => f (k + 1)) (fun k a h' => h (k + 1) a (by simpa using h')) k a (by simpa [canLs] using ha)
/-- a nil slice, told as an own empty one -/
theorem mono_new (hC : Conc E I η H w) (x : Chunk) : Mono I η H I η (H ++ [x]) := by
  refine mono_of (fun _ _ h => h) (by simp) fun c hc => ?_
  exact CStep.same (by rw [List.getElem?_append_left hc]) rfl
theorem matV_ok (hC : Conc E I η H w) {a : AV} {v : Value} (z : Nat) (r : RelA I η H a v) : After E I η H w (matV z H a).2 w fun I' η' => RelA I' η' (matV z H a).2 (matV z H a).1 v := by
  unfold matV
  split
  · rename_i sz
    have hm := mono_new hC (.sl z 0 [] false)
    have hη : η H.length = none := by
      cases h : η H.length with
      | none => rfl
      | some p => have := (hC.sep _ p.1 p.2 h).2.2; omega
    have hv : ∃ a, v = .slice a 0 0 := by
      have := relA_i r
      cases this with
      | nil _ _ a cap h => exact ⟨a, by rw [h rfl]⟩
      | sl _ _ _ b off cap cs elem fz cv hI hc hx hr h1 h2 => exact ⟨_, by rw [hx rfl]; rfl⟩
    obtain ⟨a, rfl⟩ := hv
    refine ⟨I, η, ⟨hC.imm, fun c x hx => ?_, hC.inj, fun c b n h => ?_, hC.glob⟩, Trans.refl _ _ _, hm, ?_⟩
    · by_cases hc : c < H.length
      · rw [List.getElem?_append_left hc] at hx
        exact (hC.ch c x hx).mono rfl (fun _ _ h => h) hm (fun _ _ _ => rfl)
      · have : c = H.length := by have := (List.getElem?_eq_some_iff.1 hx).1; simp at this; omega
        subst this
        simp at hx; subst hx
        exact ⟨fun _ => hη, fun i r h => by simp at h, .inl ⟨hη, rfl⟩⟩
    · have := hC.sep c b n h
      exact ⟨this.1, this.2.1, by simp; omega⟩
    · refine .ref _ _ _ _ _ (by simp) (fun sz2 rows2 ex2 h => ?_) (fun _ _ _ h => by simp at h) ⟨_, _, rfl⟩ (fun _ _ _ _ h => by omega)
      simp at h
      obtain ⟨rfl, rfl, rfl⟩ := h
      exact ⟨by simp, a, 0, rfl, .inl ⟨hη, rfl⟩⟩
  · exact After.refl hC r
theorem mat1_ok (hC : Conc E I η H w) {a : AV} {v : Value} (k : List (Option Nat)) (r : RelA I η H a v) : After E I η H w (mat1 k H a).2 w fun I' η' => RelA I' η' (mat1 k H a).2 (mat1 k H a).1 v := by
  unfold mat1
  split
  · exact matV_ok hC _ r
  · exact After.refl hC r
theorem matL_ok : ∀ {I : Imm} {η : Eta} (ks : List (List (Option Nat))) (l : List AV) {H : Hp} (hC : Conc E I η H w) (f : Nat → Value), (∀ (k : Nat) (a : AV), l[k]? = some a → RelA I η H a (f k)) →
    After E I η H w (matL ks l H).2 w fun I' η' => (matL ks l H).1.length = l.length ∧ ∀ (k : Nat) (a : AV), (matL ks l H).1[k]? = some a → RelA I' η' (matL ks l H).2 a (f k)
  | I, η, [], l, H, hC, f, h => by simp only [matL, true_and]; exact After.refl hC h
  | I, η, k0 :: ks, [], H, hC, f, h => by simp only [matL, true_and]; exact After.refl hC h
  | I, η, k0 :: ks, b :: l, H, hC, f, h => by
    simp only [matL]
    refine (mat1_ok hC k0 (h 0 b rfl)).trans fun I1 η1 hC1 _ hm hx => ?_
    refine (matL_ok ks l hC1 (fun k => f (k + 1)) (fun k a h' => hm _ _ (h (k + 1) a (by simpa using h')))).imp fun I' η' _ hm2 hq => ⟨by simp [hq.1], fun k a ha => ?_⟩
    cases k with
    | zero => simp at ha; subst ha; exact hm2 _ _ hx
    | succ k => exact hq.2 k a (by simpa using ha)
theorem prepE_ok (hC : Conc E I η H w) {g : FuncId} {args args1 : List AV} {H1 : Hp} (f : Nat → Value) (h : prepE E g H args = some (args1, H1)) (r : ∀ (k : Nat) (a : AV), args[k]? = some a → RelA I η H a (f k)) :
    After E I η H w H1 w fun I' η' => args1.length = args.length ∧ ∀ (k : Nat) (a : AV), args1[k]? = some a → RelA I' η' H1 a (f k) := by
  unfold prepE at h
  split at h
  · simp only [Option.some.injEq] at h
    have := matL_ok (E.argk g) args hC f r
    rw [h] at this; exact this
  · split at h
    · rename_i as H2 hp
      simp only [Option.some.injEq, Prod.mk.injEq] at h
      obtain ⟨rfl, rfl⟩ := h
      exact (prep_ok hC f hp r).imp fun I' η' _ _ hq => ⟨by rw [canLs_len]; exact hq.1, canLs_ok _ _ f hq.2⟩
    · cases h
end
end Go.VI
