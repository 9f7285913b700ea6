/- VI, part 5: slicing, composites, and the light operations' theorem. -/
import Derived.Test.YtcifhkdbaienjaaVI4
set_option linter.unusedSimpArgs false
set_option linter.unusedVariables false
namespace Go.VI
section
variable {E : Env} {I : Imm} {η : Eta} {H : Hp} {w : World}

/-- an operand that may be absent -/
inductive RelO (I : Imm) (η : Eta) (H : Hp) : Option AV → Option Value → Prop
  | none : RelO I η H none none
  | some (a : AV) (v : Value) (h : RelA I η H a v) : RelO I η H (some a) (some v)
theorem relO_map {fr : Fr} {a : Act} (hC : Conc E I η H w) (hf : FrOK I η H fr a.tmps) (x : Option Operand) : RelO I η H (x.map (opd E fr)) (x.map a.eval) := by
  cases x with
  | none => exact .none
  | some x => exact .some _ _ (opd_ok hC hf x)

theorem bnd_some {P : Program} {d l : Nat} {o : AV} {v : Value} (h : bnd d (some o) = some l) (r : RelA I η H o v) (y : Nat) (code : BoundsCode) (hl : l ≤ y) : (Instr.sliceBound v y code).run P w = .ok l w := by
  unfold bnd at h
  split at h
  · rename_i h'; cases h'
  · rename_i k n h'
    cases h'
    split at h
    · rename_i hn; cases h
      rw [relA_v r]
      have : n ≤ y := by omega
      simp [Instr.sliceBound, asIntOf, hn, this]
    · cases h
  · cases h
theorem bounds_ok {P : Program} {isS : Bool} {len cap l h : Nat} {lo hi : Option AV} {lo' hi' : Option Value} (hlo : bnd 0 lo = some l) (hhi : bnd len hi = some h)
    (rl : RelO I η H lo lo') (rh : RelO I η H hi hi') (hlh : l ≤ h) (hc : h ≤ cap) :
    (Instr.sliceBounds isS len cap lo' hi' none).run P w = .ok (l, h, cap) w := by
  cases rl with
  | none =>
    simp only [bnd, Option.some.injEq] at hlo
    cases rh with
    | none => simp only [bnd, Option.some.injEq] at hhi; simp [Instr.sliceBounds, hlo, hhi]
    | some a v r => simp [Instr.sliceBounds, hlo, bnd_some hhi r _ _ hc]
  | some b u s =>
    cases rh with
    | none => simp only [bnd, Option.some.injEq] at hhi; subst hhi; simp [Instr.sliceBounds, bnd_some hlo s _ _ hlh]
    | some a v r => simp [Instr.sliceBounds, bnd_some hhi r _ _ hc, bnd_some hlo s _ _ hlh]
theorem bounds3_ok {P : Program} {len cap l h : Nat} {lo hi : Option AV} {m : AV} {lo' hi' : Option Value} {m' : Value} (hlo : bnd 0 lo = some l) (hhi : bnd len hi = some h) (hm : bnd 0 (some m) = some h)
    (rl : RelO I η H lo lo') (rh : RelO I η H hi hi') (rm : RelA I η H m m') (hlh : l ≤ h) (hc : h ≤ cap) (hn : hi.isSome = true) :
    (Instr.sliceBounds true len cap lo' hi' (some m')).run P w = .ok (l, h, h) w := by
  cases rh with
  | none => cases hn
  | some a v r =>
    cases rl with
    | none =>
      simp only [bnd, Option.some.injEq] at hlo
      simp [Instr.sliceBounds, hlo, bnd_some hm rm _ _ hc, bnd_some hhi r _ _ (Nat.le_refl h)]
    | some b u s => simp [Instr.sliceBounds, bnd_some hm rm _ _ hc, bnd_some hhi r _ _ (Nat.le_refl h), bnd_some hlo s _ _ hlh]

theorem extract_mk (s : List UInt8) (l h : Nat) : (⟨⟨s⟩⟩ : ByteArray).extract l h = ⟨⟨(s.drop l).take (h - l)⟩⟩ := by
  apply ByteArray.ext
  simp only [ByteArray.data_extract]
  apply Array.ext'
  simp [List.extract_eq_take_drop]

/-- a part of an immutable slice -/
theorem sl_part {sz l h m : Nat} {rows : List (List IV)} {ex ex' : Bool} {a : Option Addr} {n cap size : Nat} (r : RelI I (.sl sz rows ex) (.slice a n cap)) (hlh : l ≤ h) (hn : h ≤ rows.length) (hm : h ≤ m) (hmc : m ≤ cap)
    (hsz : rows = [] ∨ size = sz) (hex : ex' = true → m = h ∨ (ex = true ∧ h = rows.length ∧ m = cap)) :
    RelI I (.sl sz ((rows.drop l).take (h - l)) ex') (.slice (if m = l then a else a.map (·.add (l * size))) (h - l) (m - l)) := by
  have hex2 : ex' = true → m = h := by
    intro he
    rcases hex he with h1 | ⟨h1, h2, h3⟩
    · exact h1
    · cases r with
      | nil sz ex a cap hx => have := hx h1; omega
      | sl sz rows ex b off cap cs elem fz cv hI hc hx hr h4 h5 => have := hx h1; omega
  by_cases hh : h = l
  · subst hh
    have : (rows.drop h).take (h - h) = [] := by simp
    rw [this, Nat.sub_self]
    exact .nil _ _ _ _ (fun he => by have := hex2 he; omega)
  · have hl : l < h := by omega
    have hne : m ≠ l := by omega
    have hlen : ((rows.drop l).take (h - l)).length = h - l := by simp; omega
    cases r with
    | nil => simp at hn; omega
    | sl sz rows ex b off cap cs elem fz cv hI hc hx hr h1 h2 =>
      have hsz' : size = sz := by rcases hsz with e | e; · subst e; simp at hn; omega
                                  · exact e
      subst hsz'
      rw [if_neg hne]
      have gt : ∀ (i : Nat) (r : List IV), ((rows.drop l).take (h - l))[i]? = some r → rows[l + i]? = some r := by
        intro i r hi
        rw [List.getElem?_take] at hi
        split at hi
        · rwa [List.getElem?_drop] at hi
        · cases hi
      have := RelI.sl (I := I) size ((rows.drop l).take (h - l)) ex' b (off + l * size) (m - l) cs elem fz (fun i k => cv (l + i) k) hI (by omega) (fun he => by have := hex2 he; omega)
        (fun i r hi => hr _ _ (gt i r hi))
        (fun i r k a hi ha => by have := h1 _ _ _ _ (gt i r hi) ha; rw [← this]; congr 1; rw [Nat.add_mul]; omega)
        (fun i r k a hi ha => h2 _ _ _ _ (gt i r hi) ha)
      rw [hlen] at this
      simpa [add_none] using this

theorem slice_ok {t : TypeId} {x v : AV} {y : Value} {lo hi mx : Option AV} {lo' hi' mx' : Option Value} (h : sliceE E H t x lo hi mx = some v) (hC : Conc E I η H w) (r : RelA I η H x y)
    (rl : RelO I η H lo lo') (rh : RelO I η H hi hi') (rm : RelO I η H mx mx') :
    ∃ u, (Instr.sliceAt t y lo' hi' mx').run E.P w = .ok u w ∧ RelA I η H v u := by
  unfold sliceE at h
  split at h
  · cases h
  rename_i n hlen
  split at h
  rotate_left
  · cases h
  rename_i l hh hlo hhi
  split at h
  rotate_left
  · cases h
  rename_i hle
  obtain ⟨hl1, hl2⟩ := hle
  split at h
  · rename_i s
    split at h
    · rename_i hc
      cases h
      rw [relA_str r]
      cases rm with
      | some => simp at hc
      | none =>
        simp only [lenE, Option.some.injEq] at hlen
        refine ⟨.string ⟨⟨(s.drop l).take (hh - l)⟩⟩, ?_, relA_mkstr⟩
        have hu := isStrO_ok hc.2
        have hb := bounds_ok (P := E.P) (w := w) (isS := false) (cap := (⟨⟨s⟩⟩ : ByteArray).size) hlo (by rw [← hlen] at hhi; exact hhi) rl rh hl1 (by rw [size_mk]; omega)
        simp only [Instr.sliceAt, Sem.run_bind, run_underlying hu, Result.andThen_ok, Instr.slice, Option.isSome_none, Bool.false_eq_true, if_false, Sem.run_pure]
        rw [show (⟨⟨s⟩⟩ : ByteArray).size = s.length from rfl] at hb ⊢
        simp [hb, extract_mk]
    · cases h
  · rename_i sz rows ex
    split at h
    · rename_i e hs
      have hu := slO_ok hs
      simp only [lenE, Option.some.injEq] at hlen
      subst hlen
      have rI := relA_i r
      have hsh : ∃ a cap, y = .slice a rows.length cap ∧ rows.length ≤ cap := by
        cases rI with
        | nil sz ex a cap hx => exact ⟨a, cap, rfl, by simp⟩
        | sl sz rows ex b off cap cs elem fz cv hI hc hx hr h1 h2 => exact ⟨_, cap, rfl, hc⟩
      obtain ⟨a, cap, rfl, hcap⟩ := hsh
      split at h
      rotate_left
      · cases h
      rename_i size hz
      have hsz1 := (szO_ok hz w).1
      split at h
      · rename_i hsz2
        split at h
        · cases h
          cases rm with
          | none =>
            have hb := bounds_ok (P := E.P) (w := w) (isS := true) (cap := cap) hlo hhi rl rh hl1 (by omega)
            refine ⟨_, ?_, .i _ _ (sl_part (m := cap) (size := size) rI hl1 hl2 (by omega) (Nat.le_refl _) hsz2 fun he => ?_)⟩
            · simp [Instr.sliceAt, run_underlying hu, Instr.slice, hb, hsz1]
            · simp only [Bool.and_eq_true, decide_eq_true_eq] at he
              exact .inr ⟨he.1, he.2, rfl⟩
        · rename_i m
          split at h
          · rename_i m' hm
            split at h
            · rename_i hm2
              cases h
              obtain rfl := hm2.1
              cases rm with
              | some a' v' r' =>
                have hb := bounds3_ok (P := E.P) (w := w) (cap := cap) hlo hhi hm rl rh r' hl1 (by omega) hm2.2
                refine ⟨_, ?_, .i _ _ (sl_part (m := hh) (size := size) rI hl1 hl2 (Nat.le_refl _) (by omega) hsz2 fun _ => .inl rfl)⟩
                simp [Instr.sliceAt, run_underlying hu, Instr.slice, hb, hsz1]
            · cases h
          · cases h
      · cases h
    · cases h
  · rename_i c g off len
    simp only [lenE, Option.some.injEq] at hlen
    subst hlen
    split at h
    · rename_i e sz g' rows ex hs hH
      have hu := slO_ok hs
      split at h
      · rename_i hc
        obtain ⟨hmx, rfl, hz⟩ := hc
        cases h
        cases rm with
        | some => simp at hmx
        | none =>
        cases r with
        | ref c g off len v hcl hs' hf hp hg =>
          obtain ⟨hle, a, cap, rfl, hbk⟩ := hs' _ _ _ hH
          have hcap : len ≤ cap := by
            rcases hbk with ⟨he, hc0⟩ | ⟨b, m, he, h1, _, _⟩
            · obtain ⟨_, _, h3⟩ := hC.ch _ _ hH
              rcases h3 with ⟨_, h4⟩ | ⟨b, _, _, _, h4, _⟩
              · subst h4; simp at hle; omega
              · rw [he] at h4; cases h4
            · omega
          have hb := bounds_ok (P := E.P) (w := w) (isS := true) (cap := cap) hlo hhi rl rh hl1 (by omega)
          refine ⟨.slice (if cap = l then a else a.map (·.add (l * sz))) (hh - l) (cap - l), by simp [Instr.sliceAt, run_underlying hu, Instr.slice, hb, (szO_ok hz w).1], ?_⟩
          refine .ref c g (off + l) (hh - l) _ hcl ?_ ?_ ⟨_, _, rfl⟩ hg
          · intro sz2 rows2 ex2 h
            rw [hH] at h; cases h
            refine ⟨by omega, _, _, rfl, ?_⟩
            rcases hbk with ⟨he, hc0⟩ | ⟨b, m, he, h1, h2, h3⟩
            · exact .inl ⟨he, by omega⟩
            · refine .inr ⟨b, m, he, by omega, by rw [show off + l + (cap - l) = off + cap by omega]; exact h2, ?_⟩
              by_cases hcl' : cap = l
              · right; omega
              · rw [if_neg hcl']
                rcases h3 with rfl | ⟨h4, h5⟩
                · left; simp [add_none, Nat.add_mul]
                · right; omega
          · intro _ _ _ h; rw [hH] at h; cases h
      · cases h
    · rename_i e sz g' rows ex hs hH
      have hu := slO_ok hs
      split at h
      · rename_i hc
        obtain ⟨rfl, hz, hlr⟩ := hc
        cases r with
        | ref c g off len v hcl hs' hf hp hg =>
          obtain ⟨hle, rI⟩ := hf _ _ _ hH
          have hlen' : ((rows.drop off).take len).length = len := by simp; omega
          have hsh : ∃ a cap, y = .slice a len cap ∧ len ≤ cap := by
            cases hx : y with
            | slice a n cap =>
              rw [hx] at rI
              have : n = len ∧ len ≤ cap := by
                generalize hgen : (rows.drop off).take len = rs at rI hlen'
                cases rI with
                | nil sz ex a cap hx => simp at hlen'; omega
                | sl sz rows ex b off cap cs elem fz cv hI hc hx hr h1 h2 => omega
              exact ⟨a, cap, by rw [this.1], this.2⟩
            | _ => obtain ⟨a, m, h0⟩ := hp; rw [hx] at h0; cases h0
          obtain ⟨a, cap, rfl, hcap⟩ := hsh
          have e2 : (((rows.drop off).take len).drop l).take (hh - l) = (rows.drop (off + l)).take (hh - l) := by
            rw [List.drop_take, List.take_take, List.drop_drop]
            congr 1; omega
          split at h
          · cases h
            cases rm with
            | none =>
              have hb := bounds_ok (P := E.P) (w := w) (isS := true) (cap := cap) hlo hhi rl rh hl1 (by omega)
              have hp := sl_part (m := cap) (size := sz) (ex' := ex && decide (off + hh = rows.length)) rI hl1 (by omega) (by omega) (Nat.le_refl _) (.inr rfl) fun he => by
                simp only [Bool.and_eq_true, decide_eq_true_eq] at he
                refine .inr ⟨?_, by omega, rfl⟩
                simp only [Bool.and_eq_true, decide_eq_true_eq]
                exact ⟨he.1, by omega⟩
              rw [e2] at hp
              exact ⟨_, by simp [Instr.sliceAt, run_underlying hu, Instr.slice, hb, (szO_ok hz w).1], .i _ _ hp⟩
          · rename_i m
            split at h
            · rename_i m' hm
              split at h
              · rename_i hm2
                cases h
                obtain rfl := hm2.1
                cases rm with
                | some a' v' r' =>
                  have hb := bounds3_ok (P := E.P) (w := w) (cap := cap) hlo hhi hm rl rh r' hl1 (by omega) hm2.2
                  have hp := sl_part (m := hh) (size := sz) (ex' := true) rI hl1 (by omega) (Nat.le_refl _) (by omega) (.inr rfl) fun _ => .inl rfl
                  rw [e2] at hp
                  exact ⟨_, by simp [Instr.sliceAt, run_underlying hu, Instr.slice, hb, (szO_ok hz w).1], .i _ _ hp⟩
              · cases h
            · cases h
      · cases h
    · cases h
  · cases h

/-! length, conversions, max and min -/
theorem sl_len {sz : Nat} {rows : List (List IV)} {ex : Bool} {y : Value} (h : RelI I (.sl sz rows ex) y) : ∃ a cap, y = .slice a rows.length cap := by
  cases h with
  | nil => exact ⟨_, _, rfl⟩
  | sl => exact ⟨_, _, rfl⟩
theorem ref_len {c g off len : Nat} {y : Value} (r : RelA I η H (.ref c g off len) y) : ∃ a cap, y = .slice a len cap := by
  cases r; assumption

theorem conv_ok {s d : TypeId} {x v : AV} {y : Value} (h : convE E s d x = some v) (r : RelA I η H x y) : ∃ u, (convert s d y).run E.P w = .ok u w ∧ RelA I η H v u := by
  unfold convE at h
  split at h
  · rename_i k n
    rw [relA_v r]
    split at h
    · rename_i b k' hb hk
      cases h
      have hs : ∃ ds, E.P.underlying s = some ds := by
        simp only [aggO, Option.map_eq_some_iff] at hb
        obtain ⟨ds, hds, _⟩ := hb; exact ⟨ds, hds⟩
      obtain ⟨ds, hds⟩ := hs
      exact ⟨_, by simp [convert, run_underlying hds, run_underlying (kindO_ok hk), Conv.intToInt], relA_int⟩
    · rename_i b hb hk
      split at h
      · rename_i hd
        cases h
        have hs : ∃ ds, E.P.underlying s = some ds := by
          simp only [aggO, Option.map_eq_some_iff] at hb
          obtain ⟨ds, hds, _⟩ := hb; exact ⟨ds, hds⟩
        obtain ⟨ds, hds⟩ := hs
        exact ⟨.string (Utf8.encode n), by simp [convert, run_underlying hds, run_underlying (isStrO_ok hd), Conv.intToString], by
          have := relA_mkstr (I := I) (η := η) (H := H) (l := (Utf8.encode n).data.toList)
          exact this⟩
      · cases h
    · cases h
  · split at h
    · rename_i hc
      cases h
      rw [relA_str r]
      exact ⟨_, by simp [convert, run_underlying (isStrO_ok hc.1), run_underlying (isStrO_ok hc.2)], relA_mkstr⟩
    · cases h
  · cases h

theorem max_ok {a b v : AV} {x y : Value} (P : Program) (h : maxE a b = some v) (ra : RelA I η H a x) (rb : RelA I η H b y) : ∃ u, (Builtin.max2 x y).run P w = .ok u w ∧ RelA I η H v u := by
  unfold maxE at h
  split at h
  · rename_i k a k' b
    cases h
    rw [relA_v ra, relA_v rb]
    refine ⟨.int k (max a b), ?_, relA_int⟩
    have : (if b > a then b else a) = max a b := by omega
    simp only [Builtin.max2, Sem.run_pure, this]
  · cases h
theorem min_ok {a b v : AV} {x y : Value} (P : Program) (h : minE a b = some v) (ra : RelA I η H a x) (rb : RelA I η H b y) : ∃ u, (Builtin.min2 x y).run P w = .ok u w ∧ RelA I η H v u := by
  unfold minE at h
  split at h
  · rename_i k a k' b
    cases h
    rw [relA_v ra, relA_v rb]
    refine ⟨.int k (min a b), ?_, relA_int⟩
    have : (if b < a then b else a) = min a b := by omega
    simp only [Builtin.min2, Sem.run_pure, this]
  · cases h
theorem fold_none (f : AV → AV → Option AV) : ∀ l : List AV, l.foldl (fun acc x => match acc with | some y => f y x | none => none) none = none
  | [] => rfl
  | _ :: l => fold_none f l
theorem fold_ok (P : Program) {f : AV → AV → Option AV} {g : Value → Value → Sem Value} (hfg : ∀ {a b v : AV} {x y : Value}, f a b = some v → RelA I η H a x → RelA I η H b y → ∃ u, (g x y).run P w = .ok u w ∧ RelA I η H v u) :
    ∀ (l : List AV) (m : List Value) (a v : AV) (x : Value), l.length = m.length → (∀ (k : Nat) (b : AV) (y : Value), l[k]? = some b → m[k]? = some y → RelA I η H b y) → RelA I η H a x →
      l.foldl (fun acc x => match acc with | some y => f y x | none => none) (some a) = some v → ∃ u, (m.foldlM g x).run P w = .ok u w ∧ RelA I η H v u
  | [], [], a, v, x, _, _, ra, h => by simp at h; subst h; exact ⟨x, by simp, ra⟩
  | [], _ :: _, _, _, _, h, _, _, _ => by simp at h
  | _ :: _, [], _, _, _, h, _, _, _ => by simp at h
  | b :: l, y :: m, a, v, x, hl, hr, ra, h => by
    simp only [List.foldl_cons] at h
    cases hf : f a b with
    | none => rw [hf, fold_none] at h; cases h
    | some c =>
      rw [hf] at h
      obtain ⟨u, hu, ru⟩ := hfg hf ra (hr 0 b y rfl rfl)
      obtain ⟨z, hz, rz⟩ := fold_ok P hfg l m c v u (by simpa using hl) (fun k b y h1 h2 => hr (k + 1) b y (by simpa using h1) (by simpa using h2)) ru h
      exact ⟨z, by simp [List.foldlM_cons, hu, hz], rz⟩

/-! composites -/
theorem cells_ok {a : AV} {y : Value} (r : RelA I η H a y) (ho : (cellsA a).all one = true) :
    y.cells.size = (cellsA a).length ∧ (∀ (k : Nat) (c : AV), (cellsA a)[k]? = some c → RelA I η H c (y.cells.getD k undef)) ∧ ∀ k, k < y.cells.size → (y.cells.getD k undef).oneCell' = true := by
  have key : ∀ a, one a = true → RelA I η H a y → (y.cells.size = 1 ∧ (∀ (k : Nat) (c : AV), [a][k]? = some c → RelA I η H c (y.cells.getD k undef)) ∧ ∀ k, k < y.cells.size → (y.cells.getD k undef).oneCell' = true) := by
    intro a h1 r
    have hy := one_ok r h1
    have : y.cells = #[y] := by cases y <;> simp_all [Value.cells, Value.oneCell']
    rw [this]
    refine ⟨rfl, fun k c hc => ?_, fun k hk => ?_⟩
    · cases k with
      | zero => simp at hc; subst hc; simpa using r
      | succ k => simp at hc
    · simp at hk; subst hk; simpa using hy
  cases a with
  | agg cells =>
    obtain ⟨cs, rfl, h1, h2⟩ := relA_agg r
    refine ⟨h1, h2, fun k hk => ?_⟩
    simp only [Value.cells] at hk
    have hlt : k < cells.length := by omega
    have h3 := h2 k cells[k] (by simp [hlt])
    simp only [cellsA, List.all_eq_true] at ho
    exact one_ok h3 (ho _ (List.getElem_mem hlt))
  | dead => simp [cellsA, one] at ho
  | tup => simp [cellsA, one] at ho
  | i x => exact key _ (by simpa [cellsA] using ho) r
  | ref => exact key _ (by simpa [cellsA] using ho) r
  | ptr => exact key _ (by simpa [cellsA] using ho) r
  | clo => exact key _ (by simpa [cellsA] using ho) r

/-- an array of cells and what it stands for -/
def CellsOK (I : Imm) (η : Eta) (H : Hp) (cells : List AV) (cs : Array Value) : Prop := cs.size = cells.length ∧ ∀ (k : Nat) (a : AV), cells[k]? = some a → RelA I η H a (cs.getD k undef)

theorem foldl_set (off : Nat) : ∀ (vs : List Value) (j : Nat) (cs : Array Value), off + j + vs.length ≤ cs.size →
    ((vs.zipIdx j).foldl (fun cs (p : Value × Nat) => cs.setIfInBounds (off + p.2) p.1) cs).size = cs.size ∧
    ∀ k, ((vs.zipIdx j).foldl (fun cs (p : Value × Nat) => cs.setIfInBounds (off + p.2) p.1) cs)[k]? = if off + j ≤ k ∧ k < off + j + vs.length then vs[k - (off + j)]? else cs[k]?
  | [], j, cs, _ => by simp; intro k h1 h2; omega
  | v :: vs, j, cs, h => by
    simp only [List.length_cons] at h
    simp only [List.zipIdx_cons, List.foldl_cons]
    obtain ⟨h1, h2⟩ := foldl_set off vs (j + 1) (cs.setIfInBounds (off + j) v) (by rw [Array.size_setIfInBounds]; omega)
    refine ⟨by rw [h1]; simp, fun k => ?_⟩
    rw [h2]
    by_cases hk : k = off + j
    · subst hk
      rw [if_neg (by omega), if_pos (by constructor <;> simp)]
      have : off + j < cs.size := by omega
      simp [this]
    · by_cases hr : off + (j + 1) ≤ k ∧ k < off + (j + 1) + vs.length
      · rw [if_pos hr, if_pos (by simp; omega)]
        rw [show k - (off + j) = (k - (off + (j + 1))) + 1 by omega]; simp
      · rw [if_neg hr, if_neg (by simp; omega)]
        rw [Array.getElem?_setIfInBounds_ne (by omega)]
theorem foldl_zip (vs cs : Array Value) (off : Nat) : vs.zipIdx.foldl (fun cs (c, j) => cs.setIfInBounds (off + j) c) cs = (vs.toList.zipIdx 0).foldl (fun cs (p : Value × Nat) => cs.setIfInBounds (off + p.2) p.1) cs := by
  rw [← Array.foldl_toList, Array.toList_zipIdx]
theorem over_get {l new : List AV} {k j : Nat} (h : k + new.length ≤ l.length) : (over l k new)[j]? = if k ≤ j ∧ j < k + new.length then new[j - k]? else l[j]? := by
  unfold over
  by_cases h1 : j < k
  · rw [if_neg (by omega), List.append_assoc, List.getElem?_append_left (by simp; omega), List.getElem?_take, if_pos h1]
  · by_cases h2 : j < k + new.length
    · rw [if_pos (by omega), List.append_assoc, List.getElem?_append_right (by simp; omega), List.getElem?_append_left (by simp; omega)]
      congr 1; simp; omega
    · rw [if_neg (by omega), List.append_assoc, List.getElem?_append_right (by simp; omega), List.getElem?_append_right (by simp; omega), List.getElem?_drop]
      congr 1; simp; omega
theorem over_length {l new : List AV} {k : Nat} (h : k + new.length ≤ l.length) : (over l k new).length = l.length := by
  unfold over; simp; omega
theorem over_ok {cells : List AV} {cs : Array Value} (hc : CellsOK I η H cells cs) {a : AV} {y : Value} (r : RelA I η H a y) (ho : (cellsA a).all one = true) {off : Nat} (hle : off + (cellsA a).length ≤ cells.length) :
    CellsOK I η H (over cells off (cellsA a)) (y.cells.zipIdx.foldl (fun cs (c, j) => cs.setIfInBounds (off + j) c) cs) := by
  obtain ⟨h1, h2, _⟩ := cells_ok r ho
  rw [foldl_zip]
  obtain ⟨h3, h4⟩ := foldl_set off y.cells.toList 0 cs (by simp; rw [hc.1, h1]; omega)
  refine ⟨by rw [h3, over_length hle, hc.1], fun k b hb => ?_⟩
  rw [over_get hle] at hb
  rw [Array.getD_eq_getD_getElem?, h4]
  simp only [Nat.add_zero, Array.length_toList, h1]
  split at hb
  · rename_i hk
    rw [if_pos hk]
    have := h2 _ _ hb
    rwa [Array.getD_eq_getD_getElem?, ← Array.getElem?_toList] at this
  · rename_i hk
    rw [if_neg hk]
    have := hc.2 _ _ hb
    rwa [Array.getD_eq_getD_getElem?] at this

/-- the parts of a composite -/
def PartsOK (I : Imm) (η : Eta) (H : Hp) (ps : List (Nat × AV)) (qs : List (Nat × Value)) : Prop := ps.length = qs.length ∧ ∀ (k : Nat) (p : Nat × AV) (q : Nat × Value), ps[k]? = some p → qs[k]? = some q → p.1 = q.1 ∧ RelA I η H p.2 q.2
theorem fillA_ok {z : Nat} : ∀ {ps : List (Nat × AV)} {qs : List (Nat × Value)} {cells out : List AV} {cs : Array Value}, PartsOK I η H ps qs → CellsOK I η H cells cs → fillA z cells ps = some out →
    ∃ ds, Instr.fill (fun i => some (i * z, z)) cs qs = some ds ∧ CellsOK I η H out ds
  | [], [], cells, out, cs, _, hc, h => by simp [fillA] at h; subst h; exact ⟨cs, rfl, hc⟩
  | [], _ :: _, _, _, _, hp, _, _ => by have := hp.1; simp at this
  | _ :: _, [], _, _, _, hp, _, _ => by have := hp.1; simp at this
  | (i, a) :: ps, (j, y) :: qs, cells, out, cs, hp, hc, h => by
    simp only [fillA] at h
    split at h
    · rename_i hk
      obtain ⟨hk1, hk2, hk3⟩ := hk
      obtain ⟨e, r⟩ := hp.2 0 _ _ rfl rfl
      simp only at e r
      subst e
      obtain ⟨h1, _, _⟩ := cells_ok r hk3
      have hov := over_ok hc r hk3 (off := i * z) (by omega)
      obtain ⟨ds, h2, h3⟩ := fillA_ok (z := z) ⟨by have := hp.1; simpa using this, fun k p q h4 h5 => hp.2 (k + 1) p q (by simpa using h4) (by simpa using h5)⟩ hov h
      refine ⟨ds, ?_, h3⟩
      simp only [Instr.fill]
      rw [if_neg]
      · exact h2
      · simp only [Bool.or_eq_true, decide_eq_true_eq, not_or, ne_eq]
        rw [hc.1, h1]; omega
    · cases h
theorem fillS_ok {pl : List (Nat × Nat)} : ∀ {ps : List (Nat × AV)} {qs : List (Nat × Value)} {cells out : List AV} {cs : Array Value}, PartsOK I η H ps qs → CellsOK I η H cells cs → fillS pl cells ps = some out →
    ∃ ds, Instr.fill (pl[·]?) cs qs = some ds ∧ CellsOK I η H out ds
  | [], [], cells, out, cs, _, hc, h => by simp [fillS] at h; subst h; exact ⟨cs, rfl, hc⟩
  | [], _ :: _, _, _, _, hp, _, _ => by have := hp.1; simp at this
  | _ :: _, [], _, _, _, hp, _, _ => by have := hp.1; simp at this
  | (i, a) :: ps, (j, y) :: qs, cells, out, cs, hp, hc, h => by
    simp only [fillS] at h
    split at h
    · rename_i off z hpl
      split at h
      · rename_i hk
        obtain ⟨hk1, hk2, hk3⟩ := hk
        obtain ⟨e, r⟩ := hp.2 0 _ _ rfl rfl
        simp only at e r
        subst e
        obtain ⟨h1, _, _⟩ := cells_ok r hk3
        have hov := over_ok hc r hk3 (off := off) (by omega)
        obtain ⟨ds, h2, h3⟩ := fillS_ok (pl := pl) ⟨by have := hp.1; simpa using this, fun k p q h4 h5 => hp.2 (k + 1) p q (by simpa using h4) (by simpa using h5)⟩ hov h
        refine ⟨ds, ?_, h3⟩
        simp only [Instr.fill, hpl]
        rw [if_neg]
        · exact h2
        · simp only [Bool.or_eq_true, decide_eq_true_eq, not_or, ne_eq]
          rw [hc.1, h1]; omega
      · cases h
    · cases h
theorem zeroO_ok {P : Program} {t : TypeId} {z : AV} (h : zeroO P t = some z) (w : World) : ∃ v, (zeroValue t).run P w = .ok v w ∧ z = ofVal v := by
  simp only [zeroO, Option.map_eq_some_iff, Option.bind_eq_some_iff] at h
  obtain ⟨v, ⟨i, hi, hz⟩, rfl⟩ := h
  exact ⟨v, by simp [zeroValue, run_typeInfo w hi, hz], rfl⟩
theorem mapM_places {P : Program} (w : World) : ∀ {fs : List Field} {pl : List (Nat × Nat)}, (fs.mapM fun f => (szO P f.type).map fun z => (f.offset, z)) = some pl →
    (fs.mapM fun f => (do pure (f.offset, ← sizeOf f.type) : Sem (Nat × Nat))).run P w = .ok pl w
  | [], pl, h => by simp at h; subst h; simp
  | f :: fs, pl, h => by
    rw [List.mapM_cons] at h
    simp only [bind, Option.bind_eq_some_iff, Option.map_eq_some_iff, pure, Option.some.injEq] at h
    obtain ⟨p, ⟨z, hz, rfl⟩, pl', hpl, rfl⟩ := h
    have ih := mapM_places w hpl
    rw [List.mapM_cons]
    simp only [Sem.run_bind, (szO_ok hz w).1, Result.andThen_ok, Sem.run_pure] at ih ⊢
    rw [ih]; simp
theorem build_ok {t : TypeId} {ps : List (Nat × AV)} {qs : Array (Nat × Value)} {v : AV} (h : buildE E t ps = some v) (hp : PartsOK I η H ps qs.toList) : ∃ u, (Instr.build t qs).run E.P w = .ok u w ∧ RelA I η H v u := by
  unfold buildE at h
  split at h
  · rename_i zero hz
    obtain ⟨zv, hzr, hze⟩ := zeroO_ok hz w
    have hzr' : RelA I η H (.agg zero) zv := by rw [hze]; exact relA_ofVal zv
    obtain ⟨zc, rfl, h1, h2⟩ := relA_agg hzr'
    have hc : CellsOK I η H zero zc := ⟨h1, h2⟩
    split at h
    · rename_i n e ha
      split at h
      · rename_i z hsz
        simp only [Option.map_eq_some_iff] at h
        obtain ⟨out, hout, rfl⟩ := h
        obtain ⟨ds, h3, h4⟩ := fillA_ok hp hc hout
        refine ⟨.agg ds, ?_, .agg _ _ h4.1 h4.2⟩
        simp [Instr.build, hzr, run_underlying (arrO_ok ha), (szO_ok hsz w).1, Value.cells, h3]
      · cases h
    · split at h
      · rename_i pl hpl
        simp only [Option.map_eq_some_iff] at h
        obtain ⟨out, hout, rfl⟩ := h
        obtain ⟨ds, h3, h4⟩ := fillS_ok hp hc hout
        refine ⟨.agg ds, ?_, .agg _ _ h4.1 h4.2⟩
        unfold placesO at hpl
        split at hpl
        · rename_i fs hu
          have hm := mapM_places w hpl
          have hm' : (fs.mapM fun f => (do pure (f.offset, ← sizeOf f.type) : Sem (Nat × Nat))).run E.P w = .ok pl.toArray w := by
            rw [← Array.toArray_toList (xs := fs), List.mapM_toArray, Sem.run_map, hm]; rfl
          simp only [Instr.build, Sem.run_bind, hzr, Result.andThen_ok, run_underlying hu, Value.cells]
          rw [hm']
          simp [h3]
        · cases hpl
      · cases h
  · cases h
end
end Go.VI
