/- VI, part 9: append; the heavy operations' theorem. -/
import Derived.Test.YtcifhkdbaienjaaVI28
set_option linter.unusedSimpArgs false
set_option linter.unusedVariables false
namespace Go.VI
section
variable {E : Env} {I : Imm} {η : Eta} {H : Hp} {w : World}

theorem Conc.world (hC : Conc E I η H w) {w' : World} (h : w'.heap = w.heap) : Conc E I η H w' :=
  ⟨fun b o hb => by rw [h]; exact hC.imm b o hb, fun c x hx => (hC.ch c x hx).mono rfl (fun _ _ h => h) (Mono.refl _ _ _) (fun _ _ _ => by rw [h]), hC.inj,
    fun c b n hc => by rw [h]; exact hC.sep c b n hc, hC.glob⟩

/-- a new chunk behind which nothing lies yet -/
theorem new_empty (hC : Conc E I η H w) {z : Nat} (hz : 0 < z) (a : Option Addr) : After E I η H w (H ++ [.sl z 0 [] true]) w fun I' η' => RelA I' η' (H ++ [.sl z 0 [] true]) (.ref H.length 0 0 0) (.slice a 0 0) := by
  have hnew : η H.length = none := by
    cases h : η H.length with
    | none => rfl
    | some p => have := (hC.sep _ p.1 p.2 h).2.2; omega
  have hm : Mono I η H I η (H ++ [.sl z 0 [] true]) := mono_of (fun _ _ h => h) (by simp) fun c hc => CStep.same (by rw [List.getElem?_append_left hc]) rfl
  refine ⟨I, η, ⟨hC.imm, fun c x hx => ?_, hC.inj, fun c b n h => by have := hC.sep c b n h; exact ⟨this.1, this.2.1, by simp; omega⟩, hC.glob⟩, Trans.refl _ _ _, hm, ?_⟩
  · by_cases hc : c < H.length
    · rw [List.getElem?_append_left hc] at hx
      exact (hC.ch c x hx).mono rfl (fun _ _ h => h) hm (fun _ _ _ => rfl)
    · have : c = H.length := by have := (List.getElem?_eq_some_iff.1 hx).1; simp at this; omega
      subst this
      simp at hx; subst hx
      exact ⟨fun e => by omega, fun i r h => by simp at h, .inl ⟨hnew, rfl⟩⟩
  · refine .ref _ _ _ _ _ (by simp) (fun sz2 rows2 ex2 h => ?_) (fun _ _ _ h => by simp at h) ⟨_, _, rfl⟩ (fun _ _ _ _ h => by omega)
    simp at h; obtain ⟨rfl, rfl, rfl⟩ := h
    exact ⟨by simp, _, _, rfl, .inl ⟨hnew, rfl⟩⟩

/-- a chunk that has got new memory -/
theorem moved (hC : Conc E I η H w) {w' : World} {cs : Array Value} {elem : TypeId} (hw : w'.heap = w.heap.push (.cells cs elem)) (ho : w'.os = w.os) (ht : w'.tape = w.tape) (hu : w'.output = w.output)
    {c z g : Nat} {rows0 : List (List IV)} {ex0 : Bool} (hH : H[c]? = some (.sl z g rows0 ex0)) {rows : List (List IV)} {ex : Bool} (hz : 0 < z) (hf : Flat z rows) (hc : CellsI I rows.flatten cs) (hle : rows.length * z ≤ cs.size) (hx : ex = false)
    {n cap : Nat} (hn : n ≤ rows.length) (hcap : rows.length ≤ cap) (hcs : cap * z ≤ cs.size) :
    After E I η H w (H.set c (.sl z (g + 1) rows ex)) w' fun I' η' => RelA I' η' (H.set c (.sl z (g + 1) rows ex)) (.ref c (g + 1) 0 n) (.slice (some ⟨w.heap.size, 0, none⟩) n cap) := by
  subst hx
  have hcl : c < H.length := (List.getElem?_eq_some_iff.1 hH).1
  have hold : ∀ b, b < w.heap.size → w'.heap[b]? = w.heap[b]? := by
    intro b hb; rw [hw, Array.getElem?_push, if_neg (by omega)]
  let η' := etaNew η c w.heap.size cs.size
  have hin : ∀ d b n, η' d = some (b, n) → (d = c ∧ b = w.heap.size ∧ n = cs.size) ∨ (d ≠ c ∧ η d = some (b, n)) := by
    intro d b n h
    simp only [η', etaNew] at h
    split at h
    · cases h; exact .inl ⟨by assumption, rfl, rfl⟩
    · exact .inr ⟨by assumption, h⟩
  have hm : Mono I η H I η' (H.set c (.sl z (g + 1) rows false)) := by
    refine mono_of (fun _ _ h => h) (by simp) fun d hd => ?_
    by_cases hdc : d = c
    · subst hdc
      intro y hy
      rcases set_get hy with ⟨_, rfl⟩ | ⟨e, _⟩
      · exact .inr ⟨z, g, rows0, ex0, hH, by omega⟩
      · exact absurd rfl e
    · exact CStep.same (by rw [List.getElem?_set_ne (Ne.symm hdc)]) (by simp [η', etaNew, hdc])
  refine ⟨I, η', ⟨fun b o hb => ?_, fun d x hd => ?_, fun d d' b n n' h1 h2 => ?_, fun d b n h => ?_, hC.glob⟩, ⟨ho, ht, hu, by rw [hw]; simp, fun b hb _ => hold b hb, fun _ _ h => h, fun _ h => .inl h, fun d b n h => ?_⟩, hm, ?_⟩
  · have := hC.imm b o hb
    have hlt : b < w.heap.size := (Array.getElem?_eq_some_iff.1 this).1
    rw [hold b hlt]; exact this
  · rcases set_get hd with ⟨rfl, rfl⟩ | ⟨h1, h2⟩
    · exact ⟨fun e => by omega, hf, .inr ⟨w.heap.size, cs, elem, (0, 0), by simp [η', etaNew], heap_push_new hw, thaw0 _, hle, (fun h => by cases h), CellsI.rows hf hc⟩⟩
    · exact (hC.ch _ _ h2).mono (by simp [η', etaNew, h1]) (fun _ _ h => h) hm (fun b n h => hold b (hC.sep _ _ _ h).2.1)
  · rcases hin _ _ _ h1 with ⟨rfl, rfl, rfl⟩ | ⟨e1, e2⟩
    · rcases hin _ _ _ h2 with ⟨e, _, _⟩ | ⟨_, e3⟩
      · exact e.symm
      · have := (hC.sep _ _ _ e3).2.1; omega
    · rcases hin _ _ _ h2 with ⟨e, rfl, _⟩ | ⟨_, e3⟩
      · have := (hC.sep _ _ _ e2).2.1; omega
      · exact hC.inj _ _ _ _ _ e2 e3
  · rcases hin _ _ _ h with ⟨rfl, rfl, rfl⟩ | ⟨_, e1⟩
    · refine ⟨?_, by rw [hw]; simp, by simpa using hcl⟩
      cases hI : I w.heap.size with
      | none => rfl
      | some o => have := hC.imm _ _ hI; simp at this
    · have := hC.sep _ _ _ e1
      exact ⟨this.1, by rw [hw]; simp; omega, by simpa using this.2.2⟩
  · rcases hin _ _ _ h with ⟨rfl, rfl, rfl⟩ | ⟨_, e1⟩
    · exact .inl (Nat.le_refl _)
    · exact .inr ⟨_, _, e1⟩
  · refine .ref _ _ _ _ _ (by simpa using hcl) (fun sz2 rows2 ex2 h => ?_) (fun _ _ _ h => ?_) ⟨_, _, rfl⟩ (fun _ _ _ _ h => ?_)
    · rcases set_get h with ⟨_, e⟩ | ⟨e, _⟩
      · cases e
        exact ⟨by omega, _, _, rfl, .inr ⟨w.heap.size, cs.size, by simp [η', etaNew], by omega, by simpa using hcs, .inl (by simp)⟩⟩
      · exact absurd rfl e
    · rcases set_get h with ⟨_, e⟩ | ⟨e, _⟩
      · cases e
      · exact absurd rfl e
    · rcases set_get h with ⟨_, e⟩ | ⟨e, _⟩
      · cases e; omega
      · exact absurd rfl e

/-- a chunk whose generation is raised where it lies -/
theorem bumped (hC : Conc E I η H w) {c z g : Nat} {rows0 : List (List IV)} {ex0 : Bool} (hH : H[c]? = some (.sl z g rows0 ex0)) {ch : Chunk} (hch : ∃ rows ex, ch = .sl z (g + 1) rows ex)
    {w' : World} (hoth : ∀ b', (∀ n, η c ≠ some (b', n)) → w'.heap[b']? = w.heap[b']?) (hsz : w'.heap.size = w.heap.size) (ho : w'.os = w.os) (ht : w'.tape = w.tape) (hu : w'.output = w.output)
    (hok : Mono I η H I η (H.set c ch) → ChunkOK I η (H.set c ch) w' c ch) {Q : Imm → Eta → Prop} (hQ : Mono I η H I η (H.set c ch) → Q I η) : After E I η H w (H.set c ch) w' Q := by
  obtain ⟨rows, ex, rfl⟩ := hch
  have hcl : c < H.length := (List.getElem?_eq_some_iff.1 hH).1
  have hm : Mono I η H I η (H.set c (.sl z (g + 1) rows ex)) := by
    refine mono_of (fun _ _ h => h) (by simp) fun d hd => ?_
    by_cases hdc : d = c
    · subst hdc
      intro y hy
      rcases set_get hy with ⟨_, rfl⟩ | ⟨e, _⟩
      · exact .inr ⟨z, g, rows0, ex0, hH, by omega⟩
      · exact absurd rfl e
    · exact CStep.same (by rw [List.getElem?_set_ne (Ne.symm hdc)]) rfl
  refine ⟨I, η, ⟨fun b' o hb => ?_, fun d x hd => ?_, hC.inj, fun d b' n' hd => ?_, hC.glob⟩, ⟨ho, ht, hu, by rw [hsz]; exact Nat.le_refl _, fun b' hb hn => hoth b' (fun n => hn c n), fun _ _ h => h, fun _ h => .inl h, fun _ _ _ h => .inr ⟨_, _, h⟩⟩, hm, hQ hm⟩
  · rw [hoth b' (fun n e => by have := (hC.sep _ _ _ e).1; rw [this] at hb; cases hb)]; exact hC.imm _ _ hb
  · rcases set_get hd with ⟨rfl, rfl⟩ | ⟨h1, h2⟩
    · exact hok hm
    · exact (hC.ch _ _ h2).mono rfl (fun _ _ h => h) hm fun b' n' h3 => hoth _ fun n e => h1 (hC.inj _ _ _ _ _ h3 e)
  · have := hC.sep _ _ _ hd
    exact ⟨this.1, by rw [hsz]; exact this.2.1, by simpa using this.2.2⟩

theorem cellsI_append {a b : List IV} {xs ys : Array Value} (ha : CellsI I a xs) (hb : CellsI I b ys) (hl : xs.size = a.length) (rest : Array Value) (hlb : ys.size = b.length) : CellsI I (a ++ b) (xs ++ ys ++ rest) := by
  intro j v hv
  rw [List.getElem?_append] at hv
  rw [Array.getD_eq_getD_getElem?, Array.append_assoc]
  split at hv
  · rename_i hj
    have := ha j v hv
    rw [Array.getElem?_append_left (by omega), ← Array.getD_eq_getD_getElem?]; exact this
  · rename_i hj
    have h2 := (List.getElem?_eq_some_iff.1 hv).1
    have := hb _ v hv
    rw [Array.getElem?_append_right (by omega), Array.getElem?_append_left (by omega), hl, ← Array.getD_eq_getD_getElem?]; exact this

theorem zeroO_all {P : Program} {e : TypeId} {z : AV} (h : zeroO P e = some z) : ∃ v, (∀ w, (zeroValue e).run P w = .ok v w) ∧ z = ofVal v := by
  simp only [zeroO, Option.map_eq_some_iff, Option.bind_eq_some_iff] at h
  obtain ⟨v, ⟨i, hi, hz⟩, rfl⟩ := h
  exact ⟨v, fun w => by simp [zeroValue, run_typeInfo w hi, hz], rfl⟩

/-- the element type's zero value, of the right size -/
def ZeroOK (P : Program) (e : TypeId) (z : Nat) : Prop := ∃ v : Value, (∀ w, (zeroValue e).run P w = .ok v w) ∧ v.cells.size = z
theorem zeroOK_of {z : Nat} {e : TypeId} {a : AV} (h : zeroO E.P e = some a) (h1 : (cellsA a).length = z) (h2 : (cellsA a).all one = true) : ZeroOK E.P e z := by
  obtain ⟨v, hv, rfl⟩ := zeroO_all h
  exact ⟨v, hv, by rw [← h1]; exact (cells_ok (relA_ofVal (I := fun _ => none) (η := fun _ => none) (H := []) v) h2).1⟩

theorem append_ok (hC : Conc E I η H w) {t t2 ty : TypeId} {s x v : AV} {ys yx : Value} {H' : Hp} (h : appendE E H t t2 s x = some (v, H')) (rs : RelA I η H s ys) (rx : RelA I η H x yx) :
    ∃ u w', (Builtin.append_ #[t, t2] ty #[ys, yx]).run E.P w = .ok u w' ∧ After E I η H w H' w' fun I' η' => RelA I' η' H' v u := by
  unfold appendE at h
  split at h
  rotate_left
  · cases h
  rename_i e he
  split at h
  rotate_left
  · cases h
  rename_i z b zv z' new exn hz hb hzero hsrc
  split at h
  rotate_left
  · cases h
  rename_i hc
  obtain ⟨hc1, hc2, hc3, hc4, hc5, hc6⟩ := hc
  have ht2 := srcT hc4
  obtain ⟨zc, hzc1, hzc2⟩ := zeroOK_of hzero hc5 hc6
  obtain ⟨nw, hn1, hn2, hn3, hn4, hn5⟩ := src_ok (P := E.P) hC rx hsrc hc1 hc2
  -- a new row, where the old one has no room
  have grow : ∀ (rows : List (List IV)) (base : Option Addr) (cap : Nat) (old : Array Value), (∀ w' : World, w'.heap = w.heap → (Builtin.firstCells z rows.length (.slice base rows.length cap)).run E.P w' = .ok old w') → old.size = rows.length * z →
      CellsI I rows.flatten old → Flat z rows → cap < rows.length + new.length → rows.length + new.length < 1073741824 → ∀ ys', ys' = .slice base rows.length cap →
      ∃ u w' nc cs, (Builtin.append_ #[t, t2] ty #[ys', yx]).run E.P w = .ok u w' ∧ u = .slice (some ⟨w.heap.size, 0, none⟩) (rows.length + new.length) nc ∧ w'.heap = w.heap.push (.cells cs e) ∧ w'.os = w.os ∧ w'.tape = w.tape ∧ w'.output = w.output ∧
        CellsI I (rows ++ new).flatten cs ∧ (rows ++ new).length * z ≤ cs.size ∧ rows.length + new.length ≤ nc ∧ nc * z ≤ cs.size := by
    intro rows base cap old h1 h2 h3 h4 h5 h6 ys' hys
    subst hys
    obtain ⟨w', nc, g1, g2, g3, g4, g5, g6⟩ := append_grow (w := w) (ty := ty) (t2 := t2) (rows := rows) (new := new) he hz hb hzc1 ht2 (fun w' _ => hn1 w') h5 h6 hc3 h1 hn2 hzc2
    refine ⟨_, w', nc, _, g1, rfl, g3, g4, g5, g6, ?_, ?_, g2, ?_⟩
    · rw [List.flatten_append]
      exact cellsI_append h3 hn4 (by rw [h2, h4.length]) _ (by rw [hn3, hn5.length])
    · simp only [Array.size_append, h2, hn3, List.length_append, Nat.add_mul]; omega
    · simp only [Array.size_append, h2, hn3, zeroCells_size, hzc2]
      rw [← Nat.add_mul, ← Nat.add_mul]
      exact Nat.mul_le_mul_right _ (by omega)
  split at h
  · -- onto an immutable slice
    rename_i sz rows ex
    split at h
    rotate_left
    · cases h
    rename_i hk
    obtain ⟨hk1, hk2, hk3⟩ := hk
    subst hk1
    simp only [Option.some.injEq, Prod.mk.injEq] at h
    obtain ⟨rfl, rfl⟩ := h
    have rI := relA_i rs
    have hys : ∃ a, ys = .slice a rows.length rows.length := by
      cases rI with
      | nil sz ex a cap hx => exact ⟨a, by rw [hx rfl]; rfl⟩
      | sl sz rows ex b off cap cs elem fz cv hI hc hx hr h1 h2 => exact ⟨_, by rw [hx rfl]⟩
    obtain ⟨a, rfl⟩ := hys
    by_cases hnew : new = []
    · subst hnew
      have hrows : rows = [] := by rcases hk2 with e | ⟨_, e⟩; · exact e
                                   · exact absurd rfl e
      subst hrows
      have hnw : nw = #[] := Array.eq_empty_of_size_eq_zero (by rw [hn3]; simp)
      refine ⟨_, w, append_none he hz ht2 (hn1 w) (Nat.le_refl _) (by rw [← hnw]; exact hn2 w rfl), ?_⟩
      exact new_empty hC hc2 a
    · have hpos : 0 < new.length := List.length_pos_iff.2 hnew
      have hold : ∃ old : Array Value, (∀ w' : World, w'.heap = w.heap → (Builtin.firstCells z rows.length (.slice a rows.length rows.length)).run E.P w' = .ok old w') ∧ old.size = rows.length * z ∧ CellsI I rows.flatten old ∧ Flat z rows := by
        rcases hk2 with e1 | ⟨rfl, _⟩
        · subst e1
          refine ⟨#[], fun w' _ => ?_, by simp, fun j v h => by simp at h, fun i r h => by simp at h⟩
          cases a <;> simp [Builtin.firstCells, loadCells, loadCellsFrom]
        · obtain ⟨old, o1, o2, o3, o4, o5⟩ := relI_src (P := E.P) hC.imm hc2 rI
          exact ⟨old, o2, o3, o4, o5⟩
      obtain ⟨old, o1, o2, o3, o4⟩ := hold
      obtain ⟨u, w', nc, cs, g1, rfl, g3, g4, g5, g6, g7, g8, g9, g10⟩ := grow rows a rows.length old o1 o2 o3 o4 (by omega) hk3 _ rfl
      have hex : (rows.isEmpty && new.isEmpty) = false := by
        cases new with
        | nil => exact absurd rfl hnew
        | cons => simp
      rw [hex]
      refine ⟨_, w', g1, ?_⟩
      have := new_row hC g3 g4 g5 g6 (ex := false) (n := rows.length + new.length) (cap := nc) hc2 (o4.append hn5) g7 g8 (fun h => by cases h) (thaw0 _) (by simp) (by simp; omega) g10
      exact this
  · rename_i c g off len
    cases rs with
    | ref c g off len v hcl hs hf hp hg =>
    split at h
    · rename_i sz g' rows ex hH
      split at h
      rotate_left
      · cases h
      rename_i hk
      obtain ⟨rfl, rfl, rfl, hk3⟩ := hk
      simp only [Option.some.injEq, Prod.mk.injEq] at h
      obtain ⟨rfl, rfl⟩ := h
      obtain ⟨hle, a, cap, rfl, hbk⟩ := hs _ _ _ hH
      obtain ⟨hz00, hfl, hch⟩ := hC.ch _ _ hH
      have hzp : 0 < sz := hc2
      have hfl' : Flat sz rows := hfl
      have hcl2 : c < H.length := hcl
      have hle' : len ≤ rows.length := by omega
      have rel0 : ∀ (I' : Imm) (η' : Eta) (rows' : List (List IV)) (ex' : Bool) (a : Option Addr) (cap : Nat), rows'.length = len + new.length → RefOk η' c sz rows' 0 (len + new.length) (.slice a (len + new.length) cap) → RelA I' η' (H.set c (.sl sz (g + 1) rows' ex')) (.ref c (g + 1) 0 (len + new.length)) (.slice a (len + new.length) cap) := by
        intro I' η' rows' ex' a cap hl hro
        refine .ref _ _ _ _ _ (by simpa using hcl2) (fun sz2 rows2 ex2 h => ?_) (fun _ _ _ h => ?_) ⟨_, _, rfl⟩ (fun _ _ _ _ h => ?_)
        · rcases set_get h with ⟨_, e⟩ | ⟨e, _⟩
          · cases e; exact hro
          · exact absurd rfl e
        · rcases set_get h with ⟨_, e⟩ | ⟨e, _⟩
          · cases e
          · exact absurd rfl e
        · rcases set_get h with ⟨_, e⟩ | ⟨e, _⟩
          · cases e; omega
          · exact absurd rfl e
      have hlen' : (rows.take len ++ new).length = len + new.length := by simp; omega
      have hflT : Flat sz (rows.take len ++ new) := (Flat.take hfl').append hn5
      by_cases hroom : len + new.length ≤ cap
      · -- there is room
        rcases hbk with ⟨hη, hc0⟩ | ⟨b0, n0, hη, hb1, hb2, hb3⟩
        · -- nothing lies behind it
          subst hc0
          have hl0 : len = 0 := by omega
          have hn0 : new = [] := List.length_eq_zero_iff.1 (by omega)
          subst hl0 hn0
          have hnw : nw = #[] := Array.eq_empty_of_size_eq_zero (by rw [hn3]; simp)
          refine ⟨_, w, append_none he hz ht2 (hn1 w) (Nat.le_refl _) (by rw [← hnw]; exact hn2 w rfl), ?_⟩
          have hre : rows = [] := by
            rcases hch with ⟨_, h1⟩ | ⟨b, _, _, _, h1, _⟩
            · exact h1
            · rw [hη] at h1; cases h1
          subst hre
          refine bumped hC hH ⟨_, _, rfl⟩ (fun _ _ => rfl) rfl rfl rfl rfl (fun hm => ?_) (fun hm => rel0 _ _ _ _ _ _ (by simp) ⟨by simp, _, _, rfl, .inl ⟨hη, rfl⟩⟩)
          exact ⟨hz00, fun i r h => by simp at h, .inl ⟨hη, by simp⟩⟩
        · rcases hch with ⟨h1, _⟩ | ⟨b', cs, elem, fz, h1, hw, hth, hsz, hxx, hcell⟩
          · rw [hη] at h1; cases h1
          rw [hη] at h1; cases h1
          have inplace : ∀ (w' : World) (cur' : Array Value) (exx : Bool), w'.heap[b0]? = some (.cells cur' elem fz) → (∀ b', b' ≠ b0 → w'.heap[b']? = w.heap[b']?) → w'.heap.size = w.heap.size → w'.os = w.os → w'.tape = w.tape → w'.output = w.output → cur'.size = cs.size →
              CellsI I (rows.take len ++ new).flatten cur' → (exx = true → cs.size = (len + new.length) * sz) → (len + new.length) * sz ≤ cs.size → ∀ a, (a = some ⟨b0, 0 * sz, none⟩ ∨ (len + new.length = 0 ∧ cap = 0)) →
              After E I η H w (H.set c (.sl sz (g + 1) (rows.take len ++ new) exx)) w' fun I' η' => RelA I' η' (H.set c (.sl sz (g + 1) (rows.take len ++ new) exx)) (.ref c (g + 1) 0 (len + new.length)) (.slice a (len + new.length) cap) := by
            intro w' cur' exx i1 i2 i3 i4 i5 i6 i7 i8 i9 i10 a i11
            refine bumped hC hH ⟨_, _, rfl⟩ (fun b' hb' => i2 b' (fun e => hb' _ (e ▸ hη))) i3 i4 i5 i6 (fun hm => ?_) (fun hm => rel0 _ _ _ _ _ _ hlen' ⟨by omega, _, _, rfl, .inr ⟨b0, cs.size, hη, by omega, hb2, i11⟩⟩)
            exact ⟨hz00, hflT, .inr ⟨b0, cur', elem, fz, by rw [i7]; exact hη, i1, by rw [i7]; exact hth, by rw [i7, hlen']; exact i10, fun hx => by rw [i7, hlen']; exact i9 hx, CellsI.rows hflT i8⟩⟩
          have hoe : (ex && rows.isEmpty && new.isEmpty) = true → cs.size = (len + new.length) * sz := by
            intro hx
            simp only [Bool.and_eq_true, List.isEmpty_iff] at hx
            obtain ⟨⟨h1, rfl⟩, rfl⟩ := hx
            have := hxx h1
            simp at this hle' ⊢
            subst hle'; simp [this]
          have holdc : CellsI I (rows.take len).flatten cs := by
            intro j v hv
            have hflt : Flat sz (rows.take len) := Flat.take hfl'
            have hj := (List.getElem?_eq_some_iff.1 hv).1
            rw [hflt.length] at hj
            obtain ⟨r, a2, e1, e2, e3⟩ := flat_rev hzp hflt hj
            rw [hv] at e3; cases e3
            rw [List.getElem?_take] at e1
            split at e1
            · have := hcell _ _ _ _ e1 e2
              rwa [show j / sz * sz + j % sz = j by rw [Nat.mul_comm]; exact Nat.div_add_mod _ _] at this
            · cases e1
          have hlz : (rows.take len).flatten.length = len * sz := by rw [(Flat.take hfl').length, List.length_take, Nat.min_eq_left hle']
          rcases hb3 with rfl | ⟨h1, h2⟩
          · have hfit : len * sz + nw.size ≤ cs.size := by
              rw [hn3, ← Nat.add_mul]
              have : (len + new.length) * sz ≤ (0 + cap) * sz := Nat.mul_le_mul_right _ (by omega)
              omega
            have hones : ∀ v ∈ nw.toList, v.oneCell' = true := by
              intro v hv
              obtain ⟨j, hj, rfl⟩ := List.getElem_of_mem hv
              have hj' : j < nw.size := by simpa using hj
              have hjf : j < new.flatten.length := by rw [hn5.length, ← hn3]; exact hj'
              have := relI_one (hn4 j _ (List.getElem?_eq_getElem hjf))
              simpa [Array.getD_eq_getD_getElem?, hj'] using this
            obtain ⟨w', cur', s1, s2, s3, s4, s5, s6, s7, s8, s9⟩ := storeCells_ok E.P b0 (0 * sz + len * sz) elem fz nw.toList 0 cs w hw hth (by simp; omega) hones
            refine ⟨_, w', append_room he hz ht2 (hn1 w) hroom (hn2 w rfl) s1, ?_⟩
            refine inplace w' cur' _ s2 s3 s4 s5 s6 s7 s8 ?_ hoe (by rw [Nat.add_mul]; omega) _ (.inl rfl)
            intro j v hv
            rw [Array.getD_eq_getD_getElem?, s9]
            simp only [Nat.zero_mul, Nat.zero_add, Nat.add_zero, Array.length_toList]
            rw [List.flatten_append, List.getElem?_append, hlz] at hv
            split at hv
            · rw [if_neg (by omega), ← Array.getD_eq_getD_getElem?]; exact holdc j v hv
            · have h3 := (List.getElem?_eq_some_iff.1 hv).1
              rw [hn5.length, ← hn3] at h3
              rw [if_pos (by omega), Array.getElem?_toList, ← Array.getD_eq_getD_getElem?]
              exact hn4 _ v hv
          · subst h1 h2
            have hn0 : new = [] := List.length_eq_zero_iff.1 (by omega)
            subst hn0
            have hnw : nw = #[] := Array.eq_empty_of_size_eq_zero (by rw [hn3]; simp)
            refine ⟨_, w, append_none he hz ht2 (hn1 w) (Nat.le_refl _) (by rw [← hnw]; exact hn2 w rfl), ?_⟩
            exact inplace w cs _ hw (fun _ _ => rfl) rfl rfl rfl rfl rfl (by intro j v h; simp at h) hoe (by simp) a (.inr ⟨rfl, rfl⟩)
      · -- a new row
        have hold : ∃ old : Array Value, (∀ w' : World, w'.heap = w.heap → (Builtin.firstCells sz (rows.take len).length (.slice a (rows.take len).length cap)).run E.P w' = .ok old w') ∧ old.size = (rows.take len).length * sz ∧ CellsI I (rows.take len).flatten old := by
          have hl : (rows.take len).length = len := by simp; omega
          by_cases hl0 : len = 0
          · subst hl0
            refine ⟨#[], fun w' _ => ?_, by simp, fun j v h => by simp at h⟩
            cases a <;> simp [Builtin.firstCells, loadCells, loadCellsFrom]
          · rcases hbk with ⟨hη, hc0⟩ | ⟨b0, n0, hη, hb1, hb2, hb3⟩
            · exfalso
              rcases hch with ⟨_, h1⟩ | ⟨b, _, _, _, h1, _⟩
              · subst h1; simp at hle; omega
              · rw [hη] at h1; cases h1
            · rcases hch with ⟨h1, _⟩ | ⟨b', cs, elem, fz, h1, hw, hth, hsz, hxx, hcell⟩
              · rw [hη] at h1; cases h1
              rw [hη] at h1; cases h1
              rcases hb3 with rfl | ⟨h1, _⟩
              · obtain ⟨ds, d1, d2, d3⟩ := own_read (P := E.P) (I := I) hzp hfl' hw hsz hcell 0 len (by omega)
                refine ⟨ds, fun w' hw' => by rw [hl]; exact d1 w' hw', by rw [hl]; exact d2, by simpa using d3⟩
              · omega
        obtain ⟨old, o1, o2, o3⟩ := hold
        have hl : (rows.take len).length = len := by simp; omega
        obtain ⟨u, w', nc, cs, g1, rfl, g3, g4, g5, g6, g7, g8, g9, g10⟩ := grow (rows.take len) a cap old o1 o2 o3 (Flat.take hfl') (by rw [hl]; omega) (by rw [hl]; exact hk3) (.slice a len cap) (by rw [hl])
        rw [hl] at g1 g9
        have hnn : 0 < new.length := by
          rcases hbk with ⟨hη, hc0⟩ | ⟨b0, n0, hη, hb1, hb2, hb3⟩
          · rcases hch with ⟨_, h1⟩ | ⟨b, _, _, _, h1, _⟩
            · subst h1; simp at hle'; omega
            · rw [hη] at h1; cases h1
          · omega
        have hex : (ex && rows.isEmpty && new.isEmpty) = false := by
          cases new with
          | nil => simp at hnn
          | cons => simp
        rw [hex]
        exact ⟨_, w', g1, moved hC g3 g4 g5 g6 hH (ex := false) hzp hflT g7 g8 rfl (by omega) (by omega) g10⟩
    · rename_i sz g' rows ex hH
      split at h
      rotate_left
      · cases h
      rename_i hk
      obtain ⟨rfl, rfl, rfl, rfl, rfl, hk5, hk6⟩ := hk
      simp only [Option.some.injEq, Prod.mk.injEq] at h
      obtain ⟨rfl, rfl⟩ := h
      obtain ⟨hle, rI⟩ := hf _ _ _ hH
      have e1 : (rows.drop 0).take rows.length = rows := by simp
      rw [e1] at rI
      simp only [Nat.zero_add, decide_true, Bool.and_self] at rI
      have hys : ∃ a, ys = .slice a rows.length rows.length := by
        generalize hrr : rows = rr at rI
        cases rI with
        | nil sz ex a cap hx => exact ⟨a, by rw [hx rfl]; rfl⟩
        | sl sz rows ex b off cap cs elem fz cv hI hc hx hr h1 h2 => exact ⟨_, by rw [hx rfl]⟩
      obtain ⟨a, rfl⟩ := hys
      have hpos : 0 < new.length := List.length_pos_iff.2 hk5
      obtain ⟨old, o1, o2, o3, o4, o5⟩ := relI_src (P := E.P) hC.imm hc2 rI
      obtain ⟨u, w', nc, cs, g1, rfl, g3, g4, g5, g6, g7, g8, g9, g10⟩ := grow rows a rows.length old o2 o3 o4 o5 (by omega) hk6 _ rfl
      refine ⟨_, w', g1, ?_⟩
      have := new_row hC g3 g4 g5 g6 (ex := false) (n := rows.length + new.length) (cap := nc) hc2 (o5.append hn5) g7 g8 (fun h => by cases h) (thaw0 _) (by simp) (by simp; omega) g10
      exact this
    · cases h
  · cases h

/-- a value or nothing: what an operation leaves in its slot -/
def nv : Next → Option Value
  | .value v => some v
  | .skip => some undef
  | _ => none

theorem evH_ok {fr : Fr} {a : Act} {o : Oper} {v : AV} {H' : Hp} (h : evH E fr H o.op = some (v, H')) (hC : Conc E I η H w) (hf : FrOK I η H fr a.tmps) :
    ∃ nx x w', (execOp a.eval o).run E.P w = .ok nx w' ∧ nv nx = some x ∧ After E I η H w H' w' fun I' η' => RelA I' η' H' v x := by
  obtain ⟨dst, op, ty, pos, after, guard⟩ := o
  simp only at h
  cases op <;> (try (first | (simp only [evH] at h; done) | (simp only [evH] at h; cases h; done)))
  case alloc e =>
    simp only [evH] at h
    split at h
    · rename_i z hz
      split at h
      · rename_i ho
        simp only [Option.some.injEq, Prod.mk.injEq] at h
        obtain ⟨rfl, rfl⟩ := h
        obtain ⟨zv, hzr, hze⟩ := zeroO_ok hz w
        have hr : RelA I η H z zv := by rw [hze]; exact relA_ofVal zv
        obtain ⟨x, w', h1, h2⟩ := new_box hC hr ho e
        refine ⟨.value x, x, w', ?_, rfl, h2⟩
        have : (Instr.alloc e true (.tuple #[])).run E.P w = .ok x w' := by
          have h1' : (do pure (.pointer (some (← newVar e zv))) : Sem Value).run E.P w = .ok x w' := h1
          simp only [Instr.alloc, Sem.run_bind, hzr, Result.andThen_ok]
          simpa using h1'
        simp only [execOp, Sem.run_bind, this, Result.andThen_ok, Sem.run_pure]
      · cases h
    · cases h
  case box e x =>
    simp only [evH] at h
    split at h
    · rename_i ho
      simp only [Option.some.injEq, Prod.mk.injEq] at h
      obtain ⟨rfl, rfl⟩ := h
      obtain ⟨y, w', h1, h2⟩ := new_box hC (opd_ok hC hf x) ho e
      exact ⟨.value y, y, w', by simp only [execOp, Sem.run_bind, h1, Result.andThen_ok, Sem.run_pure], rfl, h2⟩
    · cases h
  case buildSlice t n parts =>
    simp only [evH] at h
    obtain ⟨x, w', h1, h2⟩ := buildSlice_ok (qs := parts.map fun p => (p.1, a.eval p.2)) hC h ⟨by simp, fun k p q hp hq => by
      simp only [List.getElem?_map, Option.map_eq_some_iff, Array.toList_map] at hp hq
      obtain ⟨p0, hp0, rfl⟩ := hp
      obtain ⟨q0, hq0, rfl⟩ := hq
      rw [hp0] at hq0; cases hq0
      exact ⟨rfl, opd_ok hC hf _⟩⟩
    exact ⟨.value x, x, w', by simp only [execOp, Sem.run_bind]; rw [h1]; simp only [Result.andThen_ok, Sem.run_pure], rfl, h2⟩
  case store t p x =>
    simp only [evH, Option.map_eq_some_iff, Prod.mk.injEq] at h
    obtain ⟨H1, h1, rfl, rfl⟩ := h
    obtain ⟨w', h2, h3⟩ := store_ok hC h1 (opd_ok hC hf p) (opd_ok hC hf x)
    exact ⟨.skip, undef, w', by simp only [execOp, Sem.run_bind, h2, Result.andThen_ok, Sem.run_pure], rfl, h3.imp fun _ _ _ _ _ => .dead _⟩
  case range t x =>
    simp only [evH] at h
    split at h
    · rename_i l hx
      split at h
      · rename_i ht
        simp only [Option.some.injEq, Prod.mk.injEq] at h
        obtain ⟨rfl, rfl⟩ := h
        have r := opd_ok hC hf x
        rw [hx] at r
        obtain ⟨y, w', h1, h2⟩ := range_ok (l := l) hC ht
        exact ⟨.value y, y, w', by simp only [execOp, Sem.run_bind, relA_str r, h1, Result.andThen_ok, Sem.run_pure], rfl, h2⟩
      · cases h
    · cases h
  case next it b =>
    simp only [evH] at h
    split at h
    · rename_i c g r hx
      have rr := opd_ok hC hf it
      rw [hx] at rr
      split at h
      · rename_i s pos hH
        obtain ⟨n1, n2⟩ := next_ok hC ty rr hH
        split at h
        · rename_i hp
          simp only [Option.some.injEq, Prod.mk.injEq] at h
          obtain ⟨rfl, rfl⟩ := h
          obtain ⟨y, w', h1, h2⟩ := n1 hp
          exact ⟨.value y, y, w', by simp only [execOp, Sem.run_bind, h1, Result.andThen_ok, Sem.run_pure], rfl, h2⟩
        · rename_i hp
          simp only [Option.some.injEq, Prod.mk.injEq] at h
          obtain ⟨rfl, rfl⟩ := h
          obtain ⟨y, h1, h2⟩ := n2 hp
          exact ⟨.value y, y, w, by simp only [execOp, Sem.run_bind, h1, Result.andThen_ok, Sem.run_pure], rfl, After.refl hC h2⟩
      · cases h
    · cases h
  case makeSlice t l c =>
    simp only [evH] at h
    obtain ⟨x, w', h1, h2⟩ := makeSlice_ok hC h (opd_ok hC hf l) (opd_ok hC hf c)
    exact ⟨.value x, x, w', by simp only [execOp, Sem.run_bind, h1, Result.andThen_ok, Sem.run_pure], rfl, h2⟩
  case convert s d x =>
    simp only [evH] at h
    split at h
    · rename_i l hl
      split at h
      · rename_i hc
        obtain ⟨hc1, hc2, hc3⟩ := hc
        simp only [Option.some.injEq, Prod.mk.injEq] at h
        obtain ⟨rfl, rfl⟩ := h
        simp only [Option.bind_eq_some_iff] at hc2
        obtain ⟨e, he, hk⟩ := hc2
        have r := opd_ok hC hf x
        rw [hl] at r
        obtain ⟨y, w', h1, h2⟩ := bytes_ok hC hc1 he hk hc3
        exact ⟨.value y, y, w', by simp only [execOp, Sem.run_bind, relA_str r, h1, Result.andThen_ok, Sem.run_pure], rfl, h2⟩
      · cases h
    · cases h
  case call c =>
    obtain ⟨callee, args, tys⟩ := c
    cases callee with
    | value f => simp [evH] at h
    | invoke r m => simp [evH] at h
    | builtin b =>
      simp only [evH] at h
      split at h
      · rename_i s x t t2 hargs htys
        have hargs := toList_two hargs
        have htys := toList_two htys
        subst hargs htys
        obtain ⟨u, w', h1, h2⟩ := append_ok (ty := ty) hC h (opd_ok hC hf s) (opd_ok hC hf x)
        exact ⟨.value u, u, w', by simp [execOp, resolve, invoke, builtin, h1], rfl, h2⟩
      · cases h
end
end Go.VI
