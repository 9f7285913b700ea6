/- VI, part 7: the heavy operations but calls. -/
import Derived.Test.YtcifhkdbaienjaaVI6
set_option linter.unusedSimpArgs false
set_option linter.unusedVariables false
namespace Go.VI
section
variable {E : Env} {I : Imm} {η : Eta} {H : Hp} {w : World}

theorem relI_one {x : IV} {y : Value} (h : RelI I x y) : y.oneCell' = true := by
  cases h with
  | v _ h => exact h
  | _ => rfl

/-! flat rows -/
def Flat (sz : Nat) (rows : List (List IV)) : Prop := ∀ (i : Nat) (r : List IV), rows[i]? = some r → r.length = sz
theorem Flat.cons {sz : Nat} {r : List IV} {rows : List (List IV)} (h : Flat sz (r :: rows)) : r.length = sz ∧ Flat sz rows := ⟨h 0 r rfl, fun i s hs => h (i + 1) s (by simpa using hs)⟩
theorem Flat.length {sz : Nat} : ∀ {rows : List (List IV)}, Flat sz rows → rows.flatten.length = rows.length * sz
  | [], _ => by simp
  | r :: rows, h => by rw [List.flatten_cons, List.length_append, h.cons.1, Flat.length h.cons.2, List.length_cons, Nat.add_mul]; omega
theorem Flat.get {sz : Nat} : ∀ {rows : List (List IV)}, Flat sz rows → ∀ {i : Nat} {r : List IV} {k : Nat} {a : IV}, rows[i]? = some r → r[k]? = some a → rows.flatten[i * sz + k]? = some a
  | [], _, i, r, k, a, hi, _ => by simp at hi
  | s :: rows, h, 0, r, k, a, hi, ha => by
    simp at hi; subst hi
    rw [List.flatten_cons, Nat.zero_mul, Nat.zero_add, List.getElem?_append_left (List.getElem?_eq_some_iff.1 ha).1]; exact ha
  | s :: rows, h, i + 1, r, k, a, hi, ha => by
    rw [List.flatten_cons, List.getElem?_append_right (by rw [h.cons.1, Nat.add_mul]; omega), h.cons.1]
    rw [← Flat.get h.cons.2 (i := i) (by simpa using hi) ha]
    congr 1; rw [Nat.add_mul]; omega
theorem Flat.append {sz : Nat} {a b : List (List IV)} (ha : Flat sz a) (hb : Flat sz b) : Flat sz (a ++ b) := by
  intro i r h
  rw [List.getElem?_append] at h
  split at h
  · exact ha _ _ h
  · exact hb _ _ h
theorem Flat.take {sz n : Nat} {a : List (List IV)} (ha : Flat sz a) : Flat sz (a.take n) := by
  intro i r h
  rw [List.getElem?_take] at h
  split at h
  · exact ha _ _ h
  · cases h
theorem Flat.drop {sz n : Nat} {a : List (List IV)} (ha : Flat sz a) : Flat sz (a.drop n) := by
  intro i r h
  rw [List.getElem?_drop] at h
  exact ha _ _ h
theorem take_flat {sz : Nat} : ∀ {rows : List (List IV)}, Flat sz rows → ∀ n, n ≤ rows.length → (rows.take n).flatten = rows.flatten.take (n * sz)
  | rows, _, 0, _ => by simp
  | [], _, n + 1, h => by simp at h
  | r :: rows, hf, n + 1, h => by
    rw [List.take_succ_cons, List.flatten_cons, List.flatten_cons, take_flat hf.cons.2 n (by simpa using h), List.take_append, hf.cons.1]
    rw [List.take_of_length_le (l := r) (by rw [hf.cons.1, Nat.add_mul]; omega)]
    congr 2; rw [Nat.add_mul]; omega
def CellsI (I : Imm) (l : List IV) (cs : Array Value) : Prop := ∀ (j : Nat) (v : IV), l[j]? = some v → RelI I v (cs.getD j undef)
theorem CellsI.rows {sz : Nat} {rows : List (List IV)} {cs : Array Value} (hf : Flat sz rows) (h : CellsI I rows.flatten cs) :
    ∀ (i : Nat) (r : List IV) (k : Nat) (a : IV), rows[i]? = some r → r[k]? = some a → RelI I a (cs.getD (i * sz + k) undef) := fun i r k a hi ha => h _ _ (hf.get hi ha)

theorem drop_flat {sz : Nat} : ∀ {rows : List (List IV)}, Flat sz rows → ∀ n, n ≤ rows.length → (rows.drop n).flatten = rows.flatten.drop (n * sz)
  | rows, _, 0, _ => by simp
  | [], _, n + 1, h => by simp at h
  | r :: rows, hf, n + 1, h => by
    rw [List.drop_succ_cons, List.flatten_cons, drop_flat hf.cons.2 n (by simpa using h), List.drop_append, hf.cons.1]
    rw [List.drop_of_length_le (l := r) (by rw [hf.cons.1, Nat.add_mul]; omega), List.nil_append]
    congr 1; rw [Nat.add_mul]; omega
theorem flat_rev {sz : Nat} (hz : 0 < sz) {rows : List (List IV)} (hf : Flat sz rows) {j : Nat} (hj : j < rows.length * sz) : ∃ r a, rows[j / sz]? = some r ∧ r[j % sz]? = some a ∧ rows.flatten[j]? = some a := by
  have h1 : j / sz < rows.length := (Nat.div_lt_iff_lt_mul hz).2 hj
  have h2 := hf _ _ (List.getElem?_eq_getElem h1)
  have h3 : j % sz < rows[j / sz].length := by rw [h2]; exact Nat.mod_lt _ hz
  refine ⟨_, _, List.getElem?_eq_getElem h1, List.getElem?_eq_getElem h3, ?_⟩
  have := hf.get (List.getElem?_eq_getElem h1) (List.getElem?_eq_getElem h3)
  rwa [show j / sz * sz + j % sz = j by rw [Nat.mul_comm]; exact Nat.div_add_mod _ _] at this

/-! what is read of a slice at once -/
theorem load_rows {P : Program} {sz : Nat} {rows : List (List IV)} {b o : Nat} (hz : 0 < sz) (hf : Flat sz rows)
    (h : ∀ (j : Nat) (v : IV), rows.flatten[j]? = some v → ∃ cv, w.cell? ⟨b, o + j, none⟩ = some cv ∧ RelI I v cv) :
    ∃ cs : Array Value, (∀ w' : World, w'.heap = w.heap → (loadCells ⟨b, o, none⟩ (rows.length * sz)).run P w' = .ok cs w') ∧ cs.size = rows.length * sz ∧ CellsI I rows.flatten cs := by
  refine ⟨((List.range (rows.length * sz)).map fun j => (w.cell? ⟨b, o + j, none⟩).getD undef).toArray, fun w' hw' => run_loadCells w' _ _ _ fun j hj => ?_, by simp, fun j v hv => ?_⟩
  · obtain ⟨r, a, _, _, h3⟩ := flat_rev hz hf hj
    obtain ⟨cv, h4, _⟩ := h _ _ h3
    have e : w'.cell? ⟨b, o + j, none⟩ = w.cell? ⟨b, o + j, none⟩ := by simp [World.cell?, hw']
    rw [add_none, e, h4]; rfl
  · have hj := (List.getElem?_eq_some_iff.1 hv).1
    rw [hf.length] at hj
    obtain ⟨cv, h4, h5⟩ := h _ _ hv
    have : ((List.range (rows.length * sz)).map fun j => (w.cell? ⟨b, o + j, none⟩).getD undef).toArray.getD j undef = cv := by
      simp [Array.getD_eq_getD_getElem?, hj, h4]
    rw [this]; exact h5

theorem relI_src {P : Program} (hi : ∀ b o, I b = some o → w.heap[b]? = some o) {sz : Nat} {rows : List (List IV)} {ex : Bool} {y : Value} (hz : 0 < sz) (h : RelI I (.sl sz rows ex) y) :
    ∃ cs : Array Value, (∀ w' : World, (Builtin.lenOf y).run P w' = .ok rows.length w') ∧ (∀ w' : World, w'.heap = w.heap → (Builtin.firstCells sz rows.length y).run P w' = .ok cs w') ∧ cs.size = rows.length * sz ∧ CellsI I rows.flatten cs ∧ Flat sz rows := by
  cases h with
  | nil sz ex a cap hx =>
    refine ⟨#[], by simp [Builtin.lenOf], fun w' _ => ?_, by simp, fun j v h => by simp at h, fun i r h => by simp at h⟩
    cases a <;> simp [Builtin.firstCells, loadCells, loadCellsFrom]
  | sl sz rows ex b off cap cs elem fz cv hI hc hx hr h1 h2 =>
    have hf : Flat sz rows := hr
    obtain ⟨ds, h3, h4, h5⟩ := load_rows (P := P) (w := w) (I := I) (b := b) (o := off) hz hf (fun j v hv => by
      have hj := (List.getElem?_eq_some_iff.1 hv).1
      rw [hf.length] at hj
      obtain ⟨r, a, e1, e2, e3⟩ := flat_rev hz hf hj
      rw [hv] at e3; cases e3
      have := h1 _ _ _ _ e1 e2
      rw [show off + j / sz * sz + j % sz = off + j by rw [Nat.add_assoc]; congr 1; rw [Nat.mul_comm]; exact Nat.div_add_mod _ _] at this
      exact ⟨_, by rw [cell_of (hi _ _ hI)]; exact this, h2 _ _ _ _ e1 e2⟩)
    exact ⟨ds, by simp [Builtin.lenOf], h3, h4, h5, hf⟩

/-- an own row, read as it is -/
theorem own_read {P : Program} {sz : Nat} {rows : List (List IV)} {b : Nat} {cs : Array Value} {elem : TypeId} {fz : Nat × Nat} (hz : 0 < sz) (hf : Flat sz rows) (hw : w.heap[b]? = some (.cells cs elem fz))
    (hle : rows.length * sz ≤ cs.size) (hc : ∀ (i : Nat) (r : List IV) (k : Nat) (a : IV), rows[i]? = some r → r[k]? = some a → RelI I a (cs.getD (i * sz + k) undef)) (off len : Nat) (ho : off + len ≤ rows.length) :
    ∃ ds : Array Value, (∀ w' : World, w'.heap = w.heap → (loadCells ⟨b, off * sz, none⟩ (len * sz)).run P w' = .ok ds w') ∧ ds.size = len * sz ∧ CellsI I ((rows.drop off).take len).flatten ds := by
  have hf' : Flat sz ((rows.drop off).take len) := hf.drop.take
  have hlen : ((rows.drop off).take len).length = len := by simp; omega
  have := load_rows (P := P) (w := w) (I := I) (b := b) (o := off * sz) hz hf' (fun j v hv => by
    have hj := (List.getElem?_eq_some_iff.1 hv).1
    rw [hf'.length, hlen] at hj
    obtain ⟨r, a, e1, e2, e3⟩ := flat_rev hz hf' (by rw [hlen]; exact hj)
    rw [hv] at e3; cases e3
    have e4 := (drop_take_get e1).1
    have e5 : (off + j / sz) * sz + j % sz = off * sz + j := by rw [Nat.add_mul, Nat.add_assoc]; congr 1; rw [Nat.mul_comm]; exact Nat.div_add_mod _ _
    have hlt : off * sz + j < cs.size := by
      have : (off + len) * sz ≤ rows.length * sz := Nat.mul_le_mul_right _ ho
      rw [Nat.add_mul] at this; omega
    have := hc _ _ _ _ e4 e2
    rw [e5] at this
    exact ⟨_, by rw [cell_of hw]; exact getD_eq _ _ hlt, this⟩)
  rwa [hlen] at this

theorem flat_one {α β : Type} (f : α → β) : ∀ l : List α, (l.map fun b => [f b]).flatten = l.map f
  | [] => rfl
  | b :: l => by simp only [List.map_cons, List.flatten_cons, List.singleton_append, flat_one f l]
theorem src_ok {P : Program} (hC : Conc E I η H w) {x : AV} {y : Value} (r : RelA I η H x y) {z : Nat} {rows : List (List IV)} {ex : Bool} (h : srcE H x = some (z, rows, ex)) {size : Nat} (hs : rows = [] ∨ z = size) (hz : 0 < size) :
    ∃ cs : Array Value, (∀ w' : World, (Builtin.lenOf y).run P w' = .ok rows.length w') ∧ (∀ w' : World, w'.heap = w.heap → (Builtin.firstCells size rows.length y).run P w' = .ok cs w') ∧ cs.size = rows.length * size ∧ CellsI I rows.flatten cs ∧ Flat size rows := by
  have emp : ∀ (y : Value), rows = [] → (∃ a cap, y = .slice a 0 cap) → ∃ cs : Array Value, (∀ w' : World, (Builtin.lenOf y).run P w' = .ok rows.length w') ∧ (∀ w' : World, w'.heap = w.heap → (Builtin.firstCells size rows.length y).run P w' = .ok cs w') ∧ cs.size = rows.length * size ∧ CellsI I rows.flatten cs ∧ Flat size rows := by
    rintro y rfl ⟨a, cap, rfl⟩
    refine ⟨#[], by simp [Builtin.lenOf], fun w' _ => ?_, by simp, fun j v h => by simp at h, fun i r h => by simp at h⟩
    cases a <;> simp [Builtin.firstCells, loadCells, loadCellsFrom]
  unfold srcE at h
  split at h
  · rename_i l
    cases h
    rw [relA_str r]
    have hsz : l = [] ∨ 1 = size := by simpa using hs
    have hfl := flat_one (fun b : UInt8 => IV.v (.int .u8 b.toNat)) l
    refine ⟨(l.map fun b => Value.int .u8 b.toNat).toArray, by simp [Builtin.lenOf, size_mk], ?_, ?_, ?_, ?_⟩
    · intro w' _
      simp only [Builtin.firstCells, Sem.run_pure, List.length_map]
      congr 1
      rw [extract_mk]
      simp
    · rcases hsz with e | e
      · subst e; simp
      · subst e; simp
    · rw [hfl]
      intro j v hv
      simp only [List.getElem?_map, Option.map_eq_some_iff] at hv
      obtain ⟨b, hb, rfl⟩ := hv
      have : ((l.map fun b => Value.int .u8 b.toNat).toArray).getD j undef = .int .u8 b.toNat := by
        simp [Array.getD_eq_getD_getElem?, hb]
      rw [this]; exact .v _ rfl
    · intro i r hi
      simp only [List.getElem?_map, Option.map_eq_some_iff] at hi
      obtain ⟨b, hb, rfl⟩ := hi
      rcases hsz with e | e
      · subst e; simp at hb
      · simpa using e
  · unfold rowsE at h
    split at h
    · cases h
      rcases hs with e | rfl
      · refine emp y e ?_
        obtain ⟨a, cap, rfl⟩ := sl_len (relA_i r)
        exact ⟨a, cap, by rw [e]; rfl⟩
      · exact relI_src hC.imm hz (relA_i r)
    · rename_i c g off len _
      split at h
      · rename_i sz g' rows' ex' hH
        split at h
        · rename_i hg
          subst hg
          cases h
          cases r with
          | ref c g off len v hc hs' hf' hp hg =>
            obtain ⟨hle, a, cap, rfl, hbk⟩ := hs' _ _ _ hH
            have hlen : ((rows'.drop off).take len).length = len := by simp; omega
            rcases hs with e | rfl
            · refine emp _ e ⟨a, cap, ?_⟩
              rw [e] at hlen; simp at hlen; rw [← hlen]
            · obtain ⟨hz0, hfl, h3⟩ := hC.ch _ _ hH
              rcases hbk with ⟨he, hc0⟩ | ⟨b, m, he, h1, h2, h4⟩
              · rcases h3 with ⟨_, h5⟩ | ⟨b, _, _, _, h5, _⟩
                · subst h5; simp at hle; obtain ⟨rfl, rfl⟩ := hle
                  exact emp _ (by simp) ⟨_, _, rfl⟩
                · rw [he] at h5; cases h5
              · rcases h3 with ⟨h5, _⟩ | ⟨b', cs, elem, fz, h5, h6, h7, h8, h9, h10⟩
                · rw [he] at h5; cases h5
                · rw [he] at h5; cases h5
                  rcases h4 with rfl | ⟨rfl, rfl⟩
                  · obtain ⟨ds, e1, e2, e3⟩ := own_read (P := P) (I := I) hz hfl h6 h8 h10 off len hle
                    refine ⟨ds, by rw [hlen]; simp [Builtin.lenOf], fun w' hw' => by rw [hlen]; exact e1 w' hw', by rw [hlen]; exact e2, e3, Flat.take (Flat.drop hfl)⟩
                  · exact emp _ (by simp) ⟨_, _, rfl⟩
        · cases h
      · rename_i sz g' rows' ex' hH
        split at h
        · rename_i hg
          subst hg
          cases h
          cases r with
          | ref c g off len v hc hs' hf' hp hg =>
            obtain ⟨hle, rI⟩ := hf' _ _ _ hH
            rcases hs with e | rfl
            · refine emp _ e ?_
              obtain ⟨a, cap, rfl⟩ := sl_len rI
              exact ⟨a, cap, by rw [e]; rfl⟩
            · exact relI_src hC.imm hz rI
        · cases h
      · cases h
    · cases h

/-! new blocks -/
def etaNew (η : Eta) (c b n : Nat) : Eta := fun d => if d = c then some (b, n) else η d
theorem new_ok (hC : Conc E I η H w) {w' : World} {cs : Array Value} {elem : TypeId} {fz : Nat × Nat} (hw : w'.heap = w.heap.push (.cells cs elem fz)) (ho : w'.os = w.os) (ht : w'.tape = w.tape) (hu : w'.output = w.output) (ch : Chunk)
    (hch : Mono I η H I (etaNew η H.length w.heap.size cs.size) (H ++ [ch]) → ChunkOK I (etaNew η H.length w.heap.size cs.size) (H ++ [ch]) w' H.length ch) {Q : Imm → Eta → Prop}
    (hQ : Mono I η H I (etaNew η H.length w.heap.size cs.size) (H ++ [ch]) → Q I (etaNew η H.length w.heap.size cs.size)) : After E I η H w (H ++ [ch]) w' Q := by
  have hold : ∀ b, b < w.heap.size → w'.heap[b]? = w.heap[b]? := by
    intro b hb
    rw [hw, Array.getElem?_push, if_neg (by omega)]
  have hnew : ∀ d, H.length ≤ d → η d = none := by
    intro d hd
    cases h : η d with
    | none => rfl
    | some p => have := (hC.sep d p.1 p.2 h).2.2; omega
  have hm : Mono I η H I (etaNew η H.length w.heap.size cs.size) (H ++ [ch]) := by
    refine mono_of (fun _ _ h => h) (by simp) fun c hc => ?_
    exact CStep.same (by rw [List.getElem?_append_left hc]) (by simp [etaNew, show c ≠ H.length by omega])
  have hin : ∀ c b n, etaNew η H.length w.heap.size cs.size c = some (b, n) → (c = H.length ∧ b = w.heap.size ∧ n = cs.size) ∨ η c = some (b, n) := by
    intro c b n h
    unfold etaNew at h
    split at h
    · cases h; exact .inl ⟨by assumption, rfl, rfl⟩
    · exact .inr h
  refine ⟨I, etaNew η H.length w.heap.size cs.size, ⟨fun b o hb => ?_, fun c x hx => ?_, fun c c' b n n' h1 h2 => ?_, fun c b n h => ?_, hC.glob⟩, ⟨ho, ht, hu, by rw [hw]; simp, fun b hb _ => hold b hb, fun _ _ h => h, fun b h => .inl h, fun c b n h => ?_⟩, hm, hQ hm⟩
  · have := hC.imm b o hb
    have hlt : b < w.heap.size := (Array.getElem?_eq_some_iff.1 this).1
    rw [hold b hlt]; exact this
  · by_cases hc : c < H.length
    · rw [List.getElem?_append_left hc] at hx
      refine (hC.ch c x hx).mono (by simp [etaNew, show c ≠ H.length by omega]) (fun _ _ h => h) hm fun b n h => hold b (hC.sep _ _ _ h).2.1
    · have : c = H.length := by
        have := (List.getElem?_eq_some_iff.1 hx).1
        simp at this; omega
      subst this
      simp at hx; subst hx
      exact hch hm
  · rcases hin _ _ _ h1 with ⟨rfl, rfl, rfl⟩ | e1
    · rcases hin _ _ _ h2 with ⟨e, _, _⟩ | e2
      · exact e.symm
      · have := (hC.sep _ _ _ e2).2.1; omega
    · rcases hin _ _ _ h2 with ⟨e, rfl, _⟩ | e2
      · have := (hC.sep _ _ _ e1).2.1; omega
      · exact hC.inj _ _ _ _ _ e1 e2
  · rcases hin _ _ _ h with ⟨rfl, rfl, rfl⟩ | e1
    · refine ⟨?_, by rw [hw]; simp, by simp⟩
      cases hI : I w.heap.size with
      | none => rfl
      | some o => have := hC.imm _ _ hI; simp at this
    · have := hC.sep _ _ _ e1
      exact ⟨this.1, by rw [hw]; simp; omega, by simp; omega⟩
  · rcases hin _ _ _ h with ⟨rfl, rfl, rfl⟩ | e1
    · exact .inl (Nat.le_refl _)
    · exact .inr ⟨_, _, e1⟩

theorem thaw0 (n : Nat) : Thaw (0, 0) n := fun k _ h => by simp at h
theorem heap_push_new {w w' : World} {o : Obj} (hw : w'.heap = w.heap.push o) : w'.heap[w.heap.size]? = some o := by rw [hw]; simp

/-- a new variable -/
theorem new_box (hC : Conc E I η H w) {a : AV} {y : Value} (r : RelA I η H a y) (ho : (cellsA a).all one = true) (t : TypeId) :
    ∃ x w', (Instr.box t y).run E.P w = .ok x w' ∧ After E I η H w (H ++ [.box (cellsA a)]) w' fun I' η' => RelA I' η' (H ++ [.box (cellsA a)]) (.ptr H.length 0 0 0) x := by
  obtain ⟨h1, h2, h3⟩ := cells_ok r ho
  refine ⟨.pointer (some ⟨w.heap.size, 0, none⟩), { w with heap := w.heap.push (.cells y.cells t) }, by simp [Instr.box, newVar, newRow], ?_⟩
  refine new_ok (w' := { w with heap := w.heap.push (.cells y.cells t) }) hC rfl rfl rfl rfl _ (fun hm => ?_) (fun hm => ?_)
  · exact ⟨w.heap.size, y.cells, t, (0, 0), by simp [etaNew], heap_push_new rfl, thaw0 _, h1, fun k c hc => hm _ _ (h2 k c hc)⟩
  · refine .ptr _ _ _ _ _ (by simp) (fun cells h => ⟨w.heap.size, y.cells.size, by simp [etaNew], rfl⟩) (fun _ _ _ h => by simp at h) (fun _ _ _ _ h => by simp at h) (fun _ _ h => by simp at h) ⟨_, rfl⟩ (fun _ _ _ _ h => by simp at h)

/-- a new row, told by its flat cells -/
theorem new_row (hC : Conc E I η H w) {w' : World} {cs : Array Value} {elem : TypeId} {fz : Nat × Nat} (hw : w'.heap = w.heap.push (.cells cs elem fz)) (ho : w'.os = w.os) (ht : w'.tape = w.tape) (hu : w'.output = w.output)
    {sz : Nat} {rows : List (List IV)} {ex : Bool} (hz : 0 < sz) (hf : Flat sz rows) (hc : CellsI I rows.flatten cs) (hle : rows.length * sz ≤ cs.size) (hx : ex = true → cs.size = rows.length * sz) (hth : Thaw fz cs.size)
    {n cap : Nat} (hn : n ≤ rows.length) (hcap : rows.length ≤ cap) (hcs : cap * sz ≤ cs.size) :
    After E I η H w (H ++ [.sl sz 0 rows ex]) w' fun I' η' => RelA I' η' (H ++ [.sl sz 0 rows ex]) (.ref H.length 0 0 n) (.slice (some ⟨w.heap.size, 0, none⟩) n cap) := by
  refine new_ok hC hw ho ht hu _ (fun hm => ?_) (fun hm => ?_)
  · exact ⟨fun e => by omega, hf, .inr ⟨w.heap.size, cs, elem, fz, by simp [etaNew], heap_push_new hw, hth, hle, hx, CellsI.rows hf hc⟩⟩
  · refine .ref _ _ _ _ _ (by simp) (fun sz2 rows2 ex2 h => ?_) (fun _ _ _ h => by simp at h) ⟨_, _, rfl⟩ (fun _ _ _ _ h => by omega)
    simp at h
    obtain ⟨rfl, rfl, rfl⟩ := h
    exact ⟨by omega, _, _, rfl, .inr ⟨w.heap.size, cs.size, by simp [etaNew], by omega, by simpa using hcs, .inl (by simp)⟩⟩

/-! composites of slices -/
theorem After.trans {H' H'' : Hp} {w' w'' : World} {Q Q' : Imm → Eta → Prop} (h : After E I η H w H' w' Q) (k : ∀ I' η', Conc E I' η' H' w' → I.le I' → Mono I η H I' η' H' → Q I' η' → After E I' η' H' w' H'' w'' Q') : After E I η H w H'' w'' Q' := by
  obtain ⟨I', η', h1, h2, h3, h4⟩ := h
  obtain ⟨I'', η'', k1, k2, k3, k4⟩ := k I' η' h1 h2.imm h3 h4
  exact ⟨I'', η'', k1, h2.trans k2, h3.trans k3, k4⟩
theorem freezeAll_ok : ∀ {I : Imm} {η : Eta} {H : Hp} (hC : Conc E I η H w) {l : List AV} (f : Nat → Value) (r : ∀ (k : Nat) (a : AV), l[k]? = some a → RelA I η H a (f k)) {xs : List IV} {H' : Hp} (h : freezeAll H l = some (xs, H')),
    After E I η H w H' w fun I' η' => xs.length = l.length ∧ ∀ (k : Nat) (x : IV), xs[k]? = some x → RelI I' x (f k)
  | I, η, H, hC, [], f, r, xs, H', h => by
    simp only [freezeAll, Option.some.injEq, Prod.mk.injEq] at h
    obtain ⟨rfl, rfl⟩ := h
    exact After.refl hC ⟨rfl, fun k x hx => by simp at hx⟩
  | I, η, H, hC, a :: l, f, r, xs, H', h => by
    simp only [freezeAll] at h
    split at h
    · rename_i x H1 h1
      split at h
      · rename_i ys H2 h2
        simp only [Option.some.injEq, Prod.mk.injEq] at h
        obtain ⟨rfl, rfl⟩ := h
        refine (freeze_ok hC (r 0 a rfl) h1).trans fun I1 η1 hC1 _ hm hx => ?_
        refine (freezeAll_ok hC1 (fun k => f (k + 1)) (fun k b hb => hm _ _ (r (k + 1) b (by simpa using hb))) h2).imp fun I2 η2 hI _ hy => ?_
        refine ⟨by simp [hy.1], fun k y hk => ?_⟩
        cases k with
        | zero => simp at hk; subst hk; exact hx.mono hI
        | succ k => exact hy.2 k y (by simpa using hk)
      · cases h
    · cases h

theorem canI_ok {I : Imm} {k : Option Nat} {x : IV} {v : Value} (r : RelI I x v) : RelI I (canI k x) v := by
  cases k with
  | none => cases x <;> exact r
  | some z =>
    cases x with
    | sl sz rows ex =>
      have weak : ∀ sz', (rows = [] ∨ sz' = sz) → RelI I (.sl sz' rows false) v := by
        intro sz' hs
        cases r with
        | nil _ _ a cap h => exact .nil _ _ _ _ (fun h => by cases h)
        | sl _ _ _ b off cap cs elem fz cv hI hc hx hr h1 h2 =>
          rcases hs with hs | rfl
          · subst hs
            exact .nil _ _ _ _ (fun h => by cases h)
          · exact .sl _ _ _ b off cap cs elem fz cv hI hc (fun h => by cases h) hr h1 h2
      simp only [canI]
      split
      · rename_i e; subst e; exact weak _ (.inr rfl)
      · split
        · rename_i e; subst e; exact weak _ (.inl rfl)
        · exact weak _ (.inr rfl)
    | _ => exact r
theorem canR_len : ∀ (ks : List (Option Nat)) (l : List IV), (canR ks l).length = l.length
  | [], l => rfl
  | k :: ks, [] => rfl
  | k :: ks, x :: l => by simp [canR, canR_len ks l]
theorem canR_get : ∀ (ks : List (Option Nat)) (l : List IV) (i : Nat) (y : IV), (canR ks l)[i]? = some y → ∃ k x, l[i]? = some x ∧ y = canI k x
  | [], l, i, y, h => ⟨none, y, h, by cases y <;> rfl⟩
  | k :: ks, [], i, y, h => by simp [canR] at h
  | k :: ks, x :: l, 0, y, h => by simp [canR] at h; exact ⟨k, x, rfl, h.symm⟩
  | k :: ks, x :: l, i + 1, y, h => by simpa using canR_get ks l i y (by simpa [canR] using h)
theorem canR_ok {I : Imm} {ks : List (Option Nat)} {xs : List IV} {n : Nat} {f : Nat → Value} (h : xs.length = n ∧ ∀ (k : Nat) (x : IV), xs[k]? = some x → RelI I x (f k)) : (canR ks xs).length = n ∧ ∀ (k : Nat) (x : IV), (canR ks xs)[k]? = some x → RelI I x (f k) :=
  ⟨by rw [canR_len]; exact h.1, fun k x hx => by obtain ⟨o, y, hy, rfl⟩ := canR_get _ _ _ _ hx; exact canI_ok (h.2 k y hy)⟩

theorem chop_spec (z : Nat) : ∀ (n : Nat) (l : List IV), l.length = n * z → (chop z n l).length = n ∧ (chop z n l).flatten = l ∧ Flat z (chop z n l)
  | 0, l, h => by
    have : l = [] := by simpa using h
    subst this
    exact ⟨rfl, rfl, fun i r hi => by simp [chop] at hi⟩
  | n + 1, l, h => by
    obtain ⟨h1, h2, h3⟩ := chop_spec z n (l.drop z) (by simp [h, Nat.add_mul])
    refine ⟨by simp [chop, h1], by simp [chop, h2], fun i r hi => ?_⟩
    cases i with
    | zero => simp [chop] at hi; subst hi; simp; rw [h, Nat.add_mul]; omega
    | succ i => exact h3 i r (by simpa [chop] using hi)

theorem rep_cells {l : List AV} {cs : Array Value} (h : CellsOK I η H l cs) (n : Nat) (hz : 0 < l.length) :
    CellsOK I η H (List.replicate n l).flatten ((Array.range (n * l.length)).map (cs[· % cs.size]!)) := by
  refine ⟨by simp, fun k a ha => ?_⟩
  have hk : k < n * l.length := by have := (List.getElem?_eq_some_iff.1 ha).1; simpa using this
  have e : k / l.length * l.length + k % l.length = k := by rw [Nat.mul_comm]; exact Nat.div_add_mod _ _
  have hlt : k / l.length < n := (Nat.div_lt_iff_lt_mul hz).2 hk
  rw [← e, flatten_get l n _ _ hlt (Nat.mod_lt _ hz)] at ha
  have := h.2 _ _ ha
  have h2 : ((Array.range (n * l.length)).map (cs[· % cs.size]!)).getD k undef = cs.getD (k % l.length) undef := by
    have hm : k % l.length < cs.size := by rw [h.1]; exact Nat.mod_lt _ hz
    rw [Array.getD_eq_getD_getElem?, Array.getD_eq_getD_getElem?]
    simp [hk, h.1]
    rw [getElem!_pos cs _ hm, Array.getElem?_eq_getElem hm]; rfl
  rw [h2]; exact this

theorem buildSlice_ok (hC : Conc E I η H w) {t : TypeId} {n : Nat} {ps : List (Nat × AV)} {qs : Array (Nat × Value)} {v : AV} {H' : Hp} (h : buildSliceE E H t n ps = some (v, H')) (hp : PartsOK I η H ps qs.toList) :
    ∃ x w', (Instr.buildSlice t n qs).run E.P w = .ok x w' ∧ After E I η H w H' w' fun I' η' => RelA I' η' H' v x := by
  unfold buildSliceE at h
  split at h
  rotate_left
  · cases h
  rename_i e he
  split at h
  rotate_left
  · cases h
  rename_i z zero hz hzero
  split at h
  rotate_left
  · cases h
  rename_i hc
  obtain ⟨hc1, hc2, hc3⟩ := hc
  split at h
  rotate_left
  · cases h
  rename_i cells hfill
  split at h
  rotate_left
  · cases h
  rename_i xs H1 hfr
  simp only [Option.some.injEq, Prod.mk.injEq] at h
  obtain ⟨rfl, rfl⟩ := h
  obtain ⟨hc4, hc5⟩ := hc3
  obtain ⟨zv, hzr, hze⟩ := zeroO_ok hzero w
  have hzr' : RelA I η H zero zv := by rw [hze]; exact relA_ofVal zv
  have hzc : CellsOK I η H (cellsA zero) zv.cells := ⟨(cells_ok hzr' hc5).1, (cells_ok hzr' hc5).2.1⟩
  have hrep := rep_cells hzc n (by rw [hc2]; exact hc4)
  rw [hc2] at hrep
  obtain ⟨ds, hds, hdc⟩ := fillA_ok hp hrep hfill
  have hcl : cells.length = n * z := by
    have : ∀ (ps : List (Nat × AV)) (l out : List AV), fillA z l ps = some out → out.length = l.length := by
      intro ps
      induction ps with
      | nil => intro l out h; simp [fillA] at h; rw [h]
      | cons p ps ih =>
        intro l out h
        obtain ⟨i, a⟩ := p
        simp only [fillA] at h
        split at h
        · rename_i hk
          rw [ih _ _ h, over_length (by omega)]
        · cases h
    rw [this _ _ _ hfill]; simp [hc2]
  have hdsz : ds.size = n * z := by rw [hdc.1, hcl]
  refine ⟨.slice (some ⟨w.heap.size, 0, none⟩) n n, { w with heap := w.heap.push (.cells ds e) }, ?_, ?_⟩
  · have hnz : ¬ (n * z > 2 ^ 24) := by omega
    by_cases h0 : n * z = 0
    · have hn : n = 0 := by
        rcases Nat.mul_eq_zero.1 h0 with h1 | h1
        · exact h1
        · omega
      subst hn
      have hds' : Instr.fill (fun i => some (i * z, z)) #[] qs.toList = some ds := by
        rw [← hds]; congr 1; simp
      simp only [Instr.buildSlice, Sem.run_bind, run_underlying (slO_ok he), Result.andThen_ok, (szO_ok hz w).1]
      have e0 : ∀ f : Nat → Value, (Array.range 0).map f = #[] := fun f => by simp
      simp only [h0, e0, if_true, Sem.run_pure, Result.andThen_ok, hds']
      simp [newRow]
    · simp only [Instr.buildSlice, Sem.run_bind, run_underlying (slO_ok he), Result.andThen_ok, (szO_ok hz w).1, hnz, if_false, h0, hzr, Sem.run_pure]
      rw [hds]
      simp [newRow]
  · refine (freezeAll_ok hC (fun k => ds.getD k undef) hdc.2 hfr).trans fun I1 η1 hC1 hI1 hm1 hx => ?_
    have hx := canR_ok (ks := (List.replicate n (E.kinds e)).flatten) hx
    obtain ⟨c1, c2, c3⟩ := chop_spec z n (canR (List.replicate n (E.kinds e)).flatten xs) (by rw [hx.1, hcl])
    have := new_row (w' := { w with heap := w.heap.push (.cells ds e) }) hC1 rfl rfl rfl rfl (ex := true) (n := n) (cap := n) hc4 c3 (by rw [c2]; exact hx.2) (by rw [c1]; omega) (fun _ => by rw [c1]; exact hdsz) (thaw0 _) (by omega) (by omega) (by omega)
    exact this

/-! stores -/
theorem storeCells_ok (P : Program) (b o : Nat) (elem : TypeId) (fz : Nat × Nat) : ∀ (vs : List Value) (i : Nat) (cur : Array Value) (w : World), w.heap[b]? = some (.cells cur elem fz) → Thaw fz cur.size → o + i + vs.length ≤ cur.size →
    (∀ v ∈ vs, v.oneCell' = true) → ∃ w' cur', (storeCells ⟨b, o, none⟩ vs i).run P w = .ok () w' ∧ w'.heap[b]? = some (.cells cur' elem fz) ∧ (∀ b', b' ≠ b → w'.heap[b']? = w.heap[b']?) ∧ w'.heap.size = w.heap.size ∧
      w'.os = w.os ∧ w'.tape = w.tape ∧ w'.output = w.output ∧ cur'.size = cur.size ∧ ∀ k, cur'[k]? = if o + i ≤ k ∧ k < o + i + vs.length then vs[k - (o + i)]? else cur[k]?
  | [], i, cur, w, hw, _, _, _ => ⟨w, cur, by simp [storeCells], hw, fun _ _ => rfl, rfl, rfl, rfl, rfl, rfl, fun k => by rw [if_neg (by simp only [List.length_nil]; omega)]⟩
  | v :: vs, i, cur, w, hw, hth, hle, hone => by
    simp only [List.length_cons] at hle
    have hlt : o + i < cur.size := by omega
    have hcell : w.cell? ⟨b, o + i, none⟩ = some cur[o + i] := by rw [cell_of hw]; simp [hlt]
    have hfr : w.frozen? ⟨b, o + i, none⟩ = false := by
      simp only [World.frozen?, hw]
      have := hth (o + i) hlt
      simpa using this
    let w1 : World := w.setCell ⟨b, o + i, none⟩ v
    have hw1 : w1.heap[b]? = some (.cells (cur.setIfInBounds (o + i) v) elem fz) := by
      simp [w1, World.setCell, Array.getElem?_modify, hw]
    have hoth : ∀ b', b' ≠ b → w1.heap[b']? = w.heap[b']? := by
      intro b' hb
      simp [w1, World.setCell, Array.getElem?_modify, Ne.symm hb]
    obtain ⟨w', cur', h1, h2, h3, h4, h5, h6, h7, h8, h9⟩ := storeCells_ok P b o elem fz vs (i + 1) (cur.setIfInBounds (o + i) v) w1 hw1 (by simpa using hth) (by rw [Array.size_setIfInBounds]; omega) (fun x hx => hone x (by simp [hx]))
    refine ⟨w', cur', ?_, h2, fun b' hb => by rw [h3 b' hb, hoth b' hb], by rw [h4]; simp [w1, World.setCell], h5, h6, h7, by rw [h8]; simp, fun k => ?_⟩
    · simp only [storeCells, Sem.run_bind, add_none]
      rw [run_store _ _ _ _ _ (hone v (by simp)), hcell, hfr]
      exact h1
    · rw [h9]
      by_cases hk : k = o + i
      · subst hk
        rw [if_neg (by omega), if_pos (by constructor <;> simp)]
        simp [hlt]
      · by_cases hr : o + (i + 1) ≤ k ∧ k < o + (i + 1) + vs.length
        · rw [if_pos hr, if_pos (by simp; omega)]
          rw [show k - (o + i) = (k - (o + (i + 1))) + 1 by omega]; simp
        · rw [if_neg hr, if_neg (by simp; omega)]
          rw [Array.getElem?_setIfInBounds_ne (by omega)]

/-- an own block has been written: one chunk is another, the rest is as it was -/
theorem wrote (hC : Conc E I η H w) {w' : World} {c b n : Nat} (hη : η c = some (b, n)) {ch ch0 : Chunk} (hH : H[c]? = some ch0) (hoth : ∀ b', b' ≠ b → w'.heap[b']? = w.heap[b']?) (hsz : w'.heap.size = w.heap.size) (ho : w'.os = w.os) (ht : w'.tape = w.tape) (hu : w'.output = w.output)
    (hst : CStep I η H I η (H.set c ch) c) (hch : Mono I η H I η (H.set c ch) → ChunkOK I η (H.set c ch) w' c ch) {Q : Imm → Eta → Prop} (hQ : Mono I η H I η (H.set c ch) → Q I η) : After E I η H w (H.set c ch) w' Q := by
  have hcl : c < H.length := (List.getElem?_eq_some_iff.1 hH).1
  have hm : Mono I η H I η (H.set c ch) := by
    refine mono_of (fun _ _ h => h) (by simp) fun d hd => ?_
    by_cases hdc : d = c
    · subst hdc; exact hst
    · exact CStep.same (by rw [List.getElem?_set_ne (Ne.symm hdc)]) rfl
  have hIb : I b = none := (hC.sep _ _ _ hη).1
  refine ⟨I, η, ⟨fun b' o hb => ?_, fun d x hd => ?_, hC.inj, fun d b' n' hd => ?_, hC.glob⟩, ⟨ho, ht, hu, by rw [hsz]; exact Nat.le_refl _, fun b' hb hn => hoth b' (fun e => hn c n (e ▸ hη)), fun _ _ h => h, fun _ h => .inl h, fun _ _ _ h => .inr ⟨_, _, h⟩⟩, hm, hQ hm⟩
  · have hbb : b' ≠ b := fun e => by subst e; rw [hIb] at hb; cases hb
    rw [hoth _ hbb]; exact hC.imm _ _ hb
  · rcases set_get hd with ⟨rfl, rfl⟩ | ⟨h1, h2⟩
    · exact hch hm
    · exact (hC.ch _ _ h2).mono rfl (fun _ _ h => h) hm fun b' n' h3 => hoth _ fun e => h1 (hC.inj _ _ _ _ _ (e ▸ h3) hη)
  · have := hC.sep _ _ _ hd
    exact ⟨this.1, by rw [hsz]; exact this.2.1, by simpa using this.2.2⟩

theorem vals_get (y : Value) {k : Nat} (h : k < y.cells.size) : y.cells.toList[k]? = some (y.cells.getD k undef) := by
  simp [h]

theorem store_ok (hC : Conc E I η H w) {t : TypeId} {p v : AV} {y z : Value} {H' : Hp} (h : storeE E H t p v = some H') (rp : RelA I η H p y) (rv : RelA I η H v z) :
    ∃ w', (Instr.storeAt t y z).run E.P w = .ok () w' ∧ After E I η H w H' w' fun _ _ => True := by
  unfold storeE at h
  split at h
  rotate_left
  · cases h
  rename_i n hn
  split at h
  rotate_left
  · cases h
  rename_i hc
  obtain ⟨hc1, hc2⟩ := hc
  obtain ⟨z1, z2, z3⟩ := cells_ok rv hc2
  split at h
  rotate_left
  · cases h
  rename_i c g r k
  have hones : ∀ x ∈ z.cells.toList, x.oneCell' = true := by
    intro x hx
    obtain ⟨j, hj, rfl⟩ := List.getElem_of_mem hx
    have := z3 j (by simpa using hj)
    simpa [Array.getD_eq_getD_getElem?, show j < z.cells.size by simpa using hj] using this
  have hzs : z.cells.size = n := by rw [z1, hc1]
  have run : ∀ (a : Addr) (w' : World), (storeCells a z.cells.toList 0).run E.P w = .ok () w' → (Instr.storeAt t (.pointer (some a)) z).run E.P w = .ok () w' := by
    intro a w' hr
    simp [Instr.storeAt, Instr.sureAddr, storeVar, (szO_ok hn w).1, hzs, hr]
  split at h
  · rename_i cells hH
    split at h
    · rename_i hk
      simp only [Option.some.injEq] at h
      subst h
      cases rp with
      | ptr c g r k v' hc' hb hs hf hi hp hg =>
        obtain ⟨b, m, hη, rfl⟩ := hb _ hH
        obtain ⟨b', cs, elem, fz, hη', hw, hth, hsz, hcell⟩ := hC.ch _ _ hH
        rw [hη] at hη'; cases hη'
        obtain ⟨w', cur', h1, h2, h3, h4, h5, h6, h7, h8, h9⟩ := storeCells_ok E.P b k elem fz z.cells.toList 0 cs w hw hth (by simp; omega) hones
        refine ⟨w', run _ _ h1, wrote hC hη hH h3 h4 h5 h6 h7 ?_ (fun hm => ?_) (fun _ => trivial)⟩
        · intro y hy
          rcases set_get hy with ⟨_, rfl⟩ | ⟨e, _⟩
          · exact .inl ⟨cells, hH, rfl⟩
          · exact absurd rfl e
        · refine ⟨b, cur', elem, fz, by rw [h8]; exact hη, h2, by rw [h8]; exact hth, by rw [h8, hsz, over_length (by omega)], fun j a ha => hm _ _ ?_⟩
          rw [over_get (by omega)] at ha
          have hcur : cur'.getD j undef = if k ≤ j ∧ j < k + n then z.cells.getD (j - k) undef else cs.getD j undef := by
            rw [Array.getD_eq_getD_getElem?, h9]
            simp only [Nat.add_zero, Array.length_toList, hzs]
            split
            · rw [Array.getElem?_toList, Array.getD_eq_getD_getElem?]
            · rw [Array.getD_eq_getD_getElem?]
          rw [hcur]
          rw [hc1] at ha
          split at ha
          · rename_i hj; rw [if_pos hj]; exact z2 _ _ ha
          · rename_i hj; rw [if_neg hj]; exact hcell _ _ ha
    · cases h
  · rename_i hH0
    split at h
    rotate_left
    · cases h
    rename_i xs H1 hfr
    split at h
    rotate_left
    · cases h
    rename_i sz g' rows ex hH
    split at h
    rotate_left
    · cases h
    rename_i hg
    obtain ⟨rfl, hks⟩ := hg
    split at h
    rotate_left
    · cases h
    rename_i row hrow
    simp only [Option.some.injEq] at h
    subst h
    obtain ⟨I1, η1, hC1, hT1, hm1, hx12⟩ := freezeAll_ok hC (fun k => z.cells.getD k undef) z2 hfr
    obtain ⟨hx1, hx2⟩ := canR_ok (ks := E.kinds t) hx12
    generalize canR (E.kinds t) xs = xs at *
    have rp1 := hm1 _ _ rp
    cases rp1 with
    | ptr c g r k v' hc' hb hs hf hi hp hg =>
      obtain ⟨b, m, hη, rfl⟩ := hs _ _ _ hH
      obtain ⟨hz, hfl, h3⟩ := hC1.ch _ _ hH
      rcases h3 with ⟨h5, _⟩ | ⟨b', cs, elem, fz, h5, hw, hth, hle, hxx, hcell⟩
      · rw [hη] at h5; cases h5
      · rw [hη] at h5; cases h5
        have hr := (List.getElem?_eq_some_iff.1 hrow).1
        have hrl := hfl _ _ hrow
        have hin : r * sz + sz ≤ cs.size := by
          have : (r + 1) * sz ≤ rows.length * sz := Nat.mul_le_mul_right _ hr
          rw [Nat.add_mul] at this; omega
        obtain ⟨w', cur', h1, h2, h3, h4, h5, h6, h7, h8, h9⟩ := storeCells_ok E.P b (r * sz + k) elem fz z.cells.toList 0 cs w hw hth (by simp; omega) hones
        refine ⟨w', run _ _ h1, ?_⟩
        have hcur : ∀ j, cur'.getD j undef = if r * sz + k ≤ j ∧ j < r * sz + k + n then z.cells.getD (j - (r * sz + k)) undef else cs.getD j undef := by
          intro j
          rw [Array.getD_eq_getD_getElem?, h9]
          simp only [Nat.add_zero, Array.length_toList, hzs]
          split
          · rw [Array.getElem?_toList, Array.getD_eq_getD_getElem?]
          · rw [Array.getD_eq_getD_getElem?]
        have hxn : xs.length = n := by rw [hx1, hc1]
        have key : After E I1 η1 H1 w (H1.set c (.sl sz g (rows.set r (row.take k ++ xs ++ row.drop (k + n))) ex)) w' fun _ _ => True := by
          refine wrote hC1 hη hH h3 h4 h5 h6 h7 ?_ (fun hm => ?_) (fun _ => trivial)
          · intro y hy
            rcases set_get hy with ⟨_, rfl⟩ | ⟨e, _⟩
            · exact .inl ⟨rows, ex, hH, rfl, by simp⟩
            · exact absurd rfl e
          · have rs : ∀ (i : Nat) (r' : List IV), (rows.set r (row.take k ++ xs ++ row.drop (k + n)))[i]? = some r' → (i = r ∧ r' = row.take k ++ xs ++ row.drop (k + n)) ∨ (i ≠ r ∧ rows[i]? = some r') := by
              intro i r' hi
              by_cases hir : i = r
              · subst hir
                rw [List.getElem?_set_self (by omega)] at hi
                cases hi; exact .inl ⟨rfl, rfl⟩
              · rw [List.getElem?_set_ne (Ne.symm hir)] at hi; exact .inr ⟨hir, hi⟩
            refine ⟨hz, fun i r' hi => ?_, .inr ⟨b, cur', elem, fz, by rw [h8]; exact hη, h2, by rw [h8]; exact hth, by rw [h8, List.length_set]; exact hle, fun he => by rw [h8, List.length_set]; exact hxx he, fun i r' kk a hi ha => ?_⟩⟩
            · rcases rs _ _ hi with ⟨_, rfl⟩ | ⟨_, h⟩
              · simp [hxn, hrl]; omega
              · exact hfl _ _ h
            · rcases rs _ _ hi with ⟨rfl, rfl⟩ | ⟨hir, h⟩
              · rw [hcur]
                by_cases e1 : kk < k
                · rw [if_neg (by omega)]
                  rw [List.append_assoc, List.getElem?_append_left (by simp; omega), List.getElem?_take, if_pos e1] at ha
                  exact hcell _ _ _ _ hrow ha
                · by_cases e2 : kk < k + n
                  · rw [if_pos (by omega), show i * sz + kk - (i * sz + k) = kk - k by omega]
                    rw [List.append_assoc, List.getElem?_append_right (by simp; omega), List.getElem?_append_left (by simp; omega)] at ha
                    have e3 : kk - (List.take k row).length = kk - k := by simp; omega
                    rw [e3] at ha
                    exact hx2 _ _ ha
                  · rw [if_neg (by omega)]
                    rw [List.append_assoc, List.getElem?_append_right (by simp; omega), List.getElem?_append_right (by simp; omega), List.getElem?_drop] at ha
                    have e3 : k + n + (kk - (List.take k row).length - xs.length) = kk := by simp; omega
                    rw [e3] at ha
                    exact hcell _ _ _ _ hrow ha
              · rw [hcur]
                have hkk : kk < sz := by have := (List.getElem?_eq_some_iff.1 ha).1; rw [hfl _ _ h] at this; exact this
                rw [if_neg]
                · exact hcell _ _ _ _ h ha
                · rcases Nat.lt_or_gt_of_ne hir with e1 | e1
                  · have : (i + 1) * sz ≤ r * sz := Nat.mul_le_mul_right _ e1
                    rw [Nat.add_mul] at this; omega
                  · have : (r + 1) * sz ≤ i * sz := Nat.mul_le_mul_right _ e1
                    rw [Nat.add_mul] at this; omega
        obtain ⟨I2, η2, k1, k2, k3, _⟩ := key
        exact ⟨I2, η2, k1, hT1.trans k2, hm1.trans k3, trivial⟩
  · cases h
end
end Go.VI
