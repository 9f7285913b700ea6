/- VI, part 8: append, make, conversions that make memory; the heavy operations' theorem. -/
import Derived.Test.YtcifhkdbaienjaaVI7
import Derived.IntWalk
set_option linter.unusedSimpArgs false
set_option linter.unusedVariables false
namespace Go.VI
section
variable {E : Env} {I : Imm} {η : Eta} {H : Hp} {w : World}

theorem bytesO_ok {P : Program} {t : TypeId} {b : Nat} (h : bytesO P t = some b) (w : World) : ∃ i, (typeInfo t).run P w = .ok i w ∧ i.bytes = b := by
  simp only [bytesO, Option.map_eq_some_iff] at h
  obtain ⟨i, hi, rfl⟩ := h
  exact ⟨i, run_typeInfo w hi, rfl⟩
theorem zeroV {P : Program} {t : TypeId} {n : Nat} (h : szO P t = some n) {row : List IV} (hz : zeroRow E t = some row) (hP : E.P = P) (w : World) :
    ∃ v, (zeroValue t).run P w = .ok v w ∧ CellsI I row v.cells ∧ v.cells.size = row.length := by
  subst hP
  unfold zeroRow at hz
  split at hz
  · rename_i cs hz0
    obtain ⟨v, h1, h2⟩ := zeroO_ok hz0 w
    refine ⟨v, h1, ?_⟩
    have hr : RelA I (fun _ => none) [] (.agg cs) v := by rw [h2]; exact relA_ofVal v
    obtain ⟨ds, rfl, e1, e2⟩ := relA_agg hr
    have key : ∀ (cs : List AV) (row : List IV), ivsOf cs = some row → cs = row.map .i := by
      intro cs
      induction cs with
      | nil => intro row h; simp [ivsOf] at h; subst h; rfl
      | cons c cs ih =>
        intro row h
        cases c <;> simp [ivsOf] at h
        obtain ⟨r, hr, rfl⟩ := h
        rw [ih r hr]; rfl
    have hcs := key _ _ hz
    subst hcs
    refine ⟨fun j x hx => relA_i (e2 j (.i x) (by simp [hx])), by simpa [Value.cells] using e1⟩
  · rename_i x hz0
    cases hz
    obtain ⟨v, h1, h2⟩ := zeroO_ok hz0 w
    have hr : RelA I (fun _ => none) [] (.i x) v := by rw [h2]; exact relA_ofVal v
    have hv := relA_i hr
    have ho := relI_one hv
    have hc : v.cells = #[v] := by cases v <;> simp_all [Value.cells, Value.oneCell']
    refine ⟨v, h1, ?_, by rw [hc]; rfl⟩
    intro j y hy
    cases j with
    | zero => simp at hy; subst hy; rw [hc]; exact hv
    | succ j => simp at hy
  · cases hz

theorem rep_flat (n : Nat) (row : List IV) : (List.replicate n row).flatten.length = n * row.length := by simp

theorem makeSlice_ok (hC : Conc E I η H w) {t : TypeId} {l c v : AV} {y z : Value} {H' : Hp} (h : makeSliceE E H t l c = some (v, H')) (rl : RelA I η H l y) (rc : RelA I η H c z) :
    ∃ x w', (Instr.makeSlice t y z).run E.P w = .ok x w' ∧ After E I η H w H' w' fun I' η' => RelA I' η' H' v x := by
  unfold makeSliceE at h
  split at h
  rotate_left
  · cases h
  rename_i e k n k' m he
  split at h
  rotate_left
  · cases h
  rename_i s row b hs hrow hb
  split at h
  rotate_left
  · cases h
  rename_i hc
  obtain ⟨c1, rfl, c3, c4, c5, c6⟩ := hc
  simp only [Option.some.injEq, Prod.mk.injEq] at h
  obtain ⟨rfl, rfl⟩ := h
  rw [relA_v rl, relA_v rc]
  obtain ⟨ti, hti, hbytes⟩ := bytesO_ok hb w
  obtain ⟨zv, hz1, hz2, hz3⟩ := zeroV (I := I) (E := E) hs hrow rfl w
  have hz2 : CellsI I (canR (E.kinds e) row) zv.cells := fun j v hv => by obtain ⟨o, y, hy, rfl⟩ := canR_get _ _ _ _ hv; exact canI_ok (hz2 j y hy)
  have hz3 := hz3.trans (canR_len (E.kinds e) row).symm
  have c4 : (canR (E.kinds e) row).length = s := by rw [canR_len]; exact c4
  clear hrow
  generalize canR (E.kinds e) row = row at *
  have hwrap : IntKind.i64.wrap n = n := by
    exact IntWalk.i64_in _ (by omega)
  let cs : Array Value := (Array.range (n.toNat * s)).map (zv.cells[· % zv.cells.size]!)
  refine ⟨.slice (some ⟨w.heap.size, 0, none⟩) n.toNat n.toNat, { w with heap := w.heap.push (.cells cs e) }, ?_, ?_⟩
  · have hbig : ¬ (281474976710656 < (b : Int) * n) := by
      have h1 : (b : Int) * n ≤ 65536 * n := Int.mul_le_mul_of_nonneg_right (by omega) c1
      omega
    have hneg : ¬ n < 0 := by omega
    by_cases h0 : n.toNat * s = 0
    · have : cs = #[] := by simp [cs, h0]
      rw [this]
      simp [Instr.makeSlice, run_underlying (slO_ok he), asInt, asIntOf, hti, hbytes, hwrap, hneg, hbig, (szO_ok hs w).1, newRow, h0]
      congr
      exact Array.eq_empty_of_size_eq_zero (by simp)
    · simp [Instr.makeSlice, run_underlying (slO_ok he), asInt, asIntOf, hti, hbytes, hwrap, hneg, hbig, (szO_ok hs w).1, newRow, h0, hz1, cs]
  · have hfl : Flat s (List.replicate n.toNat row) := by
      intro i r hi
      have hm := List.mem_of_getElem? hi
      rw [List.eq_of_mem_replicate hm]; exact c4
    have hcs : cs.size = n.toNat * s := by simp [cs]
    refine new_row (w' := { w with heap := w.heap.push (.cells cs e) }) (ex := true) (n := n.toNat) (cap := n.toNat) hC rfl rfl rfl rfl c5 hfl ?_ (by simp [hcs]) (fun _ => by simp [hcs]) (thaw0 _) (by simp) (by simp) (by simp [hcs])
    intro j x hx
    subst c4
    have hj : j < n.toNat * row.length := by have := (List.getElem?_eq_some_iff.1 hx).1; rw [rep_flat] at this; exact this
    have e1 : j / row.length * row.length + j % row.length = j := by rw [Nat.mul_comm]; exact Nat.div_add_mod _ _
    have e2 : j / row.length < n.toNat := (Nat.div_lt_iff_lt_mul c5).2 hj
    have hm : j % row.length < row.length := Nat.mod_lt _ c5
    rw [← e1, flatten_get row n.toNat _ _ e2 hm] at hx
    have h2 : cs.getD j undef = zv.cells.getD (j % row.length) undef := by
      have hm' : j % row.length < zv.cells.size := by rw [hz3]; exact hm
      rw [Array.getD_eq_getD_getElem?, Array.getD_eq_getD_getElem?]
      simp [cs, hj, hz3]
      rw [getElem!_pos zv.cells _ hm', Array.getElem?_eq_getElem hm']; rfl
    rw [h2]; exact hz2 _ _ hx

theorem bytes_ok (hC : Conc E I η H w) {s d e : TypeId} {l : List UInt8} (hs : isStrO E.P s = true) (hd : slO E.P d = some e) (he : kindO E.P e = some .u8) (hl : l.length < 1073741824) :
    ∃ x w', (convert s d (.string ⟨⟨l⟩⟩)).run E.P w = .ok x w' ∧ After E I η H w (H ++ [.sl 1 0 (l.map fun b => [IV.v (.int .u8 b.toNat)]) false]) w' fun I' η' => RelA I' η' (H ++ [.sl 1 0 (l.map fun b => [IV.v (.int .u8 b.toNat)]) false]) (.ref H.length 0 0 l.length) x := by
  -- the capacity is drawn
  let q : Question := .appendCap l.length 0 e
  let cap : Nat := q.cut (w.tape w.drawn q)
  have hcap : l.length ≤ cap := by simp only [cap, q, Question.cut]; omega
  let cs : Array Value := (l.map fun b => Value.int .u8 b.toNat).toArray ++ Array.replicate (cap - l.length) (.int .u8 0)
  have hcs : cs.size = cap := by simp [cs]; omega
  let w1 : World := { w with heap := w.heap.push (.cells cs e), drawn := w.drawn + 1 }
  let w2 : World := { w with heap := w.heap.push (.cells cs e (cap, cap + 1)), drawn := w.drawn + 1 }
  refine ⟨.slice (some ⟨w.heap.size, 0, none⟩) l.length cap, w2, ?_, ?_⟩
  · have hmark : (markStringish ⟨w.heap.size, 0, none⟩).run E.P w1 = .ok () w2 := by
      have hsh : w1.shape? w.heap.size = some (e, cap) := by simp [World.shape?, w1, hcs]
      simp only [markStringish, Sem.run_bind, run_shape, Result.andThen_ok, hsh, run_freeze]
      congr 1
      simp only [World.freeze, w1, w2]
      simp
      apply Array.ext (by simp)
      intro i h1 h2
      simp only [Array.getElem_modify, Array.getElem_push]
      by_cases hi : i < w.heap.size
      · simp [hi]; intro h3; omega
      · have : i = w.heap.size := by simp at h2; omega
        subst this; simp
    have hq : q.forced = false := rfl
    simp only [convert, Sem.run_bind, run_underlying (isStrO_ok hs), run_underlying (slO_ok hd), Result.andThen_ok, run_underlying (kindO_ok he), Conv.stringToBytes, run_choose, size_mk]
    show (Result.andThen (if q.forced then _ else _) _) = _
    rw [hq]
    simp only [Bool.false_eq_true, if_false, Result.andThen_ok, newRow, Sem.run_bind, run_newObj, Sem.run_pure]
    have hw1 : ({ heap := w.heap.push (.cells (Array.map (fun (b : UInt8) => Value.int .u8 b.toNat) { toList := l } ++ Array.replicate (q.cut (w.tape w.drawn q) - l.length) (.int .u8 0)) e), tape := w.tape, drawn := w.drawn + 1, os := w.os, output := w.output } : World) = w1 := by
      simp only [w1, cs, cap]
      simp
    rw [hw1, hmark]
    rfl
  · refine new_row (w' := w2) (sz := 1) (rows := l.map fun b => [IV.v (.int .u8 b.toNat)]) (ex := false) (n := l.length) (cap := cap) hC rfl rfl rfl rfl (by omega) ?_ ?_ (by simp [hcs]; omega) (fun h => by cases h) ?_ (by simp) (by simpa using hcap) (by simp [hcs])
    · intro i r hi
      simp only [List.getElem?_map, Option.map_eq_some_iff] at hi
      obtain ⟨b, _, rfl⟩ := hi; rfl
    · rw [flat_one]
      intro j x hx
      simp only [List.getElem?_map, Option.map_eq_some_iff] at hx
      obtain ⟨b, hb, rfl⟩ := hx
      have : cs.getD j undef = .int .u8 b.toNat := by
        have hj := (List.getElem?_eq_some_iff.1 hb).1
        rw [Array.getD_eq_getD_getElem?]
        simp [cs, Array.getElem?_append_left, hj]
        have := (List.getElem?_eq_some_iff.1 hb).2
        rw [this]
      rw [this]; exact .v _ rfl
    · intro k hk h
      rw [hcs] at hk
      simp at h; omega

/-! append -/
theorem nextcap_le (need cap : Nat) (h : cap < need) (hn : need < 1073741824) : Builtin.nextslicecap need cap ≤ 4294967296 := by
  have grow : ∀ (r c : Nat), c ≤ 2147483648 → Builtin.growBy need r c ≤ 4294967296 := by
    intro r
    induction r with
    | zero => intro c hc; simp only [Builtin.growBy]; omega
    | succ r ih =>
      intro c hc
      simp only [Builtin.growBy]
      split
      · omega
      · exact ih _ (by omega)
  unfold Builtin.nextslicecap
  split
  · omega
  · split
    · omega
    · exact grow _ _ (by omega)
theorem zeroCells_size (z : Array Value) (n : Nat) : (Builtin.zeroCells z n).size = n * z.size := by simp [Builtin.zeroCells]

/-- what the second operand's type says -/
def SrcT (P : Program) (t : TypeId) : Prop := (∃ e, P.underlying t = some (.slice e)) ∨ P.underlying t = some .string
theorem srcT {P : Program} {t : TypeId} (h : (slO P t).isSome = true ∨ isStrO P t = true) : SrcT P t := by
  rcases h with h | h
  · obtain ⟨e, he⟩ := Option.isSome_iff_exists.1 h
    exact .inl ⟨_, slO_ok he⟩
  · exact .inr (isStrO_ok h)

/-- append where there is no room: a new row -/
theorem append_grow {t t2 ty e : TypeId} {z b : Nat} {y : Value} {base : Option Addr} {sl cap : Nat} {rows new : List (List IV)} {old nw : Array Value} (he : slO E.P t = some e) (hz : szO E.P e = some z) (hb : bytesO E.P e = some b)
    {zc : Value} (hzero : ∀ w, (zeroValue e).run E.P w = .ok zc w)
    (ht2 : SrcT E.P t2) (hlen : ∀ w' : World, w'.heap = w.heap → (Builtin.lenOf y).run E.P w' = .ok new.length w') (hcap : cap < sl + new.length) (hbig : sl + new.length < 1073741824) (hbb : b ≤ 65536)
    (hold : ∀ w' : World, w'.heap = w.heap → (Builtin.firstCells z sl (.slice base sl cap)).run E.P w' = .ok old w') (hnew : ∀ w' : World, w'.heap = w.heap → (Builtin.firstCells z new.length y).run E.P w' = .ok nw w') (hzs : zc.cells.size = z) :
    ∃ w' nc, (Builtin.append_ #[t, t2] ty #[.slice base sl cap, y]).run E.P w = .ok (.slice (some ⟨w.heap.size, 0, none⟩) (sl + new.length) nc) w' ∧ sl + new.length ≤ nc ∧
      w'.heap = w.heap.push (.cells (old ++ nw ++ Builtin.zeroCells zc.cells (nc - (sl + new.length))) e) ∧ w'.os = w.os ∧ w'.tape = w.tape ∧ w'.output = w.output := by
  obtain ⟨ti, hti0, hbytes⟩ : ∃ i, (∀ w, (typeInfo e).run E.P w = .ok i w) ∧ i.bytes = b := by
    simp only [bytesO, Option.map_eq_some_iff] at hb
    obtain ⟨i, hi, rfl⟩ := hb
    exact ⟨i, fun w => run_typeInfo w hi, rfl⟩
  let q : Question := .appendCap (sl + new.length) cap e
  let nc : Nat := q.cut (w.tape w.drawn q)
  have hnc : sl + new.length ≤ nc := by simp only [nc, q, Question.cut]; omega
  let w1 : World := { w with drawn := w.drawn + 1 }
  have hnext := nextcap_le _ _ hcap hbig
  have h1 : ¬ (sl + new.length ≤ cap) := by omega
  have h2 : ¬ (Builtin.nextslicecap (sl + new.length) cap * b > 2 ^ 48) := by
    have : Builtin.nextslicecap (sl + new.length) cap * b ≤ 4294967296 * 65536 := Nat.mul_le_mul hnext hbb
    omega
  have h3 : ¬ (((sl + new.length : Nat) : Int) > IntKind.i64.max) := by
    have : IntKind.i64.max = 9223372036854775807 := by decide
    omega
  refine ⟨w.drew.alloc (.cells (old ++ nw ++ Builtin.zeroCells zc.cells (nc - (sl + new.length))) e), nc, ?_, hnc, rfl, rfl, rfl, rfl⟩
  have hq : q.forced = false := rfl
  have h2' : ¬ (281474976710656 < Builtin.nextslicecap (sl + new.length) cap * b) := h2
  have h3' : ¬ (9223372036854775807 < (sl : Int) + new.length) := by omega
  have hch : (choose (.appendCap (sl + new.length) cap e)).run E.P w = .ok nc w.drew := by
    rw [run_choose]
    show (if q.forced = true then _ else _) = _
    rw [hq]; rfl
  rcases ht2 with ⟨e2, hd2⟩ | hd2
  · simp [Builtin.append_, run_underlying (slO_ok he), (szO_ok hz w).1, run_underlying hd2, hlen w rfl, h1, h3', h2', hti0, hbytes, -run_choose, hch, hold w.drew rfl, hnew w.drew rfl, hzero, newRow]
  · simp [Builtin.append_, run_underlying (slO_ok he), (szO_ok hz w).1, run_underlying hd2, hlen w rfl, h1, h3', h2', hti0, hbytes, -run_choose, hch, hold w.drew rfl, hnew w.drew rfl, hzero, newRow]

/-- append where there is room: the cells behind the end are written -/
theorem append_room {t t2 ty e : TypeId} {z : Nat} {y : Value} {b o sl cap : Nat} {n : Nat} {nw : Array Value} (he : slO E.P t = some e) (hz : szO E.P e = some z)
    (ht2 : SrcT E.P t2) (hlen : (Builtin.lenOf y).run E.P w = .ok n w) (hcap : sl + n ≤ cap) (hnew : (Builtin.firstCells z n y).run E.P w = .ok nw w)
    {w' : World} (hst : (storeCells ⟨b, o + sl * z, none⟩ nw.toList).run E.P w = .ok () w') :
    (Builtin.append_ #[t, t2] ty #[.slice (some ⟨b, o, none⟩) sl cap, y]).run E.P w = .ok (.slice (some ⟨b, o, none⟩) (sl + n) cap) w' := by
  rcases ht2 with ⟨e2, hd2⟩ | hd2
  · simp [Builtin.append_, run_underlying (slO_ok he), (szO_ok hz w).1, run_underlying hd2, hlen, hcap, hnew, add_none, hst]
  · simp [Builtin.append_, run_underlying (slO_ok he), (szO_ok hz w).1, run_underlying hd2, hlen, hcap, hnew, add_none, hst]
/-- append of nothing to what has no room -/
theorem append_none {t t2 ty e : TypeId} {z : Nat} {y : Value} {a : Option Addr} {sl cap : Nat} (he : slO E.P t = some e) (hz : szO E.P e = some z)
    (ht2 : SrcT E.P t2) (hlen : (Builtin.lenOf y).run E.P w = .ok 0 w) (hcap : sl ≤ cap) (hnew : (Builtin.firstCells z 0 y).run E.P w = .ok #[] w) :
    (Builtin.append_ #[t, t2] ty #[.slice a sl cap, y]).run E.P w = .ok (.slice a sl cap) w := by
  rcases ht2 with ⟨e2, hd2⟩ | hd2
  · cases a <;> simp [Builtin.append_, run_underlying (slO_ok he), (szO_ok hz w).1, run_underlying hd2, hlen, hcap, hnew, storeCells]
  · cases a <;> simp [Builtin.append_, run_underlying (slO_ok he), (szO_ok hz w).1, run_underlying hd2, hlen, hcap, hnew, storeCells]
end
end Go.VI
