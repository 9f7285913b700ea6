import Derived.IntWalk
import Derived.Laws.BytesArg
import Derived.Laws.RangeString
import Derived.Tactics
import Derived.TacticsIn
import Derived.OrdersIn
import Derived.Test.YtediniocfjapiaaGreatDoorZTVI1
set_option linter.unusedSimpArgs false
set_option linter.unusedVariables false
set_option linter.unusedSimpArgs false
set_option linter.unusedVariables false
namespace Go.VI
section
variable {E : Env} {I : Imm} {η : Eta} {H : Hp} {w : World}

theorem bytesO_ok {P : Program} {t : TypeId} {b : Nat} (h : bytesO P t = some b) (w : World) : ∃ i, (typeInfo t).run P w = .ok i w ∧ i.bytes = b := by
 simp only [bytesO, Option.map_eq_some_iff] at h
 obtain ⟨i, hi, rfl⟩ := h
 exact ⟨i, run_typeInfo w hi, rfl⟩
theorem zeroV {P : Program} {t : TypeId} {n : Nat} (h : szO P t = some n) {row : List IV} (hz : zeroRow E t = some row) (hP : E.P = P) (w : World) :
  ∃ v, (zeroValue t).run P w = .ok v w ∧ CellsI I row v.cells ∧ v.cells.size = row.length := by
 subst hP
 unfold zeroRow at hz
 split at hz
 ·rename_i cs hz0
  obtain ⟨v, h1, h2⟩ := zeroO_ok hz0 w
  refine ⟨v, h1, ?_⟩
  have hr : RelA I (fun _ => none) [] (.agg cs) v := by rw [h2]; exact relA_ofVal v
  obtain ⟨ds, rfl, e1, e2⟩ := relA_agg hr
  have key : ∀ (cs : List AV) (row : List IV), ivsOf cs = some row → cs = row.map .i := by
   intro cs
   induction cs with
   | nil => intro row h; simp [ivsOf] at h; subst h; rfl
   | cons c cs ih =>
    intro row h
    cases c <;> simp [ivsOf] at h
    obtain ⟨r, hr, rfl⟩ := h
    rw [ih r hr]; rfl
  have hcs := key _ _ hz
  subst hcs
  refine ⟨fun j x hx => relA_i (e2 j (.i x) (by simp [hx])), by simpa [Value.cells] using e1⟩
 ·rename_i x hz0
  cases hz
  obtain ⟨v, h1, h2⟩ := zeroO_ok hz0 w
  have hr : RelA I (fun _ => none) [] (.i x) v := by rw [h2]; exact relA_ofVal v
  have hv := relA_i hr
  have ho := relI_one hv
  have hc : v.cells = #[v] := by cases v <;> simp_all [Value.cells, Value.oneCell']
  refine ⟨v, h1, ?_, by rw [hc]; rfl⟩
  intro j y hy
  cases j with
  | zero => simp at hy; subst hy; rw [hc]; exact hv
  | succ j => simp at hy
 ·cases hz

theorem rep_flat (n : Nat) (row : List IV) : (List.replicate n row).flatten.length = n * row.length := by simp

theorem makeSlice_ok (hC : Conc E I η H w) {t : TypeId} {l c v : AV} {y z : Value} {H' : Hp} (h : makeSliceE E H t l c = some (v, H')) (rl : RelA I η H l y) (rc : RelA I η H c z) :
  ∃ x w', (Instr.makeSlice t y z).run E.P w = .ok x w' ∧ After E I η H w H' w' fun I' η' => RelA I' η' H' v x := by
 unfold makeSliceE at h
 split at h
 rotate_left
 ·cases h
 rename_i e k n k' m he
 split at h
 rotate_left
 ·cases h
 rename_i s row b hs hrow hb
 split at h
 rotate_left
 ·split at h
  ·rename_i hc
   obtain ⟨rfl, c2, c3, c4, c5, c6⟩ := hc
   simp only [Option.some.injEq, Prod.mk.injEq] at h
   obtain ⟨rfl, rfl⟩ := h
   rw [relA_v rl, relA_v rc]
   obtain ⟨ti, hti, hbytes⟩ := bytesO_ok hb w
   obtain ⟨zv, hz1, hz2, hz3⟩ := zeroV (I := I) (E := E) hs hrow rfl w
   have hwrap : IntKind.i64.wrap m = m := IntWalk.i64_in _ (by omega)
   have hwrap0 : IntKind.i64.wrap 0 = 0 := IntWalk.i64_in _ (by omega)
   let cs : Array Value := (Array.range (m.toNat * s)).map (zv.cells[· % zv.cells.size]!)
   have hcs : cs.size = m.toNat * s := by simp [cs]
   refine ⟨.slice (some ⟨w.heap.size, 0, none⟩) 0 m.toNat, { w with heap := w.heap.push (.cells cs e) }, ?_, ?_⟩
   ·have hbig : ¬ (281474976710656 < (b : Int) * m) := by
     have h1 : (b : Int) * m ≤ 65536 * m := Int.mul_le_mul_of_nonneg_right (by omega) (by omega)
     omega
    have hneg : ¬ m < 0 := by omega
    have h0 : ¬ m.toNat * s = 0 := Nat.ne_of_gt (Nat.mul_pos (by omega) c5)
    simp [Instr.makeSlice, run_underlying (slO_ok he), asInt, asIntOf, hti, hbytes, hwrap, hwrap0, hneg, hbig, (szO_ok hs w).1, newRow, h0, hz1, cs]
   ·exact new_row (w' := { w with heap := w.heap.push (.cells cs e) }) (rows := []) (ex := false) (n := 0) (cap := m.toNat) hC rfl rfl rfl rfl c5 (fun i r h => by simp at h) (fun i x h => by simp at h) (by simp) (fun h => by cases h) (thaw0 _) (by simp) (by simp) (by rw [hcs]; exact Nat.le_refl _)
  ·cases h
 rename_i hc
 obtain ⟨c1, rfl, c3, c4, c5, c6⟩ := hc
 simp only [Option.some.injEq, Prod.mk.injEq] at h
 obtain ⟨rfl, rfl⟩ := h
 rw [relA_v rl, relA_v rc]
 obtain ⟨ti, hti, hbytes⟩ := bytesO_ok hb w
 obtain ⟨zv, hz1, hz2, hz3⟩ := zeroV (I := I) (E := E) hs hrow rfl w
 have hz2 : CellsI I (canR (E.kinds e) row) zv.cells := fun j v hv => by obtain ⟨o, y, hy, rfl⟩ := canR_get _ _ _ _ hv; exact canI_ok (hz2 j y hy)
 have hz3 := hz3.trans (canR_len (E.kinds e) row).symm
 have c4 : (canR (E.kinds e) row).length = s := by rw [canR_len]; exact c4
 clear hrow
 generalize canR (E.kinds e) row = row at *
 have hwrap : IntKind.i64.wrap n = n := by
  exact IntWalk.i64_in _ (by omega)
 let cs : Array Value := (Array.range (n.toNat * s)).map (zv.cells[· % zv.cells.size]!)
 refine ⟨.slice (some ⟨w.heap.size, 0, none⟩) n.toNat n.toNat, { w with heap := w.heap.push (.cells cs e) }, ?_, ?_⟩
 ·have hbig : ¬ (281474976710656 < (b : Int) * n) := by
   have h1 : (b : Int) * n ≤ 65536 * n := Int.mul_le_mul_of_nonneg_right (by omega) c1
   omega
  have hneg : ¬ n < 0 := by omega
  by_cases h0 : n.toNat * s = 0
  ·have : cs = #[] := by simp [cs, h0]
   rw [this]
   simp [Instr.makeSlice, run_underlying (slO_ok he), asInt, asIntOf, hti, hbytes, hwrap, hneg, hbig, (szO_ok hs w).1, newRow, h0]
   congr
   exact Array.eq_empty_of_size_eq_zero (by simp)
  ·simp [Instr.makeSlice, run_underlying (slO_ok he), asInt, asIntOf, hti, hbytes, hwrap, hneg, hbig, (szO_ok hs w).1, newRow, h0, hz1, cs]
 ·have hfl : Flat s (List.replicate n.toNat row) := by
   intro i r hi
   have hm := List.mem_of_getElem? hi
   rw [List.eq_of_mem_replicate hm]; exact c4
  have hcs : cs.size = n.toNat * s := by simp [cs]
  refine new_row (w' := { w with heap := w.heap.push (.cells cs e) }) (ex := true) (n := n.toNat) (cap := n.toNat) hC rfl rfl rfl rfl c5 hfl ?_ (by simp [hcs]) (fun _ => by simp [hcs]) (thaw0 _) (by simp) (by simp) (by simp [hcs])
  intro j x hx
  subst c4
  have hj : j < n.toNat * row.length := by have := (List.getElem?_eq_some_iff.1 hx).1; rw [rep_flat] at this; exact this
  have e1 : j / row.length * row.length + j % row.length = j := by rw [Nat.mul_comm]; exact Nat.div_add_mod _ _
  have e2 : j / row.length < n.toNat := (Nat.div_lt_iff_lt_mul c5).2 hj
  have hm : j % row.length < row.length := Nat.mod_lt _ c5
  rw [← e1, flatten_get row n.toNat _ _ e2 hm] at hx
  have h2 : cs.getD j undef = zv.cells.getD (j % row.length) undef := by
   have hm' : j % row.length < zv.cells.size := by rw [hz3]; exact hm
   rw [Array.getD_eq_getD_getElem?, Array.getD_eq_getD_getElem?]
   simp [cs, hj, hz3]
   rw [getElem!_pos zv.cells _ hm', Array.getElem?_eq_getElem hm']; rfl
  rw [h2]; exact hz2 _ _ hx

theorem bytes_ok (hC : Conc E I η H w) {s d e : TypeId} {l : List UInt8} (hs : isStrO E.P s = true) (hd : slO E.P d = some e) (he : kindO E.P e = some .u8) (hl : l.length < 1073741824) :
  ∃ x w', (convert s d (.string ⟨⟨l⟩⟩)).run E.P w = .ok x w' ∧ After E I η H w (H ++ [.sl 1 0 (l.map fun b => [IV.v (.int .u8 b.toNat)]) false]) w' fun I' η' => RelA I' η' (H ++ [.sl 1 0 (l.map fun b => [IV.v (.int .u8 b.toNat)]) false]) (.ref H.length 0 0 l.length) x := by
 -- the capacity is drawn
 let q : Question := .appendCap l.length 0 e
 let cap : Nat := q.cut (w.tape w.drawn q)
 have hcap : l.length ≤ cap := by simp only [cap, q, Question.cut]; omega
 let cs : Array Value := (l.map fun b => Value.int .u8 b.toNat).toArray ++ Array.replicate (cap - l.length) (.int .u8 0)
 have hcs : cs.size = cap := by simp [cs]; omega
 let w1 : World := { w with heap := w.heap.push (.cells cs e), drawn := w.drawn + 1 }
 let w2 : World := { w with heap := w.heap.push (.cells cs e (cap, cap + 1)), drawn := w.drawn + 1 }
 refine ⟨.slice (some ⟨w.heap.size, 0, none⟩) l.length cap, w2, ?_, ?_⟩
 ·have hmark : (markStringish ⟨w.heap.size, 0, none⟩).run E.P w1 = .ok () w2 := by
   have hsh : w1.shape? w.heap.size = some (e, cap) := by simp [World.shape?, w1, hcs]
   simp only [markStringish, Sem.run_bind, run_shape, Result.andThen_ok, hsh, run_freeze]
   congr 1
   simp only [World.freeze, w1, w2]
   simp
   apply Array.ext (by simp)
   intro i h1 h2
   simp only [Array.getElem_modify, Array.getElem_push]
   by_cases hi : i < w.heap.size
   ·simp [hi]; intro h3; omega
   ·have : i = w.heap.size := by simp at h2; omega
    subst this; simp
  have hq : q.forced = false := rfl
  simp only [convert, Sem.run_bind, run_underlying (isStrO_ok hs), run_underlying (slO_ok hd), Result.andThen_ok, run_underlying (kindO_ok he), Conv.stringToBytes, run_choose, size_mk]
  show (Result.andThen (if q.forced then _ else _) _) = _
  rw [hq]
  simp only [Bool.false_eq_true, if_false, Result.andThen_ok, newRow, Sem.run_bind, run_newObj, Sem.run_pure]
  have hw1 : ({ heap := w.heap.push (.cells (Array.map (fun (b : UInt8) => Value.int .u8 b.toNat) { toList := l } ++ Array.replicate (q.cut (w.tape w.drawn q) - l.length) (.int .u8 0)) e), tape := w.tape, drawn := w.drawn + 1, os := w.os, output := w.output } : World) = w1 := by
   simp only [w1, cs, cap]
   simp
  rw [hw1, hmark]
  rfl
 ·refine new_row (w' := w2) (sz := 1) (rows := l.map fun b => [IV.v (.int .u8 b.toNat)]) (ex := false) (n := l.length) (cap := cap) hC rfl rfl rfl rfl (by omega) ?_ ?_ (by simp [hcs]; omega) (fun h => by cases h) ?_ (by simp) (by simpa using hcap) (by simp [hcs])
  ·intro i r hi
   simp only [List.getElem?_map, Option.map_eq_some_iff] at hi
   obtain ⟨b, _, rfl⟩ := hi; rfl
  ·rw [flat_one]
   intro j x hx
   simp only [List.getElem?_map, Option.map_eq_some_iff] at hx
   obtain ⟨b, hb, rfl⟩ := hx
   have : cs.getD j undef = .int .u8 b.toNat := by
    have hj := (List.getElem?_eq_some_iff.1 hb).1
    rw [Array.getD_eq_getD_getElem?]
    simp [cs, Array.getElem?_append_left, hj]
    have := (List.getElem?_eq_some_iff.1 hb).2
    rw [this]
   rw [this]; exact .v _ rfl
  ·intro k hk h
   rw [hcs] at hk
   simp at h; omega

theorem runesFrom_eq (l : List UInt8) : ∀ (n i : Nat) (acc : Array Value), Conv.runesFrom ⟨⟨l⟩⟩ n i acc = acc ++ ((runesL l n i).map (Value.int .i32)).toArray
 | 0, i, acc => by simp [Conv.runesFrom, runesL]
 | n + 1, i, acc => by
  unfold Conv.runesFrom runesL
  rw [size_mk]
  split
  ·simp only
   rw [runesFrom_eq l n]
   simp
  ·simp
theorem runes_ok (hC : Conc E I η H w) {s d e : TypeId} {l : List UInt8} (hs : isStrO E.P s = true) (hd : slO E.P d = some e) (he : kindO E.P e = some .i32) (hl : (rowsR l).length < 1073741824) :
  ∃ x w', (convert s d (.string ⟨⟨l⟩⟩)).run E.P w = .ok x w' ∧ After E I η H w (H ++ [.sl 1 0 (rowsR l) false]) w' fun I' η' => RelA I' η' (H ++ [.sl 1 0 (rowsR l) false]) (.ref H.length 0 0 (rowsR l).length) x := by
 let rs := runesL l l.length 0
 have hrl : (rowsR l).length = rs.length := by simp [rowsR, rs]
 let q : Question := .appendCap rs.length 0 e
 let cap : Nat := q.cut (w.tape w.drawn q)
 have hcap : rs.length ≤ cap := by simp only [cap, q, Question.cut]; omega
 let cs : Array Value := (rs.map (Value.int .i32)).toArray ++ Array.replicate (cap - rs.length) (.int .i32 0)
 have hcs : cs.size = cap := by simp [cs]; omega
 let w1 : World := { w with heap := w.heap.push (.cells cs e), drawn := w.drawn + 1 }
 refine ⟨.slice (some ⟨w.heap.size, 0, none⟩) (rowsR l).length cap, w1, ?_, ?_⟩
 ·have hq : q.forced = false := rfl
  have hrun : Conv.runesFrom ⟨⟨l⟩⟩ l.length 0 #[] = (rs.map (Value.int .i32)).toArray := by rw [runesFrom_eq]; simp [rs]
  simp only [convert, Sem.run_bind, run_underlying (isStrO_ok hs), run_underlying (slO_ok hd), Result.andThen_ok, run_underlying (kindO_ok he), Conv.stringToRunes, run_choose, size_mk, hrun, List.size_toArray, List.length_map]
  show (Result.andThen (if q.forced then _ else _) _) = _
  rw [hq]
  simp only [Bool.false_eq_true, if_false, Result.andThen_ok, newRow, Sem.run_bind, run_newObj, Sem.run_pure]
  simp only [hrl]
  rfl
 ·refine new_row (w' := w1) (sz := 1) (rows := rowsR l) (ex := false) (n := (rowsR l).length) (cap := cap) hC rfl rfl rfl rfl (by omega) ?_ ?_ (by simp [hcs]; omega) (fun h => by cases h) ?_ (by simp) (by simpa [hrl] using hcap) (by simp [hcs])
  ·intro i r hi
   simp only [rowsR, List.getElem?_map, Option.map_eq_some_iff] at hi
   obtain ⟨b, _, rfl⟩ := hi; rfl
  ·unfold rowsR
   rw [flat_one]
   intro j x hx
   simp only [List.getElem?_map, Option.map_eq_some_iff] at hx
   obtain ⟨b, hb, rfl⟩ := hx
   have : cs.getD j undef = .int .i32 b := by
    have hj := (List.getElem?_eq_some_iff.1 hb).1
    rw [Array.getD_eq_getD_getElem?]
    have hj' : j < rs.length := hj
    simp [cs, Array.getElem?_append_left, hj']
    exact (List.getElem?_eq_some_iff.1 hb).2
   rw [this]; exact .v _ rfl
  ·intro k hk h
   simp at h
theorem convH_ok (hC : Conc E I η H w) {s d : TypeId} {l : List UInt8} {v : AV} {H' : Hp} (hs : isStrO E.P s = true) (hl : l.length < 1073741824) (h : convH H l ((slO E.P d).bind (kindO E.P)) = some (v, H')) :
  ∃ x w', (convert s d (.string ⟨⟨l⟩⟩)).run E.P w = .ok x w' ∧ After E I η H w H' w' fun I' η' => RelA I' η' H' v x := by
 cases hb : (slO E.P d).bind (kindO E.P) with
 | none => rw [hb] at h; cases h
 | some k =>
  rw [hb] at h
  simp only [Option.bind_eq_some_iff] at hb
  obtain ⟨e, he, hk⟩ := hb
  unfold convH at h
  split at h
  ·rename_i hh
   cases hh; cases h
   exact bytes_ok hC hs he hk hl
  ·rename_i hh
   cases hh; cases h
   refine runes_ok hC hs he hk (Nat.lt_of_le_of_lt ?_ hl)
   have key : ∀ n i, (runesL l n i).length ≤ n := by
    intro n
    induction n with
    | zero => intro i; simp [runesL]
    | succ n ih =>
     intro i
     unfold runesL
     split
     ·simpa using ih _
     ·simp
   simpa [rowsR] using key l.length 0
  ·cases h

theorem nextcap_le (need cap : Nat) (h : cap < need) (hn : need < 1073741824) : Builtin.nextslicecap need cap ≤ 4294967296 := by
 have grow : ∀ (r c : Nat), c ≤ 2147483648 → Builtin.growBy need r c ≤ 4294967296 := by
  intro r
  induction r with
  | zero => intro c hc; simp only [Builtin.growBy]; omega
  | succ r ih =>
   intro c hc
   simp only [Builtin.growBy]
   split
   ·omega
   ·exact ih _ (by omega)
 unfold Builtin.nextslicecap
 split
 ·omega
 ·split
  ·omega
  ·exact grow _ _ (by omega)
theorem zeroCells_size (z : Array Value) (n : Nat) : (Builtin.zeroCells z n).size = n * z.size := by simp [Builtin.zeroCells]

def SrcT (P : Program) (t : TypeId) : Prop := (∃ e, P.underlying t = some (.slice e)) ∨ P.underlying t = some .string
theorem srcT {P : Program} {t : TypeId} (h : (slO P t).isSome = true ∨ isStrO P t = true) : SrcT P t := by
 rcases h with h | h
 ·obtain ⟨e, he⟩ := Option.isSome_iff_exists.1 h
  exact .inl ⟨_, slO_ok he⟩
 ·exact .inr (isStrO_ok h)

theorem append_grow {t t2 ty e : TypeId} {z b : Nat} {y : Value} {base : Option Addr} {sl cap : Nat} {rows new : List (List IV)} {old nw : Array Value} (he : slO E.P t = some e) (hz : szO E.P e = some z) (hb : bytesO E.P e = some b)
  {zc : Value} (hzero : ∀ w, (zeroValue e).run E.P w = .ok zc w)
  (ht2 : SrcT E.P t2) (hlen : ∀ w' : World, w'.heap = w.heap → (Builtin.lenOf y).run E.P w' = .ok new.length w') (hcap : cap < sl + new.length) (hbig : sl + new.length < 1073741824) (hbb : b ≤ 65536)
  (hold : ∀ w' : World, w'.heap = w.heap → (Builtin.firstCells z sl (.slice base sl cap)).run E.P w' = .ok old w') (hnew : ∀ w' : World, w'.heap = w.heap → (Builtin.firstCells z new.length y).run E.P w' = .ok nw w') (hzs : zc.cells.size = z) :
  ∃ w' nc, (Builtin.append_ #[t, t2] ty #[.slice base sl cap, y]).run E.P w = .ok (.slice (some ⟨w.heap.size, 0, none⟩) (sl + new.length) nc) w' ∧ sl + new.length ≤ nc ∧
   w'.heap = w.heap.push (.cells (old ++ nw ++ Builtin.zeroCells zc.cells (nc - (sl + new.length))) e) ∧ w'.os = w.os ∧ w'.tape = w.tape ∧ w'.output = w.output := by
 obtain ⟨ti, hti0, hbytes⟩ : ∃ i, (∀ w, (typeInfo e).run E.P w = .ok i w) ∧ i.bytes = b := by
  simp only [bytesO, Option.map_eq_some_iff] at hb
  obtain ⟨i, hi, rfl⟩ := hb
  exact ⟨i, fun w => run_typeInfo w hi, rfl⟩
 let q : Question := .appendCap (sl + new.length) cap e
 let nc : Nat := q.cut (w.tape w.drawn q)
 have hnc : sl + new.length ≤ nc := by simp only [nc, q, Question.cut]; omega
 let w1 : World := { w with drawn := w.drawn + 1 }
 have hnext := nextcap_le _ _ hcap hbig
 have h1 : ¬ (sl + new.length ≤ cap) := by omega
 have h2 : ¬ (Builtin.nextslicecap (sl + new.length) cap * b > 2 ^ 48) := by
  have : Builtin.nextslicecap (sl + new.length) cap * b ≤ 4294967296 * 65536 := Nat.mul_le_mul hnext hbb
  omega
 have h3 : ¬ (((sl + new.length : Nat) : Int) > IntKind.i64.max) := by
  have : IntKind.i64.max = 9223372036854775807 := by decide
  omega
 refine ⟨w.drew.alloc (.cells (old ++ nw ++ Builtin.zeroCells zc.cells (nc - (sl + new.length))) e), nc, ?_, hnc, rfl, rfl, rfl, rfl⟩
 have hq : q.forced = false := rfl
 have h2' : ¬ (281474976710656 < Builtin.nextslicecap (sl + new.length) cap * b) := h2
 have h3' : ¬ (9223372036854775807 < (sl : Int) + new.length) := by omega
 have hch : (choose (.appendCap (sl + new.length) cap e)).run E.P w = .ok nc w.drew := by
  rw [run_choose]
  show (if q.forced = true then _ else _) = _
  rw [hq]; rfl
 rcases ht2 with ⟨e2, hd2⟩ | hd2
 ·simp [Builtin.append_, run_underlying (slO_ok he), (szO_ok hz w).1, run_underlying hd2, hlen w rfl, h1, h3', h2', hti0, hbytes, -run_choose, hch, hold w.drew rfl, hnew w.drew rfl, hzero, newRow]
 ·simp [Builtin.append_, run_underlying (slO_ok he), (szO_ok hz w).1, run_underlying hd2, hlen w rfl, h1, h3', h2', hti0, hbytes, -run_choose, hch, hold w.drew rfl, hnew w.drew rfl, hzero, newRow]

theorem append_room {t t2 ty e : TypeId} {z : Nat} {y : Value} {b o sl cap : Nat} {n : Nat} {nw : Array Value} (he : slO E.P t = some e) (hz : szO E.P e = some z)
  (ht2 : SrcT E.P t2) (hlen : (Builtin.lenOf y).run E.P w = .ok n w) (hcap : sl + n ≤ cap) (hnew : (Builtin.firstCells z n y).run E.P w = .ok nw w)
  {w' : World} (hst : (storeCells ⟨b, o + sl * z, none⟩ nw.toList).run E.P w = .ok () w') :
  (Builtin.append_ #[t, t2] ty #[.slice (some ⟨b, o, none⟩) sl cap, y]).run E.P w = .ok (.slice (some ⟨b, o, none⟩) (sl + n) cap) w' := by
 rcases ht2 with ⟨e2, hd2⟩ | hd2
 ·simp [Builtin.append_, run_underlying (slO_ok he), (szO_ok hz w).1, run_underlying hd2, hlen, hcap, hnew, add_none, hst]
 ·simp [Builtin.append_, run_underlying (slO_ok he), (szO_ok hz w).1, run_underlying hd2, hlen, hcap, hnew, add_none, hst]
theorem append_none {t t2 ty e : TypeId} {z : Nat} {y : Value} {a : Option Addr} {sl cap : Nat} (he : slO E.P t = some e) (hz : szO E.P e = some z)
  (ht2 : SrcT E.P t2) (hlen : (Builtin.lenOf y).run E.P w = .ok 0 w) (hcap : sl ≤ cap) (hnew : (Builtin.firstCells z 0 y).run E.P w = .ok #[] w) :
  (Builtin.append_ #[t, t2] ty #[.slice a sl cap, y]).run E.P w = .ok (.slice a sl cap) w := by
 rcases ht2 with ⟨e2, hd2⟩ | hd2
 ·cases a <;> simp [Builtin.append_, run_underlying (slO_ok he), (szO_ok hz w).1, run_underlying hd2, hlen, hcap, hnew, storeCells]
 ·cases a <;> simp [Builtin.append_, run_underlying (slO_ok he), (szO_ok hz w).1, run_underlying hd2, hlen, hcap, hnew, storeCells]
end
end Go.VI

set_option linter.unusedSimpArgs false
set_option linter.unusedVariables false
namespace Go.VI
section
variable {E : Env} {I : Imm} {η : Eta} {H : Hp} {w : World}

theorem nums_flat : ∀ {rows : List (List IV)} {l : List Int}, numsOf rows = some l → rows.length = l.length ∧ rows.flatten = l.map fun n => IV.v (.int .u8 n)
 | [], l, h => by simp only [numsOf, Option.some.injEq] at h; subst h; simp
 | r :: rows, l, h => by
  unfold numsOf at h
  split at h
  ·rename_i e; cases e
  ·rename_i n r' e
   simp only [List.cons.injEq] at e
   obtain ⟨rfl, rfl⟩ := e
   simp only [Option.map_eq_some_iff] at h
   obtain ⟨m, hm, rfl⟩ := h
   obtain ⟨h1, h2⟩ := nums_flat hm
   simp [h1, h2]
  ·cases h
theorem convS_ok (hC : Conc E I η H w) {s d e : TypeId} {x v : AV} {y : Value} (hs : slO E.P s = some e) (h : convS E H e d x = some v) (r : RelA I η H x y) : ∃ u, (convert s d y).run E.P w = .ok u w ∧ RelA I η H v u := by
 unfold convS at h
 split at h
 rotate_left
 ·cases h
 rename_i hc
 split at h
 rotate_left
 ·cases h
 rename_i z rows ex hrow
 split at h
 rotate_left
 ·cases h
 rename_i hz
 simp only [Option.map_eq_some_iff] at h
 obtain ⟨l, hl, rfl⟩ := h
 have hsrc : srcE H x = some (z, rows, ex) := by
  cases x with
  | i u => cases u with
   | str l => simp [rowsE] at hrow
   | _ => exact hrow
  | _ => exact hrow
 obtain ⟨cs, c1, c2, c3, c4, c5⟩ := src_ok (P := E.P) hC r hsrc hz (Nat.lt_add_one 0)
 obtain ⟨n1, n2⟩ := nums_flat hl
 have hy : ∃ a cap, y = .slice a rows.length cap := by
  cases x with
  | i u => cases u with
   | sl sz rows' ex' =>
    simp only [rowsE, Option.some.injEq, Prod.mk.injEq] at hrow
    obtain ⟨rfl, rfl, rfl⟩ := hrow
    exact sl_len (relA_i r)
   | _ => simp [rowsE] at hrow
  | ref c g off len =>
   obtain ⟨a, cap, rfl⟩ := ref_len r
   have := c1 w
   simp only [Builtin.lenOf, Sem.run_pure, Result.ok.injEq] at this
   exact ⟨a, cap, by rw [this.1]⟩
  | _ => simp [rowsE] at hrow
 obtain ⟨a, cap, rfl⟩ := hy
 have hcs : cs = (l.map (Value.int .u8)).toArray := by
  apply Array.ext
  ·rw [c3]; simp [n1]
  ·intro j h1 h2
   have hj : j < l.length := by simpa using h2
   have h3 := c4 j (.v (.int .u8 l[j])) (by rw [n2]; simp [hj])
   rw [Array.getD_eq_getD_getElem?, Array.getElem?_eq_getElem h1, Option.getD_some] at h3
   generalize cs[j] = q at h3 ⊢
   cases h3; simp
 rw [run_convert_bytes_string w s d e a rows.length cap (slO_ok hs) (kindO_ok hc.2) (isStrO_ok hc.1)]
 cases a with
 | none =>
  have hl0 := c2 w rfl
  simp only [Builtin.firstCells, Sem.run_pure, Result.ok.injEq, and_true] at hl0
  rw [hcs] at hl0
  have : l = [] := by
   cases l with
   | nil => rfl
   | cons a l => have := congrArg Array.size hl0; simp at this
  subst this
  exact ⟨_, rfl, relA_mkstr⟩
 | some a =>
  have hl0 := c2 w rfl
  simp only [Builtin.firstCells, Nat.mul_one] at hl0
  rw [hcs] at hl0
  rw [run_bytesToString w a rows.length cap l hl0, foldl_push_bytes]
  refine ⟨_, rfl, ?_⟩
  have := relA_mkstr (I := I) (η := η) (H := H) (l := l.map fun n => UInt8.ofNat n.toNat)
  have e : ∀ a : Array UInt8, ByteArray.empty.data ++ a = a := fun a => by
   have h0 : ByteArray.empty.data = #[] := rfl
   rw [h0]; simp
  rw [e]
  exact this

theorem findNow_ok (n : Int) (zero : Option AV) : ∀ (l : List MapEntry) (es : List (Int × Nat)) (i : Nat), l.map (fun e => (e.key, e.val)) = es.map (fun p => (Value.int .i64 p.1, Value.func (.func p.2) #[] #[])) →
  (Instr.findNow (.int .i64) (.int .i64 n) l i = some none ∧ lookM zero n es = lookM zero n []) ∨ ∃ j f, Instr.findNow (.int .i64) (.int .i64 n) l i = some (some (j, .func (.func f) #[] #[])) ∧ lookM zero n es = some (.tup [.clo (.func f) [] [], .bool true])
 | [], [], i, h => .inl ⟨rfl, rfl⟩
 | e :: l, p :: es, i, h => by
  simp only [List.map_cons, List.cons.injEq, Prod.mk.injEq] at h
  obtain ⟨⟨h1, h2⟩, h3⟩ := h
  obtain ⟨k, f⟩ := p
  simp only at h1 h2
  unfold Instr.findNow
  rw [h1]
  simp only [Instr.sameNow, if_true]
  by_cases hn : n = k
  ·subst hn
   refine .inr ⟨i, f, by simp [h2], by rw [lookM, if_pos rfl]⟩
  ·have hb : (n == k) = false := by simp [hn]
   rw [hb]
   rw [lookM, if_neg hn]
   exact findNow_ok n zero l es (i + 1) h3
theorem mapO_ok {P : Program} {t k e} (h : mapO P t = some (k, e)) : P.underlying t = some (.map k e) := by
 unfold mapO at h; split at h <;> simp_all
theorem look_ok {t : TypeId} {x k v : AV} {y z : Value} (hC : Conc E I η H w) (h : lookE E t x k = some v) (rx : RelA I η H x y) (rk : RelA I η H k z) :
  ∃ u, (Instr.lookup t y z true).run E.P w = .ok u w ∧ RelA I η H v u := by
 unfold lookE at h
 split at h
 ·rename_i kt e hm
  split at h
  ·rename_i hk
   split at h
   ·rename_i es n
    have hu := mapO_ok hm
    have hku := kindO_ok hk
    obtain rfl := relA_v rk
    cases relA_i rx with
    | mp es b arr clock hI hes =>
     have hh := hC.imm _ _ hI
     have hobj : (getObj b).run E.P w = .ok (.map arr clock) w := by simp [getObj, Sem.run, hh]
     have hck : ∀ em : Bool, (Instr.checkKey em 10000 kt (.int .i64 n)).run E.P w = .ok () w := fun em => by
      unfold Instr.checkKey; simp [run_underlying hku]
     rcases findNow_ok n (zeroO E.P e) arr.toList es 0 hes with ⟨f1, f2⟩ | ⟨j, f, f1, f2⟩
     ·rw [f2] at h
      simp only [lookM] at h
      split at h
      ·rename_i zv hz
       split at h
       ·cases h
        obtain ⟨vz, hz1, rfl⟩ := zeroO_ok hz w
        refine ⟨.tuple #[vz, .bool false], ?_, ?_⟩
        ·unfold Instr.lookup
         simp only [Sem.run_bind, run_underlying hu, Result.andThen_ok, hobj, Sem.run_pure, hck, Instr.findKey, run_underlying hku, f1, hz1, if_true]
        ·exact .tup _ _ (by simp) fun k a ha => by
          match k, ha with
          | 0, ha => cases ha; exact relA_ofVal vz
          | 1, ha => cases ha; exact .i _ _ (.v _ rfl)
          | k + 2, ha => simp at ha
       ·cases h
      ·cases h
     ·rw [f2] at h
      cases h
      refine ⟨.tuple #[.func (.func f) #[] #[], .bool true], ?_, ?_⟩
      ·unfold Instr.lookup
       simp only [Sem.run_bind, run_underlying hu, Result.andThen_ok, hobj, Sem.run_pure, hck, Instr.findKey, run_underlying hku, f1, if_true]
      ·exact .tup _ _ (by simp) fun k a ha => by
        match k, ha with
        | 0, ha => cases ha; exact .clo _ _ _ _ _ rfl rfl (fun k a h => by simp at h) (fun k a h => by simp at h)
        | 1, ha => cases ha; exact .i _ _ (.v _ rfl)
        | k + 2, ha => simp at ha
   ·cases h
  ·cases h
 ·cases h
def kdK : IV → TypeDesc
 | .str _ => .string
 | .v (.int k _) => .int k
 | _ => .int .i64
theorem keyOK_ok {P : Program} {kt : TypeId} {kv : IV} {z : Value} {I : Imm} (h : keyOK P kt kv = true) (r : RelI I kv z) : P.underlying kt = some (kdK kv) ∧ ((∃ k n, kdK kv = .int k ∧ z = .int k n) ∨ ∃ s, kdK kv = .string ∧ z = .string s) := by
 unfold keyOK at h
 split at h
 ·cases r
  exact ⟨kindO_ok (of_decide_eq_true h), .inl ⟨_, _, rfl, rfl⟩⟩
 ·cases r
  exact ⟨isStrO_ok h, .inr ⟨_, rfl, rfl⟩⟩
 ·cases h
theorem beq_bytes (a c : List UInt8) : ((⟨⟨a⟩⟩ : ByteArray) == ⟨⟨c⟩⟩) = decide (a = c) := by
 show ByteArray.beq _ _ = _
 unfold ByteArray.beq
 by_cases h : a = c
 ·subst h; simp
 ·simp [h]
theorem sameK_ok {I : Imm} {kv j : IV} {z e : Value} {b : Bool} (h : sameK kv j = some b) (rz : RelI I kv z) (re : RelI I j e) : Instr.sameNow (kdK kv) z e = some b ∧ (b = true → e = z ∧ Instr.sameBits 10000 e z = true) := by
 unfold sameK at h
 split at h
 ·rename_i k a k' c
  split at h
  ·rename_i hk
   subst hk
   cases rz; cases re; cases h
   refine ⟨by simp [kdK, Instr.sameNow]; rfl, fun hb => ?_⟩
   have hb := of_decide_eq_true hb
   subst hb
   exact ⟨rfl, by simp [Instr.sameBits]⟩
  ·cases h
 ·rename_i a c
  cases rz; cases re; cases h
  refine ⟨?_, fun hb => ?_⟩
  ·simp only [kdK, Instr.sameNow, Option.some.injEq, beq_bytes]
  ·have hb := of_decide_eq_true hb
   subst hb
   exact ⟨rfl, by simp [Instr.sameBits, beq_bytes]⟩
 ·cases h
theorem findK_ok0 {I : Imm} {η : Eta} {H : Hp} {kv : IV} {z : Value} (rz : RelI I kv z) : ∀ (es : List (IV × AV)) (q : List MapEntry) (i : Nat) {r : Option AV}, MapL0 I η H es q → findK kv es = some r →
  (r = none ∧ Instr.findNow (kdK kv) z q i = some none) ∨ ∃ u j val, r = some u ∧ Instr.findNow (kdK kv) z q i = some (some (j, val)) ∧ RelA I η H u val
 | [], [], i, r, _, h => by cases h; exact .inl ⟨rfl, rfl⟩
 | (j, v) :: es, e :: q, i, r, hm, h => by
  obtain ⟨m1, m2, m3⟩ := hm
  simp only [findK] at h
  split at h
  ·rename_i hs
   obtain ⟨s1, _⟩ := sameK_ok hs rz m1
   cases h
   exact .inr ⟨v, i, e.val, rfl, by simp [Instr.findNow, s1], m2⟩
  ·rename_i hs
   obtain ⟨s1, _⟩ := sameK_ok hs rz m1
   rcases findK_ok0 rz es q (i + 1) m3 h with ⟨h1, h2⟩ | ⟨u, k, val, h1, h2, h3⟩
   ·exact .inl ⟨h1, by simp [Instr.findNow, s1, h2]⟩
   ·exact .inr ⟨u, k, val, h1, by simp [Instr.findNow, s1, h2], h3⟩
  ·cases h
 | [], _ :: _, _, _, hm, _ => hm.elim
 | _ :: _, [], _, _, hm, _ => hm.elim
theorem findK_ok {I : Imm} {η : Eta} {H : Hp} {kv : IV} {z : Value} (rz : RelI I kv z) (es : List (IV × AV)) (q : List MapEntry) (i : Nat) {r : Option AV} (hm : MapL I η H es q) (h : findK kv es = some r) :
  (r = none ∧ Instr.findNow (kdK kv) z q i = some none) ∨ ∃ u j val, r = some u ∧ Instr.findNow (kdK kv) z q i = some (some (j, val)) ∧ RelA I η H u val := by
 obtain ⟨es', h1, h2, h3⟩ := hm
 exact findK_ok0 rz es' q i h2 (findK_perm h1 h3 h)
theorem new_ok0 {I : Imm} {η : Eta} {H : Hp} {k : IV} {x : AV} {z y : Value} (rz : RelI I k z) (ry : RelA I η H x y) (born : Nat) : ∀ (es : List (IV × AV)) (q : List MapEntry), MapL0 I η H es q → MapL0 I η H (es ++ [(k, x)]) (q ++ [{ key := z, val := y, born := born }])
 | [], [], _ => ⟨rz, ry, trivial⟩
 | _ :: es, _ :: q, h => ⟨h.1, h.2.1, new_ok0 rz ry born es q h.2.2⟩
 | [], _ :: _, h => h.elim
 | _ :: _, [], h => h.elim
theorem rep_none {k : IV} {v : AV} : ∀ {es : List (IV × AV)}, (∀ p ∈ es, sameK k p.1 = some false) → repK k v es = es
 | [], _ => rfl
 | p :: r, h => by
  have h0 := h p (by simp)
  have ih := rep_none (v := v) fun q (hq : q ∈ r) => h q (List.mem_cons_of_mem _ hq)
  simp only [repK, h0, Option.some.injEq, Bool.false_eq_true, if_false, ih]
theorem rep_ok0 {I : Imm} {η : Eta} {H : Hp} {kv : IV} {xv : AV} {z y : Value} (rz : RelI I kv z) (ry : RelA I η H xv y) : ∀ (es : List (IV × AV)) (q : List MapEntry) (i : Nat) {u : AV}, MapL0 I η H es q → (es.Pairwise fun p r => sameK p.1 r.1 = some false) → findK kv es = some (some u) →
  ∃ j val, Instr.findNow (kdK kv) z q i = some (some (i + j, val)) ∧ (∃ e, q[j]? = some e ∧ Instr.sameBits 10000 e.key z = true) ∧ MapL0 I η H (repK kv xv es) (q.modify j fun e => { e with key := z, val := y })
 | [], [], i, _, _, _, h => by cases h
 | (j, v) :: es, e :: q, i, u, hm, hd, h => by
  obtain ⟨m1, m2, m3⟩ := hm
  obtain ⟨d1, d2⟩ := List.pairwise_cons.1 hd
  simp only [findK] at h
  split at h
  ·rename_i hs
   obtain ⟨s1, s2⟩ := sameK_ok hs rz m1
   have := sameK_eq hs
   subst this
   refine ⟨0, e.val, by simp [Instr.findNow, s1], ⟨e, rfl, (s2 rfl).2⟩, ?_⟩
   simp only [repK, hs, if_true, rep_none d1]
   exact ⟨rz, ry, m3⟩
  ·rename_i hs
   obtain ⟨s1, _⟩ := sameK_ok hs rz m1
   obtain ⟨k, val, h2, ⟨e2, h3, h4⟩, h5⟩ := rep_ok0 rz ry es q (i + 1) m3 d2 h
   refine ⟨k + 1, val, by simp [Instr.findNow, s1, h2]; omega, ⟨e2, by simpa using h3, h4⟩, ?_⟩
   simp only [repK, hs, Option.some.injEq, Bool.false_eq_true, if_false, List.modify_succ_cons]
   exact ⟨m1, m2, h5⟩
  ·cases h
 | [], _ :: _, _, _, hm, _, _ => hm.elim
 | _ :: _, [], _, _, hm, _, _ => hm.elim
theorem putK_ok {I : Imm} {η : Eta} {H : Hp} {kv : IV} {xv : AV} {z y : Value} (rz : RelI I kv z) (ry : RelA I η H xv y) (es : List (IV × AV)) (q : List MapEntry) (i : Nat) {es' : List (IV × AV)} (hm : MapL I η H es q) (h : putK kv xv es = some es') :
  (Instr.findNow (kdK kv) z q i = some none ∧ ∀ born, MapL I η H es' (q ++ [{ key := z, val := y, born := born }])) ∨
  ∃ j val, Instr.findNow (kdK kv) z q i = some (some (i + j, val)) ∧ (∃ e, q[j]? = some e ∧ Instr.sameBits 10000 e.key z = true) ∧ MapL I η H es' (q.modify j fun e => { e with key := z, val := y }) := by
 obtain ⟨es1, h1, h2, h3⟩ := hm
 unfold putK at h
 split at h
 ·rename_i hf
  cases h
  have hf1 := findK_perm h1 h3 hf
  rcases findK_ok0 rz es1 q i h2 hf1 with ⟨_, g⟩ | ⟨u, j, val, g, _⟩
  ·refine .inl ⟨g, fun born => ⟨es1 ++ [(kv, xv)], (insK_perm kv xv es).trans ((h1.cons _).trans (List.perm_append_singleton _ _).symm), new_ok0 rz ry born es1 q h2, ?_⟩⟩
   refine ((insK_perm kv xv es).symm.pairwise_iff (fun {x y} hxy => by rw [sameK_symm]; exact hxy)).1 (List.pairwise_cons.2 ⟨fun p hp => findK_none.1 hf p hp, h3⟩)
  ·cases g
 ·rename_i u hf
  cases h
  have hf1 := findK_perm h1 h3 hf
  have h3' := (h1.pairwise_iff (fun {x y} hxy => by rw [sameK_symm]; exact hxy)).1 h3
  obtain ⟨j, val, g1, g2, g3⟩ := rep_ok0 rz ry es1 q i h2 h3' hf1
  refine .inr ⟨j, val, g1, g2, repK kv xv es1, by rw [repK_map, repK_map]; exact h1.map _, g3, ?_⟩
  rw [repK_map, List.pairwise_map]
  exact h3.imp fun {a b} hab => by rw [repK_fst, repK_fst]; exact hab
 ·cases h
theorem checkKey_ok {P : Program} {kt : TypeId} {kv : IV} {z : Value} (hu : P.underlying kt = some (kdK kv)) (hz : (∃ k n, kdK kv = .int k ∧ z = .int k n) ∨ ∃ s, kdK kv = .string ∧ z = .string s) (em : Bool) (w : World) : (Instr.checkKey em 10000 kt z).run P w = .ok () w := by
 unfold Instr.checkKey
 rcases hz with ⟨k, n, hk, rfl⟩ | ⟨s, hk, rfl⟩ <;> rw [hk] at hu <;> simp [run_underlying hu]
theorem lookA_ok {t : TypeId} {x k v : AV} {y z : Value} {ok : Bool} (hC : Conc E I η H w) (h : lookA E H t x k ok = some v) (rx : RelA I η H x y) (rk : RelA I η H k z) :
  ∃ u, (Instr.lookup t y z ok).run E.P w = .ok u w ∧ RelA I η H v u := by
 unfold lookA at h
 split at h
 ·rename_i c
  unfold lookC at h
  split at h
  ·rename_i es hH
   split at h
   ·rename_i kt e kv hm
    split at h
    ·rename_i hk
     have rk := relA_i rk
     have hu := mapO_ok hm
     obtain ⟨hku, hz⟩ := keyOK_ok hk rk
     cases rx with
     | mref _ _ hc hmm _ _ hp _ =>
      obtain ⟨b, n, hη, rfl⟩ := hmm _ hH
      obtain ⟨b', arr, cl, hη', hw, hL⟩ := hC.ch _ _ hH
      rw [hη] at hη'; cases hη'
      have hobj : (getObj b).run E.P w = .ok (.map arr cl) w := by simp [getObj, Sem.run, hw]
      have hck := fun em : Bool => checkKey_ok (w := w) hku hz em
      cases hf : findK kv es with
      | none => rw [hf] at h; cases h
      | some r =>
       rw [hf] at h
       rcases findK_ok rk es arr.toList 0 hL hf with ⟨rfl, f2⟩ | ⟨u, j, val, rfl, f2, f3⟩
       ·simp only [ansM] at h
        split at h
        ·rename_i zv hz2
         split at h
         ·obtain ⟨vz, hz1, rfl⟩ := zeroO_ok hz2 w
          cases h
          cases ok with
          | true =>
           refine ⟨.tuple #[vz, .bool false], ?_, ?_⟩
           ·unfold Instr.lookup
            simp only [Sem.run_bind, run_underlying hu, Result.andThen_ok, hobj, Sem.run_pure, hck, Instr.findKey, run_underlying hku, f2, hz1, if_true]
           ·exact .tup _ _ (by simp) fun k a ha => by
             match k, ha with
             | 0, ha => cases ha; exact relA_ofVal vz
             | 1, ha => cases ha; exact .i _ _ (.v _ rfl)
             | k + 2, ha => simp at ha
          | false =>
           refine ⟨vz, ?_, by simpa using relA_ofVal vz⟩
           unfold Instr.lookup
           simp only [Sem.run_bind, run_underlying hu, Result.andThen_ok, hobj, Sem.run_pure, hck, Instr.findKey, run_underlying hku, f2, hz1, Bool.false_eq_true, if_false]
         ·cases h
        ·cases h
       ·simp only [ansM, Option.some.injEq] at h
        cases h
        cases ok with
        | true =>
         refine ⟨.tuple #[val, .bool true], ?_, ?_⟩
         ·unfold Instr.lookup
          simp only [Sem.run_bind, run_underlying hu, Result.andThen_ok, hobj, Sem.run_pure, hck, Instr.findKey, run_underlying hku, f2, if_true]
         ·exact .tup _ _ (by simp) fun k a ha => by
           match k, ha with
           | 0, ha => cases ha; exact f3
           | 1, ha => cases ha; exact .i _ _ (.v _ rfl)
           | k + 2, ha => simp at ha
        | false =>
         refine ⟨val, ?_, by simpa using f3⟩
         unfold Instr.lookup
         simp only [Sem.run_bind, run_underlying hu, Result.andThen_ok, hobj, Sem.run_pure, hck, Instr.findKey, run_underlying hku, f2, Bool.false_eq_true, if_false]
    ·cases h
   ·cases h
  ·cases h
 ·split at h
  ·rename_i hok
   subst hok
   exact look_ok hC h rx rk
  ·cases h
theorem setM_ok {t : TypeId} {m k x v : AV} {y z u : Value} {H' : Hp} (hC : Conc E I η H w) (h : setM E H t m k x = some (v, H')) (rm : RelA I η H m y) (rk : RelA I η H k z) (rx : RelA I η H x u) :
  ∃ w', (Instr.mapUpdate t y z u).run E.P w = .ok () w' ∧ v = .dead ∧ After E I η H w H' w' fun _ _ => True := by
 unfold setM at h
 split at h
 ·rename_i c
  unfold setC at h
  split at h
  ·rename_i es hH
   split at h
   ·rename_i kt e kv hm
    split at h
    ·rename_i hk
     obtain ⟨hk, _⟩ := hk
     simp only [Option.map_eq_some_iff, Prod.mk.injEq] at h
     obtain ⟨es', hp, rfl, rfl⟩ := h
     have rk := relA_i rk
     have hu := mapO_ok hm
     obtain ⟨hku, hz⟩ := keyOK_ok hk rk
     cases rm with
     | mref _ _ hc hmm _ _ _ _ =>
      obtain ⟨b, n, hη, rfl⟩ := hmm _ hH
      obtain ⟨b', arr, cl, hη', hw, hL⟩ := hC.ch _ _ hH
      rw [hη] at hη'; cases hη'
      have hlt : b < w.heap.size := (Array.getElem?_eq_some_iff.1 hw).1
      have hobj : (getObj b).run E.P w = .ok (.map arr cl) w := by simp [getObj, Sem.run, hw]
      have hset : ∀ o : Obj, (setObj b o).run E.P w = .ok () { w with heap := w.heap.setIfInBounds b o } := fun o => by simp [setObj, Sem.run, hw]
      have hck := checkKey_ok (w := w) hku hz false
      have fin : ∀ (arr' : Array MapEntry) (cl' : Nat), MapL I η H es' arr'.toList → (Instr.mapUpdate t (.map (some b)) z u).run E.P w = .ok () { w with heap := w.heap.setIfInBounds b (.map arr' cl') } →
        ∃ w', (Instr.mapUpdate t (.map (some b)) z u).run E.P w = .ok () w' ∧ AV.dead = .dead ∧ After E I η H w (H.set c (.map es')) w' fun _ _ => True := by
       intro arr' cl' hL' hrun
       refine ⟨_, hrun, rfl, wrote (w' := { w with heap := w.heap.setIfInBounds b (.map arr' cl') }) hC hη hH (fun b' hb' => by simp [Array.getElem?_setIfInBounds, Ne.symm hb']) (by simp) rfl rfl rfl ?_ (fun hm => ?_) (fun _ => trivial)⟩
       ·intro q hq
        rcases set_get hq with ⟨_, rfl⟩ | ⟨e, _⟩
        ·exact ⟨es, hH, rfl⟩
        ·exact absurd rfl e
       ·exact ⟨b, arr', cl', hη, by simp [hlt], hL'.mono (fun _ _ h => h) hm⟩
      rcases putK_ok rk rx es arr.toList 0 hL hp with ⟨f1, f2⟩ | ⟨j, val, f1, ⟨e2, f3, f4⟩, f5⟩
      ·refine fin (arr.push { key := z, val := u, born := cl }) (cl + 1) (by rw [Array.toList_push]; exact f2 cl) ?_
       unfold Instr.mapUpdate
       simp only [Sem.run_bind, run_underlying hu, Result.andThen_ok, hobj, hck, Instr.findKey, run_underlying hku, f1, Sem.run_pure, hset]
      ·have hj : arr[j]? = some e2 := by rw [← Array.getElem?_toList]; exact f3
       refine fin (arr.modify j fun e => { e with key := z, val := u }) cl (by rw [Array.toList_modify]; exact f5) ?_
       unfold Instr.mapUpdate
       simp only [Sem.run_bind, run_underlying hu, Result.andThen_ok, hobj, hck, Instr.findKey, run_underlying hku, f1, Sem.run_pure, Nat.zero_add, hj, Option.map_some, Option.getD_some, Instr.keyThatStays, f4, if_true, hset]
    ·cases h
   ·cases h
  ·cases h
 ·cases h
theorem evL_ok {fr : Fr} {a : Act} {o : Oper} {v : AV} (h : evL E fr H o.op = some v) (hC : Conc E I η H w) (hf : FrOK I η H fr a.tmps) :
  ∃ x, (execOp a.eval o).run E.P w = .ok (.value x) w ∧ RelA I η H v x := by
 obtain ⟨dst, op, ty, pos, after, guard⟩ := o
 simp only at h
 cases op <;> (try (first | (simp only [evL] at h; done) | (simp only [evL] at h; cases h; done)))
 case move x => simp only [evL, Option.some.injEq] at h; subst h; exact ⟨_, by simp [execOp], opd_ok hC hf x⟩
 case assign x => simp only [evL, Option.some.injEq] at h; subst h; exact ⟨_, by simp [execOp], opd_ok hC hf x⟩
 case pick c x y =>
  simp only [evL] at h
  split at h
  ·rename_i t hc
   cases h
   have hcv := opd_ok hC hf c
   rw [hc] at hcv
   refine ⟨if t then a.eval x else a.eval y, by simp [execOp, relA_v hcv, asBool], ?_⟩
   cases t
   ·exact opd_ok hC hf y
   ·exact opd_ok hC hf x
  ·cases h
 case build t parts =>
  simp only [evL] at h
  obtain ⟨u, h1, h2⟩ := build_ok (w := w) (qs := parts.map fun p => (p.1, a.eval p.2)) h ⟨by simp, fun k p q hp hq => by
   simp only [List.getElem?_map, Option.map_eq_some_iff, Array.toList_map] at hp hq
   obtain ⟨p0, hp0, rfl⟩ := hp
   obtain ⟨q0, hq0, rfl⟩ := hq
   rw [hp0] at hq0; cases hq0
   exact ⟨rfl, opd_ok hC hf _⟩⟩
  exact ⟨u, by simp only [execOp, Sem.run_bind]; rw [h1]; simp, h2⟩
 case load t x =>
  simp only [evL] at h
  obtain ⟨u, h1, h2⟩ := load_ok hC (opd_ok hC hf x) h
  exact ⟨u, by simp only [execOp, Sem.run_bind, h1, Result.andThen_ok, Sem.run_pure], h2⟩
 case nilCheck x =>
  simp only [evL] at h
  have hx := opd_ok hC hf x
  split at h
  ·rename_i hc; cases h; rw [hc] at hx
   have hx' := hx
   cases hx with
   | ptr c g r k v hc2 hb hs hf2 hi hp hg =>
    obtain ⟨b, hb2⟩ := hp
    refine ⟨a.eval x, ?_, hx'⟩
    simp only [execOp, hb2, Sem.run_pure]
  ·rename_i hc; cases h; rw [hc] at hx
   have hx' := hx
   generalize hy : a.eval x = y at hx hx'
   cases relA_i hx with
   | pt => exact ⟨_, by simp only [execOp, hy, Sem.run_pure], hx'⟩
  ·rename_i hc; cases h; rw [hc] at hx
   have hx' := hx
   generalize hy : a.eval x = y at hx hx'
   cases hx with
   | clo => exact ⟨_, by simp only [execOp, hy, Sem.run_pure], hx'⟩
  ·cases h
 case binOp op t x y t2 =>
  simp only [evL] at h
  obtain ⟨z, h1, h2⟩ := binE_ok (w := w) h (opd_ok hC hf x) (opd_ok hC hf y) x y
  exact ⟨z, by simp only [execOp]; rw [Sem.run_bind, h1]; simp, h2⟩
 case unOp op t x =>
  simp only [evL] at h
  obtain ⟨z, h1, h2⟩ := unE_ok (w := w) (P := E.P) h (opd_ok hC hf x)
  exact ⟨z, by simp only [execOp, Sem.run_bind, h1, Result.andThen_ok, Sem.run_pure], h2⟩
 case convert s d x =>
  simp only [evL] at h
  split at h
  ·rename_i e he
   obtain ⟨z, h1, h2⟩ := convS_ok (w := w) hC he h (opd_ok hC hf x)
   exact ⟨z, by simp only [execOp, Sem.run_bind, h1, Result.andThen_ok, Sem.run_pure], h2⟩
  ·obtain ⟨z, h1, h2⟩ := conv_ok (w := w) h (opd_ok hC hf x)
   exact ⟨z, by simp only [execOp, Sem.run_bind, h1, Result.andThen_ok, Sem.run_pure], h2⟩
 case makeFunc fn first caps =>
  simp only [evL, Option.some.injEq] at h
  subst h
  have key : ∀ (l : Array Operand) (k : Nat) (b : AV), (l.toList.map (opd E fr))[k]? = some b → RelA I η H b ((l.map a.eval).getD k undef) := by
   intro l k b hb
   simp only [List.getElem?_map, Option.map_eq_some_iff, Array.getElem?_toList] at hb
   obtain ⟨x, hx, rfl⟩ := hb
   have hlt := (Array.getElem?_eq_some_iff.1 hx).1
   rw [getD_map _ _ _ hlt, (Array.getElem?_eq_some_iff.1 hx).2]
   exact opd_ok hC hf x
  exact ⟨_, by simp only [execOp, Instr.makeFunc, Sem.run_bind, Sem.run_pure, Result.andThen_ok], .clo _ _ _ _ _ (by simp) (by simp) (key first) (key caps)⟩
 case slice t x lo hi mx =>
  simp only [evL] at h
  obtain ⟨u, h1, h2⟩ := slice_ok h hC (opd_ok hC hf x) (relO_map hC hf lo) (relO_map hC hf hi) (relO_map hC hf mx)
  exact ⟨u, by simp only [execOp, Sem.run_bind, h1, Result.andThen_ok, Sem.run_pure], h2⟩
 case fieldAddr t x f =>
  simp only [evL] at h
  split at h
  ·rename_i off ty hfd
   split at h
   ·rename_i z hz
    split at h
    ·rename_i hp
     obtain ⟨u, h1, h2⟩ := field_ok (w := w) hfd hz hp h (opd_ok hC hf x)
     exact ⟨u, by simp only [execOp, Sem.run_bind, h1, Result.andThen_ok, Sem.run_pure], h2⟩
    ·cases h
   ·cases h
  ·cases h
 case field t x f =>
  simp only [evL] at h
  obtain ⟨u, h1, h2⟩ := fieldE_ok (w := w) h (opd_ok hC hf x)
  exact ⟨u, by simp only [execOp, Sem.run_bind, h1, Result.andThen_ok, Sem.run_pure], h2⟩
 case indexAddr t x ix =>
  simp only [evL] at h
  obtain ⟨u, h1, h2⟩ := idxAddr_ok h hC (opd_ok hC hf x) (opd_ok hC hf ix)
  exact ⟨u, by simp only [execOp, Sem.run_bind, h1, Result.andThen_ok, Sem.run_pure], h2⟩
 case index t x ix =>
  simp only [evL] at h
  obtain ⟨u, h1, h2⟩ := idx_ok (w := w) h (opd_ok hC hf x) (opd_ok hC hf ix)
  exact ⟨u, by simp only [execOp, Sem.run_bind, h1, Result.andThen_ok, Sem.run_pure], h2⟩
 case lookup t x k ok =>
  simp only [evL] at h
  obtain ⟨u, h1, h2⟩ := lookA_ok (w := w) hC h (opd_ok hC hf x) (opd_ok hC hf k)
  exact ⟨u, by simp only [execOp, Sem.run_bind, h1, Result.andThen_ok, Sem.run_pure], h2⟩
 case extract x n =>
  simp only [evL] at h
  split at h
  ·rename_i vs hx
   have r := opd_ok hC hf x
   rw [hx] at r
   obtain ⟨cs, e, h1, h2⟩ := relA_tup r
   have hlt := (List.getElem?_eq_some_iff.1 h).1
   refine ⟨_, ?_, h2 _ _ h⟩
   simp only [execOp, e, Instr.extract]
   rw [getD_eq cs n (by omega)]
   simp
  ·cases h
 case call c =>
  obtain ⟨callee, args, tys⟩ := c
  cases callee with
  | value f => simp [evL] at h
  | invoke r m => simp [evL] at h
  | builtin b =>
   simp only [evL] at h
   split at h
   ·rename_i x t hx ht
    have hx := toList_one hx
    have ht := toList_one ht
    subst hx ht
    have r := opd_ok hC hf x
    split at h
    ·rename_i hor
     split at h
     ·rename_i l hl
      rw [hl] at r
      split at h
      ·rename_i hs
       cases h
       exact ⟨_, by simp [execOp, resolve, invoke, builtin, Builtin.len_, run_underlying (isStrO_ok hs), relA_str r, goInt, size_mk], relA_int⟩
      ·cases h
     ·rename_i sz rows ex hl
      rw [hl] at r
      split at h
      ·cases h
      ·rename_i hs
       cases h
       rcases hor with h0 | h0
       ·exact absurd h0 hs
       ·obtain ⟨e, he⟩ := Option.isSome_iff_exists.1 h0
        obtain ⟨ad, cap, hy⟩ := sl_len (relA_i r)
        exact ⟨_, by simp [execOp, resolve, invoke, builtin, Builtin.len_, run_underlying (slO_ok he), hy, goInt], relA_int⟩
     ·rename_i c g off len hl
      rw [hl] at r
      split at h
      ·cases h
      ·rename_i hs
       cases h
       rcases hor with h0 | h0
       ·exact absurd h0 hs
       ·obtain ⟨e, he⟩ := Option.isSome_iff_exists.1 h0
        obtain ⟨ad, cap, hy⟩ := ref_len r
        exact ⟨_, by simp [execOp, resolve, invoke, builtin, Builtin.len_, run_underlying (slO_ok he), hy, goInt], relA_int⟩
     ·cases h
    ·cases h
   ·obtain ⟨u, h1, h2⟩ := foldE_ok (w := w) (g := Builtin.max2) E.P (fun hh ra rb => max_ok E.P hh ra rb) (args.toList.map (opd E fr)) (args.map a.eval).toList v (by simp)
     (fun k b y hb hy => by
      simp only [List.getElem?_map, Option.map_eq_some_iff, Array.toList_map] at hb hy
      obtain ⟨p0, hp0, rfl⟩ := hb
      obtain ⟨q0, hq0, rfl⟩ := hy
      rw [hp0] at hq0; cases hq0
      exact opd_ok hC hf _) (stuck "max: at least one argument expected") h
    have h1' : (Builtin.max_ tys ty (args.map a.eval)).run E.P w = .ok u w := h1
    exact ⟨u, by simp only [execOp, resolve, Sem.run_bind, Sem.run_pure, Result.andThen_ok, invoke, builtin, h1'], h2⟩
   ·obtain ⟨u, h1, h2⟩ := foldE_ok (w := w) (g := Builtin.min2) E.P (fun hh ra rb => min_ok E.P hh ra rb) (args.toList.map (opd E fr)) (args.map a.eval).toList v (by simp)
     (fun k b y hb hy => by
      simp only [List.getElem?_map, Option.map_eq_some_iff, Array.toList_map] at hb hy
      obtain ⟨p0, hp0, rfl⟩ := hb
      obtain ⟨q0, hq0, rfl⟩ := hy
      rw [hp0] at hq0; cases hq0
      exact opd_ok hC hf _) (stuck "min: at least one argument expected") h
    have h1' : (Builtin.min_ tys ty (args.map a.eval)).run E.P w = .ok u w := h1
    exact ⟨u, by simp only [execOp, resolve, Sem.run_bind, Sem.run_pure, Result.andThen_ok, invoke, builtin, h1'], h2⟩
   ·cases h

theorem new_obj0 (hC : Conc E I η H w) {w' : World} {o : Obj} (hw : w'.heap = w.heap.push o) (ho : w'.os = w.os) (ht : w'.tape = w.tape) (hu : w'.output = w.output) (ch : Chunk)
  (hch : Mono I η H I (etaNew η H.length w.heap.size 0) (H ++ [ch]) → ChunkOK I (etaNew η H.length w.heap.size 0) (H ++ [ch]) w' H.length ch) {Q : Imm → Eta → Prop}
  (hQ : Mono I η H I (etaNew η H.length w.heap.size 0) (H ++ [ch]) → Q I (etaNew η H.length w.heap.size 0)) : After E I η H w (H ++ [ch]) w' Q := by
 have hold : ∀ b, b < w.heap.size → w'.heap[b]? = w.heap[b]? := by
  intro b hb
  rw [hw, Array.getElem?_push, if_neg (by omega)]
 have hnew : ∀ d, H.length ≤ d → η d = none := by
  intro d hd
  cases h : η d with
  | none => rfl
  | some p => have := (hC.sep d p.1 p.2 h).2.2; omega
 have hm : Mono I η H I (etaNew η H.length w.heap.size 0) (H ++ [ch]) := by
  refine mono_of (fun _ _ h => h) (by simp) fun c hc => ?_
  exact CStep.same (by rw [List.getElem?_append_left hc]) (by simp [etaNew, show c ≠ H.length by omega])
 have hin : ∀ c b n, etaNew η H.length w.heap.size 0 c = some (b, n) → (c = H.length ∧ b = w.heap.size ∧ n = 0) ∨ η c = some (b, n) := by
  intro c b n h
  unfold etaNew at h
  split at h
  ·cases h; exact .inl ⟨by assumption, rfl, rfl⟩
  ·exact .inr h
 refine ⟨I, etaNew η H.length w.heap.size 0, ⟨fun b o hb => ?_, fun c x hx => ?_, fun c c' b n n' h1 h2 => ?_, fun c b n h => ?_, hC.glob⟩, ⟨ho, ht, hu, by rw [hw]; simp, fun b hb _ => hold b hb, fun _ _ h => h, fun b h => .inl h, fun c b n h => ?_⟩, hm, hQ hm⟩
 ·have := hC.imm b o hb
  have hlt : b < w.heap.size := (Array.getElem?_eq_some_iff.1 this).1
  rw [hold b hlt]; exact this
 ·by_cases hc : c < H.length
  ·rw [List.getElem?_append_left hc] at hx
   refine (hC.ch c x hx).mono (by simp [etaNew, show c ≠ H.length by omega]) (fun _ _ h => h) hm fun b n h => hold b (hC.sep _ _ _ h).2.1
  ·have : c = H.length := by
    have := (List.getElem?_eq_some_iff.1 hx).1
    simp at this; omega
   subst this
   simp at hx; subst hx
   exact hch hm
 ·rcases hin _ _ _ h1 with ⟨rfl, rfl, rfl⟩ | e1
  ·rcases hin _ _ _ h2 with ⟨e, _, _⟩ | e2
   ·exact e.symm
   ·have := (hC.sep _ _ _ e2).2.1; omega
  ·rcases hin _ _ _ h2 with ⟨e, rfl, _⟩ | e2
   ·have := (hC.sep _ _ _ e1).2.1; omega
   ·exact hC.inj _ _ _ _ _ e1 e2
 ·rcases hin _ _ _ h with ⟨rfl, rfl, rfl⟩ | e1
  ·refine ⟨?_, by rw [hw]; simp, by simp⟩
   cases hI : I w.heap.size with
   | none => rfl
   | some o => have := hC.imm _ _ hI; simp at this
  ·have := hC.sep _ _ _ e1
   exact ⟨this.1, by rw [hw]; simp; omega, by simp; omega⟩
 ·rcases hin _ _ _ h with ⟨rfl, rfl, rfl⟩ | e1
  ·exact .inl (Nat.le_refl _)
  ·exact .inr ⟨_, _, e1⟩

theorem range_ok (hC : Conc E I η H w) {t : TypeId} {l : List UInt8} (ht : isStrO E.P t = true) :
  ∃ x w', (Instr.range t (.string ⟨⟨l⟩⟩)).run E.P w = .ok x w' ∧ After E I η H w (H ++ [.iter l 0]) w' fun I' η' => RelA I' η' (H ++ [.iter l 0]) (.ptr H.length 0 0 0) x := by
 refine ⟨_, _, run_range_string w t ⟨⟨l⟩⟩ (isStrO_ok ht), ?_⟩
 refine new_obj0 (w' := w.iter ⟨⟨l⟩⟩ 0) (o := .stringIter ⟨⟨l⟩⟩ 0) hC rfl rfl rfl rfl _ (fun hm => ?_) (fun hm => ?_)
 ·exact ⟨w.heap.size, by simp [etaNew], World.iter_heap w _ 0⟩
 ·exact .ptr _ _ _ _ _ (by simp) (fun _ h => by simp at h) (fun _ _ _ h => by simp at h) (fun _ _ _ _ h => by simp at h) (fun s p h => ⟨w.heap.size, 0, by simp [etaNew], rfl⟩) ⟨_, rfl⟩ (fun _ _ _ _ h => by simp at h)
theorem relT_nil : RelA I η H (.tup [.bool false]) (.tuple #[.bool false]) := .tup _ _ rfl (fun k a h => by
 cases k with
 | zero => simp at h; subst h; exact relA_bool
 | succ k => simp at h)
theorem relT_3 {a : Bool} {n m : Int} : RelA I η H (.tup [.bool a, .int .i64 n, .int .i32 m]) (.tuple #[.bool a, .int .i64 n, .int .i32 m]) := .tup _ _ rfl (fun k x h => by
 match k with
 | 0 => simp at h; subst h; exact relA_bool
 | 1 => simp at h; subst h; exact relA_int
 | 2 => simp at h; subst h; exact relA_int
 | k + 3 => simp at h)
theorem next_ok (hC : Conc E I η H w) {c g r : Nat} {y : Value} {s : List UInt8} {pos : Nat} (ty : TypeId) (hr : RelA I η H (.ptr c g r 0) y) (hH : H[c]? = some (.iter s pos)) :
  (pos < s.length → ∃ x w', (Instr.next y true ty).run E.P w = .ok x w' ∧ After E I η H w (H.set c (.iter s (pos + (Utf8.decode ⟨⟨s⟩⟩ pos).2))) w' fun I' η' => RelA I' η' (H.set c (.iter s (pos + (Utf8.decode ⟨⟨s⟩⟩ pos).2))) (.tup [.bool true, .int .i64 pos, .int .i32 (Utf8.decode ⟨⟨s⟩⟩ pos).1]) x) ∧
  (¬ pos < s.length → ∃ x, (Instr.next y true ty).run E.P w = .ok x w ∧ RelA I η H (.tup [.bool false]) x) := by
 cases hr with
 | ptr _ _ _ _ _ hc hb hs hf hi hp hg =>
  obtain ⟨b, n, hη, rfl⟩ := hi _ _ hH
  obtain ⟨b', hη', hw⟩ := hC.ch _ _ hH
  rw [hη] at hη'; cases hη'
  have hlt : b < w.heap.size := (Array.getElem?_eq_some_iff.1 hw).1
  refine ⟨fun hpos => ?_, fun hpos => ?_⟩
  ·have hpos' : pos < (⟨⟨s⟩⟩ : ByteArray).size := hpos
   let W : World := { w with heap := w.heap.setIfInBounds b (.stringIter ⟨⟨s⟩⟩ (pos + (Utf8.decode ⟨⟨s⟩⟩ pos).2)) }
   refine ⟨.tuple #[.bool true, .int .i64 pos, .int .i32 (Utf8.decode ⟨⟨s⟩⟩ pos).1], W, ?_, ?_⟩
   ·simp [Instr.next, getObj, setObj, Sem.run, hw, hpos', goInt, W]
   ·refine wrote (w' := W) hC hη hH (fun b' hb' => by simp [W, Array.getElem?_setIfInBounds, Ne.symm hb']) (by simp [W]) rfl rfl rfl ?_ (fun hm => ?_) (fun hm => relT_3)
    ·intro z hz
     rcases set_get hz with ⟨_, rfl⟩ | ⟨e, _⟩
     ·exact ⟨s, pos, hH, rfl⟩
     ·exact absurd rfl e
    ·exact ⟨b, hη, by simp [W, hlt]⟩
  ·have hpos' : ¬ pos < (⟨⟨s⟩⟩ : ByteArray).size := hpos
   exact ⟨.tuple #[.bool false], by simp [Instr.next, getObj, Sem.run, hw, hpos'], relT_nil⟩
end
end Go.VI

set_option linter.unusedSimpArgs false
set_option linter.unusedVariables false
namespace Go.VI
section
variable {E : Env} {I : Imm} {η : Eta} {H : Hp} {w : World}

theorem new_empty (hC : Conc E I η H w) {z : Nat} (hz : 0 < z) (a : Option Addr) : After E I η H w (H ++ [.sl z 0 [] true]) w fun I' η' => RelA I' η' (H ++ [.sl z 0 [] true]) (.ref H.length 0 0 0) (.slice a 0 0) := by
 have hnew : η H.length = none := by
  cases h : η H.length with
  | none => rfl
  | some p => have := (hC.sep _ p.1 p.2 h).2.2; omega
 have hm : Mono I η H I η (H ++ [.sl z 0 [] true]) := mono_of (fun _ _ h => h) (by simp) fun c hc => CStep.same (by rw [List.getElem?_append_left hc]) rfl
 refine ⟨I, η, ⟨hC.imm, fun c x hx => ?_, hC.inj, fun c b n h => by have := hC.sep c b n h; exact ⟨this.1, this.2.1, by simp; omega⟩, hC.glob⟩, Trans.refl _ _ _, hm, ?_⟩
 ·by_cases hc : c < H.length
  ·rw [List.getElem?_append_left hc] at hx
   exact (hC.ch c x hx).mono rfl (fun _ _ h => h) hm (fun _ _ _ => rfl)
  ·have : c = H.length := by have := (List.getElem?_eq_some_iff.1 hx).1; simp at this; omega
   subst this
   simp at hx; subst hx
   exact ⟨fun e => by omega, fun i r h => by simp at h, .inl ⟨hnew, rfl⟩⟩
 ·refine .ref _ _ _ _ _ (by simp) (fun sz2 rows2 ex2 h => ?_) (fun _ _ _ h => by simp at h) ⟨_, _, rfl⟩ (fun _ _ _ _ h => by omega)
  simp at h; obtain ⟨rfl, rfl, rfl⟩ := h
  exact ⟨by simp, _, _, rfl, .inl ⟨hnew, rfl⟩⟩

theorem moved (hC : Conc E I η H w) {w' : World} {cs : Array Value} {elem : TypeId} (hw : w'.heap = w.heap.push (.cells cs elem)) (ho : w'.os = w.os) (ht : w'.tape = w.tape) (hu : w'.output = w.output)
  {c z g : Nat} {rows0 : List (List IV)} {ex0 : Bool} (hH : H[c]? = some (.sl z g rows0 ex0)) {rows : List (List IV)} {ex : Bool} (hz : 0 < z) (hf : Flat z rows) (hc : CellsI I rows.flatten cs) (hle : rows.length * z ≤ cs.size) (hx : ex = false)
  {n cap : Nat} (hn : n ≤ rows.length) (hcap : rows.length ≤ cap) (hcs : cap * z ≤ cs.size) :
  After E I η H w (H.set c (.sl z (g + 1) rows ex)) w' fun I' η' => RelA I' η' (H.set c (.sl z (g + 1) rows ex)) (.ref c (g + 1) 0 n) (.slice (some ⟨w.heap.size, 0, none⟩) n cap) := by
 subst hx
 have hcl : c < H.length := (List.getElem?_eq_some_iff.1 hH).1
 have hold : ∀ b, b < w.heap.size → w'.heap[b]? = w.heap[b]? := by
  intro b hb; rw [hw, Array.getElem?_push, if_neg (by omega)]
 let η' := etaNew η c w.heap.size cs.size
 have hin : ∀ d b n, η' d = some (b, n) → (d = c ∧ b = w.heap.size ∧ n = cs.size) ∨ (d ≠ c ∧ η d = some (b, n)) := by
  intro d b n h
  simp only [η', etaNew] at h
  split at h
  ·cases h; exact .inl ⟨by assumption, rfl, rfl⟩
  ·exact .inr ⟨by assumption, h⟩
 have hm : Mono I η H I η' (H.set c (.sl z (g + 1) rows false)) := by
  refine mono_of (fun _ _ h => h) (by simp) fun d hd => ?_
  by_cases hdc : d = c
  ·subst hdc
   intro y hy
   rcases set_get hy with ⟨_, rfl⟩ | ⟨e, _⟩
   ·exact .inr ⟨z, g, rows0, ex0, hH, by omega⟩
   ·exact absurd rfl e
  ·exact CStep.same (by rw [List.getElem?_set_ne (Ne.symm hdc)]) (by simp [η', etaNew, hdc])
 refine ⟨I, η', ⟨fun b o hb => ?_, fun d x hd => ?_, fun d d' b n n' h1 h2 => ?_, fun d b n h => ?_, hC.glob⟩, ⟨ho, ht, hu, by rw [hw]; simp, fun b hb _ => hold b hb, fun _ _ h => h, fun _ h => .inl h, fun d b n h => ?_⟩, hm, ?_⟩
 ·have := hC.imm b o hb
  have hlt : b < w.heap.size := (Array.getElem?_eq_some_iff.1 this).1
  rw [hold b hlt]; exact this
 ·rcases set_get hd with ⟨rfl, rfl⟩ | ⟨h1, h2⟩
  ·exact ⟨fun e => by omega, hf, .inr ⟨w.heap.size, cs, elem, (0, 0), by simp [η', etaNew], heap_push_new hw, thaw0 _, hle, (fun h => by cases h), CellsI.rows hf hc⟩⟩
  ·exact (hC.ch _ _ h2).mono (by simp [η', etaNew, h1]) (fun _ _ h => h) hm (fun b n h => hold b (hC.sep _ _ _ h).2.1)
 ·rcases hin _ _ _ h1 with ⟨rfl, rfl, rfl⟩ | ⟨e1, e2⟩
  ·rcases hin _ _ _ h2 with ⟨e, _, _⟩ | ⟨_, e3⟩
   ·exact e.symm
   ·have := (hC.sep _ _ _ e3).2.1; omega
  ·rcases hin _ _ _ h2 with ⟨e, rfl, _⟩ | ⟨_, e3⟩
   ·have := (hC.sep _ _ _ e2).2.1; omega
   ·exact hC.inj _ _ _ _ _ e2 e3
 ·rcases hin _ _ _ h with ⟨rfl, rfl, rfl⟩ | ⟨_, e1⟩
  ·refine ⟨?_, by rw [hw]; simp, by simpa using hcl⟩
   cases hI : I w.heap.size with
   | none => rfl
   | some o => have := hC.imm _ _ hI; simp at this
  ·have := hC.sep _ _ _ e1
   exact ⟨this.1, by rw [hw]; simp; omega, by simpa using this.2.2⟩
 ·rcases hin _ _ _ h with ⟨rfl, rfl, rfl⟩ | ⟨_, e1⟩
  ·exact .inl (Nat.le_refl _)
  ·exact .inr ⟨_, _, e1⟩
 ·refine .ref _ _ _ _ _ (by simpa using hcl) (fun sz2 rows2 ex2 h => ?_) (fun _ _ _ h => ?_) ⟨_, _, rfl⟩ (fun _ _ _ _ h => ?_)
  ·rcases set_get h with ⟨_, e⟩ | ⟨e, _⟩
   ·cases e
    exact ⟨by omega, _, _, rfl, .inr ⟨w.heap.size, cs.size, by simp [η', etaNew], by omega, by simpa using hcs, .inl (by simp)⟩⟩
   ·exact absurd rfl e
  ·rcases set_get h with ⟨_, e⟩ | ⟨e, _⟩
   ·cases e
   ·exact absurd rfl e
  ·rcases set_get h with ⟨_, e⟩ | ⟨e, _⟩
   ·cases e; omega
   ·exact absurd rfl e

theorem bumped (hC : Conc E I η H w) {c z g : Nat} {rows0 : List (List IV)} {ex0 : Bool} (hH : H[c]? = some (.sl z g rows0 ex0)) {ch : Chunk} (hch : ∃ rows ex, ch = .sl z (g + 1) rows ex)
  {w' : World} (hoth : ∀ b', (∀ n, η c ≠ some (b', n)) → w'.heap[b']? = w.heap[b']?) (hsz : w'.heap.size = w.heap.size) (ho : w'.os = w.os) (ht : w'.tape = w.tape) (hu : w'.output = w.output)
  (hok : Mono I η H I η (H.set c ch) → ChunkOK I η (H.set c ch) w' c ch) {Q : Imm → Eta → Prop} (hQ : Mono I η H I η (H.set c ch) → Q I η) : After E I η H w (H.set c ch) w' Q := by
 obtain ⟨rows, ex, rfl⟩ := hch
 have hcl : c < H.length := (List.getElem?_eq_some_iff.1 hH).1
 have hm : Mono I η H I η (H.set c (.sl z (g + 1) rows ex)) := by
  refine mono_of (fun _ _ h => h) (by simp) fun d hd => ?_
  by_cases hdc : d = c
  ·subst hdc
   intro y hy
   rcases set_get hy with ⟨_, rfl⟩ | ⟨e, _⟩
   ·exact .inr ⟨z, g, rows0, ex0, hH, by omega⟩
   ·exact absurd rfl e
  ·exact CStep.same (by rw [List.getElem?_set_ne (Ne.symm hdc)]) rfl
 refine ⟨I, η, ⟨fun b' o hb => ?_, fun d x hd => ?_, hC.inj, fun d b' n' hd => ?_, hC.glob⟩, ⟨ho, ht, hu, by rw [hsz]; exact Nat.le_refl _, fun b' hb hn => hoth b' (fun n => hn c n), fun _ _ h => h, fun _ h => .inl h, fun _ _ _ h => .inr ⟨_, _, h⟩⟩, hm, hQ hm⟩
 ·rw [hoth b' (fun n e => by have := (hC.sep _ _ _ e).1; rw [this] at hb; cases hb)]; exact hC.imm _ _ hb
 ·rcases set_get hd with ⟨rfl, rfl⟩ | ⟨h1, h2⟩
  ·exact hok hm
  ·exact (hC.ch _ _ h2).mono rfl (fun _ _ h => h) hm fun b' n' h3 => hoth _ fun n e => h1 (hC.inj _ _ _ _ _ h3 e)
 ·have := hC.sep _ _ _ hd
  exact ⟨this.1, by rw [hsz]; exact this.2.1, by simpa using this.2.2⟩

theorem cellsI_append {a b : List IV} {xs ys : Array Value} (ha : CellsI I a xs) (hb : CellsI I b ys) (hl : xs.size = a.length) (rest : Array Value) (hlb : ys.size = b.length) : CellsI I (a ++ b) (xs ++ ys ++ rest) := by
 intro j v hv
 rw [List.getElem?_append] at hv
 rw [Array.getD_eq_getD_getElem?, Array.append_assoc]
 split at hv
 ·rename_i hj
  have := ha j v hv
  rw [Array.getElem?_append_left (by omega), ← Array.getD_eq_getD_getElem?]; exact this
 ·rename_i hj
  have h2 := (List.getElem?_eq_some_iff.1 hv).1
  have := hb _ v hv
  rw [Array.getElem?_append_right (by omega), Array.getElem?_append_left (by omega), hl, ← Array.getD_eq_getD_getElem?]; exact this

theorem zeroO_all {P : Program} {e : TypeId} {z : AV} (h : zeroO P e = some z) : ∃ v, (∀ w, (zeroValue e).run P w = .ok v w) ∧ z = ofVal v := by
 simp only [zeroO, Option.map_eq_some_iff, Option.bind_eq_some_iff] at h
 obtain ⟨v, ⟨i, hi, hz⟩, rfl⟩ := h
 exact ⟨v, fun w => by simp [zeroValue, run_typeInfo w hi, hz], rfl⟩

def ZeroOK (P : Program) (e : TypeId) (z : Nat) : Prop := ∃ v : Value, (∀ w, (zeroValue e).run P w = .ok v w) ∧ v.cells.size = z
theorem zeroOK_of {z : Nat} {e : TypeId} {a : AV} (h : zeroO E.P e = some a) (h1 : (cellsA a).length = z) (h2 : (cellsA a).all one = true) : ZeroOK E.P e z := by
 obtain ⟨v, hv, rfl⟩ := zeroO_all h
 exact ⟨v, hv, by rw [← h1]; exact (cells_ok (relA_ofVal (I := fun _ => none) (η := fun _ => none) (H := []) v) h2).1⟩

theorem append_ok (hC : Conc E I η H w) {t t2 ty : TypeId} {s x v : AV} {ys yx : Value} {H' : Hp} (h : appendE E H t t2 s x = some (v, H')) (rs : RelA I η H s ys) (rx : RelA I η H x yx) :
  ∃ u w', (Builtin.append_ #[t, t2] ty #[ys, yx]).run E.P w = .ok u w' ∧ After E I η H w H' w' fun I' η' => RelA I' η' H' v u := by
 unfold appendE at h
 split at h
 rotate_left
 ·cases h
 rename_i e he
 split at h
 rotate_left
 ·cases h
 rename_i z b zv z' new exn hz hb hzero hsrc
 split at h
 rotate_left
 ·cases h
 rename_i hc
 obtain ⟨hc1, hc2, hc3, hc4, hc5, hc6⟩ := hc
 have ht2 := srcT hc4
 obtain ⟨zc, hzc1, hzc2⟩ := zeroOK_of hzero hc5 hc6
 obtain ⟨nw, hn1, hn2, hn3, hn4, hn5⟩ := src_ok (P := E.P) hC rx hsrc hc1 hc2
 -- a new row, where the old one has no room
 have grow : ∀ (rows : List (List IV)) (base : Option Addr) (cap : Nat) (old : Array Value), (∀ w' : World, w'.heap = w.heap → (Builtin.firstCells z rows.length (.slice base rows.length cap)).run E.P w' = .ok old w') → old.size = rows.length * z →
   CellsI I rows.flatten old → Flat z rows → cap < rows.length + new.length → rows.length + new.length < 1073741824 → ∀ ys', ys' = .slice base rows.length cap →
   ∃ u w' nc cs, (Builtin.append_ #[t, t2] ty #[ys', yx]).run E.P w = .ok u w' ∧ u = .slice (some ⟨w.heap.size, 0, none⟩) (rows.length + new.length) nc ∧ w'.heap = w.heap.push (.cells cs e) ∧ w'.os = w.os ∧ w'.tape = w.tape ∧ w'.output = w.output ∧
    CellsI I (rows ++ new).flatten cs ∧ (rows ++ new).length * z ≤ cs.size ∧ rows.length + new.length ≤ nc ∧ nc * z ≤ cs.size := by
  intro rows base cap old h1 h2 h3 h4 h5 h6 ys' hys
  subst hys
  obtain ⟨w', nc, g1, g2, g3, g4, g5, g6⟩ := append_grow (w := w) (ty := ty) (t2 := t2) (rows := rows) (new := new) he hz hb hzc1 ht2 (fun w' _ => hn1 w') h5 h6 hc3 h1 hn2 hzc2
  refine ⟨_, w', nc, _, g1, rfl, g3, g4, g5, g6, ?_, ?_, g2, ?_⟩
  ·rw [List.flatten_append]
   exact cellsI_append h3 hn4 (by rw [h2, h4.length]) _ (by rw [hn3, hn5.length])
  ·simp only [Array.size_append, h2, hn3, List.length_append, Nat.add_mul]; omega
  ·simp only [Array.size_append, h2, hn3, zeroCells_size, hzc2]
   rw [← Nat.add_mul, ← Nat.add_mul]
   exact Nat.mul_le_mul_right _ (by omega)
 split at h
 ·-- onto an immutable slice
  rename_i sz rows ex
  split at h
  rotate_left
  ·cases h
  rename_i hk
  obtain ⟨hk1, hk2, hk3⟩ := hk
  subst hk1
  simp only [Option.some.injEq, Prod.mk.injEq] at h
  obtain ⟨rfl, rfl⟩ := h
  have rI := relA_i rs
  have hys : ∃ a, ys = .slice a rows.length rows.length := by
   cases rI with
   | nil sz ex a cap hx => exact ⟨a, by rw [hx rfl]; rfl⟩
   | sl sz rows ex b off cap cs elem fz cv hI hc hx hr h1 h2 => exact ⟨_, by rw [hx rfl]⟩
  obtain ⟨a, rfl⟩ := hys
  by_cases hnew : new = []
  ·subst hnew
   have hrows : rows = [] := hk2.elim id fun q => absurd rfl q.2
   subst hrows
   have hnw : nw = #[] := Array.eq_empty_of_size_eq_zero (by rw [hn3]; simp)
   refine ⟨_, w, append_none he hz ht2 (hn1 w) (Nat.le_refl _) (by rw [← hnw]; exact hn2 w rfl), ?_⟩
   exact new_empty hC hc2 a
  ·have hpos : 0 < new.length := List.length_pos_iff.2 hnew
   have hold : ∃ old : Array Value, (∀ w' : World, w'.heap = w.heap → (Builtin.firstCells z rows.length (.slice a rows.length rows.length)).run E.P w' = .ok old w') ∧ old.size = rows.length * z ∧ CellsI I rows.flatten old ∧ Flat z rows := by
    rcases hk2 with e1 | ⟨rfl, _⟩
    ·subst e1
     refine ⟨#[], fun w' _ => ?_, by simp, fun j v h => by simp at h, fun i r h => by simp at h⟩
     cases a <;> simp [Builtin.firstCells, loadCells, loadCellsFrom]
    ·obtain ⟨old, o1, o2, o3, o4, o5⟩ := relI_src (P := E.P) hC.imm hc2 rI
     exact ⟨old, o2, o3, o4, o5⟩
   obtain ⟨old, o1, o2, o3, o4⟩ := hold
   obtain ⟨u, w', nc, cs, g1, rfl, g3, g4, g5, g6, g7, g8, g9, g10⟩ := grow rows a rows.length old o1 o2 o3 o4 (by omega) hk3 _ rfl
   have hex : (rows.isEmpty && new.isEmpty) = false := by
    cases new with
    | nil => exact absurd rfl hnew
    | cons => simp
   rw [hex]
   refine ⟨_, w', g1, ?_⟩
   have := new_row hC g3 g4 g5 g6 (ex := false) (n := rows.length + new.length) (cap := nc) hc2 (o4.append hn5) g7 g8 (fun h => by cases h) (thaw0 _) (by simp) (by simp; omega) g10
   exact this
 ·rename_i c g off len
  cases rs with
  | ref c g off len v hcl hs hf hp hg =>
  split at h
  ·rename_i sz g' rows ex hH
   split at h
   rotate_left
   ·cases h
   rename_i hk
   obtain ⟨rfl, rfl, rfl, hk3⟩ := hk
   simp only [Option.some.injEq, Prod.mk.injEq] at h
   obtain ⟨rfl, rfl⟩ := h
   obtain ⟨hle, a, cap, rfl, hbk⟩ := hs _ _ _ hH
   obtain ⟨hz00, hfl, hch⟩ := hC.ch _ _ hH
   have hzp : 0 < sz := hc2
   have hfl' : Flat sz rows := hfl
   have hcl2 : c < H.length := hcl
   have hle' : len ≤ rows.length := by omega
   have rel0 : ∀ (I' : Imm) (η' : Eta) (rows' : List (List IV)) (ex' : Bool) (a : Option Addr) (cap : Nat), rows'.length = len + new.length → RefOk η' c sz rows' 0 (len + new.length) (.slice a (len + new.length) cap) → RelA I' η' (H.set c (.sl sz (g + 1) rows' ex')) (.ref c (g + 1) 0 (len + new.length)) (.slice a (len + new.length) cap) := by
    intro I' η' rows' ex' a cap hl hro
    refine .ref _ _ _ _ _ (by simpa using hcl2) (fun sz2 rows2 ex2 h => ?_) (fun _ _ _ h => ?_) ⟨_, _, rfl⟩ (fun _ _ _ _ h => ?_)
    ·rcases set_get h with ⟨_, e⟩ | ⟨e, _⟩
     ·cases e; exact hro
     ·exact absurd rfl e
    ·rcases set_get h with ⟨_, e⟩ | ⟨e, _⟩
     ·cases e
     ·exact absurd rfl e
    ·rcases set_get h with ⟨_, e⟩ | ⟨e, _⟩
     ·cases e; omega
     ·exact absurd rfl e
   have hlen' : (rows.take len ++ new).length = len + new.length := by simp; omega
   have hflT : Flat sz (rows.take len ++ new) := (Flat.take hfl').append hn5
   by_cases hroom : len + new.length ≤ cap
   ·-- there is room
    rcases hbk with ⟨hη, hc0⟩ | ⟨b0, n0, hη, hb1, hb2, hb3⟩
    ·-- nothing lies behind it
     subst hc0
     have hl0 : len = 0 := by omega
     have hn0 : new = [] := List.length_eq_zero_iff.1 (by omega)
     subst hl0 hn0
     have hnw : nw = #[] := Array.eq_empty_of_size_eq_zero (by rw [hn3]; simp)
     refine ⟨_, w, append_none he hz ht2 (hn1 w) (Nat.le_refl _) (by rw [← hnw]; exact hn2 w rfl), ?_⟩
     have hre : rows = [] := by
      rcases hch with ⟨_, h1⟩ | ⟨b, _, _, _, h1, _⟩
      ·exact h1
      ·rw [hη] at h1; cases h1
     subst hre
     refine bumped hC hH ⟨_, _, rfl⟩ (fun _ _ => rfl) rfl rfl rfl rfl (fun hm => ?_) (fun hm => rel0 _ _ _ _ _ _ (by simp) ⟨by simp, _, _, rfl, .inl ⟨hη, rfl⟩⟩)
     exact ⟨hz00, fun i r h => by simp at h, .inl ⟨hη, by simp⟩⟩
    ·rcases hch with ⟨h1, _⟩ | ⟨b', cs, elem, fz, h1, hw, hth, hsz, hxx, hcell⟩
     ·rw [hη] at h1; cases h1
     rw [hη] at h1; cases h1
     have inplace : ∀ (w' : World) (cur' : Array Value) (exx : Bool), w'.heap[b0]? = some (.cells cur' elem fz) → (∀ b', b' ≠ b0 → w'.heap[b']? = w.heap[b']?) → w'.heap.size = w.heap.size → w'.os = w.os → w'.tape = w.tape → w'.output = w.output → cur'.size = cs.size →
       CellsI I (rows.take len ++ new).flatten cur' → (exx = true → cs.size = (len + new.length) * sz) → (len + new.length) * sz ≤ cs.size → ∀ a, (a = some ⟨b0, 0 * sz, none⟩ ∨ (len + new.length = 0 ∧ cap = 0)) →
       After E I η H w (H.set c (.sl sz (g + 1) (rows.take len ++ new) exx)) w' fun I' η' => RelA I' η' (H.set c (.sl sz (g + 1) (rows.take len ++ new) exx)) (.ref c (g + 1) 0 (len + new.length)) (.slice a (len + new.length) cap) := by
      intro w' cur' exx i1 i2 i3 i4 i5 i6 i7 i8 i9 i10 a i11
      refine bumped hC hH ⟨_, _, rfl⟩ (fun b' hb' => i2 b' (fun e => hb' _ (e ▸ hη))) i3 i4 i5 i6 (fun hm => ?_) (fun hm => rel0 _ _ _ _ _ _ hlen' ⟨by omega, _, _, rfl, .inr ⟨b0, cs.size, hη, by omega, hb2, i11⟩⟩)
      exact ⟨hz00, hflT, .inr ⟨b0, cur', elem, fz, by rw [i7]; exact hη, i1, by rw [i7]; exact hth, by rw [i7, hlen']; exact i10, fun hx => by rw [i7, hlen']; exact i9 hx, CellsI.rows hflT i8⟩⟩
     have hoe : (ex && rows.isEmpty && new.isEmpty) = true → cs.size = (len + new.length) * sz := by
      intro hx
      simp only [Bool.and_eq_true, List.isEmpty_iff] at hx
      obtain ⟨⟨h1, rfl⟩, rfl⟩ := hx
      have := hxx h1
      simp at this hle' ⊢
      subst hle'; simp [this]
     have holdc : CellsI I (rows.take len).flatten cs := by
      intro j v hv
      have hflt : Flat sz (rows.take len) := Flat.take hfl'
      have hj := (List.getElem?_eq_some_iff.1 hv).1
      rw [hflt.length] at hj
      obtain ⟨r, a2, e1, e2, e3⟩ := flat_rev hzp hflt hj
      rw [hv] at e3; cases e3
      rw [List.getElem?_take] at e1
      split at e1
      ·have := hcell _ _ _ _ e1 e2
       rwa [show j / sz * sz + j % sz = j by rw [Nat.mul_comm]; exact Nat.div_add_mod _ _] at this
      ·cases e1
     have hlz : (rows.take len).flatten.length = len * sz := by rw [(Flat.take hfl').length, List.length_take, Nat.min_eq_left hle']
     rcases hb3 with rfl | ⟨h1, h2⟩
     ·have hfit : len * sz + nw.size ≤ cs.size := by
       rw [hn3, ← Nat.add_mul]
       have : (len + new.length) * sz ≤ (0 + cap) * sz := Nat.mul_le_mul_right _ (by omega)
       omega
      have hones : ∀ v ∈ nw.toList, v.oneCell' = true := by
       intro v hv
       obtain ⟨j, hj, rfl⟩ := List.getElem_of_mem hv
       have hj' : j < nw.size := by simpa using hj
       have hjf : j < new.flatten.length := by rw [hn5.length, ← hn3]; exact hj'
       have := relI_one (hn4 j _ (List.getElem?_eq_getElem hjf))
       simpa [Array.getD_eq_getD_getElem?, hj'] using this
      obtain ⟨w', cur', s1, s2, s3, s4, s5, s6, s7, s8, s9⟩ := storeCells_ok E.P b0 (0 * sz + len * sz) elem fz nw.toList 0 cs w hw hth (by simp; omega) hones
      refine ⟨_, w', append_room he hz ht2 (hn1 w) hroom (hn2 w rfl) s1, ?_⟩
      refine inplace w' cur' _ s2 s3 s4 s5 s6 s7 s8 ?_ hoe (by rw [Nat.add_mul]; omega) _ (.inl rfl)
      intro j v hv
      rw [Array.getD_eq_getD_getElem?, s9]
      simp only [Nat.zero_mul, Nat.zero_add, Nat.add_zero, Array.length_toList]
      rw [List.flatten_append, List.getElem?_append, hlz] at hv
      split at hv
      ·rw [if_neg (by omega), ← Array.getD_eq_getD_getElem?]; exact holdc j v hv
      ·have h3 := (List.getElem?_eq_some_iff.1 hv).1
       rw [hn5.length, ← hn3] at h3
       rw [if_pos (by omega), Array.getElem?_toList, ← Array.getD_eq_getD_getElem?]
       exact hn4 _ v hv
     ·subst h1 h2
      have hn0 : new = [] := List.length_eq_zero_iff.1 (by omega)
      subst hn0
      have hnw : nw = #[] := Array.eq_empty_of_size_eq_zero (by rw [hn3]; simp)
      refine ⟨_, w, append_none he hz ht2 (hn1 w) (Nat.le_refl _) (by rw [← hnw]; exact hn2 w rfl), ?_⟩
      exact inplace w cs _ hw (fun _ _ => rfl) rfl rfl rfl rfl rfl (by intro j v h; simp at h) hoe (by simp) a (.inr ⟨rfl, rfl⟩)
   ·-- a new row
    have hold : ∃ old : Array Value, (∀ w' : World, w'.heap = w.heap → (Builtin.firstCells sz (rows.take len).length (.slice a (rows.take len).length cap)).run E.P w' = .ok old w') ∧ old.size = (rows.take len).length * sz ∧ CellsI I (rows.take len).flatten old := by
     have hl : (rows.take len).length = len := by simp; omega
     by_cases hl0 : len = 0
     ·subst hl0
      refine ⟨#[], fun w' _ => ?_, by simp, fun j v h => by simp at h⟩
      cases a <;> simp [Builtin.firstCells, loadCells, loadCellsFrom]
     ·rcases hbk with ⟨hη, hc0⟩ | ⟨b0, n0, hη, hb1, hb2, hb3⟩
      ·exfalso
       rcases hch with ⟨_, h1⟩ | ⟨b, _, _, _, h1, _⟩
       ·subst h1; simp at hle; omega
       ·rw [hη] at h1; cases h1
      ·rcases hch with ⟨h1, _⟩ | ⟨b', cs, elem, fz, h1, hw, hth, hsz, hxx, hcell⟩
       ·rw [hη] at h1; cases h1
       rw [hη] at h1; cases h1
       rcases hb3 with rfl | ⟨h1, _⟩
       ·obtain ⟨ds, d1, d2, d3⟩ := own_read (P := E.P) (I := I) hzp hfl' hw hsz hcell 0 len (by omega)
        refine ⟨ds, fun w' hw' => by rw [hl]; exact d1 w' hw', by rw [hl]; exact d2, by simpa using d3⟩
       ·omega
    obtain ⟨old, o1, o2, o3⟩ := hold
    have hl : (rows.take len).length = len := by simp; omega
    obtain ⟨u, w', nc, cs, g1, rfl, g3, g4, g5, g6, g7, g8, g9, g10⟩ := grow (rows.take len) a cap old o1 o2 o3 (Flat.take hfl') (by rw [hl]; omega) (by rw [hl]; exact hk3) (.slice a len cap) (by rw [hl])
    rw [hl] at g1 g9
    have hnn : 0 < new.length := by
     rcases hbk with ⟨hη, hc0⟩ | ⟨b0, n0, hη, hb1, hb2, hb3⟩
     ·rcases hch with ⟨_, h1⟩ | ⟨b, _, _, _, h1, _⟩
      ·subst h1; simp at hle'; omega
      ·rw [hη] at h1; cases h1
     ·omega
    have hex : (ex && rows.isEmpty && new.isEmpty) = false := by
     cases new with
     | nil => simp at hnn
     | cons => simp
    rw [hex]
    exact ⟨_, w', g1, moved hC g3 g4 g5 g6 hH (ex := false) hzp hflT g7 g8 rfl (by omega) (by omega) g10⟩
  ·rename_i sz g' rows ex hH
   split at h
   rotate_left
   ·cases h
   rename_i hk
   obtain ⟨rfl, rfl, rfl, rfl, rfl, hk5, hk6⟩ := hk
   simp only [Option.some.injEq, Prod.mk.injEq] at h
   obtain ⟨rfl, rfl⟩ := h
   obtain ⟨hle, rI⟩ := hf _ _ _ hH
   have e1 : (rows.drop 0).take rows.length = rows := by simp
   rw [e1] at rI
   simp only [Nat.zero_add, decide_true, Bool.and_self] at rI
   have hys : ∃ a, ys = .slice a rows.length rows.length := by
    generalize hrr : rows = rr at rI
    cases rI with
    | nil sz ex a cap hx => exact ⟨a, by rw [hx rfl]; rfl⟩
    | sl sz rows ex b off cap cs elem fz cv hI hc hx hr h1 h2 => exact ⟨_, by rw [hx rfl]⟩
   obtain ⟨a, rfl⟩ := hys
   have hpos : 0 < new.length := List.length_pos_iff.2 hk5
   obtain ⟨old, o1, o2, o3, o4, o5⟩ := relI_src (P := E.P) hC.imm hc2 rI
   obtain ⟨u, w', nc, cs, g1, rfl, g3, g4, g5, g6, g7, g8, g9, g10⟩ := grow rows a rows.length old o2 o3 o4 o5 (by omega) hk6 _ rfl
   refine ⟨_, w', g1, ?_⟩
   have := new_row hC g3 g4 g5 g6 (ex := false) (n := rows.length + new.length) (cap := nc) hc2 (o5.append hn5) g7 g8 (fun h => by cases h) (thaw0 _) (by simp) (by simp; omega) g10
   exact this
  ·cases h
 ·cases h

theorem load_fewer {P : Program} (a : Addr) : ∀ (n i : Nat) (acc cs : Array Value), (loadCellsFrom a i n acc).run P w = .ok cs w → acc.size ≤ cs.size ∧ (∀ j, j < acc.size → cs[j]? = acc[j]?) ∧
  ∀ m, m ≤ n → ∃ ds, (loadCellsFrom a i m acc).run P w = .ok ds w ∧ ds.size = acc.size + m ∧ ∀ j, j < acc.size + m → ds[j]? = cs[j]?
 | 0, i, acc, cs, h => by
  simp only [loadCellsFrom, Sem.run_pure] at h
  cases h
  exact ⟨Nat.le_refl _, fun _ _ => rfl, fun m hm => ⟨acc, by rw [Nat.le_zero.1 hm]; rfl, by omega, fun _ _ => rfl⟩⟩
 | n + 1, i, acc, cs, h => by
  have hv : ∃ v, (load (a.add i)).run P w = .ok v w ∧ (loadCellsFrom a (i + 1) n (acc.push v)).run P w = .ok cs w := by
   simp only [loadCellsFrom, Sem.run_bind] at h
   rw [run_load] at h ⊢
   split at h
   ·rename_i v hc
    exact ⟨v, rfl, h⟩
   ·rename_i hc
    split at h
    ·rename_i v _ hh; exact ⟨v, rfl, h⟩
    ·cases h
  obtain ⟨v, h1, h2⟩ := hv
  obtain ⟨k1, k2, k3⟩ := load_fewer a n (i + 1) (acc.push v) cs h2
  simp only [Array.size_push] at k1 k2 k3
  have k4 : ∀ j, j < acc.size → cs[j]? = acc[j]? := fun j hj => by rw [k2 j (by omega), Array.getElem?_push_lt hj, Array.getElem?_eq_getElem hj]
  refine ⟨by omega, k4, fun m hm => ?_⟩
  cases m with
  | zero => exact ⟨acc, rfl, rfl, fun j hj => (k4 j hj).symm⟩
  | succ m =>
   obtain ⟨ds, e1, e2, e3⟩ := k3 m (by omega)
   exact ⟨ds, by simp only [loadCellsFrom, Sem.run_bind, h1, Result.andThen_ok]; exact e1, by omega, fun j hj => e3 j (by omega)⟩
theorem first_fewer {P : Program} {size n N l cap : Nat} {a : Option Addr} {cs : Array Value} (h : (Builtin.firstCells size N (.slice a l cap)).run P w = .ok cs w) (hs : cs.size = N * size) (hn : n ≤ N) :
  ∃ ds, (Builtin.firstCells size n (.slice a l cap)).run P w = .ok ds w ∧ ds.size = n * size ∧ ∀ j, j < n * size → ds[j]? = cs[j]? := by
 have hle : n * size ≤ N * size := Nat.mul_le_mul_right _ hn
 cases a with
 | none =>
  simp only [Builtin.firstCells, Sem.run_pure] at h
  cases h
  simp only [Array.size_empty, List.size_toArray, List.length_nil] at hs
  exact ⟨#[], by simp [Builtin.firstCells], by simp; omega, fun _ _ => rfl⟩
 | some a =>
  simp only [Builtin.firstCells, loadCells] at h ⊢
  obtain ⟨_, _, h3⟩ := load_fewer a _ 0 #[] cs h
  obtain ⟨ds, e1, e2, e3⟩ := h3 _ hle
  exact ⟨ds, e1, by simpa using e2, fun j hj => e3 j (by simpa using hj)⟩
theorem src_of_rows {x : AV} {r : Nat × List (List IV) × Bool} (h : rowsE H x = some r) : srcE H x = some r := by
 unfold srcE
 split
 ·simp [rowsE] at h
 ·exact h
theorem rows_slice {x : AV} {y : Value} (rx : RelA I η H x y) {r : Nat × List (List IV) × Bool} (h : rowsE H x = some r) : ∃ a l cap, y = .slice a l cap := by
 unfold rowsE at h
 split at h
 ·obtain ⟨a, cap, rfl⟩ := sl_len (relA_i rx); exact ⟨_, _, _, rfl⟩
 ·obtain ⟨a, cap, rfl⟩ := ref_len rx; exact ⟨_, _, _, rfl⟩
 ·cases h
theorem copy_ok (hC : Conc E I η H w) {t t2 ty : TypeId} {d x v : AV} {yd yx : Value} {H' : Hp} (h : copyE E H t d x = some (v, H')) (rd : RelA I η H d yd) (rx : RelA I η H x yx) :
  ∃ u w', (Builtin.copy_ #[t, t2] ty #[yd, yx]).run E.P w = .ok u w' ∧ After E I η H w H' w' fun I' η' => RelA I' η' H' v u := by
 unfold copyE at h
 split at h
 rotate_left
 ·cases h
 rename_i e he
 split at h
 rotate_left
 ·cases h
 rename_i z c g off len z' new exn hz hrows
 split at h
 rotate_left
 ·cases h
 rename_i hc
 obtain ⟨hc1, hc2⟩ := hc
 unfold copyC at h
 split at h
 rotate_left
 ·cases h
 rename_i sz g' rows ex hH
 split at h
 rotate_left
 ·cases h
 rename_i hg
 obtain ⟨rfl, rfl⟩ := hg
 simp only [Option.some.injEq, Prod.mk.injEq] at h
 obtain ⟨rfl, rfl⟩ := h
 obtain ⟨sa, sl, scap, rfl⟩ := rows_slice rx hrows
 obtain ⟨nw, hn1, hn2, hn3, hn4, hn5⟩ := src_ok (P := E.P) hC rx (src_of_rows hrows) hc1 hc2
 obtain ⟨ds, hd1, hd2, hd3⟩ := first_fewer (n := min new.length len) (hn2 w rfl) hn3 (Nat.min_le_left _ _)
 obtain ⟨hz00, hfl, hch⟩ := hC.ch _ _ hH
 have hfl : Flat sz rows := hfl
 cases rd with
 | ref c g off len v hcl hs hf hp hgg =>
  obtain ⟨hle, a, cap, rfl, hbk⟩ := hs _ _ _ hH
  have hlen : (new.take len).length = min new.length len := by simp [Nat.min_comm]
  -- the rows as0 they are then
  have rowsE' : ∀ (i : Nat) (r : List IV), (rows.take off ++ (new.take len ++ rows.drop (off + min new.length len)))[i]? = some r →
    (off ≤ i ∧ i < off + min new.length len ∧ new[i - off]? = some r) ∨ (¬ (off ≤ i ∧ i < off + min new.length len) ∧ rows[i]? = some r) := by
   intro i r hi
   rw [List.getElem?_append] at hi
   have e1 : (rows.take off).length = off := by simp; omega
   rw [e1] at hi
   split at hi
   ·rename_i hlt
    rw [List.getElem?_take, if_pos hlt] at hi
    exact .inr ⟨by omega, hi⟩
   ·rename_i hlt
    rw [List.getElem?_append, hlen] at hi
    split at hi
    ·rename_i h2
     rw [List.getElem?_take] at hi
     split at hi
     ·exact .inl ⟨by omega, by omega, hi⟩
     ·cases hi
    ·rename_i h2
     rw [List.getElem?_drop] at hi
     rw [show off + min new.length len + (i - off - min new.length len) = i by omega] at hi
     exact .inr ⟨by omega, hi⟩
  have hrl : (rows.take off ++ (new.take len ++ rows.drop (off + min new.length len))).length = rows.length := by
   simp only [List.length_append, List.length_take, List.length_drop]; omega
  have hflN : Flat sz (rows.take off ++ (new.take len ++ rows.drop (off + min new.length len))) := by
   intro i r hi
   rcases rowsE' i r hi with ⟨_, _, h⟩ | ⟨_, h⟩
   ·exact hn5 _ _ h
   ·exact hfl _ _ h
  -- nothing is copied
  by_cases hn0 : min new.length len = 0
  ·have hsame : rows.take off ++ (new.take len ++ rows.drop (off + min new.length len)) = rows := by
    have : new.take len = [] := List.length_eq_zero_iff.1 (by rw [hlen]; exact hn0)
    rw [this, hn0]; simp
   rw [hsame]
   have hset : H.set c (.sl sz g rows ex) = H := by
    apply List.ext_getElem?
    intro i
    by_cases hi : i = c
    ·subst hi; rw [List.getElem?_set_self hcl, hH]
    ·rw [List.getElem?_set_ne (Ne.symm hi)]
   rw [hset, hn0]
   have hds : ds = #[] := Array.eq_empty_of_size_eq_zero (by rw [hd2, hn0]; simp)
   subst hds
   refine ⟨.int .i64 0, w, ?_, .refl hC (.i _ _ (.v _ rfl))⟩
   have hm : Nat.min new.length len = 0 := hn0
   rw [hn0] at hd1
   cases a <;> simp [Builtin.copy_, run_underlying (slO_ok he), (szO_ok hz w).1, hn1 w, hm, hd1, storeCells, goInt]
  ·rcases hbk with ⟨hη, hc0⟩ | ⟨b0, n0, hη, hb1, hb2, hb3⟩
   ·exfalso
    rcases hch with ⟨_, h1⟩ | ⟨b, _, _, _, h1, _⟩
    ·subst h1; simp at hle; omega
    ·rw [hη] at h1; cases h1
   ·rcases hch with ⟨h1, _⟩ | ⟨b', cs, elem, fz, h1, hw, hth, hsz, hxx, hcell⟩
    ·rw [hη] at h1; cases h1
    rw [hη] at h1; cases h1
    rcases hb3 with rfl | ⟨h1, h2⟩
    rotate_left
    ·omega
    have hfit : off * sz + ds.size ≤ cs.size := by
     rw [hd2, ← Nat.add_mul]
     have : (off + min new.length len) * sz ≤ rows.length * sz := Nat.mul_le_mul_right _ (by omega)
     omega
    have hnlt : ∀ j, j < min new.length len * sz → ds[j]? = nw[j]? := hd3
    have hdsn : ds.size ≤ nw.size := by rw [hd2, hn3]; exact Nat.mul_le_mul_right _ (by omega)
    have hones : ∀ v ∈ ds.toList, v.oneCell' = true := by
     intro v hv
     obtain ⟨j, hj, rfl⟩ := List.getElem_of_mem hv
     have hj' : j < ds.size := by simpa using hj
     have hjn : j < nw.size := by omega
     have hjf : j < new.flatten.length := by rw [hn5.length, ← hn3]; exact hjn
     have h5 := relI_one (hn4 j _ (List.getElem?_eq_getElem hjf))
     have h6 := hnlt j (by rw [← hd2]; exact hj')
     rw [Array.getElem?_eq_getElem hj', Array.getElem?_eq_getElem hjn] at h6
     have h7 : ds[j] = nw[j] := by simpa using h6
     simp only [Array.getElem_toList, h7]
     simpa [Array.getD_eq_getD_getElem?, hjn] using h5
    obtain ⟨w', cur', s1, s2, s3, s4, s5, s6, s7, s8, s9⟩ := storeCells_ok E.P b0 (off * sz) elem fz ds.toList 0 cs w hw hth (by simp; omega) hones
    refine ⟨.int .i64 (min new.length len : Nat), w', ?_, ?_⟩
    ·have hm : Nat.min new.length len = min new.length len := rfl
     simp [Builtin.copy_, run_underlying (slO_ok he), (szO_ok hz w).1, hn1 w, hm, hd1, s1, goInt]
    ·refine wrote hC hη hH s3 s4 s5 s6 s7 ?_ (fun hm => ?_) (fun _ => .i _ _ (.v _ rfl))
     ·intro y hy
      rcases set_get hy with ⟨_, rfl⟩ | ⟨e, _⟩
      ·exact .inl ⟨rows, ex, hH, rfl, hrl⟩
      ·exact absurd rfl e
     ·have hcur : ∀ j, cur'.getD j undef = if off * sz ≤ j ∧ j < off * sz + min new.length len * sz then nw.getD (j - off * sz) undef else cs.getD j undef := by
       intro j
       rw [Array.getD_eq_getD_getElem?, s9]
       simp only [Nat.add_zero, Array.length_toList, hd2]
       split
       ·rw [Array.getElem?_toList, hnlt _ (by omega), Array.getD_eq_getD_getElem?]
       ·rw [Array.getD_eq_getD_getElem?]
      refine ⟨hz00, hflN, .inr ⟨b0, cur', elem, fz, by rw [s8]; exact hη, s2, by rw [s8]; exact hth, by rw [s8, hrl]; exact hsz, fun he => by rw [s8, hrl]; exact hxx he, fun i r k a hi ha => ?_⟩⟩
      have hk : k < sz := by have := (List.getElem?_eq_some_iff.1 ha).1; rw [hflN _ _ hi] at this; exact this
      rw [hcur]
      rcases rowsE' i r hi with ⟨h1, h2, h3⟩ | ⟨h1, h3⟩
      ·have e1 : off * sz ≤ i * sz := Nat.mul_le_mul_right _ h1
       have e2 : (i + 1) * sz ≤ (off + min new.length len) * sz := Nat.mul_le_mul_right _ h2
       rw [Nat.add_mul, Nat.add_mul] at e2
       rw [if_pos (by omega)]
       have e3 : i * sz + k - off * sz = (i - off) * sz + k := by rw [Nat.sub_mul]; omega
       rw [e3]
       exact (CellsI.rows hn5 hn4) _ _ _ _ h3 ha
      ·rw [if_neg]
       ·exact hcell _ _ _ _ h3 ha
       ·rintro ⟨q1, q2⟩
        apply h1
        constructor
        ·apply Decidable.byContradiction
         intro q3
         have : (i + 1) * sz ≤ off * sz := Nat.mul_le_mul_right _ (by omega)
         rw [Nat.add_mul] at this; omega
        ·apply Decidable.byContradiction
         intro q3
         have : (off + min new.length len) * sz ≤ i * sz := Nat.mul_le_mul_right _ (by omega)
         rw [Nat.add_mul] at this; omega

def nv : Next → Option Value
 | .value v => some v
 | .skip => some undef
 | _ => none

theorem evH_ok {fr : Fr} {a : Act} {o : Oper} {v : AV} {H' : Hp} (h : evH E fr H o.op = some (v, H')) (hC : Conc E I η H w) (hf : FrOK I η H fr a.tmps) :
  ∃ nx x w', (execOp a.eval o).run E.P w = .ok nx w' ∧ nv nx = some x ∧ After E I η H w H' w' fun I' η' => RelA I' η' H' v x := by
 obtain ⟨dst, op, ty, pos, after, guard⟩ := o
 simp only at h
 cases op <;> (try (first | (simp only [evH] at h; done) | (simp only [evH] at h; cases h; done)))
 case alloc e =>
  simp only [evH] at h
  split at h
  ·rename_i z hz
   split at h
   ·rename_i ho
    split at h
    ·split at h
     ·rename_i hzo
      simp only [Option.some.injEq, Prod.mk.injEq] at h
      obtain ⟨rfl, rfl⟩ := h
      have hz' := hz
      simp only [zeroO, Option.map_eq_some_iff] at hz'
      obtain ⟨zv, hz2, _⟩ := hz'
      obtain ⟨i, hi, hz3⟩ := Option.bind_eq_some_iff.1 hz2
      have hzr : (zeroValue e).run E.P w = .ok zv w := by simp [zeroValue, run_typeInfo w hi, hz3]
      obtain ⟨x, w', h1, h2⟩ := new_tb hC (zcells_ok hz2 hzo) e
      refine ⟨.value x, x, w', ?_, rfl, h2⟩
      have : (Instr.alloc e true (.tuple #[])).run E.P w = .ok x w' := by
       have h1' : (do pure (.pointer (some (← newVar e zv))) : Sem Value).run E.P w = .ok x w' := h1
       simp only [Instr.alloc, Sem.run_bind, hzr, Result.andThen_ok]
       simpa using h1'
      simp only [execOp, Sem.run_bind, this, Result.andThen_ok, Sem.run_pure]
     ·cases h
    ·simp only [Option.some.injEq, Prod.mk.injEq] at h
     obtain ⟨rfl, rfl⟩ := h
     obtain ⟨zv, hzr, hze⟩ := zeroO_ok hz w
     have hr : RelA I η H z zv := by rw [hze]; exact relA_ofVal zv
     obtain ⟨x, w', h1, h2⟩ := new_box hC hr ho e
     refine ⟨.value x, x, w', ?_, rfl, h2⟩
     have : (Instr.alloc e true (.tuple #[])).run E.P w = .ok x w' := by
      have h1' : (do pure (.pointer (some (← newVar e zv))) : Sem Value).run E.P w = .ok x w' := h1
      simp only [Instr.alloc, Sem.run_bind, hzr, Result.andThen_ok]
      simpa using h1'
     simp only [execOp, Sem.run_bind, this, Result.andThen_ok, Sem.run_pure]
   ·cases h
  ·cases h
 case box e x =>
  simp only [evH] at h
  split at h
  ·rename_i ho
   simp only [Option.some.injEq, Prod.mk.injEq] at h
   obtain ⟨rfl, rfl⟩ := h
   obtain ⟨y, w', h1, h2⟩ := new_box hC (opd_ok hC hf x) ho e
   exact ⟨.value y, y, w', by simp only [execOp, Sem.run_bind, h1, Result.andThen_ok, Sem.run_pure], rfl, h2⟩
  ·cases h
 case buildSlice t n parts =>
  simp only [evH] at h
  obtain ⟨x, w', h1, h2⟩ := buildSlice_ok (qs := parts.map fun p => (p.1, a.eval p.2)) hC h ⟨by simp, fun k p q hp hq => by
   simp only [List.getElem?_map, Option.map_eq_some_iff, Array.toList_map] at hp hq
   obtain ⟨p0, hp0, rfl⟩ := hp
   obtain ⟨q0, hq0, rfl⟩ := hq
   rw [hp0] at hq0; cases hq0
   exact ⟨rfl, opd_ok hC hf _⟩⟩
  exact ⟨.value x, x, w', by simp only [execOp, Sem.run_bind]; rw [h1]; simp only [Result.andThen_ok, Sem.run_pure], rfl, h2⟩
 case slice t x lo hi mx =>
  cases mx with
  | none => simp only [evH] at h; cases h
  | some m =>
   simp only [evH] at h
   split at h
   ·rename_i y H1 hz
    simp only [Option.map_eq_some_iff, Prod.mk.injEq] at h
    obtain ⟨v1, h1, rfl, rfl⟩ := h
    obtain ⟨I2, η2, C2, T2, M2, R2⟩ := freeze_ok hC (opd_ok hC hf x) hz
    have hf2 := hf.mono M2
    obtain ⟨u, k1, k2⟩ := slice_ok h1 C2 (.i _ _ R2) (relO_map C2 hf2 lo) (relO_map C2 hf2 hi) (relO_map C2 hf2 (some m))
    exact ⟨.value u, u, w, by simp only [execOp, Sem.run_bind]; rw [k1]; simp only [Result.andThen_ok, Sem.run_pure], rfl, I2, η2, C2, T2, M2, k2⟩
   ·cases h
 case store t p x =>
  simp only [evH, Option.map_eq_some_iff, Prod.mk.injEq] at h
  obtain ⟨H1, h1, rfl, rfl⟩ := h
  obtain ⟨w', h2, h3⟩ := store_ok hC h1 (opd_ok hC hf p) (opd_ok hC hf x)
  exact ⟨.skip, undef, w', by simp only [execOp, Sem.run_bind, h2, Result.andThen_ok, Sem.run_pure], rfl, h3.imp fun _ _ _ _ _ => .dead _⟩
 case range t x =>
  simp only [evH] at h
  split at h
  ·rename_i l hx
   split at h
   ·rename_i ht
    simp only [Option.some.injEq, Prod.mk.injEq] at h
    obtain ⟨rfl, rfl⟩ := h
    have r := opd_ok hC hf x
    rw [hx] at r
    obtain ⟨y, w', h1, h2⟩ := range_ok (l := l) hC ht
    exact ⟨.value y, y, w', by simp only [execOp, Sem.run_bind, relA_str r, h1, Result.andThen_ok, Sem.run_pure], rfl, h2⟩
   ·cases h
  ·cases h
 case makeMap t r =>
  cases r with
  | some r => simp only [evH] at h; cases h
  | none =>
   simp only [evH] at h
   split at h
   ·simp only [Option.some.injEq, Prod.mk.injEq] at h
    obtain ⟨rfl, rfl⟩ := h
    let W : World := { w with heap := w.heap.push (.map #[] 0) }
    refine ⟨.value (.map (some w.heap.size)), .map (some w.heap.size), W, by simp [execOp, Instr.makeMap, newObj, Sem.run, W], rfl, ?_⟩
    refine new_obj0 (w' := W) (o := .map #[] 0) hC rfl rfl rfl rfl _ (fun hm => ?_) (fun hm => ?_)
    ·exact ⟨w.heap.size, #[], 0, by simp [etaNew], by simp [W], MapL.nil⟩
    ·exact .mref _ _ (by simp) (fun es h => ⟨w.heap.size, 0, by simp [etaNew], rfl⟩) (fun _ _ h => by simp at h) (fun _ _ h => by simp at h) rfl (fun _ _ _ _ h => by simp at h)
   ·cases h
 case mapUpdate t m k x =>
  simp only [evH] at h
  obtain ⟨w', h2, rfl, h3⟩ := setM_ok hC h (opd_ok hC hf m) (opd_ok hC hf k) (opd_ok hC hf x)
  exact ⟨.skip, undef, w', by simp only [execOp, Sem.run_bind, h2, Result.andThen_ok, Sem.run_pure], rfl, h3.imp fun _ _ _ _ _ => .dead _⟩
 case insert t m k x =>
  simp only [evH] at h
  obtain ⟨w', h2, rfl, h3⟩ := setM_ok hC h (opd_ok hC hf m) (opd_ok hC hf k) (opd_ok hC hf x)
  exact ⟨.skip, undef, w', by simp only [execOp, Sem.run_bind, h2, Result.andThen_ok, Sem.run_pure], rfl, h3.imp fun _ _ _ _ _ => .dead _⟩
 case next it b =>
  simp only [evH] at h
  split at h
  ·rename_i c g r hx
   have rr := opd_ok hC hf it
   rw [hx] at rr
   split at h
   ·rename_i s pos hH
    obtain ⟨n1, n2⟩ := next_ok hC ty rr hH
    split at h
    ·rename_i hp
     simp only [Option.some.injEq, Prod.mk.injEq] at h
     obtain ⟨rfl, rfl⟩ := h
     obtain ⟨y, w', h1, h2⟩ := n1 hp
     exact ⟨.value y, y, w', by simp only [execOp, Sem.run_bind, h1, Result.andThen_ok, Sem.run_pure], rfl, h2⟩
    ·rename_i hp
     simp only [Option.some.injEq, Prod.mk.injEq] at h
     obtain ⟨rfl, rfl⟩ := h
     obtain ⟨y, h1, h2⟩ := n2 hp
     exact ⟨.value y, y, w, by simp only [execOp, Sem.run_bind, h1, Result.andThen_ok, Sem.run_pure], rfl, After.refl hC h2⟩
   ·cases h
  ·cases h
 case makeSlice t l c =>
  simp only [evH] at h
  obtain ⟨x, w', h1, h2⟩ := makeSlice_ok hC h (opd_ok hC hf l) (opd_ok hC hf c)
  exact ⟨.value x, x, w', by simp only [execOp, Sem.run_bind, h1, Result.andThen_ok, Sem.run_pure], rfl, h2⟩
 case convert s d x =>
  simp only [evH] at h
  split at h
  ·rename_i l hl
   split at h
   ·rename_i hc
    obtain ⟨hc1, hc3⟩ := hc
    have r := opd_ok hC hf x
    rw [hl] at r
    obtain ⟨y, w', h1, h2⟩ := convH_ok hC hc1 hc3 h
    exact ⟨.value y, y, w', by simp only [execOp, Sem.run_bind, relA_str r, h1, Result.andThen_ok, Sem.run_pure], rfl, h2⟩
   ·cases h
  ·cases h
 case call c =>
  obtain ⟨callee, args, tys⟩ := c
  cases callee with
  | value f => simp [evH] at h
  | invoke r m => simp [evH] at h
  | builtin b =>
   simp only [evH] at h
   split at h
   ·rename_i s x t t2 hargs htys
    have hargs := toList_two hargs
    have htys := toList_two htys
    subst hargs htys
    obtain ⟨u, w', h1, h2⟩ := append_ok (ty := ty) hC h (opd_ok hC hf s) (opd_ok hC hf x)
    exact ⟨.value u, u, w', by simp [execOp, resolve, invoke, builtin, h1], rfl, h2⟩
   ·rename_i d x t t2 hargs htys
    have hargs := toList_two hargs
    have htys := toList_two htys
    subst hargs htys
    obtain ⟨u, w', h1, h2⟩ := copy_ok (ty := ty) (t2 := t2) hC h (opd_ok hC hf d) (opd_ok hC hf x)
    exact ⟨.value u, u, w', by simp [execOp, resolve, invoke, builtin, h1], rfl, h2⟩
   ·cases h
end
end Go.VI

set_option linter.unusedSimpArgs false
set_option linter.unusedVariables false
namespace Go.VI

theorem renL_map (ρ : Nat → Option Nat) : ∀ l : List AV, renL ρ l = l.map (renA ρ)
 | [] => by simp [renL]
 | a :: l => by simp [renL, renL_map ρ l]
def RenOK (ρ : Nat → Option Nat) (η : Eta) (H : Hp) (η' : Eta) (H' : Hp) : Prop :=
 ∀ c c', ρ c = some c' → c' < H'.length ∧ η' c' = η c ∧ H'[c']? = (H[c]?).map (Chunk.ren ρ)
theorem ren_sl {ρ : Nat → Option Nat} {x : Option Chunk} {sz g : Nat} {rows : List (List IV)} {ex : Bool} (h : x.map (Chunk.ren ρ) = some (.sl sz g rows ex)) : x = some (.sl sz g rows ex) := by
 cases x with
 | none => simp at h
 | some y => cases y <;> simp [Chunk.ren] at h <;> simp [h]
theorem ren_fz {ρ : Nat → Option Nat} {x : Option Chunk} {sz g : Nat} {rows : List (List IV)} {ex : Bool} (h : x.map (Chunk.ren ρ) = some (.fz sz g rows ex)) : x = some (.fz sz g rows ex) := by
 cases x with
 | none => simp at h
 | some y => cases y <;> simp [Chunk.ren] at h <;> simp [h]
theorem renE_map (ρ : Nat → Option Nat) : ∀ es : List (IV × AV), renE ρ es = es.map fun p => (p.1, renA ρ p.2)
 | [] => rfl
 | p :: r => by simp [renE, renE_map ρ r]
theorem ren_map {ρ : Nat → Option Nat} {x : Option Chunk} {es : List (IV × AV)} (h : x.map (Chunk.ren ρ) = some (.map es)) : ∃ es0, x = some (.map es0) ∧ es = renE ρ es0 := by
 cases x with
 | none => cases h
 | some x =>
  cases x <;> simp [Chunk.ren] at h
  exact ⟨_, rfl, h.symm⟩
theorem ren_tb {ρ : Nat → Option Nat} {x : Option Chunk} {t : Nat} {cells : List AV} (h : x.map (Chunk.ren ρ) = some (.tb t cells)) : ∃ cells0, x = some (.tb t cells0) ∧ cells = renL ρ cells0 := by
 cases x with
 | none => cases h
 | some x =>
  cases x <;> simp [Chunk.ren] at h
  obtain ⟨rfl, rfl⟩ := h
  exact ⟨_, rfl, rfl⟩
theorem ren_buf {ρ : Nat → Option Nat} {x : Option Chunk} {t : Nat} {l : List UInt8} (h : x.map (Chunk.ren ρ) = some (.buf t l)) : x = some (.buf t l) := by
 cases x with
 | none => cases h
 | some x => cases x <;> simp_all [Chunk.ren]
theorem ren_iter {ρ : Nat → Option Nat} {x : Option Chunk} {s : List UInt8} {p : Nat} (h : x.map (Chunk.ren ρ) = some (.iter s p)) : x = some (.iter s p) := by
 cases x with
 | none => simp at h
 | some y => cases y <;> simp [Chunk.ren] at h <;> simp [h]
theorem ren_box {ρ : Nat → Option Nat} {x : Option Chunk} {cells : List AV} (h : x.map (Chunk.ren ρ) = some (.box cells)) : ∃ cells0, x = some (.box cells0) ∧ cells = renL ρ cells0 := by
 cases x with
 | none => simp at h
 | some y => cases y <;> simp [Chunk.ren] at h <;> simp [h]

section
variable {E : Env} {I : Imm} {η : Eta} {H : Hp} {w : World}
theorem ren_ok {ρ : Nat → Option Nat} {η' : Eta} {H' : Hp} (hρ : RenOK ρ η H η' H') {a : AV} {v : Value} (r : RelA I η H a v) : RelA I η' H' (renA ρ a) v := by
 induction r with
 | dead v => exact .dead v
 | i x v h => simp only [renA]; exact .i x v h
 | agg cells cs hl _ ih =>
  simp only [renA, renL_map]
  refine .agg _ _ (by simpa using hl) fun k a ha => ?_
  simp only [List.getElem?_map, Option.map_eq_some_iff] at ha
  obtain ⟨b, hb, rfl⟩ := ha
  exact ih k b hb
 | clo fn first caps fs cs hl hm _ _ ih1 ih2 =>
  simp only [renA, renL_map]
  refine .clo _ _ _ _ _ (by simpa using hl) (by simpa using hm) (fun k a ha => ?_) (fun k a ha => ?_)
  ·simp only [List.getElem?_map, Option.map_eq_some_iff] at ha
   obtain ⟨b, hb, rfl⟩ := ha
   exact ih1 k b hb
  ·simp only [List.getElem?_map, Option.map_eq_some_iff] at ha
   obtain ⟨b, hb, rfl⟩ := ha
   exact ih2 k b hb
 | tup vs xs hl _ ih =>
  simp only [renA, renL_map]
  refine .tup _ _ (by simpa using hl) fun k a ha => ?_
  simp only [List.getElem?_map, Option.map_eq_some_iff] at ha
  obtain ⟨b, hb, rfl⟩ := ha
  exact ih k b hb
 | ref c g off len v hc hs hf hp hg =>
  simp only [renA]
  cases h : ρ c with
  | none => exact .dead v
  | some c' =>
   obtain ⟨h1, h2, h3⟩ := hρ c c' h
   refine .ref c' g off len v h1 (fun sz rows ex hH => ?_) (fun sz rows ex hH => ?_) hp (fun sz g' rows ex hH => ?_)
   ·rw [h3] at hH
    have := hs _ _ _ (ren_sl hH)
    unfold RefOk at *
    rw [h2]; exact this
   ·rw [h3] at hH; exact hf _ _ _ (ren_fz hH)
   ·rw [h3] at hH; exact hg _ _ _ _ (ren_sl hH)
 | mref c v hc hm ht hu hp hz =>
  simp only [renA]
  cases h : ρ c with
  | none => exact .dead v
  | some c' =>
   obtain ⟨h1, h2, h3⟩ := hρ c c' h
   refine .mref c' v h1 (fun es hH => ?_) (fun t cells hH => ?_) (fun t l hH => ?_) hp (fun sz g rows ex hH => by rw [h3] at hH; exact hz _ _ _ _ (ren_sl hH))
   ·rw [h3] at hH; rw [h2]
    obtain ⟨c0, hc0, _⟩ := ren_map hH
    exact hm _ hc0
   ·rw [h3] at hH; rw [h2]
    obtain ⟨c0, hc0, _⟩ := ren_tb hH
    exact ht _ _ hc0
   ·rw [h3] at hH; rw [h2]; exact hu _ _ (ren_buf hH)
 | ptr c g r k v hc hb hs hf hi hp hg =>
  simp only [renA]
  cases h : ρ c with
  | none => exact .dead v
  | some c' =>
   obtain ⟨h1, h2, h3⟩ := hρ c c' h
   refine .ptr c' g r k v h1 (fun cells hH => ?_) (fun sz rows ex hH => ?_) (fun sz rows ex row hH hr => ?_) (fun s p hH => ?_) hp (fun sz g' rows ex hH => ?_)
   ·rw [h3] at hH
    obtain ⟨c0, hc0, _⟩ := ren_box hH
    rw [h2]; exact hb _ hc0
   ·rw [h3] at hH; rw [h2]; exact hs _ _ _ (ren_sl hH)
   ·rw [h3] at hH; exact hf _ _ _ _ (ren_fz hH) hr
   ·rw [h3] at hH; rw [h2]; exact hi _ _ (ren_iter hH)
   ·rw [h3] at hH; exact hg _ _ _ _ (ren_sl hH)
theorem ren_chunk {ρ : Nat → Option Nat} {η' : Eta} {H' : Hp} (hρ : RenOK ρ η H η' H') {c c' : Nat} (he : η' c' = η c) {x : Chunk} (h : ChunkOK I η H w c x) : ChunkOK I η' H' w c' (Chunk.ren ρ x) := by
 cases x with
 | box cells =>
  obtain ⟨b, cs, elem, fz, h1, h2, h3, h4, h5⟩ := h
  refine ⟨b, cs, elem, fz, by rw [he]; exact h1, h2, h3, by rw [renL_map]; simpa using h4, fun k a ha => ?_⟩
  rw [renL_map] at ha
  simp only [List.getElem?_map, Option.map_eq_some_iff] at ha
  obtain ⟨b, hb, rfl⟩ := ha
  exact ren_ok hρ (h5 k b hb)
 | sl sz g rows ex =>
  obtain ⟨h1, h2, h3⟩ := h
  refine ⟨fun e => he.trans (h1 e), h2, ?_⟩
  rcases h3 with ⟨h4, h5⟩ | ⟨b, cs, elem, fz, h4, h5⟩
  ·exact .inl ⟨by rw [he]; exact h4, h5⟩
  ·exact .inr ⟨b, cs, elem, fz, by rw [he]; exact h4, h5⟩
 | fz sz g rows ex => exact (he.trans h : η' c' = none)
 | iter s p =>
  obtain ⟨b, h1, h2⟩ := h
  exact ⟨b, by rw [he]; exact h1, h2⟩
 | map es =>
  obtain ⟨b, arr, cl, h1, h2, h3⟩ := h
  exact ⟨b, arr, cl, by rw [he]; exact h1, h2, by rw [renE_map]; exact h3.to fun a v r => ren_ok hρ r⟩
 | tb t cells =>
  obtain ⟨b, cs, h1, h2, h4, h5⟩ := h
  refine ⟨b, cs, by rw [he]; exact h1, h2, by rw [renL_map]; simpa using h4, fun k a ha => ?_⟩
  rw [renL_map] at ha
  simp only [List.getElem?_map, Option.map_eq_some_iff] at ha
  obtain ⟨b, hb, rfl⟩ := ha
  exact ren_ok hρ (h5 k b hb)
 | buf t l =>
  obtain ⟨b, cs, h1, h2, h3⟩ := h
  exact ⟨b, cs, by rw [he]; exact h1, h2, h3⟩
 | gone => exact (he.trans h : η' c' = none)

theorem posIn_some : ∀ {R : List Nat} {c i : Nat}, posIn R c = some i → R[i]? = some c
 | [], c, i, h => by simp [posIn] at h
 | d :: R, c, i, h => by
  simp only [posIn] at h
  split at h
  ·rename_i e; cases h; simp [e]
  ·simp only [Option.map_eq_some_iff] at h
   obtain ⟨j, hj, rfl⟩ := h
   simpa using posIn_some hj
theorem posIn_get : ∀ {R : List Nat} {c i : Nat}, R.Nodup → R[i]? = some c → posIn R c = some i
 | [], c, i, _, h => by simp at h
 | d :: R, c, 0, hn, h => by simp at h; simp [posIn, h]
 | d :: R, c, i + 1, hn, h => by
  simp only [List.getElem?_cons_succ] at h
  have hm := List.mem_of_getElem? h
  have hne : c ≠ d := fun e => by subst e; exact (List.nodup_cons.1 hn).1 hm
  simp [posIn, hne, posIn_get (List.nodup_cons.1 hn).2 h]
theorem posIn_none {R : List Nat} {c : Nat} (h : posIn R c = none) : c ∉ R := by
 induction R with
 | nil => simp
 | cons d R ih =>
  simp only [posIn] at h
  split at h
  ·cases h
  ·rename_i hne
   simp only [Option.map_eq_none_iff] at h
   simp [hne, ih h]
theorem reach_ok (H : Hp) : ∀ (n : Nat) (l seen : List Nat), seen.Nodup → (∀ c ∈ seen, c < H.length) → (reach H n l seen).Nodup ∧ ∀ c ∈ reach H n l seen, c < H.length
 | 0, l, seen, h1, h2 => by simp only [reach]; exact ⟨h1, h2⟩
 | n + 1, [], seen, h1, h2 => by simp only [reach]; exact ⟨h1, h2⟩
 | n + 1, c :: r, seen, h1, h2 => by
  simp only [reach]
  split
  ·exact reach_ok H n r seen h1 h2
  ·rename_i hc
   simp only [not_or, Nat.not_le] at hc
   refine reach_ok H n _ _ ?_ ?_
   ·rw [List.nodup_append]
    exact ⟨h1, by simp, fun a ha b hb => by simp at hb; subst hb; exact fun e => hc.1 (e ▸ ha)⟩
   ·intro d hd
    simp at hd
    rcases hd with hd | rfl
    ·exact h2 d hd
    ·exact hc.2
theorem setAll_length : ∀ (R : List Nat) (xs : List Chunk) (H : Hp), (setAll H R xs).length = H.length
 | [], xs, H => by cases xs <;> rfl
 | c :: R, [], H => rfl
 | c :: R, x :: xs, H => by simp only [setAll]; rw [setAll_length R xs]; simp
theorem setAll_get : ∀ (R : List Nat) (xs : List Chunk) (H : Hp), R.Nodup → xs.length = R.length → (∀ c ∈ R, c < H.length) → ∀ c, (setAll H R xs)[c]? = match posIn R c with | some i => xs[i]? | none => H[c]?
 | [], xs, H, _, _, _, c => by cases xs <;> simp [setAll, posIn]
 | d :: R, [], H, _, h, _, c => by simp at h
 | d :: R, x :: xs, H, hn, hl, hlt, c => by
  simp only [setAll]
  rw [setAll_get R xs (H.set d x) (List.nodup_cons.1 hn).2 (by simpa using hl) (fun c hc => by simpa using hlt c (by simp [hc])) c]
  simp only [posIn]
  by_cases hcd : c = d
  ·subst hcd
   have : posIn R c = none := by
    cases h : posIn R c with
    | none => rfl
    | some i => exact absurd (List.mem_of_getElem? (posIn_some h)) (List.nodup_cons.1 hn).1
   rw [this]
   have hlc := hlt c (by simp)
   simp [hlc]
  ·simp only [hcd, if_false]
   cases h : posIn R c with
   | none => simp [List.getElem?_set_ne (Ne.symm hcd)]
   | some i => simp

def ArgsOK (I : Imm) (η : Eta) (H : Hp) (args : List AV) (vs : Array Value) : Prop := vs.size = args.length ∧ ∀ (k : Nat) (a : AV), args[k]? = some a → RelA I η H a (vs.getD k undef)
def CallOK (E : Env) (cl : CallF) : Prop := ∀ f args H r H', cl f args H = some (r, H') → ∀ I η w vs, Conc E I η H w → ArgsOK I η H args vs →
 Calls E.P f vs w fun e w' => ∃ x, e = .returned x ∧ After E I η H w H' w' fun I' η' => RelA I' η' H' r x
def ExtOK (E : Env) : Prop := ∀ f h, E.ext f = some h → ∀ args H r H', h args H = some (r, H') → ∀ I η w vs, Conc E I η H w → ArgsOK I η H args vs →
 Calls E.P f vs w fun e w' => ∃ x, e = .returned x ∧ After E I η H w H' w' fun I' η' => RelA I' η' H' r x
theorem exCl_ok {cl : CallF} (hcl : CallOK E cl) (hext : ExtOK E) : CallOK E (exCl E cl) := by
 intro f args H r H' h
 unfold exCl at h
 split at h
 ·rename_i g hg
  exact hext f g hg args H r H' h
 ·exact hcl f args H r H' h

theorem prep_ok : ∀ {I : Imm} {η : Eta} {H : Hp} (hC : Conc E I η H w) {args args1 : List AV} {H1 : Hp} (f : Nat → Value), prep H args = some (args1, H1) → (∀ (k : Nat) (a : AV), args[k]? = some a → RelA I η H a (f k)) →
  After E I η H w H1 w fun I' η' => args1.length = args.length ∧ ∀ (k : Nat) (a : AV), args1[k]? = some a → RelA I' η' H1 a (f k)
 | I, η, H, hC, [], args1, H1, f, h, r => by
  simp only [prep, Option.some.injEq, Prod.mk.injEq] at h
  obtain ⟨rfl, rfl⟩ := h
  exact After.refl hC ⟨rfl, fun k a h => by simp at h⟩
 | I, η, H, hC, a :: l, args1, H1, f, h, r => by
  have rest : ∀ {as0 : List AV} {H2 : Hp}, prep H l = some (as0, H2) → After E I η H w H2 w fun I' η' => as0.length = l.length ∧ ∀ (k : Nat) (b : AV), as0[k]? = some b → RelA I' η' H2 b (f (k + 1)) :=
   fun h => prep_ok hC (fun k => f (k + 1)) h (fun k b hb => r (k + 1) b (by simpa using hb))
  have other : ∀ {as0 : List AV} {H2 : Hp}, prep H l = some (as0, H2) → args1 = a :: as0 → H1 = H2 → After E I η H w H1 w fun I' η' => args1.length = (a :: l).length ∧ ∀ (k : Nat) (b : AV), args1[k]? = some b → RelA I' η' H1 b (f k) := by
   intro as0 H2 h e1 e2
   subst e1 e2
   refine (rest h).imp fun I' η' _ hm hq => ⟨by simp [hq.1], fun k b hb => ?_⟩
   cases k with
   | zero => simp at hb; subst hb; exact hm _ _ (r 0 a rfl)
   | succ k => exact hq.2 k b (by simpa using hb)
  cases a with
  | ref c g off len =>
   simp only [prep] at h
   split at h
   ·rename_i x H2 h1
    split at h
    ·rename_i as0 H3 h2
     simp only [Option.some.injEq, Prod.mk.injEq] at h
     obtain ⟨rfl, rfl⟩ := h
     refine (freeze_ok hC (r 0 _ rfl) h1).trans fun I1 η1 hC1 _ hm hx => ?_
     refine (prep_ok hC1 (fun k => f (k + 1)) h2 (fun k b hb => hm _ _ (r (k + 1) b (by simpa using hb)))).imp fun I2 η2 hI hm2 hq => ⟨by simp [hq.1], fun k b hb => ?_⟩
     cases k with
     | zero => simp at hb; subst hb; exact .i _ _ (hx.mono hI)
     | succ k => exact hq.2 k b (by simpa using hb)
    ·cases h
   ·cases h
  | agg cells =>
   simp only [prep] at h
   split at h
   ·rename_i xs H2 h1
    split at h
    ·rename_i as0 H3 h2
     simp only [Option.some.injEq, Prod.mk.injEq] at h
     obtain ⟨rfl, rfl⟩ := h
     have r0 := r 0 _ rfl
     have hv : ∃ cs : Array Value, f 0 = .agg cs ∧ cs.size = cells.length ∧ ∀ (k : Nat) (a : AV), cells[k]? = some a → RelA I η H a (cs.getD k undef) := by
      generalize f 0 = v at r0
      cases r0 with
      | agg _ cs hl h => exact ⟨cs, rfl, hl, h⟩
     obtain ⟨cs, hf0, hl, hcs⟩ := hv
     refine (freezeAll_ok hC (fun k => cs.getD k undef) hcs h1).trans fun I1 η1 hC1 _ hm hx => ?_
     refine (prep_ok hC1 (fun k => f (k + 1)) h2 (fun k b hb => hm _ _ (r (k + 1) b (by simpa using hb)))).imp fun I2 η2 hI hm2 hq => ⟨by simp [hq.1], fun k b hb => ?_⟩
     cases k with
     | zero =>
      simp at hb; subst hb
      rw [hf0]
      refine .agg _ _ (by simp [ivs, hx.1, hl]) fun k a ha => ?_
      simp only [ivs, List.getElem?_map, Option.map_eq_some_iff] at ha
      obtain ⟨x, hx1, rfl⟩ := ha
      exact .i _ _ ((hx.2 k x hx1).mono hI)
     | succ k => exact hq.2 k b (by simpa using hb)
    ·cases h
   ·split at h
    ·rename_i as0 H2 h1
     simp only [Option.some.injEq, Prod.mk.injEq] at h
     exact other h1 h.1.symm h.2.symm
    ·cases h
  | dead | i | ptr | mref | clo | tup =>
   simp only [prep] at h
   split at h
   ·rename_i as0 H2 h1
    simp only [Option.some.injEq, Prod.mk.injEq] at h
    exact other h1 h.1.symm h.2.symm
   ·cases h
theorem canC_len : ∀ (ks : List (Option Nat)) (l : List AV), (canC ks l).length = l.length
 | [], l => rfl
 | k :: ks, [] => rfl
 | k :: ks, a :: l => by cases a <;> simp [canC, canC_len ks l]
theorem canC_get : ∀ (ks : List (Option Nat)) (l : List AV) (i : Nat) (y : AV), (canC ks l)[i]? = some y → ∃ x, l[i]? = some x ∧ (y = x ∨ ∃ k z, x = .i z ∧ y = .i (canI k z))
 | [], l, i, y, h => ⟨y, h, .inl rfl⟩
 | k :: ks, [], i, y, h => by simp [canC] at h
 | k :: ks, a :: l, 0, y, h => by
  cases a <;> simp [canC] at h <;> subst h
  case i z => exact ⟨_, rfl, .inr ⟨k, z, rfl, rfl⟩⟩
  all_goals exact ⟨_, rfl, .inl rfl⟩
 | k :: ks, a :: l, i + 1, y, h => by
  have : (canC ks l)[i]? = some y := by cases a <;> simpa [canC] using h
  simpa using canC_get ks l i y this
theorem canA_ok {ks : List (Option Nat)} {a : AV} {v : Value} (r : RelA I η H a v) : RelA I η H (canA ks a) v := by
 cases r with
 | i x v h => exact .i _ _ (canI_ok h)
 | agg cells cs hl h =>
  refine .agg _ _ (by rw [canC_len]; exact hl) fun k a ha => ?_
  obtain ⟨x, hx, rfl | ⟨k', z, rfl, rfl⟩⟩ := canC_get _ _ _ _ ha
  ·exact h k _ hx
  ·exact .i _ _ (canI_ok (relA_i (h k _ hx)))
 | dead v => exact .dead v
 | ref c g o n v h1 h2 h3 h4 h5 => exact .ref c g o n v h1 h2 h3 h4 h5
 | ptr c g r k v h1 h2 h3 h4 h5 h6 h7 => exact .ptr c g r k v h1 h2 h3 h4 h5 h6 h7
 | mref c v h1 h2 h3 h4 h5 h6 => exact .mref c v h1 h2 h3 h4 h5 h6
 | clo fn a b fs cs h1 h2 h3 h4 => exact .clo fn a b fs cs h1 h2 h3 h4
 | tup vs xs hl h => exact .tup vs xs hl h
theorem canLs_len : ∀ (ks : List (List (Option Nat))) (l : List AV), (canLs ks l).length = l.length
 | [], l => rfl
 | k :: ks, [] => rfl
 | k :: ks, a :: l => by simp [canLs, canLs_len ks l]
theorem canLs_ok : ∀ (ks : List (List (Option Nat))) (l : List AV) (f : Nat → Value), (∀ (k : Nat) (a : AV), l[k]? = some a → RelA I η H a (f k)) → ∀ (k : Nat) (a : AV), (canLs ks l)[k]? = some a → RelA I η H a (f k)
 | [], l, f, h => h
 | k :: ks, [], f, h => h
 | k0 :: ks, b :: l, f, h => fun k a ha => by
  cases k with
  | zero => simp [canLs] at ha; subst ha; exact canA_ok (h 0 b rfl)
  | succ k => exact canLs_ok ks l (fun k => f (k + 1)) (fun k a h' => h (k + 1) a (by simpa using h')) k a (by simpa [canLs] using ha)
theorem mono_new (hC : Conc E I η H w) (x : Chunk) : Mono I η H I η (H ++ [x]) := by
 refine mono_of (fun _ _ h => h) (by simp) fun c hc => ?_
 exact CStep.same (by rw [List.getElem?_append_left hc]) rfl
theorem matV_ok (hC : Conc E I η H w) {a : AV} {v : Value} (z : Nat) (r : RelA I η H a v) : After E I η H w (matV z H a).2 w fun I' η' => RelA I' η' (matV z H a).2 (matV z H a).1 v := by
 unfold matV
 split
 ·rename_i sz
  have hm := mono_new hC (.sl z 0 [] false)
  have hη : η H.length = none := by
   cases h : η H.length with
   | none => rfl
   | some p => have := (hC.sep _ p.1 p.2 h).2.2; omega
  have hv : ∃ a, v = .slice a 0 0 := by
   have := relA_i r
   cases this with
   | nil _ _ a cap h => exact ⟨a, by rw [h rfl]⟩
   | sl _ _ _ b off cap cs elem fz cv hI hc hx hr h1 h2 => exact ⟨_, by rw [hx rfl]; rfl⟩
  obtain ⟨a, rfl⟩ := hv
  refine ⟨I, η, ⟨hC.imm, fun c x hx => ?_, hC.inj, fun c b n h => ?_, hC.glob⟩, Trans.refl _ _ _, hm, ?_⟩
  ·by_cases hc : c < H.length
   ·rw [List.getElem?_append_left hc] at hx
    exact (hC.ch c x hx).mono rfl (fun _ _ h => h) hm (fun _ _ _ => rfl)
   ·have : c = H.length := by have := (List.getElem?_eq_some_iff.1 hx).1; simp at this; omega
    subst this
    simp at hx; subst hx
    exact ⟨fun _ => hη, fun i r h => by simp at h, .inl ⟨hη, rfl⟩⟩
  ·have := hC.sep c b n h
   exact ⟨this.1, this.2.1, by simp; omega⟩
  ·refine .ref _ _ _ _ _ (by simp) (fun sz2 rows2 ex2 h => ?_) (fun _ _ _ h => by simp at h) ⟨_, _, rfl⟩ (fun _ _ _ _ h => by omega)
   simp at h
   obtain ⟨rfl, rfl, rfl⟩ := h
   exact ⟨by simp, a, 0, rfl, .inl ⟨hη, rfl⟩⟩
 ·exact After.refl hC r
theorem mat1_ok (hC : Conc E I η H w) {a : AV} {v : Value} (k : List (Option Nat)) (r : RelA I η H a v) : After E I η H w (mat1 k H a).2 w fun I' η' => RelA I' η' (mat1 k H a).2 (mat1 k H a).1 v := by
 unfold mat1
 split
 ·exact matV_ok hC _ r
 ·exact After.refl hC r
theorem matL_ok : ∀ {I : Imm} {η : Eta} (ks : List (List (Option Nat))) (l : List AV) {H : Hp} (hC : Conc E I η H w) (f : Nat → Value), (∀ (k : Nat) (a : AV), l[k]? = some a → RelA I η H a (f k)) →
  After E I η H w (matL ks l H).2 w fun I' η' => (matL ks l H).1.length = l.length ∧ ∀ (k : Nat) (a : AV), (matL ks l H).1[k]? = some a → RelA I' η' (matL ks l H).2 a (f k)
 | I, η, [], l, H, hC, f, h => by simp only [matL, true_and]; exact After.refl hC h
 | I, η, k0 :: ks, [], H, hC, f, h => by simp only [matL, true_and]; exact After.refl hC h
 | I, η, k0 :: ks, b :: l, H, hC, f, h => by
  simp only [matL]
  refine (mat1_ok hC k0 (h 0 b rfl)).trans fun I1 η1 hC1 _ hm hx => ?_
  refine (matL_ok ks l hC1 (fun k => f (k + 1)) (fun k a h' => hm _ _ (h (k + 1) a (by simpa using h')))).imp fun I' η' _ hm2 hq => ⟨by simp [hq.1], fun k a ha => ?_⟩
  cases k with
  | zero => simp at ha; subst ha; exact hm2 _ _ hx
  | succ k => exact hq.2 k a (by simpa using ha)
theorem prepE_ok (hC : Conc E I η H w) {g : FuncId} {args args1 : List AV} {H1 : Hp} (f : Nat → Value) (h : prepE E g H args = some (args1, H1)) (r : ∀ (k : Nat) (a : AV), args[k]? = some a → RelA I η H a (f k)) :
  After E I η H w H1 w fun I' η' => args1.length = args.length ∧ ∀ (k : Nat) (a : AV), args1[k]? = some a → RelA I' η' H1 a (f k) := by
 unfold prepE at h
 split at h
 ·simp only [Option.some.injEq] at h
  have := matL_ok (E.argk g) args hC f r
  rw [h] at this; exact this
 ·split at h
  ·rename_i as0 H2 hp
   simp only [Option.some.injEq, Prod.mk.injEq] at h
   obtain ⟨rfl, rfl⟩ := h
   exact (prep_ok hC f hp r).imp fun I' η' _ _ hq => ⟨by rw [canLs_len]; exact hq.1, canLs_ok _ _ f hq.2⟩
  ·cases h
end
end Go.VI

set_option linter.unusedSimpArgs false
set_option linter.unusedVariables false
namespace Go.VI
section
variable {E : Env} {I : Imm} {η : Eta} {H : Hp} {w : World}

def locHp (H : Hp) (R : List Nat) : Hp := R.map fun c => ((H[c]?).map (Chunk.ren (posIn R))).getD (.iter [] 0)
def locEta (η : Eta) (R : List Nat) : Eta := fun i => match R[i]? with | some c => η c | none => none
theorem locHp_get {R : List Nat} (hlt : ∀ c ∈ R, c < H.length) {i c : Nat} (h : R[i]? = some c) : (locHp H R)[i]? = (H[c]?).map (Chunk.ren (posIn R)) := by
 have hc := hlt c (List.mem_of_getElem? h)
 simp [locHp, h, hc]
theorem loc_ren {R : List Nat} (hn : R.Nodup) (hlt : ∀ c ∈ R, c < H.length) : RenOK (posIn R) η H (locEta η R) (locHp H R) := by
 intro c i h
 have hi := posIn_some h
 refine ⟨by simp [locHp]; exact (List.getElem?_eq_some_iff.1 hi).1, by simp [locEta, hi], locHp_get hlt hi⟩
theorem loc_conc (hC : Conc E I η H w) {R : List Nat} (hn : R.Nodup) (hlt : ∀ c ∈ R, c < H.length) : Conc E I (locEta η R) (locHp H R) w := by
 refine ⟨hC.imm, fun i x hx => ?_, fun i j b n n' h1 h2 => ?_, fun i b n h => ?_, hC.glob⟩
 ·have hil : i < R.length := by have := (List.getElem?_eq_some_iff.1 hx).1; simpa [locHp] using this
  have hi := List.getElem?_eq_getElem hil
  rw [locHp_get hlt hi] at hx
  simp only [Option.map_eq_some_iff] at hx
  obtain ⟨y, hy, rfl⟩ := hx
  exact ren_chunk (loc_ren hn hlt) (by simp [locEta, hi]) (hC.ch _ _ hy)
 ·unfold locEta at h1 h2
  split at h1
  ·rename_i c hc
   split at h2
   ·rename_i d hd
    have := hC.inj _ _ _ _ _ h1 h2
    subst this
    have e1 := posIn_get hn hc
    have e2 := posIn_get hn hd
    rw [e1] at e2; exact Option.some.inj e2
   ·cases h2
  ·cases h1
 ·unfold locEta at h
  split at h
  ·rename_i c hc
   have := hC.sep _ _ _ h
   exact ⟨this.1, this.2.1, by simp [locHp]; exact (List.getElem?_eq_some_iff.1 hc).1⟩
  ·cases h

theorem back_ok (hC : Conc E I η H w) {R : List Nat} (hn : R.Nodup) (hlt : ∀ c ∈ R, c < H.length) {L : Hp} {w' : World} {I' : Imm} {η' : Eta} (hC' : Conc E I' η' L w') (hT : Trans I (locEta η R) w I' η' w')
  (hm : Mono I (locEta η R) (locHp H R) I' η' L) (hL : R.length ≤ L.length) {K : List Nat} (hK : K.Nodup) (hK1 : ∀ i ∈ K, R.length ≤ i) (hK2 : ∀ i ∈ K, i < L.length) {HF : Hp}
  (hF : HF = setAll H R ((L.take R.length).map (Chunk.ren (backRen R H.length K))) ++ K.map fun i => ((L[i]?).map (Chunk.ren (backRen R H.length K))).getD (.iter [] 0)) :
  ∃ ηF, Conc E I' ηF HF w' ∧ Trans I η w I' ηF w' ∧ Mono I η H I' ηF HF ∧ ∀ r x, RelA I' η' L r x → RelA I' ηF HF (renA (backRen R H.length K) r) x := by
 let ρ := backRen R H.length K
 let ηF : Eta := fun c => match posIn R c with
  | some i => η' i
  | none => if c < H.length then η c else match K[c - H.length]? with
   | some i => η' i
   | none => none
 have hlen1 : ((L.take R.length).map (Chunk.ren ρ)).length = R.length := by simp; omega
 have hget : ∀ c, HF[c]? = match posIn R c with
   | some i => (L[i]?).map (Chunk.ren ρ)
   | none => if c < H.length then H[c]? else match K[c - H.length]? with
    | some i => (L[i]?).map (Chunk.ren ρ)
    | none => none := by
  intro c
  rw [hF]
  by_cases hc : c < H.length
  ·rw [List.getElem?_append_left (by rw [setAll_length]; exact hc), setAll_get _ _ _ hn hlen1 hlt]
   cases hp : posIn R c with
   | none => simp [hc]
   | some i =>
    have hi := (List.getElem?_eq_some_iff.1 (posIn_some hp)).1
    simp [List.getElem?_take, hi, ρ]
  ·rw [List.getElem?_append_right (by rw [setAll_length]; omega), setAll_length]
   have hp : posIn R c = none := by
    cases h : posIn R c with
    | none => rfl
    | some i => exact absurd (hlt c (List.mem_of_getElem? (posIn_some h))) hc
   rw [hp]
   simp only [hc, if_false, List.getElem?_map]
   cases hk : K[c - H.length]? with
   | none => rfl
   | some i =>
    have := hK2 i (List.mem_of_getElem? hk)
    simp [this, ρ]
 have hFl : HF.length = H.length + K.length := by rw [hF]; simp [setAll_length]
 have hρ : RenOK ρ η' L ηF HF := by
  intro i c h
  have hh : (R[i]? = some c) ∨ (R[i]? = none ∧ ∃ j, posIn K i = some j ∧ c = j + H.length) := by
   simp only [ρ, backRen] at h
   split at h
   ·rename_i d hd; cases h; exact .inl hd
   ·rename_i hd
    simp only [Option.map_eq_some_iff] at h
    obtain ⟨j, hj, rfl⟩ := h
    exact .inr ⟨hd, j, hj, rfl⟩
  rcases hh with hR | ⟨_, j, hj, rfl⟩
  ·have hp := posIn_get hn hR
   have hc := hlt c (List.mem_of_getElem? hR)
   exact ⟨by omega, by simp [ηF, hp], by rw [hget, hp]⟩
  ·have hkj := posIn_some hj
   have hjl := (List.getElem?_eq_some_iff.1 hkj).1
   have hp : posIn R (j + H.length) = none := by
    cases h : posIn R (j + H.length) with
    | none => rfl
    | some i => have := hlt _ (List.mem_of_getElem? (posIn_some h)); omega
   have e : ¬ (j + H.length < H.length) := by omega
   refine ⟨by omega, by simp [ηF, hp, hkj]; intro h; omega, by rw [hget, hp]; simp [hkj]; intro h; omega⟩
 have own : ∀ i b n, η' i = some (b, n) → w.heap.size ≤ b ∨ ∃ c m, c ∈ R ∧ η c = some (b, m) := by
  intro i b n h
  rcases hT.own i b n h with h1 | ⟨j, m, h1⟩
  ·exact .inl h1
  ·unfold locEta at h1
   split at h1
   ·rename_i c hc; exact .inr ⟨c, m, List.mem_of_getElem? hc, h1⟩
   ·cases h1
 have frame : ∀ c, c ∉ R → ∀ b n, η c = some (b, n) → w'.heap[b]? = w.heap[b]? := by
  intro c hcR b n h
  refine hT.frame b (hC.sep _ _ _ h).2.1 fun i m hi => ?_
  unfold locEta at hi
  split at hi
  ·rename_i d hd
   have := hC.inj _ _ _ _ _ h hi
   subst this
   exact hcR (List.mem_of_getElem? hd)
  ·cases hi
 have cas : ∀ c b n, ηF c = some (b, n) → (∃ i, η' i = some (b, n) ∧ ((posIn R c = some i) ∨ (posIn R c = none ∧ H.length ≤ c ∧ K[c - H.length]? = some i))) ∨ (c ∉ R ∧ posIn R c = none ∧ c < H.length ∧ η c = some (b, n)) := by
  intro c b n h
  simp only [ηF] at h
  split at h
  ·rename_i i hi; exact .inl ⟨i, h, .inl hi⟩
  ·rename_i hp
   split at h
   ·rename_i hc; exact .inr ⟨posIn_none hp, hp, hc, h⟩
   ·rename_i hc
    split at h
    ·rename_i i hi; exact .inl ⟨i, h, .inr ⟨hp, by omega, hi⟩⟩
    ·cases h
 have cross : ∀ i b n c m, η' i = some (b, n) → c ∉ R → η c = some (b, m) → False := by
  intro i b n c m h1 hc h2
  rcases own i b n h1 with h3 | ⟨d, m', hd, h3⟩
  ·have := (hC.sep _ _ _ h2).2.1; omega
  ·have := hC.inj _ _ _ _ _ h2 h3
   subst this; exact hc hd
 have hmF : Mono I η H I' ηF HF := by
  intro a v r
  have toLoc := fun a v (r : RelA I η H a v) => ren_ok (H' := HF) (η' := ηF) hρ (hm _ _ (ren_ok (loc_ren hn hlt) r))
  induction r with
  | dead v => exact .dead v
  | i x v h => exact .i x v (h.mono hT.imm)
  | agg cells cs hl _ ih => exact .agg cells cs hl ih
  | clo fn first caps fs cs hl hm _ _ ih1 ih2 => exact .clo fn first caps fs cs hl hm ih1 ih2
  | tup vs xs hl _ ih => exact .tup vs xs hl ih
  | ref c g off len v hc hs hf hp hg =>
   cases hpos : posIn R c with
   | some i =>
    have := toLoc _ _ (.ref c g off len v hc hs hf hp hg)
    have hb : ρ i = some c := by simp [ρ, backRen, posIn_some hpos]
    simp only [renA, hpos] at this
    rw [hb] at this
    exact this
   | none =>
    have hH : HF[c]? = H[c]? := by rw [hget, hpos]; simp [hc]
    have hη : ηF c = η c := by simp [ηF, hpos, hc]
    refine .ref c g off len v (by omega) (fun sz rows ex h => ?_) (fun sz rows ex h => ?_) hp (fun sz g' rows ex h => ?_)
    ·rw [hH] at h; have := hs _ _ _ h; unfold RefOk at *; rw [hη]; exact this
    ·rw [hH] at h; exact ⟨(hf _ _ _ h).1, (hf _ _ _ h).2.mono hT.imm⟩
    ·rw [hH] at h; exact hg _ _ _ _ h
  | mref c v hc hm ht hu hp hz =>
   cases hpos : posIn R c with
   | some i =>
    have := toLoc _ _ (.mref c v hc hm ht hu hp hz)
    have hb : ρ i = some c := by simp [ρ, backRen, posIn_some hpos]
    simp only [renA, hpos] at this
    rw [hb] at this
    exact this
   | none =>
    have hH : HF[c]? = H[c]? := by rw [hget, hpos]; simp [hc]
    have hη : ηF c = η c := by simp [ηF, hpos, hc]
    refine .mref c v (by omega) (fun es h => ?_) (fun t cells h => ?_) (fun t l h => ?_) hp (fun sz g rows ex h => by rw [hH] at h; exact hz _ _ _ _ h)
    ·rw [hH] at h; rw [hη]; exact hm _ h
    ·rw [hH] at h; rw [hη]; exact ht _ _ h
    ·rw [hH] at h; rw [hη]; exact hu _ _ h
  | ptr c g r k v hc hb hs hf hi hp hg =>
   cases hpos : posIn R c with
   | some i =>
    have := toLoc _ _ (.ptr c g r k v hc hb hs hf hi hp hg)
    have hb : ρ i = some c := by simp [ρ, backRen, posIn_some hpos]
    simp only [renA, hpos] at this
    rw [hb] at this
    exact this
   | none =>
    have hH : HF[c]? = H[c]? := by rw [hget, hpos]; simp [hc]
    have hη : ηF c = η c := by simp [ηF, hpos, hc]
    refine .ptr c g r k v (by omega) (fun cells h => ?_) (fun sz rows ex h => ?_) (fun sz rows ex row h hr => ?_) (fun s p h => ?_) hp (fun sz g' rows ex h => ?_)
    ·rw [hH] at h; rw [hη]; exact hb _ h
    ·rw [hH] at h; rw [hη]; exact hs _ _ _ h
    ·rw [hH] at h; exact (hf _ _ _ _ h hr).mono hT.imm
    ·rw [hH] at h; rw [hη]; exact hi _ _ h
    ·rw [hH] at h; exact hg _ _ _ _ h
 refine ⟨ηF, ⟨hC'.imm, fun c x hx => ?_, fun c c' b n n' h1 h2 => ?_, fun c b n h => ?_, hC'.glob⟩, ⟨hT.os, hT.tape, hT.output, hT.size, fun b hb hno => ?_, hT.imm, fun b hb => ?_, fun c b n h => ?_⟩, hmF, fun r x hr => ren_ok hρ hr⟩
 ·rw [hget] at hx
  split at hx
  ·rename_i i hi
   simp only [Option.map_eq_some_iff] at hx
   obtain ⟨y, hy, rfl⟩ := hx
   exact ren_chunk hρ (by simp [ηF, hi]) (hC'.ch _ _ hy)
  ·rename_i hp
   split at hx
   ·rename_i hc
    exact (hC.ch _ _ hx).mono (by simp [ηF, hp, hc]) hT.imm hmF (fun b n h => frame c (posIn_none hp) b n h)
   ·rename_i hc
    split at hx
    ·rename_i i hi
     simp only [Option.map_eq_some_iff] at hx
     obtain ⟨y, hy, rfl⟩ := hx
     exact ren_chunk hρ (by simp [ηF, hp, hc, hi]) (hC'.ch _ _ hy)
    ·cases hx
 ·rcases cas _ _ _ h1 with ⟨i, e1, d1⟩ | ⟨n1, p1, l1, e1⟩
  ·rcases cas _ _ _ h2 with ⟨j, e2, d2⟩ | ⟨n2, p2, l2, e2⟩
   ·have hij := hC'.inj _ _ _ _ _ e1 e2
    subst hij
    rcases d1 with d1 | ⟨_, l1, d1⟩
    ·rcases d2 with d2 | ⟨_, l2, d2⟩
     ·have a1 := posIn_some d1
      have a2 := posIn_some d2
      rw [a1] at a2; exact Option.some.inj a2
     ·have a1 := (List.getElem?_eq_some_iff.1 (posIn_some d1)).1
      have a2 := hK1 i (List.mem_of_getElem? d2); omega
    ·rcases d2 with d2 | ⟨_, l2, d2⟩
     ·have a1 := (List.getElem?_eq_some_iff.1 (posIn_some d2)).1
      have a2 := hK1 i (List.mem_of_getElem? d1); omega
     ·have a1 := posIn_get hK d1
      have a2 := posIn_get hK d2
      rw [a1] at a2
      have := Option.some.inj a2
      omega
   ·exact (cross _ _ _ _ _ e1 n2 e2).elim
  ·rcases cas _ _ _ h2 with ⟨j, e2, d2⟩ | ⟨n2, p2, l2, e2⟩
   ·exact (cross _ _ _ _ _ e2 n1 e1).elim
   ·exact hC.inj _ _ _ _ _ e1 e2
 ·rcases cas _ _ _ h with ⟨i, e1, d1⟩ | ⟨n1, p1, l1, e1⟩
  ·have := hC'.sep _ _ _ e1
   refine ⟨this.1, this.2.1, ?_⟩
   rcases d1 with d1 | ⟨_, l1, d1⟩
   ·have := hlt c (List.mem_of_getElem? (posIn_some d1)); omega
   ·have := (List.getElem?_eq_some_iff.1 d1).1; omega
  ·have hs := hC.sep _ _ _ e1
   refine ⟨?_, by have := hT.size; omega, by omega⟩
   cases hI : I' b with
   | none => rfl
   | some o =>
    exfalso
    rcases hT.immNew b (by rw [hI]; simp) with h1 | h1 | ⟨i, m, h1⟩
    ·rw [hs.1] at h1; exact h1 rfl
    ·omega
    ·unfold locEta at h1
     split at h1
     ·rename_i d hd
      have := hC.inj _ _ _ _ _ e1 h1
      subst this; exact n1 (List.mem_of_getElem? hd)
     ·cases h1
 ·refine hT.frame b hb fun i m hi => ?_
  unfold locEta at hi
  split at hi
  ·exact hno _ _ hi
  ·cases hi
 ·rcases hT.immNew b hb with h1 | h1 | ⟨i, m, h1⟩
  ·exact .inl h1
  ·exact .inr (.inl h1)
  ·unfold locEta at h1
   split at h1
   ·exact .inr (.inr ⟨_, _, h1⟩)
   ·cases h1
 ·rcases cas _ _ _ h with ⟨i, e1, d1⟩ | ⟨n1, p1, l1, e1⟩
  ·rcases own _ _ _ e1 with h1 | ⟨d, m, _, h1⟩
   ·exact .inl h1
   ·exact .inr ⟨_, _, h1⟩
  ·exact .inr ⟨_, _, e1⟩

theorem iso_ok {cl : CallF} (hcl : CallOK E cl) (hext : ExtOK E) : CallOK E (callIso E cl) := by
 intro f args H r H' h I η w vs hC hA
 unfold callIso at h
 have hprep : ∀ args1 H1, prepE E f H args = some (args1, H1) → After E I η H w H1 w fun I' η' => ArgsOK I' η' H1 args1 vs := by
  intro args1 H1 hp
  exact (prepE_ok hC _ hp hA.2).imp fun I' η' _ _ hq => ⟨by rw [hq.1]; exact hA.1, hq.2⟩
 split at h
 ·cases h
 ·rename_i args1 H1 hp
  obtain ⟨I1, η1, hC1, hT1, hm1, hA1⟩ := hprep args1 H1 hp
  simp only at h
  split at h
  ·cases h
  ·rename_i r0 L hL
   split at h
   ·cases h
   ·rename_i hlen
    simp only [Option.some.injEq, Prod.mk.injEq] at h
    obtain ⟨rfl, rfl⟩ := h
    obtain ⟨hRn, hRl⟩ := reach_ok H1 64 (refsL args1) [] (by simp) (by simp)
    generalize hR : reach H1 64 (refsL args1) [] = R at *
    have hA2 : ArgsOK I1 (locEta η1 R) (locHp H1 R) (renL (posIn R) args1) vs := by
     refine ⟨by rw [renL_map]; simpa using hA1.1, fun k a ha => ?_⟩
     rw [renL_map] at ha
     simp only [List.getElem?_map, Option.map_eq_some_iff] at ha
     obtain ⟨b, hb, rfl⟩ := ha
     exact ren_ok (loc_ren hRn hRl) (hA1.2 k b hb)
    refine (exCl_ok hcl hext f _ _ _ _ hL I1 (locEta η1 R) w vs (loc_conc hC1 hRn hRl) hA2).mono fun e w' he => ?_
    obtain ⟨x, hx, I2, η2, k1, k2, k3, k4⟩ := he
    obtain ⟨hKn, hKl⟩ := reach_ok L 64 (refsA r0 ++ (L.take R.length).flatMap Chunk.refs) [] (by simp) (by simp)
    obtain ⟨ηF, b1, b2, b3, b4⟩ := back_ok hC1 hRn hRl k1 k2 k3 (by omega) (K := (reach L 64 (refsA r0 ++ (L.take R.length).flatMap Chunk.refs) []).filter fun i => decide (R.length ≤ i))
     (hKn.filter _) (fun i hi => by simpa using (List.mem_filter.1 hi).2) (fun i hi => hKl i (List.mem_filter.1 hi).1) rfl
    exact ⟨x, hx, I2, ηF, b1, hT1.trans b2, hm1.trans b3, b4 _ _ k4⟩
end
end Go.VI

set_option linter.unusedSimpArgs false
set_option linter.unusedVariables false
namespace Go.VI
section
variable {E : Env} {I : Imm} {η : Eta} {H : Hp} {w : World}

theorem args_append {l m : List AV} {xs ys : Array Value} (h : ArgsOK I η H l xs) (k : ArgsOK I η H m ys) : ArgsOK I η H (l ++ m) (xs ++ ys) := by
 refine ⟨by simp [h.1, k.1], fun j a ha => ?_⟩
 rw [List.getElem?_append] at ha
 rw [Array.getD_eq_getD_getElem?]
 split at ha
 ·rename_i hj
  have := h.2 _ _ ha
  rw [Array.getElem?_append_left (by rw [h.1]; exact hj), ← Array.getD_eq_getD_getElem?]; exact this
 ·rename_i hj
  have := k.2 _ _ ha
  rw [Array.getElem?_append_right (by rw [h.1]; omega), h.1, ← Array.getD_eq_getD_getElem?]; exact this
theorem args_map {fr : Fr} {a : Act} (hC : Conc E I η H w) (hf : FrOK I η H fr a.tmps) (l : Array Operand) : ArgsOK I η H (l.toList.map (opd E fr)) (l.map a.eval) := by
 refine ⟨by simp, fun k b hb => ?_⟩
 simp only [List.getElem?_map, Option.map_eq_some_iff, Array.getElem?_toList] at hb
 obtain ⟨x, hx, rfl⟩ := hb
 have hlt := (Array.getElem?_eq_some_iff.1 hx).1
 rw [getD_map _ _ _ hlt, (Array.getElem?_eq_some_iff.1 hx).2]
 exact opd_ok hC hf x

def MkOK (E : Env) : Prop := ∀ g fn, E.mkc g = some fn → ∀ (v : Value) (w : World), v.oneCell' = true → Calls E.P g #[v] w fun e w' => e = .returned (.func (.func fn) #[] #[.pointer (some ⟨w.heap.size, 0, none⟩)]) ∧ ∃ t, w' = w.alloc (.cells #[v] t)
theorem noMk (h : ∀ f, E.mkc f = none) : MkOK E := fun g fn hg => by rw [h] at hg; cases hg
theorem one_cells {a : AV} {v : Value} (r : RelA I η H a v) (h : one a = true) : v.oneCell' = true ∧ cellsA a = [a] ∧ v.cells = #[v] := by
 have h1 : cellsA a = [a] := by cases a <;> simp [one] at h <;> rfl
 have h2 : (cellsA a).all one = true := by rw [h1]; simp [h]
 obtain ⟨e1, e2, e3⟩ := cells_ok r h2
 have ho : v.oneCell' = true := by
  cases r with
  | i x v hx => exact relI_one hx
  | ref c g off len v hc hs hf hp hg => obtain ⟨a, m, rfl⟩ := hp; rfl
  | ptr c g r k v hc hb hs hf hi hp hg => obtain ⟨a, rfl⟩ := hp; rfl
  | mref c v hc hm ht hu hp hz => exact hp
  | clo => rfl
  | _ => simp [one] at h
 exact ⟨ho, h1, by cases v <;> simp_all [Value.cells, Value.oneCell']⟩
theorem eqV_eq {x y : Value} (h : eqV x y = true) : x = y := by
 unfold eqV at h
 split at h
 ·split at h
  ·simp only [Bool.and_eq_true, decide_eq_true_eq] at h; rw [h.1, h.2]
  ·cases h
 ·split at h
  ·rw [eq_of_beq h]
  ·cases h
 ·split at h
  ·rfl
  ·cases h
 ·split at h
  ·rfl
  ·cases h
 ·split at h
  ·rfl
  ·cases h
 ·exact @of_decide_eq_true _ (Classical.propDecidable _) h
theorem eqV_self (x : Value) : eqV x x = true := by
 unfold eqV
 split <;> simp
mutual
theorem eqI_eq : ∀ {x y : IV}, eqI x y = true → x = y
 | .v x, y, h => by
  cases y with
  | v y => simp only [eqI] at h; rw [eqV_eq h]
  | _ => simp [eqI] at h
 | .str a, y, h => by
  cases y with
  | str b => simp only [eqI] at h; rw [eq_of_beq h]
  | _ => simp [eqI] at h
 | .sl z r e, y, h => by
  cases y with
  | sl z' r' e' => simp only [eqI, Bool.and_eq_true] at h; rw [eq_of_beq h.1, eqIr_eq h.2.1, eq_of_beq h.2.2]
  | _ => simp [eqI] at h
 | .pt c o, y, h => by
  cases y with
  | pt c' o' => simp only [eqI, Bool.and_eq_true] at h; rw [eqIs_eq h.1, eq_of_beq h.2]
  | _ => simp [eqI] at h
 | .mp a, y, h => by
  cases y with
  | mp b => simp only [eqI, decide_eq_true_eq] at h; rw [h]
  | _ => simp [eqI] at h
theorem eqIs_eq : ∀ {x y : List IV}, eqIs x y = true → x = y
 | [], y, h => by
  cases y with
  | nil => rfl
  | cons => simp [eqIs] at h
 | a :: r, y, h => by
  cases y with
  | nil => simp [eqIs] at h
  | cons b t => simp only [eqIs, Bool.and_eq_true] at h; rw [eqI_eq h.1, eqIs_eq h.2]
theorem eqIr_eq : ∀ {x y : List (List IV)}, eqIr x y = true → x = y
 | [], y, h => by
  cases y with
  | nil => rfl
  | cons => simp [eqIr] at h
 | a :: r, y, h => by
  cases y with
  | nil => simp [eqIr] at h
  | cons b t => simp only [eqIr, Bool.and_eq_true] at h; rw [eqIs_eq h.1, eqIr_eq h.2]
end
mutual
theorem eqI_self : ∀ x : IV, eqI x x = true
 | .v x => by simp [eqI, eqV_self]
 | .str a => by simp [eqI]
 | .sl z r e => by simp [eqI, eqIr_self r]
 | .pt c o => by simp [eqI, eqIs_self c]
 | .mp a => by simp [eqI]
theorem eqIs_self : ∀ x : List IV, eqIs x x = true
 | [] => rfl
 | a :: r => by simp [eqIs, eqI_self a, eqIs_self r]
theorem eqIr_self : ∀ x : List (List IV), eqIr x x = true
 | [] => rfl
 | a :: r => by simp [eqIr, eqIs_self a, eqIr_self r]
end
theorem eqFn_eq {x y : Fn} (h : eqFn x y = true) : x = y := of_decide_eq_true h
theorem eqFn_self (x : Fn) : eqFn x x = true := by simp [eqFn]
mutual
theorem eqA_eq : ∀ {x y : AV}, eqA x y = true → x = y
 | .dead, y, h => by
  cases y with
  | dead => rfl
  | _ => simp [eqA] at h
 | .i x, y, h => by
  cases y with
  | i y => simp only [eqA] at h; rw [eqI_eq h]
  | _ => simp [eqA] at h
 | .agg a, y, h => by
  cases y with
  | agg b => simp only [eqA] at h; rw [eqAs_eq h]
  | _ => simp [eqA] at h
 | .ref a b c d, y, h => by
  cases y with
  | ref a' b' c' d' => simp only [eqA, Bool.and_eq_true, beq_iff_eq] at h; obtain ⟨rfl, rfl, rfl, rfl⟩ := h; rfl
  | _ => simp [eqA] at h
 | .ptr a b c d, y, h => by
  cases y with
  | ptr a' b' c' d' => simp only [eqA, Bool.and_eq_true, beq_iff_eq] at h; obtain ⟨rfl, rfl, rfl, rfl⟩ := h; rfl
  | _ => simp [eqA] at h
 | .mref a, y, h => by
  cases y with
  | mref b => simp only [eqA] at h; rw [eq_of_beq h]
  | _ => simp [eqA] at h
 | .clo f a b, y, h => by
  cases y with
  | clo f' a' b' => simp only [eqA, Bool.and_eq_true] at h; rw [eqFn_eq h.1, eqAs_eq h.2.1, eqAs_eq h.2.2]
  | _ => simp [eqA] at h
 | .tup a, y, h => by
  cases y with
  | tup b => simp only [eqA] at h; rw [eqAs_eq h]
  | _ => simp [eqA] at h
theorem eqAs_eq : ∀ {x y : List AV}, eqAs x y = true → x = y
 | [], y, h => by
  cases y with
  | nil => rfl
  | cons => simp [eqAs] at h
 | a :: r, y, h => by
  cases y with
  | nil => simp [eqAs] at h
  | cons b t => simp only [eqAs, Bool.and_eq_true] at h; rw [eqA_eq h.1, eqAs_eq h.2]
end
mutual
theorem eqA_self : ∀ x : AV, eqA x x = true
 | .dead => rfl
 | .i x => by simp [eqA, eqI_self]
 | .agg a => by simp [eqA, eqAs_self a]
 | .ref a b c d => by simp [eqA]
 | .ptr a b c d => by simp [eqA]
 | .mref a => by simp [eqA]
 | .clo f a b => by simp [eqA, eqFn_self, eqAs_self a, eqAs_self b]
 | .tup a => by simp [eqA, eqAs_self a]
theorem eqAs_self : ∀ x : List AV, eqAs x x = true
 | [] => rfl
 | a :: r => by simp [eqAs, eqA_self a, eqAs_self r]
end
theorem eqEs_eq : ∀ {x y : List (IV × AV)}, eqEs x y = true → x = y
 | [], [], _ => rfl
 | [], _ :: _, h => by simp [eqEs] at h
 | _ :: _, [], h => by simp [eqEs] at h
 | (a, a') :: r, (b, b') :: t, h => by
  simp only [eqEs, Bool.and_eq_true] at h
  rw [eqI_eq h.1.1, eqA_eq h.1.2, eqEs_eq h.2]
theorem eqEs_self : ∀ x : List (IV × AV), eqEs x x = true
 | [] => rfl
 | a :: r => by simp [eqEs, eqI_self, eqA_self, eqEs_self r]
theorem eqCh_eq {x y : Chunk} (h : eqCh x y = true) : x = y := by
 unfold eqCh at h
 split at h
 ·rw [eqAs_eq h]
 ·simp only [Bool.and_eq_true, beq_iff_eq] at h; obtain ⟨rfl, rfl, h3, rfl⟩ := h; rw [eqIr_eq h3]
 ·simp only [Bool.and_eq_true, beq_iff_eq] at h; obtain ⟨rfl, rfl, h3, rfl⟩ := h; rw [eqIr_eq h3]
 ·simp only [Bool.and_eq_true, beq_iff_eq] at h; obtain ⟨rfl, rfl⟩ := h; rfl
 ·rw [eqEs_eq h]
 ·simp only [Bool.and_eq_true, beq_iff_eq] at h; obtain ⟨rfl, h2⟩ := h; rw [eqAs_eq h2]
 ·simp only [Bool.and_eq_true, beq_iff_eq] at h; obtain ⟨rfl, rfl⟩ := h; rfl
 ·rfl
 ·cases h
theorem eqCh_self (x : Chunk) : eqCh x x = true := by
 cases x <;> simp [eqCh, eqAs_self, eqIr_self, eqEs_self]
theorem eqHp_eq : ∀ {x y : Hp}, eqHp x y = true → x = y
 | [], [], _ => rfl
 | [], _ :: _, h => by simp [eqHp] at h
 | _ :: _, [], h => by simp [eqHp] at h
 | a :: r, b :: t, h => by
  simp only [eqHp, Bool.and_eq_true] at h
  rw [eqCh_eq h.1, eqHp_eq h.2]
theorem eqHp_self : ∀ x : Hp, eqHp x x = true
 | [] => rfl
 | a :: r => by simp [eqHp, eqCh_self, eqHp_self r]
theorem rdrK_self (v : AV) : rdrK H (some (v, H)) = some (v, H) := by simp only [rdrK, eqHp_self, if_true]
theorem rdrK_some {q : Option (AV × Hp)} {v : AV} {H' : Hp} (h : rdrK H q = some (v, H')) : H' = H ∧ q = some (v, H) := by
 unfold rdrK at h
 split at h
 ·split at h
  ·rename_i he
   cases h
   exact ⟨rfl, by rw [← eqHp_eq he]⟩
  ·cases h
 ·cases h
theorem callM_ok {cl : CallF} (hmk : MkOK E) (hcl : CallOK E (callIso E cl)) : CallOK E (callM E cl) := by
 intro f args H r H' h I η w vs hC hA
 unfold callM at h
 split at h
 ·rename_i fn hfn
  unfold mkE at h
  split at h
  ·rename_i a
   split at h
   ·rename_i ho
    cases h
    have hr := hA.2 0 a rfl
    have hvs : vs = #[vs.getD 0 undef] := by
     have h1 := hA.1
     obtain ⟨l⟩ := vs
     match l, h1 with
     | [x], _ => rfl
    generalize vs.getD 0 undef = v at hr hvs
    subst hvs
    obtain ⟨k1, k2, k3⟩ := one_cells hr ho
    refine (hmk f fn hfn v w k1).mono fun e w' ⟨e1, t, e2⟩ => ?_
    have hw : w'.heap = w.heap.push (.cells #[v] t) := by rw [e2]; rfl
    refine ⟨_, e1, new_ok (w' := w') hC hw (by rw [e2]; rfl) (by rw [e2]; rfl) (by rw [e2]; rfl) (.box [a]) (fun hm => ?_) (fun hm => ?_)⟩
    ·exact ⟨w.heap.size, #[v], t, (0, 0), by simp [etaNew], heap_push_new hw, thaw0 _, rfl, fun k c hc => by
      cases k with
      | zero => simp at hc; subst hc; exact hm _ _ hr
      | succ k => simp at hc⟩
    ·refine .clo _ _ _ _ _ rfl rfl (fun k a h => by simp at h) (fun k b h => ?_)
     cases k with
     | zero =>
      simp at h; subst h
      exact .ptr _ _ _ _ _ (by simp) (fun cells h => ⟨w.heap.size, 1, by simp [etaNew], rfl⟩) (fun _ _ _ h => by simp at h) (fun _ _ _ _ h => by simp at h) (fun _ _ h => by simp at h) ⟨_, rfl⟩ (fun _ _ _ _ h => by simp at h)
     | succ k => simp at h
   ·cases h
  ·cases h
 ·split at h
  ·obtain ⟨rfl, h2⟩ := rdrK_some h
   exact hcl f args _ r _ h2 I η w vs hC hA
  ·exact hcl f args H r H' h I η w vs hC hA
theorem evOp_ok {cl : CallF} (hcl : CallOK E (callM E cl)) {fr : Fr} {a : Act} {o : Oper} {v : AV} {H' : Hp} (h : evOp E cl o.op fr H = some (v, H')) (hC : Conc E I η H w) (hf : FrOK I η H fr a.tmps)
  {K : Act → World → Prop} {Q : Exit → Act → World → Prop} (hK : ∀ x w', After E I η H w H' w' (fun I' η' => RelA I' η' H' v x) → K (a.put o.dst x) w') : o.wp E.P a w K Q := by
 have other : (∀ f args tys, o.op ≠ .call ⟨.value f, args, tys⟩) → (if heavy E o.op then evH E fr H o.op else (evL E fr H o.op).map fun v => (v, H)) = some (v, H') → o.wp E.P a w K Q := by
  intro _ h
  split at h
  ·obtain ⟨nx, x, w', h1, h2, h3⟩ := evH_ok h hC hf
   unfold Oper.wp
   rw [h1]
   cases nx <;> simp only [nv] at h2 <;> first | (cases h2; done) | skip
   ·cases h2; exact hK _ _ h3
   ·cases h2; exact hK _ _ h3
  ·simp only [Option.map_eq_some_iff, Prod.mk.injEq] at h
   obtain ⟨v', h1, rfl, rfl⟩ := h
   obtain ⟨x, h2, h3⟩ := evL_ok h1 hC hf
   unfold Oper.wp
   rw [h2]
   exact hK _ _ (After.refl hC h3)
 by_cases hcall : ∃ f args tys, o.op = .call ⟨.value f, args, tys⟩
 ·obtain ⟨f, args, tys, ho⟩ := hcall
  rw [ho] at h
  simp only [evOp] at h
  split at h
  ·rename_i g as0 hg
   split at h
   ·rename_i hen
    unfold calleeE at hg
    split at hg
    ·rename_i g' first caps hf0
     simp only [Option.some.injEq, Prod.mk.injEq] at hg
     obtain ⟨rfl, rfl⟩ := hg
     have rf := opd_ok hC hf f
     rw [hf0] at rf
     generalize hy : a.eval f = y at rf
     cases rf with
     | clo fn fs cs xs ys hl hm h1 h2 =>
      have hA : ArgsOK I η H (first ++ args.toList.map (opd E fr) ++ caps) (xs ++ args.map a.eval ++ ys) := args_append (args_append ⟨hl, h1⟩ (args_map hC hf args)) ⟨hm, h2⟩
      have hen' : ∃ fn, E.P.funcs[g']? = some fn ∧ fn.body.isSome = true ∧ (fn.name == "runtime.NumGoroutine") = false := by
       unfold enterOk at hen
       split at hen
       ·rename_i fn hfn
        simp only [Bool.and_eq_true, Bool.not_eq_true'] at hen
        exact ⟨fn, hfn, hen.1, hen.2⟩
       ·cases hen
      obtain ⟨fn, hfn, hb, hn⟩ := hen'
      have hrun : (execOp a.eval o).run E.P w = .ok (.enter g' (xs ++ args.map a.eval ++ ys)) w := by
       have hb' : ¬ fn.body = none := by cases hbb : fn.body <;> simp_all
       have hn' : ¬ fn.name = "runtime.NumGoroutine" := by simpa using hn
       simp [execOp, ho, resolve, hy, Deferred.ofValue, invoke, callFunc, hfn, hn', hb']
      unfold Oper.wp
      rw [hrun, Oper.upon_enter]
      refine (hcl _ _ _ _ _ h I η w _ hC hA).mono fun e w' he => ?_
      obtain ⟨x, rfl, hx⟩ := he
      exact hK _ _ hx
    ·cases hg
   ·cases h
  ·cases h
 ·have hne : ∀ f args tys, o.op ≠ .call ⟨.value f, args, tys⟩ := fun f args tys e => hcall ⟨f, args, tys, e⟩
  refine other hne ?_
  unfold evOp at h
  split at h
  ·rename_i f args tys he
   exact absurd he (hne _ _ _)
  ·exact h

def Fe (ro : Option Nat) : Fence := { Fence.wide with round := ro }
theorem calls_fe {ro : Option Nat} {n : Nat} {P : Program} {f : FuncId} {args : Array Value} {w : World} {R : Ending → World → Prop} (h : Calls P f args w R) : CallsIn (Fe ro) n P f args w R := (callsIn_wide (n := n)).2 h
theorem rows_fe {ro : Option Nat} {n : Nat} {P : Program} {row : String} {args : Array Value} {w : World} {R : Value → World → Prop} (h : Rows P row args w R) : RowsIn (Fe ro) n P row args w R :=
 fun c cs _ => let ⟨v, w', r, s⟩ := h c cs; ⟨v, w', r, stepsIn_wide.2 s⟩
theorem oper_fe {ro : Option Nat} {n : Nat} {P : Program} {o : Oper} {a : Act} {w : World} {K : Act → World → Prop} {Q : Exit → Act → World → Prop} (hd : ∀ c, o.op ≠ .defer c) (h : o.wp P a w K Q) : o.wpIn (Fe ro) n P a w K Q := by
 refine ⟨fun _ _ => trivial, ?_⟩
 have hs : o.semAt (Fe ro).round a.eval = execOp a.eval o := by
  cases ro with
  | none => rfl
  | some l => exact Oper.semAt_some l _ _ hd
 rw [hs]
 unfold Oper.wp at h
 generalize (execOp a.eval o).run P w = r at *
 cases r with
 | ok x w' =>
  cases x <;> simp only [Oper.upon, Oper.uponIn] at h ⊢ <;>
   first
    | exact h
    | exact ⟨fun h => (by cases h), calls_fe h⟩
    | exact ⟨fun h => (by cases h), rows_fe h⟩
    | exact h.elim
 | halt x w' => cases x <;> simp only [Oper.upon, Oper.uponIn] at h ⊢ <;> exact h
theorem evOp_nodef {E : Env} {cl : CallF} {o : Op} {fr : Fr} {H : Hp} {r : AV × Hp} (h : evOp E cl o fr H = some r) : ∀ c, o ≠ .defer c := by
 rintro c rfl
 simp [evOp, heavy, evL] at h

theorem guard_ok {fr : Fr} {tmps : Array Value} (hf : FrOK I η H fr tmps) {ops : Array Oper} {o : Oper} {b : Bool} (h : guardE ops.toList fr o = some b) : Region.wanted o (yielded ops tmps) = b := by
 unfold guardE at h
 unfold Region.wanted
 split at h
 ·rename_i hg
  cases h; rw [hg]
 ·rename_i j want hg
  rw [hg]
  simp only [Array.getElem?_toList] at h
  split at h
  ·rename_i d hd
   have r := hf d
   split at h
   ·rename_i c hc
    cases h
    rw [hc] at r
    have hv := relA_v r
    have : tmps[d]? = some (.bool c) := by
     rw [Array.getD_eq_getD_getElem?] at hv
     cases h : tmps[d]? with
     | none => rw [h] at hv; simp [undef] at hv
     | some x => rw [h] at hv; simp at hv; rw [hv]
    simp [yielded, hd, this]
   ·rename_i hc
    cases h
    rw [hc] at r
    obtain ⟨cs, hcs, hz, _⟩ := relA_tup r
    have : ∀ c, tmps[d]? ≠ some (.bool c) := by
     intro c hcc
     simp [Array.getD_eq_getD_getElem?, hcc] at hcs
    have hy : yielded ops tmps j = none := by
     unfold yielded
     rw [hd]
     show (match tmps[d]? with | some (.bool b) => some b | _ => none) = none
     split
     ·rename_i c hcc; exact absurd hcc (this c)
     ·rfl
    show (yielded ops tmps j == some want) = false
    rw [hy]; rfl
   ·cases h
  ·cases h

def DstOK (n : Nat) (l : List Oper) : Prop := ∀ o ∈ l, ∀ d, o.dst = some d → d < n
theorem put_size (a : Act) (d : Option Nat) (x : Value) : (a.put d x).tmps.size = a.tmps.size := by cases d <;> simp [Act.put]
theorem put_defers (a : Act) (d : Option Nat) (x : Value) : (a.put d x).defers = a.defers := by cases d <;> simp [Act.put]

theorem evOps_ok {cl : CallF} {ro : Option Nat} {n : Nat} (hcl : CallOK E (callM E cl)) {ops : Array Oper} {Q : Exit → Act → World → Prop} : ∀ (l : List Oper) {fr fr' : Fr} {H H' : Hp} {I : Imm} {η : Eta} {a : Act} {w : World}, evOps E cl ops.toList l fr H = some (fr', H') →
  Conc E I η H w → FrOK I η H fr a.tmps → DstOK a.tmps.size l →
  (∀ a' w', a'.defers = a.defers → a'.tmps.size = a.tmps.size → After E I η H w H' w' (fun I' η' => FrOK I' η' H' fr' a'.tmps) → Q .normal a' w') → wpListIn (Fe ro) n E.P ops Q l a w
 | [], fr, fr', H, H', I, η, a, w, h, hC, hf, _, hQ => by
  simp only [evOps, Option.some.injEq, Prod.mk.injEq] at h
  obtain ⟨rfl, rfl⟩ := h
  exact hQ a w rfl rfl (After.refl hC hf)
 | o :: l, fr, fr', H, H', I, η, a, w, h, hC, hf, hd, hQ => by
  simp only [evOps] at h
  unfold wpListIn
  split at h
  ·rename_i hg
   rw [guard_ok hf hg]
   simp only [if_true]
   split at h
   ·rename_i v H1 hv
    refine oper_fe (evOp_nodef hv) (evOp_ok hcl hv hC hf fun x w1 hx => ?_)
    obtain ⟨I1, η1, hC1, hT1, hm1, hr1⟩ := hx
    refine evOps_ok hcl l h hC1 ((hf.mono hm1).put hr1 o.dst fun k hk => hd o (by simp) k hk) (by rw [put_size]; exact fun o ho d hdd => hd o (by simp [ho]) d hdd) fun a' w' hdef hsz hA => ?_
    rw [put_defers] at hdef
    rw [put_size] at hsz
    obtain ⟨I2, η2, k1, k2, k3, k4⟩ := hA
    exact hQ a' w' hdef hsz ⟨I2, η2, k1, hT1.trans k2, hm1.trans k3, k4⟩
   ·cases h
  ·rename_i hg
   rw [guard_ok hf hg]
   simp only [Bool.false_eq_true, if_false]
   refine ⟨fun _ _ => trivial, ?_⟩
   refine evOps_ok hcl l h hC (hf.put (relA_undef _ _ _) o.dst fun k hk => hd o (by simp) k hk) (by rw [put_size]; exact fun o ho d hdd => hd o (by simp [ho]) d hdd) fun a' w' hdef hsz hA => ?_
   rw [put_defers] at hdef
   rw [put_size] at hsz
   exact hQ a' w' hdef hsz hA
  ·cases h
end
end Go.VI

set_option linter.unusedSimpArgs false
set_option linter.unusedVariables false
namespace Go.VI
section
variable {E : Env} {cl : CallF} {ops : List Oper}

def Agree (E : Env) (fr fr' : Fr) (op : Op) : Prop := ∀ x ∈ op.operands, opd E fr x = opd E fr' x
theorem map_agree {fr fr' : Fr} {l : Array Operand} (h : ∀ x ∈ l, opd E fr x = opd E fr' x) : l.toList.map (opd E fr) = l.toList.map (opd E fr') :=
 List.map_congr_left fun x hx => h x (by simpa using hx)
theorem pairs_agree {fr fr' : Fr} {l : Array (Nat × Operand)} (h : ∀ x ∈ (l.toList.map (·.2)).toArray, opd E fr x = opd E fr' x) : (l.toList.map fun p => (p.1, opd E fr p.2)) = l.toList.map fun p => (p.1, opd E fr' p.2) :=
 List.map_congr_left fun p hp => by rw [h p.2 (by simp; exact ⟨p.1, by simpa using hp⟩)]
theorem opt_agree {fr fr' : Fr} {o : Option Operand} (h : ∀ x ∈ o.toArray, opd E fr x = opd E fr' x) : o.map (opd E fr) = o.map (opd E fr') := by
 cases o with
 | none => rfl
 | some x => simp [h x (by simp)]

theorem evL_agree {fr fr' : Fr} {H : Hp} {op : Op} (h : Agree E fr fr' op) : evL E fr H op = evL E fr' H op := by
 unfold Agree at h
 cases op <;> simp only [Op.operands] at h <;> simp only [evL]
 case move x => rw [h x (by simp)]
 case assign x => rw [h x (by simp)]
 case pick c a b => rw [h c (by simp), h a (by simp), h b (by simp)]
 case build t ps => rw [pairs_agree h]
 case load t x => rw [h x (by simp)]
 case nilCheck x => rw [h x (by simp)]
 case binOp op t x y t2 => rw [h x (by simp), h y (by simp)]
 case unOp op t x => rw [h x (by simp)]
 case convert s d x => rw [h x (by simp)]
 case makeFunc fn a b => rw [map_agree (l := a) fun x hx => h x (by simp [hx]), map_agree (l := b) fun x hx => h x (by simp [hx])]
 case slice t x l hh m => rw [h x (by simp), opt_agree (o := l) fun x hx => h x (by simp [hx]), opt_agree (o := hh) fun x hx => h x (by simp [hx]), opt_agree (o := m) fun x hx => h x (by simp [hx])]
 case fieldAddr t x f => rw [h x (by simp)]
 case field t x f => rw [h x (by simp)]
 case indexAddr t x i => rw [h x (by simp), h i (by simp)]
 case index t x i => rw [h x (by simp), h i (by simp)]
 case extract x n => rw [h x (by simp)]
 case lookup t x k ok => rw [h x (by simp), h k (by simp)]
 case call c =>
  obtain ⟨callee, args, tys⟩ := c
  cases callee with
  | value f => rfl
  | invoke r m => rfl
  | builtin b =>
   simp only [Call.operands] at h
   have hm := map_agree (E := E) (fr := fr) (fr' := fr') (l := args) fun x hx => h x (by simpa using hx)
   simp only
   split
   ·rename_i x t hx ht
    have := hm
    rw [hx] at this
    simp at this
    rw [this]
   ·rename_i hx ht; rw [hm]
   ·rename_i hx ht; rw [hm]
   ·rfl
theorem evH_agree {fr fr' : Fr} {H : Hp} {op : Op} (h : Agree E fr fr' op) : evH E fr H op = evH E fr' H op := by
 unfold Agree at h
 cases op <;> simp only [Op.operands] at h <;> simp only [evH]
 case box t x => rw [h x (by simp)]
 case buildSlice t n ps => rw [pairs_agree h]
 case store t a x => rw [h a (by simp), h x (by simp)]
 case slice t x l hh m =>
  cases m with
  | none => rfl
  | some m => simp only; rw [h x (by simp), h m (by simp), opt_agree (o := l) fun x hx => h x (by simp [hx]), opt_agree (o := hh) fun x hx => h x (by simp [hx])]
 case makeSlice t l c => rw [h l (by simp), h c (by simp)]
 case convert s d x => rw [h x (by simp)]
 case range t x => rw [h x (by simp)]
 case next it b => rw [h it (by simp)]
 case makeMap t r =>
  cases r <;> rfl
 case mapUpdate t m k x => rw [h m (by simp), h k (by simp), h x (by simp)]
 case insert t m k x => rw [h m (by simp), h k (by simp), h x (by simp)]
 case call c =>
  obtain ⟨callee, args, tys⟩ := c
  cases callee with
  | value f => rfl
  | invoke r m => rfl
  | builtin b =>
   simp only [Call.operands] at h
   have hm := map_agree (E := E) (fr := fr) (fr' := fr') (l := args) fun x hx => h x (by simpa using hx)
   simp only
   split
   ·rename_i s x t t2 hx ht
    have := hm
    rw [hx] at this
    simp at this
    rw [this.1, this.2]
   ·rename_i s x t t2 hx ht
    have := hm
    rw [hx] at this
    simp at this
    rw [this.1, this.2]
   ·rfl
theorem callee_agree {fr fr' : Fr} {f : Operand} {args : Array Operand} {tys : Array TypeId} (h : Agree E fr fr' (.call ⟨.value f, args, tys⟩)) : calleeE E fr f args.toList = calleeE E fr' f args.toList := by
 simp only [Agree, Op.operands, Call.operands] at h
 unfold calleeE
 rw [h f (by simp), map_agree (l := args) fun x hx => h x (by simp [hx])]
theorem evOp_agree {fr fr' : Fr} {H : Hp} {op : Op} (h : Agree E fr fr' op) : evOp E cl op fr H = evOp E cl op fr' H := by
 unfold evOp
 split
 ·rw [callee_agree h]
 ·rw [evH_agree h, evL_agree h]
theorem touch_agree {fr fr' : Fr} {H : Hp} {op : Op} (h : Agree E fr fr' op) : touch E fr H op = touch E fr' H op := by
 have h0 := h
 unfold Agree at h
 cases op <;> simp only [Op.operands] at h <;> simp only [touch]
 case load t x => rw [h x (by simp)]
 case store t a x => rw [h a (by simp), h x (by simp)]
 case slice t x l hh m => rw [h x (by simp)]
 case indexAddr t x i => rw [h x (by simp)]
 case buildSlice t n ps => rw [pairs_agree h]
 case convert s d x => rw [h x (by simp)]
 case next it b => rw [h it (by simp)]
 case mapUpdate t m k x => rw [h m (by simp)]
 case insert t m k x => rw [h m (by simp)]
 case lookup t x k ok => rw [h x (by simp)]
 case call c =>
  obtain ⟨callee, args, tys⟩ := c
  cases callee with
  | value f => simp only; rw [callee_agree h0]
  | invoke r m => rfl
  | builtin b =>
   simp only [Call.operands] at h
   simp only
   rw [map_agree (l := args) fun x hx => h x (by simpa using hx)]

theorem behind_heap {H H' : Hp} {p : AV} (h : ∀ c ∈ refsA p, H'[c]? = H[c]?) : behind H' p = behind H p := by
 unfold behind
 split
 ·rfl
 ·rw [h _ (by simp [refsA])]
 ·rfl
theorem evL_heap {fr : Fr} {H H' : Hp} {op : Op} (h : readsH op = true → ∀ c ∈ touch E fr H op, H'[c]? = H[c]?) : evL E fr H' op = evL E fr H op := by
 cases op <;> simp only [evL]
 case load t x =>
  simp only [readsH, touch, true_implies] at h
  unfold loadE
  rw [behind_heap h]
 case indexAddr t x i =>
  simp only [readsH, touch, true_implies] at h
  unfold idxAddrE
  split
  ·split
   ·rfl
   ·split
    ·rfl
    ·rename_i c g off len _ hx
     rw [hx] at h
     rw [h c (by simp [refsA])]
    ·rfl
   ·rfl
  ·rfl
 case slice t x l hh m =>
  simp only [readsH, touch, true_implies] at h
  unfold sliceE
  split
  ·rfl
  ·split
   ·split
    ·split
     ·rfl
     ·rfl
     ·rename_i c g off len hx
      rw [hx] at h
      rw [h c (by simp [refsA])]
     ·rfl
    ·rfl
   ·rfl
 case convert s d x =>
  simp only [readsH, touch, true_implies] at h
  split
  ·unfold convS rowsE
   cases hx : opd E fr x with
   | ref c g off len =>
    rw [hx] at h
    simp only
    rw [h c (by simp [refsA])]
   | i z => cases z <;> rfl
   | _ => rfl
  ·rfl
 case lookup t x k ok =>
  simp only [readsH, touch, true_implies] at h
  unfold lookA
  cases hx : opd E fr x with
  | mref c =>
   rw [hx] at h
   simp only
   rw [h c (by simp [refsA])]
  | _ => rfl
 case call c =>
  obtain ⟨callee, args, tys⟩ := c
  cases callee <;> rfl

def Leaves (H H' : Hp) (T : List Nat) : Prop := H.length ≤ H'.length ∧ ∀ c, c < H.length → c ∉ T → H'[c]? = H[c]?
theorem Leaves.refl (H : Hp) (T : List Nat) : Leaves H H T := ⟨Nat.le_refl _, fun _ _ _ => rfl⟩
theorem Leaves.app (H : Hp) (x : Hp) (T : List Nat) : Leaves H (H ++ x) T := ⟨by simp, fun c hc _ => List.getElem?_append_left hc⟩
theorem Leaves.trans {H H' H'' : Hp} {T : List Nat} (h : Leaves H H' T) (k : Leaves H' H'' T) : Leaves H H'' T :=
 ⟨Nat.le_trans h.1 k.1, fun c hc hT => by rw [k.2 c (by have := h.1; omega) hT, h.2 c hc hT]⟩
theorem Leaves.set {H : Hp} {c : Nat} {x : Chunk} {T : List Nat} (h : c ∈ T) : Leaves H (H.set c x) T :=
 ⟨by simp, fun d hd hT => by rw [List.getElem?_set_ne (fun e : c = d => hT (e ▸ h))]⟩
theorem Leaves.mono {H H' : Hp} {T T' : List Nat} (h : Leaves H H' T) (hs : ∀ c ∈ T, c ∈ T') : Leaves H H' T' := ⟨h.1, fun c hc hT => h.2 c hc fun hc => hT (hs c hc)⟩
theorem freeze_leaves {H H' : Hp} {a : AV} {x : IV} (h : freeze H a = some (x, H')) : Leaves H H' (refsA a) := by
 unfold freeze at h
 split at h
 ·cases h; exact .refl _ _
 ·split at h
  ·split at h
   ·simp only [Option.some.injEq, Prod.mk.injEq] at h
    obtain ⟨_, rfl⟩ := h
    exact .set (by simp [refsA])
   ·cases h
  ·split at h
   ·simp only [Option.some.injEq, Prod.mk.injEq] at h
    obtain ⟨_, rfl⟩ := h
    exact .refl _ _
   ·cases h
  ·cases h
 ·cases h
theorem freezeAll_leaves : ∀ {l : List AV} {H H' : Hp} {xs : List IV}, freezeAll H l = some (xs, H') → Leaves H H' (refsL l)
 | [], H, H', xs, h => by simp only [freezeAll, Option.some.injEq, Prod.mk.injEq] at h; obtain ⟨_, rfl⟩ := h; exact .refl _ _
 | a :: l, H, H', xs, h => by
  simp only [freezeAll] at h
  split at h
  ·rename_i x H1 h1
   split at h
   ·rename_i ys H2 h2
    simp only [Option.some.injEq, Prod.mk.injEq] at h
    obtain ⟨_, rfl⟩ := h
    exact ((freeze_leaves h1).mono (by simp [refsL]; exact fun c hc => .inl hc)).trans ((freezeAll_leaves h2).mono (by simp [refsL]; exact fun c hc => .inr hc))
   ·cases h
  ·cases h
theorem prep_leaves : ∀ {l as0 : List AV} {H H' : Hp}, prep H l = some (as0, H') → Leaves H H' (refsL l)
 | [], as0, H, H', h => by simp only [prep, Option.some.injEq, Prod.mk.injEq] at h; obtain ⟨_, rfl⟩ := h; exact .refl _ _
 | a :: l, as0, H, H', h => by
  have rest : ∀ {as0 H'}, prep H l = some (as0, H') → Leaves H H' (refsL (a :: l)) := fun h => (prep_leaves h).mono (by simp [refsL]; exact fun c hc => .inr hc)
  cases a with
  | ref c g off len =>
   simp only [prep] at h
   split at h
   ·rename_i x H1 h1
    split at h
    ·rename_i as2 H2 h2
     simp only [Option.some.injEq, Prod.mk.injEq] at h
     obtain ⟨_, rfl⟩ := h
     exact ((freeze_leaves h1).mono (by simp [refsL]; exact fun c hc => .inl hc)).trans ((prep_leaves h2).mono (by simp [refsL]; exact fun c hc => .inr hc))
    ·cases h
   ·cases h
  | agg cells =>
   simp only [prep] at h
   split at h
   ·rename_i xs H1 h1
    split at h
    ·rename_i as2 H2 h2
     simp only [Option.some.injEq, Prod.mk.injEq] at h
     obtain ⟨_, rfl⟩ := h
     exact ((freezeAll_leaves h1).mono (by simp [refsL, refsA]; exact fun c hc => .inl hc)).trans ((prep_leaves h2).mono (by simp [refsL]; exact fun c hc => .inr hc))
    ·cases h
   ·split at h
    ·rename_i as2 H2 h2
     simp only [Option.some.injEq, Prod.mk.injEq] at h
     obtain ⟨_, rfl⟩ := h
     exact rest h2
    ·cases h
  | dead | i | ptr | mref | clo | tup =>
   simp only [prep] at h
   split at h
   ·rename_i as2 H2 h2
    simp only [Option.some.injEq, Prod.mk.injEq] at h
    obtain ⟨_, rfl⟩ := h
    exact rest h2
   ·cases h
theorem matV_app (z : Nat) (H : Hp) (a : AV) : ∃ x, (matV z H a).2 = H ++ x := by
 unfold matV; split
 ·exact ⟨_, rfl⟩
 ·exact ⟨[], by simp⟩
theorem mat1_app (k : List (Option Nat)) (H : Hp) (a : AV) : ∃ x, (mat1 k H a).2 = H ++ x := by
 unfold mat1; split
 ·exact matV_app _ _ _
 ·exact ⟨[], by simp⟩
theorem matL_app : ∀ (ks : List (List (Option Nat))) (l : List AV) (H : Hp), ∃ x, (matL ks l H).2 = H ++ x
 | [], l, H => ⟨[], by simp [matL]⟩
 | k :: ks, [], H => ⟨[], by simp [matL]⟩
 | k :: ks, a :: l, H => by
  obtain ⟨x, hx⟩ := mat1_app k H a
  obtain ⟨y, hy⟩ := matL_app ks l (mat1 k H a).2
  exact ⟨x ++ y, by simp only [matL]; rw [hy, hx, List.append_assoc]⟩
theorem prepE_leaves {f : FuncId} {l as0 : List AV} {H H' : Hp} (h : prepE E f H l = some (as0, H')) : Leaves H H' (refsL l) := by
 unfold prepE at h
 split at h
 ·simp only [Option.some.injEq] at h
  obtain ⟨x, hx⟩ := matL_app (E.argk f) l H
  rw [h] at hx
  simp only at hx
  rw [hx]; exact .app _ _ _
 ·split at h
  ·rename_i as2 H2 h2
   simp only [Option.some.injEq, Prod.mk.injEq] at h
   obtain ⟨_, rfl⟩ := h
   exact prep_leaves h2
  ·cases h
theorem iso_leaves {f : FuncId} {args : List AV} {H H' : Hp} {r : AV} (h : callIso E cl f args H = some (r, H')) : Leaves H H' (calleeR E f args H) := by
 unfold callIso at h
 unfold calleeR
 split at h
 ·cases h
 ·rename_i args1 H1 hp
  rw [hp]
  show Leaves H H' (refsL args ++ reach H1 64 (refsL args1) [])
  have h1 : Leaves H H1 (refsL args ++ reach H1 64 (refsL args1) []) := by
   exact (prepE_leaves hp).mono (by intro c hc; simp [hc])
  simp only at h
  split at h
  ·cases h
  ·rename_i r0 L hL
   split at h
   ·cases h
   ·rename_i hlen
    simp only [Option.some.injEq, Prod.mk.injEq] at h
    obtain ⟨_, rfl⟩ := h
    obtain ⟨hRn, hRl⟩ := reach_ok H1 64 (refsL args1) [] (by simp) (by simp)
    generalize reach H1 64 (refsL args1) [] = R at *
    refine h1.trans ⟨?_, fun c hc hT => ?_⟩
    ·rw [List.length_append, setAll_length]; exact Nat.le_add_right _ _
    rw [List.getElem?_append_left (by rw [setAll_length]; exact hc), setAll_get _ _ _ hRn (by simp; omega) hRl]
    have : posIn R c = none := by
     cases hp : posIn R c with
     | none => rfl
     | some i => exact absurd (List.mem_of_getElem? (posIn_some hp)) (fun hm => hT (by simp [hm]))
    rw [this]
theorem evH_leaves {fr : Fr} {H H' : Hp} {op : Op} {v : AV} (h : evH E fr H op = some (v, H')) : Leaves H H' (touch E fr H op) := by
 cases op <;> simp only [evH] at h <;> (try (cases h; done))
 case slice t x lo hi mx =>
  cases mx with
  | none => cases h
  | some m =>
   simp only at h
   split at h
   ·rename_i y H1 hz
    simp only [Option.map_eq_some_iff, Prod.mk.injEq] at h
    obtain ⟨v1, _, _, rfl⟩ := h
    exact freeze_leaves hz
   ·cases h
 case alloc e =>
  split at h
  ·split at h
   ·split at h
    ·split at h
     ·simp only [Option.some.injEq, Prod.mk.injEq] at h; obtain ⟨_, rfl⟩ := h; exact .app _ _ _
     ·cases h
    ·simp only [Option.some.injEq, Prod.mk.injEq] at h; obtain ⟨_, rfl⟩ := h; exact .app _ _ _
   ·cases h
  ·cases h
 case box t x =>
  split at h
  ·simp only [Option.some.injEq, Prod.mk.injEq] at h; obtain ⟨_, rfl⟩ := h; exact .app _ _ _
  ·cases h
 case buildSlice t n ps =>
  simp only [touch, buildRefs]
  unfold buildSliceE at h
  split at h
  ·rename_i e he
   split at h
   ·rename_i z zero hz hzero
    split at h
    ·split at h
     ·rename_i cells hc
      split at h
      ·rename_i xs H1 hf
       simp only [Option.some.injEq, Prod.mk.injEq] at h; obtain ⟨_, rfl⟩ := h
       exact (freezeAll_leaves hf).trans (.app _ _ _)
      ·cases h
     ·cases h
    ·cases h
   ·cases h
  ·cases h
 case store t a x =>
  simp only [Option.map_eq_some_iff, Prod.mk.injEq] at h
  obtain ⟨H1, h1, _, rfl⟩ := h
  simp only [touch]
  unfold storeE at h1
  split at h1
  ·split at h1
   ·split at h1
    ·rename_i c g r k hp
     rw [hp]
     split at h1
     ·split at h1
      ·simp only [Option.some.injEq] at h1; subst h1; exact .set (by simp [refsA])
      ·cases h1
     ·split at h1
      ·rename_i xs H2 hf
       split at h1
       ·split at h1
        ·split at h1
         ·simp only [Option.some.injEq] at h1; subst h1
          refine ((freezeAll_leaves hf).mono fun c hc => ?_).trans (.set (by simp [refsA]))
          have : refsL (cellsA (opd E fr x)) = refsA (opd E fr x) := by
           cases opd E fr x <;> simp [cellsA, refsL, refsA]
          rw [this] at hc; simp [hc]
         ·cases h1
        ·cases h1
       ·cases h1
      ·cases h1
     ·cases h1
    ·cases h1
   ·cases h1
  ·cases h1
 case convert s d x =>
  split at h
  ·split at h
   ·unfold convH at h
    split at h
    ·simp only [Option.some.injEq, Prod.mk.injEq] at h; obtain ⟨_, rfl⟩ := h; exact .app _ _ _
    ·simp only [Option.some.injEq, Prod.mk.injEq] at h; obtain ⟨_, rfl⟩ := h; exact .app _ _ _
    ·cases h
   ·cases h
  ·cases h
 case range t x =>
  split at h
  ·split at h
   ·simp only [Option.some.injEq, Prod.mk.injEq] at h; obtain ⟨_, rfl⟩ := h; exact .app _ _ _
   ·cases h
  ·cases h
 case makeMap t r =>
  cases r with
  | some r => cases h
  | none =>
   simp only at h
   split at h
   ·simp only [Option.some.injEq, Prod.mk.injEq] at h; obtain ⟨_, rfl⟩ := h; exact .app _ _ _
   ·cases h
 case mapUpdate t m k x =>
  unfold setM at h
  split at h
  ·rename_i c hx
   unfold setC at h
   split at h
   ·split at h
    ·split at h
     ·simp only [Option.map_eq_some_iff, Prod.mk.injEq] at h
      obtain ⟨_, _, _, rfl⟩ := h
      exact .set (by simp [touch, hx, refsA])
     ·cases h
    ·cases h
   ·cases h
  ·cases h
 case insert t m k x =>
  unfold setM at h
  split at h
  ·rename_i c hx
   unfold setC at h
   split at h
   ·split at h
    ·split at h
     ·simp only [Option.map_eq_some_iff, Prod.mk.injEq] at h
      obtain ⟨_, _, _, rfl⟩ := h
      exact .set (by simp [touch, hx, refsA])
     ·cases h
    ·cases h
   ·cases h
  ·cases h
 case next it b =>
  split at h
  ·rename_i c g r hx
   split at h
   ·split at h
    ·simp only [Option.some.injEq, Prod.mk.injEq] at h; obtain ⟨_, rfl⟩ := h
     exact .set (by simp [touch, hx, refsA])
    ·simp only [Option.some.injEq, Prod.mk.injEq] at h; obtain ⟨_, rfl⟩ := h; exact .refl _ _
   ·cases h
  ·cases h
 case makeSlice t l c =>
  unfold makeSliceE at h
  split at h
  ·split at h
   ·split at h
    ·simp only [Option.some.injEq, Prod.mk.injEq] at h; obtain ⟨_, rfl⟩ := h; exact .app _ _ _
    ·split at h
     ·simp only [Option.some.injEq, Prod.mk.injEq] at h; obtain ⟨_, rfl⟩ := h; exact .app _ _ _
     ·cases h
   ·cases h
  ·cases h
 case call c =>
  obtain ⟨callee, args, tys⟩ := c
  cases callee with
  | value f => cases h
  | invoke r m => cases h
  | builtin b =>
   simp only at h
   split at h
   ·rename_i s x t t2 hargs htys
    simp only [touch, hargs]
    unfold appendE at h
    split at h
    ·split at h
     ·split at h
      ·split at h
       ·split at h
        ·simp only [Option.some.injEq, Prod.mk.injEq] at h; obtain ⟨_, rfl⟩ := h; exact .app _ _ _
        ·cases h
       ·rename_i c g off len hs
        split at h
        ·split at h
         ·simp only [Option.some.injEq, Prod.mk.injEq] at h; obtain ⟨_, rfl⟩ := h
          exact .set (by simp [hs, refsL, refsA])
         ·cases h
        ·split at h
         ·simp only [Option.some.injEq, Prod.mk.injEq] at h; obtain ⟨_, rfl⟩ := h; exact .app _ _ _
         ·cases h
        ·cases h
       ·cases h
      ·cases h
     ·cases h
    ·cases h
   ·rename_i d x t t2 hargs htys
    simp only [touch, hargs]
    unfold copyE at h
    split at h
    ·split at h
     ·rename_i hd _
      split at h
      ·unfold copyC at h
       split at h
       ·split at h
        ·simp only [Option.some.injEq, Prod.mk.injEq] at h; obtain ⟨_, rfl⟩ := h
         exact .set (by simp [hd, refsL, refsA])
        ·cases h
       ·cases h
      ·cases h
     ·cases h
    ·cases h
   ·cases h
theorem callM_leaves {f : FuncId} {args : List AV} {H H' : Hp} {r : AV} (h : callM E cl f args H = some (r, H')) : Leaves H H' (calleeM E f args H) := by
 unfold callM at h
 unfold calleeM
 cases hm : E.mkc f with
 | none =>
  rw [hm] at h
  simp only at h ⊢
  cases hr : E.rdr f with
  | true =>
   rw [hr] at h
   obtain ⟨rfl, _⟩ := rdrK_some h
   exact .refl _ _
  | false => rw [hr] at h; exact iso_leaves h
 | some fn =>
  rw [hm] at h
  simp only at h
  unfold mkE at h
  split at h
  ·split at h
   ·cases h; exact .app _ _ _
   ·cases h
  ·cases h
theorem evOp_leaves {fr : Fr} {H H' : Hp} {op : Op} {v : AV} (h : evOp E cl op fr H = some (v, H')) : Leaves H H' (touch E fr H op) := by
 unfold evOp at h
 split at h
 ·rename_i f args tys
  simp only [touch]
  split at h
  ·rename_i g as0 hg
   split at h
   ·exact callM_leaves h
   ·cases h
  ·cases h
 ·split at h
  ·exact evH_leaves h
  ·simp only [Option.map_eq_some_iff, Prod.mk.injEq] at h
   obtain ⟨_, _, _, rfl⟩ := h
   exact .refl _ _
end
end Go.VI

set_option linter.unusedSimpArgs false
set_option linter.unusedVariables false
namespace Go.VI
section
variable {E : Env} {cl : CallF} {ops : Array Oper}

def FrEq (fr fr' : Fr) : Prop := ∀ k, get k fr = get k fr'
theorem FrEq.refl (fr : Fr) : FrEq fr fr := fun _ => rfl
theorem FrEq.trans {a b c : Fr} (h : FrEq a b) (k : FrEq b c) : FrEq a c := fun i => (h i).trans (k i)
theorem FrEq.put {fr fr' : Fr} (h : FrEq fr fr') (d : Option Nat) (v : AV) : FrEq (putD d v fr) (putD d v fr') := by
 cases d with
 | none => exact h
 | some d => intro k; simp only [putD, get]; split <;> first | rfl | exact h k
theorem FrEq.swap (fr : Fr) {d e : Option Nat} (h : ∀ k, d = some k → e ≠ some k) (v u : AV) : FrEq (putD d v (putD e u fr)) (putD e u (putD d v fr)) := by
 cases d with
 | none => exact .refl _
 | some d =>
  cases e with
  | none => exact .refl _
  | some e =>
   have hne : e ≠ d := fun x => h d rfl (by rw [x])
   intro k
   simp only [putD, get]
   by_cases h1 : k = d
   ·subst h1; simp [Ne.symm hne]
   ·simp [h1]
theorem opd_eq {fr fr' : Fr} (h : FrEq fr fr') (x : Operand) : opd E fr x = opd E fr' x := by
 cases x <;> simp only [opd]
 exact h _
theorem opd_put {fr : Fr} {d : Option Nat} {v : AV} {x : Operand} (h : ∀ k, d = some k → x ≠ .tmp k) : opd E (putD d v fr) x = opd E fr x := by
 cases d with
 | none => rfl
 | some d =>
  cases x with
  | tmp t =>
   have : t ≠ d := fun e => h d rfl (by rw [e])
   simp [opd, putD, get, this]
  | _ => rfl
theorem guard_eq {fr fr' : Fr} (h : FrEq fr fr') (o : Oper) : guardE ops.toList fr o = guardE ops.toList fr' o := by
 unfold guardE
 split
 ·rfl
 ·split
  ·rw [h _]
  ·rfl
theorem guard_put {fr : Fr} {o : Oper} {d : Option Nat} {v : AV} (h : ∀ k, d = some k → k ∉ o.looksAt ops) : guardE ops.toList (putD d v fr) o = guardE ops.toList fr o := by
 cases d with
 | none => rfl
 | some d =>
  unfold guardE
  split
  ·rfl
  ·rename_i j want hg
   split
   ·rename_i t ht
    have : t ≠ d := fun e => h d rfl (by
     subst e
     simp only [Array.getElem?_toList] at ht
     simp [Oper.looksAt, hg, ht])
    simp [putD, get, this]
   ·rfl
theorem agree_put {fr : Fr} {o : Oper} {d : Option Nat} {v : AV} (h : ∀ k, d = some k → k ∉ o.looksAt ops) : Agree E (putD d v fr) fr o.op := fun x hx =>
 opd_put fun k hk e => h k hk (by
  subst e
  simp only [Oper.looksAt, List.mem_append, List.mem_filterMap]
  exact .inl ⟨.tmp k, by simpa using hx, rfl⟩)

noncomputable def val1 (E : Env) (cl : CallF) (ops : Array Oper) (o : Oper) (fr : Fr) (H : Hp) : Option (AV × Hp × List Nat) :=
 match guardE ops.toList fr o with
 | some true => match evOp E cl o.op fr H with
  | some (v, H') => some (v, H', touch E fr H o.op ++ List.range' H.length (H'.length - H.length))
  | none => none
 | some false => some (.tup [], H, [])
 | none => none
theorem stp_val {o : Oper} {fr : Fr} {H : Hp} : stp E cl ops.toList o fr H = (val1 E cl ops o fr H).map fun x => (putD o.dst x.1 fr, x.2.1, x.2.2) := by
 unfold stp val1
 cases guardE ops.toList fr o with
 | none => rfl
 | some b =>
  cases b with
  | false => rfl
  | true => cases evOp E cl o.op fr H <;> rfl
theorem val_eq {fr fr' : Fr} (h : FrEq fr fr') (o : Oper) (H : Hp) : val1 E cl ops o fr H = val1 E cl ops o fr' H := by
 unfold val1
 have ha : Agree E fr fr' o.op := fun x _ => opd_eq h x
 rw [guard_eq h, evOp_agree ha, touch_agree ha]
theorem val_put {fr : Fr} {o : Oper} {d : Option Nat} {v : AV} {H : Hp} (h : ∀ k, d = some k → k ∉ o.looksAt ops) : val1 E cl ops o (putD d v fr) H = val1 E cl ops o fr H := by
 unfold val1
 rw [guard_put h, evOp_agree (agree_put h), touch_agree (agree_put h)]

theorem apartT_spec {a b : List Nat} (h : apartT a b = true) {c : Nat} (ha : c ∈ a) : c ∉ b := by
 simp only [apartT, List.all_eq_true] at h
 have := h c ha
 simpa using this
theorem light_val {o : Oper} {fr : Fr} {H H' : Hp} (hl : heavy E o.op = false) (h : readsH o.op = true → ∀ c ∈ touch E fr H o.op, H'[c]? = H[c]?) {v : AV} {H1 : Hp} {T : List Nat}
  (hv : val1 E cl ops o fr H = some (v, H1, T)) : H1 = H ∧ val1 E cl ops o fr H' = some (v, H', T) := by
 unfold val1 at hv ⊢
 split at hv
 ·rename_i hg
  split at hv
  ·rename_i v' H'' hev
   simp only [Option.some.injEq, Prod.mk.injEq] at hv
   obtain ⟨rfl, rfl, rfl⟩ := hv
   unfold evOp at hev ⊢
   split at hev
   ·rename_i f args tys ho
    rw [ho] at hl; simp [heavy] at hl
   ·rename_i hno
    rw [hl] at hev
    simp only [Bool.false_eq_true, if_false, Option.map_eq_some_iff, Prod.mk.injEq] at hev
    obtain ⟨u, hu, rfl, rfl⟩ := hev
    refine ⟨rfl, ?_⟩
    have ht : touch E fr H' o.op = touch E fr H o.op := by
     generalize o.op = op at hl hno
     cases op <;> (try rfl)
     rename_i c
     obtain ⟨callee, args, tys⟩ := c
     cases callee with
     | value f => exact absurd rfl (hno f args tys)
     | _ => rfl
    simp only [hl, Bool.false_eq_true, if_false, evL_heap h, hu, Option.map_some, ht, Nat.sub_self, List.range'_zero]
  ·cases hv
 ·rename_i hg
  simp only [Option.some.injEq, Prod.mk.injEq] at hv
  obtain ⟨rfl, rfl, rfl⟩ := hv
  exact ⟨rfl, rfl⟩
 ·cases hv

structure Compat (E : Env) (ops : Array Oper) (x y : Oper) (Tx Ty : List Nat) : Prop where
 apart : x.apart ops y = true
 light : ¬ (heavy E x.op = true ∧ heavy E y.op = true)
 float : (heavy E x.op = true ∧ readsH y.op = true) ∨ (heavy E y.op = true ∧ readsH x.op = true) → apartT Tx Ty = true ∧ apartT Ty Tx = true

theorem val_leaves {o : Oper} {fr : Fr} {H H' : Hp} {v : AV} {T : List Nat} (h : val1 E cl ops o fr H = some (v, H', T)) : H.length ≤ H'.length ∧ ∀ c, c ∉ T → H'[c]? = H[c]? := by
 unfold val1 at h
 split at h
 ·split at h
  ·rename_i v' H'' hev
   simp only [Option.some.injEq, Prod.mk.injEq] at h
   obtain ⟨rfl, rfl, rfl⟩ := h
   have hl := evOp_leaves hev
   refine ⟨hl.1, fun c hc => ?_⟩
   simp only [List.mem_append, List.mem_range', not_or] at hc
   by_cases h1 : c < H.length
   ·exact hl.2 c h1 hc.1
   ·have h2 : H''.length ≤ c := by
     have := hl.1
     refine Nat.le_of_not_lt fun h3 => hc.2 ⟨c - H.length, by omega, by omega⟩
    rw [List.getElem?_eq_none h2, List.getElem?_eq_none (by omega)]
  ·cases h
 ·simp only [Option.some.injEq, Prod.mk.injEq] at h
  obtain ⟨rfl, rfl, rfl⟩ := h
  exact ⟨Nat.le_refl _, fun _ _ => rfl⟩
 ·cases h
theorem touch_sub {o : Oper} {fr : Fr} {H H' : Hp} {v : AV} {T : List Nat} (h : val1 E cl ops o fr H = some (v, H', T)) (hg : guardE ops.toList fr o = some true) : ∀ c ∈ touch E fr H o.op, c ∈ T := by
 unfold val1 at h
 rw [hg] at h
 simp only at h
 split at h
 ·simp only [Option.some.injEq, Prod.mk.injEq] at h
  obtain ⟨_, _, rfl⟩ := h
  intro c hc; simp [hc]
 ·cases h

theorem skip_val {o : Oper} {fr : Fr} {H H' : Hp} (hg : guardE ops.toList fr o = some false) : val1 E cl ops o fr H' = some (.tup [], H', []) := by
 unfold val1; rw [hg]

theorem swap {x y : Oper} {fr : Fr} {H H1 H2 : Hp} {vx vy : AV} {Tx Ty : List Nat} (hx : val1 E cl ops x fr H = some (vx, H1, Tx)) (hy : val1 E cl ops y (putD x.dst vx fr) H1 = some (vy, H2, Ty))
  (hc : Compat E ops x y Tx Ty) : ∃ H1', val1 E cl ops y fr H = some (vy, H1', Ty) ∧ val1 E cl ops x (putD y.dst vy fr) H1' = some (vx, H2, Tx) ∧ FrEq (putD y.dst vy (putD x.dst vx fr)) (putD x.dst vx (putD y.dst vy fr)) := by
 obtain ⟨a1, a2, a3⟩ := Oper.apart_spec hc.apart
 rw [val_put a1] at hy
 have hfr : FrEq (putD y.dst vy (putD x.dst vx fr)) (putD x.dst vx (putD y.dst vy fr)) := FrEq.swap fr (fun k hk e => a2 k e hk) _ _
 -- not wanted: nothing is asked
 cases hgx : guardE ops.toList fr x with
 | none => unfold val1 at hx; rw [hgx] at hx; cases hx
 | some gx =>
 cases hgy : guardE ops.toList fr y with
 | none => unfold val1 at hy; rw [hgy] at hy; cases hy
 | some gy =>
 cases gx with
 | false =>
  rw [skip_val hgx] at hx
  ·simp only [Option.some.injEq, Prod.mk.injEq] at hx
   obtain ⟨rfl, rfl, rfl⟩ := hx
   exact ⟨H2, hy, by rw [val_put a3]; exact skip_val hgx (H := H), hfr⟩
  ·exact H
 | true =>
 cases gy with
 | false =>
  rw [skip_val hgy] at hy
  ·simp only [Option.some.injEq, Prod.mk.injEq] at hy
   obtain ⟨rfl, rfl, rfl⟩ := hy
   exact ⟨H, skip_val hgy (H := H), by rw [val_put a3]; exact hx, hfr⟩
  ·exact H
 | true =>
 by_cases hhx : heavy E x.op = true
 ·have hhy : heavy E y.op = false := by
   cases h : heavy E y.op with
   | false => rfl
   | true => exact absurd ⟨hhx, h⟩ hc.light
  -- y reads nothing that x changes
  have hlx := val_leaves hx
  have hty : touch E fr H1 y.op = touch E fr H y.op := by
   generalize hop : y.op = op at hhy
   cases op <;> (try rfl)
   rename_i c
   obtain ⟨callee, args, tys⟩ := c
   cases callee with
   | value f => simp [heavy] at hhy
   | _ => rfl
  have hsub := touch_sub hy hgy
  have key : readsH y.op = true → ∀ c ∈ touch E fr H1 y.op, H[c]? = H1[c]? := by
   intro hr c hcc
   have hT := (hc.float (.inl ⟨hhx, hr⟩)).2
   have := apartT_spec hT (hsub c hcc)
   exact (hlx.2 c this).symm
  obtain ⟨rfl, hy'⟩ := light_val hhy key hy
  exact ⟨H, hy', by rw [val_put a3]; exact hx, hfr⟩
 ·have hhx' : heavy E x.op = false := by simpa using hhx
  have key0 : readsH x.op = true → ∀ c ∈ touch E fr H x.op, H[c]? = H[c]? := fun _ _ _ => rfl
  obtain ⟨rfl, _⟩ := light_val (H' := H) hhx' key0 hx
  have hly := val_leaves hy
  have hsub := touch_sub hx hgx
  by_cases hhy : heavy E y.op = true
  ·have key : readsH x.op = true → ∀ c ∈ touch E fr H1 x.op, H2[c]? = H1[c]? := by
    intro hr c hcc
    have hT := (hc.float (.inr ⟨hhy, hr⟩)).1
    exact hly.2 c (apartT_spec hT (hsub c hcc))
   obtain ⟨_, hx'⟩ := light_val hhx' key hx
   exact ⟨H2, hy, by rw [val_put a3]; exact hx', hfr⟩
  ·have hhy' : heavy E y.op = false := by simpa using hhy
   obtain ⟨rfl, _⟩ := light_val (H' := H1) hhy' (fun _ _ _ => rfl) hy
   exact ⟨H2, hy, by rw [val_put a3]; exact hx, hfr⟩
end
end Go.VI

set_option linter.unusedSimpArgs false
set_option linter.unusedVariables false
namespace Go.VI
section
variable {E : Env} {cl : CallF} {ops : Array Oper} {tr : Nat → List Nat}

inductive Run (E : Env) (cl : CallF) (ops : Array Oper) (tr : Nat → List Nat) : List Nat → Fr → Hp → Fr → Hp → Prop
 | nil (fr : Fr) (H : Hp) : Run E cl ops tr [] fr H fr H
 | cons (i : Nat) (l : List Nat) (fr : Fr) (H : Hp) (o : Oper) (v : AV) (H1 : Hp) (fr2 : Fr) (H2 : Hp) (ho : ops[i]? = some o) (hv : val1 E cl ops o fr H = some (v, H1, tr i)) (h : Run E cl ops tr l (putD o.dst v fr) H1 fr2 H2) : Run E cl ops tr (i :: l) fr H fr2 H2

theorem run_eq {l : List Nat} {fr fr' : Fr} {H : Hp} {fr2 : Fr} {H2 : Hp} (h : Run E cl ops tr l fr H fr2 H2) : FrEq fr fr' → ∃ fr2', FrEq fr2 fr2' ∧ Run E cl ops tr l fr' H fr2' H2 := by
 induction h generalizing fr' with
 | nil fr H => exact fun he => ⟨fr', he, .nil _ _⟩
 | cons i l fr H o v H1 fr2 H2 ho hv _ ih =>
  intro he
  obtain ⟨fr2', h1, h2⟩ := ih (he.put o.dst v)
  exact ⟨fr2', h1, .cons i l fr' H o v H1 fr2' H2 ho (by rw [← val_eq he]; exact hv) h2⟩

def CompatI (E : Env) (ops : Array Oper) (tr : Nat → List Nat) (j i : Nat) : Prop := ∀ x y, ops[j]? = some x → ops[i]? = some y → Compat E ops x y (tr j) (tr i)

theorem front : ∀ {l1 l2 : List Nat} {i : Nat} {fr : Fr} {H : Hp} {fr2 : Fr} {H2 : Hp}, Run E cl ops tr (l1 ++ i :: l2) fr H fr2 H2 → (∀ j ∈ l1, CompatI E ops tr j i) →
  ∃ o v H1 fr2', ops[i]? = some o ∧ val1 E cl ops o fr H = some (v, H1, tr i) ∧ FrEq fr2 fr2' ∧ Run E cl ops tr (l1 ++ l2) (putD o.dst v fr) H1 fr2' H2
 | [], l2, i, fr, H, fr2, H2, h, _ => by
  cases h with
  | cons _ _ _ _ o v H1 _ _ ho hv h => exact ⟨o, v, H1, fr2, ho, hv, .refl _, h⟩
 | j :: l1, l2, i, fr, H, fr2, H2, h, hc => by
  cases h with
  | cons _ _ _ _ x vx H1 _ _ hx hvx h =>
   obtain ⟨o, v, H3, fr3, ho, hv, he, hr⟩ := front h (fun k hk => hc k (by simp [hk]))
   obtain ⟨H4, s1, s2, s3⟩ := swap hvx hv (hc j (by simp) x o hx ho)
   obtain ⟨fr4, e4, r4⟩ := run_eq hr s3
   exact ⟨o, v, H4, fr4, ho, s1, he.trans e4, .cons j _ _ _ x vx H3 fr4 H2 hx s2 r4⟩

theorem run_of_evT : ∀ (l : List Oper) (k : Nat) (fr : Fr) (H : Hp) (fr2 : Fr) (H2 : Hp) (ts : List (List Nat)), evT E cl ops.toList l fr H = some (fr2, H2, ts) → (∀ j, l[j]? = ops[k + j]?) → (∀ j, j < l.length → tr (k + j) = ts.getD j []) →
  Run E cl ops tr (List.range' k l.length) fr H fr2 H2
 | [], k, fr, H, fr2, H2, ts, h, _, _ => by
  simp only [evT, Option.some.injEq, Prod.mk.injEq] at h
  obtain ⟨rfl, rfl, rfl⟩ := h
  exact .nil _ _
 | o :: l, k, fr, H, fr2, H2, ts, h, hl, ht => by
  simp only [evT] at h
  split at h
  ·rename_i fr1 H1 t hs
   split at h
   ·rename_i fr3 H3 ts' hr
    simp only [Option.some.injEq, Prod.mk.injEq] at h
    obtain ⟨rfl, rfl, rfl⟩ := h
    rw [stp_val] at hs
    simp only [Option.map_eq_some_iff, Prod.mk.injEq] at hs
    obtain ⟨⟨v, H', T⟩, hv, e1, e2, e3⟩ := hs
    simp only at e1 e2 e3
    subst e1 e2 e3
    have h0 := hl 0
    simp only [List.getElem?_cons_zero, Nat.add_zero] at h0
    have ht0 := ht 0 (by simp)
    simp only [Nat.add_zero, List.getD_cons_zero] at ht0
    rw [List.length_cons, List.range'_succ]
    refine .cons k _ fr H o v _ _ _ h0.symm (by rw [ht0]; exact hv) ?_
    refine run_of_evT l (k + 1) _ _ _ _ ts' hr (fun j => by have := hl (j + 1); simpa [Nat.add_assoc, Nat.add_comm 1 j] using this) fun j hj => ?_
    have := ht (j + 1) (by simpa using hj)
    rw [show k + 1 + j = k + (j + 1) by omega, this]; simp
   ·cases h
  ·cases h

theorem fold_bits (acc : Array Nat) (j : Nat) : ∀ (l : List Edge) (s : Nat), (l.foldl (fun s e => if Region.binds .any e then s ||| 2 ^ e.on ||| acc.getD e.on 0 else s) s).testBit j = true →
  s.testBit j = true ∨ ∃ e ∈ l, Region.binds .any e = true ∧ (e.on = j ∨ (acc.getD e.on 0).testBit j = true)
 | [], s, h => .inl h
 | e :: l, s, h => by
  simp only [List.foldl_cons] at h
  rcases fold_bits acc j l _ h with h1 | ⟨e', he', h2⟩
  ·split at h1
   ·rename_i hb
    rw [Nat.testBit_or, Nat.testBit_or, Bool.or_eq_true, Bool.or_eq_true] at h1
    rcases h1 with (h1 | h1) | h1
    ·exact .inl h1
    ·rw [Nat.testBit_two_pow] at h1
     exact .inr ⟨e, by simp, hb, .inl (by simpa using h1)⟩
    ·exact .inr ⟨e, by simp, hb, .inr h1⟩
   ·exact .inl h1
  ·exact .inr ⟨e', by simp [he'], h2⟩
def bitsOf (acc : Array Nat) (o : Oper) : Nat := o.after.foldl (fun s e => if Region.binds .any e then s ||| 2 ^ e.on ||| acc.getD e.on 0 else s) 0
theorem before_fold : ∀ (l : List Oper) (acc : Array Nat), (l.foldl (fun acc o => acc.push (bitsOf acc o)) acc).size = acc.size + l.length ∧ (∀ k, k < acc.size → (l.foldl (fun acc o => acc.push (bitsOf acc o)) acc).getD k 0 = acc.getD k 0) ∧
  ∀ k o, l[k]? = some o → ∃ acc' : Array Nat, acc'.size = acc.size + k ∧ (∀ m, m < acc'.size → acc'.getD m 0 = (l.foldl (fun acc o => acc.push (bitsOf acc o)) acc).getD m 0) ∧ (l.foldl (fun acc o => acc.push (bitsOf acc o)) acc).getD (acc.size + k) 0 = bitsOf acc' o
 | [], acc => ⟨by simp, fun _ _ => rfl, fun k o h => by simp at h⟩
 | o :: l, acc => by
  obtain ⟨h1, h2, h3⟩ := before_fold l (acc.push (bitsOf acc o))
  simp only [List.foldl_cons]
  have hpush : ∀ k, k < acc.size → (acc.push (bitsOf acc o)).getD k 0 = acc.getD k 0 := by
   intro k hk; simp [Array.getD_eq_getD_getElem?, Array.getElem?_push, show k ≠ acc.size by omega]
  refine ⟨by rw [h1]; simp; omega, fun k hk => by rw [h2 k (by simp; omega)]; exact hpush k hk, fun k p hp => ?_⟩
  cases k with
  | zero =>
   simp at hp; subst hp
   refine ⟨acc, rfl, fun m hm => by rw [h2 m (by simp; omega)]; exact (hpush m hm).symm, ?_⟩
   rw [h2 _ (by simp)]
   simp [Array.getD_eq_getD_getElem?]
  | succ k =>
   obtain ⟨acc', a1, a2, a3⟩ := h3 k p (by simpa using hp)
   refine ⟨acc', by rw [a1]; simp; omega, a2, ?_⟩
   rw [← a3]; congr 1; simp; omega
theorem before_spec {i j : Nat} {o : Oper} (ho : ops[i]? = some o) (h : bound (Region.before ops) j i = true) :
  ∃ e ∈ o.after, Region.binds .any e = true ∧ (e.on = j ∨ (e.on < i ∧ bound (Region.before ops) j e.on = true)) := by
 have hb : Region.before ops = ops.toList.foldl (fun acc o => acc.push (bitsOf acc o)) #[] := by
  unfold Region.before
  rw [← Array.foldl_toList]; rfl
 obtain ⟨_, _, h3⟩ := before_fold ops.toList #[]
 obtain ⟨acc', a1, a2, a3⟩ := h3 i o (by simpa using ho)
 simp only [List.size_toArray, List.length_nil, Nat.zero_add] at a1 a3
 unfold bound at h ⊢
 rw [hb, a3] at h
 unfold bitsOf at h
 rw [← Array.foldl_toList] at h
 rcases fold_bits acc' j _ 0 h with h4 | ⟨e, he, hbi, h5⟩
 ·simp at h4
 ·refine ⟨e, by simpa using he, hbi, ?_⟩
  rcases h5 with h5 | h5
  ·exact .inl h5
  ·by_cases hlt : e.on < i
   ·refine .inr ⟨hlt, ?_⟩
    rw [hb, ← a2 _ (by omega)]; exact h5
   ·rw [Array.getD_eq_getD_getElem?, Array.getElem?_eq_none (by omega)] at h5
    simp at h5
def Closed (ops : Array Oper) (listed : Array Bool) : Prop := ∀ (i : Nat) (o : Oper), ops[i]? = some o → listed.getD i false = true → ∀ e ∈ o.after, Region.binds .any e = true → listed.getD e.on false = true
theorem bound_listed {listed : Array Bool} (hc : Closed ops listed) : ∀ (i : Nat) (o : Oper), ops[i]? = some o → (∀ e ∈ o.after, Region.binds .any e = true → listed.getD e.on false = true) → ∀ j, bound (Region.before ops) j i = true → listed.getD j false = true := by
 intro i
 induction i using Nat.strongRecOn with
 | _ i ih =>
  intro o ho hp j hb
  obtain ⟨e, he, hbi, h⟩ := before_spec ho hb
  have hl := hp e he hbi
  rcases h with rfl | ⟨hlt, hb2⟩
  ·exact hl
  ·have hi : i < ops.size := (Array.getElem?_eq_some_iff.1 ho).1
   have ho2 : ops[e.on]? = some ops[e.on] := Array.getElem?_eq_getElem (by omega)
   exact ih e.on hlt _ ho2 (hc e.on _ ho2 hl) j hb2
end

section
variable {E : Env} {cl : CallF} {ops : Array Oper} {tr : Nat → List Nat} {Q : Exit → Act → World → Prop} {ro : Option Nat} {nn : Nat}

theorem any_ok (hcl : CallOK E (callM E cl)) {fr2 : Fr} {H2 : Hp} (hcomp : ∀ j i, j < i → i < ops.size → bound (Region.before ops) j i = false → CompatI E ops tr j i)
  (hback : ∀ (i : Nat) (o : Oper), ops[i]? = some o → ∀ e ∈ o.after, Region.binds .any e = true → e.on < i) {n0 : Nat} {d0 : List Deferred} (hdst : DstOK n0 ops.toList) :
  ∀ (R : List Nat) (listed : Array Bool) (I : Imm) (η : Eta) (fr : Fr) (H : Hp) (a : Act) (w : World) (fr2 : Fr), R.Pairwise (· < ·) → (∀ i, i ∈ R ↔ i < ops.size ∧ listed.getD i false = false) → listed.size = ops.size → Closed ops listed →
   Run E cl ops tr R fr H fr2 H2 → Conc E I η H w → FrOK I η H fr a.tmps → a.tmps.size = n0 → a.defers = d0 →
   (∀ a' w' fr3, FrEq fr2 fr3 → a'.defers = d0 → a'.tmps.size = n0 → After E I η H w H2 w' (fun I' η' => FrOK I' η' H2 fr3 a'.tmps) → Q .normal a' w') → wpAnyIn (Fe ro) nn E.P .any ops Q R.length listed a w
 | [], listed, I, η, fr, H, a, w, fr2, hp, hR, hsz, hcl2, hrun, hC, hf, hn, hd, hQ => by
  refine ⟨?_, ?_⟩
  ·cases h : Region.ready .any ops listed with
   | nil => rfl
   | cons i l =>
    have hi : i ∈ Region.ready .any ops listed := by rw [h]; simp
    obtain ⟨h1, o, ho, _⟩ := mem_ready.1 hi
    have hlt := (Array.getElem?_eq_some_iff.1 ho).1
    have : i ∈ ([] : List Nat) := (hR i).2 ⟨hlt, by
     rw [Array.getD_eq_getD_getElem?] at h1 ⊢
     cases hh : listed[i]? with
     | none => rfl
     | some b => rw [hh] at h1; simpa using h1⟩
    simp at this
  ·cases hrun with
   | nil => exact hQ a w fr (.refl _) hd hn (After.refl hC hf)
 | r :: R, listed, I, η, fr, H, a, w, fr2, hp, hR, hsz, hcl2, hrun, hC, hf, hn, hd, hQ => by
  simp only [List.length_cons]
  refine ⟨fun hnone => ?_, fun i hi => ?_⟩
  ·-- the least that is left is ready
   exfalso
   have hr := (hR r).1 (by simp)
   have hro : ops[r]? = some ops[r] := Array.getElem?_eq_getElem hr.1
   have : r ∈ Region.ready .any ops listed := by
    refine mem_ready.2 ⟨?_, _, hro, fun e he hb => ?_⟩
    ·have := hr.2
     rw [Array.getD_eq_getD_getElem?] at this ⊢
     rw [Array.getElem?_eq_getElem (by omega)] at this ⊢
     simpa using this
    ·have hlt := hback r _ hro e he hb
     cases hl : listed.getD e.on false with
     | true => rfl
     | false =>
      have hm : e.on ∈ r :: R := (hR e.on).2 ⟨by omega, hl⟩
      rcases List.mem_cons.1 hm with h1 | h1
      ·omega
      ·have := (List.pairwise_cons.1 hp).1 _ h1; omega
   rw [hnone] at this; simp at this
  ·obtain ⟨h1, o, ho, hpre⟩ := mem_ready.1 hi
   have hlt := (Array.getElem?_eq_some_iff.1 ho).1
   have hiR : i ∈ r :: R := (hR i).2 ⟨hlt, by
    rw [Array.getD_eq_getD_getElem?] at h1 ⊢
    rw [Array.getElem?_eq_getElem (by omega)] at h1 ⊢
    simpa using h1⟩
   obtain ⟨l1, l2, hsplit⟩ := List.append_of_mem hiR
   rw [hsplit] at hrun hp
   have hpw := List.pairwise_append.1 hp
   have hun : ∀ j ∈ l1, CompatI E ops tr j i := by
    intro j hj
    have hji : j < i := hpw.2.2 j hj i (by simp)
    refine hcomp j i hji hlt ?_
    cases hb : bound (Region.before ops) j i with
    | false => rfl
    | true =>
     have := bound_listed hcl2 i o ho hpre j hb
     have hjl := ((hR j).1 (by rw [hsplit]; simp [hj])).2
     rw [this] at hjl; cases hjl
   obtain ⟨o', v, H1, fr2', ho', hv, he, hrun'⟩ := front hrun hun
   rw [ho] at ho'; cases ho'
   have hdo : ∀ k, o.dst = some k → k < a.tmps.size := by
    intro k hk; rw [hn]; exact hdst o (by simpa using Array.mem_of_getElem? ho) k hk
   have hlen : R.length = (l1 ++ l2).length := by
    have := congrArg List.length hsplit; simp at this ⊢; omega
   have hpw' : (l1 ++ l2).Pairwise (· < ·) := by
    rw [List.pairwise_append]
    exact ⟨hpw.1, (List.pairwise_cons.1 hpw.2.1).2, fun x hx y hy => hpw.2.2 x hx y (by simp [hy])⟩
   have hni : i ∉ l1 ++ l2 := by
    intro hm
    rcases List.mem_append.1 hm with hm | hm
    ·have := hpw.2.2 i hm i (by simp); omega
    ·have := (List.pairwise_cons.1 hpw.2.1).1 i hm; omega
   have hR' : ∀ k, k ∈ l1 ++ l2 ↔ k < ops.size ∧ (listed.setIfInBounds i true).getD k false = false := by
    intro k
    by_cases hki : k = i
    ·subst hki
     refine ⟨fun h => absurd h hni, fun h => ?_⟩
     have h2 := h.2
     rw [Array.getD_eq_getD_getElem?] at h2
     simp [hsz, hlt] at h2
    ·rw [getD_set_ne false (Ne.symm hki)]
     rw [← hR k, hsplit]
     simp [hki]
   have hcl3 : Closed ops (listed.setIfInBounds i true) := by
    intro k p hp' hkl e he' hb
    by_cases hki : k = i
    ·subst hki
     rw [ho] at hp'; cases hp'
     exact getD_set_true (hpre e he' hb)
    ·rw [getD_set_ne false (Ne.symm hki)] at hkl
     exact getD_set_true (hcl2 k p hp' hkl e he' hb)
   have hsz' : (listed.setIfInBounds i true).size = ops.size := by simpa using hsz
   unfold wpOpIn
   rw [ho]
   unfold val1 at hv
   split at hv
   ·rename_i hg
    split at hv
    ·rename_i v' H1' hev
     simp only [Option.some.injEq, Prod.mk.injEq] at hv
     obtain ⟨rfl, rfl, _⟩ := hv
     simp only [guard_ok hf hg, if_true]
     refine oper_fe (evOp_nodef hev) (evOp_ok hcl hev hC hf fun x w1 hx => ?_)
     obtain ⟨I1, η1, hC1, hT1, hm1, hr1⟩ := hx
     rw [hlen]
     refine any_ok hcl (d0 := d0) (n0 := n0) (fr2 := fr2') hcomp hback hdst (l1 ++ l2) _ I1 η1 _ _ _ w1 fr2' hpw' hR' hsz' hcl3 hrun' hC1 ((hf.mono hm1).put hr1 o.dst hdo) (by rw [put_size]; exact hn) (by rw [put_defers]; exact hd) fun a' w' fr3 he3 hdef hs hA => ?_
     obtain ⟨I2, η2, k1, k2, k3, k4⟩ := hA
     exact hQ a' w' fr3 (he.trans he3) hdef hs ⟨I2, η2, k1, hT1.trans k2, hm1.trans k3, k4⟩
    ·cases hv
   ·rename_i hg
    simp only [Option.some.injEq, Prod.mk.injEq] at hv
    obtain ⟨rfl, rfl, _⟩ := hv
    simp only [guard_ok hf hg, Bool.false_eq_true, if_false]
    refine ⟨fun _ _ => trivial, ?_⟩
    rw [hlen]
    refine any_ok hcl (d0 := d0) (n0 := n0) (fr2 := fr2') hcomp hback hdst (l1 ++ l2) _ I η _ _ _ w fr2' hpw' hR' hsz' hcl3 hrun' hC (hf.put (relA_undef _ _ _) o.dst hdo) (by rw [put_size]; exact hn) (by rw [put_defers]; exact hd) fun a' w' fr3 he3 hdef hs hA => ?_
    exact hQ a' w' fr3 (he.trans he3) hdef hs hA
   ·cases hv
 termination_by R => R.length
 decreasing_by all_goals (have := congrArg List.length hsplit; simp at this ⊢; omega)
end
end Go.VI

