/- VI, part 3: the light operations do in the model what they do in VI. -/
import Derived.Test.YtcifhkdbaienjaaVI2
import Derived.Laws.Cells
import Derived.ChangeKeysEq
import Derived.Laws.StructEq
import Derived.Laws.Strings
set_option linter.unusedSimpArgs false
set_option linter.unusedVariables false
namespace Go.VI

section
variable {E : Env} {I : Imm} {η : Eta} {H : Hp} {w : World}

theorem relA_i {x : IV} {y : Value} (h : RelA I η H (.i x) y) : RelI I x y := by cases h; assumption
theorem relA_v {x y : Value} (h : RelA I η H (.i (.v x)) y) : y = x := by cases relA_i h; rfl
theorem relA_str {l : List UInt8} {y : Value} (h : RelA I η H (.i (.str l)) y) : y = .string ⟨⟨l⟩⟩ := by cases relA_i h; rfl
theorem relA_int {k : IntKind} {n : Int} : RelA I η H (.int k n) (.int k n) := .i _ _ (.v _ rfl)
theorem relA_bool {b : Bool} : RelA I η H (.bool b) (.bool b) := .i _ _ (.v _ rfl)
theorem relA_mkstr {l : List UInt8} : RelA I η H (.str l) (.string ⟨⟨l⟩⟩) := .i _ _ (.str _)
theorem relA_agg {cells : List AV} {y : Value} (h : RelA I η H (.agg cells) y) :
    ∃ cs : Array Value, y = .agg cs ∧ cs.size = cells.length ∧ ∀ (k : Nat) (a : AV), cells[k]? = some a → RelA I η H a (cs.getD k undef) := by
  cases h; rename_i cs hl h; exact ⟨cs, rfl, hl, h⟩
theorem relA_tup {cells : List AV} {y : Value} (h : RelA I η H (.tup cells) y) :
    ∃ cs : Array Value, y = .tuple cs ∧ cs.size = cells.length ∧ ∀ (k : Nat) (a : AV), cells[k]? = some a → RelA I η H a (cs.getD k undef) := by
  cases h; rename_i cs hl h; exact ⟨cs, rfl, hl, h⟩

theorem one_ok {a : AV} {y : Value} (h : RelA I η H a y) (ho : one a = true) : y.oneCell' = true := by
  cases h with
  | dead => simp [one] at ho
  | i x v h => cases h with
    | v _ h => exact h
    | _ => rfl
  | agg => simp [one] at ho
  | ref c g off len v hc hs hf hp hg => obtain ⟨a, m, rfl⟩ := hp; rfl
  | ptr c g r k v hc hb hs hf hi hp hg => obtain ⟨a, rfl⟩ := hp; rfl
  | clo => rfl
  | tup => simp [one] at ho

theorem relA_cellOf (v : Value) : RelA I η H (cellOf v) v := by
  unfold cellOf
  split
  · rename_i b
    obtain ⟨⟨l⟩⟩ := b
    exact .i _ _ (.str l)
  · exact .i _ _ (.nil 0 true none 0 (fun _ => rfl))
  · exact .dead _
  · exact .dead _
  · rename_i h1 h2
    refine .i _ _ (.v _ ?_)
    cases v <;> first | rfl | exact absurd rfl (h1 _) | exact absurd rfl (h2 _)

theorem getD_eq (cs : Array Value) (k : Nat) (h : k < cs.size) : cs[k]? = some (cs.getD k undef) := by
  simp [h]

theorem relA_ofVal (v : Value) : RelA I η H (ofVal v) v := by
  unfold ofVal
  split
  · rename_i cs
    refine .agg _ _ (by simp) fun k a h => ?_
    simp only [List.getElem?_map, Array.getElem?_toList, Option.map_eq_some_iff] at h
    obtain ⟨x, hx, rfl⟩ := h
    have : cs.getD k undef = x := by simp [Array.getD_eq_getD_getElem?, hx]
    rw [this]; exact relA_cellOf x
  · exact relA_cellOf _

theorem opd_ok {fr : Fr} {a : Act} (hC : Conc E I η H w) (hf : FrOK I η H fr a.tmps) (x : Operand) : RelA I η H (opd E fr x) (a.eval x) := by
  cases x with
  | tmp t => exact hf t
  | const v => exact relA_ofVal v
  | func f => exact .clo _ _ _ #[] #[] rfl rfl (fun k a h => by simp at h) (fun k a h => by simp at h)
  | global g =>
    simp only [opd, Act.eval]
    cases h : E.glob g with
    | none => exact .dead _
    | some cells => exact .i _ _ (hC.glob _ _ h)

/-! tables -/
theorem szO_ok {P : Program} {t n} (h : szO P t = some n) (w : World) : (sizeOf t).run P w = .ok n w ∧ ∃ i, P.info? t = some i ∧ i.size = n := by
  simp only [szO, Option.map_eq_some_iff] at h
  obtain ⟨i, hi, rfl⟩ := h
  exact ⟨by rw [run_sizeOf (i := i) w hi]; simp [Program.cellsOf, hi], i, hi, rfl⟩
theorem aggO_ok {P : Program} {t b} (h : aggO P t = some b) (w : World) : (isAgg t).run P w = .ok b w := by
  simp only [aggO, Option.map_eq_some_iff] at h
  obtain ⟨d, hd, rfl⟩ := h
  simp only [isAgg, Sem.run_bind, run_underlying hd, Result.andThen_ok]
  cases d <;> rfl
theorem slO_ok {P : Program} {t e} (h : slO P t = some e) : P.underlying t = some (.slice e) := by
  unfold slO at h; split at h <;> simp_all
theorem arrO_ok {P : Program} {t n e} (h : arrO P t = some (n, e)) : P.underlying t = some (.array n e) := by
  unfold arrO at h; split at h <;> simp_all
theorem isStrO_ok {P : Program} {t} (h : isStrO P t = true) : P.underlying t = some .string := by
  unfold isStrO at h; split at h <;> simp_all
theorem kindO_ok {P : Program} {t k} (h : kindO P t = some k) : P.underlying t = some (.int k) := by
  unfold kindO at h; split at h <;> simp_all
theorem fldO_ok {P : Program} {t f off ty} (h : fldO P t f = some (off, ty)) : ∃ fs x, P.underlying t = some (.struct fs) ∧ fs[f]? = some x ∧ x.offset = off ∧ x.type = ty := by
  unfold fldO at h
  split at h
  · rename_i fs hu
    simp only [Option.map_eq_some_iff, Prod.mk.injEq] at h
    obtain ⟨x, hx, h1, h2⟩ := h
    exact ⟨fs, x, hu, hx, h1, h2⟩
  · cases h

/-! reading memory -/
theorem add_none (b o n : Nat) : (⟨b, o, none⟩ : Addr).add n = ⟨b, o + n, none⟩ := by
  unfold Addr.add; split <;> simp_all
theorem cell_of {b : Nat} {cs : Array Value} {e : TypeId} {fz : Nat × Nat} (h : w.heap[b]? = some (.cells cs e fz)) (o : Nat) : w.cell? ⟨b, o, none⟩ = cs[o]? := by
  simp [World.cell?, h]

theorem behind_ok (hC : Conc E I η H w) {p : AV} {y : Value} (h : RelA I η H p y) {cells : List AV} {k : Nat} (hb : behind H p = some (cells, k)) :
    ∃ b base, y = .pointer (some ⟨b, base + k, none⟩) ∧ ∀ (j : Nat) (c : AV), cells[j]? = some c → ∃ cv, w.cell? ⟨b, base + j, none⟩ = some cv ∧ RelA I η H c cv := by
  have hpt : ∀ (cl : List IV) (o : Nat), RelI I (.pt cl o) y → ∃ b base, y = .pointer (some ⟨b, base + o, none⟩) ∧ ∀ (j : Nat) (c : AV), (ivs cl)[j]? = some c → ∃ cv, w.cell? ⟨b, base + j, none⟩ = some cv ∧ RelA I η H c cv := by
    intro cl o hr
    cases hr with
    | pt cells o b off cs elem fz cv hI h1 h2 =>
      refine ⟨b, off, rfl, fun j c hj => ?_⟩
      simp only [ivs, List.getElem?_map, Option.map_eq_some_iff] at hj
      obtain ⟨a, ha, rfl⟩ := hj
      exact ⟨cv j, by rw [cell_of (hC.imm _ _ hI)]; exact h1 _ _ ha, .i _ _ (h2 _ _ ha)⟩
  unfold behind at hb
  split at hb
  · cases hb; exact hpt _ _ (relA_i h)
  · rename_i c g r k'
    cases h with
    | ptr c g r k v hc hbx hsl hfz hit hp =>
      split at hb
      · rename_i cells' hH
        cases hb
        obtain ⟨b, n, hη, rfl⟩ := hbx _ hH
        obtain ⟨b', cs, elem, fz, hη', hw, _, hsz, hcell⟩ := hC.ch _ _ hH
        rw [hη] at hη'; cases hη'
        refine ⟨b, 0, by simp, fun j c hj => ?_⟩
        have hlt : j < cs.size := by rw [hsz]; exact (List.getElem?_eq_some_iff.1 hj).1
        exact ⟨cs.getD j undef, by rw [cell_of hw, Nat.zero_add]; exact getD_eq cs j hlt, hcell _ _ hj⟩
      · rename_i sz g' rows ex hH
        split at hb
        · rename_i hg
          subst hg
          split at hb
          · rename_i row hrow
            cases hb
            obtain ⟨b, n, hη, rfl⟩ := hsl _ _ _ hH
            obtain ⟨hz, hlen, hbk⟩ := hC.ch _ _ hH
            rcases hbk with ⟨hn, _⟩ | ⟨b', cs, elem, fz, hη', hw, _, hsz, _, hcell⟩
            · rw [hη] at hn; cases hn
            · rw [hη] at hη'; cases hη'
              refine ⟨b, r * sz, rfl, fun j c hj => ?_⟩
              simp only [ivs, List.getElem?_map, Option.map_eq_some_iff] at hj
              obtain ⟨a, ha, rfl⟩ := hj
              have hrl := hlen _ _ hrow
              have hj' := (List.getElem?_eq_some_iff.1 ha).1
              have hr' := (List.getElem?_eq_some_iff.1 hrow).1
              have hlt : r * sz + j < cs.size := by
                have : (r + 1) * sz ≤ rows.length * sz := Nat.mul_le_mul_right _ hr'
                rw [Nat.add_mul] at this; omega
              exact ⟨cs.getD (r * sz + j) undef, by rw [cell_of hw]; exact getD_eq _ _ hlt, .i _ _ (hcell _ _ _ _ hrow ha)⟩
          · cases hb
        · cases hb
      · rename_i sz g' rows ex hH
        split at hb
        · rename_i hg
          subst hg
          split at hb
          · rename_i row hrow
            cases hb
            exact hpt _ _ (hfz _ _ _ _ hH hrow)
          · cases hb
        · cases hb
      · cases hb
  · cases hb

theorem take_get {l m : List AV} {k n : Nat} (h : take l k n = some m) : m.length = n ∧ ∀ j, j < n → ∃ a, m[j]? = some a ∧ l[k + j]? = some a := by
  unfold take at h
  split at h
  · rename_i hle
    cases h
    refine ⟨by simp; omega, fun j hj => ?_⟩
    have hlt : k + j < l.length := by omega
    exact ⟨l[k + j], by simp [List.getElem?_take, hj, List.getElem?_drop, hlt], by simp [hlt]⟩
  · cases h

theorem load_ok (hC : Conc E I η H w) {p : AV} {y : Value} (h : RelA I η H p y) {t : TypeId} {v : AV} (hl : loadE E H t p = some v) :
    ∃ x, (Instr.loadAt t y).run E.P w = .ok x w ∧ RelA I η H v x := by
  unfold loadE at hl
  split at hl
  · rename_i cells k n hb ha hs
    obtain ⟨b, base, rfl, hcell⟩ := behind_ok hC h hb
    simp only [Option.map_eq_some_iff] at hl
    obtain ⟨m, hm, rfl⟩ := hl
    obtain ⟨hml, hmg⟩ := take_get hm
    have hrun : (loadCells ⟨b, base + k, none⟩ n).run E.P w = .ok ((List.range n).map fun j => (w.cell? ⟨b, base + k + j, none⟩).getD undef).toArray w := by
      refine run_loadCells w _ n _ fun j hj => ?_
      obtain ⟨a, _, h2⟩ := hmg j hj
      obtain ⟨cv, h3, _⟩ := hcell _ _ h2
      rw [add_none, show base + k + j = base + (k + j) by omega, h3]; rfl
    refine ⟨.agg ((List.range n).map fun j => (w.cell? ⟨b, base + k + j, none⟩).getD undef).toArray, ?_, ?_⟩
    · simp only [Instr.loadAt, Instr.sureAddr, loadVar, Sem.run_bind, Sem.run_pure, Result.andThen_ok, aggO_ok ha, if_true, (szO_ok hs w).1, hrun, Sem.run_ite]
    · refine .agg _ _ (by simp [hml]) fun j a hj => ?_
      have hjn : j < n := by rw [← hml]; exact (List.getElem?_eq_some_iff.1 hj).1
      obtain ⟨a', h1, h2⟩ := hmg j hjn
      rw [hj] at h1; cases h1
      obtain ⟨cv, h3, h4⟩ := hcell _ _ h2
      have : ((List.range n).map fun j => (w.cell? ⟨b, base + k + j, none⟩).getD undef).toArray.getD j undef = cv := by
        simp [Array.getD_eq_getD_getElem?, hjn, show base + k + j = base + (k + j) by omega, h3]
      rw [this]; exact h4
  · rename_i cells k n hb ha hs
    obtain ⟨b, base, rfl, hcell⟩ := behind_ok hC h hb
    obtain ⟨cv, h3, h4⟩ := hcell _ _ hl
    refine ⟨cv, ?_, h4⟩
    simp [Instr.loadAt, Instr.sureAddr, loadVar, aggO_ok ha, h3]
  · cases hl

/-! arithmetic -/
theorem bool_prop (p : Prop) [Decidable p] (b : Bool) (h : b = decide p) : RelA I η H (.bool (decide p)) (.bool b) := by rw [h]; exact relA_bool

theorem bits_ok {op : BinOp} {k : IntKind} {a b r : Int} (h : bitsE op k a b = some r) (P : Program) : (Op.intBits op k a b).run P w = .ok (.int k r) w := by
  cases op <;> simp_all [bitsE, Op.intBits]

theorem intE_ok {op : BinOp} {k k' : IntKind} {a b : Int} {v : AV} (h : intE op k a k' b = some v) (t : TypeId) (P : Program) :
    ∃ x, (binOp op t (.int k a) (.int k' b)).run P w = .ok x w ∧ RelA I η H v x := by
  unfold intE at h
  split at h
  · split at h
    · rename_i hb; cases h
      exact ⟨_, by simp [binOp, Op.shift, show ¬ b < 0 by omega], relA_int⟩
    · cases h
  · split at h
    · rename_i hb; cases h
      exact ⟨_, by simp [binOp, Op.shift, show ¬ b < 0 by omega], relA_int⟩
    · cases h
  · split at h
    · rename_i hk
      subst hk
      split at h
      · cases h; exact ⟨_, by simp [binOp, Op.intArith], relA_int⟩
      · cases h; exact ⟨_, by simp [binOp, Op.intArith], relA_int⟩
      · cases h; exact ⟨_, by simp [binOp, Op.intArith], relA_int⟩
      · split at h
        · cases h
        · rename_i hb; cases h; exact ⟨_, by simp [binOp, Op.intDiv, hb], relA_int⟩
      · split at h
        · cases h
        · rename_i hb; cases h; exact ⟨_, by simp [binOp, Op.intDiv, hb], relA_int⟩
      · cases h; exact ⟨_, by simp [binOp, Op.intCmp]; rfl, bool_prop _ _ rfl⟩
      · cases h; exact ⟨.bool (a != b), by simp [binOp, Op.intCmp], by
          have : (!decide (a = b)) = (a != b) := rfl
          rw [this]; exact relA_bool⟩
      · cases h; exact ⟨_, by simp [binOp, Op.intCmp]; rfl, bool_prop _ _ (by rfl)⟩
      · cases h; exact ⟨_, by simp [binOp, Op.intCmp]; rfl, bool_prop _ _ (by rfl)⟩
      · cases h; exact ⟨_, by simp [binOp, Op.intCmp]; rfl, bool_prop _ _ (by rfl)⟩
      · cases h; exact ⟨_, by simp [binOp, Op.intCmp]; rfl, bool_prop _ _ (by rfl)⟩
      all_goals first
        | (simp only [Option.map_eq_some_iff] at h
           obtain ⟨r, hr, rfl⟩ := h
           exact ⟨_, by simp [binOp]; exact bits_ok hr P, relA_int⟩)
        | cases h
    · cases h

theorem toList_mk (l : List UInt8) : (⟨⟨l⟩⟩ : ByteArray).toList = l := by
  rw [ByteArray.toList_eq]
theorem size_mk (l : List UInt8) : (⟨⟨l⟩⟩ : ByteArray).size = l.length := rfl
theorem append_mk (a b : List UInt8) : (⟨⟨a⟩⟩ : ByteArray) ++ ⟨⟨b⟩⟩ = ⟨⟨a ++ b⟩⟩ := by
  apply ByteArray.ext; simp
theorem strE_ok {op : BinOp} {a b : List UInt8} {v : AV} (h : strE op a b = some v) (t : TypeId) (P : Program) :
    ∃ x, (binOp op t (.string ⟨⟨a⟩⟩) (.string ⟨⟨b⟩⟩)).run P w = .ok x w ∧ RelA I η H v x := by
  unfold strE at h
  split at h
  · split at h
    · rename_i hl; cases h
      refine ⟨.string ⟨⟨a ++ b⟩⟩, ?_, relA_mkstr⟩
      have : ¬ ((a.length : Int) + b.length > IntKind.i64.max) := by
        have : IntKind.i64.max = 9223372036854775807 := by decide
        omega
      simp [binOp, Op.stringOp, size_mk, append_mk]
      omega
    · cases h
  all_goals first
    | (simp only [Option.some.injEq] at h; subst h; exact ⟨.bool _, by simp [binOp, Op.stringOp, toList_mk], relA_bool⟩)
    | exact absurd h (by simp)

/-! equality -/
def LeafV : Leaf → Value → Prop
  | .int k, x => ∃ n, x = .int k n
  | .bool, x => ∃ b, x = .bool b
  | .str, x => ∃ s, x = .string s
/-- n cells from 'off' on are of the kinds l -/
def Kinds (l : List Leaf) (xs : Array Value) (off : Nat) : Prop := ∀ (k : Nat) (f : Leaf), l[k]? = some f → ∃ x, xs[off + k]? = some x ∧ LeafV f x
def SameFrom (xs ys : Array Value) (off n : Nat) : Prop := ∀ k, k < n → xs[off + k]? = ys[off + k]?
theorem SameFrom.split {xs ys : Array Value} {off n m : Nat} : SameFrom xs ys off (n + m) ↔ SameFrom xs ys off n ∧ SameFrom xs ys (off + n) m := by
  constructor
  · intro h
    exact ⟨fun k hk => h k (by omega), fun k hk => by have := h (n + k) (by omega); rwa [show off + (n + k) = off + n + k by omega] at this⟩
  · rintro ⟨h1, h2⟩ k hk
    by_cases hn : k < n
    · exact h1 k hn
    · have := h2 (k - n) (by omega); rwa [show off + n + (k - n) = off + k by omega] at this
theorem Kinds.split {l m : List Leaf} {xs : Array Value} {off : Nat} (h : Kinds (l ++ m) xs off) : Kinds l xs off ∧ Kinds m xs (off + l.length) := by
  constructor
  · intro k f hf
    exact h k f (by rw [List.getElem?_append_left (List.getElem?_eq_some_iff.1 hf).1]; exact hf)
  · intro k f hf
    have := h (l.length + k) f (by rw [List.getElem?_append_right (by omega)]; simpa using hf)
    rwa [show off + (l.length + k) = off + l.length + k by omega] at this
/-- the value of type t that lies in the cells from 'off' on -/
def ValAt (P : Program) (t : TypeId) (xs : Array Value) (off n : Nat) (x : Value) : Prop :=
  (aggO P t = some true ∧ ∃ cs : Array Value, x = .agg cs ∧ ∀ k, k < n → cs[k]? = xs[off + k]?) ∨ (aggO P t = some false ∧ n = 1 ∧ xs[off]? = some x)
theorem part_ok {P : Program} {t : TypeId} {l : List Leaf} {xs : Array Value} {off : Nat} {ag : Bool} (ha : aggO P t = some ag) (hz : szO P t = some l.length)
    (h1 : ag = false → l.length = 1) (hk : Kinds l xs off) : ∃ x, (part t xs off).run P w = .ok x w ∧ ValAt P t xs off l.length x := by
  cases ag with
  | true =>
    refine ⟨.agg (xs.extract off (off + l.length)), by simp [part, aggO_ok ha, (szO_ok hz w).1], .inl ⟨ha, _, rfl, fun k hk' => ?_⟩⟩
    obtain ⟨x, hx, _⟩ := hk k _ (List.getElem?_eq_getElem hk')
    have hlt := (Array.getElem?_eq_some_iff.1 hx).1
    rw [Array.getElem?_extract]; simp; omega
  | false =>
    have hl := h1 rfl
    obtain ⟨x, hx, _⟩ := hk 0 _ (List.getElem?_eq_getElem (by omega))
    exact ⟨x, by simp only [part, Sem.run_bind, aggO_ok ha, Result.andThen_ok]; simp at hx; simp [hx], .inr ⟨ha, hl, by simpa using hx⟩⟩
theorem leaves_agg {P : Program} {d : Nat} {t : TypeId} {l : List Leaf} (h : leaves P d t = some l) : ∃ ag, aggO P t = some ag ∧ (ag = false → l.length = 1) := by
  cases d with
  | zero => simp [leaves] at h
  | succ d =>
    simp only [leaves] at h
    cases hu : P.underlying t with
    | none => simp [hu] at h
    | some u =>
      simp only [hu] at h
      cases u <;> simp at h
      all_goals first
        | (subst h; exact ⟨false, by simp [aggO, hu], fun _ => rfl⟩)
        | exact ⟨true, by simp [aggO, hu], fun h => by cases h⟩
theorem fields_ok {P : Program} {d D : Nat} (ih : ∀ t l, leaves P d t = some l → ∀ (xs ys : Array Value) (ox oy : Nat) (x y : Value), Kinds l xs ox → Kinds l ys oy →
      ValAt P t xs ox l.length x → ValAt P t ys oy l.length y → ∃ r, (Op.equalIn D t x y).run P w = .ok r w ∧ (r = true ↔ ∀ k, k < l.length → xs[ox + k]? = ys[oy + k]?)) :
    ∀ (fs : List Field) (o : Nat) (l : List Leaf), leavesF P (leaves P d) o fs = some l → ∀ xs ys : Array Value, Kinds l xs o → Kinds l ys o →
      ∃ r, (Op.eqFields D xs ys fs).run P w = .ok r w ∧ (r = true ↔ SameFrom xs ys o l.length)
  | [], o, l, h, xs, ys, _, _ => by
    simp only [leavesF, Option.some.injEq] at h; subst h
    exact ⟨true, by simp [Op.eqFields], by simp [SameFrom]⟩
  | f :: fs, o, l, h, xs, ys, hx, hy => by
    simp only [leavesF] at h
    split at h
    · rename_i l1 z hl1 hz
      split at h
      · rename_i hc
        obtain ⟨h1, h2, h3⟩ := hc
        simp only [Option.map_eq_some_iff] at h
        obtain ⟨l2, hl2, rfl⟩ := h
        subst h1 h2
        obtain ⟨hx1, hx2⟩ := hx.split
        obtain ⟨hy1, hy2⟩ := hy.split
        obtain ⟨ag, ha, hag⟩ := leaves_agg hl1
        obtain ⟨x, hpx, hvx⟩ := part_ok (w := w) ha hz hag hx1
        obtain ⟨y, hpy, hvy⟩ := part_ok (w := w) ha hz hag hy1
        obtain ⟨r1, hr1, hi1⟩ := ih _ _ hl1 xs ys _ _ x y hx1 hy1 hvx hvy
        obtain ⟨r2, hr2, hi2⟩ := fields_ok ih fs _ l2 hl2 xs ys hx2 hy2
        have hi1' : r1 = true ↔ SameFrom xs ys f.offset l1.length := hi1
        simp only [Op.eqFields, h3, ne_eq, not_false_eq_true, if_true, Sem.run_bind, hpx, hpy, hr1, Result.andThen_ok, List.length_append, SameFrom.split]
        cases r1 with
        | true => exact ⟨r2, by simp [hr2], by rw [hi2]; simp [hi1'.1 rfl]⟩
        | false => exact ⟨false, by simp, by simp only [Bool.false_eq_true, false_iff]; exact fun h => by simpa using hi1'.2 h.1⟩
      · cases h
    · cases h
theorem items_ok {P : Program} {d D : Nat} {e : TypeId} {l : List Leaf} (hl : leaves P d e = some l) (hz : szO P e = some l.length) (hze : P.cellsOf e = l.length)
    (ih : ∀ (xs ys : Array Value) (ox oy : Nat) (x y : Value), Kinds l xs ox → Kinds l ys oy →
      ValAt P e xs ox l.length x → ValAt P e ys oy l.length y → ∃ r, (Op.equalIn D e x y).run P w = .ok r w ∧ (r = true ↔ ∀ k, k < l.length → xs[ox + k]? = ys[oy + k]?)) (xs ys : Array Value) :
    ∀ is : List Nat, (∀ i ∈ is, Kinds l xs (i * l.length) ∧ Kinds l ys (i * l.length)) →
      ∃ r, (Op.eqItems D e (P.cellsOf e) xs ys is).run P w = .ok r w ∧ (r = true ↔ ∀ i ∈ is, SameFrom xs ys (i * l.length) l.length)
  | [], _ => ⟨true, by simp [Op.eqItems], by simp⟩
  | i :: is, h => by
    obtain ⟨hx, hy⟩ := h i (by simp)
    obtain ⟨ag, ha, hag⟩ := leaves_agg hl
    obtain ⟨x, hpx, hvx⟩ := part_ok (w := w) ha hz hag hx
    obtain ⟨y, hpy, hvy⟩ := part_ok (w := w) ha hz hag hy
    obtain ⟨r1, hr1, hi1⟩ := ih xs ys _ _ x y hx hy hvx hvy
    obtain ⟨r2, hr2, hi2⟩ := items_ok hl hz hze ih xs ys is (fun j hj => h j (by simp [hj]))
    have hi1' : r1 = true ↔ SameFrom xs ys (i * l.length) l.length := hi1
    simp only [hze] at hr2
    simp only [Op.eqItems, hze, Sem.run_bind, hpx, hpy, hr1, Result.andThen_ok, List.forall_mem_cons]
    cases r1 with
    | true => exact ⟨r2, by simp [hr2], by rw [hi2]; simp [hi1'.1 rfl]⟩
    | false => exact ⟨false, by simp, by simp only [Bool.false_eq_true, false_iff]; exact fun h => by simpa using hi1'.2 h.1⟩
theorem flatten_get {α : Type} (l : List α) : ∀ (n i k : Nat), i < n → k < l.length → (List.replicate n l).flatten[i * l.length + k]? = l[k]?
  | 0, _, _, h, _ => by omega
  | n + 1, 0, k, _, hk => by simp [List.replicate_succ, List.getElem?_append_left hk]
  | n + 1, i + 1, k, h, hk => by
    rw [List.replicate_succ, List.flatten_cons, List.getElem?_append_right (by rw [Nat.add_mul]; omega)]
    rw [← flatten_get l n i k (by omega) hk]
    congr 1; rw [Nat.add_mul]; omega
theorem eqIn_ok {P : Program} : ∀ (d : Nat) (t : TypeId) (l : List Leaf), leaves P d t = some l → ∀ D, d ≤ D → ∀ (xs ys : Array Value) (ox oy : Nat) (x y : Value), Kinds l xs ox → Kinds l ys oy →
    ValAt P t xs ox l.length x → ValAt P t ys oy l.length y →
      ∃ r, (Op.equalIn D t x y).run P w = .ok r w ∧ (r = true ↔ ∀ k, k < l.length → xs[ox + k]? = ys[oy + k]?)
  | 0, t, l, h => by simp [leaves] at h
  | d + 1, t, l, h => by
    intro D hD xs ys ox oy x y hx hy vx vy
    obtain ⟨D, rfl⟩ : ∃ D', D = D' + 1 := ⟨D - 1, by omega⟩
    have hag := leaves_agg h
    simp only [leaves] at h
    cases hu : P.underlying t with
    | none => simp [hu] at h
    | some u =>
      simp only [hu] at h
      have single : aggO P t = some false → l.length = 1 → (xs[ox]? = some x ∧ ys[oy]? = some y) := by
        intro ha hl
        rcases vx with ⟨h1, _⟩ | ⟨_, _, h1⟩
        · rw [ha] at h1; cases h1
        · rcases vy with ⟨h2, _⟩ | ⟨_, _, h2⟩
          · rw [ha] at h2; cases h2
          · exact ⟨h1, h2⟩
      cases u <;> simp at h
      case bool =>
        subst h
        obtain ⟨sx, sy⟩ := single (by simp [aggO, hu]) rfl
        obtain ⟨x', h1, a, rfl⟩ := hx 0 .bool rfl
        obtain ⟨y', h2, b, rfl⟩ := hy 0 .bool rfl
        simp only [Nat.add_zero] at h1 h2
        rw [sx] at h1; rw [sy] at h2; cases h1; cases h2
        refine ⟨a == b, run_equalIn_bool' w D t a b hu, ?_⟩
        simp [sx, sy]
      case int k =>
        subst h
        obtain ⟨sx, sy⟩ := single (by simp [aggO, hu]) rfl
        obtain ⟨x', h1, a, rfl⟩ := hx 0 _ rfl
        obtain ⟨y', h2, b, rfl⟩ := hy 0 _ rfl
        simp only [Nat.add_zero] at h1 h2
        rw [sx] at h1; rw [sy] at h2; cases h1; cases h2
        refine ⟨a == b, run_equalIn_int w D t k k a b hu, ?_⟩
        simp [sx, sy]
      case string =>
        subst h
        obtain ⟨sx, sy⟩ := single (by simp [aggO, hu]) rfl
        obtain ⟨x', h1, a, rfl⟩ := hx 0 .str rfl
        obtain ⟨y', h2, b, rfl⟩ := hy 0 .str rfl
        simp only [Nat.add_zero] at h1 h2
        rw [sx] at h1; rw [sy] at h2; cases h1; cases h2
        refine ⟨a.toList == b.toList, run_equalIn_string w D t a b hu, ?_⟩
        rw [ByteArray.toList_eq, ByteArray.toList_eq]
        obtain ⟨⟨a⟩⟩ := a
        obtain ⟨⟨b⟩⟩ := b
        simp [sx, sy]
      case array n e =>
        split at h
        · rename_i l1 z hl1 hz
          split at h
          · rename_i hlz
            subst hlz
            simp only [Option.some.injEq] at h
            subst h
            have hlen : (List.replicate n l1).flatten.length = n * l1.length := by simp
            rcases vx with ⟨_, cs, rfl, hcs⟩ | ⟨h1, _⟩
            case inr => simp [aggO, hu] at h1
            rcases vy with ⟨_, ds, rfl, hds⟩ | ⟨h1, _⟩
            case inr => simp [aggO, hu] at h1
            obtain ⟨i, hi, hisz⟩ := (szO_ok hz w).2
            have hce : P.cellsOf e = l1.length := by simp [Program.cellsOf, hi, hisz]
            rw [hlen] at hcs hds
            have kk : ∀ (zs : Array Value) (es : Array Value) (o : Nat), Kinds (List.replicate n l1).flatten zs o → (∀ k, k < n * l1.length → es[k]? = zs[o + k]?) → ∀ i, i < n → Kinds l1 es (i * l1.length) := by
              intro zs es o hk he i hi k f hf
              have hkl := (List.getElem?_eq_some_iff.1 hf).1
              have hlt : i * l1.length + k < n * l1.length := by
                have : (i + 1) * l1.length ≤ n * l1.length := Nat.mul_le_mul_right _ hi
                rw [Nat.add_mul] at this; omega
              obtain ⟨x, h1, h2⟩ := hk (i * l1.length + k) f (by rw [flatten_get l1 n i k hi hkl]; exact hf)
              exact ⟨x, by rw [he _ hlt]; exact h1, h2⟩
            obtain ⟨r, hr, hiff⟩ := items_ok (w := w) hl1 hz hce (eqIn_ok d e l1 hl1 D (by omega)) cs ds (List.range n)
              (fun i hi' => ⟨kk xs cs ox hx hcs i (by simpa using hi'), kk ys ds oy hy hds i (by simpa using hi')⟩)
            refine ⟨r, by rw [run_equalIn_array w D cs ds hu hi]; exact hr, ?_⟩
            rw [hiff, hlen]
            constructor
            · intro hs k hk
              have hpos : 0 < l1.length := by rcases Nat.eq_zero_or_pos l1.length with h0 | h0; · rw [h0] at hk; omega
                                              · exact h0
              have hkn : k / l1.length < n := (Nat.div_lt_iff_lt_mul hpos).2 hk
              have := hs (k / l1.length) (by simpa using hkn) (k % l1.length) (Nat.mod_lt _ hpos)
              have hdm : k / l1.length * l1.length + k % l1.length = k := by rw [Nat.mul_comm]; exact Nat.div_add_mod _ _
              rw [hdm, hcs k hk, hds k hk] at this; exact this
            · intro hs i hi' k hk
              have hlt : i * l1.length + k < n * l1.length := by
                have hin : i < n := by simpa using hi'
                have : (i + 1) * l1.length ≤ n * l1.length := Nat.mul_le_mul_right _ hin
                rw [Nat.add_mul] at this; omega
              rw [hcs _ hlt, hds _ hlt]; exact hs _ hlt
          · cases h
        · cases h
      case struct fs =>
        obtain ⟨hst, h⟩ := h
        rcases vx with ⟨_, cs, rfl, hcs⟩ | ⟨h1, _⟩
        case inr => simp [aggO, hu] at h1
        rcases vy with ⟨_, ds, rfl, hds⟩ | ⟨h1, _⟩
        case inr => simp [aggO, hu] at h1
        have kk : ∀ (zs es : Array Value) (o : Nat), Kinds l zs o → (∀ k, k < l.length → es[k]? = zs[o + k]?) → Kinds l es 0 := by
          intro zs es o hk he k f hf
          obtain ⟨x, h1, h2⟩ := hk k f hf
          exact ⟨x, by rw [Nat.zero_add, he _ (List.getElem?_eq_some_iff.1 hf).1]; exact h1, h2⟩
        have hfo : P.fieldsOf t = fs := by simp [Program.fieldsOf, hu]
        obtain ⟨r, hr, hiff⟩ := fields_ok (w := w) (D := D) (fun t l hl => eqIn_ok d t l hl D (by omega)) fs.toList 0 l h cs ds (kk _ _ _ hx hcs) (kk _ _ _ hy hds)
        refine ⟨r, by rw [run_equalIn_struct w D t cs ds (by rw [hfo]; exact hu) hst, hfo]; exact hr, ?_⟩
        rw [hiff]
        constructor
        · intro hs k hk; have := hs k hk; rw [Nat.zero_add, hcs k hk, hds k hk] at this; exact this
        · intro hs k hk; rw [Nat.zero_add, hcs k hk, hds k hk]; exact hs k hk
theorem leavesOk_kinds {l : List Leaf} : ∀ {as : List AV}, leavesOk l as = true → as.length = l.length ∧ ∀ (k : Nat) (f : Leaf), l[k]? = some f → ∃ a, as[k]? = some a ∧ leafOk f a = true := by
  induction l with
  | nil => intro as h; cases as <;> simp_all [leavesOk]
  | cons f l ih =>
    intro as h
    cases as with
    | nil => simp [leavesOk] at h
    | cons a as =>
      simp only [leavesOk, Bool.and_eq_true] at h
      obtain ⟨h1, h2⟩ := ih h.2
      refine ⟨by simp [h1], fun k g hg => ?_⟩
      cases k with
      | zero => simp at hg; subst hg; exact ⟨a, rfl, h.1⟩
      | succ k => simpa using h2 k g (by simpa using hg)
theorem leaf_val {f : Leaf} {a : AV} {x : Value} (h : leafOk f a = true) (r : RelA I η H a x) : LeafV f x := by
  unfold leafOk at h
  split at h
  · rw [relA_v r]; simp at h; subst h; exact ⟨_, rfl⟩
  · rw [relA_v r]; exact ⟨_, rfl⟩
  · rw [relA_str r]; exact ⟨_, rfl⟩
  · cases h
theorem cellEq_val {a b : AV} {x y : Value} {r : Bool} (h : cellEq a b = some r) (ra : RelA I η H a x) (rb : RelA I η H b y) : r = true ↔ x = y := by
  unfold cellEq at h
  split at h
  · split at h
    · cases h; rw [relA_v ra, relA_v rb]; simp_all
    · cases h
  · cases h; rw [relA_v ra, relA_v rb]; simp
  · cases h; rw [relA_str ra, relA_str rb]; simp
  · cases h
theorem cellsEq_val : ∀ {as bs : List AV} {r : Bool}, cellsEq as bs = some r → ∀ (xs ys : Nat → Value), (∀ (k : Nat) (a : AV), as[k]? = some a → RelA I η H a (xs k)) → (∀ (k : Nat) (b : AV), bs[k]? = some b → RelA I η H b (ys k)) →
    (r = true ↔ ∀ k, k < as.length → xs k = ys k)
  | [], [], r, h, xs, ys, _, _ => by simp [cellsEq] at h; simp [← h]
  | [], _ :: _, r, h, xs, ys, _, _ => by simp [cellsEq] at h
  | _ :: _, [], r, h, xs, ys, _, _ => by simp [cellsEq] at h
  | a :: as, b :: bs, r, h, xs, ys, ha, hb => by
    simp only [cellsEq] at h
    split at h
    · rename_i r1 r2 h1 h2
      cases h
      have e1 := cellEq_val h1 (ha 0 a rfl) (hb 0 b rfl)
      have e2 := cellsEq_val h2 (fun k => xs (k + 1)) (fun k => ys (k + 1)) (fun k c hc => ha (k + 1) c (by simpa using hc)) (fun k c hc => hb (k + 1) c (by simpa using hc))
      rw [Bool.and_eq_true, e1, e2]
      constructor
      · rintro ⟨h3, h4⟩ k hk
        cases k with
        | zero => exact h3
        | succ k => exact h4 k (by simpa using hk)
      · intro h3; exact ⟨h3 0 (by simp), fun k hk => h3 (k + 1) (by simpa using hk)⟩
    · cases h
theorem run_equalIn_ptr_nil {P : Program} (d : Nat) {t e : TypeId} (hu : P.underlying t = some (.pointer e)) (a : Option Addr) :
    (Op.equalIn (d + 1) t (.pointer a) (.pointer none)).run P w = .ok a.isNone w := by
  cases a <;> simp [Op.equalIn, run_underlying hu]
theorem eqGuard_ptr {P : Program} (op : BinOp) (t : TypeId) (o p : Operand) (a b : Option Addr) : (eqGuard op t o p (.pointer a) (.pointer b)).run P w = .ok () w := by cases op <;> simp [eqGuard]
theorem eqGuard_int {P : Program} (op : BinOp) (t : TypeId) (o p : Operand) (k k' : IntKind) (a b : Int) : (eqGuard op t o p (.int k a) (.int k' b)).run P w = .ok () w := by cases op <;> simp [eqGuard]
theorem eqGuard_str {P : Program} (op : BinOp) (t : TypeId) (o p : Operand) (a b : ByteArray) : (eqGuard op t o p (.string a) (.string b)).run P w = .ok () w := by cases op <;> simp [eqGuard]
theorem eqE_ok {P : Program} {t : TypeId} {a b : AV} {x y : Value} {r : Bool} (h : eqE P t a b = some r) (ra : RelA I η H a x) (rb : RelA I η H b y) :
    (Op.equal t x y).run P w = .ok r w ∧ ∀ (op : BinOp) (o p : Operand), (eqGuard op t o p x y).run P w = .ok () w := by
  unfold eqE at h
  split at h
  · rename_i as bs
    split at h
    · cases h
    · rename_i hg
      split at h
      · rename_i hag
        split at h
        · rename_i l hl
          split at h
          · rename_i hok
            obtain ⟨cs, rfl, hcl, hcr⟩ := relA_agg ra
            obtain ⟨ds, rfl, hdl, hdr⟩ := relA_agg rb
            obtain ⟨l1, k1⟩ := leavesOk_kinds hok.1
            obtain ⟨l2, k2⟩ := leavesOk_kinds hok.2
            have mk : ∀ (zs : List AV) (es : Array Value), es.size = zs.length → (∀ (k : Nat) (a : AV), zs[k]? = some a → RelA I η H a (es.getD k undef)) → (∀ (k : Nat) (f : Leaf), l[k]? = some f → ∃ a, zs[k]? = some a ∧ leafOk f a = true) → Kinds l es 0 := by
              intro zs es hs hr hk k f hf
              obtain ⟨a, h1, h2⟩ := hk k f hf
              refine ⟨es.getD k undef, ?_, leaf_val h2 (hr k a h1)⟩
              rw [Nat.zero_add]; exact getD_eq es k (by rw [hs]; exact (List.getElem?_eq_some_iff.1 h1).1)
            obtain ⟨r', hr', hiff⟩ := eqIn_ok (w := w) 9 t l hl 10000 (by omega) cs ds 0 0 (.agg cs) (.agg ds) (mk as cs hcl hcr k1) (mk bs ds hdl hdr k2)
              (.inl ⟨hag, cs, rfl, fun k _ => by simp⟩) (.inl ⟨hag, ds, rfl, fun k _ => by simp⟩)
            have e := cellsEq_val h (fun k => cs.getD k undef) (fun k => ds.getD k undef) hcr hdr
            have : r = r' := by
              rw [Bool.eq_iff_iff, e, hiff, l1]
              constructor
              · intro hk k hkl
                rw [Nat.zero_add, getD_eq cs k (by omega), getD_eq ds k (by omega), hk k hkl]
              · intro hk k hkl
                have := hk k hkl
                rw [Nat.zero_add, getD_eq cs k (by omega), getD_eq ds k (by omega)] at this
                exact Option.some.inj this
            rw [this]
            exact ⟨hr', fun op o p => run_eqGuard_agg w op t o p cs ds (by simpa [eqgO] using hg)⟩
          · cases h
        · cases h
      · cases h
  · split at h
    · rename_i hu
      cases h
      rw [relA_v ra, relA_v rb]
      exact ⟨run_equalIn_bool' w 9999 t _ _ hu, fun op o p => by cases op <;> simp [eqGuard]⟩
    · cases h
  · split at h
    · rename_i hu
      cases h
      rw [relA_v rb]
      cases ra with
      | ptr c g r k v hc hb hs hf hi hp hg =>
        obtain ⟨a, rfl⟩ := hp
        exact ⟨run_equalIn_ptr_nil 9999 hu (some a), fun op o p => eqGuard_ptr ..⟩
    · cases h
  · split at h
    · rename_i hu
      cases h
      rw [relA_v rb]
      cases relA_i ra with
      | pt => exact ⟨run_equalIn_ptr_nil 9999 hu (some _), fun op o p => eqGuard_ptr ..⟩
    · cases h
  · split at h
    · rename_i hu
      cases h
      rw [relA_v ra, relA_v rb]
      exact ⟨run_equalIn_ptr_nil 9999 hu none, fun op o p => eqGuard_ptr ..⟩
    · cases h
  · cases h

theorem binOp_eq {P : Program} {t : TypeId} {a b : AV} {x y : Value} {r : Bool} (h : eqE P t a b = some r) (ra : RelA I η H a x) (rb : RelA I η H b y) :
    (binOp .eql t x y).run P w = .ok (.bool r) w ∧ (binOp .neq t x y).run P w = .ok (.bool (!r)) w := by
  have h1 := (eqE_ok (w := w) h ra rb).1
  unfold eqE at h
  split at h
  · obtain ⟨cs, rfl, _⟩ := relA_agg ra
    obtain ⟨ds, rfl, _⟩ := relA_agg rb
    exact ⟨by simp [binOp, h1], by simp [binOp, h1]⟩
  · rw [relA_v ra, relA_v rb] at h1 ⊢
    exact ⟨by simp [binOp, h1], by simp [binOp, h1]⟩
  · rw [relA_v rb] at h1 ⊢
    cases ra with
    | ptr c g r k v hc hb hs hf hi hp hg =>
      obtain ⟨a, rfl⟩ := hp
      exact ⟨by simp [binOp, h1], by simp [binOp, h1]⟩
  · rw [relA_v rb] at h1 ⊢
    cases relA_i ra with
    | pt => exact ⟨by simp [binOp, h1], by simp [binOp, h1]⟩
  · rw [relA_v ra, relA_v rb] at h1 ⊢
    exact ⟨by simp [binOp, h1], by simp [binOp, h1]⟩
  · cases h

theorem binE_ok {P : Program} {op : BinOp} {t : TypeId} {a b : AV} {x y : Value} {v : AV} (h : binE P op t a b = some v) (ra : RelA I η H a x) (rb : RelA I η H b y) (o p : Operand) :
    ∃ z, (do eqGuard op t o p x y; binOp op t x y : Sem Value).run P w = .ok z w ∧ RelA I η H v z := by
  unfold binE at h
  split at h
  · rw [relA_v ra, relA_v rb]
    obtain ⟨z, h1, h2⟩ := intE_ok (I := I) (η := η) (H := H) (w := w) h t P
    refine ⟨z, ?_, h2⟩
    simp only [Sem.run_bind, eqGuard_int, Result.andThen_ok, h1]
  · rw [relA_str ra, relA_str rb]
    obtain ⟨z, h1, h2⟩ := strE_ok (I := I) (η := η) (H := H) (w := w) h t P
    refine ⟨z, ?_, h2⟩
    simp only [Sem.run_bind, eqGuard_str, Result.andThen_ok, h1]
  · split at h
    · simp only [Option.map_eq_some_iff] at h
      obtain ⟨r, hr, rfl⟩ := h
      exact ⟨.bool r, by simp only [Sem.run_bind, (eqE_ok hr ra rb).2, Result.andThen_ok, (binOp_eq hr ra rb).1], relA_bool⟩
    · simp only [Option.map_eq_some_iff] at h
      obtain ⟨r, hr, rfl⟩ := h
      exact ⟨.bool (!r), by simp only [Sem.run_bind, (eqE_ok hr ra rb).2, Result.andThen_ok, (binOp_eq hr ra rb).2], relA_bool⟩
    · cases h

theorem unE_ok {P : Program} {op : UnOp} {a : AV} {x : Value} {v : AV} (h : unE op a = some v) (ra : RelA I η H a x) :
    ∃ z, (Op.unary op x).run P w = .ok z w ∧ RelA I η H v z := by
  unfold unE at h
  split at h
  · cases h; rw [relA_v ra]; exact ⟨_, by simp [Op.unary, Op.intArith], relA_int⟩
  · simp only [Option.map_eq_some_iff] at h
    obtain ⟨r, hr, rfl⟩ := h
    rw [relA_v ra]; exact ⟨_, by simp only [Op.unary]; exact bits_ok hr P, relA_int⟩
  · cases h; rw [relA_v ra]; exact ⟨_, by simp [Op.unary], relA_bool⟩
  · cases h
end
end Go.VI
