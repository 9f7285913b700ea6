/- VI, part 2: what the abstract data stand for in a world of the model. -/
import Derived.Test.YtcifhkdbaienjaaVI1
namespace Go.VI

abbrev Imm := Nat → Option Obj
/-- chunk ↦ its block and the number of its cells -/
abbrev Eta := Nat → Option (Nat × Nat)

inductive RelI (I : Imm) : IV → Value → Prop
  | v (x : Value) (h : x.oneCell' = true) : RelI I (.v x) x
  | str (l : List UInt8) : RelI I (.str l) (.string ⟨⟨l⟩⟩)
  | nil (sz : Nat) (ex : Bool) (a : Option Addr) (cap : Nat) (h : ex = true → cap = 0) : RelI I (.sl sz [] ex) (.slice a 0 cap)
  | sl (sz : Nat) (rows : List (List IV)) (ex : Bool) (b off cap : Nat) (cs : Array Value) (elem : TypeId) (fz : Nat × Nat) (cv : Nat → Nat → Value)
      (hI : I b = some (.cells cs elem fz)) (hc : rows.length ≤ cap) (hx : ex = true → cap = rows.length)
      (hr : ∀ (i : Nat) (r : List IV), rows[i]? = some r → r.length = sz)
      (h1 : ∀ (i : Nat) (r : List IV) (k : Nat) (a : IV), rows[i]? = some r → r[k]? = some a → cs[off + i * sz + k]? = some (cv i k))
      (h2 : ∀ (i : Nat) (r : List IV) (k : Nat) (a : IV), rows[i]? = some r → r[k]? = some a → RelI I a (cv i k)) :
      RelI I (.sl sz rows ex) (.slice (some ⟨b, off, none⟩) rows.length cap)
  | pt (cells : List IV) (o b off : Nat) (cs : Array Value) (elem : TypeId) (fz : Nat × Nat) (cv : Nat → Value)
      (hI : I b = some (.cells cs elem fz))
      (h1 : ∀ (k : Nat) (a : IV), cells[k]? = some a → cs[off + k]? = some (cv k))
      (h2 : ∀ (k : Nat) (a : IV), cells[k]? = some a → RelI I a (cv k)) :
      RelI I (.pt cells o) (.pointer (some ⟨b, off + o, none⟩))

def Imm.le (I I' : Imm) : Prop := ∀ b o, I b = some o → I' b = some o

theorem RelI.mono {I I' : Imm} (h : I.le I') {x : IV} {v : Value} (r : RelI I x v) : RelI I' x v := by
  induction r with
  | v x h => exact .v x h
  | str l => exact .str l
  | nil sz ex a cap hx => exact .nil sz ex a cap hx
  | sl sz rows ex b off cap cs elem fz cv hI hc hx hr h1 _ ih => exact .sl sz rows ex b off cap cs elem fz cv (h _ _ hI) hc hx hr h1 ih
  | pt cells o b off cs elem fz cv hI h1 _ ih => exact .pt cells o b off cs elem fz cv (h _ _ hI) h1 ih

/-- a slice over an own chunk that is still written -/
def RefOk (η : Eta) (c sz : Nat) (rows : List (List IV)) (off len : Nat) (v : Value) : Prop :=
  off + len ≤ rows.length ∧ ∃ a cap, v = .slice a len cap ∧
    ((η c = none ∧ cap = 0) ∨
     ∃ b n, η c = some (b, n) ∧ rows.length ≤ off + cap ∧ (off + cap) * sz ≤ n ∧ (a = some ⟨b, off * sz, none⟩ ∨ (len = 0 ∧ cap = 0)))

inductive RelA (I : Imm) (η : Eta) (H : Hp) : AV → Value → Prop
  | dead (v : Value) : RelA I η H .dead v
  | i (x : IV) (v : Value) (h : RelI I x v) : RelA I η H (.i x) v
  | agg (cells : List AV) (cs : Array Value) (hl : cs.size = cells.length)
      (h : ∀ (k : Nat) (a : AV), cells[k]? = some a → RelA I η H a (cs.getD k undef)) : RelA I η H (.agg cells) (.agg cs)
  | ref (c g off len : Nat) (v : Value) (hc : c < H.length)
      (hs : ∀ sz rows ex, H[c]? = some (.sl sz g rows ex) → RefOk η c sz rows off len v)
      (hf : ∀ sz rows ex, H[c]? = some (.fz sz g rows ex) → off + len ≤ rows.length ∧
        RelI I (.sl sz ((rows.drop off).take len) (ex && decide (off + len = rows.length))) v)
      (hp : ∃ a m, v = .slice a len m) (hg : ∀ sz g' rows ex, H[c]? = some (.sl sz g' rows ex) → g ≤ g') : RelA I η H (.ref c g off len) v
  | ptr (c g r k : Nat) (v : Value) (hc : c < H.length)
      (hb : ∀ cells, H[c]? = some (.box cells) → ∃ b n, η c = some (b, n) ∧ v = .pointer (some ⟨b, k, none⟩))
      (hs : ∀ sz rows ex, H[c]? = some (.sl sz g rows ex) → ∃ b n, η c = some (b, n) ∧ v = .pointer (some ⟨b, r * sz + k, none⟩))
      (hf : ∀ sz rows ex row, H[c]? = some (.fz sz g rows ex) → rows[r]? = some row → RelI I (.pt row k) v)
      (hi : ∀ s p, H[c]? = some (.iter s p) → ∃ b n, η c = some (b, n) ∧ v = .pointer (some ⟨b, k, none⟩)) 
      (hp : ∃ a : Addr, v = .pointer (some a)) (hg : ∀ sz g' rows ex, H[c]? = some (.sl sz g' rows ex) → g ≤ g') : RelA I η H (.ptr c g r k) v
  | clo (fn : Fn) (first caps : List AV) (fs cs : Array Value) (hl : fs.size = first.length) (hm : cs.size = caps.length)
      (h1 : ∀ (k : Nat) (a : AV), first[k]? = some a → RelA I η H a (fs.getD k undef))
      (h2 : ∀ (k : Nat) (a : AV), caps[k]? = some a → RelA I η H a (cs.getD k undef)) : RelA I η H (.clo fn first caps) (.func fn fs cs)
  | tup (vs : List AV) (xs : Array Value) (hl : xs.size = vs.length)
      (h : ∀ (k : Nat) (a : AV), vs[k]? = some a → RelA I η H a (xs.getD k undef)) : RelA I η H (.tup vs) (.tuple xs)

/-- the cells of a row may be written -/
def Thaw (fz : Nat × Nat) (n : Nat) : Prop := ∀ k, k < n → ¬ (fz.1 ≤ k ∧ k < fz.2)

def ChunkOK (I : Imm) (η : Eta) (H : Hp) (w : World) (c : Nat) : Chunk → Prop
  | .box cells => ∃ b cs elem fz, η c = some (b, cs.size) ∧ w.heap[b]? = some (.cells cs elem fz) ∧ Thaw fz cs.size ∧ cs.size = cells.length ∧
      ∀ (k : Nat) (a : AV), cells[k]? = some a → RelA I η H a (cs.getD k undef)
  | .sl sz _ rows ex => (sz = 0 → η c = none) ∧ (∀ (i : Nat) (r : List IV), rows[i]? = some r → r.length = sz) ∧
      ((η c = none ∧ rows = []) ∨ ∃ b cs elem fz, η c = some (b, cs.size) ∧ w.heap[b]? = some (.cells cs elem fz) ∧ Thaw fz cs.size ∧
        rows.length * sz ≤ cs.size ∧ (ex = true → cs.size = rows.length * sz) ∧
        ∀ (i : Nat) (r : List IV) (k : Nat) (a : IV), rows[i]? = some r → r[k]? = some a → RelI I a (cs.getD (i * sz + k) undef))
  | .fz .. => η c = none
  | .iter s pos => ∃ b, η c = some (b, 0) ∧ w.heap[b]? = some (.stringIter ⟨⟨s⟩⟩ pos)

structure Conc (E : Env) (I : Imm) (η : Eta) (H : Hp) (w : World) : Prop where
  imm : ∀ b o, I b = some o → w.heap[b]? = some o
  ch : ∀ c x, H[c]? = some x → ChunkOK I η H w c x
  inj : ∀ c c' b n n', η c = some (b, n) → η c' = some (b, n') → c = c'
  sep : ∀ c b n, η c = some (b, n) → I b = none ∧ b < w.heap.size ∧ c < H.length
  glob : ∀ g cells, E.glob g = some cells → RelI I (.pt cells 0) (.pointer (some ⟨g, 0, none⟩))

/-- what a step may do to the memory -/
structure Trans (I : Imm) (η : Eta) (w : World) (I' : Imm) (η' : Eta) (w' : World) : Prop where
  os : w'.os = w.os
  tape : w'.tape = w.tape
  output : w'.output = w.output
  size : w.heap.size ≤ w'.heap.size
  frame : ∀ b, b < w.heap.size → (∀ c n, η c ≠ some (b, n)) → w'.heap[b]? = w.heap[b]?
  imm : I.le I'
  immNew : ∀ b, I' b ≠ none → I b ≠ none ∨ w.heap.size ≤ b ∨ ∃ c n, η c = some (b, n)
  own : ∀ c b n, η' c = some (b, n) → w.heap.size ≤ b ∨ ∃ c' n', η c' = some (b, n')

theorem Trans.refl (I : Imm) (η : Eta) (w : World) : Trans I η w I η w :=
  ⟨rfl, rfl, rfl, Nat.le_refl _, fun _ _ _ => rfl, fun _ _ h => h, fun _ h => .inl h, fun _ _ _ h => .inr ⟨_, _, h⟩⟩

theorem Trans.trans {I η w I' η' w' I'' η'' w''} (h : Trans I η w I' η' w') (k : Trans I' η' w' I'' η'' w'') : Trans I η w I'' η'' w'' where
  os := k.os.trans h.os
  tape := k.tape.trans h.tape
  output := k.output.trans h.output
  size := Nat.le_trans h.size k.size
  frame b hb hn := by
    rw [k.frame b (Nat.lt_of_lt_of_le hb h.size) ?_, h.frame b hb hn]
    intro c n hc
    rcases h.own c b n hc with h1 | ⟨c', n', h1⟩
    · omega
    · exact hn _ _ h1
  imm b o hb := k.imm _ _ (h.imm _ _ hb)
  immNew b hb := by
    rcases k.immNew b hb with h1 | h1 | ⟨c, n, h1⟩
    · exact h.immNew b h1
    · exact .inr (.inl (Nat.le_trans h.size h1))
    · rcases h.own c b n h1 with h2 | h2
      · exact .inr (.inl h2)
      · exact .inr (.inr h2)
  own c b n hc := by
    rcases k.own c b n hc with h1 | ⟨c', n', h1⟩
    · exact .inl (Nat.le_trans h.size h1)
    · exact h.own _ _ _ h1

/-- all that held of a value holds still -/
def Mono (I : Imm) (η : Eta) (H : Hp) (I' : Imm) (η' : Eta) (H' : Hp) : Prop := ∀ a v, RelA I η H a v → RelA I' η' H' a v
theorem Mono.refl (I η H) : Mono I η H I η H := fun _ _ h => h
theorem Mono.trans {I η H I' η' H' I'' η'' H''} (h : Mono I η H I' η' H') (k : Mono I' η' H' I'' η'' H'') : Mono I η H I'' η'' H'' :=
  fun a v r => k a v (h a v r)

/-- chunk by chunk: what is asked for Mono -/
def CStep (I : Imm) (η : Eta) (H : Hp) (I' : Imm) (η' : Eta) (H' : Hp) (c : Nat) : Prop :=
  ∀ y, H'[c]? = some y → match y with
    | .box cells' => (∃ cells, H[c]? = some (.box cells) ∧ η' c = η c) ∨ (∃ rows ex, H[c]? = some (.sl 0 0 rows ex) ∧ η c = none)
    | .iter _ _ => ∃ s p, H[c]? = some (.iter s p) ∧ η' c = η c
    | .sl sz g rows' ex' => (∃ rows ex, H[c]? = some (.sl sz g rows ex) ∧ η' c = η c ∧ rows'.length = rows.length) ∨ (∃ sz0 g0 rows0 ex0, H[c]? = some (.sl sz0 g0 rows0 ex0) ∧ g0 < g)
    | .fz sz g rows ex => (H[c]? = some (.fz sz g rows ex)) ∨ (∀ a v, (∃ off len, a = .ref c g off len) ∨ (∃ r k, a = .ptr c g r k) → RelA I η H a v → RelA I' η' H' a v)

theorem RefOk.step {η η' : Eta} {c sz : Nat} {rows rows' : List (List IV)} {off len : Nat} {v : Value} (he : η' c = η c) (hl : rows'.length = rows.length)
    (h : RefOk η c sz rows off len v) : RefOk η' c sz rows' off len v := by
  unfold RefOk at *
  rw [he, hl]; exact h

theorem mono_of {I η H I' η' H'} (hI : I.le I') (hlen : H.length ≤ H'.length) (hc : ∀ c, c < H.length → CStep I η H I' η' H' c) : Mono I η H I' η' H' := by
  intro a v r
  induction r with
  | dead v => exact .dead v
  | i x v h => exact .i x v (h.mono hI)
  | agg cells cs hl _ ih => exact .agg cells cs hl ih
  | clo fn first caps fs cs hl hm _ _ ih1 ih2 => exact .clo fn first caps fs cs hl hm ih1 ih2
  | tup vs xs hl _ ih => exact .tup vs xs hl ih
  | ref c g off len v hcl hs hf hp hg =>
    have hcs := hc c hcl
    by_cases hex : ∃ y, H'[c]? = some y
    · obtain ⟨y, hy⟩ := hex
      have hst := hcs y hy
      cases y with
      | box cells => exact .ref c g off len v (by omega) (fun sz rows ex h => by rw [hy] at h; cases h) (fun sz rows ex h => by rw [hy] at h; cases h) hp (fun _ _ _ _ h => by rw [hy] at h; cases h)
      | iter s p => exact .ref c g off len v (by omega) (fun sz rows ex h => by rw [hy] at h; cases h) (fun sz rows ex h => by rw [hy] at h; cases h) hp (fun _ _ _ _ h => by rw [hy] at h; cases h)
      | sl sz g' rows' ex' =>
        rcases hst with ⟨rows, ex, h1, h2, h3⟩ | ⟨sz0, g0, rows0, ex0, h1, h2⟩
        · refine .ref c g off len v (by omega) (fun sz2 rows2 ex2 h => ?_) (fun sz2 rows2 ex2 h => by rw [hy] at h; cases h) hp (fun _ _ _ _ h => by rw [hy] at h; cases h; exact hg _ _ _ _ h1)
          rw [hy] at h; cases h
          exact (hs _ _ _ h1).step h2 h3
        · have hle := hg _ _ _ _ h1
          exact .ref c g off len v (by omega) (fun sz2 rows2 ex2 h => by rw [hy] at h; cases h; omega) (fun sz2 rows2 ex2 h => by rw [hy] at h; cases h) hp (fun _ _ _ _ h => by rw [hy] at h; cases h; omega)
      | fz sz g' rows' ex' =>
        rcases hst with h1 | h1
        · refine .ref c g off len v (by omega) (fun sz2 rows2 ex2 h => by rw [hy] at h; cases h) (fun sz2 rows2 ex2 h => ?_) hp (fun _ _ _ _ h => by rw [hy] at h; cases h)
          rw [hy] at h; cases h
          exact ⟨(hf _ _ _ h1).1, (hf _ _ _ h1).2.mono hI⟩
        · by_cases hgg : g' = g
          · subst hgg; exact h1 _ _ (.inl ⟨off, len, rfl⟩) (.ref c g' off len v hcl hs hf hp hg)
          · exact .ref c g off len v (by omega) (fun sz2 rows2 ex2 h => by rw [hy] at h; cases h) (fun sz2 rows2 ex2 h => by rw [hy] at h; cases h; exact absurd rfl hgg) hp (fun _ _ _ _ h => by rw [hy] at h; cases h)
    · have hn : H'[c]? = none := by cases h : H'[c]? with | none => rfl | some y => exact absurd ⟨y, h⟩ hex
      exact .ref c g off len v (by omega) (fun sz rows ex h => by rw [hn] at h; cases h) (fun sz rows ex h => by rw [hn] at h; cases h) hp (fun _ _ _ _ h => by rw [hn] at h; cases h)
  | ptr c g r k v hcl hb hs hf hi hp hg =>
    have hcs := hc c hcl
    by_cases hex : ∃ y, H'[c]? = some y
    · obtain ⟨y, hy⟩ := hex
      have hst := hcs y hy
      cases y with
      | box cells' =>
        rcases hst with ⟨cells, h1, h2⟩ | ⟨rows, ex, h1, h2⟩
        · refine .ptr c g r k v (by omega) (fun x h => ?_) (fun _ _ _ h => by rw [hy] at h; cases h) (fun _ _ _ _ h => by rw [hy] at h; cases h) (fun _ _ h => by rw [hy] at h; cases h) hp (fun _ _ _ _ h => by rw [hy] at h; cases h)
          rw [h2]; exact hb _ h1
        · exfalso
          have h3 := hg _ _ _ _ h1
          obtain rfl : g = 0 := by omega
          obtain ⟨b, n, h4, _⟩ := hs _ _ _ h1
          rw [h2] at h4; cases h4
      | iter s p =>
        obtain ⟨s0, p0, h1, h2⟩ := hst
        refine .ptr c g r k v (by omega) (fun _ h => by rw [hy] at h; cases h) (fun _ _ _ h => by rw [hy] at h; cases h) (fun _ _ _ _ h => by rw [hy] at h; cases h) (fun _ _ h => ?_) hp (fun _ _ _ _ h => by rw [hy] at h; cases h)
        rw [h2]; exact hi _ _ h1
      | sl sz g' rows' ex' =>
        rcases hst with ⟨rows, ex, h1, h2, h3⟩ | ⟨sz0, g0, rows0, ex0, h1, h2⟩
        · refine .ptr c g r k v (by omega) (fun _ h => by rw [hy] at h; cases h) (fun sz2 rows2 ex2 h => ?_) (fun _ _ _ _ h => by rw [hy] at h; cases h) (fun _ _ h => by rw [hy] at h; cases h) hp (fun _ _ _ _ h => by rw [hy] at h; cases h; exact hg _ _ _ _ h1)
          rw [hy] at h; cases h
          rw [h2]; exact hs _ _ _ h1
        · have hle := hg _ _ _ _ h1
          exact .ptr c g r k v (by omega) (fun _ h => by rw [hy] at h; cases h) (fun sz2 rows2 ex2 h => by rw [hy] at h; cases h; omega) (fun _ _ _ _ h => by rw [hy] at h; cases h) (fun _ _ h => by rw [hy] at h; cases h) hp (fun _ _ _ _ h => by rw [hy] at h; cases h; omega)
      | fz sz g' rows' ex' =>
        rcases hst with h1 | h1
        · refine .ptr c g r k v (by omega) (fun _ h => by rw [hy] at h; cases h) (fun _ _ _ h => by rw [hy] at h; cases h) (fun sz2 rows2 ex2 row h h' => ?_) (fun _ _ h => by rw [hy] at h; cases h) hp (fun _ _ _ _ h => by rw [hy] at h; cases h)
          rw [hy] at h; cases h
          exact (hf _ _ _ _ h1 h').mono hI
        · by_cases hgg : g' = g
          · subst hgg; exact h1 _ _ (.inr ⟨r, k, rfl⟩) (.ptr c g' r k v hcl hb hs hf hi hp hg)
          · exact .ptr c g r k v (by omega) (fun _ h => by rw [hy] at h; cases h) (fun _ _ _ h => by rw [hy] at h; cases h) (fun sz2 rows2 ex2 row h => by rw [hy] at h; cases h; exact absurd rfl hgg) (fun _ _ h => by rw [hy] at h; cases h) hp (fun _ _ _ _ h => by rw [hy] at h; cases h)
    · have hn : H'[c]? = none := by cases h : H'[c]? with | none => rfl | some y => exact absurd ⟨y, h⟩ hex
      exact .ptr c g r k v (by omega) (fun _ h => by rw [hn] at h; cases h) (fun _ _ _ h => by rw [hn] at h; cases h) (fun _ _ _ _ h => by rw [hn] at h; cases h) (fun _ _ h => by rw [hn] at h; cases h) hp (fun _ _ _ _ h => by rw [hn] at h; cases h)

/-- a chunk that is left alone -/
theorem CStep.same {I η H I' η' H' c} (h1 : H'[c]? = H[c]?) (h2 : η' c = η c) : CStep I η H I' η' H' c := by
  intro y hy
  rw [h1] at hy
  cases y with
  | box cells => exact .inl ⟨cells, hy, h2⟩
  | iter s p => exact ⟨s, p, hy, h2⟩
  | sl sz g rows ex => exact .inl ⟨rows, ex, hy, h2, rfl⟩
  | fz sz g rows ex => exact .inl hy

/-- a frame's slots -/
def FrOK (I : Imm) (η : Eta) (H : Hp) (fr : Fr) (tmps : Array Value) : Prop := ∀ k, RelA I η H (get k fr) (tmps.getD k undef)
theorem FrOK.mono {I η H I' η' H' fr tmps} (h : FrOK I η H fr tmps) (m : Mono I η H I' η' H') : FrOK I' η' H' fr tmps := fun k => m _ _ (h k)
theorem FrOK.put {I η H fr} {a : Act} (h : FrOK I η H fr a.tmps) {v : AV} {x : Value} (r : RelA I η H v x) (d : Option Nat) (hd : ∀ k, d = some k → k < a.tmps.size) :
    FrOK I η H (putD d v fr) (a.put d x).tmps := by
  cases d with
  | none => exact h
  | some d =>
    intro k
    have hlt := hd d rfl
    by_cases hk : k = d
    · subst hk
      simp only [putD, get, Act.put, if_true]
      simpa [hlt] using r
    · simp only [putD, get, Act.put, hk, if_false]
      have := h k
      simpa [Ne.symm hk] using this
theorem FrOK.normed {I η H fr tmps} (h : FrOK I η H fr tmps) (l : List Nat) : FrOK I η H (norm l fr) tmps := by
  intro k
  have key : ∀ l : List Nat, get k (norm l fr) = get k fr ∨ get k (norm l fr) = .dead := by
    intro l
    induction l with
    | nil => exact .inr rfl
    | cons x l ih =>
      simp only [VI.norm, List.map_cons, get]
      by_cases hx : k = x
      · subst hx; simp
      · simp only [hx, if_false]; exact ih
  rcases key l with e | e <;> rw [e]
  · exact h k
  · exact .dead _

theorem relA_undef (I η H) : RelA I η H (.tup []) undef := .tup [] #[] rfl (fun k a h => by simp at h)
end Go.VI
