/- VI, part 21: readings of arguments of any plain type: integers, bools, strings, and slices, arrays and structs of them. -/
import Derived.Test.YtcifhkdbaienjaaVI20
import Derived.WideKeyArgs
import Derived.ChangeArms
import Derived.ChangeReads
import Derived.ChangeMaps5
set_option linter.unusedSimpArgs false
set_option linter.unusedVariables false
namespace Go.VI
open Go.WideShapes Go.ChangeShapes Go.RowKit

/-- the type of one cell -/
inductive Cty where
  | bool | int (k : IntKind) | str | sl (e : TypeId)
def ctys (P : Program) : Nat → TypeId → Option (List Cty)
  | 0, _ => none
  | d + 1, t => match P.underlying t with
    | some .bool => some [.bool]
    | some (.int k) => some [.int k]
    | some .string => some [.str]
    | some (.slice e) => match ctys P d e with
      | some (_ :: _) => some [.sl e]
      | _ => none
    | some (.array n e) => (ctys P d e).map fun l => (List.replicate n l).flatten
    | some (.struct fs) => (fs.toList.mapM fun f => ctys P d f.type).map List.flatten
    | _ => none

/-- what one cell holds -/
inductive Sh (P : Program) : Cty → IV → Prop
  | bool (b : Bool) : Sh P .bool (.v (.bool b))
  | int (k : IntKind) (n : Int) (h : (Lit.int k n).wf = true) : Sh P (.int k) (.v (.int k n))
  | str (l : List UInt8) (h : l.length ≤ maxLen) : Sh P .str (.str l)
  | sl (e : TypeId) (d : Nat) (cs : List Cty) (rows : List (List IV)) (hc : ctys P d e = some cs) (hl : rows.length ≤ maxLen)
      (h1 : ∀ (i : Nat) (r : List IV), rows[i]? = some r → r.length = cs.length)
      (h2 : ∀ (i : Nat) (r : List IV) (k : Nat) (c : Cty) (x : IV), rows[i]? = some r → cs[k]? = some c → r[k]? = some x → Sh P c x) : Sh P (.sl e) (.sl (P.cellsOf e) rows false)

/-- cells, their types and what they stand for, one by one -/
def Gd (P : Program) (I : Imm) : List Value → List Cty → List IV → Prop
  | [], [], [] => True
  | v :: vs, c :: cs, a :: l => RelI I a v ∧ Sh P c a ∧ Gd P I vs cs l
  | _, _, _ => False
theorem Gd.append {P : Program} {I : Imm} : ∀ {vs cs l vs' cs' l'}, Gd P I vs cs l → Gd P I vs' cs' l' → Gd P I (vs ++ vs') (cs ++ cs') (l ++ l')
  | [], [], [], _, _, _, _, h' => h'
  | v :: vs, c :: cs, a :: l, _, _, _, h, h' => ⟨h.1, h.2.1, Gd.append h.2.2 h'⟩
  | [], _ :: _, _, _, _, _, h, _ => h.elim
  | [], [], _ :: _, _, _, _, h, _ => h.elim
  | _ :: _, [], _, _, _, _, h, _ => h.elim
  | _ :: _, _ :: _, [], _, _, _, h, _ => h.elim
theorem Gd.len {P : Program} {I : Imm} : ∀ {vs cs l}, Gd P I vs cs l → vs.length = l.length ∧ cs.length = l.length
  | [], [], [], _ => ⟨rfl, rfl⟩
  | v :: vs, c :: cs, a :: l, h => by have := Gd.len h.2.2; simp [this.1, this.2]
  | [], _ :: _, _, h => h.elim
  | [], [], _ :: _, h => h.elim
  | _ :: _, [], _, h => h.elim
  | _ :: _, _ :: _, [], h => h.elim
theorem Gd.at {P : Program} {I : Imm} : ∀ {vs cs l}, Gd P I vs cs l → ∀ (k : Nat) (a : IV), l[k]? = some a → ∃ v c, vs[k]? = some v ∧ cs[k]? = some c ∧ RelI I a v ∧ Sh P c a
  | [], [], [], _, k, a, ha => by simp at ha
  | v :: vs, c :: cs, b :: l, h, 0, a, ha => by simp at ha; subst ha; exact ⟨v, c, rfl, rfl, h.1, h.2.1⟩
  | v :: vs, c :: cs, b :: l, h, k + 1, a, ha => Gd.at h.2.2 k a (by simpa using ha)
  | [], _ :: _, _, h, _, _, _ => h.elim
  | [], [], _ :: _, h, _, _, _ => h.elim
  | _ :: _, [], _, h, _, _, _ => h.elim
  | _ :: _, _ :: _, [], h, _, _, _ => h.elim

theorem ctys_succ {P : Program} : ∀ (d : Nat) (t : TypeId) (l : List Cty), ctys P d t = some l → ctys P (d + 1) t = some l := by
  intro d
  induction d with
  | zero => intro t l h; cases h
  | succ d ih =>
    intro t l h
    rw [ctys] at h ⊢
    split at h
    · exact h
    · exact h
    · exact h
    · rename_i e _
      split at h
      · rename_i c r hc
        rw [ih _ _ hc]; exact h
      · cases h
    · rename_i n e _
      cases hc : ctys P d e with
      | none => rw [hc] at h; cases h
      | some l' => rw [hc] at h; rw [ih _ _ hc]; exact h
    · rename_i fs _
      cases hc : fs.toList.mapM (fun f => ctys P d f.type) with
      | none => rw [hc] at h; cases h
      | some l' =>
        rw [hc] at h
        rw [mapM_carry hc (fun f y _ _ hy => ih _ _ hy)]; exact h
    · cases h
theorem ctys_le {P : Program} {d d' : Nat} (hd : d ≤ d') {t : TypeId} {l : List Cty} (h : ctys P d t = some l) : ctys P d' t = some l := by
  induction hd with
  | refl => exact h
  | step _ ih => exact ctys_succ _ _ _ ih
theorem ctys_det {P : Program} {d d' : Nat} {t : TypeId} {l l' : List Cty} (h : ctys P d t = some l) (h' : ctys P d' t = some l') : l = l' := by
  have h1 := ctys_le (Nat.le_max_left d d') h
  have h2 := ctys_le (Nat.le_max_right d d') h'
  exact Option.some.inj (h1.symm.trans h2)

section
variable {Hh : Type} {enc : TypeId × Value → Hh} {P : Program} {W : World} {sp : Nat → Bool} {held : Bool}

theorem trod_array {t e : TypeId} {m fuel : Nat} {cs : List Value} {x : DataW Hh × List MemPlace} (ht : P.underlying t = some (.array m e)) (h : DataW.trod enc P W 0 sp held fuel t cs = some x) :
    ∃ n, fuel = n + 1 ∧ cs.length = P.cellsOf t ∧ ∀ i, i < m → ∃ y, DataW.trod enc P W 0 sp held n e ((cs.drop (i * P.cellsOf e)).take (P.cellsOf e)) = some y := by
  cases fuel with
  | zero => simp [DataW.trod] at h
  | succ n =>
    unfold DataW.trod at h
    rw [ht] at h
    split at h <;> simp_all
    obtain ⟨hl, xs, hp, hd⟩ := h
    intro i hi
    have h1 := mapM_some_get hp i i (by simp [List.getElem?_range, hi])
    have h2 := mapM_some_length hp
    rw [List.length_range] at h2
    have h3 : i < xs.length := by omega
    rw [h1, List.getElem?_eq_getElem h3]
    exact ⟨xs[i].1, xs[i].2, rfl⟩

theorem cells_at {a : Addr} {n : Nat} {cs : List Value} (h : W.cells? 0 a n = some cs) : cs.length = n ∧ ∀ i, i < n → W.cell? (a.add i) = cs[i]? := by
  unfold World.cells? at h
  rw [if_pos (Nat.zero_le _)] at h
  have h2 := mapM_some_length h
  exact ⟨by simpa using h2, fun i hi => mapM_some_get h i i (by simp [hi])⟩

theorem read_fields {n : Nat} (rd : ∀ (d : Nat) (t : TypeId) (cs : List Value) (x : DataW Hh × List MemPlace) (cts : List Cty), t < P.types.size → ctys P d t = some cts → DataW.trod enc P W 0 sp held n t cs = some x → ∃ l, Gd P (imm0 W) cs cts l) (d : Nat) :
    ∀ (fl : List Field) (cl : List (List Cty)) (cs : List Value), fl.mapM (fun f => ctys P d f.type) = some cl → (∀ f ∈ fl, f.type < P.types.size) → cs.length = (fl.map fun f => P.cellsOf f.type).sum →
      (∀ (j : Nat) f, fl[j]? = some f → ∃ x, DataW.trod enc P W 0 sp held n f.type ((cs.drop ((fl.take j).map fun f => P.cellsOf f.type).sum).take (P.cellsOf f.type)) = some x) →
      ∃ l, Gd P (imm0 W) cs cl.flatten l := by
  intro fl
  induction fl with
  | nil =>
    intro cl cs h _ hlen _
    simp at h hlen
    subst h
    obtain rfl : cs = [] := hlen
    exact ⟨[], trivial⟩
  | cons f fl ih =>
    intro cl cs h hty hlen hx
    rw [List.mapM_cons] at h
    cases h1 : ctys P d f.type with
    | none => rw [h1] at h; cases h
    | some c1 =>
      cases h2 : fl.mapM (fun f => ctys P d f.type) with
      | none => rw [h1, h2] at h; cases h
      | some c2 =>
        rw [h1, h2] at h
        have h' : some (c1 :: c2) = some cl := h
        cases h'
        obtain ⟨x, hx0⟩ := hx 0 f rfl
        simp only [List.take_zero, List.map_nil, List.sum_nil, List.drop_zero] at hx0
        obtain ⟨l1, g1⟩ := rd d f.type _ x c1 (hty f (by simp)) h1 hx0
        simp only [List.map_cons, List.sum_cons] at hlen
        obtain ⟨l2, g2⟩ := ih c2 (cs.drop (P.cellsOf f.type)) h2 (fun g hg => hty g (by simp [hg])) (by rw [List.length_drop]; omega) (fun j g hg => by
          obtain ⟨y, hy⟩ := hx (j + 1) g (by simpa using hg)
          simp only [List.take_succ_cons, List.map_cons, List.sum_cons] at hy
          exact ⟨y, by rw [List.drop_drop]; exact hy⟩)
        refine ⟨l1 ++ l2, ?_⟩
        have := g1.append g2
        rw [List.take_append_drop] at this
        simpa using this

theorem read_array {n : Nat} {e : TypeId} {c1 : List Cty} (rd : ∀ (cs : List Value) (x : DataW Hh × List MemPlace), DataW.trod enc P W 0 sp held n e cs = some x → ∃ l, Gd P (imm0 W) cs c1 l) :
    ∀ (m : Nat) (cs : List Value), cs.length = m * P.cellsOf e → (∀ i, i < m → ∃ y, DataW.trod enc P W 0 sp held n e ((cs.drop (i * P.cellsOf e)).take (P.cellsOf e)) = some y) → ∃ l, Gd P (imm0 W) cs (List.replicate m c1).flatten l := by
  intro m
  induction m with
  | zero =>
    intro cs hlen _
    obtain rfl : cs = [] := by simpa using hlen
    exact ⟨[], trivial⟩
  | succ m ih =>
    intro cs hlen hx
    obtain ⟨x, hx0⟩ := hx 0 (by omega)
    simp only [Nat.zero_mul, List.drop_zero] at hx0
    obtain ⟨l1, g1⟩ := rd _ x hx0
    rw [Nat.succ_mul] at hlen
    obtain ⟨l2, g2⟩ := ih (cs.drop (P.cellsOf e)) (by rw [List.length_drop]; omega) (fun i hi => by
      obtain ⟨y, hy⟩ := hx (i + 1) (by omega)
      rw [Nat.succ_mul, Nat.add_comm] at hy
      exact ⟨y, by rw [List.drop_drop]; exact hy⟩)
    refine ⟨l1 ++ l2, ?_⟩
    have := g1.append g2
    rw [List.take_append_drop] at this
    simpa [List.replicate_succ] using this

theorem read_cells (hl : laidOutB P = true) : ∀ (n d : Nat) (t : TypeId) (cs : List Value) (x : DataW Hh × List MemPlace) (cts : List Cty), t < P.types.size → ctys P d t = some cts →
    DataW.trod enc P W 0 sp held n t cs = some x → ∃ l, Gd P (imm0 W) cs cts l := by
  intro n
  induction n with
  | zero => intro d t cs x cts _ _ h; simp [DataW.trod] at h
  | succ n ih =>
    intro d t cs x cts ht hc h
    cases d with
    | zero => cases hc
    | succ d =>
      rw [ctys] at hc
      split at hc
      · rename_i hu
        cases hc
        obtain ⟨b, rfl, rfl⟩ := DataW.trod_bool hu h
        exact ⟨[.v (.bool b)], .v _ rfl, .bool b, trivial⟩
      · rename_i k hu
        cases hc
        obtain ⟨z, rfl, rfl, hw⟩ := DataW.trod_int hu h
        exact ⟨[.v (.int k z)], .v _ rfl, .int k z hw, trivial⟩
      · rename_i hu
        cases hc
        obtain ⟨s, rfl, rfl, hw⟩ := DataW.trod_string hu h
        exact ⟨[.str s.data.toList], .str _, .str _ (by simpa using hw), trivial⟩
      · rename_i e hu
        split at hc
        · rename_i c0 c1 he
          cases hc
          rcases DataW.trod_slice hu h with ⟨rfl, _⟩ | ⟨a, len, cap, elems, rest, n', hn, rfl, _, _, hlc, hm, hel, hat, _, _⟩
          · exact ⟨[.sl (P.cellsOf e) [] false], .nil _ _ _ _ (fun h => by cases h), .sl e d _ [] he (Nat.zero_le _) (fun i r h => by simp at h) (fun i r k c x h => by simp at h), trivial⟩
          · cases hn
            have he' : e < P.types.size := (kid_slice hl ht hu)
            have hex : ∀ i, ∃ l, i < len → ∃ cs', W.cells? 0 (a.add (i * P.cellsOf e)) (P.cellsOf e) = some cs' ∧ Gd P (imm0 W) cs' (c0 :: c1) l := by
              intro i
              by_cases hi : i < len
              · have h1 := hat i hi
                have h2 : elems[i]? = some elems[i] := List.getElem?_eq_getElem (by omega)
                rw [h2, Option.bind_eq_some_iff] at h1
                obtain ⟨cs', h3, h4⟩ := h1
                obtain ⟨l, hg⟩ := ih d e cs' _ _ he' he h4
                exact ⟨l, fun _ => ⟨cs', h3, hg⟩⟩
              · exact ⟨[], fun h => absurd h hi⟩
            obtain ⟨f, hf⟩ := Classical.skolem.1 hex
            have hrow : ∀ i r, ((List.range len).map f)[i]? = some r → i < len ∧ r = f i := by
              intro i r hr
              simp only [List.getElem?_map, Option.map_eq_some_iff, List.getElem?_range] at hr
              obtain ⟨j, hj, rfl⟩ := hr
              rw [List.getElem?_eq_some_iff] at hj
              obtain ⟨h1, h2⟩ := hj
              simp at h1 h2
              subst h2
              exact ⟨h1, rfl⟩
            have hsh : Sh P (.sl e) (.sl (P.cellsOf e) ((List.range len).map f) false) := by
              refine .sl e d _ _ he (by simp; omega) (fun i r hr => ?_) (fun i r k c y hr hc hy => ?_)
              · obtain ⟨hi, rfl⟩ := hrow i r hr
                obtain ⟨cs', _, hg⟩ := hf i hi
                exact hg.len.2.symm
              · obtain ⟨hi, rfl⟩ := hrow i r hr
                obtain ⟨cs', _, hg⟩ := hf i hi
                obtain ⟨v, c', _, h2, _, h4⟩ := hg.at k y hy
                rw [hc] at h2; cases h2; exact h4
            refine ⟨[.sl (P.cellsOf e) ((List.range len).map f) false], ?_, hsh, trivial⟩
            by_cases h0 : len = 0
            · subst h0
              exact .nil _ _ _ cap (fun h => by cases h)
            · obtain ⟨cs0, hc0, hg0⟩ := hf 0 (by omega)
              have hz : 0 < P.cellsOf e := by
                have := (cells_at hc0).1
                have h2 := hg0.len
                simp at h2
                omega
              have hcell := (cells_at hc0).2 0 hz
              have hlen0 := (cells_at hc0).1
              obtain ⟨b, off, spot⟩ := a
              have hne : cs0[0]? = some cs0[0] := List.getElem?_eq_getElem (by omega)
              rw [hne] at hcell
              unfold World.cell? at hcell
              split at hcell
              · rename_i cs el fz hbk
                split at hcell
                · cases hcell
                · rename_i hsp
                  have hspot : spot = none := by cases spot with | none => rfl | some _ => simp [Addr.add] at hsp
                  subst hspot
                  have ha : ∀ o i, Addr.add ⟨b, o, none⟩ i = ⟨b, o + i, none⟩ := by intro o i; unfold Addr.add; split <;> simp_all
                  simp only [ha] at hbk
                  have hcv : ∀ i, i < len → ∀ k, k < P.cellsOf e → ∀ cs', W.cells? 0 (Addr.add ⟨b, off, none⟩ (i * P.cellsOf e)) (P.cellsOf e) = some cs' → cs[off + i * P.cellsOf e + k]? = cs'[k]? := by
                    intro i hi k hk cs' hc'
                    have := (cells_at hc').2 k hk
                    simp only [ha] at this
                    unfold World.cell? at this
                    simp only [hbk] at this
                    simpa using this
                  have key := RelI.sl (I := imm0 W) (P.cellsOf e) ((List.range len).map f) false b off cap cs el fz (fun i k => (cs[off + i * P.cellsOf e + k]?).getD undef) hbk (by simp; omega) (fun h => by cases h)
                    (fun i r hr => by
                      obtain ⟨hi, rfl⟩ := hrow i r hr
                      obtain ⟨cs', h1, hg⟩ := hf i hi
                      rw [← hg.len.1]; exact (cells_at h1).1)
                    (fun i r k y hr hy => by
                      obtain ⟨hi, rfl⟩ := hrow i r hr
                      obtain ⟨cs', h1, hg⟩ := hf i hi
                      obtain ⟨v, c', h2, _, _, _⟩ := hg.at k y hy
                      have hk : k < P.cellsOf e := by rw [← (cells_at h1).1]; exact (List.getElem?_eq_some_iff.1 h2).1
                      rw [hcv i hi k hk cs' h1, h2]; rfl)
                    (fun i r k y hr hy => by
                      obtain ⟨hi, rfl⟩ := hrow i r hr
                      obtain ⟨cs', h1, hg⟩ := hf i hi
                      obtain ⟨v, c', h2, _, h3, _⟩ := hg.at k y hy
                      have hk : k < P.cellsOf e := by rw [← (cells_at h1).1]; exact (List.getElem?_eq_some_iff.1 h2).1
                      rw [hcv i hi k hk cs' h1, h2]; exact h3)
                  have hl' : ((List.range len).map f).length = len := by simp
                  rw [hl'] at key
                  exact key
              · cases hcell
        · cases hc
      · rename_i m e hu
        cases hc1 : ctys P d e with
        | none => rw [hc1] at hc; cases hc
        | some c1 =>
          rw [hc1] at hc
          have hc' : some (List.replicate m c1).flatten = some cts := hc
          cases hc'
          obtain ⟨n', hn, hlen, hx⟩ := trod_array hu h
          cases hn
          obtain ⟨k1, k2⟩ := kid_array hl ht hu
          exact read_array (fun cs x hx => ih d e cs x c1 k1 hc1 hx) m cs (by rw [hlen, k2]) hx
      · rename_i fs hu
        cases hc1 : fs.toList.mapM (fun f => ctys P d f.type) with
        | none => rw [hc1] at hc; cases hc
        | some c1 =>
          rw [hc1] at hc
          have hc' : some c1.flatten = some cts := hc
          cases hc'
          obtain ⟨xs, n', hn, _, hlen, hxl, hx⟩ := DataW.trod_struct hu h
          cases hn
          obtain ⟨k1, k2, k3⟩ := kid_struct hl ht hu
          refine read_fields (fun d t cs x cts => ih d t cs x cts) d fs.toList c1 cs hc1 k1 (by rw [hlen, k2]) (fun j f hf => ?_)
          have h1 := hx j f (by simpa using hf)
          have hj : j < xs.length := by
            have := (List.getElem?_eq_some_iff.1 hf).1
            simp at this; omega
          rw [k3 j f hf, List.getElem?_eq_getElem hj] at h1
          exact ⟨_, h1⟩
      · cases hc

/-- an argument opened: its cells stand for shaped data; and it reads the same behind the call -/
theorem relA_row {I : Imm} {η : Eta} {H : Hp} {cs : Array Value} {cts : List Cty} {l : List IV} (h : Gd P I cs.toList cts l) : RelA I η H (.agg (l.map .i)) (.agg cs) := by
  have hl := h.len.1
  refine .agg _ cs (by simpa using hl) (fun k a ha => ?_)
  simp only [List.getElem?_map, Option.map_eq_some_iff] at ha
  obtain ⟨x, hx, rfl⟩ := ha
  obtain ⟨v, c, h1, _, h3, _⟩ := h.at k x hx
  have : cs[k]? = some v := by simpa using h1
  rw [Array.getD_eq_getD_getElem?, this]
  exact .i _ _ h3
theorem read_arg (hl : laidOutB P = true) {t : TypeId} {v : Value} {d : DataW Hh} {ps : List MemPlace} {cts : List Cty} (D : Nat) (ht : t < P.types.size) (hc : ctys P D t = some cts)
    (hd : DataW.Trod enc P W 0 sp held t v d ps) : ∃ l, Gd P (imm0 W) v.cells.toList cts l := by
  obtain ⟨n, hn⟩ := hd
  exact read_cells hl n D t _ _ _ ht hc hn
theorem stays (hl : laidOutB P = true) {t : TypeId} {v : Value} {d : DataW Hh} {ps : List MemPlace} {W' : World} (hr : P.readableRec t = true) (ht : t < P.types.size)
    (hd : DataW.Trod enc P W 0 (fun _ => true) true t v d ps) (ho : Old W W') (hps : ∀ p ∈ ps, p.block < W.heap.size) (sp' : Nat → Bool) (hs : ∀ p ∈ ps, sp' p.block = true) : DataW.Trod enc P W' 0 sp' true t v d ps :=
  WideElems.Trod_stays hl hr ht hd (fun p hp => by
    have := ho.heap _ (hps p hp)
    cases p with
    | cell b off => simp only [World.sameAt, World.cell?, MemPlace.block] at this ⊢; rw [this]
    | map b => exact this) hs

def ShL (P : Program) : List Cty → List IV → Prop
  | [], [] => True
  | c :: cs, a :: l => Sh P c a ∧ ShL P cs l
  | _, _ => False
theorem Gd.sh {P : Program} {I : Imm} : ∀ {vs cs l}, Gd P I vs cs l → ShL P cs l
  | [], [], [], _ => trivial
  | v :: vs, c :: cs, a :: l, h => ⟨h.2.1, Gd.sh h.2.2⟩
  | [], _ :: _, _, h => h.elim
  | [], [], _ :: _, h => h.elim
  | _ :: _, [], _, h => h.elim
  | _ :: _, _ :: _, [], h => h.elim
theorem ShL.nil {l : List IV} (h : ShL P [] l) : l = [] := by cases l with | nil => rfl | cons a l => exact h.elim
theorem ShL.cons {c : Cty} {cs : List Cty} {l : List IV} (h : ShL P (c :: cs) l) : ∃ a l', l = a :: l' ∧ Sh P c a ∧ ShL P cs l' := by
  cases l with | nil => exact h.elim | cons a l => exact ⟨a, l, rfl, h.1, h.2⟩
theorem Sh.of_bool {a : IV} (h : Sh P .bool a) : ∃ b, a = .v (.bool b) := by cases h; exact ⟨_, rfl⟩
theorem Sh.of_int {a : IV} {k : IntKind} (h : Sh P (.int k) a) : ∃ n, a = .v (.int k n) ∧ (Lit.int k n).wf = true := by cases h; exact ⟨_, rfl, by assumption⟩
theorem Sh.of_str {a : IV} (h : Sh P .str a) : ∃ s, a = .str s ∧ s.length ≤ maxLen := by cases h; exact ⟨_, rfl, by assumption⟩
theorem shL_at : ∀ {cs : List Cty} {l : List IV}, l.length = cs.length → (∀ (k : Nat) (c : Cty) (x : IV), cs[k]? = some c → l[k]? = some x → Sh P c x) → ShL P cs l
  | [], [], _, _ => trivial
  | c :: cs, a :: l, hl, h => ⟨h 0 c a rfl rfl, shL_at (by simpa using hl) fun k c x hc hx => h (k + 1) c x (by simpa using hc) (by simpa using hx)⟩
  | [], _ :: _, hl, _ => by simp at hl
  | _ :: _, [], hl, _ => by simp at hl
theorem Sh.of_sl {a : IV} {e : TypeId} (h : Sh P (.sl e) a) {D : Nat} {cs : List Cty} (hc : ctys P D e = some cs) : ∃ rows, a = .sl (P.cellsOf e) rows false ∧ rows.length ≤ maxLen ∧ ∀ r ∈ rows, ShL P cs r := by
  cases h with
  | sl e d cs' rows hc' hl h1 h2 =>
    cases ctys_det hc hc'
    refine ⟨rows, rfl, hl, fun r hr => ?_⟩
    obtain ⟨i, hi⟩ := List.getElem?_of_mem hr
    exact shL_at (h1 i r hi) fun k c x hc hx => h2 i r k c x hi hc hx
theorem ShL.bool {cs : List Cty} {l : List IV} (h : ShL P (.bool :: cs) l) : ∃ b l', l = .v (.bool b) :: l' ∧ ShL P cs l' := by
  obtain ⟨a, l', rfl, h1, h2⟩ := h.cons
  obtain ⟨b, rfl⟩ := h1.of_bool
  exact ⟨b, l', rfl, h2⟩
theorem ShL.int {k : IntKind} {cs : List Cty} {l : List IV} (h : ShL P (.int k :: cs) l) : ∃ n l', l = .v (.int k n) :: l' ∧ (Lit.int k n).wf = true ∧ ShL P cs l' := by
  obtain ⟨a, l', rfl, h1, h2⟩ := h.cons
  obtain ⟨n, rfl, hn⟩ := h1.of_int
  exact ⟨n, l', rfl, hn, h2⟩
theorem ShL.str {cs : List Cty} {l : List IV} (h : ShL P (.str :: cs) l) : ∃ s l', l = .str s :: l' ∧ s.length ≤ maxLen ∧ ShL P cs l' := by
  obtain ⟨a, l', rfl, h1, h2⟩ := h.cons
  obtain ⟨s, rfl, hn⟩ := h1.of_str
  exact ⟨s, l', rfl, hn, h2⟩
theorem ShL.sl {e : TypeId} {cs : List Cty} {l : List IV} (h : ShL P (.sl e :: cs) l) {D : Nat} {cs' : List Cty} (hc : ctys P D e = some cs') :
    ∃ rows l', l = .sl (P.cellsOf e) rows false :: l' ∧ rows.length ≤ maxLen ∧ (∀ r ∈ rows, ShL P cs' r) ∧ ShL P cs l' := by
  obtain ⟨a, l', rfl, h1, h2⟩ := h.cons
  obtain ⟨rows, rfl, hn, hr⟩ := h1.of_sl hc
  exact ⟨rows, l', rfl, hn, hr, h2⟩
/-- rows of one form are the images of a list -/
theorem rows_map {α : Type} (f : α → List IV) (p : α → Prop) : ∀ {rows : List (List IV)}, (∀ r ∈ rows, ∃ a, r = f a ∧ p a) → ∃ l : List α, rows = l.map f ∧ ∀ a ∈ l, p a
  | [], _ => ⟨[], rfl, fun a h => by simp at h⟩
  | r :: rows, h => by
    obtain ⟨a, rfl, ha⟩ := h r (by simp)
    obtain ⟨l, rfl, hl⟩ := rows_map f p (rows := rows) fun r hr => h r (by simp [hr])
    exact ⟨a :: l, rfl, by simpa using ⟨ha, hl⟩⟩

variable {r : Reach} {b0 : Nat} {t : TypeId} {v : Value} {d : DataW Hh} {ps : List MemPlace}
theorem read_int {k : IntKind} (hu : P.underlying t = some (.int k)) (hval : Value.okWide P W r b0 t v) (hd : DataW.Trod enc P W 0 sp held t v d ps) :
    ∃ n, RelA (imm0 W) eta0 [] (.i (.v (.int k n))) v ∧ (Lit.int k n).wf = true := by
  obtain ⟨n, rfl, _, _, hw⟩ := open_int hu hval hd
  exact ⟨n, .i _ _ (.v _ rfl), hw⟩
theorem read_sl (hl : laidOutB P = true) {e : TypeId} {D : Nat} {cs : List Cty} (ht : t < P.types.size) (hu : P.underlying t = some (.slice e)) (hc : ctys P D e = some cs) (hct : ctys P (D + 1) t = some [.sl e]) (hval : Value.okWide P W r b0 t v) (hd : DataW.Trod enc P W 0 sp held t v d ps) :
    ∃ rows, RelA (imm0 W) eta0 [] (.i (.sl (P.cellsOf e) rows false)) v ∧ rows.length ≤ maxLen ∧ ∀ r ∈ rows, ShL P cs r := by
  obtain ⟨l, hg⟩ := read_arg hl (D + 1) ht hct hd
  obtain ⟨a, len, cap, rfl⟩ := okWide_slice hu hval
  obtain ⟨rows, l', rfl, h1, h2, h3⟩ := hg.sh.sl hc
  have := hg.1
  exact ⟨rows, .i _ _ this, h1, h2⟩
theorem read_agg (hl : laidOutB P = true) {D : Nat} {cs : List Cty} (ht : t < P.types.size) (hu : (P.underlying t).map (fun | .struct _ => true | .array _ _ => true | _ => false) = some true) (hc : ctys P D t = some cs) (hval : Value.okWide P W r b0 t v) (hd : DataW.Trod enc P W 0 sp held t v d ps) :
    ∃ l : List IV, RelA (imm0 W) eta0 [] (.agg (l.map .i)) v ∧ ShL P cs l := by
  obtain ⟨l, hg⟩ := read_arg hl D ht hc hd
  have hv : ∃ cs, v = .agg cs := by
    unfold Value.okWide at hval
    split at hval
    · obtain ⟨cs, h, _⟩ := hval; exact ⟨cs, h⟩
    · obtain ⟨cs, h, _⟩ := hval; exact ⟨cs, h⟩
    · rename_i h1 h2
      cases hh : P.underlying t with
      | none => rw [hh] at hu; cases hu
      | some x =>
        rw [hh] at hu
        cases x <;> simp at hu
        · exact absurd hh (h2 _ _)
        · exact absurd hh (h1 _)
  obtain ⟨vs, rfl⟩ := hv
  exact ⟨l, relA_row hg, hg.sh⟩
theorem read_str (hu : P.underlying t = some .string) (hval : Value.okWide P W r b0 t v) (hd : DataW.Trod enc P W 0 sp held t v d ps) :
    ∃ s, RelA (imm0 W) eta0 [] (.i (.str s)) v ∧ s.length ≤ maxLen := by
  obtain ⟨s, rfl, _, _, h3⟩ := Go.ChangeMaps.open_string hu hval hd
  exact ⟨s.data.toList, .i _ _ (.str _), by simpa using h3⟩
theorem read_bool (hu : P.underlying t = some .bool) (hval : Value.okWide P W r b0 t v) (hd : DataW.Trod enc P W 0 sp held t v d ps) :
    ∃ b, RelA (imm0 W) eta0 [] (.i (.v (.bool b))) v := by
  obtain ⟨b, rfl, _⟩ := open_bool hu hval hd
  exact ⟨b, .i _ _ (.v _ rfl)⟩
end

/-! how long what came in is at most -/
def dlen {Hh : Type} : DataW Hh → Nat
  | .slice a b => a.length + b.length
  | _ => 0
section
variable {Hh : Type} {enc : TypeId × Value → Hh} {P : Program} {W : World} {sp : Nat → Bool} {held : Bool}
theorem sl_dlen {t e : TypeId} {v : Value} {d : DataW Hh} {ps : List MemPlace} {I : Imm} {η : Eta} {H : Hp} {z : Nat} {rows : List (List IV)} {ex : Bool} (hu : P.underlying t = some (.slice e)) (hd : DataW.Trod enc P W 0 sp held t v d ps)
    (hr : RelA I η H (.i (.sl z rows ex)) v) : rows.length ≤ dlen d := by
  obtain ⟨n, hn⟩ := hd
  cases hr with
  | i x v h =>
    rcases DataW.trod_slice hu hn with ⟨hv, hx⟩ | ⟨a, len, cap, elems, rest, n', _, hv, hx, _, _, _, hel, _⟩
    · cases h with
      | nil => exact Nat.zero_le _
      | sl sz rows ex b off cap cs elem fz cv hI hc hx' hr' h1 h2 => simp [Value.cells] at hv
    · cases h with
      | nil => exact Nat.zero_le _
      | sl sz rows ex b off cap' cs elem fz cv hI hc hx' hr' h1 h2 =>
        simp [Value.cells] at hv
        simp only [Prod.mk.injEq] at hx
        rw [hx.1]
        simp only [dlen, List.length_map]
        omega
theorem weight_at {t e : TypeId} : ∀ {ts : List TypeId} {ds : List (DataW Hh)} (j : Nat) {d : DataW Hh}, (DataW.weightsEach P ts ds).all (· ≤ reachBytes) = true → ts[j]? = some t → ds[j]? = some d → P.underlying t = some (.slice e) → dlen d * P.bytesOf e ≤ reachBytes
  | [], _, j, d, _, ht, _, _ => by simp at ht
  | _ :: _, [], j, d, _, _, hd, _ => by simp at hd
  | t' :: ts, d' :: ds, 0, d, h, ht, hd, hu => by
    simp at ht hd
    subst ht; subst hd
    simp only [DataW.weightsEach, List.all_append, Bool.and_eq_true] at h
    cases d' with
    | slice a b =>
      have h1 := h.1
      simp only [DataW.weights, hu, List.all_cons, Bool.and_eq_true, decide_eq_true_eq] at h1
      exact h1.1
    | _ => simp [dlen]
  | t' :: ts, d' :: ds, j + 1, d, h, ht, hd, hu => by
    simp only [DataW.weightsEach, List.all_append, Bool.and_eq_true] at h
    exact weight_at j h.2 (by simpa using ht) (by simpa using hd) hu
end

/-! the ranges of integers -/
theorem rng_i8 {n : Int} (h : (Lit.int .i8 n).wf = true) : -128 ≤ n ∧ n ≤ 127 := by
  simp only [Lit.wf, Bool.and_eq_true, IntKind.min, IntKind.max, IntKind.signed, IntKind.bits] at h
  simp at h
  omega
theorem rng_u8 {n : Int} (h : (Lit.int .u8 n).wf = true) : 0 ≤ n ∧ n ≤ 255 := by
  simp only [Lit.wf, Bool.and_eq_true, IntKind.min, IntKind.max, IntKind.signed, IntKind.bits] at h
  simp at h
  omega
theorem rng_i16 {n : Int} (h : (Lit.int .i16 n).wf = true) : -32768 ≤ n ∧ n ≤ 32767 := by
  simp only [Lit.wf, Bool.and_eq_true, IntKind.min, IntKind.max, IntKind.signed, IntKind.bits] at h
  simp at h
  omega
theorem rng_u16 {n : Int} (h : (Lit.int .u16 n).wf = true) : 0 ≤ n ∧ n ≤ 65535 := by
  simp only [Lit.wf, Bool.and_eq_true, IntKind.min, IntKind.max, IntKind.signed, IntKind.bits] at h
  simp at h
  omega
theorem rng_i32 {n : Int} (h : (Lit.int .i32 n).wf = true) : -2147483648 ≤ n ∧ n ≤ 2147483647 := by
  simp only [Lit.wf, Bool.and_eq_true, IntKind.min, IntKind.max, IntKind.signed, IntKind.bits] at h
  simp at h
  omega
theorem rng_u32 {n : Int} (h : (Lit.int .u32 n).wf = true) : 0 ≤ n ∧ n ≤ 4294967295 := by
  simp only [Lit.wf, Bool.and_eq_true, IntKind.min, IntKind.max, IntKind.signed, IntKind.bits] at h
  simp at h
  omega
theorem rng_i64 {n : Int} (h : (Lit.int .i64 n).wf = true) : -9223372036854775808 ≤ n ∧ n ≤ 9223372036854775807 := by
  simp only [Lit.wf, Bool.and_eq_true, IntKind.min, IntKind.max, IntKind.signed, IntKind.bits] at h
  simp at h
  omega
theorem rng_u64 {n : Int} (h : (Lit.int .u64 n).wf = true) : 0 ≤ n ∧ n ≤ 18446744073709551615 := by
  simp only [Lit.wf, Bool.and_eq_true, IntKind.min, IntKind.max, IntKind.signed, IntKind.bits] at h
  simp at h
  omega
end Go.VI
