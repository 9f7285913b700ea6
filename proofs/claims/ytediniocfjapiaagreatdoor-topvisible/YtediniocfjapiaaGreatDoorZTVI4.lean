import Derived.ChangeSlices
import Derived.WideShapes
import Derived.RowKit
import Derived.WideKeyArgs
import Derived.ChangeArms
import Derived.ChangeReads
import Derived.ChangeMaps5
import Derived.Lib.Bytealg
import Derived.Lib.ItoaNum
import Derived.Lib.SlTrimSet
import Derived.Test.YtediniocfjapiaaGreatDoorZTVI3
set_option linter.unusedSimpArgs false
set_option linter.unusedVariables false
set_option linter.unusedSimpArgs false
set_option linter.unusedVariables false
namespace Go.VI
open Go.WideShapes Go.ChangeShapes Go.RowKit
section
variable {Hh : Type} {enc : TypeId × Value → Hh} {P : Program} {W : World}

end
end Go.VI

set_option linter.unusedSimpArgs false
set_option linter.unusedVariables false
namespace Go.VI
open Go.WideShapes Go.ChangeShapes Go.RowKit

inductive Cty where
 | bool | int (k : IntKind) | str | sl (e : TypeId)
def ctys (P : Program) : Nat → TypeId → Option (List Cty)
 | 0, _ => none
 | d + 1, t => match P.underlying t with
  | some .bool => some [.bool]
  | some (.int k) => some [.int k]
  | some .string => some [.str]
  | some (.slice e) => match ctys P d e with
   | some (_ :: _) => some [.sl e]
   | _ => none
  | some (.array n e) => (ctys P d e).map fun l => (List.replicate n l).flatten
  | some (.struct fs) => (fs.toList.mapM fun f => ctys P d f.type).map List.flatten
  | _ => none

inductive Sh (P : Program) : Cty → IV → Prop
 | bool (b : Bool) : Sh P .bool (.v (.bool b))
 | int (k : IntKind) (n : Int) (h : (Lit.int k n).wf = true) : Sh P (.int k) (.v (.int k n))
 | str (l : List UInt8) (h : l.length ≤ maxLen) : Sh P .str (.str l)
 | sl (e : TypeId) (d : Nat) (cs : List Cty) (rows : List (List IV)) (hc : ctys P d e = some cs) (hl : rows.length ≤ maxLen)
   (h1 : ∀ (i : Nat) (r : List IV), rows[i]? = some r → r.length = cs.length)
   (h2 : ∀ (i : Nat) (r : List IV) (k : Nat) (c : Cty) (x : IV), rows[i]? = some r → cs[k]? = some c → r[k]? = some x → Sh P c x) : Sh P (.sl e) (.sl (P.cellsOf e) rows false)

def Gd (P : Program) (I : Imm) : List Value → List Cty → List IV → Prop
 | [], [], [] => True
 | v :: vs, c :: cs, a :: l => RelI I a v ∧ Sh P c a ∧ Gd P I vs cs l
 | _, _, _ => False
theorem Gd.append {P : Program} {I : Imm} : ∀ {vs cs l vs' cs' l'}, Gd P I vs cs l → Gd P I vs' cs' l' → Gd P I (vs ++ vs') (cs ++ cs') (l ++ l')
 | [], [], [], _, _, _, _, h' => h'
 | v :: vs, c :: cs, a :: l, _, _, _, h, h' => ⟨h.1, h.2.1, Gd.append h.2.2 h'⟩
 | [], _ :: _, _, _, _, _, h, _ => h.elim
 | [], [], _ :: _, _, _, _, h, _ => h.elim
 | _ :: _, [], _, _, _, _, h, _ => h.elim
 | _ :: _, _ :: _, [], _, _, _, h, _ => h.elim
theorem Gd.len {P : Program} {I : Imm} : ∀ {vs cs l}, Gd P I vs cs l → vs.length = l.length ∧ cs.length = l.length
 | [], [], [], _ => ⟨rfl, rfl⟩
 | v :: vs, c :: cs, a :: l, h => by have := Gd.len h.2.2; simp [this.1, this.2]
 | [], _ :: _, _, h => h.elim
 | [], [], _ :: _, h => h.elim
 | _ :: _, [], _, h => h.elim
 | _ :: _, _ :: _, [], h => h.elim
theorem Gd.at {P : Program} {I : Imm} : ∀ {vs cs l}, Gd P I vs cs l → ∀ (k : Nat) (a : IV), l[k]? = some a → ∃ v c, vs[k]? = some v ∧ cs[k]? = some c ∧ RelI I a v ∧ Sh P c a
 | [], [], [], _, k, a, ha => by simp at ha
 | v :: vs, c :: cs, b :: l, h, 0, a, ha => by simp at ha; subst ha; exact ⟨v, c, rfl, rfl, h.1, h.2.1⟩
 | v :: vs, c :: cs, b :: l, h, k + 1, a, ha => Gd.at h.2.2 k a (by simpa using ha)
 | [], _ :: _, _, h, _, _, _ => h.elim
 | [], [], _ :: _, h, _, _, _ => h.elim
 | _ :: _, [], _, h, _, _, _ => h.elim
 | _ :: _, _ :: _, [], h, _, _, _ => h.elim

theorem ctys_succ {P : Program} : ∀ (d : Nat) (t : TypeId) (l : List Cty), ctys P d t = some l → ctys P (d + 1) t = some l := by
 intro d
 induction d with
 | zero => intro t l h; cases h
 | succ d ih =>
  intro t l h
  rw [ctys] at h ⊢
  split at h
  ·exact h
  ·exact h
  ·exact h
  ·rename_i e _
   split at h
   ·rename_i c r hc
    rw [ih _ _ hc]; exact h
   ·cases h
  ·rename_i n e _
   cases hc : ctys P d e with
   | none => rw [hc] at h; cases h
   | some l' => rw [hc] at h; rw [ih _ _ hc]; exact h
  ·rename_i fs _
   cases hc : fs.toList.mapM (fun f => ctys P d f.type) with
   | none => rw [hc] at h; cases h
   | some l' =>
    rw [hc] at h
    rw [mapM_carry hc (fun f y _ _ hy => ih _ _ hy)]; exact h
  ·cases h
theorem ctys_le {P : Program} {d d' : Nat} (hd : d ≤ d') {t : TypeId} {l : List Cty} (h : ctys P d t = some l) : ctys P d' t = some l := by
 induction hd with
 | refl => exact h
 | step _ ih => exact ctys_succ _ _ _ ih
theorem ctys_det {P : Program} {d d' : Nat} {t : TypeId} {l l' : List Cty} (h : ctys P d t = some l) (h' : ctys P d' t = some l') : l = l' := by
 have h1 := ctys_le (Nat.le_max_left d d') h
 have h2 := ctys_le (Nat.le_max_right d d') h'
 exact Option.some.inj (h1.symm.trans h2)

section
variable {Hh : Type} {enc : TypeId × Value → Hh} {P : Program} {W : World} {sp : Nat → Bool} {held : Bool}

theorem stays (hl : laidOutB P = true) {t : TypeId} {v : Value} {d : DataW Hh} {ps : List MemPlace} {W' : World} (hr : P.readableRec t = true) (ht : t < P.types.size)
  (hd : DataW.Trod enc P W 0 (fun _ => true) true t v d ps) (ho : Old W W') (hps : ∀ p ∈ ps, p.block < W.heap.size) (sp' : Nat → Bool) (hs : ∀ p ∈ ps, sp' p.block = true) : DataW.Trod enc P W' 0 sp' true t v d ps :=
 WideElems.Trod_stays hl hr ht hd (fun p hp => by
  have := ho.heap _ (hps p hp)
  cases p with
  | cell b off => simp only [World.sameAt, World.cell?, MemPlace.block] at this ⊢; rw [this]
  | map b => exact this) hs

def ShL (P : Program) : List Cty → List IV → Prop
 | [], [] => True
 | c :: cs, a :: l => Sh P c a ∧ ShL P cs l
 | _, _ => False
theorem ShL.nil {l : List IV} (h : ShL P [] l) : l = [] := by cases l with | nil => rfl | cons a l => exact h.elim
theorem ShL.cons {c : Cty} {cs : List Cty} {l : List IV} (h : ShL P (c :: cs) l) : ∃ a l', l = a :: l' ∧ Sh P c a ∧ ShL P cs l' := by
 cases l with | nil => exact h.elim | cons a l => exact ⟨a, l, rfl, h.1, h.2⟩
theorem Sh.of_bool {a : IV} (h : Sh P .bool a) : ∃ b, a = .v (.bool b) := by cases h; exact ⟨_, rfl⟩
theorem Sh.of_int {a : IV} {k : IntKind} (h : Sh P (.int k) a) : ∃ n, a = .v (.int k n) ∧ (Lit.int k n).wf = true := by cases h; exact ⟨_, rfl, by assumption⟩
theorem Sh.of_str {a : IV} (h : Sh P .str a) : ∃ s, a = .str s ∧ s.length ≤ maxLen := by cases h; exact ⟨_, rfl, by assumption⟩
theorem shL_at : ∀ {cs : List Cty} {l : List IV}, l.length = cs.length → (∀ (k : Nat) (c : Cty) (x : IV), cs[k]? = some c → l[k]? = some x → Sh P c x) → ShL P cs l
 | [], [], _, _ => trivial
 | c :: cs, a :: l, hl, h => ⟨h 0 c a rfl rfl, shL_at (by simpa using hl) fun k c x hc hx => h (k + 1) c x (by simpa using hc) (by simpa using hx)⟩
 | [], _ :: _, hl, _ => by simp at hl
 | _ :: _, [], hl, _ => by simp at hl
theorem Sh.of_sl {a : IV} {e : TypeId} (h : Sh P (.sl e) a) {D : Nat} {cs : List Cty} (hc : ctys P D e = some cs) : ∃ rows, a = .sl (P.cellsOf e) rows false ∧ rows.length ≤ maxLen ∧ ∀ r ∈ rows, ShL P cs r := by
 cases h with
 | sl e d cs' rows hc' hl h1 h2 =>
  cases ctys_det hc hc'
  refine ⟨rows, rfl, hl, fun r hr => ?_⟩
  obtain ⟨i, hi⟩ := List.getElem?_of_mem hr
  exact shL_at (h1 i r hi) fun k c x hc hx => h2 i r k c x hi hc hx
theorem ShL.bool {cs : List Cty} {l : List IV} (h : ShL P (.bool :: cs) l) : ∃ b l', l = .v (.bool b) :: l' ∧ ShL P cs l' := by
 obtain ⟨a, l', rfl, h1, h2⟩ := h.cons
 obtain ⟨b, rfl⟩ := h1.of_bool
 exact ⟨b, l', rfl, h2⟩
theorem ShL.int {k : IntKind} {cs : List Cty} {l : List IV} (h : ShL P (.int k :: cs) l) : ∃ n l', l = .v (.int k n) :: l' ∧ (Lit.int k n).wf = true ∧ ShL P cs l' := by
 obtain ⟨a, l', rfl, h1, h2⟩ := h.cons
 obtain ⟨n, rfl, hn⟩ := h1.of_int
 exact ⟨n, l', rfl, hn, h2⟩
theorem ShL.str {cs : List Cty} {l : List IV} (h : ShL P (.str :: cs) l) : ∃ s l', l = .str s :: l' ∧ s.length ≤ maxLen ∧ ShL P cs l' := by
 obtain ⟨a, l', rfl, h1, h2⟩ := h.cons
 obtain ⟨s, rfl, hn⟩ := h1.of_str
 exact ⟨s, l', rfl, hn, h2⟩
theorem ShL.sl {e : TypeId} {cs : List Cty} {l : List IV} (h : ShL P (.sl e :: cs) l) {D : Nat} {cs' : List Cty} (hc : ctys P D e = some cs') :
  ∃ rows l', l = .sl (P.cellsOf e) rows false :: l' ∧ rows.length ≤ maxLen ∧ (∀ r ∈ rows, ShL P cs' r) ∧ ShL P cs l' := by
 obtain ⟨a, l', rfl, h1, h2⟩ := h.cons
 obtain ⟨rows, rfl, hn, hr⟩ := h1.of_sl hc
 exact ⟨rows, l', rfl, hn, hr, h2⟩
variable {r : Reach} {b0 : Nat} {t : TypeId} {v : Value} {d : DataW Hh} {ps : List MemPlace}
theorem read_int {k : IntKind} (hu : P.underlying t = some (.int k)) (hval : Value.okWide P W r b0 t v) (hd : DataW.Trod enc P W 0 sp held t v d ps) :
  ∃ n, RelA (imm0 W) eta0 [] (.i (.v (.int k n))) v ∧ (Lit.int k n).wf = true := by
 obtain ⟨n, rfl, _, _, hw⟩ := open_int hu hval hd
 exact ⟨n, .i _ _ (.v _ rfl), hw⟩
theorem read_str (hu : P.underlying t = some .string) (hval : Value.okWide P W r b0 t v) (hd : DataW.Trod enc P W 0 sp held t v d ps) :
  ∃ s, RelA (imm0 W) eta0 [] (.i (.str s)) v ∧ s.length ≤ maxLen := by
 obtain ⟨s, rfl, _, _, h3⟩ := Go.ChangeMaps.open_string hu hval hd
 exact ⟨s.data.toList, .i _ _ (.str _), by simpa using h3⟩
end

section
variable {Hh : Type} {enc : TypeId × Value → Hh} {P : Program} {W : World} {sp : Nat → Bool} {held : Bool}
end

theorem rng_u8 {n : Int} (h : (Lit.int .u8 n).wf = true) : 0 ≤ n ∧ n ≤ 255 := by
 simp only [Lit.wf, Bool.and_eq_true, IntKind.min, IntKind.max, IntKind.signed, IntKind.bits] at h
 simp at h
 omega
end Go.VI

set_option linter.unusedSimpArgs false
set_option linter.unusedVariables false
namespace Go.VI
section
variable {E : Env} {cl : CallF} {H : Hp}

def isoK (E : Env) (cl : CallF) (f : FuncId) (args1 : List AV) (H1 : Hp) : Option (AV × Hp) :=
  let R := reach H1 64 (refsL args1) []
  let into := posIn R
  match exCl E cl f (renL into args1) (R.map fun c => ((H1[c]?).map (Chunk.ren into)).getD (.iter [] 0)) with
  | none => none
  | some (r, L) => if L.length < R.length then none else
   let K := (reach L 64 (refsA r ++ (L.take R.length).flatMap Chunk.refs) []).filter fun i => decide (R.length ≤ i)
   let back := backRen R H1.length K
   some (renA back r, setAll H1 R ((L.take R.length).map (Chunk.ren back)) ++ K.map fun i => ((L[i]?).map (Chunk.ren back)).getD (.iter [] 0))
def prepK (E : Env) (cl : CallF) (f : FuncId) : Option (List AV × Hp) → Option (AV × Hp)
 | some (as0, H1) => isoK E cl f as0 H1
 | none => none
theorem prepK_some (f : FuncId) (as0 : List AV) (H1 : Hp) : prepK E cl f (some (as0, H1)) = isoK E cl f as0 H1 := rfl
theorem iso_prep {f : FuncId} (args : List AV) : callIso E cl f args H = prepK E cl f (prepE E f H args) := by
 unfold callIso
 cases prepE E f H args with
 | none => rfl
 | some x => rfl
theorem isoK_val {g : Nat} {as0 : List AV} {r : AV} (he : E.ext g = none) (hr : refsL as0 = []) (hrr : refsA r = []) (hc : ∃ L, cl g as0 [] = some (r, L)) : isoK E cl g as0 H = some (r, H) := by
 obtain ⟨L, hc⟩ := hc
 have h1 := (refs_ren (posIn [])).2 as0 hr
 have h2 : ∀ ρ, renA ρ r = r := fun ρ => (refs_ren ρ).1 r hrr
 unfold isoK
 simp [exCl, he, hr, reach, h1, hc, hrr, h2, setAll]
theorem isoK_cl {f : FuncId} {h : List AV → List Chunk → Option (AV × List Chunk)} (he : E.ext f = some h) (as0 : List AV) : isoK E cl f as0 H = isoK { E with ext := fun _ => none } (fun _ => h) f as0 H := by
 unfold isoK exCl
 rw [he]
theorem refsE_ren (ρ : Nat → Option Nat) : ∀ es : List (IV × AV), refsE es = [] → renE ρ es = es
 | [], _ => rfl
 | p :: r, h => by
  simp only [refsE, List.append_eq_nil_iff] at h
  simp only [renE, (refs_ren ρ).1 p.2 h.1, refsE_ren ρ r h.2]
theorem reach_one {L : Hp} {c : Nat} {x : Chunk} (h : L[c]? = some x) (hx : x.refs = []) : reach L 64 [c] [] = [c] := by
 have hl : ¬ L.length ≤ c := by
  have := (List.getElem?_eq_some_iff.1 h).1
  omega
 simp [reach, h, hx, hl]
theorem isoK_new {g : Nat} {as0 : List AV} {c gg o n : Nat} {x : Chunk} (he : E.ext g = none) (hr : refsL as0 = []) (hx : x.refs = []) (hc : ∃ L, cl g as0 [] = some (.ref c gg o n, L) ∧ L[c]? = some x) :
  isoK E cl g as0 H = some (.ref H.length gg o n, H ++ [x]) := by
 obtain ⟨L, hc, hL⟩ := hc
 have h1 := (refs_ren (posIn [])).2 as0 hr
 have hxr : ∀ ρ, x.ren ρ = x := by
  intro ρ
  cases x with
  | box cells => exact congrArg Chunk.box ((refs_ren ρ).2 cells hx)
  | tb t cells => exact congrArg (Chunk.tb t) ((refs_ren ρ).2 cells hx)
  | map es => exact congrArg Chunk.map (refsE_ren ρ es hx)
  | _ => rfl
 have hR := reach_one hL hx
 unfold isoK
 rw [hr]
 simp only [exCl, he, reach, h1, List.map_nil, hc, List.length_nil, Nat.not_lt_zero, if_false, List.take_zero, List.flatMap_nil, List.append_nil, refsA, hR]
 simp [renA, backRen, posIn, hL, hxr, setAll]
end

def appT (E : Env) (t t2 : TypeId) : Option Nat :=
 match slO E.P t with
 | some e => match szO E.P e, bytesO E.P e, zeroO E.P e with
  | some z, some b, some zv => if 0 < z ∧ b ≤ 65536 ∧ ((slO E.P t2).isSome = true ∨ isStrO E.P t2 = true) ∧ (cellsA zv).length = z ∧ (cellsA zv).all one = true then some z else none
  | _, _, _ => none
 | none => none
def apC (z : Nat) (H : Hp) (c g off len : Nat) (new : List (List IV)) : Option Chunk → Option (AV × Hp)
 | some (.sl sz g' rows ex) => if g = g' ∧ off = 0 ∧ sz = z ∧ len + new.length < 1073741824 then
   some (.ref c (g + 1) 0 (len + new.length), H.set c (.sl z (g + 1) (rows.take len ++ new) (ex && rows.isEmpty && new.isEmpty))) else none
 | some (.fz sz g' rows ex) => if g = g' ∧ off = 0 ∧ sz = z ∧ ex = true ∧ len = rows.length ∧ new ≠ [] ∧ len + new.length < 1073741824 then
   some (.ref H.length 0 0 (len + new.length), H ++ [.sl z 0 (rows ++ new) false]) else none
 | _ => none
def apV (z : Nat) (H : Hp) (new : List (List IV)) : AV → Option (AV × Hp)
 | .i (.sl sz rows ex) => if ex = true ∧ (rows = [] ∨ (sz = z ∧ new ≠ [])) ∧ rows.length + new.length < 1073741824 then
   some (.ref H.length 0 0 (rows.length + new.length), H ++ [.sl z 0 (rows ++ new) (rows.isEmpty && new.isEmpty)]) else none
 | .ref c g off len => apC z H c g off len new H[c]?
 | _ => none
def apS (z : Nat) (H : Hp) (s : AV) : Option (Nat × List (List IV) × Bool) → Option (AV × Hp)
 | some (z', new, _) => if new = [] ∨ z' = z then apV z H new s else none
 | none => none
theorem ap_eq {E : Env} {t t2 z : Nat} (h : appT E t t2 = some z) (H : Hp) (s x : AV) : appendE E H t t2 s x = apS z H s (srcE H x) := by
 unfold appT at h
 split at h
 ·rename_i e he
  split at h
  ·rename_i z1 b zv h1 h2 h3
   split at h
   ·rename_i hc
    cases h
    unfold appendE
    rw [he]
    simp only [h1, h2, h3]
    cases hx : srcE H x with
    | none => rfl
    | some y =>
     obtain ⟨z', new, exx⟩ := y
     simp only [apS]
     by_cases hn : new = [] ∨ z' = z
     ·rw [if_pos hn, if_pos ⟨hn, hc⟩]
      cases s with
      | i x => cases x <;> rfl
      | ref c g off len =>
       simp only [apV]
       cases H[c]? with
       | none => rfl
       | some ch => cases ch <;> rfl
      | _ => rfl
     ·rw [if_neg hn, if_neg (fun h => hn h.1)]
   ·cases h
  ·cases h
 ·cases h
def cpR (z : Nat) (H : Hp) : AV → Option (Nat × List (List IV) × Bool) → Option (AV × Hp)
 | .ref c g off len, some (z', new, _) => if new = [] ∨ z' = z then copyC z g off len new H c H[c]? else none
 | _, _ => none
theorem cp_eq {E : Env} {t e z : Nat} (h1 : slO E.P t = some e) (h2 : szO E.P e = some z) (h3 : 0 < z) (H : Hp) (d x : AV) : copyE E H t d x = cpR z H d (rowsE H x) := by
 unfold copyE cpR
 rw [h1]
 simp only [h2]
 cases d <;> cases rowsE H x <;> first | rfl | simp only [h3, and_true]
theorem cpR_ref (z : Nat) (H : Hp) (c g off len z' : Nat) (new : List (List IV)) (ex : Bool) : cpR z H (.ref c g off len) (some (z', new, ex)) = if new = [] ∨ z' = z then copyC z g off len new H c H[c]? else none := rfl
theorem copyC_sl (z g off len : Nat) (new : List (List IV)) (H : Hp) (c sz g' : Nat) (rows : List (List IV)) (ex : Bool) : copyC z g off len new H c (some (.sl sz g' rows ex)) = if g = g' ∧ sz = z then
   some (.int .i64 (min new.length len : Nat), H.set c (.sl z g' (rows.take off ++ (new.take len ++ rows.drop (off + min new.length len))) ex)) else none := rfl
def bsT (E : Env) (t : TypeId) : Option (Nat × List AV × List (Option Nat)) :=
 match slO E.P t with
 | some e => match szO E.P e, zeroO E.P e with
  | some z, some zero => if (cellsA zero).length = z ∧ 0 < z ∧ (cellsA zero).all one = true then some (z, cellsA zero, E.kinds e) else none
  | _, _ => none
 | none => none
def bsG (ks : List (Option Nat)) (z n : Nat) : Option (List IV × Hp) → Option (AV × Hp)
 | some (xs, H1) => some (.ref H1.length 0 0 n, H1 ++ [.sl z 0 (chop z n (canR (List.replicate n ks).flatten xs)) true])
 | none => none
def bsF (ks : List (Option Nat)) (z n : Nat) (H : Hp) : Option (List AV) → Option (AV × Hp)
 | some cells => bsG ks z n (freezeAll H cells)
 | none => none
theorem bs_eq {E : Env} {t z : Nat} {zc : List AV} {ks : List (Option Nat)} (h : bsT E t = some (z, zc, ks)) (H : Hp) (n : Nat) (hn : n * z ≤ 16777216) (parts : List (Nat × AV)) :
  buildSliceE E H t n parts = bsF ks z n H (fillA z (List.replicate n zc).flatten parts) := by
 unfold bsT at h
 split at h
 ·rename_i e he
  split at h
  ·rename_i z1 zero h1 h2
   split at h
   ·rename_i hc
    cases h
    unfold buildSliceE
    rw [he]
    simp only [h1, h2]
    rw [if_pos ⟨hn, hc⟩]
    cases fillA z (List.replicate n (cellsA zero)).flatten parts with
    | none => rfl
    | some cells =>
     simp only [bsF]
     cases freezeAll H cells with
     | none => rfl
     | some y => rfl
   ·cases h
  ·cases h
 ·cases h
def brK : Option (List AV) → List Nat
 | some c => refsL c
 | none => []
theorem brK_some (c : List AV) : brK (some c) = refsL c := rfl
theorem br_eq {E : Env} {t z : Nat} {zc : List AV} {ks : List (Option Nat)} (h : bsT E t = some (z, zc, ks)) (n : Nat) (parts : List (Nat × AV)) :
  buildRefs E t n parts = brK (fillA z (List.replicate n zc).flatten parts) := by
 unfold bsT at h
 split at h
 ·rename_i e he
  split at h
  ·rename_i z1 zero h1 h2
   split at h
   ·rename_i hc
    cases h
    unfold buildRefs brK
    rw [he]
    simp only [h1, h2]
    cases fillA z (List.replicate n (cellsA zero)).flatten parts <;> rfl
   ·cases h
  ·cases h
 ·cases h
theorem bsF_some (ks : List (Option Nat)) (z n : Nat) (H : Hp) (cells : List AV) : bsF ks z n H (some cells) = bsG ks z n (freezeAll H cells) := rfl
theorem bsG_some (ks : List (Option Nat)) (z n : Nat) (xs : List IV) (H1 : Hp) : bsG ks z n (some (xs, H1)) = some (.ref H1.length 0 0 n, H1 ++ [.sl z 0 (chop z n (canR (List.replicate n ks).flatten xs)) true]) := rfl
theorem apS_some (z z' : Nat) (H : Hp) (s : AV) (new : List (List IV)) (e : Bool) : apS z H s (some (z', new, e)) = if new = [] ∨ z' = z then apV z H new s else none := rfl
theorem apV_ref (z : Nat) (H : Hp) (new : List (List IV)) (c g off len : Nat) : apV z H new (.ref c g off len) = apC z H c g off len new H[c]? := rfl
theorem apV_i (z : Nat) (H : Hp) (new : List (List IV)) (sz : Nat) (rows : List (List IV)) (ex : Bool) : apV z H new (.i (.sl sz rows ex)) = if ex = true ∧ (rows = [] ∨ (sz = z ∧ new ≠ [])) ∧ rows.length + new.length < 1073741824 then
   some (.ref H.length 0 0 (rows.length + new.length), H ++ [.sl z 0 (rows ++ new) (rows.isEmpty && new.isEmpty)]) else none := rfl
theorem apC_sl (z : Nat) (H : Hp) (c g off len : Nat) (new : List (List IV)) (sz g' : Nat) (rows : List (List IV)) (ex : Bool) : apC z H c g off len new (some (.sl sz g' rows ex)) = if g = g' ∧ off = 0 ∧ sz = z ∧ len + new.length < 1073741824 then
   some (.ref c (g + 1) 0 (len + new.length), H.set c (.sl z (g + 1) (rows.take len ++ new) (ex && rows.isEmpty && new.isEmpty))) else none := rfl
theorem apC_fz (z : Nat) (H : Hp) (c g off len : Nat) (new : List (List IV)) (sz g' : Nat) (rows : List (List IV)) (ex : Bool) : apC z H c g off len new (some (.fz sz g' rows ex)) = if g = g' ∧ off = 0 ∧ sz = z ∧ ex = true ∧ len = rows.length ∧ new ≠ [] ∧ len + new.length < 1073741824 then
   some (.ref H.length 0 0 (len + new.length), H ++ [.sl z 0 (rows ++ new) false]) else none := rfl
theorem src_str (H : Hp) (l : List UInt8) : srcE H (.i (.str l)) = some (1, l.map fun b => [IV.v (.int .u8 b.toNat)], true) := rfl
theorem src_sl (H : Hp) (sz : Nat) (rows : List (List IV)) (ex : Bool) : srcE H (.i (.sl sz rows ex)) = some (sz, rows, ex) := rfl
def rsC (g off len : Nat) : Option Chunk → Option (Nat × List (List IV) × Bool)
 | some (.sl sz g' rows ex) => if g = g' then some (sz, (rows.drop off).take len, ex && decide (off + len = rows.length)) else none
 | some (.fz sz g' rows ex) => if g = g' then some (sz, (rows.drop off).take len, ex && decide (off + len = rows.length)) else none
 | _ => none
theorem src_ref (H : Hp) (c g off len : Nat) : srcE H (.ref c g off len) = rsC g off len H[c]? := by
 simp only [srcE, rowsE]
 cases H[c]? with
 | none => rfl
 | some x => cases x <;> rfl
theorem rsC_sl (g off len sz g' : Nat) (rows : List (List IV)) (ex : Bool) : rsC g off len (some (.sl sz g' rows ex)) = if g = g' then some (sz, (rows.drop off).take len, ex && decide (off + len = rows.length)) else none := rfl
theorem rsC_fz (g off len sz g' : Nat) (rows : List (List IV)) (ex : Bool) : rsC g off len (some (.fz sz g' rows ex)) = if g = g' then some (sz, (rows.drop off).take len, ex && decide (off + len = rows.length)) else none := rfl
def consK : Option AV → Option (List AV) → Option (List AV)
 | some a, some as0 => some (a :: as0)
 | _, _ => none
def tupK : Option (List AV) → Option AV
 | some [a] => some a
 | some as0 => some (.tup as0)
 | none => none
theorem consK_some (a : AV) (as0 : List AV) : consK (some a) (some as0) = some (a :: as0) := rfl
theorem tupK_0 : tupK (some []) = some (.tup []) := rfl
theorem tupK_1 (a : AV) : tupK (some [a]) = some a := rfl
theorem tupK_2 (a b : AV) (l : List AV) : tupK (some (a :: b :: l)) = some (.tup (a :: b :: l)) := rfl
section
variable {E : Env} {fr : Fr} {H : Hp}
theorem resE_eq (l : List ResultVar) : resE E fr H l = tupK (resEs E fr H l) := by
 unfold resE
 cases resEs E fr H l with
 | none => rfl
 | some as0 => cases as0 with
  | nil => rfl
  | cons a as0 => cases as0 <;> rfl
theorem resEs_nil : resEs E fr H [] = some [] := rfl
theorem resEs_cons (r : ResultVar) (l : List ResultVar) : resEs E fr H (r :: l) = consK (resE1 E fr H r) (resEs E fr H l) := by
 simp only [resEs]
 cases resE1 E fr H r <;> cases resEs E fr H l <;> rfl
theorem resE1_t (t : Nat) : resE1 E fr H (.tmp t) = some (get t fr) := rfl
theorem resE1_c (a t : Nat) : resE1 E fr H (.cell a t) = loadE E H t (get a fr) := rfl
end

def msT (E : Env) (t : TypeId) : Option (Nat × List IV) :=
 match slO E.P t with
 | some e => match szO E.P e, zeroRow E e, bytesO E.P e with
  | some z, some row, some b => if row.length = z ∧ 0 < z ∧ b ≤ 65536 then some (z, canR (E.kinds e) row) else none
  | _, _, _ => none
 | none => none
theorem ms_eq {E : Env} {t z : Nat} {row : List IV} (h : msT E t = some (z, row)) (H : Hp) (k k' : IntKind) (n m : Int) :
  makeSliceE E H t (.i (.v (.int k n))) (.i (.v (.int k' m))) = if 0 ≤ n ∧ n = m ∧ n < 1073741824 then some (.ref H.length 0 0 n.toNat, H ++ [.sl z 0 (List.replicate n.toNat row) true]) else if n = 0 ∧ 0 < m ∧ m < 1073741824 then some (.ref H.length 0 0 0, H ++ [.sl z 0 [] false]) else none := by
 unfold msT at h
 split at h
 ·rename_i e he
  split at h
  ·rename_i z0 row0 b h1 h2 h3
   split at h
   ·rename_i hc
    cases h
    unfold makeSliceE
    simp only [he, h1, h2, h3]
    obtain ⟨c1, c2, c3⟩ := hc
    by_cases hn : 0 ≤ n ∧ n = m ∧ n < 1073741824
    ·rw [if_pos hn, if_pos ⟨hn.1, hn.2.1, hn.2.2, c1, c2, c3⟩]
    ·rw [if_neg hn, if_neg (fun h => hn ⟨h.1, h.2.1, h.2.2.1⟩)]
     by_cases hn : n = 0 ∧ 0 < m ∧ m < 1073741824
     ·rw [if_pos hn, if_pos ⟨hn.1, hn.2.1, hn.2.2, c1, c2, c3⟩]
     ·rw [if_neg hn, if_neg (fun h => hn ⟨h.1, h.2.1, h.2.2.1⟩)]
   ·cases h
  ·cases h
 ·cases h
def aggK : Option (List AV) → Option AV
 | some c => some (.agg c)
 | none => none
theorem aggK_some (c : List AV) : aggK (some c) = some (.agg c) := rfl
theorem bd_arr {E : Env} {t n e z : Nat} {zc : List AV} (h0 : zeroO E.P t = some (.agg zc)) (h1 : arrO E.P t = some (n, e)) (h2 : szO E.P e = some z) (parts : List (Nat × AV)) : buildE E t parts = aggK (fillA z zc parts) := by
 unfold buildE
 rw [h0]
 simp only [h1, h2]
 cases fillA z zc parts <;> rfl
theorem bd_struct {E : Env} {t : Nat} {zc : List AV} {pl : List (Nat × Nat)} (h0 : zeroO E.P t = some (.agg zc)) (h1 : arrO E.P t = none) (h2 : placesO E.P t = some pl) (parts : List (Nat × AV)) : buildE E t parts = aggK (fillS pl zc parts) := by
 unfold buildE
 rw [h0]
 simp only [h1, h2]
 cases fillS pl zc parts <;> rfl
def fsK (pl : List (Nat × Nat)) (cells : List AV) (v : AV) (r : List (Nat × AV)) : Option (Nat × Nat) → Option (List AV)
 | some (off, z) => if (cellsA v).length = z ∧ off + z ≤ cells.length ∧ (cellsA v).all one = true then fillS pl (over cells off (cellsA v)) r else none
 | none => none
theorem fillS_nil (pl : List (Nat × Nat)) (cells : List AV) : fillS pl cells [] = some cells := rfl
theorem fillS_cons (pl : List (Nat × Nat)) (cells : List AV) (i : Nat) (v : AV) (r : List (Nat × AV)) : fillS pl cells ((i, v) :: r) = fsK pl cells v r pl[i]? := by
 simp only [fillS]
 cases pl[i]? <;> rfl
theorem fsK_some (pl : List (Nat × Nat)) (cells : List AV) (v : AV) (r : List (Nat × AV)) (off z : Nat) : fsK pl cells v r (some (off, z)) = if (cellsA v).length = z ∧ off + z ≤ cells.length ∧ (cellsA v).all one = true then fillS pl (over cells off (cellsA v)) r else none := rfl

def stR (n c g k : Nat) (H1 : Hp) (xs : List IV) (sz r : Nat) (rows : List (List IV)) (ex : Bool) : Option (List IV) → Option Hp
 | some row => some (H1.set c (.sl sz g (rows.set r (row.take k ++ xs ++ row.drop (k + n))) ex))
 | none => none
def stG (n c g r k : Nat) (H1 : Hp) (xs : List IV) : Option Chunk → Option Hp
 | some (.sl sz g' rows ex) => if g = g' ∧ k + n ≤ sz then stR n c g' k H1 xs sz r rows ex rows[r]? else none
 | _ => none
def stF (ks : List (Option Nat)) (n c g r k : Nat) : Option (List IV × Hp) → Option Hp
 | some (xs, H1) => stG n c g r k H1 (canR ks xs) H1[c]?
 | none => none
def stC (ks : List (Option Nat)) (n : Nat) (H : Hp) (c g r k : Nat) (cv : List AV) : Option Chunk → Option Hp
 | some (.box cells) => if k + n ≤ cells.length then some (H.set c (.box (over cells k cv))) else none
 | some (.sl ..) => stF ks n c g r k (freezeAll H cv)
 | _ => none
theorem st_eq {E : Env} {t n : Nat} (h : szO E.P t = some n) (H : Hp) (c g r k : Nat) (v : AV) :
  storeE E H t (.ptr c g r k) v = if (cellsA v).length = n ∧ (cellsA v).all one = true then stC (E.kinds t) n H c g r k (cellsA v) H[c]? else none := by
 unfold storeE
 rw [h]
 simp only
 split
 ·cases H[c]? with
  | none => rfl
  | some x =>
   cases x with
   | sl sz g' rows ex =>
    simp only [stC]
    cases freezeAll H (cellsA v) with
    | none => rfl
    | some y =>
     obtain ⟨xs, H1⟩ := y
     simp only [stF]
     cases H1[c]? with
     | none => rfl
     | some x =>
      cases x with
      | sl sz g' rows ex =>
       simp only [stG]
       split
       ·cases rows[r]? <;> rfl
       ·rfl
      | _ => rfl
   | _ => rfl
 ·rfl
theorem stC_box (ks : List (Option Nat)) (n : Nat) (H : Hp) (c g r k : Nat) (cv cells : List AV) : stC ks n H c g r k cv (some (.box cells)) = if k + n ≤ cells.length then some (H.set c (.box (over cells k cv))) else none := rfl
theorem stC_sl (ks : List (Option Nat)) (n : Nat) (H : Hp) (c g r k : Nat) (cv : List AV) (sz g' : Nat) (rows : List (List IV)) (ex : Bool) : stC ks n H c g r k cv (some (.sl sz g' rows ex)) = stF ks n c g r k (freezeAll H cv) := rfl
theorem stF_some (ks : List (Option Nat)) (n c g r k : Nat) (xs : List IV) (H1 : Hp) : stF ks n c g r k (some (xs, H1)) = stG n c g r k H1 (canR ks xs) H1[c]? := rfl
theorem stG_sl (n c g r k : Nat) (H1 : Hp) (xs : List IV) (sz g' : Nat) (rows : List (List IV)) (ex : Bool) : stG n c g r k H1 xs (some (.sl sz g' rows ex)) = if g = g' ∧ k + n ≤ sz then stR n c g' k H1 xs sz r rows ex rows[r]? else none := rfl
theorem stR_some (n c g k : Nat) (H1 : Hp) (xs : List IV) (sz r : Nat) (rows : List (List IV)) (ex : Bool) (row : List IV) : stR n c g k H1 xs sz r rows ex (some row) = some (H1.set c (.sl sz g (rows.set r (row.take k ++ xs ++ row.drop (k + n))) ex)) := rfl
theorem set_concat {α : Type} (l : List α) (a b : α) : (l ++ [a]).set l.length b = l ++ [b] := by simp
theorem norm_nil (fr : Fr) : norm [] fr = [] := rfl
theorem norm_cons (k : Nat) (l : List Nat) (fr : Fr) : norm (k :: l) fr = (k, get k fr) :: norm l fr := rfl

noncomputable def rl (E : Env) (B : Nat) (f : FuncId) (c : Code) (fr : Fr) (H : Hp) : Option (Ex × Fr × Hp) :=
 match c with
 | .loop c => seqK (execT E B f (.loop c)) (execT E B f c fr H)
 | _ => none
noncomputable def rlG (E : Env) (B : Nat) (f : FuncId) (c : Code) (p : Fr × Hp) : Option (Ex × Fr × Hp) := rl E B f c p.1 p.2
noncomputable def rlM (E : Env) (B : Nat) (f : FuncId) (c : Code) (hd : List Nat) (z : List (Nat × Nat)) (fr : Fr) (H : Hp) : Option (Ex × Fr × Hp) := rlG E B f c (gcn B (norm hd (frzF z fr H).1) (frzF z fr H).2)
theorem rlM_eq (E : Env) (B : Nat) (f : FuncId) (c : Code) (hd : List Nat) (z : List (Nat × Nat)) (fr : Fr) (H : Hp) : rlM E B f c hd z fr H = rlG E B f c (gcn B (norm hd (frzF z fr H).1) (frzF z fr H).2) := rfl
section
variable {E : Env} {B : Nat} {f : FuncId} {fn : Func} {k : Nat} {c : Code} {hd : List Nat}
theorem rlG_mk (c : Code) (fr : Fr) (H : Hp) : rlG E B f c (fr, H) = rl E B f c fr H := rfl
theorem rl_intro (hc : loopAt fn k = .loop c) (hm : E.mat f ((firstRegion c).getD 0) = []) (hb : E.matb f ((firstRegion c).getD 0) = []) (hz : E.frz f ((firstRegion c).getD 0) = []) (hh : E.head f ((firstRegion c).getD 0) = hd) (fr : Fr) (H : Hp) : execT E B f (.loop c) fr H = rlG E B f (loopAt fn k) (gcn B (norm hd fr) H) := by
 unfold rlG rl
 rw [hc, execT_loop]
 simp only [hdE, hm, hb, hz, hh, matF_nil, matB_nil, frzF_nil]
theorem rl_introM {m : List (Nat × Nat)} {mb : List (Nat × Nat × Nat)} {z : List (Nat × Nat)} (hc : loopAt fn k = .loop c) (hm : E.mat f ((firstRegion c).getD 0) = m) (hb : E.matb f ((firstRegion c).getD 0) = mb) (hz : E.frz f ((firstRegion c).getD 0) = z) (hh : E.head f ((firstRegion c).getD 0) = hd) (fr : Fr) (H : Hp) :
  execT E B f (.loop c) fr H = rlM E B f (loopAt fn k) hd z (matF m fr H).1 (matB mb (matF m fr H).1 (matF m fr H).2) := by
 unfold rlM rlG rl
 rw [hc, execT_loop]
 simp only [hdE, hm, hb, hz, hh]
theorem rl_step (hc : loopAt fn k = .loop c) (fr : Fr) (H : Hp) : rl E B f (loopAt fn k) fr H = seqK (execT E B f (.loop c)) (execT E B f c fr H) := by
 unfold rl
 rw [hc]
end
theorem gc_T {B : Nat} {H : Hp} (h : B ≤ H.length) (fr : Fr) : gc B fr H = gcW (gcR B fr H) fr H := by unfold gc; rw [if_pos h]
theorem nc1 (k : Nat) : (k : Int) + 1 = ((k + 1 : Nat) : Int) := rfl

theorem w_i8 {n : Int} (h1 : -128 ≤ n) (h2 : n ≤ 127) : IntKind.i8.wrap n = n := by
 simp only [IntKind.wrap, IntKind.signed, IntKind.bits, Bool.true_and, ge_iff_le, decide_eq_true_eq]
 split <;> omega
theorem w_u8 {n : Int} (h1 : 0 ≤ n) (h2 : n ≤ 255) : IntKind.u8.wrap n = n := by
 simp only [IntKind.wrap, IntKind.signed, IntKind.bits, Bool.false_and, Bool.false_eq_true, if_false]
 omega
theorem w_i16 {n : Int} (h1 : -32768 ≤ n) (h2 : n ≤ 32767) : IntKind.i16.wrap n = n := by
 simp only [IntKind.wrap, IntKind.signed, IntKind.bits, Bool.true_and, ge_iff_le, decide_eq_true_eq]
 split <;> omega
theorem w_u16 {n : Int} (h1 : 0 ≤ n) (h2 : n ≤ 65535) : IntKind.u16.wrap n = n := by
 simp only [IntKind.wrap, IntKind.signed, IntKind.bits, Bool.false_and, Bool.false_eq_true, if_false]
 omega
theorem w_i32 {n : Int} (h1 : -2147483648 ≤ n) (h2 : n ≤ 2147483647) : IntKind.i32.wrap n = n := by
 simp only [IntKind.wrap, IntKind.signed, IntKind.bits, Bool.true_and, ge_iff_le, decide_eq_true_eq]
 split <;> omega
theorem w_u32 {n : Int} (h1 : 0 ≤ n) (h2 : n ≤ 4294967295) : IntKind.u32.wrap n = n := by
 simp only [IntKind.wrap, IntKind.signed, IntKind.bits, Bool.false_and, Bool.false_eq_true, if_false]
 omega
theorem w_i64 {n : Int} (h1 : -9223372036854775808 ≤ n) (h2 : n ≤ 9223372036854775807) : IntKind.i64.wrap n = n := by
 simp only [IntKind.wrap, IntKind.signed, IntKind.bits, Bool.true_and, ge_iff_le, decide_eq_true_eq]
 split <;> omega
theorem w_u64 {n : Int} (h1 : 0 ≤ n) (h2 : n ≤ 18446744073709551615) : IntKind.u64.wrap n = n := by
 simp only [IntKind.wrap, IntKind.signed, IntKind.bits, Bool.false_and, Bool.false_eq_true, if_false]
 omega
theorem lt_T {a b : Int} (h : a < b) : (a < b) = True := eq_true h
theorem lt_F {a b : Int} (h : b ≤ a) : (a < b) = False := eq_false (by omega)
theorem le_T {a b : Int} (h : a ≤ b) : (a ≤ b) = True := eq_true h
theorem le_F {a b : Int} (h : b < a) : (a ≤ b) = False := eq_false (by omega)
theorem eq_F {a b : Int} (h : ¬ a = b) : (a = b) = False := eq_false h
theorem eq_T {a b : Int} (h : a = b) : (a = b) = True := eq_true h
theorem nlt_T {a b : Nat} (h : a < b) : (a < b) = True := eq_true h
theorem nlt_F {a b : Nat} (h : b ≤ a) : (a < b) = False := eq_false (by omega)
theorem nle_T {a b : Nat} (h : a ≤ b) : (a ≤ b) = True := eq_true h
theorem nle_F {a b : Nat} (h : b < a) : (a ≤ b) = False := eq_false (by omega)
end Go.VI

set_option linter.unusedSimpArgs false
set_option linter.unusedVariables false
namespace Go.VI
def textOf : List (List IV) → Option (List UInt8)
 | [] => some []
 | [.str s, .v (.bool _), .v (.int .i64 _)] :: r => (textOf r).map (s ++ ·)
 | _ => none
def extText : List AV → Hp → Option (AV × Hp)
 | [.i (.sl 3 rows _)], H => match textOf rows with
  | some l => if l.length ≤ 140737488355328 ∧ rows.length ≤ 1000000000 then some (.i (.str l), H) else none
  | none => none
 | _, _ => none
def extClone (z : Nat) : List AV → Hp → Option (AV × Hp)
 | [.i (.sl z' rows _)], H => if z' = z ∧ rows.length ≤ 1000000000 then some (.i (.sl z rows false), H) else none
 | _, _ => none
def extCloneO (z : Nat) : List AV → Hp → Option (AV × Hp)
 | [.i (.sl z' rows _)], H => if z' = z ∧ rows.length ≤ 1000000000 then some (.ref H.length 0 0 rows.length, H ++ [.sl z 0 rows false]) else none
 | _, _ => none
def setsB (a b s : Int) : Bool := (a == 66 || a == 48) && (b == 66 || b == 48) && (s == 0 || s == 1)
def extSets : List AV → Hp → Option (AV × Hp)
 | [.agg [.i (.v (.int .u8 a)), .i (.v (.int .u8 b))], .i (.v (.int .i64 s))], H => some (.i (.v (.bool (setsB a b s))), H)
 | _, _ => none
def Ext1 (E : Env) (f : FuncId) (h : List AV → Hp → Option (AV × Hp)) : Prop := ∀ args H r H', h args H = some (r, H') → ∀ I η w vs, Conc E I η H w → ArgsOK I η H args vs →
 Calls E.P f vs w fun e w' => ∃ x, e = .returned x ∧ After E I η H w H' w' fun I' η' => RelA I' η' H' r x
theorem args_two {I : Imm} {η : Eta} {H : Hp} {a b : AV} {vs : Array Value} (h : ArgsOK I η H [a, b] vs) : ∃ x y, vs = #[x, y] ∧ RelA I η H a x ∧ RelA I η H b y := by
 obtain ⟨hs, hr⟩ := h
 obtain ⟨l⟩ := vs
 match l, hs with
 | [x, y], _ => exact ⟨x, y, rfl, hr 0 a rfl, hr 1 b rfl⟩
theorem isoK_ext {E : Env} {cl : CallF} {f : FuncId} {h : List AV → Hp → Option (AV × Hp)} (he : E.ext f = some h) {as0 : List AV} {H : Hp} {r : AV} (hr : refsL as0 = []) (hrr : refsA r = []) (hc : ∃ L, h as0 [] = some (r, L)) : isoK E cl f as0 H = some (r, H) := by
 rw [isoK_cl he]
 exact isoK_val (E := { E with ext := fun _ => none }) rfl hr hrr hc
end Go.VI

set_option linter.unusedSimpArgs false
set_option linter.unusedVariables false
namespace Go.VI
theorem condK_b (b : Bool) (x y : Option (Ex × Fr × Hp)) : condK (.i (.v (.bool b))) x y = if b = true then x else y := by cases b <;> rfl
theorem condK_ndec (p : Prop) [Decidable p] (a b : Option (Ex × Fr × Hp)) : condK (.i (.v (.bool (decide (¬ p))))) a b = if p then b else a := by by_cases h : p <;> simp [h, condK]
theorem be_ii (P : Program) (op : BinOp) (t : TypeId) (k k' : IntKind) (a b : Int) : binE P op t (.i (.v (.int k a))) (.i (.v (.int k' b))) = intE op k a k' b := rfl
theorem be_ss (P : Program) (op : BinOp) (t : TypeId) (a b : List UInt8) : binE P op t (.i (.str a)) (.i (.str b)) = strE op a b := rfl
theorem be_bb (P : Program) (t : TypeId) (a b : Bool) : binE P .eql t (.i (.v (.bool a))) (.i (.v (.bool b))) = (eqE P t (.i (.v (.bool a))) (.i (.v (.bool b)))).map .bool := rfl
theorem be_bn (P : Program) (t : TypeId) (a b : Bool) : binE P .neq t (.i (.v (.bool a))) (.i (.v (.bool b))) = (eqE P t (.i (.v (.bool a))) (.i (.v (.bool b)))).map fun b => .bool (!b) := rfl
theorem be_pn (P : Program) (t : TypeId) (c g r k : Nat) : binE P .eql t (.ptr c g r k) (.i (.v (.pointer none))) = (eqE P t (.ptr c g r k) (.i (.v (.pointer none)))).map .bool := rfl
theorem be_pnn (P : Program) (t : TypeId) (c g r k : Nat) : binE P .neq t (.ptr c g r k) (.i (.v (.pointer none))) = (eqE P t (.ptr c g r k) (.i (.v (.pointer none)))).map fun b => .bool (!b) := rfl
theorem be_tn (P : Program) (t : TypeId) (c : List IV) (o : Nat) : binE P .eql t (.i (.pt c o)) (.i (.v (.pointer none))) = (eqE P t (.i (.pt c o)) (.i (.v (.pointer none)))).map .bool := rfl
theorem be_tnn (P : Program) (t : TypeId) (c : List IV) (o : Nat) : binE P .neq t (.i (.pt c o)) (.i (.v (.pointer none))) = (eqE P t (.i (.pt c o)) (.i (.v (.pointer none)))).map fun b => .bool (!b) := rfl
theorem be_nn (P : Program) (t : TypeId) : binE P .eql t (.i (.v (.pointer none))) (.i (.v (.pointer none))) = (eqE P t (.i (.v (.pointer none))) (.i (.v (.pointer none)))).map .bool := rfl
theorem be_nnn (P : Program) (t : TypeId) : binE P .neq t (.i (.v (.pointer none))) (.i (.v (.pointer none))) = (eqE P t (.i (.v (.pointer none))) (.i (.v (.pointer none)))).map fun b => .bool (!b) := rfl
theorem be_aa (P : Program) (t : TypeId) (a b : List AV) : binE P .eql t (.agg a) (.agg b) = (eqE P t (.agg a) (.agg b)).map .bool := rfl
section
variable {E : Env} {cl : CallF} {ops : List Oper} {fr : Fr} {H : Hp}
theorem guK_b (dst : Option Nat) (op : Op) (r : List Oper) (b : Bool) : guK E cl ops dst op r fr H (some b) = if b = true then opK E cl ops dst r fr (evOp E cl op fr H) else evOps E cl ops r (putD dst (.tup []) fr) H := by cases b <;> rfl
theorem guT_b (dst : Option Nat) (op : Op) (r : List Oper) (b : Bool) : guT E cl ops dst op r fr H (some b) = if b = true then opT E cl ops dst op r fr H (evOp E cl op fr H) else tK [] (evT E cl ops r (putD dst (.tup []) fr) H) := by cases b <;> rfl
theorem guK_dec (dst : Option Nat) (op : Op) (r : List Oper) (p : Prop) [Decidable p] : guK E cl ops dst op r fr H (some (decide p)) = if p then opK E cl ops dst r fr (evOp E cl op fr H) else evOps E cl ops r (putD dst (.tup []) fr) H := by by_cases h : p <;> simp [h, guK]
theorem guT_dec (dst : Option Nat) (op : Op) (r : List Oper) (p : Prop) [Decidable p] : guT E cl ops dst op r fr H (some (decide p)) = if p then opT E cl ops dst op r fr H (evOp E cl op fr H) else tK [] (evT E cl ops r (putD dst (.tup []) fr) H) := by by_cases h : p <;> simp [h, guT]
theorem guK_ndec (dst : Option Nat) (op : Op) (r : List Oper) (p : Prop) [Decidable p] : guK E cl ops dst op r fr H (some (decide (¬ p))) = if p then evOps E cl ops r (putD dst (.tup []) fr) H else opK E cl ops dst r fr (evOp E cl op fr H) := by by_cases h : p <;> simp [h, guK]
theorem guT_ndec (dst : Option Nat) (op : Op) (r : List Oper) (p : Prop) [Decidable p] : guT E cl ops dst op r fr H (some (decide (¬ p))) = if p then tK [] (evT E cl ops r (putD dst (.tup []) fr) H) else opT E cl ops dst op r fr H (evOp E cl op fr H) := by by_cases h : p <;> simp [h, guT]
theorem pickK_t (a b : AV) : pickK a b (.i (.v (.bool true))) = some a := rfl
theorem pickK_f (a b : AV) : pickK a b (.i (.v (.bool false))) = some b := rfl
theorem pickK_bb (a b t : Bool) : pickK (.i (.v (.bool a))) (.i (.v (.bool b))) (.i (.v (.bool t))) = some (.i (.v (.bool (bif t then a else b)))) := by cases t <;> rfl
theorem ndec (p : Prop) [Decidable p] : (!decide p) = decide (¬ p) := by by_cases h : p <;> simp [h]
theorem odec (p q : Prop) [Decidable p] [Decidable q] : (decide p || decide q) = decide (p ∨ q) := by by_cases h : p <;> simp [h]
theorem adec (p q : Prop) [Decidable p] [Decidable q] : (decide p && decide q) = decide (p ∧ q) := by by_cases h : p <;> simp [h]
theorem sdec (a b : List UInt8) : (a == b) = decide (a = b) := by by_cases h : a = b <;> simp [h]
theorem u8_eq (a b : UInt8) : (a = b) = (a.toNat = b.toNat) := by simp [UInt8.toNat_inj]
def cvK (H : Hp) : AV → Option (AV × Hp)
 | .i (.str l) => if l.length < 1073741824 then some (.ref H.length 0 0 l.length, H ++ [.sl 1 0 (l.map fun b => [IV.v (.int .u8 b.toNat)]) false]) else none
 | _ => none
theorem cvK_str (l : List UInt8) : cvK H (.i (.str l)) = if l.length < 1073741824 then some (.ref H.length 0 0 l.length, H ++ [.sl 1 0 (l.map fun b => [IV.v (.int .u8 b.toNat)]) false]) else none := rfl
theorem op_convB {s d : TypeId} (h1 : isStrO E.P s = true) (h2 : (slO E.P d).bind (kindO E.P) = some .u8) (x : Operand) : evOp E cl (.convert s d x) fr H = cvK H (opd E fr x) := by
 have h3 : (slO E.P d).isSome = true := by cases h : slO E.P d with | none => rw [h] at h2; cases h2 | some _ => rfl
 rw [op_heavy _ (by simpa [heavy] using h3) (by intro f a t e; cases e)]
 simp only [evH]
 generalize opd E fr x = y
 cases y with
 | i y => cases y with
  | str l => simp only [cvK, h1, h2, true_and, convH]
  | _ => rfl
 | _ => rfl
def cvR (H : Hp) : AV → Option (AV × Hp)
 | .i (.str l) => if l.length < 1073741824 then some (.ref H.length 0 0 (rowsR l).length, H ++ [.sl 1 0 (rowsR l) false]) else none
 | _ => none
theorem cvR_str (l : List UInt8) : cvR H (.i (.str l)) = if l.length < 1073741824 then some (.ref H.length 0 0 (rowsR l).length, H ++ [.sl 1 0 (rowsR l) false]) else none := rfl
theorem op_convR {s d : TypeId} (h1 : isStrO E.P s = true) (h2 : (slO E.P d).bind (kindO E.P) = some .i32) (x : Operand) : evOp E cl (.convert s d x) fr H = cvR H (opd E fr x) := by
 have h3 : (slO E.P d).isSome = true := by cases h : slO E.P d with | none => rw [h] at h2; cases h2 | some _ => rfl
 rw [op_heavy _ (by simpa [heavy] using h3) (by intro f a t e; cases e)]
 simp only [evH]
 generalize opd E fr x = y
 cases y with
 | i y => cases y with
  | str l => simp only [cvR, h1, h2, true_and, convH]
  | _ => rfl
 | _ => rfl
def cvS : Option (Nat × List (List IV) × Bool) → Option AV
 | some (z, rows, _) => if rows = [] ∨ z = 1 then (numsOf rows).map fun l => .str (l.map fun n => UInt8.ofNat n.toNat) else none
 | none => none
theorem cvS_some (z : Nat) (rows : List (List IV)) (ex : Bool) : cvS (some (z, rows, ex)) = if rows = [] ∨ z = 1 then (numsOf rows).map fun l => .str (l.map fun n => UInt8.ofNat n.toNat) else none := rfl
theorem op_cvS {s d e : TypeId} (h : slO E.P d = none) (hs : slO E.P s = some e) (h1 : isStrO E.P d = true) (h2 : kindO E.P e = some .u8) (x : Operand) : evOp E cl (.convert s d x) fr H = pK H (cvS (rowsE H (opd E fr x))) := by
 rw [op_convS s d e x h hs]
 simp only [convS, h1, h2, and_self, if_true]
 cases rowsE H (opd E fr x) <;> rfl
theorem rowsE_i (sz : Nat) (rows : List (List IV)) (ex : Bool) : rowsE H (.i (.sl sz rows ex)) = some (sz, rows, ex) := rfl
theorem rowsE_ref (c g off len : Nat) : rowsE H (.ref c g off len) = rsC g off len H[c]? := by
 simp only [rowsE]
 cases H[c]? with
 | none => rfl
 | some x => cases x <;> rfl
theorem numsOf_nil : numsOf [] = some [] := rfl
theorem numsOf_cons (n : Int) (r : List (List IV)) : numsOf ([.v (.int .u8 n)] :: r) = (numsOf r).map (n :: ·) := rfl
theorem numsOf_bytes (l : List UInt8) : numsOf (l.map fun b => [IV.v (.int .u8 b.toNat)]) = some (l.map fun b => (b.toNat : Int)) := by
 induction l with
 | nil => rfl
 | cons b l ih => simp only [List.map_cons, numsOf_cons, ih, Option.map_some]
theorem bytes_back (l : List UInt8) : (l.map fun b => (b.toNat : Int)).map (fun n => UInt8.ofNat n.toNat) = l := by
 rw [List.map_map]
 conv => rhs; rw [← List.map_id l]
 refine List.map_congr_left fun b _ => ?_
 simp
def nxK (H : Hp) (c : Nat) : Option Chunk → Option (AV × Hp)
 | some (.iter s pos) => if pos < s.length then
   some (.tup [.i (.v (.bool true)), .i (.v (.int .i64 pos)), .i (.v (.int .i32 (Utf8.decode ⟨⟨s⟩⟩ pos).1))], H.set c (.iter s (pos + (Utf8.decode ⟨⟨s⟩⟩ pos).2))) else some (.tup [.i (.v (.bool false))], H)
 | _ => none
theorem nxK_iter (c : Nat) (s : List UInt8) (pos : Nat) : nxK H c (some (.iter s pos)) = if pos < s.length then
   some (.tup [.i (.v (.bool true)), .i (.v (.int .i64 pos)), .i (.v (.int .i32 (Utf8.decode ⟨⟨s⟩⟩ pos).1))], H.set c (.iter s (pos + (Utf8.decode ⟨⟨s⟩⟩ pos).2))) else some (.tup [.i (.v (.bool false))], H) := rfl
def nxA (H : Hp) : AV → Option (AV × Hp)
 | .ptr c _ _ 0 => nxK H c H[c]?
 | _ => none
theorem nxA_ptr (c g r : Nat) : nxA H (.ptr c g r 0) = nxK H c H[c]? := rfl
theorem op_nx (it : Operand) : evOp E cl (.next it true) fr H = nxA H (opd E fr it) := by
 rw [op_next]
 simp only [evH]
 cases opd E fr it with
 | ptr c g r k => cases k with
  | zero =>
   simp only [nxA]
   cases H[c]? with
   | none => rfl
   | some x => cases x <;> rfl
  | succ k => rfl
 | _ => rfl

def slSK (s : List UInt8) : Option Nat → Option Nat → Option AV
 | some l, some h => if l ≤ h ∧ h ≤ s.length then some (.i (.str ((s.drop l).take (h - l)))) else none
 | _, _ => none
theorem slSK_some (s : List UInt8) (l h : Nat) : slSK s (some l) (some h) = if l ≤ h ∧ h ≤ s.length then some (.i (.str ((s.drop l).take (h - l)))) else none := rfl
theorem bnd_n (d : Nat) : bnd d none = some d := rfl
theorem bnd_i (d : Nat) (k : IntKind) (n : Int) : bnd d (some (.i (.v (.int k n)))) = if 0 ≤ n then some n.toNat else none := rfl
theorem sl_str {t : TypeId} (ht : isStrO E.P t = true) (s : List UInt8) (lo hi : Option AV) : sliceE E H t (.i (.str s)) lo hi none = slSK s (bnd 0 lo) (bnd s.length hi) := by
 simp only [sliceE, lenE, ht, Option.isNone_none, and_self, if_true]
 cases bnd 0 lo with
 | none => rfl
 | some l => cases bnd s.length hi <;> rfl
def slN1 (z sz : Nat) (rows : List (List IV)) (ex : Bool) : Option Nat → Option Nat → Option AV
 | some l, some h => if (l ≤ h ∧ h ≤ rows.length) ∧ (rows = [] ∨ z = sz) then some (.i (.sl sz ((rows.drop l).take (h - l)) (ex && decide (h = rows.length)))) else none
 | _, _ => none
def slN2 (z c g off len : Nat) : Option Nat → Option Nat → Option Chunk → Option AV
 | some l, some h, some (.sl sz g' _ _) => if (l ≤ h ∧ h ≤ len) ∧ g = g' ∧ z = sz then some (.ref c g (off + l) (h - l)) else none
 | some l, some h, some (.fz sz g' rows ex) => if (l ≤ h ∧ h ≤ len) ∧ g = g' ∧ z = sz ∧ off + len ≤ rows.length then some (.i (.sl sz ((rows.drop (off + l)).take (h - l)) (ex && decide (off + h = rows.length)))) else none
 | _, _, _ => none
def slN (z : Nat) (H : Hp) (lo hi : Option AV) : AV → Option AV
 | .i (.sl sz rows ex) => slN1 z sz rows ex (bnd 0 lo) (bnd rows.length hi)
 | .ref c g off len => slN2 z c g off len (bnd 0 lo) (bnd len hi) H[c]?
 | _ => none
theorem slN_i (z : Nat) (lo hi : Option AV) (sz : Nat) (rows : List (List IV)) (ex : Bool) : slN z H lo hi (.i (.sl sz rows ex)) = slN1 z sz rows ex (bnd 0 lo) (bnd rows.length hi) := rfl
theorem slN_ref (z : Nat) (lo hi : Option AV) (c g off len : Nat) : slN z H lo hi (.ref c g off len) = slN2 z c g off len (bnd 0 lo) (bnd len hi) H[c]? := rfl
theorem slN1_some (z sz : Nat) (rows : List (List IV)) (ex : Bool) (l h : Nat) : slN1 z sz rows ex (some l) (some h) = if (l ≤ h ∧ h ≤ rows.length) ∧ (rows = [] ∨ z = sz) then some (.i (.sl sz ((rows.drop l).take (h - l)) (ex && decide (h = rows.length)))) else none := rfl
theorem slN2_sl (z c g off len l h sz g' : Nat) (rows : List (List IV)) (ex : Bool) : slN2 z c g off len (some l) (some h) (some (.sl sz g' rows ex)) = if (l ≤ h ∧ h ≤ len) ∧ g = g' ∧ z = sz then some (.ref c g (off + l) (h - l)) else none := rfl
theorem slN2_fz (z c g off len l h sz g' : Nat) (rows : List (List IV)) (ex : Bool) : slN2 z c g off len (some l) (some h) (some (.fz sz g' rows ex)) = if (l ≤ h ∧ h ≤ len) ∧ g = g' ∧ z = sz ∧ off + len ≤ rows.length then some (.i (.sl sz ((rows.drop (off + l)).take (h - l)) (ex && decide (off + h = rows.length)))) else none := rfl
theorem sl_sl {t e : TypeId} {z : Nat} (ht : slO E.P t = some e) (hz : szO E.P e = some z) (hs : isStrO E.P t = false) (x : AV) (lo hi : Option AV) : sliceE E H t x lo hi none = slN z H lo hi x := by
 unfold sliceE
 cases x with
 | i x => cases x with
  | sl sz rows ex =>
   simp only [lenE, slN, ht, hz, slN1]
   cases bnd 0 lo with
   | none => rfl
   | some l => cases bnd rows.length hi with
    | none => rfl
    | some h =>
     simp only
     by_cases h1 : l ≤ h ∧ h ≤ rows.length <;> by_cases h2 : rows = [] ∨ z = sz <;> simp [h1, h2]
  | str s =>
   simp only [lenE, slN, hs]
   cases bnd 0 lo with
   | none => rfl
   | some l => cases bnd s.length hi with
    | none => rfl
    | some h => by_cases h1 : l ≤ h ∧ h ≤ s.length <;> simp [h1]
  | _ => rfl
 | ref c g off len =>
  simp only [lenE, slN, ht]
  cases bnd 0 lo with
  | none => simp [slN2]
  | some l => cases bnd len hi with
   | none => simp [slN2]
   | some h =>
    simp only
    cases hc : H[c]? with
    | none => simp [slN2]
    | some y =>
     cases y with
     | sl sz g' rows ex =>
      simp only [slN2, hz, Option.isNone_none, true_and, Option.some.injEq]
      by_cases h1 : l ≤ h ∧ h ≤ len <;> by_cases h2 : g = g' ∧ z = sz <;> simp [h1, h2]
     | fz sz g' rows ex =>
      simp only [slN2, hz, Option.some.injEq]
      by_cases h1 : l ≤ h ∧ h ≤ len <;> by_cases h2 : g = g' ∧ z = sz ∧ off + len ≤ rows.length <;> simp [h1, h2]
     | _ => simp [slN2]
 | _ => rfl
theorem rg0 : List.range 0 = [] := rfl
theorem rg1 : List.range 1 = [0] := rfl
theorem rg2 : List.range 2 = [0, 1] := rfl
theorem rg3 : List.range 3 = [0, 1, 2] := rfl
theorem rg4 : List.range 4 = [0, 1, 2, 3] := rfl
theorem rg5 : List.range 5 = [0, 1, 2, 3, 4] := rfl
theorem reach_cons (n c : Nat) (r seen : List Nat) : reach H (n + 1) (c :: r) seen = if c ∈ seen ∨ H.length ≤ c then reach H n r seen else reach H n (((H[c]?).map Chunk.refs).getD [] ++ r) (seen ++ [c]) := rfl
end
end Go.VI

set_option linter.unusedSimpArgs false
set_option linter.unusedVariables false
namespace Go.VI
def rdJ : Option (Ex × Fr × Hp) → Option (Ex × Hp)
 | some (e, _, H) => some (e, H)
 | none => none
def rdK (k : Fr → Hp → Option (Ex × Fr × Hp)) : Option (Ex × Fr × Hp) → Option (Ex × Hp)
 | some (.normal, fr, H) => rdJ (k fr H)
 | _ => none
theorem rd_eq {E : Env} {f : FuncId} (a b : Code) (fr : Fr) (H : Hp) : rdE (fun B' c fr H => execT E B' f c fr H) a b fr H = rdK (execT E H.length f b) (execT E H.length f a fr H) := by
 unfold rdE rdK
 simp only
 cases execT E H.length f a fr H with
 | none => rfl
 | some q =>
  obtain ⟨e, fr1, H1⟩ := q
  cases e with
  | normal =>
   simp only
   cases execT E H.length f b fr1 H1 with
   | none => rfl
   | some q => obtain ⟨e, f2, h2⟩ := q; rfl
  | _ => rfl
theorem rdK_n (k : Fr → Hp → Option (Ex × Fr × Hp)) (fr : Fr) (H : Hp) : rdK k (some (.normal, fr, H)) = rdJ (k fr H) := rfl
theorem rdJ_some (e : Ex) (fr : Fr) (H : Hp) : rdJ (some (e, fr, H)) = some (e, H) := rfl
def rgN (k : Hp → Option (Ex × Fr × Hp)) (fr : Fr) : Option (Ex × Hp) → Option (Ex × Fr × Hp)
 | some (.normal, H1) => k H1
 | some (e, H1) => some (e, fr, H1)
 | none => none
theorem rgE_nil (rd : Fr → Hp → Option (Ex × Hp)) (p : Nat) (fr : Fr) (H : Hp) : rgE rd p fr [] H = some (.normal, fr, H) := rfl
theorem rgE_cons (rd : Fr → Hp → Option (Ex × Hp)) (p : Nat) (fr : Fr) (x : AV) (xs : List AV) (H : Hp) :
  rgE rd p fr (x :: xs) H = rgN (rgE rd p fr xs) fr (rd ((p, x) :: fr) H) := by
 unfold rgN
 simp only [rgE]
 cases rd ((p, x) :: fr) H with
 | none => rfl
 | some q => obtain ⟨e, H1⟩ := q; cases e <;> rfl
theorem rgN_n (k : Hp → Option (Ex × Fr × Hp)) (fr : Fr) (H : Hp) : rgN k fr (some (.normal, H)) = k H := rfl
theorem rgN_r (k : Hp → Option (Ex × Fr × Hp)) (fr : Fr) (H : Hp) : rgN k fr (some (.ret, H)) = some (.ret, fr, H) := rfl
theorem rgN_e (k : Hp → Option (Ex × Fr × Hp)) (fr : Fr) (id : Nat) (H : Hp) : rgN k fr (some (.exit id, H)) = some (.exit id, fr, H) := rfl
theorem rgO_some (rd : Fr → Hp → Option (Ex × Hp)) (p : Nat) (fr : Fr) (H : Hp) (xs : List AV) : rgO rd p fr H (some xs) = rgE rd p fr xs H := rfl
def rfs : Code → List Code
 | .seq a b => rfs a ++ rfs b
 | .cond _ a b => rfs a ++ rfs b
 | .block _ c => rfs c
 | .loop c => rfs c
 | .scope c => rfs c
 | .rangeFunc g ps a b => [.rangeFunc g ps a b]
 | _ => []
def rfC (fn : Func) (k : Nat) : Code := match fn.body with
 | some c => ((rfs c)[k]?).getD .skip
 | none => .skip
def rfP : Code → Code × Code
 | .rangeFunc _ _ a b => (a, b)
 | _ => (.skip, .skip)
def rfAt (fn : Func) (k : Nat) : Code × Code := rfP (rfC fn k)
noncomputable def rdF (E : Env) (f : FuncId) (ab : Code × Code) : Fr → Hp → Option (Ex × Hp) := rdE (fun B' c fr H => execT E B' f c fr H) ab.1 ab.2
theorem rf_intro {E : Env} {B f k p : Nat} {fn : Func} {a b : Code} {g : Operand} {ps : Array Tmp} (h : rfC fn k = .rangeFunc g ps a b) (hp : ps = #[p]) (fr : Fr) (H : Hp) : execT E B f (.rangeFunc g ps a b) fr H = rgO (rdF E f (rfAt fn k)) p fr H (seqE E H (opd E fr g)) := by
 subst hp
 rw [execT_rangeFunc, rfAt, h]; rfl
theorem rd_step {E : Env} {f k : Nat} {fn : Func} {a b : Code} {g : Operand} {ps : Array Tmp} (h : rfC fn k = .rangeFunc g ps a b) (fr : Fr) (H : Hp) : rdF E f (rfAt fn k) fr H = rdK (execT E H.length f b) (execT E H.length f a fr H) := by
 rw [rfAt, h]; exact rd_eq a b fr H
def cpJ : Option (List IV) → Option (List (List IV)) → Option (List (List IV))
 | some a, some b => some (a :: b)
 | _, _ => none
def cpK : Option Chunk → Option (List (List IV)) → Option (List (List IV))
 | some (.box cells), x => cpJ (ivsOf cells) x
 | _, _ => none
theorem capsI_nil (H : Hp) : capsI H [] = some [] := rfl
theorem capsI_ptr (H : Hp) (c g : Nat) (r : List AV) : capsI H (.ptr c g 0 0 :: r) = cpK H[c]? (capsI H r) := by
 simp only [capsI]
 cases H[c]? with
 | none => rfl
 | some x =>
  cases x with
  | box cells => simp only [cpK]; cases ivsOf cells <;> cases capsI H r <;> rfl
  | _ => rfl
theorem cpK_box (cells : List AV) (x : Option (List (List IV))) : cpK (some (.box cells)) x = cpJ (ivsOf cells) x := rfl
theorem cpJ_some (a : List IV) (b : List (List IV)) : cpJ (some a) (some b) = some (a :: b) := rfl
def sqK : Option (List (List IV) → Option (List AV)) → Option (List (List IV)) → Option (List AV)
 | some L, some css => L css
 | _, _ => none
theorem seqE_clo {E : Env} (H : Hp) (g : FuncId) (caps : List AV) : seqE E H (.clo (.func g) [] caps) = sqK (E.seq g) (capsI H caps) := by
 simp only [seqE]
 cases E.seq g with
 | none => rfl
 | some L => cases capsI H caps with
  | none => rfl
  | some css => rfl
theorem sqK_some (L : List (List IV) → Option (List AV)) (css : List (List IV)) : sqK (some L) (some css) = L css := rfl
theorem sl_sl3 {E : Env} {H : Hp} {t e : TypeId} {z : Nat} (ht : slO E.P t = some e) (hz : szO E.P e = some z) (sz : Nat) (rows : List (List IV)) (ex : Bool) (k k' : IntKind) (h m : Int) :
  sliceE E H t (.i (.sl sz rows ex)) none (some (.i (.v (.int k h)))) (some (.i (.v (.int k' m)))) = if 0 ≤ h ∧ h = m ∧ h ≤ rows.length ∧ (rows = [] ∨ z = sz) then some (.i (.sl sz (rows.take h.toNat) true)) else none := by
 simp only [sliceE, lenE, bnd, ht, hz, Option.isSome_some, and_true]
 by_cases h0 : 0 ≤ h
 ·by_cases hm : h = m
  ·subst hm
   simp only [h0, if_true, Nat.zero_le, true_and, List.drop_zero, Nat.sub_zero]
   by_cases hl : h ≤ rows.length
   ·have hl' : h.toNat ≤ rows.length := by omega
    simp only [hl, hl', if_true, true_and]
   ·have hl' : ¬ h.toNat ≤ rows.length := by omega
    simp only [hl, hl', if_false, false_and]
  ·by_cases hm0 : 0 ≤ m
   ·have hne : ¬ h.toNat = m.toNat := by omega
    simp only [h0, hm, hm0, hne, if_true, if_false, false_and, and_false, Nat.zero_le, true_and]
    repeat' split
    all_goals rfl
   ·simp only [h0, hm, hm0, if_true, if_false, false_and, and_false, Nat.zero_le, true_and]
    repeat' split
    all_goals rfl
 ·simp only [h0, if_false, false_and]
def glyphA (t : List UInt8) : AV := .agg [.i (.str t), .i (.v (.bool false)), .i (.v (.int .i64 0))]
def glyphsL : List (List IV) → Option (List AV)
 | [] => some []
 | [.str t, .v (.int .i64 1), .v (.int .i64 (-1)), .v (.int .i64 (-1)), .v (.int .i64 0)] :: r => (glyphsL r).map (glyphA t :: ·)
 | _ => none
def seqGlyphs : List (List IV) → Option (List AV)
 | [[.sl 5 rows _]] => if rows.length < 1000000 then glyphsL rows else none
 | _ => none
end Go.VI

set_option linter.unusedSimpArgs false
set_option linter.unusedVariables false
namespace Go.VI
section
variable {E : Env} {cl : CallF} {fr : Fr} {H : Hp} {f : FuncId}
theorem touch_lk (t : TypeId) (x k : Operand) (ok : Bool) : touch E fr H (.lookup t x k ok) = refsA (opd E fr x) := rfl
theorem touch_mu (t : TypeId) (m k x : Operand) : touch E fr H (.mapUpdate t m k x) = refsA (opd E fr m) ++ (refsA (opd E fr m)).map (· + bigN) := rfl
theorem touch_in (t : TypeId) (m k x : Operand) : touch E fr H (.insert t m k x) = refsA (opd E fr m) ++ (refsA (opd E fr m)).map (· + bigN) := rfl
theorem op_in (t : TypeId) (m k x : Operand) : evOp E cl (.insert t m k x) fr H = setM E H t (opd E fr m) (opd E fr k) (opd E fr x) := rfl
theorem touch_mm (t : TypeId) (r : Option Operand) : touch E fr H (.makeMap t r) = [] := rfl
theorem op_lk (t : TypeId) (x k : Operand) (ok : Bool) : evOp E cl (.lookup t x k ok) fr H = pK H (lookA E H t (opd E fr x) (opd E fr k) ok) := map_pK _
def mmK (H : Hp) : Option (TypeId × TypeId) → Option (AV × Hp)
 | some _ => some (.mref H.length, H ++ [.map []])
 | none => none
theorem mmK_some (p : TypeId × TypeId) : mmK H (some p) = some (.mref H.length, H ++ [.map []]) := rfl
theorem op_mm (t : TypeId) : evOp E cl (.makeMap t none) fr H = mmK H (mapO E.P t) := rfl
theorem op_mu (t : TypeId) (m k x : Operand) : evOp E cl (.mapUpdate t m k x) fr H = setM E H t (opd E fr m) (opd E fr k) (opd E fr x) := rfl
theorem lookA_m (t : TypeId) (c : Nat) (k : AV) (ok : Bool) : lookA E H t (.mref c) k ok = lookC E t k ok H[c]? := rfl
theorem lookA_i (t : TypeId) (x : IV) (k : AV) : lookA E H t (.i x) k true = lookE E t (.i x) k := rfl
theorem setM_m (t : TypeId) (c : Nat) (k x : AV) : setM E H t (.mref c) k x = setC E H c t k x H[c]? := rfl
theorem cnA_mref (B c : Nat) : cnA B H (.mref c) = .mref c := by simp [cnA]
theorem cnC_map (B c : Nat) (es : List (IV × AV)) : cnC B H c (.map es) = .map (cnE B H es) := rfl
theorem cnC_tb (B c t : Nat) (cells : List AV) : cnC B H c (.tb t cells) = .tb t (cnL B H cells) := rfl
theorem cnC_buf (B c t : Nat) (l : List UInt8) : cnC B H c (.buf t l) = .buf t l := rfl
theorem cnC_gone (B c : Nat) : cnC B H c .gone = .gone := rfl
theorem canC_mref (k : Option Nat) (ks : List (Option Nat)) (c : Nat) (r : List AV) : canC (k :: ks) (.mref c :: r) = .mref c :: canC ks r := rfl
theorem canA_mref (ks : List (Option Nat)) (c : Nat) : canA ks (.mref c) = .mref c := rfl
theorem pr_mref (c : Nat) (r : List AV) : prep H (.mref c :: r) = prK (.mref c) (prep H r) := by simp only [prep]; cases prep H r <;> rfl
theorem fz_mref (c : Nat) : freeze H (.mref c) = none := rfl
theorem ansM_f (v : AV) (zero : Option AV) : ansM false zero (some (some v)) = some v := rfl
theorem ansM_t (v : AV) (zero : Option AV) : ansM true zero (some (some v)) = some (.tup [v, .i (.v (.bool true))]) := rfl
theorem ansM_nf (z : IV) : ansM false (some (.i z)) (some none) = some (.i z) := rfl
theorem ansM_nt (z : IV) : ansM true (some (.i z)) (some none) = some (.tup [.i z, .i (.v (.bool false))]) := rfl
def putR (H : Hp) (c : Nat) : Option (List (IV × AV)) → Option (AV × Hp)
 | some es => some (.dead, H.set c (.map es))
 | none => none
theorem putR_some (c : Nat) (es : List (IV × AV)) : putR H c (some es) = some (.dead, H.set c (.map es)) := rfl
end
end Go.VI

set_option linter.unusedVariables false
namespace Go.VI
theorem ov_bool : ∀ a, ofVal (Value.bool a) = cellOf (Value.bool a) := fun _ => rfl
theorem co_bool : ∀ a, cellOf (Value.bool a) = .i (.v (Value.bool a)) := fun _ => rfl
theorem ov_int : ∀ a b, ofVal (Value.int a b) = cellOf (Value.int a b) := fun _ _ => rfl
theorem co_int : ∀ a b, cellOf (Value.int a b) = .i (.v (Value.int a b)) := fun _ _ => rfl
theorem ov_float : ∀ a b, ofVal (Value.float a b) = cellOf (Value.float a b) := fun _ _ => rfl
theorem co_float : ∀ a b, cellOf (Value.float a b) = .i (.v (Value.float a b)) := fun _ _ => rfl
theorem ov_complex : ∀ a b c, ofVal (Value.complex a b c) = cellOf (Value.complex a b c) := fun _ _ _ => rfl
theorem co_complex : ∀ a b c, cellOf (Value.complex a b c) = .i (.v (Value.complex a b c)) := fun _ _ _ => rfl
theorem ov_pointer : ∀ a, ofVal (Value.pointer a) = cellOf (Value.pointer a) := fun _ => rfl
theorem co_pointer : ∀ a, cellOf (Value.pointer a) = .i (.v (Value.pointer a)) := fun _ => rfl
theorem ov_map : ∀ a, ofVal (Value.map a) = cellOf (Value.map a) := fun _ => rfl
theorem co_map : ∀ a, cellOf (Value.map a) = .i (.v (Value.map a)) := fun _ => rfl
theorem ov_chan : ∀ a, ofVal (Value.chan a) = cellOf (Value.chan a) := fun _ => rfl
theorem co_chan : ∀ a, cellOf (Value.chan a) = .i (.v (Value.chan a)) := fun _ => rfl
theorem ov_func : ∀ a b c, ofVal (Value.func a b c) = cellOf (Value.func a b c) := fun _ _ _ => rfl
theorem co_func : ∀ a b c, cellOf (Value.func a b c) = .i (.v (Value.func a b c)) := fun _ _ _ => rfl
theorem ov_nilFunc : ofVal (Value.nilFunc) = cellOf (Value.nilFunc) := rfl
theorem co_nilFunc : cellOf (Value.nilFunc) = .i (.v (Value.nilFunc)) := rfl
theorem ov_iface : ∀ a b, ofVal (Value.iface a b) = cellOf (Value.iface a b) := fun _ _ => rfl
theorem co_iface : ∀ a b, cellOf (Value.iface a b) = .i (.v (Value.iface a b)) := fun _ _ => rfl
theorem ov_nilIface : ofVal (Value.nilIface) = cellOf (Value.nilIface) := rfl
theorem co_nilIface : cellOf (Value.nilIface) = .i (.v (Value.nilIface)) := rfl
theorem ov_string : ∀ a, ofVal (Value.string a) = cellOf (Value.string a) := fun _ => rfl
theorem ov_slice : ∀ a b c, ofVal (Value.slice a b c) = cellOf (Value.slice a b c) := fun _ _ _ => rfl
theorem ov_tuple : ∀ a, ofVal (Value.tuple a) = cellOf (Value.tuple a) := fun _ => rfl
theorem co_slice : ∀ a b c, cellOf (Value.slice (some a) b c) = .i (.v (Value.slice (some a) b c)) := fun _ _ _ => rfl
theorem cr_sl : ∀ a b c d ρ, Chunk.ren ρ (Chunk.sl a b c d) = (Chunk.sl a b c d) := fun _ _ _ _ _ => rfl
theorem cf_sl : ∀ a b c d, Chunk.refs (Chunk.sl a b c d) = [] := fun _ _ _ _ => rfl
theorem cr_fz : ∀ a b c d ρ, Chunk.ren ρ (Chunk.fz a b c d) = (Chunk.fz a b c d) := fun _ _ _ _ _ => rfl
theorem cf_fz : ∀ a b c d, Chunk.refs (Chunk.fz a b c d) = [] := fun _ _ _ _ => rfl
theorem cr_iter : ∀ a b ρ, Chunk.ren ρ (Chunk.iter a b) = (Chunk.iter a b) := fun _ _ _ => rfl
theorem cf_iter : ∀ a b, Chunk.refs (Chunk.iter a b) = [] := fun _ _ => rfl
theorem cr_buf : ∀ a b ρ, Chunk.ren ρ (Chunk.buf a b) = (Chunk.buf a b) := fun _ _ _ => rfl
theorem cf_buf : ∀ a b, Chunk.refs (Chunk.buf a b) = [] := fun _ _ => rfl
theorem cr_gone : ∀  ρ, Chunk.ren ρ (Chunk.gone) = (Chunk.gone) := fun _ => rfl
theorem cf_gone : Chunk.refs (Chunk.gone) = [] := rfl
theorem if_makeMapN : ∀ a, isFresh (Op.makeMap a none) = true := fun _ => rfl
theorem if_makeMapS : ∀ a b, isFresh (Op.makeMap a (some b)) = false := fun _ _ => rfl
theorem if_move : ∀ a, isFresh (Op.move a) = false := fun _ => rfl
theorem if_assign : ∀ a, isFresh (Op.assign a) = false := fun _ => rfl
theorem if_pick : ∀ a b c, isFresh (Op.pick a b c) = false := fun _ _ _ => rfl
theorem if_build : ∀ a b, isFresh (Op.build a b) = false := fun _ _ => rfl
theorem if_insert : ∀ a b c d, isFresh (Op.insert a b c d) = false := fun _ _ _ _ => rfl
theorem if_load : ∀ a b, isFresh (Op.load a b) = false := fun _ _ => rfl
theorem if_store : ∀ a b c, isFresh (Op.store a b c) = false := fun _ _ _ => rfl
theorem if_ready : ∀ a, isFresh (Op.ready a) = false := fun _ => rfl
theorem if_waits : ∀ a, isFresh (Op.waits a) = false := fun _ => rfl
theorem if_nilCheck : ∀ a, isFresh (Op.nilCheck a) = false := fun _ => rfl
theorem if_binOp : ∀ a b c d e, isFresh (Op.binOp a b c d e) = false := fun _ _ _ _ _ => rfl
theorem if_unOp : ∀ a b c, isFresh (Op.unOp a b c) = false := fun _ _ _ => rfl
theorem if_convert : ∀ a b c, isFresh (Op.convert a b c) = false := fun _ _ _ => rfl
theorem if_sliceToArrayPointer : ∀ a b, isFresh (Op.sliceToArrayPointer a b) = false := fun _ _ => rfl
theorem if_makeInterface : ∀ a b, isFresh (Op.makeInterface a b) = false := fun _ _ => rfl
theorem if_makeFunc : ∀ a b c, isFresh (Op.makeFunc a b c) = false := fun _ _ _ => rfl
theorem if_makeChan : ∀ a b, isFresh (Op.makeChan a b) = false := fun _ _ => rfl
theorem if_slice : ∀ a b c d e, isFresh (Op.slice a b c d e) = false := fun _ _ _ _ _ => rfl
theorem if_fieldAddr : ∀ a b c, isFresh (Op.fieldAddr a b c) = false := fun _ _ _ => rfl
theorem if_field : ∀ a b c, isFresh (Op.field a b c) = false := fun _ _ _ => rfl
theorem if_indexAddr : ∀ a b c, isFresh (Op.indexAddr a b c) = false := fun _ _ _ => rfl
theorem if_index : ∀ a b c, isFresh (Op.index a b c) = false := fun _ _ _ => rfl
theorem if_lookup : ∀ a b c d, isFresh (Op.lookup a b c d) = false := fun _ _ _ _ => rfl
theorem if_mapUpdate : ∀ a b c d, isFresh (Op.mapUpdate a b c d) = false := fun _ _ _ _ => rfl
theorem if_mapEntry : ∀ a b c, isFresh (Op.mapEntry a b c) = false := fun _ _ _ => rfl
theorem if_entryStore : ∀ a b c d, isFresh (Op.entryStore a b c d) = false := fun _ _ _ _ => rfl
theorem if_range : ∀ a b, isFresh (Op.range a b) = false := fun _ _ => rfl
theorem if_next : ∀ a b, isFresh (Op.next a b) = false := fun _ _ => rfl
theorem if_entry : ∀ a, isFresh (Op.entry a) = false := fun _ => rfl
theorem if_typeAssert : ∀ a b c d, isFresh (Op.typeAssert a b c d) = false := fun _ _ _ _ => rfl
theorem if_extract : ∀ a b, isFresh (Op.extract a b) = false := fun _ _ => rfl
theorem if_call : ∀ a, isFresh (Op.call a) = false := fun _ => rfl
theorem on_dead : one (AV.dead) = false := rfl
theorem on_agg : ∀ a, one (AV.agg a) = false := fun _ => rfl
theorem on_tup : ∀ a, one (AV.tup a) = false := fun _ => rfl
theorem ca_dead : cellsA (AV.dead) = [(AV.dead)] := rfl
theorem ca_i : ∀ a, cellsA (AV.i a) = [(AV.i a)] := fun _ => rfl
theorem ca_ref : ∀ a b c d, cellsA (AV.ref a b c d) = [(AV.ref a b c d)] := fun _ _ _ _ => rfl
theorem ca_ptr : ∀ a b c d, cellsA (AV.ptr a b c d) = [(AV.ptr a b c d)] := fun _ _ _ _ => rfl
theorem ca_mref : ∀ a, cellsA (AV.mref a) = [(AV.mref a)] := fun _ => rfl
theorem ca_clo : ∀ a b c, cellsA (AV.clo a b c) = [(AV.clo a b c)] := fun _ _ _ => rfl
theorem ca_tup : ∀ a, cellsA (AV.tup a) = [(AV.tup a)] := fun _ => rfl
theorem fr_skip : firstRegion (Code.skip) = none := rfl
theorem fr_exit : ∀ a, firstRegion (Code.exit a) = none := fun _ => rfl
theorem fr_label : ∀ a, firstRegion (Code.label a) = none := fun _ => rfl
theorem fr_goto : ∀ a, firstRegion (Code.goto a) = none := fun _ => rfl
theorem fr_ret : firstRegion (Code.ret) = none := rfl
theorem evL_len (E : Env) (fr : Fr) (H : Hp) (x : Operand) (t : TypeId) : evL E fr H (.call ⟨.builtin .len, #[x], #[t]⟩) = if isStrO E.P t = true ∨ (slO E.P t).isSome = true then match opd E fr x with
   | .i (.str l) => if isStrO E.P t = true then some (.int .i64 l.length) else none
   | .i (.sl _ rows _) => if isStrO E.P t = true then none else some (.int .i64 rows.length)
   | .ref _ _ _ len => if isStrO E.P t = true then none else some (.int .i64 len)
   | _ => none
   else none := rfl
theorem evH_app (E : Env) (fr : Fr) (H : Hp) (s x : Operand) (t t2 : TypeId) : evH E fr H (.call ⟨.builtin .append, #[s, x], #[t, t2]⟩) = appendE E H t t2 (opd E fr s) (opd E fr x) := rfl
theorem evH_copy (E : Env) (fr : Fr) (H : Hp) (d x : Operand) (t t2 : TypeId) : evH E fr H (.call ⟨.builtin .copy, #[d, x], #[t, t2]⟩) = copyE E H t (opd E fr d) (opd E fr x) := rfl
def nextA (H : Hp) : AV → Option (AV × Hp)
 | .ptr c _ _ 0 => match H[c]? with
  | some (.iter s pos) => if pos < s.length then
    some (.tup [.bool true, .int .i64 pos, .int .i32 (Utf8.decode ⟨⟨s⟩⟩ pos).1], H.set c (.iter s (pos + (Utf8.decode ⟨⟨s⟩⟩ pos).2))) else some (.tup [.bool false], H)
  | _ => none
 | _ => none
theorem evH_next (E : Env) (fr : Fr) (H : Hp) (it : Operand) : evH E fr H (.next it true) = nextA H (opd E fr it) := by
 unfold nextA
 simp only [evH]
 split
 ·rename_i h; rw [h]; rfl
 ·rename_i h
  split
  ·rename_i c g r hh; exact absurd hh (h c g r rfl)
  ·rfl
theorem nextA_ptr (H : Hp) (c g r : Nat) : nextA H (.ptr c g r 0) = match H[c]? with
  | some (.iter s pos) => if pos < s.length then
    some (.tup [.bool true, .int .i64 pos, .int .i32 (Utf8.decode ⟨⟨s⟩⟩ pos).1], H.set c (.iter s (pos + (Utf8.decode ⟨⟨s⟩⟩ pos).2))) else some (.tup [.bool false], H)
  | _ => none := rfl
end Go.VI

set_option linter.unusedVariables false
set_option linter.defProp false
namespace Go.VI
def va0 := And.intro @execT_seq (And.intro @execT_region (And.intro @execT_cond (And.intro @execT_block (And.intro @execT_exit (And.intro @execT_ret (And.intro @execT_skip (And.intro @execT_label (And.intro @execT_scope (And.intro @seqK_n (And.intro @seqK_e (And.intro @seqK_r (And.intro @regK_some (And.intro @regTK_some (And.intro @condK_t (And.intro @condK_f (And.intro @blockK_n (And.intro @blockK_r (And.intro @blockK_e (@endK_r)))))))))))))))))))
def va1 := And.intro @endK_n (And.intro @endR_some (And.intro @resE_eq (And.intro @resEs_nil (And.intro @resEs_cons (And.intro @resE1_t (And.intro @resE1_c (And.intro @consK_some (And.intro @tupK_1 (And.intro @tupK_2 (And.intro @evOps_nil (And.intro @evOps_cons (And.intro @evOps_guard (And.intro @opK_some (And.intro @guK_t (And.intro @guK_f (And.intro @gV_b (And.intro @gV_u (And.intro @evT_nil (@evT_cons)))))))))))))))))))
def va2 := And.intro @evT_guard (And.intro @tK_some (And.intro @opT_some (And.intro @guT_t (And.intro @guT_f (And.intro @pK_some (And.intro @op_move (And.intro @op_assign (And.intro @op_pick (And.intro @pickK_bb (And.intro @pickK_t (And.intro @pickK_f (And.intro @op_load (And.intro @op_bin (And.intro @op_un (And.intro @op_slice (And.intro @op_slice3 (And.intro @s3K_some (And.intro @op_index (@op_indexAddr)))))))))))))))))))
def va3 := And.intro @op_field (And.intro @op_build (And.intro @op_makeFunc (And.intro @op_nil (And.intro @op_extract (And.intro @op_fieldAddr (And.intro @op_len (And.intro @op_max (And.intro @op_min (And.intro @op_append (And.intro @op_range (And.intro @op_nx (And.intro @nxA_ptr (And.intro @nxK_iter (And.intro @op_alloc (And.intro @op_box (And.intro @op_buildSlice (And.intro @op_store (And.intro @stK_some (@op_makeSlice)))))))))))))))))))
def va4 := And.intro @op_call (And.intro @clK_f (And.intro @caK_t (And.intro @touch_call (And.intro @touch_bi (And.intro @touch_load (And.intro @touch_ia (And.intro @touch_slice (And.intro @touch_store (And.intro @touch_bs (And.intro @touch_move (And.intro @touch_assign (And.intro @touch_pick (And.intro @touch_bin (And.intro @touch_un (And.intro @touch_conv (And.intro @touch_range (And.intro @touch_next (And.intro @touch_mf (@touch_field)))))))))))))))))))
def va5 := And.intro @touch_fa (And.intro @touch_ix (And.intro @touch_ex (And.intro @touch_nil (And.intro @touch_bd (And.intro @touch_alloc (And.intro @touch_box (And.intro @touch_ms (And.intro @tcK_f (And.intro @crK_some (And.intro @reach_nil (And.intro @reach_cons (And.intro @gc_T (And.intro @rlG_mk (And.intro @rg0 (And.intro @rg1 (And.intro @rg2 (And.intro @rg3 (And.intro @rg4 (@rg5)))))))))))))))))))
def va6 := And.intro @evD_nil (And.intro @evD_op (And.intro @evD_guard (And.intro @opD_some (And.intro @guD_t (And.intro @guD_f (And.intro @putH_hole (And.intro @norm_nil (And.intro @norm_cons (And.intro @be_ii (And.intro @be_ss (And.intro @be_bb (And.intro @be_bn (And.intro @be_pn (And.intro @be_pnn (And.intro @be_tn (And.intro @be_tnn (And.intro @be_nn (And.intro @be_nnn (@prepK_some)))))))))))))))))))
def va7 := And.intro @peP_some (And.intro @brK_some (And.intro @tupK_0 (And.intro @pr_nil (And.intro @pr_i (And.intro @pr_dead (And.intro @pr_ptr (And.intro @pr_clo (And.intro @pr_tup (And.intro @pr_ref (And.intro @pr_agg (And.intro @prK_some (And.intro @prF_some (And.intro @prG_some (And.intro @prG_none (And.intro @fz_i (And.intro @fz_ref (And.intro @fz_ptr (And.intro @fz_clo (@fzK_sl)))))))))))))))))))
def va8 := And.intro @fzK_fz (And.intro @faK_some (And.intro @faK_none (And.intro @faF_some (And.intro @faF_none (And.intro @fa_nil (And.intro @fa_cons (And.intro @fa_map (And.intro @retE_tup (And.intro @retE_i (And.intro @retE_agg (And.intro @retE_ref (And.intro @retE_ptr (And.intro @retE_clo (And.intro @retL_eq (And.intro @rtK_f (And.intro @rtK_t (And.intro @rtP_some (And.intro @ret1_some (@retN_some)))))))))))))))))))
def va9 := And.intro @canI_n (And.intro @canI_v (And.intro @canI_str (And.intro @canI_pt (And.intro @canI_sl (And.intro @canI_nil (And.intro @canR_nil (And.intro @canR_e (And.intro @canR_cons (And.intro @canC_nil (And.intro @canC_e (And.intro @canC_i (And.intro @canC_ref (And.intro @canC_ptr (And.intro @canC_clo (And.intro @canA_i (And.intro @canA_i0 (And.intro @canA_agg (And.intro @canA_ref (@canA_ptr)))))))))))))))))))
def va10 := And.intro @canA_clo (And.intro @canA_tup (And.intro @canLs_nil (And.intro @canLs_e (And.intro @canLs_cons (And.intro @matV_nil (And.intro @matV_false (And.intro @matV_ref (And.intro @mat1_z (And.intro @mat1_n (And.intro @mat1_0 (And.intro @mat1_2 (And.intro @matL_nil (And.intro @matL_e (And.intro @matL_cons (And.intro @matF_nil (And.intro @matF_cons (And.intro @matB_nil (And.intro @matB_cons (@matB2_ptr)))))))))))))))))))
def va11 := And.intro @matB1_box (And.intro @matB3_some (And.intro @frzF_nil (And.intro @frzF_cons (And.intro @frz1_some (And.intro @cnA_i (And.intro @cnA_dead (And.intro @cnA_agg (And.intro @cnA_tup (And.intro @cnA_clo (And.intro @cnA_ref (And.intro @cnA_ptr (And.intro @cnRef_sl (And.intro @cnRef_fz (And.intro @cnPtr_sl (And.intro @cnPtr_fz (And.intro @cnPtr_box (And.intro @cnPtr_iter (And.intro @cnL_nil (@cnL_cons)))))))))))))))))))
def va12 := And.intro @cnC_box (And.intro @cnC_sl (And.intro @cnC_fz (And.intro @cnC_iter (And.intro @cnHs_nil (And.intro @cnHs_cons (And.intro @cnF_nil (And.intro @cnF_cons (And.intro @gcn_eq (And.intro @rlM_eq (And.intro @nc1 (And.intro @cvK_str (And.intro @u8_eq (And.intro @slSK_some (And.intro @bnd_n (And.intro @bnd_i (And.intro @slN_i (And.intro @slN_ref (And.intro @slN1_some (@slN2_sl)))))))))))))))))))
def va13 := And.intro @slN2_fz (And.intro @cvS_some (And.intro @rowsE_i (And.intro @rowsE_ref (And.intro @numsOf_nil (And.intro @numsOf_cons (And.intro @numsOf_bytes (And.intro @bytes_back (And.intro @apS_some (And.intro @apV_i (And.intro @apV_ref (And.intro @apC_sl (And.intro @apC_fz (And.intro @src_str (And.intro @src_sl (And.intro @src_ref (And.intro @rsC_sl (And.intro @rsC_fz (And.intro @bsF_some (@bsG_some)))))))))))))))))))
def va14 := And.intro @stC_box (And.intro @stC_sl (And.intro @stF_some (And.intro @stG_sl (And.intro @stR_some (And.intro @set_concat (And.intro @aggK_some (And.intro @fillS_nil (And.intro @fillS_cons (And.intro @fsK_some (And.intro @cpR_ref (And.intro @copyC_sl (And.intro @op_copy (And.intro @cvR_str (And.intro @rdK_n (And.intro @rdJ_some (And.intro @rgE_nil (And.intro @rgE_cons (And.intro @rgN_n (@rgN_r)))))))))))))))))))
def va15 := And.intro @rgN_e (And.intro @rgO_some (And.intro @capsI_nil (And.intro @capsI_ptr (And.intro @cpK_box (And.intro @cpJ_some (And.intro @seqE_clo (And.intro @sqK_some (And.intro @touch_lk (And.intro @touch_mu (And.intro @touch_mm (And.intro @op_lk (And.intro @mmK_some (And.intro @op_mm (And.intro @op_mu (And.intro @lookA_m (And.intro @lookA_i (And.intro @setM_m (And.intro @cnA_mref (@cnC_map)))))))))))))))))))
def va16 := And.intro @cnC_tb (And.intro @cnC_buf (And.intro @cnC_gone (And.intro @canC_mref (And.intro @canA_mref (And.intro @pr_mref (And.intro @fz_mref (And.intro @ansM_f (And.intro @ansM_t (And.intro @ansM_nf (And.intro @ansM_nt (And.intro @putR_some (And.intro @touch_in (And.intro @op_in (@mkE_one))))))))))))))
def vb0 := And.intro @List.flatMap_cons.{0, 0} (And.intro @List.flatMap_nil.{0, 0} (And.intro @List.filter_cons.{0} (And.intro @List.filter_nil.{0} (And.intro @List.mem_cons.{0} (And.intro @List.not_mem_nil.{0} (And.intro @List.replicate_zero.{0} (And.intro @List.replicate_succ.{0} (And.intro @List.foldl_cons.{0, 0} (And.intro @List.foldl_nil.{0, 0} (And.intro @List.toList_toArray.{0} (And.intro @List.getElem?_cons_zero.{0} (And.intro @List.getElem?_cons_succ.{0} (And.intro @List.getElem?_toArray.{0} (And.intro @Option.map_some.{0, 0} (And.intro @Option.map_none.{0, 0} (And.intro @Option.bind_some.{0, 0} (And.intro @Option.bind_none.{0, 0} (And.intro @Option.getD_some.{0} (@Option.getD_none.{0})))))))))))))))))))
def vb1 := And.intro @Option.isSome_some.{0} (And.intro @Option.isSome_none.{0} (And.intro @Option.isNone_none.{0} (And.intro @Bool.false_eq_true (And.intro @List.all_nil.{0} (And.intro @List.all_cons.{0} (And.intro @List.cons_append.{0} (And.intro @List.nil_append.{0} (And.intro @List.append_nil.{0} (And.intro @Bool.and_true (And.intro @Bool.true_and (And.intro @Bool.and_false (And.intro @Bool.false_and (And.intro @Bool.or_true (And.intro @Bool.true_or (And.intro @Bool.or_false (And.intro @Bool.false_or (And.intro @Bool.not_true (And.intro @Bool.not_false (@List.getD_cons_zero.{0})))))))))))))))))))
def vb2 := And.intro @List.getD_cons_succ.{0} (And.intro @Nat.add_zero (And.intro @Nat.zero_add (And.intro @List.length_cons.{0} (And.intro @List.length_nil.{0} (And.intro @List.length_map.{0, 0} (And.intro @Nat.sub_self (And.intro @List.range'_zero (And.intro @List.range'_one (And.intro @Nat.lt_irrefl (And.intro @Nat.le_refl (And.intro @Int.toNat_natCast (And.intro @Nat.zero_lt_succ (And.intro @Int.natCast_nonneg (And.intro @List.drop_zero.{0} (And.intro @List.contains_nil.{0} (And.intro @List.contains_cons.{0} (And.intro @List.elem_nil.{0} (And.intro @List.cons.injEq.{0} (@Int.cast_ofNat_Int)))))))))))))))))))
def vb3 := And.intro @List.getElem?_nil.{0} (And.intro @Option.some.injEq.{0} (And.intro @List.append_eq.{0} (And.intro @List.set_cons_zero.{0} (And.intro @List.set_cons_succ.{0} (And.intro @List.set_nil.{0} (And.intro @List.length_set.{0} (And.intro @List.length_append.{0} (And.intro @List.getElem?_map.{0, 0} (And.intro @Bool.cond_true_left (And.intro @Bool.cond_false_right (And.intro @Bool.cond_false_left (And.intro @Bool.cond_true_right (And.intro @Int.not_lt (And.intro @Int.not_le (And.intro @UInt8.ofNat_toNat (And.intro @Classical.not_not (And.intro @List.flatten_cons.{0} (And.intro @List.flatten_nil.{0} (@List.getElem?_concat_length.{0})))))))))))))))))))
end Go.VI

set_option linter.unusedSimpArgs false
set_option linter.unusedVariables false
namespace Go.VI

end Go.VI

