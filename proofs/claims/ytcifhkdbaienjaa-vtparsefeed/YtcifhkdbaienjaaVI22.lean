/- VI, part 22: calls as equations at any memory; arithmetic that the context decides. -/
import Derived.Test.YtcifhkdbaienjaaVI19
set_option linter.unusedSimpArgs false
set_option linter.unusedVariables false
namespace Go.VI
section
variable {E : Env} {cl : CallF} {H : Hp}

/-- a call whose arguments are handed on: slices as immutable ones -/
def isoK (E : Env) (cl : CallF) (f : FuncId) (args1 : List AV) (H1 : Hp) : Option (AV × Hp) :=
  match E.ext f with
  | some h => (h args1).map fun r => (r, H1)
  | none =>
    let R := reach H1 64 (refsL args1) []
    let into := posIn R
    match cl f (renL into args1) (R.map fun c => ((H1[c]?).map (Chunk.ren into)).getD (.iter [] 0)) with
    | none => none
    | some (r, L) => if L.length < R.length then none else
      let K := (reach L 64 (refsA r ++ (L.take R.length).flatMap Chunk.refs) []).filter fun i => decide (R.length ≤ i)
      let back := backRen R H1.length K
      some (renA back r, setAll H1 R ((L.take R.length).map (Chunk.ren back)) ++ K.map fun i => ((L[i]?).map (Chunk.ren back)).getD (.iter [] 0))
def prepK (E : Env) (cl : CallF) (f : FuncId) : Option (List AV × Hp) → Option (AV × Hp)
  | some (as, H1) => isoK E cl f as H1
  | none => none
theorem prepK_some (f : FuncId) (as : List AV) (H1 : Hp) : prepK E cl f (some (as, H1)) = isoK E cl f as H1 := rfl
theorem iso_prep {f : FuncId} (args : List AV) : callIso E cl f args H = prepK E cl f (prepE E f H args) := by
  unfold callIso
  cases prepE E f H args with
  | none => rfl
  | some x => rfl
/-- plain arguments, a plain answer -/
theorem isoK_val {g : Nat} {as : List AV} {r : AV} (he : E.ext g = none) (hr : refsL as = []) (hrr : refsA r = []) (hc : ∃ L, cl g as [] = some (r, L)) : isoK E cl g as H = some (r, H) := by
  obtain ⟨L, hc⟩ := hc
  have h1 := (refs_ren (posIn [])).2 as hr
  have h2 : ∀ ρ, renA ρ r = r := fun ρ => (refs_ren ρ).1 r hrr
  unfold isoK
  simp [he, hr, reach, h1, hc, hrr, h2, setAll]
/-- a call that hands memory on, step by step -/
def isoF (H : Hp) (R : List Nat) (r : AV) (L : Hp) (K : List Nat) : Option (AV × Hp) :=
  some (renA (backRen R H.length K) r, setAll H R ((L.take R.length).map (Chunk.ren (backRen R H.length K))) ++ K.map fun i => ((L[i]?).map (Chunk.ren (backRen R H.length K))).getD (.iter [] 0))
def isoB (H : Hp) (R : List Nat) : Option (AV × Hp) → Option (AV × Hp)
  | none => none
  | some (r, L) => if L.length < R.length then none else isoF H R r L ((reach L 64 (refsA r ++ (L.take R.length).flatMap Chunk.refs) []).filter fun i => decide (R.length ≤ i))
def isoL (E : Env) (cl : CallF) (f : FuncId) (as : List AV) (H : Hp) (R : List Nat) : Option (AV × Hp) := isoB H R (cl f (renL (posIn R) as) (R.map fun c => ((H[c]?).map (Chunk.ren (posIn R))).getD (.iter [] 0)))
theorem isoK_R {f : FuncId} (he : E.ext f = none) (as : List AV) : isoK E cl f as H = isoL E cl f as H (reach H 64 (refsL as) []) := by
  unfold isoK isoL isoB
  rw [he]
  simp only
  generalize cl f _ _ = q
  cases q <;> rfl
theorem isoB_some (R : List Nat) (r : AV) (L : Hp) : isoB H R (some (r, L)) = if L.length < R.length then none else isoF H R r L ((reach L 64 (refsA r ++ (L.take R.length).flatMap Chunk.refs) []).filter fun i => decide (R.length ≤ i)) := rfl
theorem reach_one {L : Hp} {c : Nat} {x : Chunk} (h : L[c]? = some x) (hx : x.refs = []) : reach L 64 [c] [] = [c] := by
  have hl : ¬ L.length ≤ c := by
    have := (List.getElem?_eq_some_iff.1 h).1
    omega
  simp [reach, h, hx, hl]
/-- plain arguments; the answer is a new slice (and plain values beside it) -/
theorem isoK_new {g : Nat} {as : List AV} {c gg o n : Nat} {x : Chunk} (he : E.ext g = none) (hr : refsL as = []) (hx : x.refs = []) (hc : ∃ L, cl g as [] = some (.ref c gg o n, L) ∧ L[c]? = some x) :
    isoK E cl g as H = some (.ref H.length gg o n, H ++ [x]) := by
  obtain ⟨L, hc, hL⟩ := hc
  have h1 := (refs_ren (posIn [])).2 as hr
  have hxr : ∀ ρ, x.ren ρ = x := by
    intro ρ
    cases x with
    | box cells => exact congrArg Chunk.box ((refs_ren ρ).2 cells hx)
    | _ => rfl
  have hR := reach_one hL hx
  unfold isoK
  rw [he, hr]
  simp only [reach, h1, List.map_nil, hc, List.length_nil, Nat.not_lt_zero, if_false, List.take_zero, List.flatMap_nil, List.append_nil, refsA, hR]
  simp [renA, backRen, posIn, hL, hxr, setAll]
end

/-! appending, slices built: the types' part is closed -/
def appT (E : Env) (t t2 : TypeId) : Option Nat :=
  match slO E.P t with
  | some e => match szO E.P e, bytesO E.P e, zeroO E.P e with
    | some z, some b, some zv => if 0 < z ∧ b ≤ 65536 ∧ ((slO E.P t2).isSome = true ∨ isStrO E.P t2 = true) ∧ (cellsA zv).length = z ∧ (cellsA zv).all one = true then some z else none
    | _, _, _ => none
  | none => none
def apC (z : Nat) (H : Hp) (c g off len : Nat) (new : List (List IV)) : Option Chunk → Option (AV × Hp)
  | some (.sl sz g' rows ex) => if g = g' ∧ off = 0 ∧ sz = z ∧ len + new.length < 1073741824 then
      some (.ref c (g + 1) 0 (len + new.length), H.set c (.sl z (g + 1) (rows.take len ++ new) (ex && rows.isEmpty && new.isEmpty))) else none
  | some (.fz sz g' rows ex) => if g = g' ∧ off = 0 ∧ sz = z ∧ ex = true ∧ len = rows.length ∧ new ≠ [] ∧ len + new.length < 1073741824 then
      some (.ref H.length 0 0 (len + new.length), H ++ [.sl z 0 (rows ++ new) false]) else none
  | _ => none
def apV (z : Nat) (H : Hp) (new : List (List IV)) : AV → Option (AV × Hp)
  | .i (.sl sz rows ex) => if ex = true ∧ (rows = [] ∨ (sz = z ∧ new ≠ [])) ∧ rows.length + new.length < 1073741824 then
      some (.ref H.length 0 0 (rows.length + new.length), H ++ [.sl z 0 (rows ++ new) (rows.isEmpty && new.isEmpty)]) else none
  | .ref c g off len => apC z H c g off len new H[c]?
  | _ => none
def apS (z : Nat) (H : Hp) (s : AV) : Option (Nat × List (List IV) × Bool) → Option (AV × Hp)
  | some (z', new, _) => if new = [] ∨ z' = z then apV z H new s else none
  | none => none
theorem ap_eq {E : Env} {t t2 z : Nat} (h : appT E t t2 = some z) (H : Hp) (s x : AV) : appendE E H t t2 s x = apS z H s (srcE H x) := by
  unfold appT at h
  split at h
  · rename_i e he
    split at h
    · rename_i z1 b zv h1 h2 h3
      split at h
      · rename_i hc
        cases h
        unfold appendE
        rw [he]
        simp only [h1, h2, h3]
        cases hx : srcE H x with
        | none => rfl
        | some y =>
          obtain ⟨z', new, exx⟩ := y
          simp only [apS]
          by_cases hn : new = [] ∨ z' = z
          · rw [if_pos hn, if_pos ⟨hn, hc⟩]
            cases s with
            | i x => cases x <;> rfl
            | ref c g off len =>
              simp only [apV]
              cases H[c]? with
              | none => rfl
              | some ch => cases ch <;> rfl
            | _ => rfl
          · rw [if_neg hn, if_neg (fun h => hn h.1)]
      · cases h
    · cases h
  · cases h
def bsT (E : Env) (t : TypeId) : Option (Nat × List AV × List (Option Nat)) :=
  match slO E.P t with
  | some e => match szO E.P e, zeroO E.P e with
    | some z, some zero => if (cellsA zero).length = z ∧ 0 < z ∧ (cellsA zero).all one = true then some (z, cellsA zero, E.kinds e) else none
    | _, _ => none
  | none => none
def bsG (ks : List (Option Nat)) (z n : Nat) : Option (List IV × Hp) → Option (AV × Hp)
  | some (xs, H1) => some (.ref H1.length 0 0 n, H1 ++ [.sl z 0 (chop z n (canR (List.replicate n ks).flatten xs)) true])
  | none => none
def bsF (ks : List (Option Nat)) (z n : Nat) (H : Hp) : Option (List AV) → Option (AV × Hp)
  | some cells => bsG ks z n (freezeAll H cells)
  | none => none
theorem bs_eq {E : Env} {t z : Nat} {zc : List AV} {ks : List (Option Nat)} (h : bsT E t = some (z, zc, ks)) (H : Hp) (n : Nat) (hn : n * z ≤ 16777216) (parts : List (Nat × AV)) :
    buildSliceE E H t n parts = bsF ks z n H (fillA z (List.replicate n zc).flatten parts) := by
  unfold bsT at h
  split at h
  · rename_i e he
    split at h
    · rename_i z1 zero h1 h2
      split at h
      · rename_i hc
        cases h
        unfold buildSliceE
        rw [he]
        simp only [h1, h2]
        rw [if_pos ⟨hn, hc⟩]
        cases fillA z (List.replicate n (cellsA zero)).flatten parts with
        | none => rfl
        | some cells =>
          simp only [bsF]
          cases freezeAll H cells with
          | none => rfl
          | some y => rfl
      · cases h
    · cases h
  · cases h
def brK : Option (List AV) → List Nat
  | some c => refsL c
  | none => []
theorem brK_some (c : List AV) : brK (some c) = refsL c := rfl
theorem br_eq {E : Env} {t z : Nat} {zc : List AV} {ks : List (Option Nat)} (h : bsT E t = some (z, zc, ks)) (n : Nat) (parts : List (Nat × AV)) :
    buildRefs E t n parts = brK (fillA z (List.replicate n zc).flatten parts) := by
  unfold bsT at h
  split at h
  · rename_i e he
    split at h
    · rename_i z1 zero h1 h2
      split at h
      · rename_i hc
        cases h
        unfold buildRefs brK
        rw [he]
        simp only [h1, h2]
        cases fillA z (List.replicate n (cellsA zero)).flatten parts <;> rfl
      · cases h
    · cases h
  · cases h
theorem bsF_some (ks : List (Option Nat)) (z n : Nat) (H : Hp) (cells : List AV) : bsF ks z n H (some cells) = bsG ks z n (freezeAll H cells) := rfl
theorem bsG_some (ks : List (Option Nat)) (z n : Nat) (xs : List IV) (H1 : Hp) : bsG ks z n (some (xs, H1)) = some (.ref H1.length 0 0 n, H1 ++ [.sl z 0 (chop z n (canR (List.replicate n ks).flatten xs)) true]) := rfl
theorem apS_some (z z' : Nat) (H : Hp) (s : AV) (new : List (List IV)) (e : Bool) : apS z H s (some (z', new, e)) = if new = [] ∨ z' = z then apV z H new s else none := rfl
theorem apV_ref (z : Nat) (H : Hp) (new : List (List IV)) (c g off len : Nat) : apV z H new (.ref c g off len) = apC z H c g off len new H[c]? := rfl
theorem apV_i (z : Nat) (H : Hp) (new : List (List IV)) (sz : Nat) (rows : List (List IV)) (ex : Bool) : apV z H new (.i (.sl sz rows ex)) = if ex = true ∧ (rows = [] ∨ (sz = z ∧ new ≠ [])) ∧ rows.length + new.length < 1073741824 then
      some (.ref H.length 0 0 (rows.length + new.length), H ++ [.sl z 0 (rows ++ new) (rows.isEmpty && new.isEmpty)]) else none := rfl
theorem apC_sl (z : Nat) (H : Hp) (c g off len : Nat) (new : List (List IV)) (sz g' : Nat) (rows : List (List IV)) (ex : Bool) : apC z H c g off len new (some (.sl sz g' rows ex)) = if g = g' ∧ off = 0 ∧ sz = z ∧ len + new.length < 1073741824 then
      some (.ref c (g + 1) 0 (len + new.length), H.set c (.sl z (g + 1) (rows.take len ++ new) (ex && rows.isEmpty && new.isEmpty))) else none := rfl
theorem apC_fz (z : Nat) (H : Hp) (c g off len : Nat) (new : List (List IV)) (sz g' : Nat) (rows : List (List IV)) (ex : Bool) : apC z H c g off len new (some (.fz sz g' rows ex)) = if g = g' ∧ off = 0 ∧ sz = z ∧ ex = true ∧ len = rows.length ∧ new ≠ [] ∧ len + new.length < 1073741824 then
      some (.ref H.length 0 0 (len + new.length), H ++ [.sl z 0 (rows ++ new) false]) else none := rfl
theorem src_str (H : Hp) (l : List UInt8) : srcE H (.i (.str l)) = some (1, l.map fun b => [IV.v (.int .u8 b.toNat)], true) := rfl
theorem src_sl (H : Hp) (sz : Nat) (rows : List (List IV)) (ex : Bool) : srcE H (.i (.sl sz rows ex)) = some (sz, rows, ex) := rfl
def rsC (g off len : Nat) : Option Chunk → Option (Nat × List (List IV) × Bool)
  | some (.sl sz g' rows ex) => if g = g' then some (sz, (rows.drop off).take len, ex && decide (off + len = rows.length)) else none
  | some (.fz sz g' rows ex) => if g = g' then some (sz, (rows.drop off).take len, ex && decide (off + len = rows.length)) else none
  | _ => none
theorem src_ref (H : Hp) (c g off len : Nat) : srcE H (.ref c g off len) = rsC g off len H[c]? := by
  simp only [srcE, rowsE]
  cases H[c]? with
  | none => rfl
  | some x => cases x <;> rfl
theorem rsC_sl (g off len sz g' : Nat) (rows : List (List IV)) (ex : Bool) : rsC g off len (some (.sl sz g' rows ex)) = if g = g' then some (sz, (rows.drop off).take len, ex && decide (off + len = rows.length)) else none := rfl
theorem rsC_fz (g off len sz g' : Nat) (rows : List (List IV)) (ex : Bool) : rsC g off len (some (.fz sz g' rows ex)) = if g = g' then some (sz, (rows.drop off).take len, ex && decide (off + len = rows.length)) else none := rfl
/-! results -/
def consK : Option AV → Option (List AV) → Option (List AV)
  | some a, some as => some (a :: as)
  | _, _ => none
def tupK : Option (List AV) → Option AV
  | some [a] => some a
  | some as => some (.tup as)
  | none => none
theorem consK_some (a : AV) (as : List AV) : consK (some a) (some as) = some (a :: as) := rfl
theorem tupK_0 : tupK (some []) = some (.tup []) := rfl
theorem tupK_1 (a : AV) : tupK (some [a]) = some a := rfl
theorem tupK_2 (a b : AV) (l : List AV) : tupK (some (a :: b :: l)) = some (.tup (a :: b :: l)) := rfl
section
variable {E : Env} {fr : Fr} {H : Hp}
theorem resE_eq (l : List ResultVar) : resE E fr H l = tupK (resEs E fr H l) := by
  unfold resE
  cases resEs E fr H l with
  | none => rfl
  | some as => cases as with
    | nil => rfl
    | cons a as => cases as <;> rfl
theorem resEs_nil : resEs E fr H [] = some [] := rfl
theorem resEs_cons (r : ResultVar) (l : List ResultVar) : resEs E fr H (r :: l) = consK (resE1 E fr H r) (resEs E fr H l) := by
  simp only [resEs]
  cases resE1 E fr H r <;> cases resEs E fr H l <;> rfl
theorem resE1_t (t : Nat) : resE1 E fr H (.tmp t) = some (get t fr) := rfl
theorem resE1_c (a t : Nat) : resE1 E fr H (.cell a t) = loadE E H t (get a fr) := rfl
end

/-! a new slice of zeros -/
def msT (E : Env) (t : TypeId) : Option (Nat × List IV) :=
  match slO E.P t with
  | some e => match szO E.P e, zeroRow E e, bytesO E.P e with
    | some z, some row, some b => if row.length = z ∧ 0 < z ∧ b ≤ 65536 then some (z, canR (E.kinds e) row) else none
    | _, _, _ => none
  | none => none
theorem ms_eq {E : Env} {t z : Nat} {row : List IV} (h : msT E t = some (z, row)) (H : Hp) (k k' : IntKind) (n m : Int) :
    makeSliceE E H t (.i (.v (.int k n))) (.i (.v (.int k' m))) = if 0 ≤ n ∧ n = m ∧ n < 1073741824 then some (.ref H.length 0 0 n.toNat, H ++ [.sl z 0 (List.replicate n.toNat row) true]) else none := by
  unfold msT at h
  split at h
  · rename_i e he
    split at h
    · rename_i z0 row0 b h1 h2 h3
      split at h
      · rename_i hc
        cases h
        unfold makeSliceE
        simp only [he, h1, h2, h3]
        obtain ⟨c1, c2, c3⟩ := hc
        by_cases hn : 0 ≤ n ∧ n = m ∧ n < 1073741824
        · rw [if_pos hn, if_pos ⟨hn.1, hn.2.1, hn.2.2, c1, c2, c3⟩]
        · rw [if_neg hn, if_neg (fun h => hn ⟨h.1, h.2.1, h.2.2.1⟩)]
      · cases h
    · cases h
  · cases h
/-! composites -/
def aggK : Option (List AV) → Option AV
  | some c => some (.agg c)
  | none => none
theorem aggK_some (c : List AV) : aggK (some c) = some (.agg c) := rfl
theorem bd_arr {E : Env} {t n e z : Nat} {zc : List AV} (h0 : zeroO E.P t = some (.agg zc)) (h1 : arrO E.P t = some (n, e)) (h2 : szO E.P e = some z) (parts : List (Nat × AV)) : buildE E t parts = aggK (fillA z zc parts) := by
  unfold buildE
  rw [h0]
  simp only [h1, h2]
  cases fillA z zc parts <;> rfl
theorem bd_struct {E : Env} {t : Nat} {zc : List AV} {pl : List (Nat × Nat)} (h0 : zeroO E.P t = some (.agg zc)) (h1 : arrO E.P t = none) (h2 : placesO E.P t = some pl) (parts : List (Nat × AV)) : buildE E t parts = aggK (fillS pl zc parts) := by
  unfold buildE
  rw [h0]
  simp only [h1, h2]
  cases fillS pl zc parts <;> rfl
def fsK (pl : List (Nat × Nat)) (cells : List AV) (v : AV) (r : List (Nat × AV)) : Option (Nat × Nat) → Option (List AV)
  | some (off, z) => if (cellsA v).length = z ∧ off + z ≤ cells.length ∧ (cellsA v).all one = true then fillS pl (over cells off (cellsA v)) r else none
  | none => none
theorem fillS_nil (pl : List (Nat × Nat)) (cells : List AV) : fillS pl cells [] = some cells := rfl
theorem fillS_cons (pl : List (Nat × Nat)) (cells : List AV) (i : Nat) (v : AV) (r : List (Nat × AV)) : fillS pl cells ((i, v) :: r) = fsK pl cells v r pl[i]? := by
  simp only [fillS]
  cases pl[i]? <;> rfl
theorem fsK_some (pl : List (Nat × Nat)) (cells : List AV) (v : AV) (r : List (Nat × AV)) (off z : Nat) : fsK pl cells v r (some (off, z)) = if (cellsA v).length = z ∧ off + z ≤ cells.length ∧ (cellsA v).all one = true then fillS pl (over cells off (cellsA v)) r else none := rfl

/-! stores -/
def stR (n c g k : Nat) (H1 : Hp) (xs : List IV) (sz r : Nat) (rows : List (List IV)) (ex : Bool) : Option (List IV) → Option Hp
  | some row => some (H1.set c (.sl sz g (rows.set r (row.take k ++ xs ++ row.drop (k + n))) ex))
  | none => none
def stG (n c g r k : Nat) (H1 : Hp) (xs : List IV) : Option Chunk → Option Hp
  | some (.sl sz g' rows ex) => if g = g' ∧ k + n ≤ sz then stR n c g' k H1 xs sz r rows ex rows[r]? else none
  | _ => none
def stF (ks : List (Option Nat)) (n c g r k : Nat) : Option (List IV × Hp) → Option Hp
  | some (xs, H1) => stG n c g r k H1 (canR ks xs) H1[c]?
  | none => none
def stC (ks : List (Option Nat)) (n : Nat) (H : Hp) (c g r k : Nat) (cv : List AV) : Option Chunk → Option Hp
  | some (.box cells) => if k + n ≤ cells.length then some (H.set c (.box (over cells k cv))) else none
  | some (.sl ..) => stF ks n c g r k (freezeAll H cv)
  | _ => none
theorem st_eq {E : Env} {t n : Nat} (h : szO E.P t = some n) (H : Hp) (c g r k : Nat) (v : AV) :
    storeE E H t (.ptr c g r k) v = if (cellsA v).length = n ∧ (cellsA v).all one = true then stC (E.kinds t) n H c g r k (cellsA v) H[c]? else none := by
  unfold storeE
  rw [h]
  simp only
  split
  · cases H[c]? with
    | none => rfl
    | some x =>
      cases x with
      | sl sz g' rows ex =>
        simp only [stC]
        cases freezeAll H (cellsA v) with
        | none => rfl
        | some y =>
          obtain ⟨xs, H1⟩ := y
          simp only [stF]
          cases H1[c]? with
          | none => rfl
          | some x =>
            cases x with
            | sl sz g' rows ex =>
              simp only [stG]
              split
              · cases rows[r]? <;> rfl
              · rfl
            | _ => rfl
      | _ => rfl
  · rfl
theorem stC_box (ks : List (Option Nat)) (n : Nat) (H : Hp) (c g r k : Nat) (cv cells : List AV) : stC ks n H c g r k cv (some (.box cells)) = if k + n ≤ cells.length then some (H.set c (.box (over cells k cv))) else none := rfl
theorem stC_sl (ks : List (Option Nat)) (n : Nat) (H : Hp) (c g r k : Nat) (cv : List AV) (sz g' : Nat) (rows : List (List IV)) (ex : Bool) : stC ks n H c g r k cv (some (.sl sz g' rows ex)) = stF ks n c g r k (freezeAll H cv) := rfl
theorem stF_some (ks : List (Option Nat)) (n c g r k : Nat) (xs : List IV) (H1 : Hp) : stF ks n c g r k (some (xs, H1)) = stG n c g r k H1 (canR ks xs) H1[c]? := rfl
theorem stG_sl (n c g r k : Nat) (H1 : Hp) (xs : List IV) (sz g' : Nat) (rows : List (List IV)) (ex : Bool) : stG n c g r k H1 xs (some (.sl sz g' rows ex)) = if g = g' ∧ k + n ≤ sz then stR n c g' k H1 xs sz r rows ex rows[r]? else none := rfl
theorem stR_some (n c g k : Nat) (H1 : Hp) (xs : List IV) (sz r : Nat) (rows : List (List IV)) (ex : Bool) (row : List IV) : stR n c g k H1 xs sz r rows ex (some row) = some (H1.set c (.sl sz g (rows.set r (row.take k ++ xs ++ row.drop (k + n))) ex)) := rfl
theorem set_concat {α : Type} (l : List α) (a b : α) : (l ++ [a]).set l.length b = l ++ [b] := by simp
theorem norm_nil (fr : Fr) : norm [] fr = [] := rfl
theorem norm_cons (k : Nat) (l : List Nat) (fr : Fr) : norm (k :: l) fr = (k, get k fr) :: norm l fr := rfl

theorem get_norm (k : Nat) : ∀ (l : List Nat) (fr : Fr), k ∈ l → get k (norm l fr) = get k fr
  | [], fr, h => by simp at h
  | j :: l, fr, h => by
    simp only [norm_cons, get]
    split
    · rename_i e; rw [e]
    · rename_i e
      exact get_norm k l fr (by simpa [e] using h)
theorem norm_norm (l : List Nat) (fr : Fr) : norm l (norm l fr) = norm l fr := by
  unfold norm
  refine List.map_congr_left fun k hk => ?_
  exact congrArg _ (get_norm k l fr hk)

/-! a loop under its name, on the frame and the memory that it keeps at its head -/
noncomputable def rl (E : Env) (B : Nat) (f : FuncId) (c : Code) (fr : Fr) (H : Hp) : Option (Ex × Fr × Hp) :=
  match c with
  | .loop c => seqK (execT E B f (.loop c)) (execT E B f c fr H)
  | _ => none
noncomputable def rlG (E : Env) (B : Nat) (f : FuncId) (c : Code) (p : Fr × Hp) : Option (Ex × Fr × Hp) := rl E B f c p.1 p.2
noncomputable def rlM (E : Env) (B : Nat) (f : FuncId) (c : Code) (hd : List Nat) (z : List (Nat × Nat)) (fr : Fr) (H : Hp) : Option (Ex × Fr × Hp) := rlG E B f c (gcn B (norm hd (frzF z fr H).1) (frzF z fr H).2)
theorem rlM_eq (E : Env) (B : Nat) (f : FuncId) (c : Code) (hd : List Nat) (z : List (Nat × Nat)) (fr : Fr) (H : Hp) : rlM E B f c hd z fr H = rlG E B f c (gcn B (norm hd (frzF z fr H).1) (frzF z fr H).2) := rfl
section
variable {E : Env} {B : Nat} {f : FuncId} {fn : Func} {k : Nat} {c : Code} {hd : List Nat}
theorem rlG_mk (c : Code) (fr : Fr) (H : Hp) : rlG E B f c (fr, H) = rl E B f c fr H := rfl
theorem rl_intro (hc : loopAt fn k = .loop c) (hm : E.mat f ((firstRegion c).getD 0) = []) (hb : E.matb f ((firstRegion c).getD 0) = []) (hz : E.frz f ((firstRegion c).getD 0) = []) (hh : E.head f ((firstRegion c).getD 0) = hd) (fr : Fr) (H : Hp) : execT E B f (.loop c) fr H = rlG E B f (loopAt fn k) (gcn B (norm hd fr) H) := by
  unfold rlG rl
  rw [hc, execT_loop]
  simp only [hdE, hm, hb, hz, hh, matF_nil, matB_nil, frzF_nil]
theorem rl_introM {m : List (Nat × Nat)} {mb : List (Nat × Nat × Nat)} {z : List (Nat × Nat)} (hc : loopAt fn k = .loop c) (hm : E.mat f ((firstRegion c).getD 0) = m) (hb : E.matb f ((firstRegion c).getD 0) = mb) (hz : E.frz f ((firstRegion c).getD 0) = z) (hh : E.head f ((firstRegion c).getD 0) = hd) (fr : Fr) (H : Hp) :
    execT E B f (.loop c) fr H = rlM E B f (loopAt fn k) hd z (matF m fr H).1 (matB mb (matF m fr H).1 (matF m fr H).2) := by
  unfold rlM rlG rl
  rw [hc, execT_loop]
  simp only [hdE, hm, hb, hz, hh]
theorem rl_step (hc : loopAt fn k = .loop c) (fr : Fr) (H : Hp) : rl E B f (loopAt fn k) fr H = seqK (execT E B f (.loop c)) (execT E B f c fr H) := by
  unfold rl
  rw [hc]
end
/-! the memory counted anew -/
def gcK (B : Nat) (fr : Fr) (H : Hp) (R : List Nat) : Fr × Hp := gcW R fr H
theorem gc_T {B : Nat} {H : Hp} (h : B ≤ H.length) (fr : Fr) : gc B fr H = gcW (gcR B fr H) fr H := by unfold gc; rw [if_pos h]
theorem nc1 (k : Nat) : (k : Int) + 1 = ((k + 1 : Nat) : Int) := rfl

/-! what the context decides -/
theorem w_i8 {n : Int} (h1 : -128 ≤ n) (h2 : n ≤ 127) : IntKind.i8.wrap n = n := by
  simp only [IntKind.wrap, IntKind.signed, IntKind.bits, Bool.true_and, ge_iff_le, decide_eq_true_eq]
  split <;> omega
theorem w_u8 {n : Int} (h1 : 0 ≤ n) (h2 : n ≤ 255) : IntKind.u8.wrap n = n := by
  simp only [IntKind.wrap, IntKind.signed, IntKind.bits, Bool.false_and, Bool.false_eq_true, if_false]
  omega
theorem w_i16 {n : Int} (h1 : -32768 ≤ n) (h2 : n ≤ 32767) : IntKind.i16.wrap n = n := by
  simp only [IntKind.wrap, IntKind.signed, IntKind.bits, Bool.true_and, ge_iff_le, decide_eq_true_eq]
  split <;> omega
theorem w_u16 {n : Int} (h1 : 0 ≤ n) (h2 : n ≤ 65535) : IntKind.u16.wrap n = n := by
  simp only [IntKind.wrap, IntKind.signed, IntKind.bits, Bool.false_and, Bool.false_eq_true, if_false]
  omega
theorem w_i32 {n : Int} (h1 : -2147483648 ≤ n) (h2 : n ≤ 2147483647) : IntKind.i32.wrap n = n := by
  simp only [IntKind.wrap, IntKind.signed, IntKind.bits, Bool.true_and, ge_iff_le, decide_eq_true_eq]
  split <;> omega
theorem w_u32 {n : Int} (h1 : 0 ≤ n) (h2 : n ≤ 4294967295) : IntKind.u32.wrap n = n := by
  simp only [IntKind.wrap, IntKind.signed, IntKind.bits, Bool.false_and, Bool.false_eq_true, if_false]
  omega
theorem w_i64 {n : Int} (h1 : -9223372036854775808 ≤ n) (h2 : n ≤ 9223372036854775807) : IntKind.i64.wrap n = n := by
  simp only [IntKind.wrap, IntKind.signed, IntKind.bits, Bool.true_and, ge_iff_le, decide_eq_true_eq]
  split <;> omega
theorem w_u64 {n : Int} (h1 : 0 ≤ n) (h2 : n ≤ 18446744073709551615) : IntKind.u64.wrap n = n := by
  simp only [IntKind.wrap, IntKind.signed, IntKind.bits, Bool.false_and, Bool.false_eq_true, if_false]
  omega
theorem lt_T {a b : Int} (h : a < b) : (a < b) = True := eq_true h
theorem lt_F {a b : Int} (h : b ≤ a) : (a < b) = False := eq_false (by omega)
theorem le_T {a b : Int} (h : a ≤ b) : (a ≤ b) = True := eq_true h
theorem le_F {a b : Int} (h : b < a) : (a ≤ b) = False := eq_false (by omega)
theorem eq_F {a b : Int} (h : ¬ a = b) : (a = b) = False := eq_false h
theorem eq_T {a b : Int} (h : a = b) : (a = b) = True := eq_true h
theorem nlt_T {a b : Nat} (h : a < b) : (a < b) = True := eq_true h
theorem nlt_F {a b : Nat} (h : b ≤ a) : (a < b) = False := eq_false (by omega)
theorem nle_T {a b : Nat} (h : a ≤ b) : (a ≤ b) = True := eq_true h
theorem nle_F {a b : Nat} (h : b < a) : (a ≤ b) = False := eq_false (by omega)
end Go.VI
