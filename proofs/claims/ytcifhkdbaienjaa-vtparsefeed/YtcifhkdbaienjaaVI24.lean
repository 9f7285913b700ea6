/- VI, part 24: equations for the automatic split of undecided tests; bytes of a string as a new slice. -/
import Derived.Test.YtcifhkdbaienjaaVI23
set_option linter.unusedSimpArgs false
set_option linter.unusedVariables false
namespace Go.VI
theorem condK_b (b : Bool) (x y : Option (Ex × Fr × Hp)) : condK (.i (.v (.bool b))) x y = if b = true then x else y := by cases b <;> rfl
theorem condK_ndec (p : Prop) [Decidable p] (a b : Option (Ex × Fr × Hp)) : condK (.i (.v (.bool (decide (¬ p))))) a b = if p then b else a := by by_cases h : p <;> simp [h, condK]
theorem be_ii (P : Program) (op : BinOp) (t : TypeId) (k k' : IntKind) (a b : Int) : binE P op t (.i (.v (.int k a))) (.i (.v (.int k' b))) = intE op k a k' b := rfl
theorem be_ss (P : Program) (op : BinOp) (t : TypeId) (a b : List UInt8) : binE P op t (.i (.str a)) (.i (.str b)) = strE op a b := rfl
theorem be_bb (P : Program) (t : TypeId) (a b : Bool) : binE P .eql t (.i (.v (.bool a))) (.i (.v (.bool b))) = (eqE P t (.i (.v (.bool a))) (.i (.v (.bool b)))).map .bool := rfl
theorem be_bn (P : Program) (t : TypeId) (a b : Bool) : binE P .neq t (.i (.v (.bool a))) (.i (.v (.bool b))) = (eqE P t (.i (.v (.bool a))) (.i (.v (.bool b)))).map fun b => .bool (!b) := rfl
theorem be_pn (P : Program) (t : TypeId) (c g r k : Nat) : binE P .eql t (.ptr c g r k) (.i (.v (.pointer none))) = (eqE P t (.ptr c g r k) (.i (.v (.pointer none)))).map .bool := rfl
theorem be_pnn (P : Program) (t : TypeId) (c g r k : Nat) : binE P .neq t (.ptr c g r k) (.i (.v (.pointer none))) = (eqE P t (.ptr c g r k) (.i (.v (.pointer none)))).map fun b => .bool (!b) := rfl
theorem be_tn (P : Program) (t : TypeId) (c : List IV) (o : Nat) : binE P .eql t (.i (.pt c o)) (.i (.v (.pointer none))) = (eqE P t (.i (.pt c o)) (.i (.v (.pointer none)))).map .bool := rfl
theorem be_tnn (P : Program) (t : TypeId) (c : List IV) (o : Nat) : binE P .neq t (.i (.pt c o)) (.i (.v (.pointer none))) = (eqE P t (.i (.pt c o)) (.i (.v (.pointer none)))).map fun b => .bool (!b) := rfl
theorem be_nn (P : Program) (t : TypeId) : binE P .eql t (.i (.v (.pointer none))) (.i (.v (.pointer none))) = (eqE P t (.i (.v (.pointer none))) (.i (.v (.pointer none)))).map .bool := rfl
theorem be_nnn (P : Program) (t : TypeId) : binE P .neq t (.i (.v (.pointer none))) (.i (.v (.pointer none))) = (eqE P t (.i (.v (.pointer none))) (.i (.v (.pointer none)))).map fun b => .bool (!b) := rfl
theorem be_aa (P : Program) (t : TypeId) (a b : List AV) : binE P .eql t (.agg a) (.agg b) = (eqE P t (.agg a) (.agg b)).map .bool := rfl
theorem be_aan (P : Program) (t : TypeId) (a b : List AV) : binE P .neq t (.agg a) (.agg b) = (eqE P t (.agg a) (.agg b)).map fun b => .bool (!b) := rfl
theorem neq_of_eql {P : Program} {t : TypeId} {a b : List AV} {x : Bool} (h : binE P .eql t (.agg a) (.agg b) = some (.i (.v (.bool x)))) : binE P .neq t (.agg a) (.agg b) = some (.i (.v (.bool (!x)))) := by
  rw [be_aa] at h
  rw [be_aan]
  cases he : eqE P t (.agg a) (.agg b) with
  | none => rw [he] at h; cases h
  | some y => rw [he] at h; simp only [Option.map_some, AV.bool, Option.some.injEq, AV.i.injEq, IV.v.injEq, Value.bool.injEq] at h ⊢; rw [h]
theorem beq_dec (a b : Bool) : (a == b) = decide (a = b) := by cases a <;> cases b <;> rfl
section
variable {E : Env} {cl : CallF} {ops : List Oper} {fr : Fr} {H : Hp}
theorem guK_b (dst : Option Nat) (op : Op) (r : List Oper) (b : Bool) : guK E cl ops dst op r fr H (some b) = if b = true then opK E cl ops dst r fr (evOp E cl op fr H) else evOps E cl ops r (putD dst (.tup []) fr) H := by cases b <;> rfl
theorem guT_b (dst : Option Nat) (op : Op) (r : List Oper) (b : Bool) : guT E cl ops dst op r fr H (some b) = if b = true then opT E cl ops dst op r fr H (evOp E cl op fr H) else tK [] (evT E cl ops r (putD dst (.tup []) fr) H) := by cases b <;> rfl
theorem guK_dec (dst : Option Nat) (op : Op) (r : List Oper) (p : Prop) [Decidable p] : guK E cl ops dst op r fr H (some (decide p)) = if p then opK E cl ops dst r fr (evOp E cl op fr H) else evOps E cl ops r (putD dst (.tup []) fr) H := by by_cases h : p <;> simp [h, guK]
theorem guT_dec (dst : Option Nat) (op : Op) (r : List Oper) (p : Prop) [Decidable p] : guT E cl ops dst op r fr H (some (decide p)) = if p then opT E cl ops dst op r fr H (evOp E cl op fr H) else tK [] (evT E cl ops r (putD dst (.tup []) fr) H) := by by_cases h : p <;> simp [h, guT]
theorem guK_ndec (dst : Option Nat) (op : Op) (r : List Oper) (p : Prop) [Decidable p] : guK E cl ops dst op r fr H (some (decide (¬ p))) = if p then evOps E cl ops r (putD dst (.tup []) fr) H else opK E cl ops dst r fr (evOp E cl op fr H) := by by_cases h : p <;> simp [h, guK]
theorem guT_ndec (dst : Option Nat) (op : Op) (r : List Oper) (p : Prop) [Decidable p] : guT E cl ops dst op r fr H (some (decide (¬ p))) = if p then tK [] (evT E cl ops r (putD dst (.tup []) fr) H) else opT E cl ops dst op r fr H (evOp E cl op fr H) := by by_cases h : p <;> simp [h, guT]
theorem pickK_t (a b : AV) : pickK a b (.i (.v (.bool true))) = some a := rfl
theorem pickK_f (a b : AV) : pickK a b (.i (.v (.bool false))) = some b := rfl
theorem pickK_bb (a b t : Bool) : pickK (.i (.v (.bool a))) (.i (.v (.bool b))) (.i (.v (.bool t))) = some (.i (.v (.bool (bif t then a else b)))) := by cases t <;> rfl
theorem ndec (p : Prop) [Decidable p] : (!decide p) = decide (¬ p) := by by_cases h : p <;> simp [h]
theorem odec (p q : Prop) [Decidable p] [Decidable q] : (decide p || decide q) = decide (p ∨ q) := by by_cases h : p <;> simp [h]
theorem adec (p q : Prop) [Decidable p] [Decidable q] : (decide p && decide q) = decide (p ∧ q) := by by_cases h : p <;> simp [h]
theorem sdec (a b : List UInt8) : (a == b) = decide (a = b) := by by_cases h : a = b <;> simp [h]
theorem u8_eq (a b : UInt8) : (a = b) = (a.toNat = b.toNat) := by simp [UInt8.toNat_inj]
theorem bdec (p : Prop) [Decidable p] : (decide p = true) = p := by simp
/-- the bytes of a string as a new slice -/
def cvK (H : Hp) : AV → Option (AV × Hp)
  | .i (.str l) => if l.length < 1073741824 then some (.ref H.length 0 0 l.length, H ++ [.sl 1 0 (l.map fun b => [IV.v (.int .u8 b.toNat)]) false]) else none
  | _ => none
theorem cvK_str (l : List UInt8) : cvK H (.i (.str l)) = if l.length < 1073741824 then some (.ref H.length 0 0 l.length, H ++ [.sl 1 0 (l.map fun b => [IV.v (.int .u8 b.toNat)]) false]) else none := rfl
theorem op_convB {s d : TypeId} (h1 : isStrO E.P s = true) (h2 : (slO E.P d).bind (kindO E.P) = some .u8) (x : Operand) : evOp E cl (.convert s d x) fr H = cvK H (opd E fr x) := by
  have h3 : (slO E.P d).isSome = true := by cases h : slO E.P d with | none => rw [h] at h2; cases h2 | some _ => rfl
  rw [op_heavy _ (by simpa [heavy] using h3) (by intro f a t e; cases e)]
  simp only [evH]
  generalize opd E fr x = y
  cases y with
  | i y => cases y with
    | str l => simp only [cvK, h1, h2, true_and]
    | _ => rfl
  | _ => rfl
/-- a byte slice as a string -/
def cvS : Option (Nat × List (List IV) × Bool) → Option AV
  | some (z, rows, _) => if rows = [] ∨ z = 1 then (numsOf rows).map fun l => .str (l.map fun n => UInt8.ofNat n.toNat) else none
  | none => none
theorem cvS_some (z : Nat) (rows : List (List IV)) (ex : Bool) : cvS (some (z, rows, ex)) = if rows = [] ∨ z = 1 then (numsOf rows).map fun l => .str (l.map fun n => UInt8.ofNat n.toNat) else none := rfl
theorem op_cvS {s d e : TypeId} (h : slO E.P d = none) (hs : slO E.P s = some e) (h1 : isStrO E.P d = true) (h2 : kindO E.P e = some .u8) (x : Operand) : evOp E cl (.convert s d x) fr H = pK H (cvS (rowsE H (opd E fr x))) := by
  rw [op_convS s d e x h hs]
  simp only [convS, h1, h2, and_self, if_true]
  cases rowsE H (opd E fr x) <;> rfl
theorem rowsE_i (sz : Nat) (rows : List (List IV)) (ex : Bool) : rowsE H (.i (.sl sz rows ex)) = some (sz, rows, ex) := rfl
theorem rowsE_ref (c g off len : Nat) : rowsE H (.ref c g off len) = rsC g off len H[c]? := by
  simp only [rowsE]
  cases H[c]? with
  | none => rfl
  | some x => cases x <;> rfl
theorem numsOf_nil : numsOf [] = some [] := rfl
theorem numsOf_cons (n : Int) (r : List (List IV)) : numsOf ([.v (.int .u8 n)] :: r) = (numsOf r).map (n :: ·) := rfl
theorem numsOf_bytes (l : List UInt8) : numsOf (l.map fun b => [IV.v (.int .u8 b.toNat)]) = some (l.map fun b => (b.toNat : Int)) := by
  induction l with
  | nil => rfl
  | cons b l ih => simp only [List.map_cons, numsOf_cons, ih, Option.map_some]
theorem numsOf_ints (l : List Int) : numsOf (l.map fun n => [IV.v (.int .u8 n)]) = some l := by
  induction l with
  | nil => rfl
  | cons b l ih => simp only [List.map_cons, numsOf_cons, ih, Option.map_some]
theorem bytes_back (l : List UInt8) : (l.map fun b => (b.toNat : Int)).map (fun n => UInt8.ofNat n.toNat) = l := by
  rw [List.map_map]
  conv => rhs; rw [← List.map_id l]
  refine List.map_congr_left fun b _ => ?_
  simp
/-- iterators over strings -/
def nxK (H : Hp) (c : Nat) : Option Chunk → Option (AV × Hp)
  | some (.iter s pos) => if pos < s.length then
      some (.tup [.i (.v (.bool true)), .i (.v (.int .i64 pos)), .i (.v (.int .i32 (Utf8.decode ⟨⟨s⟩⟩ pos).1))], H.set c (.iter s (pos + (Utf8.decode ⟨⟨s⟩⟩ pos).2))) else some (.tup [.i (.v (.bool false))], H)
  | _ => none
theorem nxK_iter (c : Nat) (s : List UInt8) (pos : Nat) : nxK H c (some (.iter s pos)) = if pos < s.length then
      some (.tup [.i (.v (.bool true)), .i (.v (.int .i64 pos)), .i (.v (.int .i32 (Utf8.decode ⟨⟨s⟩⟩ pos).1))], H.set c (.iter s (pos + (Utf8.decode ⟨⟨s⟩⟩ pos).2))) else some (.tup [.i (.v (.bool false))], H) := rfl
def nxA (H : Hp) : AV → Option (AV × Hp)
  | .ptr c _ _ 0 => nxK H c H[c]?
  | _ => none
theorem nxA_ptr (c g r : Nat) : nxA H (.ptr c g r 0) = nxK H c H[c]? := rfl
theorem op_nx (it : Operand) : evOp E cl (.next it true) fr H = nxA H (opd E fr it) := by
  rw [op_next]
  simp only [evH]
  cases opd E fr it with
  | ptr c g r k => cases k with
    | zero =>
      simp only [nxA]
      cases H[c]? with
      | none => rfl
      | some x => cases x <;> rfl
    | succ k => rfl
  | _ => rfl

/-! slice expressions -/
def slSK (s : List UInt8) : Option Nat → Option Nat → Option AV
  | some l, some h => if l ≤ h ∧ h ≤ s.length then some (.i (.str ((s.drop l).take (h - l)))) else none
  | _, _ => none
theorem slSK_some (s : List UInt8) (l h : Nat) : slSK s (some l) (some h) = if l ≤ h ∧ h ≤ s.length then some (.i (.str ((s.drop l).take (h - l)))) else none := rfl
theorem bnd_n (d : Nat) : bnd d none = some d := rfl
theorem bnd_i (d : Nat) (k : IntKind) (n : Int) : bnd d (some (.i (.v (.int k n)))) = if 0 ≤ n then some n.toNat else none := rfl
theorem sl_str {t : TypeId} (ht : isStrO E.P t = true) (s : List UInt8) (lo hi : Option AV) : sliceE E H t (.i (.str s)) lo hi none = slSK s (bnd 0 lo) (bnd s.length hi) := by
  simp only [sliceE, lenE, ht, Option.isNone_none, and_self, if_true]
  cases bnd 0 lo with
  | none => rfl
  | some l => cases bnd s.length hi <;> rfl
def slN1 (z sz : Nat) (rows : List (List IV)) (ex : Bool) : Option Nat → Option Nat → Option AV
  | some l, some h => if (l ≤ h ∧ h ≤ rows.length) ∧ (rows = [] ∨ z = sz) then some (.i (.sl sz ((rows.drop l).take (h - l)) (ex && decide (h = rows.length)))) else none
  | _, _ => none
def slN2 (z c g off len : Nat) : Option Nat → Option Nat → Option Chunk → Option AV
  | some l, some h, some (.sl sz g' _ _) => if (l ≤ h ∧ h ≤ len) ∧ g = g' ∧ z = sz then some (.ref c g (off + l) (h - l)) else none
  | some l, some h, some (.fz sz g' rows ex) => if (l ≤ h ∧ h ≤ len) ∧ g = g' ∧ z = sz ∧ off + len ≤ rows.length then some (.i (.sl sz ((rows.drop (off + l)).take (h - l)) (ex && decide (off + h = rows.length)))) else none
  | _, _, _ => none
def slN (z : Nat) (H : Hp) (lo hi : Option AV) : AV → Option AV
  | .i (.sl sz rows ex) => slN1 z sz rows ex (bnd 0 lo) (bnd rows.length hi)
  | .ref c g off len => slN2 z c g off len (bnd 0 lo) (bnd len hi) H[c]?
  | _ => none
theorem slN_i (z : Nat) (lo hi : Option AV) (sz : Nat) (rows : List (List IV)) (ex : Bool) : slN z H lo hi (.i (.sl sz rows ex)) = slN1 z sz rows ex (bnd 0 lo) (bnd rows.length hi) := rfl
theorem slN_ref (z : Nat) (lo hi : Option AV) (c g off len : Nat) : slN z H lo hi (.ref c g off len) = slN2 z c g off len (bnd 0 lo) (bnd len hi) H[c]? := rfl
theorem slN1_some (z sz : Nat) (rows : List (List IV)) (ex : Bool) (l h : Nat) : slN1 z sz rows ex (some l) (some h) = if (l ≤ h ∧ h ≤ rows.length) ∧ (rows = [] ∨ z = sz) then some (.i (.sl sz ((rows.drop l).take (h - l)) (ex && decide (h = rows.length)))) else none := rfl
theorem slN2_sl (z c g off len l h sz g' : Nat) (rows : List (List IV)) (ex : Bool) : slN2 z c g off len (some l) (some h) (some (.sl sz g' rows ex)) = if (l ≤ h ∧ h ≤ len) ∧ g = g' ∧ z = sz then some (.ref c g (off + l) (h - l)) else none := rfl
theorem slN2_fz (z c g off len l h sz g' : Nat) (rows : List (List IV)) (ex : Bool) : slN2 z c g off len (some l) (some h) (some (.fz sz g' rows ex)) = if (l ≤ h ∧ h ≤ len) ∧ g = g' ∧ z = sz ∧ off + len ≤ rows.length then some (.i (.sl sz ((rows.drop (off + l)).take (h - l)) (ex && decide (off + h = rows.length)))) else none := rfl
theorem sl_sl {t e : TypeId} {z : Nat} (ht : slO E.P t = some e) (hz : szO E.P e = some z) (hs : isStrO E.P t = false) (x : AV) (lo hi : Option AV) : sliceE E H t x lo hi none = slN z H lo hi x := by
  unfold sliceE
  cases x with
  | i x => cases x with
    | sl sz rows ex =>
      simp only [lenE, slN, ht, hz, slN1]
      cases bnd 0 lo with
      | none => rfl
      | some l => cases bnd rows.length hi with
        | none => rfl
        | some h =>
          simp only
          by_cases h1 : l ≤ h ∧ h ≤ rows.length <;> by_cases h2 : rows = [] ∨ z = sz <;> simp [h1, h2]
    | str s =>
      simp only [lenE, slN, hs]
      cases bnd 0 lo with
      | none => rfl
      | some l => cases bnd s.length hi with
        | none => rfl
        | some h => by_cases h1 : l ≤ h ∧ h ≤ s.length <;> simp [h1]
    | _ => rfl
  | ref c g off len =>
    simp only [lenE, slN, ht]
    cases bnd 0 lo with
    | none => simp [slN2]
    | some l => cases bnd len hi with
      | none => simp [slN2]
      | some h =>
        simp only
        cases hc : H[c]? with
        | none => simp [slN2]
        | some y =>
          cases y with
          | sl sz g' rows ex =>
            simp only [slN2, hz, Option.isNone_none, true_and, Option.some.injEq]
            by_cases h1 : l ≤ h ∧ h ≤ len <;> by_cases h2 : g = g' ∧ z = sz <;> simp [h1, h2]
          | fz sz g' rows ex =>
            simp only [slN2, hz, Option.some.injEq]
            by_cases h1 : l ≤ h ∧ h ≤ len <;> by_cases h2 : g = g' ∧ z = sz ∧ off + len ≤ rows.length <;> simp [h1, h2]
          | _ => simp [slN2]
  | _ => rfl
theorem rg0 : List.range 0 = [] := rfl
theorem rg1 : List.range 1 = [0] := rfl
theorem rg2 : List.range 2 = [0, 1] := rfl
theorem rg3 : List.range 3 = [0, 1, 2] := rfl
theorem rg4 : List.range 4 = [0, 1, 2, 3] := rfl
theorem rg5 : List.range 5 = [0, 1, 2, 3, 4] := rfl
theorem reach_cons (n c : Nat) (r seen : List Nat) : reach H (n + 1) (c :: r) seen = if c ∈ seen ∨ H.length ≤ c then reach H n r seen else reach H n (((H[c]?).map Chunk.refs).getD [] ++ r) (seen ++ [c]) := rfl
end
end Go.VI
