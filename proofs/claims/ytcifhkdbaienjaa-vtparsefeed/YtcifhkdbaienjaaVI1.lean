/- VI, part 1: a functional interpreter of the model's Code on abstract data. Definitions alone. -/
import Derived.Orders
import Derived.Laws.Sem
namespace Go.VI

/-- Immutable abstract values: an exact one-cell value; a string; a slice whose cells are never written again; a pointer to such cells. -/
inductive IV where
  | v (x : Value)
  | str (l : List UInt8)
  | sl (sz : Nat) (rows : List (List IV)) (ex : Bool)
  | pt (cells : List IV) (off : Nat)
  deriving Inhabited

/-- Abstract values of a frame's slots. 'ref': a slice over an own chunk (stale where the generation is not the chunk's); 'ptr': a pointer into an own chunk. -/
inductive AV where
  | dead
  | i (x : IV)
  | agg (cells : List AV)
  | ref (c g off len : Nat)
  | ptr (c g r k : Nat)
  | clo (fn : Fn) (first caps : List AV)
  | tup (vs : List AV)
  deriving Inhabited

/-- Own memory: a variable; the array behind a slice; the same, no longer written; an iterator over a string. -/
inductive Chunk where
  | box (cells : List AV)
  | sl (sz g : Nat) (rows : List (List IV)) (ex : Bool)
  | fz (sz g : Nat) (rows : List (List IV)) (ex : Bool)
  | iter (s : List UInt8) (pos : Nat)
  deriving Inhabited

abbrev Hp := List Chunk
abbrev Fr := List (Nat × AV)

def get (k : Nat) : Fr → AV
  | [] => .dead
  | (j, v) :: r => if k = j then v else get k r

def AV.int (k : IntKind) (n : Int) : AV := .i (.v (.int k n))
def AV.bool (b : Bool) : AV := .i (.v (.bool b))
def AV.str (l : List UInt8) : AV := .i (.str l)

structure Env where
  P : Program
  /-- what is kept of a frame behind a region, and at a loop's head -/
  keep : FuncId → Nat → List Nat
  head : FuncId → Nat → List Nat
  /-- what the package-level variables hold -/
  glob : Nat → Option (List IV)
  /-- of a region that draws its order: the pairs of which one reads what the other may change -/
  flo : FuncId → Nat → List (Nat × Nat)
  /-- is a slice handed on to be appended to? -/
  byref : FuncId → Bool
  /-- of a region that draws: is its new memory made in places set aside? -/
  hol : FuncId → Nat → Bool
  /-- functions that are taken by a contract -/
  ext : FuncId → Option (List AV → Option AV)
  /-- the sizes of the elements, where a cell of this type is a slice -/
  kinds : TypeId → List (Option Nat)
  /-- the same of what a function is handed, and of what it answers -/
  argk : FuncId → List (List (Option Nat))
  resk : FuncId → List (List (Option Nat))
  /-- are slices answered as own ones? -/
  own : FuncId → Bool
  /-- at a loop's head: slots whose nil slice becomes an own empty one; the same of cells of a variable; slots whose slice becomes an immutable one -/
  mat : FuncId → Nat → List (Nat × Nat)
  matb : FuncId → Nat → List (Nat × Nat × Nat)
  frz : FuncId → Nat → List (Nat × Nat)

/-! tables of types -/
def szO (P : Program) (t : TypeId) : Option Nat := (P.info? t).map (·.size)
def aggO (P : Program) (t : TypeId) : Option Bool := (P.underlying t).map fun | .struct _ | .array _ _ => true | _ => false
def slO (P : Program) (t : TypeId) : Option TypeId := match P.underlying t with | some (.slice e) => some e | _ => none
def arrO (P : Program) (t : TypeId) : Option (Nat × TypeId) := match P.underlying t with | some (.array n e) => some (n, e) | _ => none
def fldO (P : Program) (t : TypeId) (f : Nat) : Option (Nat × TypeId) := match P.underlying t with | some (.struct fs) => (fs[f]?).map fun x => (x.offset, x.type) | _ => none
def bytesO (P : Program) (t : TypeId) : Option Nat := (P.info? t).map (·.bytes)
def placesO (P : Program) (t : TypeId) : Option (List (Nat × Nat)) := match P.underlying t with
  | some (.struct fs) => fs.toList.mapM fun f => (szO P f.type).map fun z => (f.offset, z)
  | _ => none
def isStrO (P : Program) (t : TypeId) : Bool := match P.underlying t with | some .string => true | _ => false
def kindO (P : Program) (t : TypeId) : Option IntKind := match P.underlying t with | some (.int k) => some k | _ => none

/-! constants -/
def cellOf : Value → AV
  | .string b => .i (.str b.data.toList)
  | .slice none 0 0 => .i (.sl 0 [] true)
  | .tuple _ => .dead
  | .agg _ => .dead
  | x => .i (.v x)
def ofVal : Value → AV
  | .agg cs => .agg (cs.toList.map cellOf)
  | x => cellOf x
def zeroO (P : Program) (t : TypeId) : Option AV := ((P.info? t).bind (·.zero)).map ofVal

def opd (E : Env) (fr : Fr) : Operand → AV
  | .tmp t => get t fr
  | .const v => ofVal v
  | .func f => .clo (.func f) [] []
  | .global g => match E.glob g with
    | some cells => .i (.pt cells 0)
    | none => .dead

/-- the cells of a value; a value that is one cell -/
def cellsA : AV → List AV
  | .agg cs => cs
  | a => [a]
def one : AV → Bool
  | .i _ => true
  | .ref .. => true
  | .ptr .. => true
  | .clo .. => true
  | _ => false

/-! arithmetic -/
def bitsE (op : BinOp) (k : IntKind) (a b : Int) : Option Int :=
  let x := BitVec.ofInt k.bits a
  let y := BitVec.ofInt k.bits b
  match op with
  | .and => some (k.wrap (x &&& y).toNat)
  | .or => some (k.wrap (x ||| y).toNat)
  | .xor => some (k.wrap (x ^^^ y).toNat)
  | .andNot => some (k.wrap (x &&& ~~~y).toNat)
  | _ => none
def intE (op : BinOp) (k : IntKind) (a : Int) (k' : IntKind) (b : Int) : Option AV :=
  match op with
  | .shl => if 0 ≤ b then some (.int k (k.wrap (a * 2 ^ min b.toNat k.bits))) else none
  | .shr => if 0 ≤ b then some (.int k (a.fdiv (2 ^ min b.toNat k.bits))) else none
  | _ => if k = k' then match op with
    | .add => some (.int k (k.wrap (a + b)))
    | .sub => some (.int k (k.wrap (a - b)))
    | .mul => some (.int k (k.wrap (a * b)))
    | .quo => if b = 0 then none else some (.int k (k.wrap (a.tdiv b)))
    | .rem => if b = 0 then none else some (.int k (a.tmod b))
    | .eql => some (.bool (decide (a = b)))
    | .neq => some (.bool (!decide (a = b)))
    | .lss => some (.bool (decide (a < b)))
    | .leq => some (.bool (decide (a ≤ b)))
    | .gtr => some (.bool (decide (b < a)))
    | .geq => some (.bool (decide (b ≤ a)))
    | .and => (bitsE .and k a b).map (.int k ·)
    | .or => (bitsE .or k a b).map (.int k ·)
    | .xor => (bitsE .xor k a b).map (.int k ·)
    | .andNot => (bitsE .andNot k a b).map (.int k ·)
    | _ => none
    else none
def strE (op : BinOp) (a b : List UInt8) : Option AV :=
  match op with
  | .add => if a.length + b.length ≤ 9223372036854775807 then some (.str (a ++ b)) else none
  | .eql => some (.bool (a == b))
  | .neq => some (.bool (!(a == b)))
  | .lss => some (.bool (Op.bytesLess a b))
  | .leq => some (.bool (Op.bytesLess a b || a == b))
  | .gtr => some (.bool (!(Op.bytesLess a b || a == b)))
  | .geq => some (.bool (!Op.bytesLess a b))
  | _ => none

/-- two cells compared, both of one plain kind -/
def cellEq : AV → AV → Option Bool
  | .i (.v (.int k a)), .i (.v (.int k' b)) => if k = k' then some (decide (a = b)) else none
  | .i (.v (.bool a)), .i (.v (.bool b)) => some (a == b)
  | .i (.str a), .i (.str b) => some (a == b)
  | _, _ => none
def cellsEq : List AV → List AV → Option Bool
  | [], [] => some true
  | a :: r, b :: t => match cellEq a b, cellsEq r t with
    | some x, some y => some (x && y)
    | _, _ => none
  | _, _ => none

/-- the kinds of a type's cells, where all are integers, bools, strings, laid one behind the other, and no field is blank -/
inductive Leaf where
  | int (k : IntKind) | bool | str
  deriving DecidableEq
def leavesF (P : Program) (lv : TypeId → Option (List Leaf)) : Nat → List Field → Option (List Leaf)
  | _, [] => some []
  | o, f :: r => match lv f.type, szO P f.type with
    | some l, some z => if f.offset = o ∧ l.length = z ∧ f.name ≠ "_" then (leavesF P lv (o + z) r).map (l ++ ·) else none
    | _, _ => none
def leaves (P : Program) : Nat → TypeId → Option (List Leaf)
  | 0, _ => none
  | d + 1, t => match P.underlying t with
    | some .bool => some [.bool]
    | some (.int k) => some [.int k]
    | some .string => some [.str]
    | some (.array n e) => match leaves P d e, szO P e with
      | some l, some z => if l.length = z then some (List.replicate n l).flatten else none
      | _, _ => none
    | some (.struct fs) => if P.stoodInHeld t then none else leavesF P (leaves P d) 0 fs.toList
    | _ => none
def leafOk : Leaf → AV → Bool
  | .int k, .i (.v (.int k' _)) => decide (k = k')
  | .bool, .i (.v (.bool _)) => true
  | .str, .i (.str _) => true
  | _, _ => false
def leavesOk : List Leaf → List AV → Bool
  | [], [] => true
  | l :: r, a :: t => leafOk l a && leavesOk r t
  | _, _ => false

def eqgO (P : Program) (t : TypeId) : Bool := P.eqGuardType P.depth t
/-- '==' on any two operands -/
def eqE (P : Program) (t : TypeId) (x y : AV) : Option Bool :=
  match x, y with
  | .agg a, .agg b => if eqgO P t = true then none else match aggO P t with
    | some true => match leaves P 9 t with
      | some l => if leavesOk l a = true ∧ leavesOk l b = true then cellsEq a b else none
      | none => none
    | _ => none
  | .i (.v (.bool a)), .i (.v (.bool b)) => match P.underlying t with
    | some .bool => some (a == b)
    | _ => none
  | .ptr _ _ _ _, .i (.v (.pointer none)) => match P.underlying t with
    | some (.pointer _) => some false
    | _ => none
  | .i (.pt _ _), .i (.v (.pointer none)) => match P.underlying t with
    | some (.pointer _) => some false
    | _ => none
  | .i (.v (.pointer none)), .i (.v (.pointer none)) => match P.underlying t with
    | some (.pointer _) => some true
    | _ => none
  | _, _ => none

def binE (P : Program) (op : BinOp) (t : TypeId) (x y : AV) : Option AV :=
  match x, y with
  | .i (.v (.int k a)), .i (.v (.int k' b)) => intE op k a k' b
  | .i (.str a), .i (.str b) => strE op a b
  | x, y => match op with
    | .eql => (eqE P t x y).map .bool
    | .neq => (eqE P t x y).map fun b => .bool (!b)
    | _ => none

def unE (op : UnOp) (x : AV) : Option AV :=
  match op, x with
  | .neg, .i (.v (.int k n)) => some (.int k (k.wrap (0 - n)))
  | .xor, .i (.v (.int k n)) => (bitsE .xor k (if k.signed then -1 else k.max) n).map (.int k ·)
  | .not, .i (.v (.bool b)) => some (.bool (!b))
  | _, _ => none

/-! memory -/
def ivs (l : List IV) : List AV := l.map .i
/-- n cells from k on -/
def take (l : List AV) (k n : Nat) : Option (List AV) :=
  if k + n ≤ l.length then some ((l.drop k).take n) else none
/-- the cells behind a pointer, and its place in them -/
def behind (H : Hp) : AV → Option (List AV × Nat)
  | .i (.pt cells off) => some (ivs cells, off)
  | .ptr c g r k => match H[c]? with
    | some (.box cells) => some (cells, k)
    | some (.sl _ g' rows _) => if g = g' then match rows[r]? with
      | some row => some (ivs row, k)
      | none => none
      else none
    | some (.fz _ g' rows _) => if g = g' then match rows[r]? with
      | some row => some (ivs row, k)
      | none => none
      else none
    | _ => none
  | _ => none
def loadE (E : Env) (H : Hp) (t : TypeId) (x : AV) : Option AV :=
  match behind H x, aggO E.P t, szO E.P t with
  | some (cells, k), some true, some n => (take cells k n).map .agg
  | some (cells, k), some false, some _ => cells[k]?
  | _, _, _ => none

/-- what lies behind a slice: the rows, and whether the array ends with them -/
def rowsE (H : Hp) : AV → Option (Nat × List (List IV) × Bool)
  | .i (.sl sz rows ex) => some (sz, rows, ex)
  | .ref c g off len => match H[c]? with
    | some (.sl sz g' rows ex) => if g = g' then some (sz, (rows.drop off).take len, ex && decide (off + len = rows.length)) else none
    | some (.fz sz g' rows ex) => if g = g' then some (sz, (rows.drop off).take len, ex && decide (off + len = rows.length)) else none
    | _ => none
  | _ => none
def lenE : AV → Option Nat
  | .i (.sl _ rows _) => some rows.length
  | .i (.str l) => some l.length
  | .ref _ _ _ len => some len
  | _ => none

def addPtr (n : Nat) : AV → Option AV
  | .i (.pt cells off) => some (.i (.pt cells (off + n)))
  | .ptr c g r k => some (.ptr c g r (k + n))
  | _ => none

def idxAddrE (E : Env) (H : Hp) (t : TypeId) (x ix : AV) : Option AV :=
  match ix with
  | .i (.v (.int _ n)) => match arrO E.P t, slO E.P t with
    | some (len, e), _ => match szO E.P e with
      | some z => if 0 ≤ n ∧ n < len then addPtr (n.toNat * z) x else none
      | none => none
    | none, some e => match szO E.P e, x with
      | some z, .i (.sl sz rows _) => if 0 ≤ n ∧ sz = z then match rows[n.toNat]? with
        | some row => some (.i (.pt row 0))
        | none => none
        else none
      | some z, .ref c g off len => match H[c]? with
        | some (.sl sz g' _ _) => if 0 ≤ n ∧ n < len ∧ sz = z ∧ g = g' then some (.ptr c g (off + n.toNat) 0) else none
        | some (.fz sz g' _ _) => if 0 ≤ n ∧ n < len ∧ sz = z ∧ g = g' then some (.ptr c g (off + n.toNat) 0) else none
        | _ => none
      | _, _ => none
    | _, _ => none
  | _ => none

def idxE (E : Env) (t : TypeId) (x ix : AV) : Option AV :=
  match x, ix with
  | .i (.str l), .i (.v (.int _ n)) => if 0 ≤ n ∧ isStrO E.P t = true then (l[n.toNat]?).map fun b => .int .u8 b.toNat else none
  | .agg cells, .i (.v (.int _ n)) => match arrO E.P t with
    | some (len, e) => match szO E.P e, aggO E.P e with
      | some z, some true => if 0 ≤ n ∧ n < len then (take cells (n.toNat * z) z).map .agg else none
      | some z, some false => if 0 ≤ n ∧ n < len then cells[n.toNat * z]? else none
      | _, _ => none
    | none => none
  | _, _ => none

def fieldE (E : Env) (t : TypeId) (x : AV) (f : Nat) : Option AV :=
  match x, fldO E.P t f with
  | .agg cells, some (off, ty) => match szO E.P ty, aggO E.P ty with
    | some z, some true => (take cells off z).map .agg
    | some _, some false => cells[off]?
    | _, _ => none
  | _, _ => none

/-- bounds of a slice expression: absent, or an integer -/
def bnd (d : Nat) : Option AV → Option Nat
  | none => some d
  | some (.i (.v (.int _ n))) => if 0 ≤ n then some n.toNat else none
  | _ => none
def sliceE (E : Env) (H : Hp) (t : TypeId) (x : AV) (lo hi mx : Option AV) : Option AV :=
  match lenE x with
  | none => none
  | some n => match bnd 0 lo, bnd n hi with
    | some l, some h => if l ≤ h ∧ h ≤ n then match x with
      | .i (.str s) => if mx.isNone ∧ isStrO E.P t = true then some (.str ((s.drop l).take (h - l))) else none
      | .i (.sl sz rows ex) => match slO E.P t with
        | some e => match szO E.P e with
          | some z => if rows = [] ∨ z = sz then match mx with
            | none => some (.i (.sl sz ((rows.drop l).take (h - l)) (ex && decide (h = n))))
            | some m => match bnd 0 (some m) with
              | some m' => if h = m' ∧ hi.isSome = true then some (.i (.sl sz ((rows.drop l).take (h - l)) true)) else none
              | none => none
            else none
          | none => none
        | none => none
      | .ref c g off _ => match slO E.P t, H[c]? with
        | some e, some (.sl sz g' _ _) => if mx.isNone ∧ g = g' ∧ szO E.P e = some sz then some (.ref c g (off + l) (h - l)) else none
        | some e, some (.fz sz g' rows ex) => if g = g' ∧ szO E.P e = some sz ∧ off + n ≤ rows.length then match mx with
          | none => some (.i (.sl sz ((rows.drop (off + l)).take (h - l)) (ex && decide (off + h = rows.length))))
          | some m => match bnd 0 (some m) with
            | some m' => if h = m' ∧ hi.isSome = true then some (.i (.sl sz ((rows.drop (off + l)).take (h - l)) true)) else none
            | none => none
          else none
        | _, _ => none
      | _ => none
      else none
    | _, _ => none

def convE (E : Env) (src dst : TypeId) (x : AV) : Option AV :=
  match x with
  | .i (.v (.int _ n)) => match aggO E.P src, kindO E.P dst with
    | some _, some k => some (.int k (k.wrap n))
    | some _, none => if isStrO E.P dst = true then some (.str (Utf8.encode n).data.toList) else none
    | none, _ => none
  | .i (.str l) => if isStrO E.P dst = true ∧ isStrO E.P src = true then some (.str l) else none
  | _ => none

/-- the numbers of a byte slice's rows; a byte slice as a string -/
def numsOf : List (List IV) → Option (List Int)
  | [] => some []
  | [.v (.int .u8 n)] :: r => (numsOf r).map (n :: ·)
  | _ => none
def convS (E : Env) (H : Hp) (e d : TypeId) (x : AV) : Option AV :=
  if isStrO E.P d = true ∧ kindO E.P e = some .u8 then match rowsE H x with
    | some (z, rows, _) => if rows = [] ∨ z = 1 then (numsOf rows).map fun l => .str (l.map fun n => UInt8.ofNat n.toNat) else none
    | none => none
  else none

def maxE : AV → AV → Option AV
  | .i (.v (.int k a)), .i (.v (.int _ b)) => some (.int k (max a b))
  | _, _ => none
def minE : AV → AV → Option AV
  | .i (.v (.int k a)), .i (.v (.int _ b)) => some (.int k (min a b))
  | _, _ => none
def foldE (f : AV → AV → Option AV) : List AV → Option AV
  | [] => none
  | a :: r => r.foldl (fun acc x => match acc with | some y => f y x | none => none) (some a)

/-- overwrite the cells from k on -/
def over (l : List AV) (k : Nat) (new : List AV) : List AV := l.take k ++ new ++ l.drop (k + new.length)
/-- fill the parts of a composite into the zero value -/
def fillS (pl : List (Nat × Nat)) : List AV → List (Nat × AV) → Option (List AV)
  | cells, [] => some cells
  | cells, (i, v) :: r => match pl[i]? with
    | some (off, z) => if (cellsA v).length = z ∧ off + z ≤ cells.length ∧ (cellsA v).all one = true then fillS pl (over cells off (cellsA v)) r else none
    | none => none
def fillA (z : Nat) : List AV → List (Nat × AV) → Option (List AV)
  | cells, [] => some cells
  | cells, (i, v) :: r => if (cellsA v).length = z ∧ i * z + z ≤ cells.length ∧ (cellsA v).all one = true then fillA z (over cells (i * z) (cellsA v)) r else none
def buildE (E : Env) (t : TypeId) (parts : List (Nat × AV)) : Option AV :=
  match zeroO E.P t with
  | some (.agg zero) => match arrO E.P t with
    | some (_, e) => match szO E.P e with
      | some z => (fillA z zero parts).map .agg
      | none => none
    | none => match placesO E.P t with
      | some pl => (fillS pl zero parts).map .agg
      | none => none
  | _ => none

/-! the light operations: they read, and change nothing -/
def evL (E : Env) (fr : Fr) (H : Hp) : Op → Option AV
  | .move x => some (opd E fr x)
  | .assign x => some (opd E fr x)
  | .pick c a b => match opd E fr c with
    | .i (.v (.bool t)) => some (bif t then opd E fr a else opd E fr b)
    | _ => none
  | .build t parts => buildE E t (parts.toList.map fun p => (p.1, opd E fr p.2))
  | .load t a => loadE E H t (opd E fr a)
  | .nilCheck x => match opd E fr x with
    | .ptr c g r k => some (.ptr c g r k)
    | .i (.pt c o) => some (.i (.pt c o))
    | .clo (.func f) a b => some (.clo (.func f) a b)
    | _ => none
  | .binOp op t x y _ => binE E.P op t (opd E fr x) (opd E fr y)
  | .unOp op _ x => unE op (opd E fr x)
  | .convert s d x => match slO E.P s with
    | some e => convS E H e d (opd E fr x)
    | none => convE E s d (opd E fr x)
  | .makeFunc fn first caps => some (.clo fn (first.toList.map (opd E fr)) (caps.toList.map (opd E fr)))
  | .slice t x lo hi mx => sliceE E H t (opd E fr x) (lo.map (opd E fr)) (hi.map (opd E fr)) (mx.map (opd E fr))
  | .fieldAddr s x f => match fldO E.P s f with
    | some (off, ty) => match szO E.P ty with
      | some z => if 0 < z then addPtr off (opd E fr x) else none
      | none => none
    | none => none
  | .field t x f => fieldE E t (opd E fr x) f
  | .indexAddr t x ix => idxAddrE E H t (opd E fr x) (opd E fr ix)
  | .index t x ix => idxE E t (opd E fr x) (opd E fr ix)
  | .extract x n => match opd E fr x with
    | .tup vs => vs[n]?
    | _ => none
  | .call ⟨.builtin b, args, tys⟩ => match b, args.toList, tys.toList with
    | .len, [x], [t] => if isStrO E.P t = true ∨ (slO E.P t).isSome = true then match opd E fr x with
      | .i (.str l) => if isStrO E.P t = true then some (.int .i64 l.length) else none
      | .i (.sl _ rows _) => if isStrO E.P t = true then none else some (.int .i64 rows.length)
      | .ref _ _ _ len => if isStrO E.P t = true then none else some (.int .i64 len)
      | _ => none
      else none
    | .max, l, _ => foldE maxE (l.map (opd E fr))
    | .min, l, _ => foldE minE (l.map (opd E fr))
    | _, _, _ => none
  | _ => none

/-! the heavy operations -/
/-- a value as an immutable one; a slice over an own chunk freezes it -/
def freeze (H : Hp) : AV → Option (IV × Hp)
  | .i x => some (x, H)
  | .ref c g off len => match H[c]? with
    | some (.sl sz g' rows ex) => if g = g' then
        some (.sl sz ((rows.drop off).take len) (ex && decide (off + len = rows.length)), H.set c (.fz sz g rows ex)) else none
    | some (.fz sz g' rows ex) => if g = g' then some (.sl sz ((rows.drop off).take len) (ex && decide (off + len = rows.length)), H) else none
    | _ => none
  | _ => none
def freezeAll (H : Hp) : List AV → Option (List IV × Hp)
  | [] => some ([], H)
  | a :: r => match freeze H a with
    | some (x, H1) => match freezeAll H1 r with
      | some (xs, H2) => some (x :: xs, H2)
      | none => none
    | none => none

/-- an immutable value of a known type: its array is not told exactly; an empty slice bears the type's size -/
def canI : Option Nat → IV → IV
  | some z, .sl sz rows _ => if sz = z then .sl z rows false else if rows = [] then .sl z [] false else .sl sz rows false
  | _, x => x
def canR : List (Option Nat) → List IV → List IV
  | k :: ks, x :: r => canI k x :: canR ks r
  | _, l => l
def canC : List (Option Nat) → List AV → List AV
  | k :: ks, .i x :: r => .i (canI k x) :: canC ks r
  | _ :: ks, a :: r => a :: canC ks r
  | _, l => l
def canA (ks : List (Option Nat)) : AV → AV
  | .i x => .i (canI (ks.headD none) x)
  | .agg cells => .agg (canC ks cells)
  | a => a
def canLs : List (List (Option Nat)) → List AV → List AV
  | k :: ks, a :: r => canA k a :: canLs ks r
  | _, l => l
/-- a nil slice as an own empty one -/
def matV (z : Nat) (H : Hp) : AV → AV × Hp
  | .i (.sl _ [] true) => (.ref H.length 0 0 0, H ++ [.sl z 0 [] false])
  | a => (a, H)
def mat1 : List (Option Nat) → Hp → AV → AV × Hp
  | [some z], H, a => matV z H a
  | _, H, a => (a, H)
def matL : List (List (Option Nat)) → List AV → Hp → List AV × Hp
  | k :: ks, a :: r, H => ((mat1 k H a).1 :: (matL ks r (mat1 k H a).2).1, (matL ks r (mat1 k H a).2).2)
  | _, l, H => (l, H)
def matF : List (Nat × Nat) → Fr → Hp → Fr × Hp
  | [], fr, H => (fr, H)
  | (k, z) :: r, fr, H => matF r ((k, (matV z H (get k fr)).1) :: fr) (matV z H (get k fr)).2
def matB1 (j z c : Nat) (H : Hp) : Option Chunk → Hp
  | some (.box cells) => match cells[j]? with
    | some a => (matV z H a).2.set c (.box (cells.set j (matV z H a).1))
    | none => H
  | _ => H
def matB2 (j z : Nat) (H : Hp) : AV → Hp
  | .ptr c _ _ _ => matB1 j z c H H[c]?
  | _ => H
def matB : List (Nat × Nat × Nat) → Fr → Hp → Hp
  | [], _, H => H
  | (k, j, z) :: r, fr, H => matB r fr (matB2 j z H (get k fr))
def frz1 (k z : Nat) (fr : Fr) (H : Hp) : Option (IV × Hp) → Fr × Hp
  | some (x, H1) => ((k, .i (canI (some z) x)) :: fr, H1)
  | none => (fr, H)
def frzF : List (Nat × Nat) → Fr → Hp → Fr × Hp
  | [], fr, H => (fr, H)
  | (k, z) :: r, fr, H => frzF r (frz1 k z fr H (freeze H (get k fr))).1 (frz1 k z fr H (freeze H (get k fr))).2

/-- chunks from B on: generations counted anew, what is frozen an immutable value -/
def cnRef (c g o n : Nat) : Option Chunk → AV
  | some (.sl _ g' _ _) => if g = g' then .ref c 0 o n else .dead
  | some (.fz sz g' rows ex) => if g = g' then .i (.sl sz ((rows.drop o).take n) (ex && decide (o + n = rows.length))) else .dead
  | _ => .dead
def cnPtr (c g r k : Nat) : Option Chunk → AV
  | some (.sl _ g' _ _) => if g = g' then .ptr c 0 r k else .dead
  | some _ => .ptr c g r k
  | none => .dead
mutual
def cnA (B : Nat) (H : Hp) : AV → AV
  | .dead => .dead
  | .i x => .i x
  | .agg l => .agg (cnL B H l)
  | .ref c g o n => if c < B then .ref c g o n else cnRef c g o n H[c]?
  | .ptr c g r k => if c < B then .ptr c g r k else cnPtr c g r k H[c]?
  | .clo f a b => .clo f (cnL B H a) (cnL B H b)
  | .tup l => .tup (cnL B H l)
def cnL (B : Nat) (H : Hp) : List AV → List AV
  | [] => []
  | a :: r => cnA B H a :: cnL B H r
end
def cnC (B : Nat) (H : Hp) (c : Nat) : Chunk → Chunk
  | .box cells => .box (cnL B H cells)
  | .sl sz g rows ex => if c < B then .sl sz g rows ex else .sl sz 0 rows false
  | x => x
def cnHs (B : Nat) (H : Hp) : Nat → Hp → Hp
  | _, [] => []
  | c, x :: r => cnC B H c x :: cnHs B H (c + 1) r
def cnF (B : Nat) (H : Hp) : Fr → Fr
  | [] => []
  | (k, a) :: r => (k, cnA B H a) :: cnF B H r

/-- n rows of z cells -/
def chop (z : Nat) : Nat → List IV → List (List IV)
  | 0, _ => []
  | n + 1, l => l.take z :: chop z n (l.drop z)

def ivsOf : List AV → Option (List IV)
  | [] => some []
  | .i x :: r => (ivsOf r).map (x :: ·)
  | _ => none
def zeroRow (E : Env) (e : TypeId) : Option (List IV) :=
  match zeroO E.P e with
  | some (.agg cs) => ivsOf cs
  | some (.i x) => some [x]
  | _ => none

def buildSliceE (E : Env) (H : Hp) (t : TypeId) (n : Nat) (parts : List (Nat × AV)) : Option (AV × Hp) :=
  match slO E.P t with
  | some e => match szO E.P e, zeroO E.P e with
    | some z, some zero => if n * z ≤ 16777216 ∧ (cellsA zero).length = z ∧ 0 < z ∧ (cellsA zero).all one = true then
        match fillA z (List.replicate n (cellsA zero)).flatten parts with
        | some cells => match freezeAll H cells with
          | some (xs, H1) => some (.ref H1.length 0 0 n, H1 ++ [.sl z 0 (chop z n (canR (List.replicate n (E.kinds e)).flatten xs)) true])
          | none => none
        | none => none
      else none
    | _, _ => none
  | none => none

def storeE (E : Env) (H : Hp) (t : TypeId) (p v : AV) : Option Hp :=
  match szO E.P t with
  | some n => if (cellsA v).length = n ∧ (cellsA v).all one = true then match p with
    | .ptr c g r k => match H[c]? with
      | some (.box cells) => if k + n ≤ cells.length then some (H.set c (.box (over cells k (cellsA v)))) else none
      | some (.sl ..) => match freezeAll H (cellsA v) with
        | some (xs, H1) => match H1[c]? with
          | some (.sl sz g' rows ex) => if g = g' ∧ k + n ≤ sz then match rows[r]? with
            | some row => some (H1.set c (.sl sz g' (rows.set r (row.take k ++ canR (E.kinds t) xs ++ row.drop (k + n))) ex))
            | none => none
            else none
          | _ => none
        | none => none
      | _ => none
    | _ => none
    else none
  | none => none

/-- what is appended: a slice's rows, a string's bytes -/
def srcE (H : Hp) : AV → Option (Nat × List (List IV) × Bool)
  | .i (.str l) => some (1, l.map fun b => [IV.v (.int .u8 b.toNat)], true)
  | x => rowsE H x
def appendE (E : Env) (H : Hp) (t t2 : TypeId) (s x : AV) : Option (AV × Hp) :=
  match slO E.P t with
  | some e => match szO E.P e, bytesO E.P e, zeroO E.P e, srcE H x with
    | some z, some b, some zv, some (z', new, _) =>
      if (new = [] ∨ z' = z) ∧ 0 < z ∧ b ≤ 65536 ∧ ((slO E.P t2).isSome = true ∨ isStrO E.P t2 = true) ∧ (cellsA zv).length = z ∧ (cellsA zv).all one = true then match s with
      | .i (.sl sz rows ex) => if ex = true ∧ (rows = [] ∨ (sz = z ∧ new ≠ [])) ∧ rows.length + new.length < 1073741824 then
          some (.ref H.length 0 0 (rows.length + new.length), H ++ [.sl z 0 (rows ++ new) (rows.isEmpty && new.isEmpty)]) else none
      | .ref c g off len => match H[c]? with
        | some (.sl sz g' rows ex) => if g = g' ∧ off = 0 ∧ sz = z ∧ len + new.length < 1073741824 then
            some (.ref c (g + 1) 0 (len + new.length), H.set c (.sl z (g + 1) (rows.take len ++ new) (ex && rows.isEmpty && new.isEmpty))) else none
        | some (.fz sz g' rows ex) => if g = g' ∧ off = 0 ∧ sz = z ∧ ex = true ∧ len = rows.length ∧ new ≠ [] ∧ len + new.length < 1073741824 then
            some (.ref H.length 0 0 (len + new.length), H ++ [.sl z 0 (rows ++ new) false]) else none
        | _ => none
      | _ => none
      else none
    | _, _, _, _ => none
  | none => none

def makeSliceE (E : Env) (H : Hp) (t : TypeId) (l c : AV) : Option (AV × Hp) :=
  match slO E.P t, l, c with
  | some e, .i (.v (.int _ n)), .i (.v (.int _ m)) => match szO E.P e, zeroRow E e, bytesO E.P e with
    | some z, some row, some b => if 0 ≤ n ∧ n = m ∧ n < 1073741824 ∧ row.length = z ∧ 0 < z ∧ b ≤ 65536 then
        some (.ref H.length 0 0 n.toNat, H ++ [.sl z 0 (List.replicate n.toNat (canR (E.kinds e) row)) true]) else none
    | _, _, _ => none
  | _, _, _ => none

def evH (E : Env) (fr : Fr) (H : Hp) : Op → Option (AV × Hp)
  | .alloc e => match zeroO E.P e with
    | some v => if (cellsA v).all one then some (.ptr H.length 0 0 0, H ++ [.box (cellsA v)]) else none
    | none => none
  | .box _ x => if (cellsA (opd E fr x)).all one then some (.ptr H.length 0 0 0, H ++ [.box (cellsA (opd E fr x))]) else none
  | .buildSlice t n parts => buildSliceE E H t n (parts.toList.map fun p => (p.1, opd E fr p.2))
  | .store t a x => (storeE E H t (opd E fr a) (opd E fr x)).map fun H' => (.dead, H')
  | .makeSlice t l c => makeSliceE E H t (opd E fr l) (opd E fr c)
  | .convert s d x => match opd E fr x with
    | .i (.str l) => if isStrO E.P s = true ∧ ((slO E.P d).bind (kindO E.P)) = some .u8 ∧ l.length < 1073741824 then
        some (.ref H.length 0 0 l.length, H ++ [.sl 1 0 (l.map fun b => [IV.v (.int .u8 b.toNat)]) false]) else none
    | _ => none
  | .range t x => match opd E fr x with
    | .i (.str l) => if isStrO E.P t = true then some (.ptr H.length 0 0 0, H ++ [.iter l 0]) else none
    | _ => none
  | .next it b => match b, opd E fr it with
    | true, .ptr c _ _ 0 => match H[c]? with
      | some (.iter s pos) => if pos < s.length then
          some (.tup [.bool true, .int .i64 pos, .int .i32 (Utf8.decode ⟨⟨s⟩⟩ pos).1], H.set c (.iter s (pos + (Utf8.decode ⟨⟨s⟩⟩ pos).2))) else some (.tup [.bool false], H)
      | _ => none
    | _, _ => none
  | .call ⟨.builtin b, args, tys⟩ => match b, args.toList, tys.toList with
    | .append, [s, x], [t, t2] => appendE E H t t2 (opd E fr s) (opd E fr x)
    | _, _, _ => none
  | _ => none

def heavy (E : Env) : Op → Bool
  | .alloc _ | .box .. | .buildSlice .. | .store .. | .makeSlice .. | .range .. | .next .. => true
  | .convert _ d _ => (slO E.P d).isSome
  | .call ⟨.builtin b, _, _⟩ => match b with
    | .append => true
    | _ => false
  | .call ⟨.value _, _, _⟩ => true
  | _ => false

/-! calls -/
mutual
def renA (ρ : Nat → Option Nat) : AV → AV
  | .dead => .dead
  | .i x => .i x
  | .agg l => .agg (renL ρ l)
  | .ref c g o n => match ρ c with | some c' => .ref c' g o n | none => .dead
  | .ptr c g r k => match ρ c with | some c' => .ptr c' g r k | none => .dead
  | .clo f a b => .clo f (renL ρ a) (renL ρ b)
  | .tup l => .tup (renL ρ l)
def renL (ρ : Nat → Option Nat) : List AV → List AV
  | [] => []
  | a :: r => renA ρ a :: renL ρ r
end
mutual
def refsA : AV → List Nat
  | .dead => []
  | .i _ => []
  | .agg l => refsL l
  | .ref c _ _ _ => [c]
  | .ptr c _ _ _ => [c]
  | .clo _ a b => refsL a ++ refsL b
  | .tup l => refsL l
def refsL : List AV → List Nat
  | [] => []
  | a :: r => refsA a ++ refsL r
end
def Chunk.ren (ρ : Nat → Option Nat) : Chunk → Chunk
  | .box cells => .box (renL ρ cells)
  | c => c
def Chunk.refs : Chunk → List Nat
  | .box cells => refsL cells
  | _ => []

/-- the chunks that can be reached, in the order in which they are met -/
def reach (H : Hp) : Nat → List Nat → List Nat → List Nat
  | 0, _, seen => seen
  | _ + 1, [], seen => seen
  | n + 1, c :: r, seen => if c ∈ seen ∨ H.length ≤ c then reach H n r seen
    else reach H n (((H[c]?).map Chunk.refs).getD [] ++ r) (seen ++ [c])

def posIn : List Nat → Nat → Option Nat
  | [], _ => none
  | c :: r, k => if k = c then some 0 else (posIn r k).map (· + 1)

def frameOf : Nat → List AV → Fr
  | _, [] => []
  | k, a :: r => (k, a) :: frameOf (k + 1) r

inductive Ex where
  | normal | exit (id : Nat) | ret
  deriving DecidableEq

/-- a function's results, read off its frame -/
def resE1 (E : Env) (fr : Fr) (H : Hp) : ResultVar → Option AV
  | .tmp t => some (get t fr)
  | .cell a t => loadE E H t (get a fr)
def resEs (E : Env) (fr : Fr) (H : Hp) : List ResultVar → Option (List AV)
  | [] => some []
  | r :: l => match resE1 E fr H r, resEs E fr H l with
    | some a, some as => some (a :: as)
    | _, _ => none
def resE (E : Env) (fr : Fr) (H : Hp) (l : List ResultVar) : Option AV :=
  match resEs E fr H l with
  | some [a] => some a
  | some as => some (.tup as)
  | none => none

abbrev Exec := Nat → FuncId → Code → Fr → Hp → Option (Ex × Fr × Hp)
abbrev CallF := FuncId → List AV → Hp → Option (AV × Hp)

/-- slices are handed on as immutable ones, unless the callee is to append to them -/
def prep (H : Hp) : List AV → Option (List AV × Hp)
  | [] => some ([], H)
  | a :: r => match a with
    | .ref .. => match freeze H a with
      | some (x, H1) => match prep H1 r with
        | some (as, H2) => some (.i x :: as, H2)
        | none => none
      | none => none
    | .agg l => match freezeAll H l with
      | some (xs, H1) => match prep H1 r with
        | some (as, H2) => some (.agg (ivs xs) :: as, H2)
        | none => none
      | none => match prep H r with
        | some (as, H2) => some (.agg l :: as, H2)
        | none => none
    | a => match prep H r with
      | some (as, H2) => some (a :: as, H2)
      | none => none
def prepE (E : Env) (f : FuncId) (H : Hp) (args : List AV) : Option (List AV × Hp) :=
  match E.byref f with
  | true => some (matL (E.argk f) args H)
  | false => match prep H args with
    | some (as, H1) => some (canLs (E.argk f) as, H1)
    | none => none

def setAll (H : Hp) : List Nat → List Chunk → Hp
  | c :: r, x :: t => setAll (H.set c x) r t
  | _, _ => H

/-- how chunks of the callee are called by the caller -/
def backRen (R : List Nat) (n : Nat) (K : List Nat) : Nat → Option Nat := fun i =>
  match R[i]? with
  | some c => some c
  | none => (posIn K i).map (· + n)

def callIso (E : Env) (cl : CallF) : CallF := fun f args H =>
  match prepE E f H args with
  | none => none
  | some (args1, H1) => match E.ext f with
    | some h => (h args1).map fun r => (r, H1)
    | none =>
      let R := reach H1 64 (refsL args1) []
      let into := posIn R
      match cl f (renL into args1) (R.map fun c => ((H1[c]?).map (Chunk.ren into)).getD (.iter [] 0)) with
      | none => none
      | some (r, L) => if L.length < R.length then none else
        let K := (reach L 64 (refsA r ++ (L.take R.length).flatMap Chunk.refs) []).filter fun i => decide (R.length ≤ i)
        let back := backRen R H1.length K
        some (renA back r, setAll H1 R ((L.take R.length).map (Chunk.ren back)) ++ K.map fun i => ((L[i]?).map (Chunk.ren back)).getD (.iter [] 0))

/-! regions -/
def putD (dst : Option Nat) (v : AV) (fr : Fr) : Fr :=
  match dst with
  | some d => (d, v) :: fr
  | none => fr
/-- the target and the arguments of a call of a function value -/
def calleeE (E : Env) (fr : Fr) (f : Operand) (args : List Operand) : Option (FuncId × List AV) :=
  match opd E fr f with
  | .clo (.func g) first caps => some (g, first ++ args.map (opd E fr) ++ caps)
  | _ => none
/-- a call of this function enters it -/
def enterOk (E : Env) (g : FuncId) : Bool :=
  match E.P.funcs[g]? with
  | some fn => fn.body.isSome && !(fn.name == "runtime.NumGoroutine")
  | none => false
def evOp (E : Env) (cl : CallF) (o : Op) (fr : Fr) (H : Hp) : Option (AV × Hp) :=
  match o with
  | .call ⟨.value f, args, _⟩ => match calleeE E fr f args.toList with
    | some (g, as) => if enterOk E g = true then callIso E cl g as H else none
    | none => none
  | o => if heavy E o then evH E fr H o else (evL E fr H o).map fun v => (v, H)
def guardE (ops : List Oper) (fr : Fr) (o : Oper) : Option Bool :=
  match o.guard with
  | none => some true
  | some (j, want) => match (ops[j]?).bind (·.dst) with
    | some d => match get d fr with
      | .i (.v (.bool b)) => some (b == want)
      | .tup [] => some false
      | _ => none
    | none => none
def evOps (E : Env) (cl : CallF) (ops : List Oper) : List Oper → Fr → Hp → Option (Fr × Hp)
  | [], fr, H => some (fr, H)
  | o :: r, fr, H => match guardE ops fr o with
    | some true => match evOp E cl o.op fr H with
      | some (v, H') => evOps E cl ops r (putD o.dst v fr) H'
      | none => none
    | some false => evOps E cl ops r (putD o.dst (.tup []) fr) H
    | none => none

/-! regions that draw their order -/
/-- what a call is handed, and which chunks it may reach -/
def calleeR (E : Env) (f : FuncId) (args : List AV) (H : Hp) : List Nat :=
  match prepE E f H args with
  | some (args1, H1) => refsL args ++ reach H1 64 (refsL args1) []
  | none => []
/-- what the cells of a new slice refer to -/
def buildRefs (E : Env) (t : TypeId) (n : Nat) (parts : List (Nat × AV)) : List Nat :=
  match slO E.P t with
  | some e => match szO E.P e, zeroO E.P e with
    | some z, some zero => match fillA z (List.replicate n (cellsA zero)).flatten parts with
      | some cells => refsL cells
      | none => []
    | _, _ => []
  | none => []
/-- the chunks that an operation reads or changes -/
def touch (E : Env) (fr : Fr) (H : Hp) : Op → List Nat
  | .call ⟨.value f, args, _⟩ => match calleeE E fr f args.toList with
    | some (g, as) => calleeR E g as H
    | none => []
  | .call ⟨.builtin _, args, _⟩ => refsL (args.toList.map (opd E fr))
  | .load _ x => refsA (opd E fr x)
  | .indexAddr _ x _ => refsA (opd E fr x)
  | .slice _ x _ _ _ => refsA (opd E fr x)
  | .convert _ _ x => refsA (opd E fr x)
  | .next it _ => refsA (opd E fr it)
  | .store _ a x => refsA (opd E fr a) ++ refsA (opd E fr x)
  | .buildSlice t n parts => buildRefs E t n (parts.toList.map fun p => (p.1, opd E fr p.2))
  | _ => []
/-- does a light operation read the heap? -/
def readsH : Op → Bool
  | .load .. | .indexAddr .. | .slice .. | .convert .. => true
  | _ => false
/-- are two operations, the elder first, bound in their order, directly or through others? -/
def bound (b : Array Nat) (i j : Nat) : Bool := (b.getD j 0).testBit i
/-- the pairs of operations whose order is open and of which one reads, the other changes memory -/
def floats (E : Env) (ops : Array Oper) : List (Nat × Nat) :=
  let b := Region.before ops
  (List.range ops.size).flatMap fun j => (List.range j).filterMap fun i =>
    match ops[i]?, ops[j]? with
    | some x, some y => if !bound b i j && ((heavy E x.op && readsH y.op) || (heavy E y.op && readsH x.op)) then some (i, j) else none
    | _, _ => none
/-- the closed part of the check: unbound operations write no slot that the other looks at, and do not both change memory -/
def drawOk (E : Env) (ops : Array Oper) : Bool :=
  let b := Region.before ops
  (ops.toList.all fun o => !(o.op matches .select ..)) &&
  ((List.range ops.size).all fun j => match ops[j]? with
    | some y => y.after.all fun e => !Region.binds .any e || decide (e.on < j)
    | none => false) &&
  (List.range ops.size).all fun j => (List.range j).all fun i =>
    match ops[i]?, ops[j]? with
    | some x, some y => bound b i j || (x.apart ops y && !(heavy E x.op && heavy E y.op))
    | _, _ => false
/-- one operation, with its guard; behind it what it has touched -/
def stp (E : Env) (cl : CallF) (ops : List Oper) (o : Oper) (fr : Fr) (H : Hp) : Option (Fr × Hp × List Nat) :=
  match guardE ops fr o with
  | some true => match evOp E cl o.op fr H with
    | some (v, H') => some (putD o.dst v fr, H', touch E fr H o.op ++ List.range' H.length (H'.length - H.length))
    | none => none
  | some false => some (putD o.dst (.tup []) fr, H, [])
  | none => none
/-- the run in the order of the text, and what each operation touched -/
def evT (E : Env) (cl : CallF) (ops : List Oper) : List Oper → Fr → Hp → Option (Fr × Hp × List (List Nat))
  | [], fr, H => some (fr, H, [])
  | o :: r, fr, H => match stp E cl ops o fr H with
    | some (fr1, H1, t) => match evT E cl ops r fr1 H1 with
      | some (fr2, H2, ts) => some (fr2, H2, t :: ts)
      | none => none
    | none => none
def apartT (a b : List Nat) : Bool := a.all fun c => !b.contains c
def floatOk (tr : List (List Nat)) (p : Nat × Nat) : Bool := apartT (tr.getD p.1 []) (tr.getD p.2 [])

/-! regions that draw, their new memory made in places that were set aside -/
def hole : Chunk := .sl 0 0 [] true
def isFresh : Op → Bool
  | .alloc _ | .box .. | .buildSlice .. | .makeSlice .. => true
  | _ => false
/-- new memory, as it is made out of operands alone -/
def freshOf : Option (AV × Hp) → Option (Option Nat × Chunk)
  | some (.ref _ _ _ n, [.sl z _ rows ex]) => some (some n, .sl z 1 rows ex)
  | some (.ptr _ _ _ _, [.box cells]) => some (none, .box cells)
  | _ => none
def mkR (c : Nat) : Option Nat → AV
  | none => .ptr c 0 0 0
  | some n => .ref c 1 0 n
def putH (c : Nat) (H : Hp) (r : Option (Option Nat × Chunk)) : Option Chunk → Option (AV × Hp)
  | some (.sl 0 0 [] true) => match r with
    | some (k, ch) => some (mkR c k, H.set c ch)
    | none => none
  | _ => none
def evOpD (E : Env) (cl : CallF) (c : Nat) (o : Op) (fr : Fr) (H : Hp) : Option (AV × Hp) :=
  match isFresh o with
  | true => putH c H (freshOf (evH E fr [] o)) H[c]?
  | false => evOp E cl o fr H
def touchD (E : Env) (c : Nat) (fr : Fr) (H : Hp) (o : Op) : List Nat :=
  match isFresh o with
  | true => [c]
  | false => touch E fr H o
def stepC (c : Nat) (o : Op) : Nat := match isFresh o with | true => c + 1 | false => c
def nFresh (l : List Oper) : Nat := l.foldl (fun c o => stepC c o.op) 0
def evD (E : Env) (cl : CallF) (ops : List Oper) : Nat → List Oper → Fr → Hp → Option (Fr × Hp × List (List Nat))
  | _, [], fr, H => some (fr, H, [])
  | c, o :: r, fr, H => match guardE ops fr o with
    | some true => match evOpD E cl c o.op fr H with
      | some (v, H') => match evD E cl ops (stepC c o.op) r (putD o.dst v fr) H' with
        | some (fr2, H2, ts) => some (fr2, H2, (touchD E c fr H o.op ++ List.range' H.length (H'.length - H.length)) :: ts)
        | none => none
      | none => none
    | some false => match evD E cl ops (stepC c o.op) r (putD o.dst (.tup []) fr) H with
      | some (fr2, H2, ts) => some (fr2, H2, [] :: ts)
      | none => none
    | none => none
def floatsD (E : Env) (ops : Array Oper) : List (Nat × Nat) :=
  let b := Region.before ops
  (List.range ops.size).flatMap fun j => (List.range j).filterMap fun i =>
    match ops[i]?, ops[j]? with
    | some x, some y => if !bound b i j && ((heavy E x.op && (readsH y.op || heavy E y.op)) || (heavy E y.op && (readsH x.op || heavy E x.op))) then some (i, j) else none
    | _, _ => none
def drawOkD (E : Env) (ops : Array Oper) : Bool :=
  let b := Region.before ops
  (ops.toList.all fun o => !(o.op matches .select ..)) &&
  ((List.range ops.size).all fun j => match ops[j]? with
    | some y => y.after.all fun e => !Region.binds .any e || decide (e.on < j)
    | none => false) &&
  (List.range ops.size).all fun j => (List.range j).all fun i =>
    match ops[i]?, ops[j]? with
    | some x, some y => bound b i j || (x.apart ops y && (!(heavy E x.op && heavy E y.op) || isFresh x.op || isFresh y.op))
    | _, _ => false

/-- what is asked of a function's code once, closed -/
def codeOk (E : Env) (f : FuncId) (nt : Nat) : Code → Bool
  | .region id ops draw => (ops.toList.all fun o => match o.dst with | some d => decide (d < nt) | none => true) &&
      (!draw || (match E.hol f id with
        | false => drawOk E ops && (floats E ops).all fun p => (E.flo f id).contains p
        | true => drawOkD E ops && (floatsD E ops).all fun p => (E.flo f id).contains p))
  | .seq a b => codeOk E f nt a && codeOk E f nt b
  | .cond _ a b => codeOk E f nt a && codeOk E f nt b
  | .block _ c => codeOk E f nt c
  | .loop c => codeOk E f nt c
  | .scope c => codeOk E f nt c
  | .goto _ => false
  | _ => true
def fnOk (E : Env) (f : FuncId) : Bool :=
  match E.P.funcs[f]? with
  | some fn => match fn.body with
    | some c => codeOk E f fn.ntmps c && E.P.follows .mixedOrders
    | none => false
  | none => false

/-- what is handed back: slices as immutable ones, unless they are answered as own ones -/
def retL (E : Env) (f : FuncId) (B : Nat) (H : Hp) (vs : List AV) : Option (List AV × Hp) :=
  match E.own f with
  | true => some (cnL B (matL (E.resk f) vs H).2 (matL (E.resk f) vs H).1, cnHs B (matL (E.resk f) vs H).2 0 (matL (E.resk f) vs H).2)
  | false => match prep H vs with
    | some (as, H1) => some (cnL B H1 (canLs (E.resk f) as), cnHs B H1 0 H1)
    | none => none
def ret1 : Option (List AV × Hp) → Option (AV × Hp)
  | some ([a], H) => some (a, H)
  | _ => none
def retN : Option (List AV × Hp) → Option (AV × Hp)
  | some (as, H) => some (.tup as, H)
  | none => none
def retE (E : Env) (f : FuncId) (B : Nat) (H : Hp) : AV → Option (AV × Hp)
  | .tup vs => retN (retL E f B H vs)
  | a => ret1 (retL E f B H [a])
/-- a call on the callee's own numbering of chunks -/
def callLoc (E : Env) (ex : Exec) : CallF := fun f args H =>
  match E.P.funcs[f]? with
  | some fn => match fn.body with
    | some c => if fnOk E f = true ∧ args.length ≤ fn.ntmps then match ex H.length f c (frameOf 0 args) H with
      | some (.exit _, _, _) => none
      | some (_, fr, H') => match resE E fr H' fn.results.toList with
        | some r => retE E f H.length H' r
        | none => none
      | none => none
      else none
    | none => none
  | none => none

/-! code -/
def norm (l : List Nat) (fr : Fr) : Fr := l.map fun k => (k, get k fr)
def firstRegion : Code → Option Nat
  | .region id _ _ => some id
  | .seq a b => match firstRegion a with | some i => some i | none => firstRegion b
  | .cond _ a b => match firstRegion a with | some i => some i | none => firstRegion b
  | .block _ c => firstRegion c
  | .loop c => firstRegion c
  | .scope c => firstRegion c
  | _ => none

/-- at a loop's head: the chunks from B on that nothing leads to any more are dropped, the others are counted anew in the order in which they are met -/
def gcR (B : Nat) (fr : Fr) (H : Hp) : List Nat :=
  List.range B ++ (reach H 64 (refsL (fr.map (·.2)) ++ (H.take B).flatMap Chunk.refs) []).filter fun i => decide (B ≤ i)
def gcW (R : List Nat) (fr : Fr) (H : Hp) : Fr × Hp :=
  (fr.map fun x => (x.1, renA (posIn R) x.2), R.map fun c => ((H[c]?).map (Chunk.ren (posIn R))).getD (.iter [] 0))
def gc (B : Nat) (fr : Fr) (H : Hp) : Fr × Hp := if B ≤ H.length then gcW (gcR B fr H) fr H else (fr, H)

def gcn (B : Nat) (fr : Fr) (H : Hp) : Fr × Hp := gc B (cnF B H fr) (cnHs B H 0 H)
/-- a loop's head -/
def hdE (E : Env) (B : Nat) (f : FuncId) (id : Nat) (fr : Fr) (H : Hp) : Fr × Hp :=
  let p := matF (E.mat f id) fr H
  let H2 := matB (E.matb f id) p.1 p.2
  let q := frzF (E.frz f id) p.1 H2
  gcn B (norm (E.head f id) q.1) q.2

def exec (E : Env) : Nat → Exec
  | 0, _, _, _, _, _ => none
  | n + 1, B, f, c, fr, H => match c with
    | .skip => some (.normal, fr, H)
    | .label _ => some (.normal, fr, H)
    | .ret => some (.ret, fr, H)
    | .exit id => some (.exit id, fr, H)
    | .region id ops draw =>
      match draw with
      | false => match evOps E (callLoc E (exec E n)) ops.toList ops.toList fr H with
        | some (fr', H') => some (.normal, norm (E.keep f id) fr', H')
        | none => none
      | true => match E.hol f id with
        | false => match evT E (callLoc E (exec E n)) ops.toList ops.toList fr H with
          | some (fr', H', tr) => if (E.flo f id).all (floatOk tr) = true then some (.normal, norm (E.keep f id) fr', H') else none
          | none => none
        | true => match evD E (callLoc E (exec E n)) ops.toList H.length ops.toList fr (H ++ List.replicate (nFresh ops.toList) hole) with
          | some (fr', H', tr) => if (E.flo f id).all (floatOk tr) = true then some (.normal, norm (E.keep f id) fr', H') else none
          | none => none
    | .seq a b => match exec E n B f a fr H with
      | some (.normal, fr', H') => exec E n B f b fr' H'
      | r => r
    | .cond c a b => match opd E fr c with
      | .i (.v (.bool true)) => exec E n B f a fr H
      | .i (.v (.bool false)) => exec E n B f b fr H
      | _ => none
    | .block id c => match exec E n B f c fr H with
      | some (.exit j, fr', H') => if j = id then some (.normal, fr', H') else some (.exit j, fr', H')
      | r => r
    | .loop c => match exec E n B f c (hdE E B f ((firstRegion c).getD 0) fr H).1 (hdE E B f ((firstRegion c).getD 0) fr H).2 with
      | some (.normal, fr', H') => exec E n B f (.loop c) fr' H'
      | r => r
    | .scope c => exec E n B f c fr H
    | _ => none

def call (E : Env) (n : Nat) : CallF := callLoc E (exec E n)
end Go.VI
