import Derived.Orders
import Derived.Laws.Sem
import Derived.Laws.Cells
import Derived.ChangeKeysEq
import Derived.Laws.StructEq
import Derived.Laws.Strings
set_option linter.unusedSimpArgs false
set_option linter.unusedVariables false
namespace Go.VI

inductive IV where
 | v (x : Value)
 | str (l : List UInt8)
 | sl (sz : Nat) (rows : List (List IV)) (ex : Bool)
 | pt (cells : List IV) (off : Nat)
 /-- a map that is not written: from int to functions without captured variables -/
 | mp (es : List (Int × Nat))
 deriving Inhabited

inductive AV where
 | dead
 | i (x : IV)
 | agg (cells : List AV)
 | ref (c g off len : Nat)
 | ptr (c g r k : Nat)
 /-- an own map, a variable whose type is known, bytes behind a slice -/
 | mref (c : Nat)
 | clo (fn : Fn) (first caps : List AV)
 | tup (vs : List AV)
 deriving Inhabited

inductive Chunk where
 | box (cells : List AV)
 | sl (sz g : Nat) (rows : List (List IV)) (ex : Bool)
 | fz (sz g : Nat) (rows : List (List IV)) (ex : Bool)
 | iter (s : List UInt8) (pos : Nat)
 /-- a map of one-cell keys and values, in the order in which its keys came -/
 | map (es : List (IV × AV))
 /-- a variable whose type is known: it is read and written by contracts alone; the bytes behind a slice, the same; what is given up -/
 | tb (t : Nat) (cells : List AV)
 | buf (t : Nat) (l : List UInt8)
 | gone
 deriving Inhabited

abbrev Hp := List Chunk
abbrev Fr := List (Nat × AV)

def get (k : Nat) : Fr → AV
 | [] => .dead
 | (j, v) :: r => if k = j then v else get k r

def AV.int (k : IntKind) (n : Int) : AV := .i (.v (.int k n))
def AV.bool (b : Bool) : AV := .i (.v (.bool b))
def AV.str (l : List UInt8) : AV := .i (.str l)

structure Env where
 P : Program
 /-- what is kept of a frame behind a region, and at a loop's head -/
 keep : FuncId → Nat → List Nat
 head : FuncId → Nat → List Nat
 /-- what the package-level variables hold -/
 glob : Nat → Option (List IV)
 /-- of a region that draws its order: the pairs of which one reads what the other may change -/
 flo : FuncId → Nat → List (Nat × Nat)
 /-- is a slice handed on to be appended to? -/
 byref : FuncId → Bool
 /-- of a region that draws: is its new memory made in places set aside? -/
 hol : FuncId → Nat → Bool
 /-- functions that are taken by a contract -/
 ext : FuncId → Option (List AV → List Chunk → Option (AV × List Chunk))
 /-- the sizes of the elements, where a cell of this type is a slice -/
 kinds : TypeId → List (Option Nat)
 /-- the same of what a function is handed, and of what it answers -/
 argk : FuncId → List (List (Option Nat))
 resk : FuncId → List (List (Option Nat))
 /-- are slices answered as0 own ones? -/
 own : FuncId → Bool
 /-- at a loop's head: slots whose nil slice becomes an own empty one; the same of cells of a variable; slots whose slice becomes an immutable one -/
 mat : FuncId → Nat → List (Nat × Nat)
 matb : FuncId → Nat → List (Nat × Nat × Nat)
 frz : FuncId → Nat → List (Nat × Nat)
 /-- iterators: what a closure hands to yield, by what lies in the variables that it has captured (they are read before the first yield alone) -/
 seq : FuncId → Option (List (List IV) → Option (List AV))
 /-- are variables of this type made so that their type is known? -/
 tyb : TypeId → Bool := fun _ => false
 /-- functions that put their only argument into a new variable and answer this closure over it -/
 mkc : FuncId → Option FuncId := fun _ => none
 /-- functions that read only, where that is asked for -/
 rdr : FuncId → Bool := fun _ => false

def szO (P : Program) (t : TypeId) : Option Nat := (P.info? t).map (·.size)
def aggO (P : Program) (t : TypeId) : Option Bool := (P.underlying t).map fun | .struct _ | .array _ _ => true | _ => false
def slO (P : Program) (t : TypeId) : Option TypeId := match P.underlying t with | some (.slice e) => some e | _ => none
def arrO (P : Program) (t : TypeId) : Option (Nat × TypeId) := match P.underlying t with | some (.array n e) => some (n, e) | _ => none
def fldO (P : Program) (t : TypeId) (f : Nat) : Option (Nat × TypeId) := match P.underlying t with | some (.struct fs) => (fs[f]?).map fun x => (x.offset, x.type) | _ => none
def bytesO (P : Program) (t : TypeId) : Option Nat := (P.info? t).map (·.bytes)
def placesO (P : Program) (t : TypeId) : Option (List (Nat × Nat)) := match P.underlying t with
 | some (.struct fs) => fs.toList.mapM fun f => (szO P f.type).map fun z => (f.offset, z)
 | _ => none
def isStrO (P : Program) (t : TypeId) : Bool := match P.underlying t with | some .string => true | _ => false
def kindO (P : Program) (t : TypeId) : Option IntKind := match P.underlying t with | some (.int k) => some k | _ => none

def cellOf : Value → AV
 | .string b => .i (.str b.data.toList)
 | .slice none 0 0 => .i (.sl 0 [] true)
 | .tuple _ => .dead
 | .agg _ => .dead
 | x => .i (.v x)
def ofVal : Value → AV
 | .agg cs => .agg (cs.toList.map cellOf)
 | x => cellOf x
def zeroO (P : Program) (t : TypeId) : Option AV := ((P.info? t).bind (·.zero)).map ofVal

def zcells (P : Program) (t : TypeId) : List AV := match (P.info? t).bind (·.zero) with
 | some (.agg cs) => cs.toList.map fun x => .i (.v x)
 | _ => []
def zone (P : Program) (t : TypeId) : Bool := match (P.info? t).bind (·.zero) with
 | some (.agg cs) => cs.toList.all (·.oneCell')
 | _ => false

def opd (E : Env) (fr : Fr) : Operand → AV
 | .tmp t => get t fr
 | .const v => ofVal v
 | .func f => .clo (.func f) [] []
 | .global g => match E.glob g with
  | some cells => .i (.pt cells 0)
  | none => .dead

def cellsA : AV → List AV
 | .agg cs => cs
 | a => [a]
def one : AV → Bool
 | .i _ => true
 | .ref .. => true
 | .ptr .. => true
 | .mref _ => true
 | .clo .. => true
 | _ => false

def bitsE (op : BinOp) (k : IntKind) (a b : Int) : Option Int :=
 let x := BitVec.ofInt k.bits a
 let y := BitVec.ofInt k.bits b
 match op with
 | .and => some (k.wrap (x &&& y).toNat)
 | .or => some (k.wrap (x ||| y).toNat)
 | .xor => some (k.wrap (x ^^^ y).toNat)
 | .andNot => some (k.wrap (x &&& ~~~y).toNat)
 | _ => none
def intE (op : BinOp) (k : IntKind) (a : Int) (k' : IntKind) (b : Int) : Option AV :=
 match op with
 | .shl => if 0 ≤ b then some (.int k (k.wrap (a * 2 ^ min b.toNat k.bits))) else none
 | .shr => if 0 ≤ b then some (.int k (a.fdiv (2 ^ min b.toNat k.bits))) else none
 | _ => if k = k' then match op with
  | .add => some (.int k (k.wrap (a + b)))
  | .sub => some (.int k (k.wrap (a - b)))
  | .mul => some (.int k (k.wrap (a * b)))
  | .quo => if b = 0 then none else some (.int k (k.wrap (a.tdiv b)))
  | .rem => if b = 0 then none else some (.int k (a.tmod b))
  | .eql => some (.bool (decide (a = b)))
  | .neq => some (.bool (!decide (a = b)))
  | .lss => some (.bool (decide (a < b)))
  | .leq => some (.bool (decide (a ≤ b)))
  | .gtr => some (.bool (decide (b < a)))
  | .geq => some (.bool (decide (b ≤ a)))
  | .and => (bitsE .and k a b).map (.int k ·)
  | .or => (bitsE .or k a b).map (.int k ·)
  | .xor => (bitsE .xor k a b).map (.int k ·)
  | .andNot => (bitsE .andNot k a b).map (.int k ·)
  | _ => none
  else none
def strE (op : BinOp) (a b : List UInt8) : Option AV :=
 match op with
 | .add => if a.length + b.length ≤ 9223372036854775807 then some (.str (a ++ b)) else none
 | .eql => some (.bool (a == b))
 | .neq => some (.bool (!(a == b)))
 | .lss => some (.bool (Op.bytesLess a b))
 | .leq => some (.bool (Op.bytesLess a b || a == b))
 | .gtr => some (.bool (!(Op.bytesLess a b || a == b)))
 | .geq => some (.bool (!Op.bytesLess a b))
 | _ => none

def cellEq : AV → AV → Option Bool
 | .i (.v (.int k a)), .i (.v (.int k' b)) => if k = k' then some (decide (a = b)) else none
 | .i (.v (.bool a)), .i (.v (.bool b)) => some (a == b)
 | .i (.str a), .i (.str b) => some (a == b)
 | _, _ => none
def cellsEq : List AV → List AV → Option Bool
 | [], [] => some true
 | a :: r, b :: t => match cellEq a b, cellsEq r t with
  | some x, some y => some (x && y)
  | _, _ => none
 | _, _ => none

inductive Leaf where
 | int (k : IntKind) | bool | str
 deriving DecidableEq
def leavesF (P : Program) (lv : TypeId → Option (List Leaf)) : Nat → List Field → Option (List Leaf)
 | _, [] => some []
 | o, f :: r => match lv f.type, szO P f.type with
  | some l, some z => if f.offset = o ∧ l.length = z ∧ f.name ≠ "_" then (leavesF P lv (o + z) r).map (l ++ ·) else none
  | _, _ => none
def leaves (P : Program) : Nat → TypeId → Option (List Leaf)
 | 0, _ => none
 | d + 1, t => match P.underlying t with
  | some .bool => some [.bool]
  | some (.int k) => some [.int k]
  | some .string => some [.str]
  | some (.array n e) => match leaves P d e, szO P e with
   | some l, some z => if l.length = z then some (List.replicate n l).flatten else none
   | _, _ => none
  | some (.struct fs) => if P.stoodInHeld t then none else leavesF P (leaves P d) 0 fs.toList
  | _ => none
def leafOk : Leaf → AV → Bool
 | .int k, .i (.v (.int k' _)) => decide (k = k')
 | .bool, .i (.v (.bool _)) => true
 | .str, .i (.str _) => true
 | _, _ => false
def leavesOk : List Leaf → List AV → Bool
 | [], [] => true
 | l :: r, a :: t => leafOk l a && leavesOk r t
 | _, _ => false

def eqgO (P : Program) (t : TypeId) : Bool := P.eqGuardType P.depth t
def eqE (P : Program) (t : TypeId) (x y : AV) : Option Bool :=
 match x, y with
 | .agg a, .agg b => if eqgO P t = true then none else match aggO P t with
  | some true => match leaves P 9 t with
   | some l => if leavesOk l a = true ∧ leavesOk l b = true then cellsEq a b else none
   | none => none
  | _ => none
 | .i (.v (.bool a)), .i (.v (.bool b)) => match P.underlying t with
  | some .bool => some (a == b)
  | _ => none
 | .ptr _ _ _ _, .i (.v (.pointer none)) => match P.underlying t with
  | some (.pointer _) => some false
  | _ => none
 | .i (.pt _ _), .i (.v (.pointer none)) => match P.underlying t with
  | some (.pointer _) => some false
  | _ => none
 | .i (.v (.pointer none)), .i (.v (.pointer none)) => match P.underlying t with
  | some (.pointer _) => some true
  | _ => none
 | _, _ => none

def binE (P : Program) (op : BinOp) (t : TypeId) (x y : AV) : Option AV :=
 match x, y with
 | .i (.v (.int k a)), .i (.v (.int k' b)) => intE op k a k' b
 | .i (.str a), .i (.str b) => strE op a b
 | x, y => match op with
  | .eql => (eqE P t x y).map .bool
  | .neq => (eqE P t x y).map fun b => .bool (!b)
  | _ => none

def unE (op : UnOp) (x : AV) : Option AV :=
 match op, x with
 | .neg, .i (.v (.int k n)) => some (.int k (k.wrap (0 - n)))
 | .xor, .i (.v (.int k n)) => (bitsE .xor k (if k.signed then -1 else k.max) n).map (.int k ·)
 | .not, .i (.v (.bool b)) => some (.bool (!b))
 | _, _ => none

def ivs (l : List IV) : List AV := l.map .i
def take (l : List AV) (k n : Nat) : Option (List AV) :=
 if k + n ≤ l.length then some ((l.drop k).take n) else none
def behind (H : Hp) : AV → Option (List AV × Nat)
 | .i (.pt cells off) => some (ivs cells, off)
 | .ptr c g r k => match H[c]? with
  | some (.box cells) => some (cells, k)
  | some (.sl _ g' rows _) => if g = g' then match rows[r]? with
   | some row => some (ivs row, k)
   | none => none
   else none
  | some (.fz _ g' rows _) => if g = g' then match rows[r]? with
   | some row => some (ivs row, k)
   | none => none
   else none
  | _ => none
 | _ => none
def loadE (E : Env) (H : Hp) (t : TypeId) (x : AV) : Option AV :=
 match behind H x, aggO E.P t, szO E.P t with
 | some (cells, k), some true, some n => (take cells k n).map .agg
 | some (cells, k), some false, some _ => cells[k]?
 | _, _, _ => none

def rowsE (H : Hp) : AV → Option (Nat × List (List IV) × Bool)
 | .i (.sl sz rows ex) => some (sz, rows, ex)
 | .ref c g off len => match H[c]? with
  | some (.sl sz g' rows ex) => if g = g' then some (sz, (rows.drop off).take len, ex && decide (off + len = rows.length)) else none
  | some (.fz sz g' rows ex) => if g = g' then some (sz, (rows.drop off).take len, ex && decide (off + len = rows.length)) else none
  | _ => none
 | _ => none
def lenE : AV → Option Nat
 | .i (.sl _ rows _) => some rows.length
 | .i (.str l) => some l.length
 | .ref _ _ _ len => some len
 | _ => none

def addPtr (n : Nat) : AV → Option AV
 | .i (.pt cells off) => some (.i (.pt cells (off + n)))
 | .ptr c g r k => some (.ptr c g r (k + n))
 | _ => none

def idxAddrE (E : Env) (H : Hp) (t : TypeId) (x ix : AV) : Option AV :=
 match ix with
 | .i (.v (.int _ n)) => match arrO E.P t, slO E.P t with
  | some (len, e), _ => match szO E.P e with
   | some z => if 0 ≤ n ∧ n < len then addPtr (n.toNat * z) x else none
   | none => none
  | none, some e => match szO E.P e, x with
   | some z, .i (.sl sz rows _) => if 0 ≤ n ∧ sz = z then match rows[n.toNat]? with
    | some row => some (.i (.pt row 0))
    | none => none
    else none
   | some z, .ref c g off len => match H[c]? with
    | some (.sl sz g' _ _) => if 0 ≤ n ∧ n < len ∧ sz = z ∧ g = g' then some (.ptr c g (off + n.toNat) 0) else none
    | some (.fz sz g' _ _) => if 0 ≤ n ∧ n < len ∧ sz = z ∧ g = g' then some (.ptr c g (off + n.toNat) 0) else none
    | _ => none
   | _, _ => none
  | _, _ => none
 | _ => none

def idxE (E : Env) (t : TypeId) (x ix : AV) : Option AV :=
 match x, ix with
 | .i (.str l), .i (.v (.int _ n)) => if 0 ≤ n ∧ isStrO E.P t = true then (l[n.toNat]?).map fun b => .int .u8 b.toNat else none
 | .agg cells, .i (.v (.int _ n)) => match arrO E.P t with
  | some (len, e) => match szO E.P e, aggO E.P e with
   | some z, some true => if 0 ≤ n ∧ n < len then (take cells (n.toNat * z) z).map .agg else none
   | some z, some false => if 0 ≤ n ∧ n < len then cells[n.toNat * z]? else none
   | _, _ => none
  | none => none
 | _, _ => none

def fieldE (E : Env) (t : TypeId) (x : AV) (f : Nat) : Option AV :=
 match x, fldO E.P t f with
 | .agg cells, some (off, ty) => match szO E.P ty, aggO E.P ty with
  | some z, some true => (take cells off z).map .agg
  | some _, some false => cells[off]?
  | _, _ => none
 | _, _ => none

def bnd (d : Nat) : Option AV → Option Nat
 | none => some d
 | some (.i (.v (.int _ n))) => if 0 ≤ n then some n.toNat else none
 | _ => none
def sliceE (E : Env) (H : Hp) (t : TypeId) (x : AV) (lo hi mx : Option AV) : Option AV :=
 match lenE x with
 | none => none
 | some n => match bnd 0 lo, bnd n hi with
  | some l, some h => if l ≤ h ∧ h ≤ n then match x with
   | .i (.str s) => if mx.isNone ∧ isStrO E.P t = true then some (.str ((s.drop l).take (h - l))) else none
   | .i (.sl sz rows ex) => match slO E.P t with
    | some e => match szO E.P e with
     | some z => if rows = [] ∨ z = sz then match mx with
      | none => some (.i (.sl sz ((rows.drop l).take (h - l)) (ex && decide (h = n))))
      | some m => match bnd 0 (some m) with
       | some m' => if h = m' ∧ hi.isSome = true then some (.i (.sl sz ((rows.drop l).take (h - l)) true)) else none
       | none => none
      else none
     | none => none
    | none => none
   | .ref c g off _ => match slO E.P t, H[c]? with
    | some e, some (.sl sz g' _ _) => if mx.isNone ∧ g = g' ∧ szO E.P e = some sz then some (.ref c g (off + l) (h - l)) else none
    | some e, some (.fz sz g' rows ex) => if g = g' ∧ szO E.P e = some sz ∧ off + n ≤ rows.length then match mx with
     | none => some (.i (.sl sz ((rows.drop (off + l)).take (h - l)) (ex && decide (off + h = rows.length))))
     | some m => match bnd 0 (some m) with
      | some m' => if h = m' ∧ hi.isSome = true then some (.i (.sl sz ((rows.drop (off + l)).take (h - l)) true)) else none
      | none => none
     else none
    | _, _ => none
   | _ => none
   else none
  | _, _ => none

def convE (E : Env) (src dst : TypeId) (x : AV) : Option AV :=
 match x with
 | .i (.v (.int _ n)) => match aggO E.P src, kindO E.P dst with
  | some _, some k => some (.int k (k.wrap n))
  | some _, none => if isStrO E.P dst = true then some (.str (Utf8.encode n).data.toList) else none
  | none, _ => none
 | .i (.str l) => if isStrO E.P dst = true ∧ isStrO E.P src = true then some (.str l) else none
 | _ => none

def numsOf : List (List IV) → Option (List Int)
 | [] => some []
 | [.v (.int .u8 n)] :: r => (numsOf r).map (n :: ·)
 | _ => none
def convS (E : Env) (H : Hp) (e d : TypeId) (x : AV) : Option AV :=
 if isStrO E.P d = true ∧ kindO E.P e = some .u8 then match rowsE H x with
  | some (z, rows, _) => if rows = [] ∨ z = 1 then (numsOf rows).map fun l => .str (l.map fun n => UInt8.ofNat n.toNat) else none
  | none => none
 else none

def maxE : AV → AV → Option AV
 | .i (.v (.int k a)), .i (.v (.int _ b)) => some (.int k (max a b))
 | _, _ => none
def minE : AV → AV → Option AV
 | .i (.v (.int k a)), .i (.v (.int _ b)) => some (.int k (min a b))
 | _, _ => none
def foldE (f : AV → AV → Option AV) : List AV → Option AV
 | [] => none
 | a :: r => r.foldl (fun acc x => match acc with | some y => f y x | none => none) (some a)

def over (l : List AV) (k : Nat) (new : List AV) : List AV := l.take k ++ new ++ l.drop (k + new.length)
def fillS (pl : List (Nat × Nat)) : List AV → List (Nat × AV) → Option (List AV)
 | cells, [] => some cells
 | cells, (i, v) :: r => match pl[i]? with
  | some (off, z) => if (cellsA v).length = z ∧ off + z ≤ cells.length ∧ (cellsA v).all one = true then fillS pl (over cells off (cellsA v)) r else none
  | none => none
def fillA (z : Nat) : List AV → List (Nat × AV) → Option (List AV)
 | cells, [] => some cells
 | cells, (i, v) :: r => if (cellsA v).length = z ∧ i * z + z ≤ cells.length ∧ (cellsA v).all one = true then fillA z (over cells (i * z) (cellsA v)) r else none
def buildE (E : Env) (t : TypeId) (parts : List (Nat × AV)) : Option AV :=
 match zeroO E.P t with
 | some (.agg zero) => match arrO E.P t with
  | some (_, e) => match szO E.P e with
   | some z => (fillA z zero parts).map .agg
   | none => none
  | none => match placesO E.P t with
   | some pl => (fillS pl zero parts).map .agg
   | none => none
 | _ => none

def mapO (P : Program) (t : TypeId) : Option (TypeId × TypeId) := match P.underlying t with
 | some (.map k e) => some (k, e)
 | _ => none
def lookM (zero : Option AV) (n : Int) : List (Int × Nat) → Option AV
 | [] => match zero with
  | some z => if one z = true then some (.tup [z, .bool false]) else none
  | none => none
 | (k, f) :: r => if n = k then some (.tup [.clo (.func f) [] [], .bool true]) else lookM zero n r
def lookE (E : Env) (t : TypeId) (x k : AV) : Option AV := match mapO E.P t with
 | some (kt, e) => if kindO E.P kt = some .i64 then match x, k with
  | .i (.mp es), .i (.v (.int .i64 n)) => lookM (zeroO E.P e) n es
  | _, _ => none
  else none
 | none => none
def sameK : IV → IV → Option Bool
 | .v (.int k a), .v (.int k' b) => if k = k' then some (decide (a = b)) else none
 | .str a, .str b => some (decide (a = b))
 | _, _ => none
def findK (k : IV) : List (IV × AV) → Option (Option AV)
 | [] => some none
 | (j, v) :: r => match sameK k j with
  | some true => some (some v)
  | some false => findK k r
  | none => none
def ltB : List UInt8 → List UInt8 → Bool
 | [], [] => false
 | [], _ :: _ => true
 | _ :: _, [] => false
 | a :: r, b :: t => if a.toNat < b.toNat then true else if a.toNat = b.toNat then ltB r t else false
def ltK : IV → IV → Bool
 | .v (.int _ a), .v (.int _ b) => decide (a < b)
 | .str a, .str b => ltB a b
 | _, _ => false
def insK (k : IV) (v : AV) : List (IV × AV) → List (IV × AV)
 | [] => [(k, v)]
 | p :: r => if ltK k p.1 = true then (k, v) :: p :: r else p :: insK k v r
def repK (k : IV) (v : AV) : List (IV × AV) → List (IV × AV)
 | [] => []
 | p :: r => (if sameK k p.1 = some true then (k, v) else p) :: repK k v r
def putK (k : IV) (v : AV) (es : List (IV × AV)) : Option (List (IV × AV)) :=
 match findK k es with
 | some none => some (insK k v es)
 | some (some _) => some (repK k v es)
 | none => none
def keyOK (P : Program) (kt : TypeId) : IV → Bool
 | .v (.int k _) => decide (kindO P kt = some k)
 | .str _ => isStrO P kt
 | _ => false
def ansM (ok : Bool) (zero : Option AV) : Option (Option AV) → Option AV
 | some (some v) => some (if ok = true then .tup [v, .bool true] else v)
 | some none => match zero with
  | some z => if one z = true then some (if ok = true then .tup [z, .bool false] else z) else none
  | none => none
 | none => none
def lookC (E : Env) (t : TypeId) (k : AV) (ok : Bool) : Option Chunk → Option AV
 | some (.map es) => match mapO E.P t, k with
  | some (kt, e), .i kv => if keyOK E.P kt kv = true then ansM ok (zeroO E.P e) (findK kv es) else none
  | _, _ => none
 | _ => none
def lookA (E : Env) (H : Hp) (t : TypeId) (x k : AV) (ok : Bool) : Option AV := match x with
 | .mref c => lookC E t k ok H[c]?
 | x => if ok = true then lookE E t x k else none
def setC (E : Env) (H : Hp) (c : Nat) (t : TypeId) (k x : AV) : Option Chunk → Option (AV × Hp)
 | some (.map es) => match mapO E.P t, k with
  | some (kt, _), .i kv => if keyOK E.P kt kv = true ∧ one x = true then (putK kv x es).map fun es' => (.dead, H.set c (.map es')) else none
  | _, _ => none
 | _ => none
def setM (E : Env) (H : Hp) (t : TypeId) (m k x : AV) : Option (AV × Hp) := match m with
 | .mref c => setC E H c t k x H[c]?
 | _ => none
def evL (E : Env) (fr : Fr) (H : Hp) : Op → Option AV
 | .move x => some (opd E fr x)
 | .assign x => some (opd E fr x)
 | .pick c a b => match opd E fr c with
  | .i (.v (.bool t)) => some (bif t then opd E fr a else opd E fr b)
  | _ => none
 | .build t parts => buildE E t (parts.toList.map fun p => (p.1, opd E fr p.2))
 | .load t a => loadE E H t (opd E fr a)
 | .nilCheck x => match opd E fr x with
  | .ptr c g r k => some (.ptr c g r k)
  | .i (.pt c o) => some (.i (.pt c o))
  | .clo (.func f) a b => some (.clo (.func f) a b)
  | _ => none
 | .binOp op t x y _ => binE E.P op t (opd E fr x) (opd E fr y)
 | .unOp op _ x => unE op (opd E fr x)
 | .convert s d x => match slO E.P s with
  | some e => convS E H e d (opd E fr x)
  | none => convE E s d (opd E fr x)
 | .makeFunc fn first caps => some (.clo fn (first.toList.map (opd E fr)) (caps.toList.map (opd E fr)))
 | .slice t x lo hi mx => sliceE E H t (opd E fr x) (lo.map (opd E fr)) (hi.map (opd E fr)) (mx.map (opd E fr))
 | .fieldAddr s x f => match fldO E.P s f with
  | some (off, ty) => match szO E.P ty with
   | some z => if 0 < z then addPtr off (opd E fr x) else none
   | none => none
  | none => none
 | .field t x f => fieldE E t (opd E fr x) f
 | .indexAddr t x ix => idxAddrE E H t (opd E fr x) (opd E fr ix)
 | .index t x ix => idxE E t (opd E fr x) (opd E fr ix)
 | .lookup t x k ok => lookA E H t (opd E fr x) (opd E fr k) ok
 | .extract x n => match opd E fr x with
  | .tup vs => vs[n]?
  | _ => none
 | .call ⟨.builtin b, args, tys⟩ => match b, args.toList, tys.toList with
  | .len, [x], [t] => if isStrO E.P t = true ∨ (slO E.P t).isSome = true then match opd E fr x with
   | .i (.str l) => if isStrO E.P t = true then some (.int .i64 l.length) else none
   | .i (.sl _ rows _) => if isStrO E.P t = true then none else some (.int .i64 rows.length)
   | .ref _ _ _ len => if isStrO E.P t = true then none else some (.int .i64 len)
   | _ => none
   else none
  | .max, l, _ => foldE maxE (l.map (opd E fr))
  | .min, l, _ => foldE minE (l.map (opd E fr))
  | _, _, _ => none
 | _ => none

def freeze (H : Hp) : AV → Option (IV × Hp)
 | .i x => some (x, H)
 | .ref c g off len => match H[c]? with
  | some (.sl sz g' rows ex) => if g = g' then
    some (.sl sz ((rows.drop off).take len) (ex && decide (off + len = rows.length)), H.set c (.fz sz g rows ex)) else none
  | some (.fz sz g' rows ex) => if g = g' then some (.sl sz ((rows.drop off).take len) (ex && decide (off + len = rows.length)), H) else none
  | _ => none
 | _ => none
def freezeAll (H : Hp) : List AV → Option (List IV × Hp)
 | [] => some ([], H)
 | a :: r => match freeze H a with
  | some (x, H1) => match freezeAll H1 r with
   | some (xs, H2) => some (x :: xs, H2)
   | none => none
  | none => none

def canI : Option Nat → IV → IV
 | some z, .sl sz rows _ => if sz = z then .sl z rows false else if rows = [] then .sl z [] false else .sl sz rows false
 | _, x => x
def canR : List (Option Nat) → List IV → List IV
 | k :: ks, x :: r => canI k x :: canR ks r
 | _, l => l
def canC : List (Option Nat) → List AV → List AV
 | k :: ks, .i x :: r => .i (canI k x) :: canC ks r
 | _ :: ks, a :: r => a :: canC ks r
 | _, l => l
def canA (ks : List (Option Nat)) : AV → AV
 | .i x => .i (canI (ks.headD none) x)
 | .agg cells => .agg (canC ks cells)
 | a => a
def canLs : List (List (Option Nat)) → List AV → List AV
 | k :: ks, a :: r => canA k a :: canLs ks r
 | _, l => l
def matV (z : Nat) (H : Hp) : AV → AV × Hp
 | .i (.sl _ [] true) => (.ref H.length 0 0 0, H ++ [.sl z 0 [] false])
 | a => (a, H)
def mat1 : List (Option Nat) → Hp → AV → AV × Hp
 | [some z], H, a => matV z H a
 | _, H, a => (a, H)
def matL : List (List (Option Nat)) → List AV → Hp → List AV × Hp
 | k :: ks, a :: r, H => ((mat1 k H a).1 :: (matL ks r (mat1 k H a).2).1, (matL ks r (mat1 k H a).2).2)
 | _, l, H => (l, H)
def matF : List (Nat × Nat) → Fr → Hp → Fr × Hp
 | [], fr, H => (fr, H)
 | (k, z) :: r, fr, H => matF r ((k, (matV z H (get k fr)).1) :: fr) (matV z H (get k fr)).2
def matB1 (j z c : Nat) (H : Hp) : Option Chunk → Hp
 | some (.box cells) => match cells[j]? with
  | some a => (matV z H a).2.set c (.box (cells.set j (matV z H a).1))
  | none => H
 | _ => H
def matB2 (j z : Nat) (H : Hp) : AV → Hp
 | .ptr c _ _ _ => matB1 j z c H H[c]?
 | _ => H
def matB : List (Nat × Nat × Nat) → Fr → Hp → Hp
 | [], _, H => H
 | (k, j, z) :: r, fr, H => matB r fr (matB2 j z H (get k fr))
def frz1 (k z : Nat) (fr : Fr) (H : Hp) : Option (IV × Hp) → Fr × Hp
 | some (x, H1) => ((k, .i (canI (some z) x)) :: fr, H1)
 | none => (fr, H)
def frzF : List (Nat × Nat) → Fr → Hp → Fr × Hp
 | [], fr, H => (fr, H)
 | (k, z) :: r, fr, H => frzF r (frz1 k z fr H (freeze H (get k fr))).1 (frz1 k z fr H (freeze H (get k fr))).2

def cnRef (c g o n : Nat) : Option Chunk → AV
 | some (.sl _ g' _ _) => if g = g' then .ref c 0 o n else .dead
 | some (.fz sz g' rows ex) => if g = g' then .i (.sl sz ((rows.drop o).take n) (ex && decide (o + n = rows.length))) else .dead
 | _ => .dead
def cnPtr (c g r k : Nat) : Option Chunk → AV
 | some (.sl _ g' _ _) => if g = g' then .ptr c 0 r k else .dead
 | some _ => .ptr c g r k
 | none => .dead
mutual
def cnA (B : Nat) (H : Hp) : AV → AV
 | .dead => .dead
 | .i x => .i x
 | .agg l => .agg (cnL B H l)
 | .ref c g o n => if c < B then .ref c g o n else cnRef c g o n H[c]?
 | .ptr c g r k => if c < B then .ptr c g r k else cnPtr c g r k H[c]?
 | .mref c => .mref c
 | .clo f a b => .clo f (cnL B H a) (cnL B H b)
 | .tup l => .tup (cnL B H l)
def cnL (B : Nat) (H : Hp) : List AV → List AV
 | [] => []
 | a :: r => cnA B H a :: cnL B H r
end
def cnE (B : Nat) (H : Hp) : List (IV × AV) → List (IV × AV)
 | [] => []
 | p :: r => (p.1, cnA B H p.2) :: cnE B H r
def cnC (B : Nat) (H : Hp) (c : Nat) : Chunk → Chunk
 | .box cells => .box (cnL B H cells)
 | .map es => .map (cnE B H es)
 | .tb t cells => .tb t (cnL B H cells)
 | .sl sz g rows ex => if c < B then .sl sz g rows ex else .sl sz 0 rows false
 | x => x
def cnHs (B : Nat) (H : Hp) : Nat → Hp → Hp
 | _, [] => []
 | c, x :: r => cnC B H c x :: cnHs B H (c + 1) r
def cnF (B : Nat) (H : Hp) : Fr → Fr
 | [] => []
 | (k, a) :: r => (k, cnA B H a) :: cnF B H r

def chop (z : Nat) : Nat → List IV → List (List IV)
 | 0, _ => []
 | n + 1, l => l.take z :: chop z n (l.drop z)

def ivsOf : List AV → Option (List IV)
 | [] => some []
 | .i x :: r => (ivsOf r).map (x :: ·)
 | _ => none
def zeroRow (E : Env) (e : TypeId) : Option (List IV) :=
 match zeroO E.P e with
 | some (.agg cs) => ivsOf cs
 | some (.i x) => some [x]
 | _ => none

def buildSliceE (E : Env) (H : Hp) (t : TypeId) (n : Nat) (parts : List (Nat × AV)) : Option (AV × Hp) :=
 match slO E.P t with
 | some e => match szO E.P e, zeroO E.P e with
  | some z, some zero => if n * z ≤ 16777216 ∧ (cellsA zero).length = z ∧ 0 < z ∧ (cellsA zero).all one = true then
    match fillA z (List.replicate n (cellsA zero)).flatten parts with
    | some cells => match freezeAll H cells with
     | some (xs, H1) => some (.ref H1.length 0 0 n, H1 ++ [.sl z 0 (chop z n (canR (List.replicate n (E.kinds e)).flatten xs)) true])
     | none => none
    | none => none
   else none
  | _, _ => none
 | none => none

def storeE (E : Env) (H : Hp) (t : TypeId) (p v : AV) : Option Hp :=
 match szO E.P t with
 | some n => if (cellsA v).length = n ∧ (cellsA v).all one = true then match p with
  | .ptr c g r k => match H[c]? with
   | some (.box cells) => if k + n ≤ cells.length then some (H.set c (.box (over cells k (cellsA v)))) else none
   | some (.sl ..) => match freezeAll H (cellsA v) with
    | some (xs, H1) => match H1[c]? with
     | some (.sl sz g' rows ex) => if g = g' ∧ k + n ≤ sz then match rows[r]? with
      | some row => some (H1.set c (.sl sz g' (rows.set r (row.take k ++ canR (E.kinds t) xs ++ row.drop (k + n))) ex))
      | none => none
      else none
     | _ => none
    | none => none
   | _ => none
  | _ => none
  else none
 | none => none

def srcE (H : Hp) : AV → Option (Nat × List (List IV) × Bool)
 | .i (.str l) => some (1, l.map fun b => [IV.v (.int .u8 b.toNat)], true)
 | x => rowsE H x
def appendE (E : Env) (H : Hp) (t t2 : TypeId) (s x : AV) : Option (AV × Hp) :=
 match slO E.P t with
 | some e => match szO E.P e, bytesO E.P e, zeroO E.P e, srcE H x with
  | some z, some b, some zv, some (z', new, _) =>
   if (new = [] ∨ z' = z) ∧ 0 < z ∧ b ≤ 65536 ∧ ((slO E.P t2).isSome = true ∨ isStrO E.P t2 = true) ∧ (cellsA zv).length = z ∧ (cellsA zv).all one = true then match s with
   | .i (.sl sz rows ex) => if ex = true ∧ (rows = [] ∨ (sz = z ∧ new ≠ [])) ∧ rows.length + new.length < 1073741824 then
     some (.ref H.length 0 0 (rows.length + new.length), H ++ [.sl z 0 (rows ++ new) (rows.isEmpty && new.isEmpty)]) else none
   | .ref c g off len => match H[c]? with
    | some (.sl sz g' rows ex) => if g = g' ∧ off = 0 ∧ sz = z ∧ len + new.length < 1073741824 then
      some (.ref c (g + 1) 0 (len + new.length), H.set c (.sl z (g + 1) (rows.take len ++ new) (ex && rows.isEmpty && new.isEmpty))) else none
    | some (.fz sz g' rows ex) => if g = g' ∧ off = 0 ∧ sz = z ∧ ex = true ∧ len = rows.length ∧ new ≠ [] ∧ len + new.length < 1073741824 then
      some (.ref H.length 0 0 (len + new.length), H ++ [.sl z 0 (rows ++ new) false]) else none
    | _ => none
   | _ => none
   else none
  | _, _, _, _ => none
 | none => none

def copyC (z g off len : Nat) (new : List (List IV)) (H : Hp) (c : Nat) : Option Chunk → Option (AV × Hp)
 | some (.sl sz g' rows ex) => if g = g' ∧ sz = z then
   some (.int .i64 (min new.length len : Nat), H.set c (.sl z g' (rows.take off ++ (new.take len ++ rows.drop (off + min new.length len))) ex)) else none
 | _ => none
def copyE (E : Env) (H : Hp) (t : TypeId) (d x : AV) : Option (AV × Hp) :=
 match slO E.P t with
 | some e => match szO E.P e, d, rowsE H x with
  | some z, .ref c g off len, some (z', new, _) => if (new = [] ∨ z' = z) ∧ 0 < z then copyC z g off len new H c H[c]? else none
  | _, _, _ => none
 | none => none

def makeSliceE (E : Env) (H : Hp) (t : TypeId) (l c : AV) : Option (AV × Hp) :=
 match slO E.P t, l, c with
 | some e, .i (.v (.int _ n)), .i (.v (.int _ m)) => match szO E.P e, zeroRow E e, bytesO E.P e with
  | some z, some row, some b => if 0 ≤ n ∧ n = m ∧ n < 1073741824 ∧ row.length = z ∧ 0 < z ∧ b ≤ 65536 then
    some (.ref H.length 0 0 n.toNat, H ++ [.sl z 0 (List.replicate n.toNat (canR (E.kinds e) row)) true])
   else if n = 0 ∧ 0 < m ∧ m < 1073741824 ∧ row.length = z ∧ 0 < z ∧ b ≤ 65536 then some (.ref H.length 0 0 0, H ++ [.sl z 0 [] false]) else none
  | _, _, _ => none
 | _, _, _ => none

def runesL (l : List UInt8) : Nat → Nat → List Int
 | 0, _ => []
 | n + 1, i => if i < l.length then ((Utf8.decode ⟨⟨l⟩⟩ i).1 : Int) :: runesL l n (i + (Utf8.decode ⟨⟨l⟩⟩ i).2) else []
def rowsR (l : List UInt8) : List (List IV) := (runesL l l.length 0).map fun r => [IV.v (.int .i32 r)]
def convH (H : Hp) (l : List UInt8) : Option IntKind → Option (AV × Hp)
 | some .u8 => some (.ref H.length 0 0 l.length, H ++ [.sl 1 0 (l.map fun b => [IV.v (.int .u8 b.toNat)]) false])
 | some .i32 => some (.ref H.length 0 0 (rowsR l).length, H ++ [.sl 1 0 (rowsR l) false])
 | _ => none
def evH (E : Env) (fr : Fr) (H : Hp) : Op → Option (AV × Hp)
 | .alloc e => match zeroO E.P e with
  | some v => if (cellsA v).all one then (if E.tyb e then (if zone E.P e = true then some (.mref H.length, H ++ [.tb e (zcells E.P e)]) else none) else some (.ptr H.length 0 0 0, H ++ [.box (cellsA v)])) else none
  | none => none
 | .box _ x => if (cellsA (opd E fr x)).all one then some (.ptr H.length 0 0 0, H ++ [.box (cellsA (opd E fr x))]) else none
 | .buildSlice t n parts => buildSliceE E H t n (parts.toList.map fun p => (p.1, opd E fr p.2))
 | .store t a x => (storeE E H t (opd E fr a) (opd E fr x)).map fun H' => (.dead, H')
 | .makeSlice t l c => makeSliceE E H t (opd E fr l) (opd E fr c)
 | .convert s d x => match opd E fr x with
  | .i (.str l) => if isStrO E.P s = true ∧ l.length < 1073741824 then convH H l ((slO E.P d).bind (kindO E.P)) else none
  | _ => none
 | .slice t x lo hi (some m) => match freeze H (opd E fr x) with
  | some (y, H1) => (sliceE E H1 t (.i y) (lo.map (opd E fr)) (hi.map (opd E fr)) (some (opd E fr m))).map fun v => (v, H1)
  | none => none
 | .range t x => match opd E fr x with
  | .i (.str l) => if isStrO E.P t = true then some (.ptr H.length 0 0 0, H ++ [.iter l 0]) else none
  | _ => none
 | .makeMap t none => match mapO E.P t with
  | some _ => some (.mref H.length, H ++ [.map []])
  | none => none
 | .mapUpdate t m k x => setM E H t (opd E fr m) (opd E fr k) (opd E fr x)
 | .insert t m k x => setM E H t (opd E fr m) (opd E fr k) (opd E fr x)
 | .next it b => match b, opd E fr it with
  | true, .ptr c _ _ 0 => match H[c]? with
   | some (.iter s pos) => if pos < s.length then
     some (.tup [.bool true, .int .i64 pos, .int .i32 (Utf8.decode ⟨⟨s⟩⟩ pos).1], H.set c (.iter s (pos + (Utf8.decode ⟨⟨s⟩⟩ pos).2))) else some (.tup [.bool false], H)
   | _ => none
  | _, _ => none
 | .call ⟨.builtin b, args, tys⟩ => match b, args.toList, tys.toList with
  | .append, [s, x], [t, t2] => appendE E H t t2 (opd E fr s) (opd E fr x)
  | .copy, [d, x], [t, _] => copyE E H t (opd E fr d) (opd E fr x)
  | _, _, _ => none
 | _ => none

def heavy (E : Env) : Op → Bool
 | .alloc _ | .box .. | .buildSlice .. | .store .. | .makeSlice .. | .range .. | .next .. | .makeMap .. | .mapUpdate .. | .insert .. => true
 | .convert _ d _ => (slO E.P d).isSome
 | .slice _ _ _ _ mx => mx.isSome
 | .call ⟨.builtin b, _, _⟩ => match b with
  | .append => true
  | .copy => true
  | _ => false
 | .call ⟨.value _, _, _⟩ => true
 | _ => false

mutual
def renA (ρ : Nat → Option Nat) : AV → AV
 | .dead => .dead
 | .i x => .i x
 | .agg l => .agg (renL ρ l)
 | .ref c g o n => match ρ c with | some c' => .ref c' g o n | none => .dead
 | .ptr c g r k => match ρ c with | some c' => .ptr c' g r k | none => .dead
 | .mref c => match ρ c with | some c' => .mref c' | none => .dead
 | .clo f a b => .clo f (renL ρ a) (renL ρ b)
 | .tup l => .tup (renL ρ l)
def renL (ρ : Nat → Option Nat) : List AV → List AV
 | [] => []
 | a :: r => renA ρ a :: renL ρ r
end
mutual
def refsA : AV → List Nat
 | .dead => []
 | .i _ => []
 | .agg l => refsL l
 | .ref c _ _ _ => [c]
 | .ptr c _ _ _ => [c]
 | .mref c => [c]
 | .clo _ a b => refsL a ++ refsL b
 | .tup l => refsL l
def refsL : List AV → List Nat
 | [] => []
 | a :: r => refsA a ++ refsL r
end
def renE (ρ : Nat → Option Nat) : List (IV × AV) → List (IV × AV)
 | [] => []
 | p :: r => (p.1, renA ρ p.2) :: renE ρ r
def refsE : List (IV × AV) → List Nat
 | [] => []
 | p :: r => refsA p.2 ++ refsE r
def Chunk.ren (ρ : Nat → Option Nat) : Chunk → Chunk
 | .box cells => .box (renL ρ cells)
 | .map es => .map (renE ρ es)
 | .tb t cells => .tb t (renL ρ cells)
 | c => c
def Chunk.refs : Chunk → List Nat
 | .box cells => refsL cells
 | .map es => refsE es
 | .tb _ cells => refsL cells
 | _ => []

def reach (H : Hp) : Nat → List Nat → List Nat → List Nat
 | 0, _, seen => seen
 | _ + 1, [], seen => seen
 | n + 1, c :: r, seen => if c ∈ seen ∨ H.length ≤ c then reach H n r seen
  else reach H n (((H[c]?).map Chunk.refs).getD [] ++ r) (seen ++ [c])

def posIn : List Nat → Nat → Option Nat
 | [], _ => none
 | c :: r, k => if k = c then some 0 else (posIn r k).map (· + 1)

def frameOf : Nat → List AV → Fr
 | _, [] => []
 | k, a :: r => (k, a) :: frameOf (k + 1) r

inductive Ex where
 | normal | exit (id : Nat) | ret
 deriving DecidableEq

def resE1 (E : Env) (fr : Fr) (H : Hp) : ResultVar → Option AV
 | .tmp t => some (get t fr)
 | .cell a t => loadE E H t (get a fr)
def resEs (E : Env) (fr : Fr) (H : Hp) : List ResultVar → Option (List AV)
 | [] => some []
 | r :: l => match resE1 E fr H r, resEs E fr H l with
  | some a, some as0 => some (a :: as0)
  | _, _ => none
def resE (E : Env) (fr : Fr) (H : Hp) (l : List ResultVar) : Option AV :=
 match resEs E fr H l with
 | some [a] => some a
 | some as0 => some (.tup as0)
 | none => none

abbrev Exec := Nat → FuncId → Code → Fr → Hp → Option (Ex × Fr × Hp)
abbrev CallF := FuncId → List AV → Hp → Option (AV × Hp)

def prep (H : Hp) : List AV → Option (List AV × Hp)
 | [] => some ([], H)
 | a :: r => match a with
  | .ref .. => match freeze H a with
   | some (x, H1) => match prep H1 r with
    | some (as0, H2) => some (.i x :: as0, H2)
    | none => none
   | none => none
  | .agg l => match freezeAll H l with
   | some (xs, H1) => match prep H1 r with
    | some (as0, H2) => some (.agg (ivs xs) :: as0, H2)
    | none => none
   | none => match prep H r with
    | some (as0, H2) => some (.agg l :: as0, H2)
    | none => none
  | a => match prep H r with
   | some (as0, H2) => some (a :: as0, H2)
   | none => none
def prepE (E : Env) (f : FuncId) (H : Hp) (args : List AV) : Option (List AV × Hp) :=
 match E.byref f with
 | true => some (matL (E.argk f) args H)
 | false => match prep H args with
  | some (as0, H1) => some (canLs (E.argk f) as0, H1)
  | none => none

def setAll (H : Hp) : List Nat → List Chunk → Hp
 | c :: r, x :: t => setAll (H.set c x) r t
 | _, _ => H

def backRen (R : List Nat) (n : Nat) (K : List Nat) : Nat → Option Nat := fun i =>
 match R[i]? with
 | some c => some c
 | none => (posIn K i).map (· + n)

def exCl (E : Env) (cl : CallF) : CallF := fun f args H =>
 match E.ext f with
 | some h => h args H
 | none => cl f args H
def callIso (E : Env) (cl : CallF) : CallF := fun f args H =>
 match prepE E f H args with
 | none => none
 | some (args1, H1) =>
   let R := reach H1 64 (refsL args1) []
   let into := posIn R
   match exCl E cl f (renL into args1) (R.map fun c => ((H1[c]?).map (Chunk.ren into)).getD (.iter [] 0)) with
   | none => none
   | some (r, L) => if L.length < R.length then none else
    let K := (reach L 64 (refsA r ++ (L.take R.length).flatMap Chunk.refs) []).filter fun i => decide (R.length ≤ i)
    let back := backRen R H1.length K
    some (renA back r, setAll H1 R ((L.take R.length).map (Chunk.ren back)) ++ K.map fun i => ((L[i]?).map (Chunk.ren back)).getD (.iter [] 0))

noncomputable def eqV (x y : Value) : Bool := match x with
 | .int k a => match y with | .int k' b => decide (k = k') && decide (a = b) | _ => false
 | .bool a => match y with | .bool b => a == b | _ => false
 | .pointer none => match y with | .pointer none => true | _ => false
 | .nilFunc => match y with | .nilFunc => true | _ => false
 | .map none => match y with | .map none => true | _ => false
 | x => @decide (x = y) (Classical.propDecidable _)
mutual
noncomputable def eqI : IV → IV → Bool
 | .v x, .v y => eqV x y
 | .str a, .str b => a == b
 | .sl z r e, .sl z' r' e' => z == z' && (eqIr r r' && e == e')
 | .pt c o, .pt c' o' => eqIs c c' && o == o'
 | .mp a, .mp b => decide (a = b)
 | _, _ => false
noncomputable def eqIs : List IV → List IV → Bool
 | [], [] => true
 | a :: r, b :: t => eqI a b && eqIs r t
 | _, _ => false
noncomputable def eqIr : List (List IV) → List (List IV) → Bool
 | [], [] => true
 | a :: r, b :: t => eqIs a b && eqIr r t
 | _, _ => false
end
noncomputable def eqFn (x y : Fn) : Bool := decide (x = y)
mutual
noncomputable def eqA : AV → AV → Bool
 | .dead, .dead => true
 | .i x, .i y => eqI x y
 | .agg a, .agg b => eqAs a b
 | .ref a b c d, .ref a' b' c' d' => a == a' && (b == b' && (c == c' && d == d'))
 | .ptr a b c d, .ptr a' b' c' d' => a == a' && (b == b' && (c == c' && d == d'))
 | .mref a, .mref b => a == b
 | .clo f a b, .clo f' a' b' => eqFn f f' && (eqAs a a' && eqAs b b')
 | .tup a, .tup b => eqAs a b
 | _, _ => false
noncomputable def eqAs : List AV → List AV → Bool
 | [], [] => true
 | a :: r, b :: t => eqA a b && eqAs r t
 | _, _ => false
end
noncomputable def eqEs : List (IV × AV) → List (IV × AV) → Bool
 | [], [] => true
 | a :: r, b :: t => (eqI a.1 b.1 && eqA a.2 b.2) && eqEs r t
 | _, _ => false
noncomputable def eqCh : Chunk → Chunk → Bool
 | .box a, .box b => eqAs a b
 | .sl a b c d, .sl a' b' c' d' => a == a' && (b == b' && (eqIr c c' && d == d'))
 | .fz a b c d, .fz a' b' c' d' => a == a' && (b == b' && (eqIr c c' && d == d'))
 | .iter a b, .iter a' b' => a == a' && b == b'
 | .map a, .map b => eqEs a b
 | .tb a b, .tb a' b' => a == a' && eqAs b b'
 | .buf a b, .buf a' b' => a == a' && b == b'
 | .gone, .gone => true
 | _, _ => false
noncomputable def eqHp : Hp → Hp → Bool
 | [], [] => true
 | a :: r, b :: t => eqCh a b && eqHp r t
 | _, _ => false
noncomputable def rdrK (H : Hp) : Option (AV × Hp) → Option (AV × Hp)
 | some (v, H') => if eqHp H H' = true then some (v, H) else none
 | none => none
def bigN : Nat := 1000000
def mkE (H : Hp) (fn : FuncId) : List AV → Option (AV × Hp)
 | [a] => if one a = true then some (.clo (.func fn) [] [.ptr H.length 0 0 0], H ++ [.box [a]]) else none
 | _ => none
noncomputable def callM (E : Env) (cl : CallF) : CallF := fun f args H =>
 match E.mkc f with
 | some fn => mkE H fn args
 | none => match E.rdr f with
  | true => rdrK H (callIso E cl f args H)
  | false => callIso E cl f args H
def putD (dst : Option Nat) (v : AV) (fr : Fr) : Fr :=
 match dst with
 | some d => (d, v) :: fr
 | none => fr
def calleeE (E : Env) (fr : Fr) (f : Operand) (args : List Operand) : Option (FuncId × List AV) :=
 match opd E fr f with
 | .clo (.func g) first caps => some (g, first ++ args.map (opd E fr) ++ caps)
 | _ => none
def enterOk (E : Env) (g : FuncId) : Bool :=
 match E.P.funcs[g]? with
 | some fn => fn.body.isSome && !(fn.name == "runtime.NumGoroutine")
 | none => false
noncomputable def evOp (E : Env) (cl : CallF) (o : Op) (fr : Fr) (H : Hp) : Option (AV × Hp) :=
 match o with
 | .call ⟨.value f, args, _⟩ => match calleeE E fr f args.toList with
  | some (g, as0) => if enterOk E g = true then callM E cl g as0 H else none
  | none => none
 | o => if heavy E o then evH E fr H o else (evL E fr H o).map fun v => (v, H)
def guardE (ops : List Oper) (fr : Fr) (o : Oper) : Option Bool :=
 match o.guard with
 | none => some true
 | some (j, want) => match (ops[j]?).bind (·.dst) with
  | some d => match get d fr with
   | .i (.v (.bool b)) => some (b == want)
   | .tup [] => some false
   | _ => none
  | none => none
noncomputable def evOps (E : Env) (cl : CallF) (ops : List Oper) : List Oper → Fr → Hp → Option (Fr × Hp)
 | [], fr, H => some (fr, H)
 | o :: r, fr, H => match guardE ops fr o with
  | some true => match evOp E cl o.op fr H with
   | some (v, H') => evOps E cl ops r (putD o.dst v fr) H'
   | none => none
  | some false => evOps E cl ops r (putD o.dst (.tup []) fr) H
  | none => none

def calleeR (E : Env) (f : FuncId) (args : List AV) (H : Hp) : List Nat :=
 match prepE E f H args with
 | some (args1, H1) => refsL args ++ reach H1 64 (refsL args1) []
 | none => []
def calleeM (E : Env) (f : FuncId) (args : List AV) (H : Hp) : List Nat :=
 match E.mkc f with
 | some _ => []
 | none => match E.rdr f with
  | true => (calleeR E f args H).map (· + bigN)
  | false => calleeR E f args H
def buildRefs (E : Env) (t : TypeId) (n : Nat) (parts : List (Nat × AV)) : List Nat :=
 match slO E.P t with
 | some e => match szO E.P e, zeroO E.P e with
  | some z, some zero => match fillA z (List.replicate n (cellsA zero)).flatten parts with
   | some cells => refsL cells
   | none => []
  | _, _ => []
 | none => []
def touch (E : Env) (fr : Fr) (H : Hp) : Op → List Nat
 | .call ⟨.value f, args, _⟩ => match calleeE E fr f args.toList with
  | some (g, as0) => calleeM E g as0 H
  | none => []
 | .call ⟨.builtin _, args, _⟩ => refsL (args.toList.map (opd E fr))
 | .load _ x => refsA (opd E fr x)
 | .indexAddr _ x _ => refsA (opd E fr x)
 | .slice _ x _ _ _ => refsA (opd E fr x)
 | .convert _ _ x => refsA (opd E fr x)
 | .next it _ => refsA (opd E fr it)
 | .lookup _ x _ _ => refsA (opd E fr x)
 | .mapUpdate _ m _ _ => refsA (opd E fr m) ++ (refsA (opd E fr m)).map (· + bigN)
 | .insert _ m _ _ => refsA (opd E fr m) ++ (refsA (opd E fr m)).map (· + bigN)
 | .store _ a x => refsA (opd E fr a) ++ refsA (opd E fr x)
 | .buildSlice t n parts => buildRefs E t n (parts.toList.map fun p => (p.1, opd E fr p.2))
 | _ => []
def readsH : Op → Bool
 | .load .. | .indexAddr .. | .slice .. | .convert .. | .lookup .. => true
 | _ => false
def bound (b : Array Nat) (i j : Nat) : Bool := (b.getD j 0).testBit i
def floats (E : Env) (ops : Array Oper) : List (Nat × Nat) :=
 let b := Region.before ops
 (List.range ops.size).flatMap fun j => (List.range j).filterMap fun i =>
  match ops[i]?, ops[j]? with
  | some x, some y => if !bound b i j && ((heavy E x.op && readsH y.op) || (heavy E y.op && readsH x.op)) then some (i, j) else none
  | _, _ => none
def drawOk (E : Env) (ops : Array Oper) : Bool :=
 let b := Region.before ops
 (ops.toList.all fun o => !(o.op matches .select ..)) &&
 ((List.range ops.size).all fun j => match ops[j]? with
  | some y => y.after.all fun e => !Region.binds .any e || decide (e.on < j)
  | none => false) &&
 (List.range ops.size).all fun j => (List.range j).all fun i =>
  match ops[i]?, ops[j]? with
  | some x, some y => bound b i j || (x.apart ops y && !(heavy E x.op && heavy E y.op))
  | _, _ => false
noncomputable def stp (E : Env) (cl : CallF) (ops : List Oper) (o : Oper) (fr : Fr) (H : Hp) : Option (Fr × Hp × List Nat) :=
 match guardE ops fr o with
 | some true => match evOp E cl o.op fr H with
  | some (v, H') => some (putD o.dst v fr, H', touch E fr H o.op ++ List.range' H.length (H'.length - H.length))
  | none => none
 | some false => some (putD o.dst (.tup []) fr, H, [])
 | none => none
noncomputable def evT (E : Env) (cl : CallF) (ops : List Oper) : List Oper → Fr → Hp → Option (Fr × Hp × List (List Nat))
 | [], fr, H => some (fr, H, [])
 | o :: r, fr, H => match stp E cl ops o fr H with
  | some (fr1, H1, t) => match evT E cl ops r fr1 H1 with
   | some (fr2, H2, ts) => some (fr2, H2, t :: ts)
   | none => none
  | none => none
def apartT (a b : List Nat) : Bool := a.all fun c => !b.contains c
def floatOk (tr : List (List Nat)) (p : Nat × Nat) : Bool := apartT (tr.getD p.1 []) (tr.getD p.2 [])

def hole : Chunk := .sl 0 0 [] true
def isFresh : Op → Bool
 | .alloc _ | .box .. | .buildSlice .. | .makeSlice .. => true
 | .makeMap _ none => true
 | _ => false
def freshOf : Option (AV × Hp) → Option (Option (Option Nat) × Chunk)
 | some (.ref _ _ _ n, [.sl z _ rows ex]) => some (some (some n), .sl z 1 rows ex)
 | some (.ptr _ _ _ _, [.box cells]) => some (none, .box cells)
 | some (.mref _, [.map []]) => some (some none, .map [])
 | _ => none
def mkR (c : Nat) : Option (Option Nat) → AV
 | none => .ptr c 0 0 0
 | some (some n) => .ref c 1 0 n
 | some none => .mref c
def putH (c : Nat) (H : Hp) (r : Option (Option (Option Nat) × Chunk)) : Option Chunk → Option (AV × Hp)
 | some (.sl 0 0 [] true) => match r with
  | some (k, ch) => some (mkR c k, H.set c ch)
  | none => none
 | _ => none
noncomputable def evOpD (E : Env) (cl : CallF) (c : Nat) (o : Op) (fr : Fr) (H : Hp) : Option (AV × Hp) :=
 match isFresh o with
 | true => putH c H (freshOf (evH E fr [] o)) H[c]?
 | false => evOp E cl o fr H
def touchD (E : Env) (c : Nat) (fr : Fr) (H : Hp) (o : Op) : List Nat :=
 match isFresh o with
 | true => [c, c + bigN]
 | false => touch E fr H o
def stepC (c : Nat) (o : Op) : Nat := match isFresh o with | true => c + 1 | false => c
def nFresh (l : List Oper) : Nat := l.foldl (fun c o => stepC c o.op) 0
noncomputable def evD (E : Env) (cl : CallF) (ops : List Oper) : Nat → List Oper → Fr → Hp → Option (Fr × Hp × List (List Nat))
 | _, [], fr, H => some (fr, H, [])
 | c, o :: r, fr, H => match guardE ops fr o with
  | some true => match evOpD E cl c o.op fr H with
   | some (v, H') => match evD E cl ops (stepC c o.op) r (putD o.dst v fr) H' with
    | some (fr2, H2, ts) => some (fr2, H2, (touchD E c fr H o.op ++ List.range' H.length (H'.length - H.length)) :: ts)
    | none => none
   | none => none
  | some false => match evD E cl ops (stepC c o.op) r (putD o.dst (.tup []) fr) H with
   | some (fr2, H2, ts) => some (fr2, H2, [] :: ts)
   | none => none
  | none => none
def isIns : Op → Bool
 | .insert .. | .mapUpdate .. => true
 | _ => false
def keysApart : Op → Op → Bool
 | .insert _ _ (.const (.int k a)) _, .insert _ _ (.const (.int k' b)) _ => decide (k = k') && !decide (a = b)
 | _, _ => false
def insP (x y : Op) : Bool := (isIns x && !isIns y) || (isIns y && !isIns x) || keysApart x y
def floatsD (E : Env) (ops : Array Oper) : List (Nat × Nat) :=
 let b := Region.before ops
 (List.range ops.size).flatMap fun j => (List.range j).filterMap fun i =>
  match ops[i]?, ops[j]? with
  | some x, some y => if !bound b i j && !keysApart x.op y.op && ((heavy E x.op && (readsH y.op || heavy E y.op)) || (heavy E y.op && (readsH x.op || heavy E x.op))) then some (i, j) else none
  | _, _ => none
def drawOkD (E : Env) (ops : Array Oper) : Bool :=
 let b := Region.before ops
 (ops.toList.all fun o => !(o.op matches .select ..)) &&
 ((List.range ops.size).all fun j => match ops[j]? with
  | some y => y.after.all fun e => !Region.binds .any e || decide (e.on < j)
  | none => false) &&
 (List.range ops.size).all fun j => (List.range j).all fun i =>
  match ops[i]?, ops[j]? with
  | some x, some y => bound b i j || (x.apart ops y && (!(heavy E x.op && heavy E y.op) || isFresh x.op || isFresh y.op || insP x.op y.op))
  | _, _ => false

def rdOk : Code → Bool
 | .seq a b => rdOk a && rdOk b
 | .cond _ a b => rdOk a && rdOk b
 | .block _ c => rdOk c
 | .loop c => rdOk c
 | .scope _ => false
 | .rangeFunc .. => false
 | _ => true
def codeOk (E : Env) (f : FuncId) (nt : Nat) : Code → Bool
 | .region id ops draw => (ops.toList.all fun o => match o.dst with | some d => decide (d < nt) | none => true) &&
   (!draw || (match E.hol f id with
    | false => drawOk E ops && (floats E ops).all fun p => (E.flo f id).contains p
    | true => drawOkD E ops && (floatsD E ops).all fun p => (E.flo f id).contains p))
 | .seq a b => codeOk E f nt a && codeOk E f nt b
 | .cond _ a b => codeOk E f nt a && codeOk E f nt b
 | .block _ c => codeOk E f nt c
 | .loop c => codeOk E f nt c
 | .scope c => codeOk E f nt c
 | .rangeFunc _ ps a b => ps.toList.all (fun p => decide (p < nt)) && (rdOk a && rdOk b) && (codeOk E f nt a && codeOk E f nt b)
 | .goto _ => false
 | _ => true
def fnOk (E : Env) (f : FuncId) : Bool :=
 match E.P.funcs[f]? with
 | some fn => match fn.body with
  | some c => codeOk E f fn.ntmps c && E.P.follows .mixedOrders
  | none => false
 | none => false

def retL (E : Env) (f : FuncId) (B : Nat) (H : Hp) (vs : List AV) : Option (List AV × Hp) :=
 match E.own f with
 | true => some (cnL B (matL (E.resk f) vs H).2 (matL (E.resk f) vs H).1, cnHs B (matL (E.resk f) vs H).2 0 (matL (E.resk f) vs H).2)
 | false => match prep H vs with
  | some (as0, H1) => some (cnL B H1 (canLs (E.resk f) as0), cnHs B H1 0 H1)
  | none => none
def ret1 : Option (List AV × Hp) → Option (AV × Hp)
 | some ([a], H) => some (a, H)
 | _ => none
def retN : Option (List AV × Hp) → Option (AV × Hp)
 | some (as0, H) => some (.tup as0, H)
 | none => none
def retE (E : Env) (f : FuncId) (B : Nat) (H : Hp) : AV → Option (AV × Hp)
 | .tup vs => retN (retL E f B H vs)
 | a => ret1 (retL E f B H [a])
def callLoc (E : Env) (ex : Exec) : CallF := fun f args H =>
 match E.P.funcs[f]? with
 | some fn => match fn.body with
  | some c => if fnOk E f = true ∧ args.length ≤ fn.ntmps then match ex H.length f c (frameOf 0 args) H with
   | some (.exit _, _, _) => none
   | some (_, fr, H') => match resE E fr H' fn.results.toList with
    | some r => retE E f H.length H' r
    | none => none
   | none => none
   else none
  | none => none
 | none => none

def norm (l : List Nat) (fr : Fr) : Fr := l.map fun k => (k, get k fr)
def firstRegion : Code → Option Nat
 | .region id _ _ => some id
 | .seq a b => match firstRegion a with | some i => some i | none => firstRegion b
 | .cond _ a b => match firstRegion a with | some i => some i | none => firstRegion b
 | .block _ c => firstRegion c
 | .loop c => firstRegion c
 | .scope c => firstRegion c
 | .rangeFunc _ _ a b => match firstRegion a with | some i => some i | none => firstRegion b
 | _ => none

def gcR (B : Nat) (fr : Fr) (H : Hp) : List Nat :=
 List.range B ++ (reach H 64 (refsL (fr.map (·.2)) ++ (H.take B).flatMap Chunk.refs) []).filter fun i => decide (B ≤ i)
def gcW (R : List Nat) (fr : Fr) (H : Hp) : Fr × Hp :=
 (fr.map fun x => (x.1, renA (posIn R) x.2), R.map fun c => ((H[c]?).map (Chunk.ren (posIn R))).getD (.iter [] 0))
def gc (B : Nat) (fr : Fr) (H : Hp) : Fr × Hp := if B ≤ H.length then gcW (gcR B fr H) fr H else (fr, H)

def gcn (B : Nat) (fr : Fr) (H : Hp) : Fr × Hp := gc B (cnF B H fr) (cnHs B H 0 H)
def hdE (E : Env) (B : Nat) (f : FuncId) (id : Nat) (fr : Fr) (H : Hp) : Fr × Hp :=
 let p := matF (E.mat f id) fr H
 let H2 := matB (E.matb f id) p.1 p.2
 let q := frzF (E.frz f id) p.1 H2
 gcn B (norm (E.head f id) q.1) q.2

def capsI (H : Hp) : List AV → Option (List (List IV))
 | [] => some []
 | .ptr c _ 0 0 :: r => match H[c]? with
  | some (.box cells) => match ivsOf cells, capsI H r with
   | some a, some b => some (a :: b)
   | _, _ => none
  | _ => none
 | _ => none
def seqE (E : Env) (H : Hp) : AV → Option (List AV)
 | .clo (.func g) [] caps => match E.seq g, capsI H caps with
  | some L, some css => L css
  | _, _ => none
 | _ => none
def rdE (ex : Nat → Code → Fr → Hp → Option (Ex × Fr × Hp)) (asg body : Code) (fr : Fr) (H : Hp) : Option (Ex × Hp) :=
 match ex H.length asg fr H with
 | some (.normal, fr1, H1) => match ex H.length body fr1 H1 with
  | some (e, _, H2) => some (e, H2)
  | none => none
 | _ => none
def rgE (rd : Fr → Hp → Option (Ex × Hp)) (p : Nat) (fr : Fr) : List AV → Hp → Option (Ex × Fr × Hp)
 | [], H => some (.normal, fr, H)
 | x :: xs, H => match rd ((p, x) :: fr) H with
  | some (.normal, H1) => rgE rd p fr xs H1
  | some (e, H1) => some (e, fr, H1)
  | none => none

noncomputable def exec (E : Env) : Nat → Exec
 | 0, _, _, _, _, _ => none
 | n + 1, B, f, c, fr, H => match c with
  | .skip => some (.normal, fr, H)
  | .label _ => some (.normal, fr, H)
  | .ret => some (.ret, fr, H)
  | .exit id => some (.exit id, fr, H)
  | .region id ops draw =>
   match draw with
   | false => match evOps E (callLoc E (exec E n)) ops.toList ops.toList fr H with
    | some (fr', H') => some (.normal, norm (E.keep f id) fr', H')
    | none => none
   | true => match E.hol f id with
    | false => match evT E (callLoc E (exec E n)) ops.toList ops.toList fr H with
     | some (fr', H', tr) => if (E.flo f id).all (floatOk tr) = true then some (.normal, norm (E.keep f id) fr', H') else none
     | none => none
    | true => match evD E (callLoc E (exec E n)) ops.toList H.length ops.toList fr (H ++ List.replicate (nFresh ops.toList) hole) with
     | some (fr', H', tr) => if (E.flo f id).all (floatOk tr) = true then some (.normal, norm (E.keep f id) fr', H') else none
     | none => none
  | .seq a b => match exec E n B f a fr H with
   | some (.normal, fr', H') => exec E n B f b fr' H'
   | r => r
  | .cond c a b => match opd E fr c with
   | .i (.v (.bool true)) => exec E n B f a fr H
   | .i (.v (.bool false)) => exec E n B f b fr H
   | _ => none
  | .block id c => match exec E n B f c fr H with
   | some (.exit j, fr', H') => if j = id then some (.normal, fr', H') else some (.exit j, fr', H')
   | r => r
  | .loop c => match exec E n B f c (hdE E B f ((firstRegion c).getD 0) fr H).1 (hdE E B f ((firstRegion c).getD 0) fr H).2 with
   | some (.normal, fr', H') => exec E n B f (.loop c) fr' H'
   | r => r
  | .scope c => exec E n B f c fr H
  | .rangeFunc g ps a b => match ps.toList, seqE E H (opd E fr g) with
   | [p], some xs => rgE (rdE (fun B' c fr H => exec E n B' f c fr H) a b) p fr xs H
   | _, _ => none
  | _ => none

noncomputable def call (E : Env) (n : Nat) : CallF := callLoc E (exec E n)
end Go.VI

namespace Go.VI

abbrev Imm := Nat → Option Obj
abbrev Eta := Nat → Option (Nat × Nat)

inductive RelI (I : Imm) : IV → Value → Prop
 | v (x : Value) (h : x.oneCell' = true) : RelI I (.v x) x
 | str (l : List UInt8) : RelI I (.str l) (.string ⟨⟨l⟩⟩)
 | nil (sz : Nat) (ex : Bool) (a : Option Addr) (cap : Nat) (h : ex = true → cap = 0) : RelI I (.sl sz [] ex) (.slice a 0 cap)
 | sl (sz : Nat) (rows : List (List IV)) (ex : Bool) (b off cap : Nat) (cs : Array Value) (elem : TypeId) (fz : Nat × Nat) (cv : Nat → Nat → Value)
   (hI : I b = some (.cells cs elem fz)) (hc : rows.length ≤ cap) (hx : ex = true → cap = rows.length)
   (hr : ∀ (i : Nat) (r : List IV), rows[i]? = some r → r.length = sz)
   (h1 : ∀ (i : Nat) (r : List IV) (k : Nat) (a : IV), rows[i]? = some r → r[k]? = some a → cs[off + i * sz + k]? = some (cv i k))
   (h2 : ∀ (i : Nat) (r : List IV) (k : Nat) (a : IV), rows[i]? = some r → r[k]? = some a → RelI I a (cv i k)) :
   RelI I (.sl sz rows ex) (.slice (some ⟨b, off, none⟩) rows.length cap)
 | pt (cells : List IV) (o b off : Nat) (cs : Array Value) (elem : TypeId) (fz : Nat × Nat) (cv : Nat → Value)
   (hI : I b = some (.cells cs elem fz))
   (h1 : ∀ (k : Nat) (a : IV), cells[k]? = some a → cs[off + k]? = some (cv k))
   (h2 : ∀ (k : Nat) (a : IV), cells[k]? = some a → RelI I a (cv k)) :
   RelI I (.pt cells o) (.pointer (some ⟨b, off + o, none⟩))
 | mp (es : List (Int × Nat)) (b : Nat) (arr : Array MapEntry) (clock : Nat) (hI : I b = some (.map arr clock))
   (h : arr.toList.map (fun e => (e.key, e.val)) = es.map fun p => (Value.int .i64 p.1, Value.func (.func p.2) #[] #[])) : RelI I (.mp es) (.map (some b))

def Imm.le (I I' : Imm) : Prop := ∀ b o, I b = some o → I' b = some o

theorem RelI.mono {I I' : Imm} (h : I.le I') {x : IV} {v : Value} (r : RelI I x v) : RelI I' x v := by
 induction r with
 | v x h => exact .v x h
 | str l => exact .str l
 | nil sz ex a cap hx => exact .nil sz ex a cap hx
 | sl sz rows ex b off cap cs elem fz cv hI hc hx hr h1 _ ih => exact .sl sz rows ex b off cap cs elem fz cv (h _ _ hI) hc hx hr h1 ih
 | pt cells o b off cs elem fz cv hI h1 _ ih => exact .pt cells o b off cs elem fz cv (h _ _ hI) h1 ih
 | mp es b arr clock hI h1 => exact .mp es b arr clock (h _ _ hI) h1

def RefOk (η : Eta) (c sz : Nat) (rows : List (List IV)) (off len : Nat) (v : Value) : Prop :=
 off + len ≤ rows.length ∧ ∃ a cap, v = .slice a len cap ∧
  ((η c = none ∧ cap = 0) ∨
   ∃ b n, η c = some (b, n) ∧ rows.length ≤ off + cap ∧ (off + cap) * sz ≤ n ∧ (a = some ⟨b, off * sz, none⟩ ∨ (len = 0 ∧ cap = 0)))

inductive RelA (I : Imm) (η : Eta) (H : Hp) : AV → Value → Prop
 | dead (v : Value) : RelA I η H .dead v
 | i (x : IV) (v : Value) (h : RelI I x v) : RelA I η H (.i x) v
 | agg (cells : List AV) (cs : Array Value) (hl : cs.size = cells.length)
   (h : ∀ (k : Nat) (a : AV), cells[k]? = some a → RelA I η H a (cs.getD k undef)) : RelA I η H (.agg cells) (.agg cs)
 | ref (c g off len : Nat) (v : Value) (hc : c < H.length)
   (hs : ∀ sz rows ex, H[c]? = some (.sl sz g rows ex) → RefOk η c sz rows off len v)
   (hf : ∀ sz rows ex, H[c]? = some (.fz sz g rows ex) → off + len ≤ rows.length ∧
    RelI I (.sl sz ((rows.drop off).take len) (ex && decide (off + len = rows.length))) v)
   (hp : ∃ a m, v = .slice a len m) (hg : ∀ sz g' rows ex, H[c]? = some (.sl sz g' rows ex) → g ≤ g') : RelA I η H (.ref c g off len) v
 | ptr (c g r k : Nat) (v : Value) (hc : c < H.length)
   (hb : ∀ cells, H[c]? = some (.box cells) → ∃ b n, η c = some (b, n) ∧ v = .pointer (some ⟨b, k, none⟩))
   (hs : ∀ sz rows ex, H[c]? = some (.sl sz g rows ex) → ∃ b n, η c = some (b, n) ∧ v = .pointer (some ⟨b, r * sz + k, none⟩))
   (hf : ∀ sz rows ex row, H[c]? = some (.fz sz g rows ex) → rows[r]? = some row → RelI I (.pt row k) v)
   (hi : ∀ s p, H[c]? = some (.iter s p) → ∃ b n, η c = some (b, n) ∧ v = .pointer (some ⟨b, k, none⟩)) 
   (hp : ∃ a : Addr, v = .pointer (some a)) (hg : ∀ sz g' rows ex, H[c]? = some (.sl sz g' rows ex) → g ≤ g') : RelA I η H (.ptr c g r k) v
 | mref (c : Nat) (v : Value) (hc : c < H.length) (hm : ∀ es, H[c]? = some (.map es) → ∃ b n, η c = some (b, n) ∧ v = .map (some b))
   (ht : ∀ t cells, H[c]? = some (.tb t cells) → ∃ b n, η c = some (b, n) ∧ v = .pointer (some ⟨b, 0, none⟩))
   (hu : ∀ t l, H[c]? = some (.buf t l) → ∃ b n, η c = some (b, n) ∧ v = .slice (some ⟨b, 0, none⟩) l.length n)
   (hp : v.oneCell' = true) (hz : ∀ sz g rows ex, H[c]? ≠ some (.sl sz g rows ex)) : RelA I η H (.mref c) v
 | clo (fn : Fn) (first caps : List AV) (fs cs : Array Value) (hl : fs.size = first.length) (hm : cs.size = caps.length)
   (h1 : ∀ (k : Nat) (a : AV), first[k]? = some a → RelA I η H a (fs.getD k undef))
   (h2 : ∀ (k : Nat) (a : AV), caps[k]? = some a → RelA I η H a (cs.getD k undef)) : RelA I η H (.clo fn first caps) (.func fn fs cs)
 | tup (vs : List AV) (xs : Array Value) (hl : xs.size = vs.length)
   (h : ∀ (k : Nat) (a : AV), vs[k]? = some a → RelA I η H a (xs.getD k undef)) : RelA I η H (.tup vs) (.tuple xs)

def Thaw (fz : Nat × Nat) (n : Nat) : Prop := ∀ k, k < n → ¬ (fz.1 ≤ k ∧ k < fz.2)

def MapL0 (I : Imm) (η : Eta) (H : Hp) : List (IV × AV) → List MapEntry → Prop
 | [], [] => True
 | p :: r, e :: q => RelI I p.1 e.key ∧ RelA I η H p.2 e.val ∧ MapL0 I η H r q
 | _, _ => False
theorem MapL0.mono {I I' : Imm} {η η' : Eta} {H H' : Hp} (h : I.le I') (hm : ∀ a v, RelA I η H a v → RelA I' η' H' a v) : ∀ {es : List (IV × AV)} {q : List MapEntry}, MapL0 I η H es q → MapL0 I' η' H' es q
 | [], [], _ => trivial
 | _ :: _, _ :: _, g => ⟨g.1.mono h, hm _ _ g.2.1, g.2.2.mono h hm⟩
theorem MapL0.to {I : Imm} {η η' : Eta} {H H' : Hp} {g : AV → AV} (hm : ∀ a v, RelA I η H a v → RelA I η' H' (g a) v) : ∀ {es : List (IV × AV)} {q : List MapEntry}, MapL0 I η H es q → MapL0 I η' H' (es.map fun p => (p.1, g p.2)) q
 | [], [], _ => trivial
 | _ :: _, _ :: _, h => ⟨h.1, hm _ _ h.2.1, h.2.2.to hm⟩
theorem MapL0.ex {I : Imm} {η : Eta} {H : Hp} {a : AV} : ∀ {es : List (IV × AV)} {q : List MapEntry}, MapL0 I η H es q → a ∈ es.map (·.2) → ∃ v, RelA I η H a v
 | [], [], _, ha => by simp at ha
 | p :: r, e :: q, h, ha => by
  simp only [List.map_cons, List.mem_cons] at ha
  rcases ha with rfl | ha
  ·exact ⟨_, h.2.1⟩
  ·exact h.2.2.ex ha
theorem MapL0.of {I : Imm} {η η' : Eta} {H H' : Hp} : ∀ {es : List (IV × AV)} {q : List MapEntry}, (∀ a v, a ∈ es.map (·.2) → RelA I η H a v → RelA I η' H' a v) → MapL0 I η H es q → MapL0 I η' H' es q
 | [], [], _, _ => trivial
 | _ :: _, _ :: _, hm, h => ⟨h.1, hm _ _ (by simp) h.2.1, h.2.2.of fun a v ha => hm a v (by simp at ha ⊢; exact .inr ha)⟩
def MapL (I : Imm) (η : Eta) (H : Hp) (es : List (IV × AV)) (q : List MapEntry) : Prop :=
 ∃ es', es.Perm es' ∧ MapL0 I η H es' q ∧ es.Pairwise fun p r => sameK p.1 r.1 = some false
theorem MapL.nil {I : Imm} {η : Eta} {H : Hp} : MapL I η H [] [] := ⟨[], .refl _, trivial, .nil⟩
theorem MapL.mono {I I' : Imm} {η η' : Eta} {H H' : Hp} (h : I.le I') (hm : ∀ a v, RelA I η H a v → RelA I' η' H' a v) {es : List (IV × AV)} {q : List MapEntry} (g : MapL I η H es q) : MapL I' η' H' es q := by
 obtain ⟨es', h1, h2, h3⟩ := g
 exact ⟨es', h1, h2.mono h hm, h3⟩
theorem MapL.to {I : Imm} {η η' : Eta} {H H' : Hp} {g : AV → AV} (hm : ∀ a v, RelA I η H a v → RelA I η' H' (g a) v) {es : List (IV × AV)} {q : List MapEntry} (h : MapL I η H es q) : MapL I η' H' (es.map fun p => (p.1, g p.2)) q := by
 obtain ⟨es', h1, h2, h3⟩ := h
 exact ⟨_, h1.map _, h2.to hm, List.pairwise_map.2 h3⟩
theorem MapL.ex {I : Imm} {η : Eta} {H : Hp} {a : AV} {es : List (IV × AV)} {q : List MapEntry} (h : MapL I η H es q) (ha : a ∈ es.map (·.2)) : ∃ v, RelA I η H a v := by
 obtain ⟨es', h1, h2, h3⟩ := h
 exact h2.ex ((h1.map _).mem_iff.1 ha)
theorem MapL.of {I : Imm} {η η' : Eta} {H H' : Hp} {es : List (IV × AV)} {q : List MapEntry} (hm : ∀ a v, a ∈ es.map (·.2) → RelA I η H a v → RelA I η' H' a v) (h : MapL I η H es q) : MapL I η' H' es q := by
 obtain ⟨es', h1, h2, h3⟩ := h
 exact ⟨es', h1, h2.of fun a v ha => hm a v ((h1.map _).mem_iff.2 ha), h3⟩
theorem sameK_eq {k j : IV} (h : sameK k j = some true) : k = j := by
 unfold sameK at h
 split at h
 ·split at h
  ·rename_i hk; subst hk; cases of_decide_eq_true (Option.some.inj h); rfl
  ·cases h
 ·cases of_decide_eq_true (Option.some.inj h); rfl
 ·cases h
theorem sameK_symm (k j : IV) : sameK k j = sameK j k := by
 cases k with
 | v x =>
  cases j with
  | v y =>
   cases x <;> cases y <;> try rfl
   rename_i k1 a k2 b
   simp only [sameK]
   by_cases h : k1 = k2
   ·subst h; simp [eq_comm]
   ·simp [h, Ne.symm h]
  | _ => cases x <;> rfl
 | str a =>
  cases j with
  | str b => simp [sameK, eq_comm]
  | v y => cases y <;> rfl
  | _ => rfl
 | _ => cases j <;> first | rfl | (rename_i y; cases y <;> rfl)
theorem findK_none {k : IV} : ∀ {es : List (IV × AV)}, findK k es = some none ↔ ∀ p ∈ es, sameK k p.1 = some false
 | [] => by simp [findK]
 | p :: r => by
  obtain ⟨j, v⟩ := p
  simp only [findK, List.mem_cons, forall_eq_or_imp]
  cases h : sameK k j with
  | none => simp
  | some b => cases b <;> simp [findK_none]
theorem findK_perm {k : IV} {es es' : List (IV × AV)} (h : es.Perm es') (hd : es.Pairwise fun p r => sameK p.1 r.1 = some false) {r : Option AV} (hf : findK k es = some r) : findK k es' = some r := by
 induction h with
 | nil => exact hf
 | cons p _ ih =>
  obtain ⟨j, v⟩ := p
  simp only [findK] at hf ⊢
  cases h : sameK k j with
  | none => rw [h] at hf; cases hf
  | some b =>
   rw [h] at hf
   cases b with
   | true => exact hf
   | false => exact ih (List.pairwise_cons.1 hd).2 hf
 | swap p p' l =>
  obtain ⟨j, v⟩ := p
  obtain ⟨j', v'⟩ := p'
  have hjj : sameK j' j = some false := (List.pairwise_cons.1 hd).1 (j, v) (by simp)
  simp only [findK] at hf ⊢
  cases h' : sameK k j' with
  | none => rw [h'] at hf; cases hf
  | some b' =>
   rw [h'] at hf
   cases b' with
   | true =>
    have := sameK_eq h'
    subst this
    rw [hjj]; exact hf
   | false => exact hf
 | trans h1 h2 ih1 ih2 =>
  exact ih2 ((h1.pairwise_iff (fun {x y} hxy => by rw [sameK_symm]; exact hxy)).1 hd) (ih1 hd hf)
theorem insK_perm (k : IV) (v : AV) : ∀ es, (insK k v es).Perm ((k, v) :: es)
 | [] => .refl _
 | p :: r => by
  simp only [insK]
  split
  ·exact .refl _
  ·exact ((insK_perm k v r).cons p).trans (.swap _ _ _)
theorem repK_map (k : IV) (v : AV) : ∀ es, repK k v es = es.map fun p => if sameK k p.1 = some true then (k, v) else p
 | [] => rfl
 | p :: r => by simp only [repK, List.map_cons, repK_map k v r]
theorem repK_fst (k : IV) (v : AV) (p : IV × AV) : (if sameK k p.1 = some true then (k, v) else p).1 = p.1 := by
 split
 ·rename_i h; exact sameK_eq h
 ·rfl

def ChunkOK (I : Imm) (η : Eta) (H : Hp) (w : World) (c : Nat) : Chunk → Prop
 | .box cells => ∃ b cs elem fz, η c = some (b, cs.size) ∧ w.heap[b]? = some (.cells cs elem fz) ∧ Thaw fz cs.size ∧ cs.size = cells.length ∧
   ∀ (k : Nat) (a : AV), cells[k]? = some a → RelA I η H a (cs.getD k undef)
 | .sl sz _ rows ex => (sz = 0 → η c = none) ∧ (∀ (i : Nat) (r : List IV), rows[i]? = some r → r.length = sz) ∧
   ((η c = none ∧ rows = []) ∨ ∃ b cs elem fz, η c = some (b, cs.size) ∧ w.heap[b]? = some (.cells cs elem fz) ∧ Thaw fz cs.size ∧
    rows.length * sz ≤ cs.size ∧ (ex = true → cs.size = rows.length * sz) ∧
    ∀ (i : Nat) (r : List IV) (k : Nat) (a : IV), rows[i]? = some r → r[k]? = some a → RelI I a (cs.getD (i * sz + k) undef))
 | .fz .. => η c = none
 | .iter s pos => ∃ b, η c = some (b, 0) ∧ w.heap[b]? = some (.stringIter ⟨⟨s⟩⟩ pos)
 | .map es => ∃ b arr clock, η c = some (b, 0) ∧ w.heap[b]? = some (.map arr clock) ∧ MapL I η H es arr.toList
 | .tb t cells => ∃ b cs, η c = some (b, cs.size) ∧ w.heap[b]? = some (.cells cs t (0, 0)) ∧ cs.size = cells.length ∧
   ∀ (k : Nat) (a : AV), cells[k]? = some a → RelA I η H a (cs.getD k undef)
 | .buf t l => ∃ b cs, η c = some (b, cs.size) ∧ w.heap[b]? = some (.cells cs t (0, 0)) ∧ l.length ≤ cs.size ∧ cs.size ≤ maxLen ∧
   ∀ (k : Nat) (x : UInt8), l[k]? = some x → cs[k]? = some (.int .u8 x.toNat)
 | .gone => η c = none

def GlobOK (I : Imm) (g : Nat) (cells : List IV) : Prop := RelI I (.pt cells 0) (.pointer (some ⟨g, 0, none⟩)) ∧ ∃ cs e fz, I g = some (.cells cs e fz) ∧ cs.size = cells.length
theorem GlobOK.mono {I I' : Imm} (h : I.le I') {g : Nat} {cells : List IV} (k : GlobOK I g cells) : GlobOK I' g cells := by
 obtain ⟨k1, cs, e, fz, k2, k3⟩ := k
 exact ⟨k1.mono h, cs, e, fz, h _ _ k2, k3⟩

structure Conc (E : Env) (I : Imm) (η : Eta) (H : Hp) (w : World) : Prop where
 imm : ∀ b o, I b = some o → w.heap[b]? = some o
 ch : ∀ c x, H[c]? = some x → ChunkOK I η H w c x
 inj : ∀ c c' b n n', η c = some (b, n) → η c' = some (b, n') → c = c'
 sep : ∀ c b n, η c = some (b, n) → I b = none ∧ b < w.heap.size ∧ c < H.length
 glob : ∀ g cells, E.glob g = some cells → GlobOK I g cells

structure Trans (I : Imm) (η : Eta) (w : World) (I' : Imm) (η' : Eta) (w' : World) : Prop where
 os : w'.os = w.os
 tape : w'.tape = w.tape
 output : w'.output = w.output
 size : w.heap.size ≤ w'.heap.size
 frame : ∀ b, b < w.heap.size → (∀ c n, η c ≠ some (b, n)) → w'.heap[b]? = w.heap[b]?
 imm : I.le I'
 immNew : ∀ b, I' b ≠ none → I b ≠ none ∨ w.heap.size ≤ b ∨ ∃ c n, η c = some (b, n)
 own : ∀ c b n, η' c = some (b, n) → w.heap.size ≤ b ∨ ∃ c' n', η c' = some (b, n')

theorem Trans.refl (I : Imm) (η : Eta) (w : World) : Trans I η w I η w :=
 ⟨rfl, rfl, rfl, Nat.le_refl _, fun _ _ _ => rfl, fun _ _ h => h, fun _ h => .inl h, fun _ _ _ h => .inr ⟨_, _, h⟩⟩

theorem Trans.trans {I η w I' η' w' I'' η'' w''} (h : Trans I η w I' η' w') (k : Trans I' η' w' I'' η'' w'') : Trans I η w I'' η'' w'' where
 os := k.os.trans h.os
 tape := k.tape.trans h.tape
 output := k.output.trans h.output
 size := Nat.le_trans h.size k.size
 frame b hb hn := by
  rw [k.frame b (Nat.lt_of_lt_of_le hb h.size) ?_, h.frame b hb hn]
  intro c n hc
  rcases h.own c b n hc with h1 | ⟨c', n', h1⟩
  ·omega
  ·exact hn _ _ h1
 imm b o hb := k.imm _ _ (h.imm _ _ hb)
 immNew b hb := by
  rcases k.immNew b hb with h1 | h1 | ⟨c, n, h1⟩
  ·exact h.immNew b h1
  ·exact .inr (.inl (Nat.le_trans h.size h1))
  ·rcases h.own c b n h1 with h2 | h2
   ·exact .inr (.inl h2)
   ·exact .inr (.inr h2)
 own c b n hc := by
  rcases k.own c b n hc with h1 | ⟨c', n', h1⟩
  ·exact .inl (Nat.le_trans h.size h1)
  ·exact h.own _ _ _ h1

def Mono (I : Imm) (η : Eta) (H : Hp) (I' : Imm) (η' : Eta) (H' : Hp) : Prop := ∀ a v, RelA I η H a v → RelA I' η' H' a v
theorem Mono.refl (I η H) : Mono I η H I η H := fun _ _ h => h
theorem Mono.trans {I η H I' η' H' I'' η'' H''} (h : Mono I η H I' η' H') (k : Mono I' η' H' I'' η'' H'') : Mono I η H I'' η'' H'' :=
 fun a v r => k a v (h a v r)

def CStep (I : Imm) (η : Eta) (H : Hp) (I' : Imm) (η' : Eta) (H' : Hp) (c : Nat) : Prop :=
 ∀ y, H'[c]? = some y → match y with
  | .box cells' => (∃ cells, H[c]? = some (.box cells) ∧ η' c = η c) ∨ (∃ rows ex, H[c]? = some (.sl 0 0 rows ex) ∧ η c = none)
  | .iter _ _ => ∃ s p, H[c]? = some (.iter s p) ∧ η' c = η c
  | .map _ => ∃ es, H[c]? = some (.map es) ∧ η' c = η c
  | .tb _ _ => ∃ t cells, H[c]? = some (.tb t cells) ∧ η' c = η c
  | .buf _ l' => ∃ t l, H[c]? = some (.buf t l) ∧ η' c = η c ∧ l'.length = l.length
  | .gone => True
  | .sl sz g rows' ex' => (∃ rows ex, H[c]? = some (.sl sz g rows ex) ∧ η' c = η c ∧ rows'.length = rows.length) ∨ (∃ sz0 g0 rows0 ex0, H[c]? = some (.sl sz0 g0 rows0 ex0) ∧ g0 < g)
  | .fz sz g rows ex => (H[c]? = some (.fz sz g rows ex)) ∨ (∀ a v, (∃ off len, a = .ref c g off len) ∨ (∃ r k, a = .ptr c g r k) → RelA I η H a v → RelA I' η' H' a v)

theorem RefOk.step {η η' : Eta} {c sz : Nat} {rows rows' : List (List IV)} {off len : Nat} {v : Value} (he : η' c = η c) (hl : rows'.length = rows.length)
  (h : RefOk η c sz rows off len v) : RefOk η' c sz rows' off len v := by
 unfold RefOk at *
 rw [he, hl]; exact h

theorem mono_of {I η H I' η' H'} (hI : I.le I') (hlen : H.length ≤ H'.length) (hc : ∀ c, c < H.length → CStep I η H I' η' H' c) : Mono I η H I' η' H' := by
 intro a v r
 induction r with
 | dead v => exact .dead v
 | i x v h => exact .i x v (h.mono hI)
 | agg cells cs hl _ ih => exact .agg cells cs hl ih
 | clo fn first caps fs cs hl hm _ _ ih1 ih2 => exact .clo fn first caps fs cs hl hm ih1 ih2
 | tup vs xs hl _ ih => exact .tup vs xs hl ih
 | mref c v hcl hm ht hu hp hz =>
  refine .mref c v (by omega) (fun es h => ?_) (fun t cells h => ?_) (fun t l h => ?_) hp (fun sz g rows ex h => ?_)
  ·obtain ⟨es0, h1, h2⟩ := hc c hcl _ h
   rw [h2]; exact hm _ h1
  ·obtain ⟨t0, cells0, h1, h2⟩ := hc c hcl _ h
   rw [h2]; exact ht _ _ h1
  ·obtain ⟨t0, l0, h1, h2, h3⟩ := hc c hcl _ h
   rw [h2, h3]; exact hu _ _ h1
  ·rcases hc c hcl _ h with ⟨_, _, h1, _⟩ | ⟨_, _, _, _, h1, _⟩
   ·exact hz _ _ _ _ h1
   ·exact hz _ _ _ _ h1
 | ref c g off len v hcl hs hf hp hg =>
  have hcs := hc c hcl
  by_cases hex : ∃ y, H'[c]? = some y
  ·obtain ⟨y, hy⟩ := hex
   have hst := hcs y hy
   cases y with
   | box cells => exact .ref c g off len v (by omega) (fun sz rows ex h => by rw [hy] at h; cases h) (fun sz rows ex h => by rw [hy] at h; cases h) hp (fun _ _ _ _ h => by rw [hy] at h; cases h)
   | iter s p => exact .ref c g off len v (by omega) (fun sz rows ex h => by rw [hy] at h; cases h) (fun sz rows ex h => by rw [hy] at h; cases h) hp (fun _ _ _ _ h => by rw [hy] at h; cases h)
   | map | tb | buf | gone => exact .ref c g off len v (by omega) (fun sz rows ex h => by rw [hy] at h; cases h) (fun sz rows ex h => by rw [hy] at h; cases h) hp (fun _ _ _ _ h => by rw [hy] at h; cases h)
   | sl sz g' rows' ex' =>
    rcases hst with ⟨rows, ex, h1, h2, h3⟩ | ⟨sz0, g0, rows0, ex0, h1, h2⟩
    ·refine .ref c g off len v (by omega) (fun sz2 rows2 ex2 h => ?_) (fun sz2 rows2 ex2 h => by rw [hy] at h; cases h) hp (fun _ _ _ _ h => by rw [hy] at h; cases h; exact hg _ _ _ _ h1)
     rw [hy] at h; cases h
     exact (hs _ _ _ h1).step h2 h3
    ·have hle := hg _ _ _ _ h1
     exact .ref c g off len v (by omega) (fun sz2 rows2 ex2 h => by rw [hy] at h; cases h; omega) (fun sz2 rows2 ex2 h => by rw [hy] at h; cases h) hp (fun _ _ _ _ h => by rw [hy] at h; cases h; omega)
   | fz sz g' rows' ex' =>
    rcases hst with h1 | h1
    ·refine .ref c g off len v (by omega) (fun sz2 rows2 ex2 h => by rw [hy] at h; cases h) (fun sz2 rows2 ex2 h => ?_) hp (fun _ _ _ _ h => by rw [hy] at h; cases h)
     rw [hy] at h; cases h
     exact ⟨(hf _ _ _ h1).1, (hf _ _ _ h1).2.mono hI⟩
    ·by_cases hgg : g' = g
     ·subst hgg; exact h1 _ _ (.inl ⟨off, len, rfl⟩) (.ref c g' off len v hcl hs hf hp hg)
     ·exact .ref c g off len v (by omega) (fun sz2 rows2 ex2 h => by rw [hy] at h; cases h) (fun sz2 rows2 ex2 h => by rw [hy] at h; cases h; exact absurd rfl hgg) hp (fun _ _ _ _ h => by rw [hy] at h; cases h)
  ·have hn : H'[c]? = none := by cases h : H'[c]? with | none => rfl | some y => exact absurd ⟨y, h⟩ hex
   exact .ref c g off len v (by omega) (fun sz rows ex h => by rw [hn] at h; cases h) (fun sz rows ex h => by rw [hn] at h; cases h) hp (fun _ _ _ _ h => by rw [hn] at h; cases h)
 | ptr c g r k v hcl hb hs hf hi hp hg =>
  have hcs := hc c hcl
  by_cases hex : ∃ y, H'[c]? = some y
  ·obtain ⟨y, hy⟩ := hex
   have hst := hcs y hy
   cases y with
   | box cells' =>
    rcases hst with ⟨cells, h1, h2⟩ | ⟨rows, ex, h1, h2⟩
    ·refine .ptr c g r k v (by omega) (fun x h => ?_) (fun _ _ _ h => by rw [hy] at h; cases h) (fun _ _ _ _ h => by rw [hy] at h; cases h) (fun _ _ h => by rw [hy] at h; cases h) hp (fun _ _ _ _ h => by rw [hy] at h; cases h)
     rw [h2]; exact hb _ h1
    ·exfalso
     have h3 := hg _ _ _ _ h1
     obtain rfl : g = 0 := by omega
     obtain ⟨b, n, h4, _⟩ := hs _ _ _ h1
     rw [h2] at h4; cases h4
   | iter s p =>
    obtain ⟨s0, p0, h1, h2⟩ := hst
    refine .ptr c g r k v (by omega) (fun _ h => by rw [hy] at h; cases h) (fun _ _ _ h => by rw [hy] at h; cases h) (fun _ _ _ _ h => by rw [hy] at h; cases h) (fun _ _ h => ?_) hp (fun _ _ _ _ h => by rw [hy] at h; cases h)
    rw [h2]; exact hi _ _ h1
   | map | tb | buf | gone => exact .ptr c g r k v (by omega) (fun _ h => by rw [hy] at h; cases h) (fun _ _ _ h => by rw [hy] at h; cases h) (fun _ _ _ _ h => by rw [hy] at h; cases h) (fun _ _ h => by rw [hy] at h; cases h) hp (fun _ _ _ _ h => by rw [hy] at h; cases h)
   | sl sz g' rows' ex' =>
    rcases hst with ⟨rows, ex, h1, h2, h3⟩ | ⟨sz0, g0, rows0, ex0, h1, h2⟩
    ·refine .ptr c g r k v (by omega) (fun _ h => by rw [hy] at h; cases h) (fun sz2 rows2 ex2 h => ?_) (fun _ _ _ _ h => by rw [hy] at h; cases h) (fun _ _ h => by rw [hy] at h; cases h) hp (fun _ _ _ _ h => by rw [hy] at h; cases h; exact hg _ _ _ _ h1)
     rw [hy] at h; cases h
     rw [h2]; exact hs _ _ _ h1
    ·have hle := hg _ _ _ _ h1
     exact .ptr c g r k v (by omega) (fun _ h => by rw [hy] at h; cases h) (fun sz2 rows2 ex2 h => by rw [hy] at h; cases h; omega) (fun _ _ _ _ h => by rw [hy] at h; cases h) (fun _ _ h => by rw [hy] at h; cases h) hp (fun _ _ _ _ h => by rw [hy] at h; cases h; omega)
   | fz sz g' rows' ex' =>
    rcases hst with h1 | h1
    ·refine .ptr c g r k v (by omega) (fun _ h => by rw [hy] at h; cases h) (fun _ _ _ h => by rw [hy] at h; cases h) (fun sz2 rows2 ex2 row h h' => ?_) (fun _ _ h => by rw [hy] at h; cases h) hp (fun _ _ _ _ h => by rw [hy] at h; cases h)
     rw [hy] at h; cases h
     exact (hf _ _ _ _ h1 h').mono hI
    ·by_cases hgg : g' = g
     ·subst hgg; exact h1 _ _ (.inr ⟨r, k, rfl⟩) (.ptr c g' r k v hcl hb hs hf hi hp hg)
     ·exact .ptr c g r k v (by omega) (fun _ h => by rw [hy] at h; cases h) (fun _ _ _ h => by rw [hy] at h; cases h) (fun sz2 rows2 ex2 row h => by rw [hy] at h; cases h; exact absurd rfl hgg) (fun _ _ h => by rw [hy] at h; cases h) hp (fun _ _ _ _ h => by rw [hy] at h; cases h)
  ·have hn : H'[c]? = none := by cases h : H'[c]? with | none => rfl | some y => exact absurd ⟨y, h⟩ hex
   exact .ptr c g r k v (by omega) (fun _ h => by rw [hn] at h; cases h) (fun _ _ _ h => by rw [hn] at h; cases h) (fun _ _ _ _ h => by rw [hn] at h; cases h) (fun _ _ h => by rw [hn] at h; cases h) hp (fun _ _ _ _ h => by rw [hn] at h; cases h)

theorem CStep.same {I η H I' η' H' c} (h1 : H'[c]? = H[c]?) (h2 : η' c = η c) : CStep I η H I' η' H' c := by
 intro y hy
 rw [h1] at hy
 cases y with
 | box cells => exact .inl ⟨cells, hy, h2⟩
 | iter s p => exact ⟨s, p, hy, h2⟩
 | map es => exact ⟨es, hy, h2⟩
 | tb t cells => exact ⟨t, cells, hy, h2⟩
 | buf t l => exact ⟨t, l, hy, h2, rfl⟩
 | gone => trivial
 | sl sz g rows ex => exact .inl ⟨rows, ex, hy, h2, rfl⟩
 | fz sz g rows ex => exact .inl hy

def FrOK (I : Imm) (η : Eta) (H : Hp) (fr : Fr) (tmps : Array Value) : Prop := ∀ k, RelA I η H (get k fr) (tmps.getD k undef)
theorem FrOK.mono {I η H I' η' H' fr tmps} (h : FrOK I η H fr tmps) (m : Mono I η H I' η' H') : FrOK I' η' H' fr tmps := fun k => m _ _ (h k)
theorem FrOK.put {I η H fr} {a : Act} (h : FrOK I η H fr a.tmps) {v : AV} {x : Value} (r : RelA I η H v x) (d : Option Nat) (hd : ∀ k, d = some k → k < a.tmps.size) :
  FrOK I η H (putD d v fr) (a.put d x).tmps := by
 cases d with
 | none => exact h
 | some d =>
  intro k
  have hlt := hd d rfl
  by_cases hk : k = d
  ·subst hk
   simp only [putD, get, Act.put, if_true]
   simpa [hlt] using r
  ·simp only [putD, get, Act.put, hk, if_false]
   have := h k
   simpa [Ne.symm hk] using this
theorem FrOK.normed {I η H fr tmps} (h : FrOK I η H fr tmps) (l : List Nat) : FrOK I η H (norm l fr) tmps := by
 intro k
 have key : ∀ l : List Nat, get k (norm l fr) = get k fr ∨ get k (norm l fr) = .dead := by
  intro l
  induction l with
  | nil => exact .inr rfl
  | cons x l ih =>
   simp only [VI.norm, List.map_cons, get]
   by_cases hx : k = x
   ·subst hx; simp
   ·simp only [hx, if_false]; exact ih
 rcases key l with e | e <;> rw [e]
 ·exact h k
 ·exact .dead _

theorem relA_undef (I η H) : RelA I η H (.tup []) undef := .tup [] #[] rfl (fun k a h => by simp at h)
end Go.VI

set_option linter.unusedSimpArgs false
set_option linter.unusedVariables false
namespace Go.VI

section
variable {E : Env} {I : Imm} {η : Eta} {H : Hp} {w : World}

theorem relA_i {x : IV} {y : Value} (h : RelA I η H (.i x) y) : RelI I x y := by cases h; assumption
theorem relA_v {x y : Value} (h : RelA I η H (.i (.v x)) y) : y = x := by cases relA_i h; rfl
theorem relA_str {l : List UInt8} {y : Value} (h : RelA I η H (.i (.str l)) y) : y = .string ⟨⟨l⟩⟩ := by cases relA_i h; rfl
theorem relA_int {k : IntKind} {n : Int} : RelA I η H (.int k n) (.int k n) := .i _ _ (.v _ rfl)
theorem relA_bool {b : Bool} : RelA I η H (.bool b) (.bool b) := .i _ _ (.v _ rfl)
theorem relA_mkstr {l : List UInt8} : RelA I η H (.str l) (.string ⟨⟨l⟩⟩) := .i _ _ (.str _)
theorem relA_agg {cells : List AV} {y : Value} (h : RelA I η H (.agg cells) y) :
  ∃ cs : Array Value, y = .agg cs ∧ cs.size = cells.length ∧ ∀ (k : Nat) (a : AV), cells[k]? = some a → RelA I η H a (cs.getD k undef) := by
 cases h; rename_i cs hl h; exact ⟨cs, rfl, hl, h⟩
theorem relA_tup {cells : List AV} {y : Value} (h : RelA I η H (.tup cells) y) :
  ∃ cs : Array Value, y = .tuple cs ∧ cs.size = cells.length ∧ ∀ (k : Nat) (a : AV), cells[k]? = some a → RelA I η H a (cs.getD k undef) := by
 cases h; rename_i cs hl h; exact ⟨cs, rfl, hl, h⟩

theorem one_ok {a : AV} {y : Value} (h : RelA I η H a y) (ho : one a = true) : y.oneCell' = true := by
 cases h with
 | dead => simp [one] at ho
 | i x v h => cases h with
  | v _ h => exact h
  | _ => rfl
 | agg => simp [one] at ho
 | ref c g off len v hc hs hf hp hg => obtain ⟨a, m, rfl⟩ := hp; rfl
 | ptr c g r k v hc hb hs hf hi hp hg => obtain ⟨a, rfl⟩ := hp; rfl
 | mref c v hc hm ht hu hp hz => exact hp
 | clo => rfl
 | tup => simp [one] at ho

theorem relA_cellOf (v : Value) : RelA I η H (cellOf v) v := by
 unfold cellOf
 split
 ·rename_i b
  obtain ⟨⟨l⟩⟩ := b
  exact .i _ _ (.str l)
 ·exact .i _ _ (.nil 0 true none 0 (fun _ => rfl))
 ·exact .dead _
 ·exact .dead _
 ·rename_i h1 h2
  refine .i _ _ (.v _ ?_)
  cases v <;> first | rfl | exact absurd rfl (h1 _) | exact absurd rfl (h2 _)

theorem getD_eq (cs : Array Value) (k : Nat) (h : k < cs.size) : cs[k]? = some (cs.getD k undef) := by
 simp [h]

theorem relA_ofVal (v : Value) : RelA I η H (ofVal v) v := by
 unfold ofVal
 split
 ·rename_i cs
  refine .agg _ _ (by simp) fun k a h => ?_
  simp only [List.getElem?_map, Array.getElem?_toList, Option.map_eq_some_iff] at h
  obtain ⟨x, hx, rfl⟩ := h
  have : cs.getD k undef = x := by simp [Array.getD_eq_getD_getElem?, hx]
  rw [this]; exact relA_cellOf x
 ·exact relA_cellOf _

theorem opd_ok {fr : Fr} {a : Act} (hC : Conc E I η H w) (hf : FrOK I η H fr a.tmps) (x : Operand) : RelA I η H (opd E fr x) (a.eval x) := by
 cases x with
 | tmp t => exact hf t
 | const v => exact relA_ofVal v
 | func f => exact .clo _ _ _ #[] #[] rfl rfl (fun k a h => by simp at h) (fun k a h => by simp at h)
 | global g =>
  simp only [opd, Act.eval]
  cases h : E.glob g with
  | none => exact .dead _
  | some cells => exact .i _ _ (hC.glob _ _ h).1

theorem szO_ok {P : Program} {t n} (h : szO P t = some n) (w : World) : (sizeOf t).run P w = .ok n w ∧ ∃ i, P.info? t = some i ∧ i.size = n := by
 simp only [szO, Option.map_eq_some_iff] at h
 obtain ⟨i, hi, rfl⟩ := h
 exact ⟨by rw [run_sizeOf (i := i) w hi]; simp [Program.cellsOf, hi], i, hi, rfl⟩
theorem aggO_ok {P : Program} {t b} (h : aggO P t = some b) (w : World) : (isAgg t).run P w = .ok b w := by
 simp only [aggO, Option.map_eq_some_iff] at h
 obtain ⟨d, hd, rfl⟩ := h
 simp only [isAgg, Sem.run_bind, run_underlying hd, Result.andThen_ok]
 cases d <;> rfl
theorem slO_ok {P : Program} {t e} (h : slO P t = some e) : P.underlying t = some (.slice e) := by
 unfold slO at h; split at h <;> simp_all
theorem arrO_ok {P : Program} {t n e} (h : arrO P t = some (n, e)) : P.underlying t = some (.array n e) := by
 unfold arrO at h; split at h <;> simp_all
theorem isStrO_ok {P : Program} {t} (h : isStrO P t = true) : P.underlying t = some .string := by
 unfold isStrO at h; split at h <;> simp_all
theorem kindO_ok {P : Program} {t k} (h : kindO P t = some k) : P.underlying t = some (.int k) := by
 unfold kindO at h; split at h <;> simp_all
theorem fldO_ok {P : Program} {t f off ty} (h : fldO P t f = some (off, ty)) : ∃ fs x, P.underlying t = some (.struct fs) ∧ fs[f]? = some x ∧ x.offset = off ∧ x.type = ty := by
 unfold fldO at h
 split at h
 ·rename_i fs hu
  simp only [Option.map_eq_some_iff, Prod.mk.injEq] at h
  obtain ⟨x, hx, h1, h2⟩ := h
  exact ⟨fs, x, hu, hx, h1, h2⟩
 ·cases h

theorem add_none (b o n : Nat) : (⟨b, o, none⟩ : Addr).add n = ⟨b, o + n, none⟩ := by
 unfold Addr.add; split <;> simp_all
theorem cell_of {b : Nat} {cs : Array Value} {e : TypeId} {fz : Nat × Nat} (h : w.heap[b]? = some (.cells cs e fz)) (o : Nat) : w.cell? ⟨b, o, none⟩ = cs[o]? := by
 simp [World.cell?, h]

theorem behind_ok (hC : Conc E I η H w) {p : AV} {y : Value} (h : RelA I η H p y) {cells : List AV} {k : Nat} (hb : behind H p = some (cells, k)) :
  ∃ b base, y = .pointer (some ⟨b, base + k, none⟩) ∧ ∀ (j : Nat) (c : AV), cells[j]? = some c → ∃ cv, w.cell? ⟨b, base + j, none⟩ = some cv ∧ RelA I η H c cv := by
 have hpt : ∀ (cl : List IV) (o : Nat), RelI I (.pt cl o) y → ∃ b base, y = .pointer (some ⟨b, base + o, none⟩) ∧ ∀ (j : Nat) (c : AV), (ivs cl)[j]? = some c → ∃ cv, w.cell? ⟨b, base + j, none⟩ = some cv ∧ RelA I η H c cv := by
  intro cl o hr
  cases hr with
  | pt cells o b off cs elem fz cv hI h1 h2 =>
   refine ⟨b, off, rfl, fun j c hj => ?_⟩
   simp only [ivs, List.getElem?_map, Option.map_eq_some_iff] at hj
   obtain ⟨a, ha, rfl⟩ := hj
   exact ⟨cv j, by rw [cell_of (hC.imm _ _ hI)]; exact h1 _ _ ha, .i _ _ (h2 _ _ ha)⟩
 unfold behind at hb
 split at hb
 ·cases hb; exact hpt _ _ (relA_i h)
 ·rename_i c g r k'
  cases h with
  | ptr c g r k v hc hbx hsl hfz hit hp =>
   split at hb
   ·rename_i cells' hH
    cases hb
    obtain ⟨b, n, hη, rfl⟩ := hbx _ hH
    obtain ⟨b', cs, elem, fz, hη', hw, _, hsz, hcell⟩ := hC.ch _ _ hH
    rw [hη] at hη'; cases hη'
    refine ⟨b, 0, by simp, fun j c hj => ?_⟩
    have hlt : j < cs.size := by rw [hsz]; exact (List.getElem?_eq_some_iff.1 hj).1
    exact ⟨cs.getD j undef, by rw [cell_of hw, Nat.zero_add]; exact getD_eq cs j hlt, hcell _ _ hj⟩
   ·rename_i sz g' rows ex hH
    split at hb
    ·rename_i hg
     subst hg
     split at hb
     ·rename_i row hrow
      cases hb
      obtain ⟨b, n, hη, rfl⟩ := hsl _ _ _ hH
      obtain ⟨hz, hlen, hbk⟩ := hC.ch _ _ hH
      rcases hbk with ⟨hn, _⟩ | ⟨b', cs, elem, fz, hη', hw, _, hsz, _, hcell⟩
      ·rw [hη] at hn; cases hn
      ·rw [hη] at hη'; cases hη'
       refine ⟨b, r * sz, rfl, fun j c hj => ?_⟩
       simp only [ivs, List.getElem?_map, Option.map_eq_some_iff] at hj
       obtain ⟨a, ha, rfl⟩ := hj
       have hrl := hlen _ _ hrow
       have hj' := (List.getElem?_eq_some_iff.1 ha).1
       have hr' := (List.getElem?_eq_some_iff.1 hrow).1
       have hlt : r * sz + j < cs.size := by
        have : (r + 1) * sz ≤ rows.length * sz := Nat.mul_le_mul_right _ hr'
        rw [Nat.add_mul] at this; omega
       exact ⟨cs.getD (r * sz + j) undef, by rw [cell_of hw]; exact getD_eq _ _ hlt, .i _ _ (hcell _ _ _ _ hrow ha)⟩
     ·cases hb
    ·cases hb
   ·rename_i sz g' rows ex hH
    split at hb
    ·rename_i hg
     subst hg
     split at hb
     ·rename_i row hrow
      cases hb
      exact hpt _ _ (hfz _ _ _ _ hH hrow)
     ·cases hb
    ·cases hb
   ·cases hb
 ·cases hb

theorem take_get {l m : List AV} {k n : Nat} (h : take l k n = some m) : m.length = n ∧ ∀ j, j < n → ∃ a, m[j]? = some a ∧ l[k + j]? = some a := by
 unfold take at h
 split at h
 ·rename_i hle
  cases h
  refine ⟨by simp; omega, fun j hj => ?_⟩
  have hlt : k + j < l.length := by omega
  exact ⟨l[k + j], by simp [List.getElem?_take, hj, List.getElem?_drop, hlt], by simp [hlt]⟩
 ·cases h

theorem load_ok (hC : Conc E I η H w) {p : AV} {y : Value} (h : RelA I η H p y) {t : TypeId} {v : AV} (hl : loadE E H t p = some v) :
  ∃ x, (Instr.loadAt t y).run E.P w = .ok x w ∧ RelA I η H v x := by
 unfold loadE at hl
 split at hl
 ·rename_i cells k n hb ha hs
  obtain ⟨b, base, rfl, hcell⟩ := behind_ok hC h hb
  simp only [Option.map_eq_some_iff] at hl
  obtain ⟨m, hm, rfl⟩ := hl
  obtain ⟨hml, hmg⟩ := take_get hm
  have hrun : (loadCells ⟨b, base + k, none⟩ n).run E.P w = .ok ((List.range n).map fun j => (w.cell? ⟨b, base + k + j, none⟩).getD undef).toArray w := by
   refine run_loadCells w _ n _ fun j hj => ?_
   obtain ⟨a, _, h2⟩ := hmg j hj
   obtain ⟨cv, h3, _⟩ := hcell _ _ h2
   rw [add_none, show base + k + j = base + (k + j) by omega, h3]; rfl
  refine ⟨.agg ((List.range n).map fun j => (w.cell? ⟨b, base + k + j, none⟩).getD undef).toArray, ?_, ?_⟩
  ·simp only [Instr.loadAt, Instr.sureAddr, loadVar, Sem.run_bind, Sem.run_pure, Result.andThen_ok, aggO_ok ha, if_true, (szO_ok hs w).1, hrun, Sem.run_ite]
  ·refine .agg _ _ (by simp [hml]) fun j a hj => ?_
   have hjn : j < n := by rw [← hml]; exact (List.getElem?_eq_some_iff.1 hj).1
   obtain ⟨a', h1, h2⟩ := hmg j hjn
   rw [hj] at h1; cases h1
   obtain ⟨cv, h3, h4⟩ := hcell _ _ h2
   have : ((List.range n).map fun j => (w.cell? ⟨b, base + k + j, none⟩).getD undef).toArray.getD j undef = cv := by
    simp [Array.getD_eq_getD_getElem?, hjn, show base + k + j = base + (k + j) by omega, h3]
   rw [this]; exact h4
 ·rename_i cells k n hb ha hs
  obtain ⟨b, base, rfl, hcell⟩ := behind_ok hC h hb
  obtain ⟨cv, h3, h4⟩ := hcell _ _ hl
  refine ⟨cv, ?_, h4⟩
  simp [Instr.loadAt, Instr.sureAddr, loadVar, aggO_ok ha, h3]
 ·cases hl

theorem bool_prop (p : Prop) [Decidable p] (b : Bool) (h : b = decide p) : RelA I η H (.bool (decide p)) (.bool b) := by rw [h]; exact relA_bool

theorem bits_ok {op : BinOp} {k : IntKind} {a b r : Int} (h : bitsE op k a b = some r) (P : Program) : (Op.intBits op k a b).run P w = .ok (.int k r) w := by
 cases op <;> simp_all [bitsE, Op.intBits]

theorem intE_ok {op : BinOp} {k k' : IntKind} {a b : Int} {v : AV} (h : intE op k a k' b = some v) (t : TypeId) (P : Program) :
  ∃ x, (binOp op t (.int k a) (.int k' b)).run P w = .ok x w ∧ RelA I η H v x := by
 unfold intE at h
 split at h
 ·split at h
  ·rename_i hb; cases h
   exact ⟨_, by simp [binOp, Op.shift, show ¬ b < 0 by omega], relA_int⟩
  ·cases h
 ·split at h
  ·rename_i hb; cases h
   exact ⟨_, by simp [binOp, Op.shift, show ¬ b < 0 by omega], relA_int⟩
  ·cases h
 ·split at h
  ·rename_i hk
   subst hk
   split at h
   ·cases h; exact ⟨_, by simp [binOp, Op.intArith], relA_int⟩
   ·cases h; exact ⟨_, by simp [binOp, Op.intArith], relA_int⟩
   ·cases h; exact ⟨_, by simp [binOp, Op.intArith], relA_int⟩
   ·split at h
    ·cases h
    ·rename_i hb; cases h; exact ⟨_, by simp [binOp, Op.intDiv, hb], relA_int⟩
   ·split at h
    ·cases h
    ·rename_i hb; cases h; exact ⟨_, by simp [binOp, Op.intDiv, hb], relA_int⟩
   ·cases h; exact ⟨_, by simp [binOp, Op.intCmp]; rfl, bool_prop _ _ rfl⟩
   ·cases h; exact ⟨.bool (a != b), by simp [binOp, Op.intCmp], by
     have : (!decide (a = b)) = (a != b) := rfl
     rw [this]; exact relA_bool⟩
   ·cases h; exact ⟨_, by simp [binOp, Op.intCmp]; rfl, bool_prop _ _ (by rfl)⟩
   ·cases h; exact ⟨_, by simp [binOp, Op.intCmp]; rfl, bool_prop _ _ (by rfl)⟩
   ·cases h; exact ⟨_, by simp [binOp, Op.intCmp]; rfl, bool_prop _ _ (by rfl)⟩
   ·cases h; exact ⟨_, by simp [binOp, Op.intCmp]; rfl, bool_prop _ _ (by rfl)⟩
   all_goals first
    | (simp only [Option.map_eq_some_iff] at h; obtain ⟨r, hr, rfl⟩ := h; exact ⟨_, by simp [binOp]; exact bits_ok hr P, relA_int⟩)
    | cases h
  ·cases h

theorem toList_mk (l : List UInt8) : (⟨⟨l⟩⟩ : ByteArray).toList = l := by
 rw [ByteArray.toList_eq]
theorem size_mk (l : List UInt8) : (⟨⟨l⟩⟩ : ByteArray).size = l.length := rfl
theorem append_mk (a b : List UInt8) : (⟨⟨a⟩⟩ : ByteArray) ++ ⟨⟨b⟩⟩ = ⟨⟨a ++ b⟩⟩ := by
 apply ByteArray.ext; simp
theorem strE_ok {op : BinOp} {a b : List UInt8} {v : AV} (h : strE op a b = some v) (t : TypeId) (P : Program) :
  ∃ x, (binOp op t (.string ⟨⟨a⟩⟩) (.string ⟨⟨b⟩⟩)).run P w = .ok x w ∧ RelA I η H v x := by
 unfold strE at h
 split at h
 ·split at h
  ·rename_i hl; cases h
   refine ⟨.string ⟨⟨a ++ b⟩⟩, ?_, relA_mkstr⟩
   have : ¬ ((a.length : Int) + b.length > IntKind.i64.max) := by
    have : IntKind.i64.max = 9223372036854775807 := by decide
    omega
   simp [binOp, Op.stringOp, size_mk, append_mk]
   omega
  ·cases h
 all_goals first
  | (simp only [Option.some.injEq] at h; subst h; exact ⟨.bool _, by simp [binOp, Op.stringOp, toList_mk], relA_bool⟩)
  | exact absurd h (by simp)

def LeafV : Leaf → Value → Prop
 | .int k, x => ∃ n, x = .int k n
 | .bool, x => ∃ b, x = .bool b
 | .str, x => ∃ s, x = .string s
def Kinds (l : List Leaf) (xs : Array Value) (off : Nat) : Prop := ∀ (k : Nat) (f : Leaf), l[k]? = some f → ∃ x, xs[off + k]? = some x ∧ LeafV f x
def SameFrom (xs ys : Array Value) (off n : Nat) : Prop := ∀ k, k < n → xs[off + k]? = ys[off + k]?
theorem SameFrom.split {xs ys : Array Value} {off n m : Nat} : SameFrom xs ys off (n + m) ↔ SameFrom xs ys off n ∧ SameFrom xs ys (off + n) m := by
 constructor
 ·intro h
  exact ⟨fun k hk => h k (by omega), fun k hk => by have := h (n + k) (by omega); rwa [show off + (n + k) = off + n + k by omega] at this⟩
 ·rintro ⟨h1, h2⟩ k hk
  by_cases hn : k < n
  ·exact h1 k hn
  ·have := h2 (k - n) (by omega); rwa [show off + n + (k - n) = off + k by omega] at this
theorem Kinds.split {l m : List Leaf} {xs : Array Value} {off : Nat} (h : Kinds (l ++ m) xs off) : Kinds l xs off ∧ Kinds m xs (off + l.length) := by
 constructor
 ·intro k f hf
  exact h k f (by rw [List.getElem?_append_left (List.getElem?_eq_some_iff.1 hf).1]; exact hf)
 ·intro k f hf
  have := h (l.length + k) f (by rw [List.getElem?_append_right (by omega)]; simpa using hf)
  rwa [show off + (l.length + k) = off + l.length + k by omega] at this
def ValAt (P : Program) (t : TypeId) (xs : Array Value) (off n : Nat) (x : Value) : Prop :=
 (aggO P t = some true ∧ ∃ cs : Array Value, x = .agg cs ∧ ∀ k, k < n → cs[k]? = xs[off + k]?) ∨ (aggO P t = some false ∧ n = 1 ∧ xs[off]? = some x)
theorem part_ok {P : Program} {t : TypeId} {l : List Leaf} {xs : Array Value} {off : Nat} {ag : Bool} (ha : aggO P t = some ag) (hz : szO P t = some l.length)
  (h1 : ag = false → l.length = 1) (hk : Kinds l xs off) : ∃ x, (part t xs off).run P w = .ok x w ∧ ValAt P t xs off l.length x := by
 cases ag with
 | true =>
  refine ⟨.agg (xs.extract off (off + l.length)), by simp [part, aggO_ok ha, (szO_ok hz w).1], .inl ⟨ha, _, rfl, fun k hk' => ?_⟩⟩
  obtain ⟨x, hx, _⟩ := hk k _ (List.getElem?_eq_getElem hk')
  have hlt := (Array.getElem?_eq_some_iff.1 hx).1
  rw [Array.getElem?_extract]; simp; omega
 | false =>
  have hl := h1 rfl
  obtain ⟨x, hx, _⟩ := hk 0 _ (List.getElem?_eq_getElem (by omega))
  exact ⟨x, by simp only [part, Sem.run_bind, aggO_ok ha, Result.andThen_ok]; simp at hx; simp [hx], .inr ⟨ha, hl, by simpa using hx⟩⟩
theorem leaves_agg {P : Program} {d : Nat} {t : TypeId} {l : List Leaf} (h : leaves P d t = some l) : ∃ ag, aggO P t = some ag ∧ (ag = false → l.length = 1) := by
 cases d with
 | zero => simp [leaves] at h
 | succ d =>
  simp only [leaves] at h
  cases hu : P.underlying t with
  | none => simp [hu] at h
  | some u =>
   simp only [hu] at h
   cases u <;> simp at h
   all_goals first
    | (subst h; exact ⟨false, by simp [aggO, hu], fun _ => rfl⟩)
    | exact ⟨true, by simp [aggO, hu], fun h => by cases h⟩
theorem fields_ok {P : Program} {d D : Nat} (ih : ∀ t l, leaves P d t = some l → ∀ (xs ys : Array Value) (ox oy : Nat) (x y : Value), Kinds l xs ox → Kinds l ys oy →
   ValAt P t xs ox l.length x → ValAt P t ys oy l.length y → ∃ r, (Op.equalIn D t x y).run P w = .ok r w ∧ (r = true ↔ ∀ k, k < l.length → xs[ox + k]? = ys[oy + k]?)) :
  ∀ (fs : List Field) (o : Nat) (l : List Leaf), leavesF P (leaves P d) o fs = some l → ∀ xs ys : Array Value, Kinds l xs o → Kinds l ys o →
   ∃ r, (Op.eqFields D xs ys fs).run P w = .ok r w ∧ (r = true ↔ SameFrom xs ys o l.length)
 | [], o, l, h, xs, ys, _, _ => by
  simp only [leavesF, Option.some.injEq] at h; subst h
  exact ⟨true, by simp [Op.eqFields], by simp [SameFrom]⟩
 | f :: fs, o, l, h, xs, ys, hx, hy => by
  simp only [leavesF] at h
  split at h
  ·rename_i l1 z hl1 hz
   split at h
   ·rename_i hc
    obtain ⟨h1, h2, h3⟩ := hc
    simp only [Option.map_eq_some_iff] at h
    obtain ⟨l2, hl2, rfl⟩ := h
    subst h1 h2
    obtain ⟨hx1, hx2⟩ := hx.split
    obtain ⟨hy1, hy2⟩ := hy.split
    obtain ⟨ag, ha, hag⟩ := leaves_agg hl1
    obtain ⟨x, hpx, hvx⟩ := part_ok (w := w) ha hz hag hx1
    obtain ⟨y, hpy, hvy⟩ := part_ok (w := w) ha hz hag hy1
    obtain ⟨r1, hr1, hi1⟩ := ih _ _ hl1 xs ys _ _ x y hx1 hy1 hvx hvy
    obtain ⟨r2, hr2, hi2⟩ := fields_ok ih fs _ l2 hl2 xs ys hx2 hy2
    have hi1' : r1 = true ↔ SameFrom xs ys f.offset l1.length := hi1
    simp only [Op.eqFields, h3, ne_eq, not_false_eq_true, if_true, Sem.run_bind, hpx, hpy, hr1, Result.andThen_ok, List.length_append, SameFrom.split]
    cases r1 with
    | true => exact ⟨r2, by simp [hr2], by rw [hi2]; simp [hi1'.1 rfl]⟩
    | false => exact ⟨false, by simp, by simp only [Bool.false_eq_true, false_iff]; exact fun h => by simpa using hi1'.2 h.1⟩
   ·cases h
  ·cases h
theorem items_ok {P : Program} {d D : Nat} {e : TypeId} {l : List Leaf} (hl : leaves P d e = some l) (hz : szO P e = some l.length) (hze : P.cellsOf e = l.length)
  (ih : ∀ (xs ys : Array Value) (ox oy : Nat) (x y : Value), Kinds l xs ox → Kinds l ys oy →
   ValAt P e xs ox l.length x → ValAt P e ys oy l.length y → ∃ r, (Op.equalIn D e x y).run P w = .ok r w ∧ (r = true ↔ ∀ k, k < l.length → xs[ox + k]? = ys[oy + k]?)) (xs ys : Array Value) :
  ∀ is : List Nat, (∀ i ∈ is, Kinds l xs (i * l.length) ∧ Kinds l ys (i * l.length)) →
   ∃ r, (Op.eqItems D e (P.cellsOf e) xs ys is).run P w = .ok r w ∧ (r = true ↔ ∀ i ∈ is, SameFrom xs ys (i * l.length) l.length)
 | [], _ => ⟨true, by simp [Op.eqItems], by simp⟩
 | i :: is, h => by
  obtain ⟨hx, hy⟩ := h i (by simp)
  obtain ⟨ag, ha, hag⟩ := leaves_agg hl
  obtain ⟨x, hpx, hvx⟩ := part_ok (w := w) ha hz hag hx
  obtain ⟨y, hpy, hvy⟩ := part_ok (w := w) ha hz hag hy
  obtain ⟨r1, hr1, hi1⟩ := ih xs ys _ _ x y hx hy hvx hvy
  obtain ⟨r2, hr2, hi2⟩ := items_ok hl hz hze ih xs ys is (fun j hj => h j (by simp [hj]))
  have hi1' : r1 = true ↔ SameFrom xs ys (i * l.length) l.length := hi1
  simp only [hze] at hr2
  simp only [Op.eqItems, hze, Sem.run_bind, hpx, hpy, hr1, Result.andThen_ok, List.forall_mem_cons]
  cases r1 with
  | true => exact ⟨r2, by simp [hr2], by rw [hi2]; simp [hi1'.1 rfl]⟩
  | false => exact ⟨false, by simp, by simp only [Bool.false_eq_true, false_iff]; exact fun h => by simpa using hi1'.2 h.1⟩
theorem flatten_get {α : Type} (l : List α) : ∀ (n i k : Nat), i < n → k < l.length → (List.replicate n l).flatten[i * l.length + k]? = l[k]?
 | 0, _, _, h, _ => by omega
 | n + 1, 0, k, _, hk => by simp [List.replicate_succ, List.getElem?_append_left hk]
 | n + 1, i + 1, k, h, hk => by
  rw [List.replicate_succ, List.flatten_cons, List.getElem?_append_right (by rw [Nat.add_mul]; omega)]
  rw [← flatten_get l n i k (by omega) hk]
  congr 1; rw [Nat.add_mul]; omega
theorem eqIn_ok {P : Program} : ∀ (d : Nat) (t : TypeId) (l : List Leaf), leaves P d t = some l → ∀ D, d ≤ D → ∀ (xs ys : Array Value) (ox oy : Nat) (x y : Value), Kinds l xs ox → Kinds l ys oy →
  ValAt P t xs ox l.length x → ValAt P t ys oy l.length y →
   ∃ r, (Op.equalIn D t x y).run P w = .ok r w ∧ (r = true ↔ ∀ k, k < l.length → xs[ox + k]? = ys[oy + k]?)
 | 0, t, l, h => by simp [leaves] at h
 | d + 1, t, l, h => by
  intro D hD xs ys ox oy x y hx hy vx vy
  obtain ⟨D, rfl⟩ : ∃ D', D = D' + 1 := ⟨D - 1, by omega⟩
  have hag := leaves_agg h
  simp only [leaves] at h
  cases hu : P.underlying t with
  | none => simp [hu] at h
  | some u =>
   simp only [hu] at h
   have single : aggO P t = some false → l.length = 1 → (xs[ox]? = some x ∧ ys[oy]? = some y) := by
    intro ha hl
    rcases vx with ⟨h1, _⟩ | ⟨_, _, h1⟩
    ·rw [ha] at h1; cases h1
    ·rcases vy with ⟨h2, _⟩ | ⟨_, _, h2⟩
     ·rw [ha] at h2; cases h2
     ·exact ⟨h1, h2⟩
   cases u <;> simp at h
   case bool =>
    subst h
    obtain ⟨sx, sy⟩ := single (by simp [aggO, hu]) rfl
    obtain ⟨x', h1, a, rfl⟩ := hx 0 .bool rfl
    obtain ⟨y', h2, b, rfl⟩ := hy 0 .bool rfl
    simp only [Nat.add_zero] at h1 h2
    rw [sx] at h1; rw [sy] at h2; cases h1; cases h2
    refine ⟨a == b, run_equalIn_bool' w D t a b hu, ?_⟩
    simp [sx, sy]
   case int k =>
    subst h
    obtain ⟨sx, sy⟩ := single (by simp [aggO, hu]) rfl
    obtain ⟨x', h1, a, rfl⟩ := hx 0 _ rfl
    obtain ⟨y', h2, b, rfl⟩ := hy 0 _ rfl
    simp only [Nat.add_zero] at h1 h2
    rw [sx] at h1; rw [sy] at h2; cases h1; cases h2
    refine ⟨a == b, run_equalIn_int w D t k k a b hu, ?_⟩
    simp [sx, sy]
   case string =>
    subst h
    obtain ⟨sx, sy⟩ := single (by simp [aggO, hu]) rfl
    obtain ⟨x', h1, a, rfl⟩ := hx 0 .str rfl
    obtain ⟨y', h2, b, rfl⟩ := hy 0 .str rfl
    simp only [Nat.add_zero] at h1 h2
    rw [sx] at h1; rw [sy] at h2; cases h1; cases h2
    refine ⟨a.toList == b.toList, run_equalIn_string w D t a b hu, ?_⟩
    rw [ByteArray.toList_eq, ByteArray.toList_eq]
    obtain ⟨⟨a⟩⟩ := a
    obtain ⟨⟨b⟩⟩ := b
    simp [sx, sy]
   case array n e =>
    split at h
    ·rename_i l1 z hl1 hz
     split at h
     ·rename_i hlz
      subst hlz
      simp only [Option.some.injEq] at h
      subst h
      have hlen : (List.replicate n l1).flatten.length = n * l1.length := by simp
      rcases vx with ⟨_, cs, rfl, hcs⟩ | ⟨h1, _⟩
      case inr => simp [aggO, hu] at h1
      rcases vy with ⟨_, ds, rfl, hds⟩ | ⟨h1, _⟩
      case inr => simp [aggO, hu] at h1
      obtain ⟨i, hi, hisz⟩ := (szO_ok hz w).2
      have hce : P.cellsOf e = l1.length := by simp [Program.cellsOf, hi, hisz]
      rw [hlen] at hcs hds
      have kk : ∀ (zs : Array Value) (es : Array Value) (o : Nat), Kinds (List.replicate n l1).flatten zs o → (∀ k, k < n * l1.length → es[k]? = zs[o + k]?) → ∀ i, i < n → Kinds l1 es (i * l1.length) := by
       intro zs es o hk he i hi k f hf
       have hkl := (List.getElem?_eq_some_iff.1 hf).1
       have hlt : i * l1.length + k < n * l1.length := by
        have : (i + 1) * l1.length ≤ n * l1.length := Nat.mul_le_mul_right _ hi
        rw [Nat.add_mul] at this; omega
       obtain ⟨x, h1, h2⟩ := hk (i * l1.length + k) f (by rw [flatten_get l1 n i k hi hkl]; exact hf)
       exact ⟨x, by rw [he _ hlt]; exact h1, h2⟩
      obtain ⟨r, hr, hiff⟩ := items_ok (w := w) hl1 hz hce (eqIn_ok d e l1 hl1 D (by omega)) cs ds (List.range n)
       (fun i hi' => ⟨kk xs cs ox hx hcs i (by simpa using hi'), kk ys ds oy hy hds i (by simpa using hi')⟩)
      refine ⟨r, by rw [run_equalIn_array w D cs ds hu hi]; exact hr, ?_⟩
      rw [hiff, hlen]
      constructor
      ·intro hs k hk
       have hpos : 0 < l1.length := (Nat.eq_zero_or_pos l1.length).elim (fun h0 => by rw [h0] at hk; omega) id
       have hkn : k / l1.length < n := (Nat.div_lt_iff_lt_mul hpos).2 hk
       have := hs (k / l1.length) (by simpa using hkn) (k % l1.length) (Nat.mod_lt _ hpos)
       have hdm : k / l1.length * l1.length + k % l1.length = k := by rw [Nat.mul_comm]; exact Nat.div_add_mod _ _
       rw [hdm, hcs k hk, hds k hk] at this; exact this
      ·intro hs i hi' k hk
       have hlt : i * l1.length + k < n * l1.length := by
        have hin : i < n := by simpa using hi'
        have : (i + 1) * l1.length ≤ n * l1.length := Nat.mul_le_mul_right _ hin
        rw [Nat.add_mul] at this; omega
       rw [hcs _ hlt, hds _ hlt]; exact hs _ hlt
     ·cases h
    ·cases h
   case struct fs =>
    obtain ⟨hst, h⟩ := h
    rcases vx with ⟨_, cs, rfl, hcs⟩ | ⟨h1, _⟩
    case inr => simp [aggO, hu] at h1
    rcases vy with ⟨_, ds, rfl, hds⟩ | ⟨h1, _⟩
    case inr => simp [aggO, hu] at h1
    have kk : ∀ (zs es : Array Value) (o : Nat), Kinds l zs o → (∀ k, k < l.length → es[k]? = zs[o + k]?) → Kinds l es 0 := by
     intro zs es o hk he k f hf
     obtain ⟨x, h1, h2⟩ := hk k f hf
     exact ⟨x, by rw [Nat.zero_add, he _ (List.getElem?_eq_some_iff.1 hf).1]; exact h1, h2⟩
    have hfo : P.fieldsOf t = fs := by simp [Program.fieldsOf, hu]
    obtain ⟨r, hr, hiff⟩ := fields_ok (w := w) (D := D) (fun t l hl => eqIn_ok d t l hl D (by omega)) fs.toList 0 l h cs ds (kk _ _ _ hx hcs) (kk _ _ _ hy hds)
    refine ⟨r, by rw [run_equalIn_struct w D t cs ds (by rw [hfo]; exact hu) hst, hfo]; exact hr, ?_⟩
    rw [hiff]
    constructor
    ·intro hs k hk; have := hs k hk; rw [Nat.zero_add, hcs k hk, hds k hk] at this; exact this
    ·intro hs k hk; rw [Nat.zero_add, hcs k hk, hds k hk]; exact hs k hk
theorem leavesOk_kinds {l : List Leaf} : ∀ {as0 : List AV}, leavesOk l as0 = true → as0.length = l.length ∧ ∀ (k : Nat) (f : Leaf), l[k]? = some f → ∃ a, as0[k]? = some a ∧ leafOk f a = true := by
 induction l with
 | nil => intro as0 h; cases as0 <;> simp_all [leavesOk]
 | cons f l ih =>
  intro as0 h
  cases as0 with
  | nil => simp [leavesOk] at h
  | cons a as0 =>
   simp only [leavesOk, Bool.and_eq_true] at h
   obtain ⟨h1, h2⟩ := ih h.2
   refine ⟨by simp [h1], fun k g hg => ?_⟩
   cases k with
   | zero => simp at hg; subst hg; exact ⟨a, rfl, h.1⟩
   | succ k => simpa using h2 k g (by simpa using hg)
theorem leaf_val {f : Leaf} {a : AV} {x : Value} (h : leafOk f a = true) (r : RelA I η H a x) : LeafV f x := by
 unfold leafOk at h
 split at h
 ·rw [relA_v r]; simp at h; subst h; exact ⟨_, rfl⟩
 ·rw [relA_v r]; exact ⟨_, rfl⟩
 ·rw [relA_str r]; exact ⟨_, rfl⟩
 ·cases h
theorem cellEq_val {a b : AV} {x y : Value} {r : Bool} (h : cellEq a b = some r) (ra : RelA I η H a x) (rb : RelA I η H b y) : r = true ↔ x = y := by
 unfold cellEq at h
 split at h
 ·split at h
  ·cases h; rw [relA_v ra, relA_v rb]; simp_all
  ·cases h
 ·cases h; rw [relA_v ra, relA_v rb]; simp
 ·cases h; rw [relA_str ra, relA_str rb]; simp
 ·cases h
theorem cellsEq_val : ∀ {as0 bs : List AV} {r : Bool}, cellsEq as0 bs = some r → ∀ (xs ys : Nat → Value), (∀ (k : Nat) (a : AV), as0[k]? = some a → RelA I η H a (xs k)) → (∀ (k : Nat) (b : AV), bs[k]? = some b → RelA I η H b (ys k)) →
  (r = true ↔ ∀ k, k < as0.length → xs k = ys k)
 | [], [], r, h, xs, ys, _, _ => by simp [cellsEq] at h; simp [← h]
 | [], _ :: _, r, h, xs, ys, _, _ => by simp [cellsEq] at h
 | _ :: _, [], r, h, xs, ys, _, _ => by simp [cellsEq] at h
 | a :: as0, b :: bs, r, h, xs, ys, ha, hb => by
  simp only [cellsEq] at h
  split at h
  ·rename_i r1 r2 h1 h2
   cases h
   have e1 := cellEq_val h1 (ha 0 a rfl) (hb 0 b rfl)
   have e2 := cellsEq_val h2 (fun k => xs (k + 1)) (fun k => ys (k + 1)) (fun k c hc => ha (k + 1) c (by simpa using hc)) (fun k c hc => hb (k + 1) c (by simpa using hc))
   rw [Bool.and_eq_true, e1, e2]
   constructor
   ·rintro ⟨h3, h4⟩ k hk
    cases k with
    | zero => exact h3
    | succ k => exact h4 k (by simpa using hk)
   ·intro h3; exact ⟨h3 0 (by simp), fun k hk => h3 (k + 1) (by simpa using hk)⟩
  ·cases h
theorem run_equalIn_ptr_nil {P : Program} (d : Nat) {t e : TypeId} (hu : P.underlying t = some (.pointer e)) (a : Option Addr) :
  (Op.equalIn (d + 1) t (.pointer a) (.pointer none)).run P w = .ok a.isNone w := by
 cases a <;> simp [Op.equalIn, run_underlying hu]
theorem eqGuard_ptr {P : Program} (op : BinOp) (t : TypeId) (o p : Operand) (a b : Option Addr) : (eqGuard op t o p (.pointer a) (.pointer b)).run P w = .ok () w := by cases op <;> simp [eqGuard]
theorem eqGuard_int {P : Program} (op : BinOp) (t : TypeId) (o p : Operand) (k k' : IntKind) (a b : Int) : (eqGuard op t o p (.int k a) (.int k' b)).run P w = .ok () w := by cases op <;> simp [eqGuard]
theorem eqGuard_str {P : Program} (op : BinOp) (t : TypeId) (o p : Operand) (a b : ByteArray) : (eqGuard op t o p (.string a) (.string b)).run P w = .ok () w := by cases op <;> simp [eqGuard]
theorem eqE_ok {P : Program} {t : TypeId} {a b : AV} {x y : Value} {r : Bool} (h : eqE P t a b = some r) (ra : RelA I η H a x) (rb : RelA I η H b y) :
  (Op.equal t x y).run P w = .ok r w ∧ ∀ (op : BinOp) (o p : Operand), (eqGuard op t o p x y).run P w = .ok () w := by
 unfold eqE at h
 split at h
 ·rename_i as0 bs
  split at h
  ·cases h
  ·rename_i hg
   split at h
   ·rename_i hag
    split at h
    ·rename_i l hl
     split at h
     ·rename_i hok
      obtain ⟨cs, rfl, hcl, hcr⟩ := relA_agg ra
      obtain ⟨ds, rfl, hdl, hdr⟩ := relA_agg rb
      obtain ⟨l1, k1⟩ := leavesOk_kinds hok.1
      obtain ⟨l2, k2⟩ := leavesOk_kinds hok.2
      have mk : ∀ (zs : List AV) (es : Array Value), es.size = zs.length → (∀ (k : Nat) (a : AV), zs[k]? = some a → RelA I η H a (es.getD k undef)) → (∀ (k : Nat) (f : Leaf), l[k]? = some f → ∃ a, zs[k]? = some a ∧ leafOk f a = true) → Kinds l es 0 := by
       intro zs es hs hr hk k f hf
       obtain ⟨a, h1, h2⟩ := hk k f hf
       refine ⟨es.getD k undef, ?_, leaf_val h2 (hr k a h1)⟩
       rw [Nat.zero_add]; exact getD_eq es k (by rw [hs]; exact (List.getElem?_eq_some_iff.1 h1).1)
      obtain ⟨r', hr', hiff⟩ := eqIn_ok (w := w) 9 t l hl 10000 (by omega) cs ds 0 0 (.agg cs) (.agg ds) (mk as0 cs hcl hcr k1) (mk bs ds hdl hdr k2)
       (.inl ⟨hag, cs, rfl, fun k _ => by simp⟩) (.inl ⟨hag, ds, rfl, fun k _ => by simp⟩)
      have e := cellsEq_val h (fun k => cs.getD k undef) (fun k => ds.getD k undef) hcr hdr
      have : r = r' := by
       rw [Bool.eq_iff_iff, e, hiff, l1]
       constructor
       ·intro hk k hkl
        rw [Nat.zero_add, getD_eq cs k (by omega), getD_eq ds k (by omega), hk k hkl]
       ·intro hk k hkl
        have := hk k hkl
        rw [Nat.zero_add, getD_eq cs k (by omega), getD_eq ds k (by omega)] at this
        exact Option.some.inj this
      rw [this]
      exact ⟨hr', fun op o p => run_eqGuard_agg w op t o p cs ds (by simpa [eqgO] using hg)⟩
     ·cases h
    ·cases h
   ·cases h
 ·split at h
  ·rename_i hu
   cases h
   rw [relA_v ra, relA_v rb]
   exact ⟨run_equalIn_bool' w 9999 t _ _ hu, fun op o p => by cases op <;> simp [eqGuard]⟩
  ·cases h
 ·split at h
  ·rename_i hu
   cases h
   rw [relA_v rb]
   cases ra with
   | ptr c g r k v hc hb hs hf hi hp hg =>
    obtain ⟨a, rfl⟩ := hp
    exact ⟨run_equalIn_ptr_nil 9999 hu (some a), fun op o p => eqGuard_ptr ..⟩
  ·cases h
 ·split at h
  ·rename_i hu
   cases h
   rw [relA_v rb]
   cases relA_i ra with
   | pt => exact ⟨run_equalIn_ptr_nil 9999 hu (some _), fun op o p => eqGuard_ptr ..⟩
  ·cases h
 ·split at h
  ·rename_i hu
   cases h
   rw [relA_v ra, relA_v rb]
   exact ⟨run_equalIn_ptr_nil 9999 hu none, fun op o p => eqGuard_ptr ..⟩
  ·cases h
 ·cases h

theorem binOp_eq {P : Program} {t : TypeId} {a b : AV} {x y : Value} {r : Bool} (h : eqE P t a b = some r) (ra : RelA I η H a x) (rb : RelA I η H b y) :
  (binOp .eql t x y).run P w = .ok (.bool r) w ∧ (binOp .neq t x y).run P w = .ok (.bool (!r)) w := by
 have h1 := (eqE_ok (w := w) h ra rb).1
 unfold eqE at h
 split at h
 ·obtain ⟨cs, rfl, _⟩ := relA_agg ra
  obtain ⟨ds, rfl, _⟩ := relA_agg rb
  exact ⟨by simp [binOp, h1], by simp [binOp, h1]⟩
 ·rw [relA_v ra, relA_v rb] at h1 ⊢
  exact ⟨by simp [binOp, h1], by simp [binOp, h1]⟩
 ·rw [relA_v rb] at h1 ⊢
  cases ra with
  | ptr c g r k v hc hb hs hf hi hp hg =>
   obtain ⟨a, rfl⟩ := hp
   exact ⟨by simp [binOp, h1], by simp [binOp, h1]⟩
 ·rw [relA_v rb] at h1 ⊢
  cases relA_i ra with
  | pt => exact ⟨by simp [binOp, h1], by simp [binOp, h1]⟩
 ·rw [relA_v ra, relA_v rb] at h1 ⊢
  exact ⟨by simp [binOp, h1], by simp [binOp, h1]⟩
 ·cases h

theorem binE_ok {P : Program} {op : BinOp} {t : TypeId} {a b : AV} {x y : Value} {v : AV} (h : binE P op t a b = some v) (ra : RelA I η H a x) (rb : RelA I η H b y) (o p : Operand) :
  ∃ z, (do eqGuard op t o p x y; binOp op t x y : Sem Value).run P w = .ok z w ∧ RelA I η H v z := by
 unfold binE at h
 split at h
 ·rw [relA_v ra, relA_v rb]
  obtain ⟨z, h1, h2⟩ := intE_ok (I := I) (η := η) (H := H) (w := w) h t P
  refine ⟨z, ?_, h2⟩
  simp only [Sem.run_bind, eqGuard_int, Result.andThen_ok, h1]
 ·rw [relA_str ra, relA_str rb]
  obtain ⟨z, h1, h2⟩ := strE_ok (I := I) (η := η) (H := H) (w := w) h t P
  refine ⟨z, ?_, h2⟩
  simp only [Sem.run_bind, eqGuard_str, Result.andThen_ok, h1]
 ·split at h
  ·simp only [Option.map_eq_some_iff] at h
   obtain ⟨r, hr, rfl⟩ := h
   exact ⟨.bool r, by simp only [Sem.run_bind, (eqE_ok hr ra rb).2, Result.andThen_ok, (binOp_eq hr ra rb).1], relA_bool⟩
  ·simp only [Option.map_eq_some_iff] at h
   obtain ⟨r, hr, rfl⟩ := h
   exact ⟨.bool (!r), by simp only [Sem.run_bind, (eqE_ok hr ra rb).2, Result.andThen_ok, (binOp_eq hr ra rb).2], relA_bool⟩
  ·cases h

theorem unE_ok {P : Program} {op : UnOp} {a : AV} {x : Value} {v : AV} (h : unE op a = some v) (ra : RelA I η H a x) :
  ∃ z, (Op.unary op x).run P w = .ok z w ∧ RelA I η H v z := by
 unfold unE at h
 split at h
 ·cases h; rw [relA_v ra]; exact ⟨_, by simp [Op.unary, Op.intArith], relA_int⟩
 ·simp only [Option.map_eq_some_iff] at h
  obtain ⟨r, hr, rfl⟩ := h
  rw [relA_v ra]; exact ⟨_, by simp only [Op.unary]; exact bits_ok hr P, relA_int⟩
 ·cases h; rw [relA_v ra]; exact ⟨_, by simp [Op.unary], relA_bool⟩
 ·cases h
end
end Go.VI

set_option linter.unusedSimpArgs false
set_option linter.unusedVariables false
namespace Go.VI
section
variable {E : Env} {I : Imm} {η : Eta} {H : Hp} {w : World}

theorem addPtr_ok {n : Nat} {x v : AV} {y : Value} (h : addPtr n x = some v) (r : RelA I η H x y) : ∃ a : Addr, y = .pointer (some a) ∧ RelA I η H v (.pointer (some (a.add n))) := by
 unfold addPtr at h
 split at h
 ·rename_i cells off
  cases h
  cases relA_i r with
  | pt cells o b off' cs elem fz cv hI h1 h2 =>
   refine ⟨_, rfl, ?_⟩
   rw [add_none, Nat.add_assoc]
   exact .i _ _ (.pt cells (off + n) b off' cs elem fz cv hI h1 h2)
 ·rename_i c g r' k
  cases h
  cases r with
  | ptr c g r k v hc hb hs hf hi hp hg =>
   obtain ⟨a, rfl⟩ := hp
   refine ⟨a, rfl, .ptr c g r' (k + n) _ hc ?_ ?_ ?_ ?_ ⟨_, rfl⟩ hg⟩
   ·intro cells hH
    obtain ⟨b, m, h1, h2⟩ := hb _ hH
    cases h2
    exact ⟨b, m, h1, by rw [add_none]⟩
   ·intro sz rows ex hH
    obtain ⟨b, m, h1, h2⟩ := hs _ _ _ hH
    cases h2
    exact ⟨b, m, h1, by rw [add_none, Nat.add_assoc]⟩
   ·intro sz rows ex row hH hrow
    cases hf _ _ _ _ hH hrow with
    | pt cells o b off' cs elem fz cv hI h1 h2 =>
     rw [add_none, Nat.add_assoc]
     exact .pt row (k + n) b off' cs elem fz cv hI h1 h2
   ·intro s p hH
    obtain ⟨b, m, h1, h2⟩ := hi _ _ hH
    cases h2
    exact ⟨b, m, h1, by rw [add_none]⟩
 ·cases h

theorem field_ok {t f : Nat} {x v : AV} {y : Value} {off ty z : Nat} (hf : fldO E.P t f = some (off, ty)) (hz : szO E.P ty = some z) (hp : 0 < z)
  (h : addPtr off x = some v) (r : RelA I η H x y) : ∃ u, (Instr.fieldAt t y f).run E.P w = .ok u w ∧ RelA I η H v u := by
 obtain ⟨fs, fd, hu, hfd, rfl, rfl⟩ := fldO_ok hf
 obtain ⟨a, rfl, hr⟩ := addPtr_ok h r
 refine ⟨_, ?_, hr⟩
 have hz' : ¬ z = 0 := by omega
 simp [Instr.fieldAt, run_underlying hu, hfd, Instr.sureAddr, fieldPlace, (szO_ok hz w).1, hz']

theorem sl_row {sz : Nat} {rows : List (List IV)} {ex : Bool} {y : Value} (h : RelI I (.sl sz rows ex) y) {n : Nat} {row : List IV} (hr : rows[n]? = some row) :
  ∃ b off cap, y = .slice (some ⟨b, off, none⟩) rows.length cap ∧ RelI I (.pt row 0) (.pointer (some ⟨b, off + n * sz, none⟩)) := by
 cases h with
 | nil => simp at hr
 | sl sz rows ex b off cap cs elem fz cv hI hc hx hl h1 h2 =>
  refine ⟨b, off, cap, rfl, ?_⟩
  have := RelI.pt (I := I) row 0 b (off + n * sz) cs elem fz (cv n) hI (fun k a ha => h1 n row k a hr ha) (fun k a ha => h2 n row k a hr ha)
  simpa using this

theorem idxAddr_ok {t : TypeId} {x ix v : AV} {y j : Value} (h : idxAddrE E H t x ix = some v) (hC : Conc E I η H w) (r : RelA I η H x y) (rj : RelA I η H ix j) :
  ∃ u, (Instr.indexAt t y j).run E.P w = .ok u w ∧ RelA I η H v u := by
 unfold idxAddrE at h
 split at h
 ·rename_i k n
  rw [relA_v rj]
  split at h
  ·rename_i len e _ ha
   split at h
   ·rename_i z hz
    split at h
    ·rename_i hn
     obtain ⟨a, rfl, hr⟩ := addPtr_ok h r
     refine ⟨_, ?_, hr⟩
     simp [Instr.indexAt, asIntOf, run_underlying (arrO_ok ha), Instr.sureAddr, hn, (szO_ok hz w).1]
    ·cases h
   ·cases h
  ·rename_i e _ hs
   split at h
   ·rename_i z sz rows ex hz
    split at h
    ·rename_i hn
     obtain ⟨hn0, rfl⟩ := hn
     split at h
     ·rename_i row hrow
      cases h
      obtain ⟨b, off, cap, rfl, hp⟩ := sl_row (relA_i r) hrow
      have hlt : n < rows.length := by have := (List.getElem?_eq_some_iff.1 hrow).1; omega
      refine ⟨_, ?_, .i _ _ hp⟩
      simp [Instr.indexAt, asIntOf, run_underlying (slO_ok hs), hn0, hlt, (szO_ok hz w).1, add_none]
     ·cases h
    ·cases h
   ·rename_i z c g off len hz
    split at h
    ·rename_i sz g' rows ex hH
     split at h
     ·rename_i hn
      obtain ⟨hn0, hn1, rfl, rfl⟩ := hn
      cases h
      cases r with
      | ref c g off len v hc hs' hf hp hg =>
       obtain ⟨hle, a, cap, rfl, hbk⟩ := hs' _ _ _ hH
       rcases hbk with ⟨he, _⟩ | ⟨b, m, he, _, _, ha⟩
       ·exfalso
        obtain ⟨_, _, h3⟩ := hC.ch _ _ hH
        rcases h3 with ⟨_, h4⟩ | ⟨b, _, _, _, h4, _⟩
        ·subst h4; simp at hle; omega
        ·rw [he] at h4; cases h4
       ·rcases ha with rfl | ⟨h0, _⟩
        ·refine ⟨.pointer (some ⟨b, off * sz + n.toNat * sz, none⟩), by simp [Instr.indexAt, asIntOf, run_underlying (slO_ok hs), hn0, hn1, (szO_ok hz w).1, add_none], ?_⟩
         refine .ptr c g (off + n.toNat) 0 _ hc ?_ ?_ ?_ ?_ ⟨_, rfl⟩ hg
         ·intro cells h; rw [hH] at h; cases h
         ·intro sz2 rows2 ex2 h; rw [hH] at h; cases h
          exact ⟨b, m, he, by rw [Nat.add_mul, Nat.add_zero]⟩
         ·intro _ _ _ _ h; rw [hH] at h; cases h
         ·intro _ _ h; rw [hH] at h; cases h
        ·omega
     ·cases h
    ·rename_i sz g' rows ex hH
     split at h
     ·rename_i hn
      obtain ⟨hn0, hn1, rfl, rfl⟩ := hn
      cases h
      cases r with
      | ref c g off len v hc hs' hf hp hg =>
       obtain ⟨hle, hri⟩ := hf _ _ _ hH
       have hlt : off + n.toNat < rows.length := by omega
       have hrow : ((rows.drop off).take len)[n.toNat]? = some rows[off + n.toNat] := by
        rw [List.getElem?_take, if_pos (by omega), List.getElem?_drop, List.getElem?_eq_getElem hlt]
       obtain ⟨b, o, cap, rfl, hpt⟩ := sl_row hri hrow
       have hlen : ((rows.drop off).take len).length = len := by simp; omega
       rw [hlen] at *
       refine ⟨.pointer (some ⟨b, o + n.toNat * sz, none⟩), by simp [Instr.indexAt, asIntOf, run_underlying (slO_ok hs), hn0, hn1, (szO_ok hz w).1, add_none], ?_⟩
       refine .ptr c g (off + n.toNat) 0 _ hc ?_ ?_ ?_ ?_ ⟨_, rfl⟩ hg
       ·intro cells h; rw [hH] at h; cases h
       ·intro sz2 rows2 ex2 h; rw [hH] at h; cases h
       ·intro sz2 rows2 ex2 row h hr; rw [hH] at h; cases h
        rw [List.getElem?_eq_getElem hlt] at hr; cases hr; exact hpt
       ·intro _ _ h; rw [hH] at h; cases h
     ·cases h
    ·cases h
   ·cases h
  ·cases h
 ·cases h

theorem agg_part {cells m : List AV} {cs : Array Value} {off z : Nat} (hl : cs.size = cells.length) (hr : ∀ (k : Nat) (a : AV), cells[k]? = some a → RelA I η H a (cs.getD k undef))
  (h : take cells off z = some m) : RelA I η H (.agg m) (.agg (cs.extract off (off + z))) := by
 obtain ⟨h1, h2⟩ := take_get h
 have hle : off + z ≤ cells.length := by
  unfold take at h
  split at h
  ·assumption
  ·cases h
 refine .agg _ _ (by simp; omega) fun k a ha => ?_
 have hk : k < z := by rw [← h1]; exact (List.getElem?_eq_some_iff.1 ha).1
 obtain ⟨a', h3, h4⟩ := h2 k hk
 rw [ha] at h3; cases h3
 have := hr _ _ h4
 have e : (cs.extract off (off + z)).getD k undef = cs.getD (off + k) undef := by
  simp only [Array.getD_eq_getD_getElem?, Array.getElem?_extract]
  rw [if_pos (by omega)]
 rw [e]; exact this

theorem idx_ok {t : TypeId} {x ix v : AV} {y j : Value} (h : idxE E t x ix = some v) (r : RelA I η H x y) (rj : RelA I η H ix j) :
  ∃ u, (Instr.index t y j).run E.P w = .ok u w ∧ RelA I η H v u := by
 unfold idxE at h
 split at h
 ·rename_i l k n
  rw [relA_v rj, relA_str r]
  split at h
  ·rename_i hn
   simp only [Option.map_eq_some_iff] at h
   obtain ⟨b, hb, rfl⟩ := h
   refine ⟨.int .u8 b.toNat, ?_, relA_int⟩
   have : (⟨⟨l⟩⟩ : ByteArray)[n.toNat]? = some b := by
    have hlt := (List.getElem?_eq_some_iff.1 hb).1
    have hv := (List.getElem?_eq_some_iff.1 hb).2
    rw [getElem?_pos _ _ (by simpa [size_mk] using hlt)]
    congr 1
   simp [Instr.index, asIntOf, run_underlying (isStrO_ok hn.2), hn.1, this]
  ·cases h
 ·rename_i cells k n
  rw [relA_v rj]
  obtain ⟨cs, rfl, hl, hr⟩ := relA_agg r
  split at h
  ·rename_i len e ha
   split at h
   ·rename_i z hz hag
    split at h
    ·rename_i hn
     simp only [Option.map_eq_some_iff] at h
     obtain ⟨m, hm, rfl⟩ := h
     refine ⟨_, ?_, agg_part hl hr hm⟩
     simp [Instr.index, asIntOf, run_underlying (arrO_ok ha), hn, (szO_ok hz w).1, part, aggO_ok hag]
    ·cases h
   ·rename_i z hz hag
    split at h
    ·rename_i hn
     have hlt := (List.getElem?_eq_some_iff.1 h).1
     refine ⟨_, ?_, hr _ _ h⟩
     simp only [Instr.index, asIntOf, Sem.run_bind, Sem.run_pure, Result.andThen_ok, run_underlying (arrO_ok ha), hn, if_true, Sem.run_ite, (szO_ok hz w).1, part, aggO_ok hag, and_self]
     simp only [Bool.false_eq_true, if_false]
     rw [getD_eq cs _ (by omega)]
     simp
    ·cases h
   ·cases h
  ·cases h
 ·cases h

theorem fieldE_ok {t : TypeId} {f : Nat} {x v : AV} {y : Value} (h : fieldE E t x f = some v) (r : RelA I η H x y) :
  ∃ u, (Instr.field t y f).run E.P w = .ok u w ∧ RelA I η H v u := by
 unfold fieldE at h
 split at h
 ·rename_i cells off ty hf
  obtain ⟨fs, fd, hu, hfd, rfl, rfl⟩ := fldO_ok hf
  obtain ⟨cs, rfl, hl, hr⟩ := relA_agg r
  split at h
  ·rename_i z hz hag
   simp only [Option.map_eq_some_iff] at h
   obtain ⟨m, hm, rfl⟩ := h
   exact ⟨_, by simp [Instr.field, run_underlying hu, hfd, asAgg, part, aggO_ok hag, (szO_ok hz w).1], agg_part hl hr hm⟩
  ·rename_i z hz hag
   have hlt := (List.getElem?_eq_some_iff.1 h).1
   refine ⟨_, ?_, hr _ _ h⟩
   simp only [Instr.field, Sem.run_bind, run_underlying hu, Result.andThen_ok, hfd, asAgg, Sem.run_pure, part, aggO_ok hag, Bool.false_eq_true, if_false, Sem.run_ite]
   rw [getD_eq cs _ (by omega)]
   simp
  ·cases h
 ·cases h
end
end Go.VI

set_option linter.unusedSimpArgs false
set_option linter.unusedVariables false
namespace Go.VI
section
variable {E : Env} {I : Imm} {η : Eta} {H : Hp} {w : World}

inductive RelO (I : Imm) (η : Eta) (H : Hp) : Option AV → Option Value → Prop
 | none : RelO I η H none none
 | some (a : AV) (v : Value) (h : RelA I η H a v) : RelO I η H (some a) (some v)
theorem relO_map {fr : Fr} {a : Act} (hC : Conc E I η H w) (hf : FrOK I η H fr a.tmps) (x : Option Operand) : RelO I η H (x.map (opd E fr)) (x.map a.eval) := by
 cases x with
 | none => exact .none
 | some x => exact .some _ _ (opd_ok hC hf x)

theorem bnd_some {P : Program} {d l : Nat} {o : AV} {v : Value} (h : bnd d (some o) = some l) (r : RelA I η H o v) (y : Nat) (code : BoundsCode) (hl : l ≤ y) : (Instr.sliceBound v y code).run P w = .ok l w := by
 unfold bnd at h
 split at h
 ·rename_i h'; cases h'
 ·rename_i k n h'
  cases h'
  split at h
  ·rename_i hn; cases h
   rw [relA_v r]
   have : n ≤ y := by omega
   simp [Instr.sliceBound, asIntOf, hn, this]
  ·cases h
 ·cases h
theorem bounds_ok {P : Program} {isS : Bool} {len cap l h : Nat} {lo hi : Option AV} {lo' hi' : Option Value} (hlo : bnd 0 lo = some l) (hhi : bnd len hi = some h)
  (rl : RelO I η H lo lo') (rh : RelO I η H hi hi') (hlh : l ≤ h) (hc : h ≤ cap) :
  (Instr.sliceBounds isS len cap lo' hi' none).run P w = .ok (l, h, cap) w := by
 cases rl with
 | none =>
  simp only [bnd, Option.some.injEq] at hlo
  cases rh with
  | none => simp only [bnd, Option.some.injEq] at hhi; simp [Instr.sliceBounds, hlo, hhi]
  | some a v r => simp [Instr.sliceBounds, hlo, bnd_some hhi r _ _ hc]
 | some b u s =>
  cases rh with
  | none => simp only [bnd, Option.some.injEq] at hhi; subst hhi; simp [Instr.sliceBounds, bnd_some hlo s _ _ hlh]
  | some a v r => simp [Instr.sliceBounds, bnd_some hhi r _ _ hc, bnd_some hlo s _ _ hlh]
theorem bounds3_ok {P : Program} {len cap l h : Nat} {lo hi : Option AV} {m : AV} {lo' hi' : Option Value} {m' : Value} (hlo : bnd 0 lo = some l) (hhi : bnd len hi = some h) (hm : bnd 0 (some m) = some h)
  (rl : RelO I η H lo lo') (rh : RelO I η H hi hi') (rm : RelA I η H m m') (hlh : l ≤ h) (hc : h ≤ cap) (hn : hi.isSome = true) :
  (Instr.sliceBounds true len cap lo' hi' (some m')).run P w = .ok (l, h, h) w := by
 cases rh with
 | none => cases hn
 | some a v r =>
  cases rl with
  | none =>
   simp only [bnd, Option.some.injEq] at hlo
   simp [Instr.sliceBounds, hlo, bnd_some hm rm _ _ hc, bnd_some hhi r _ _ (Nat.le_refl h)]
  | some b u s => simp [Instr.sliceBounds, bnd_some hm rm _ _ hc, bnd_some hhi r _ _ (Nat.le_refl h), bnd_some hlo s _ _ hlh]

theorem extract_mk (s : List UInt8) (l h : Nat) : (⟨⟨s⟩⟩ : ByteArray).extract l h = ⟨⟨(s.drop l).take (h - l)⟩⟩ := by
 apply ByteArray.ext
 simp only [ByteArray.data_extract]
 apply Array.ext'
 simp [List.extract_eq_take_drop]

theorem sl_part {sz l h m : Nat} {rows : List (List IV)} {ex ex' : Bool} {a : Option Addr} {n cap size : Nat} (r : RelI I (.sl sz rows ex) (.slice a n cap)) (hlh : l ≤ h) (hn : h ≤ rows.length) (hm : h ≤ m) (hmc : m ≤ cap)
  (hsz : rows = [] ∨ size = sz) (hex : ex' = true → m = h ∨ (ex = true ∧ h = rows.length ∧ m = cap)) :
  RelI I (.sl sz ((rows.drop l).take (h - l)) ex') (.slice (if m = l then a else a.map (·.add (l * size))) (h - l) (m - l)) := by
 have hex2 : ex' = true → m = h := by
  intro he
  rcases hex he with h1 | ⟨h1, h2, h3⟩
  ·exact h1
  ·cases r with
   | nil sz ex a cap hx => have := hx h1; omega
   | sl sz rows ex b off cap cs elem fz cv hI hc hx hr h4 h5 => have := hx h1; omega
 by_cases hh : h = l
 ·subst hh
  have : (rows.drop h).take (h - h) = [] := by simp
  rw [this, Nat.sub_self]
  exact .nil _ _ _ _ (fun he => by have := hex2 he; omega)
 ·have hl : l < h := by omega
  have hne : m ≠ l := by omega
  have hlen : ((rows.drop l).take (h - l)).length = h - l := by simp; omega
  cases r with
  | nil => simp at hn; omega
  | sl sz rows ex b off cap cs elem fz cv hI hc hx hr h1 h2 =>
   have hsz' : size = sz := hsz.elim (fun e => by subst e; simp at hn; omega) id
   subst hsz'
   rw [if_neg hne]
   have gt : ∀ (i : Nat) (r : List IV), ((rows.drop l).take (h - l))[i]? = some r → rows[l + i]? = some r := by
    intro i r hi
    rw [List.getElem?_take] at hi
    split at hi
    ·rwa [List.getElem?_drop] at hi
    ·cases hi
   have := RelI.sl (I := I) size ((rows.drop l).take (h - l)) ex' b (off + l * size) (m - l) cs elem fz (fun i k => cv (l + i) k) hI (by omega) (fun he => by have := hex2 he; omega)
    (fun i r hi => hr _ _ (gt i r hi))
    (fun i r k a hi ha => by have := h1 _ _ _ _ (gt i r hi) ha; rw [← this]; congr 1; rw [Nat.add_mul]; omega)
    (fun i r k a hi ha => h2 _ _ _ _ (gt i r hi) ha)
   rw [hlen] at this
   simpa [add_none] using this

theorem slice_ok {t : TypeId} {x v : AV} {y : Value} {lo hi mx : Option AV} {lo' hi' mx' : Option Value} (h : sliceE E H t x lo hi mx = some v) (hC : Conc E I η H w) (r : RelA I η H x y)
  (rl : RelO I η H lo lo') (rh : RelO I η H hi hi') (rm : RelO I η H mx mx') :
  ∃ u, (Instr.sliceAt t y lo' hi' mx').run E.P w = .ok u w ∧ RelA I η H v u := by
 unfold sliceE at h
 split at h
 ·cases h
 rename_i n hlen
 split at h
 rotate_left
 ·cases h
 rename_i l hh hlo hhi
 split at h
 rotate_left
 ·cases h
 rename_i hle
 obtain ⟨hl1, hl2⟩ := hle
 split at h
 ·rename_i s
  split at h
  ·rename_i hc
   cases h
   rw [relA_str r]
   cases rm with
   | some => simp at hc
   | none =>
    simp only [lenE, Option.some.injEq] at hlen
    refine ⟨.string ⟨⟨(s.drop l).take (hh - l)⟩⟩, ?_, relA_mkstr⟩
    have hu := isStrO_ok hc.2
    have hb := bounds_ok (P := E.P) (w := w) (isS := false) (cap := (⟨⟨s⟩⟩ : ByteArray).size) hlo (by rw [← hlen] at hhi; exact hhi) rl rh hl1 (by rw [size_mk]; omega)
    simp only [Instr.sliceAt, Sem.run_bind, run_underlying hu, Result.andThen_ok, Instr.slice, Option.isSome_none, Bool.false_eq_true, if_false, Sem.run_pure]
    rw [show (⟨⟨s⟩⟩ : ByteArray).size = s.length from rfl] at hb ⊢
    simp [hb, extract_mk]
  ·cases h
 ·rename_i sz rows ex
  split at h
  ·rename_i e hs
   have hu := slO_ok hs
   simp only [lenE, Option.some.injEq] at hlen
   subst hlen
   have rI := relA_i r
   have hsh : ∃ a cap, y = .slice a rows.length cap ∧ rows.length ≤ cap := by
    cases rI with
    | nil sz ex a cap hx => exact ⟨a, cap, rfl, by simp⟩
    | sl sz rows ex b off cap cs elem fz cv hI hc hx hr h1 h2 => exact ⟨_, cap, rfl, hc⟩
   obtain ⟨a, cap, rfl, hcap⟩ := hsh
   split at h
   rotate_left
   ·cases h
   rename_i size hz
   have hsz1 := (szO_ok hz w).1
   split at h
   ·rename_i hsz2
    split at h
    ·cases h
     cases rm with
     | none =>
      have hb := bounds_ok (P := E.P) (w := w) (isS := true) (cap := cap) hlo hhi rl rh hl1 (by omega)
      refine ⟨_, ?_, .i _ _ (sl_part (m := cap) (size := size) rI hl1 hl2 (by omega) (Nat.le_refl _) hsz2 fun he => ?_)⟩
      ·simp [Instr.sliceAt, run_underlying hu, Instr.slice, hb, hsz1]
      ·simp only [Bool.and_eq_true, decide_eq_true_eq] at he
       exact .inr ⟨he.1, he.2, rfl⟩
    ·rename_i m
     split at h
     ·rename_i m' hm
      split at h
      ·rename_i hm2
       cases h
       obtain rfl := hm2.1
       cases rm with
       | some a' v' r' =>
        have hb := bounds3_ok (P := E.P) (w := w) (cap := cap) hlo hhi hm rl rh r' hl1 (by omega) hm2.2
        refine ⟨_, ?_, .i _ _ (sl_part (m := hh) (size := size) rI hl1 hl2 (Nat.le_refl _) (by omega) hsz2 fun _ => .inl rfl)⟩
        simp [Instr.sliceAt, run_underlying hu, Instr.slice, hb, hsz1]
      ·cases h
     ·cases h
   ·cases h
  ·cases h
 ·rename_i c g off len
  simp only [lenE, Option.some.injEq] at hlen
  subst hlen
  split at h
  ·rename_i e sz g' rows ex hs hH
   have hu := slO_ok hs
   split at h
   ·rename_i hc
    obtain ⟨hmx, rfl, hz⟩ := hc
    cases h
    cases rm with
    | some => simp at hmx
    | none =>
    cases r with
    | ref c g off len v hcl hs' hf hp hg =>
     obtain ⟨hle, a, cap, rfl, hbk⟩ := hs' _ _ _ hH
     have hcap : len ≤ cap := by
      rcases hbk with ⟨he, hc0⟩ | ⟨b, m, he, h1, _, _⟩
      ·obtain ⟨_, _, h3⟩ := hC.ch _ _ hH
       rcases h3 with ⟨_, h4⟩ | ⟨b, _, _, _, h4, _⟩
       ·subst h4; simp at hle; omega
       ·rw [he] at h4; cases h4
      ·omega
     have hb := bounds_ok (P := E.P) (w := w) (isS := true) (cap := cap) hlo hhi rl rh hl1 (by omega)
     refine ⟨.slice (if cap = l then a else a.map (·.add (l * sz))) (hh - l) (cap - l), by simp [Instr.sliceAt, run_underlying hu, Instr.slice, hb, (szO_ok hz w).1], ?_⟩
     refine .ref c g (off + l) (hh - l) _ hcl ?_ ?_ ⟨_, _, rfl⟩ hg
     ·intro sz2 rows2 ex2 h
      rw [hH] at h; cases h
      refine ⟨by omega, _, _, rfl, ?_⟩
      rcases hbk with ⟨he, hc0⟩ | ⟨b, m, he, h1, h2, h3⟩
      ·exact .inl ⟨he, by omega⟩
      ·refine .inr ⟨b, m, he, by omega, by rw [show off + l + (cap - l) = off + cap by omega]; exact h2, ?_⟩
       by_cases hcl' : cap = l
       ·right; omega
       ·rw [if_neg hcl']
        rcases h3 with rfl | ⟨h4, h5⟩
        ·left; simp [add_none, Nat.add_mul]
        ·right; omega
     ·intro _ _ _ h; rw [hH] at h; cases h
   ·cases h
  ·rename_i e sz g' rows ex hs hH
   have hu := slO_ok hs
   split at h
   ·rename_i hc
    obtain ⟨rfl, hz, hlr⟩ := hc
    cases r with
    | ref c g off len v hcl hs' hf hp hg =>
     obtain ⟨hle, rI⟩ := hf _ _ _ hH
     have hlen' : ((rows.drop off).take len).length = len := by simp; omega
     have hsh : ∃ a cap, y = .slice a len cap ∧ len ≤ cap := by
      cases hx : y with
      | slice a n cap =>
       rw [hx] at rI
       have : n = len ∧ len ≤ cap := by
        generalize hgen : (rows.drop off).take len = rs at rI hlen'
        cases rI with
        | nil sz ex a cap hx => simp at hlen'; omega
        | sl sz rows ex b off cap cs elem fz cv hI hc hx hr h1 h2 => omega
       exact ⟨a, cap, by rw [this.1], this.2⟩
      | _ => obtain ⟨a, m, h0⟩ := hp; rw [hx] at h0; cases h0
     obtain ⟨a, cap, rfl, hcap⟩ := hsh
     have e2 : (((rows.drop off).take len).drop l).take (hh - l) = (rows.drop (off + l)).take (hh - l) := by
      rw [List.drop_take, List.take_take, List.drop_drop]
      congr 1; omega
     split at h
     ·cases h
      cases rm with
      | none =>
       have hb := bounds_ok (P := E.P) (w := w) (isS := true) (cap := cap) hlo hhi rl rh hl1 (by omega)
       have hp := sl_part (m := cap) (size := sz) (ex' := ex && decide (off + hh = rows.length)) rI hl1 (by omega) (by omega) (Nat.le_refl _) (.inr rfl) fun he => by
        simp only [Bool.and_eq_true, decide_eq_true_eq] at he
        refine .inr ⟨?_, by omega, rfl⟩
        simp only [Bool.and_eq_true, decide_eq_true_eq]
        exact ⟨he.1, by omega⟩
       rw [e2] at hp
       exact ⟨_, by simp [Instr.sliceAt, run_underlying hu, Instr.slice, hb, (szO_ok hz w).1], .i _ _ hp⟩
     ·rename_i m
      split at h
      ·rename_i m' hm
       split at h
       ·rename_i hm2
        cases h
        obtain rfl := hm2.1
        cases rm with
        | some a' v' r' =>
         have hb := bounds3_ok (P := E.P) (w := w) (cap := cap) hlo hhi hm rl rh r' hl1 (by omega) hm2.2
         have hp := sl_part (m := hh) (size := sz) (ex' := true) rI hl1 (by omega) (Nat.le_refl _) (by omega) (.inr rfl) fun _ => .inl rfl
         rw [e2] at hp
         exact ⟨_, by simp [Instr.sliceAt, run_underlying hu, Instr.slice, hb, (szO_ok hz w).1], .i _ _ hp⟩
       ·cases h
      ·cases h
   ·cases h
  ·cases h
 ·cases h

theorem sl_len {sz : Nat} {rows : List (List IV)} {ex : Bool} {y : Value} (h : RelI I (.sl sz rows ex) y) : ∃ a cap, y = .slice a rows.length cap := by
 cases h with
 | nil => exact ⟨_, _, rfl⟩
 | sl => exact ⟨_, _, rfl⟩
theorem ref_len {c g off len : Nat} {y : Value} (r : RelA I η H (.ref c g off len) y) : ∃ a cap, y = .slice a len cap := by
 cases r; assumption

theorem conv_ok {s d : TypeId} {x v : AV} {y : Value} (h : convE E s d x = some v) (r : RelA I η H x y) : ∃ u, (convert s d y).run E.P w = .ok u w ∧ RelA I η H v u := by
 unfold convE at h
 split at h
 ·rename_i k n
  rw [relA_v r]
  split at h
  ·rename_i b k' hb hk
   cases h
   have hs : ∃ ds, E.P.underlying s = some ds := by
    simp only [aggO, Option.map_eq_some_iff] at hb
    obtain ⟨ds, hds, _⟩ := hb; exact ⟨ds, hds⟩
   obtain ⟨ds, hds⟩ := hs
   exact ⟨_, by simp [convert, run_underlying hds, run_underlying (kindO_ok hk), Conv.intToInt], relA_int⟩
  ·rename_i b hb hk
   split at h
   ·rename_i hd
    cases h
    have hs : ∃ ds, E.P.underlying s = some ds := by
     simp only [aggO, Option.map_eq_some_iff] at hb
     obtain ⟨ds, hds, _⟩ := hb; exact ⟨ds, hds⟩
    obtain ⟨ds, hds⟩ := hs
    exact ⟨.string (Utf8.encode n), by simp [convert, run_underlying hds, run_underlying (isStrO_ok hd), Conv.intToString], by
     have := relA_mkstr (I := I) (η := η) (H := H) (l := (Utf8.encode n).data.toList)
     exact this⟩
   ·cases h
  ·cases h
 ·split at h
  ·rename_i hc
   cases h
   rw [relA_str r]
   exact ⟨_, by simp [convert, run_underlying (isStrO_ok hc.1), run_underlying (isStrO_ok hc.2)], relA_mkstr⟩
  ·cases h
 ·cases h

theorem max_ok {a b v : AV} {x y : Value} (P : Program) (h : maxE a b = some v) (ra : RelA I η H a x) (rb : RelA I η H b y) : ∃ u, (Builtin.max2 x y).run P w = .ok u w ∧ RelA I η H v u := by
 unfold maxE at h
 split at h
 ·rename_i k a k' b
  cases h
  rw [relA_v ra, relA_v rb]
  refine ⟨.int k (max a b), ?_, relA_int⟩
  have : (if b > a then b else a) = max a b := by omega
  simp only [Builtin.max2, Sem.run_pure, this]
 ·cases h
theorem min_ok {a b v : AV} {x y : Value} (P : Program) (h : minE a b = some v) (ra : RelA I η H a x) (rb : RelA I η H b y) : ∃ u, (Builtin.min2 x y).run P w = .ok u w ∧ RelA I η H v u := by
 unfold minE at h
 split at h
 ·rename_i k a k' b
  cases h
  rw [relA_v ra, relA_v rb]
  refine ⟨.int k (min a b), ?_, relA_int⟩
  have : (if b < a then b else a) = min a b := by omega
  simp only [Builtin.min2, Sem.run_pure, this]
 ·cases h
theorem fold_none (f : AV → AV → Option AV) : ∀ l : List AV, l.foldl (fun acc x => match acc with | some y => f y x | none => none) none = none
 | [] => rfl
 | _ :: l => fold_none f l
theorem fold_ok (P : Program) {f : AV → AV → Option AV} {g : Value → Value → Sem Value} (hfg : ∀ {a b v : AV} {x y : Value}, f a b = some v → RelA I η H a x → RelA I η H b y → ∃ u, (g x y).run P w = .ok u w ∧ RelA I η H v u) :
  ∀ (l : List AV) (m : List Value) (a v : AV) (x : Value), l.length = m.length → (∀ (k : Nat) (b : AV) (y : Value), l[k]? = some b → m[k]? = some y → RelA I η H b y) → RelA I η H a x →
   l.foldl (fun acc x => match acc with | some y => f y x | none => none) (some a) = some v → ∃ u, (m.foldlM g x).run P w = .ok u w ∧ RelA I η H v u
 | [], [], a, v, x, _, _, ra, h => by simp at h; subst h; exact ⟨x, by simp, ra⟩
 | [], _ :: _, _, _, _, h, _, _, _ => by simp at h
 | _ :: _, [], _, _, _, h, _, _, _ => by simp at h
 | b :: l, y :: m, a, v, x, hl, hr, ra, h => by
  simp only [List.foldl_cons] at h
  cases hf : f a b with
  | none => rw [hf, fold_none] at h; cases h
  | some c =>
   rw [hf] at h
   obtain ⟨u, hu, ru⟩ := hfg hf ra (hr 0 b y rfl rfl)
   obtain ⟨z, hz, rz⟩ := fold_ok P hfg l m c v u (by simpa using hl) (fun k b y h1 h2 => hr (k + 1) b y (by simpa using h1) (by simpa using h2)) ru h
   exact ⟨z, by simp [List.foldlM_cons, hu, hz], rz⟩

theorem cells_ok {a : AV} {y : Value} (r : RelA I η H a y) (ho : (cellsA a).all one = true) :
  y.cells.size = (cellsA a).length ∧ (∀ (k : Nat) (c : AV), (cellsA a)[k]? = some c → RelA I η H c (y.cells.getD k undef)) ∧ ∀ k, k < y.cells.size → (y.cells.getD k undef).oneCell' = true := by
 have key : ∀ a, one a = true → RelA I η H a y → (y.cells.size = 1 ∧ (∀ (k : Nat) (c : AV), [a][k]? = some c → RelA I η H c (y.cells.getD k undef)) ∧ ∀ k, k < y.cells.size → (y.cells.getD k undef).oneCell' = true) := by
  intro a h1 r
  have hy := one_ok r h1
  have : y.cells = #[y] := by cases y <;> simp_all [Value.cells, Value.oneCell']
  rw [this]
  refine ⟨rfl, fun k c hc => ?_, fun k hk => ?_⟩
  ·cases k with
   | zero => simp at hc; subst hc; simpa using r
   | succ k => simp at hc
  ·simp at hk; subst hk; simpa using hy
 cases a with
 | agg cells =>
  obtain ⟨cs, rfl, h1, h2⟩ := relA_agg r
  refine ⟨h1, h2, fun k hk => ?_⟩
  simp only [Value.cells] at hk
  have hlt : k < cells.length := by omega
  have h3 := h2 k cells[k] (by simp [hlt])
  simp only [cellsA, List.all_eq_true] at ho
  exact one_ok h3 (ho _ (List.getElem_mem hlt))
 | dead => simp [cellsA, one] at ho
 | tup => simp [cellsA, one] at ho
 | i x => exact key _ (by simpa [cellsA] using ho) r
 | ref => exact key _ (by simpa [cellsA] using ho) r
 | ptr => exact key _ (by simpa [cellsA] using ho) r
 | mref => exact key _ (by simpa [cellsA] using ho) r
 | clo => exact key _ (by simpa [cellsA] using ho) r

def CellsOK (I : Imm) (η : Eta) (H : Hp) (cells : List AV) (cs : Array Value) : Prop := cs.size = cells.length ∧ ∀ (k : Nat) (a : AV), cells[k]? = some a → RelA I η H a (cs.getD k undef)

theorem foldl_set (off : Nat) : ∀ (vs : List Value) (j : Nat) (cs : Array Value), off + j + vs.length ≤ cs.size →
  ((vs.zipIdx j).foldl (fun cs (p : Value × Nat) => cs.setIfInBounds (off + p.2) p.1) cs).size = cs.size ∧
  ∀ k, ((vs.zipIdx j).foldl (fun cs (p : Value × Nat) => cs.setIfInBounds (off + p.2) p.1) cs)[k]? = if off + j ≤ k ∧ k < off + j + vs.length then vs[k - (off + j)]? else cs[k]?
 | [], j, cs, _ => by simp; intro k h1 h2; omega
 | v :: vs, j, cs, h => by
  simp only [List.length_cons] at h
  simp only [List.zipIdx_cons, List.foldl_cons]
  obtain ⟨h1, h2⟩ := foldl_set off vs (j + 1) (cs.setIfInBounds (off + j) v) (by rw [Array.size_setIfInBounds]; omega)
  refine ⟨by rw [h1]; simp, fun k => ?_⟩
  rw [h2]
  by_cases hk : k = off + j
  ·subst hk
   rw [if_neg (by omega), if_pos (by constructor <;> simp)]
   have : off + j < cs.size := by omega
   simp [this]
  ·by_cases hr : off + (j + 1) ≤ k ∧ k < off + (j + 1) + vs.length
   ·rw [if_pos hr, if_pos (by simp; omega)]
    rw [show k - (off + j) = (k - (off + (j + 1))) + 1 by omega]; simp
   ·rw [if_neg hr, if_neg (by simp; omega)]
    rw [Array.getElem?_setIfInBounds_ne (by omega)]
theorem foldl_zip (vs cs : Array Value) (off : Nat) : vs.zipIdx.foldl (fun cs (c, j) => cs.setIfInBounds (off + j) c) cs = (vs.toList.zipIdx 0).foldl (fun cs (p : Value × Nat) => cs.setIfInBounds (off + p.2) p.1) cs := by
 rw [← Array.foldl_toList, Array.toList_zipIdx]
theorem over_get {l new : List AV} {k j : Nat} (h : k + new.length ≤ l.length) : (over l k new)[j]? = if k ≤ j ∧ j < k + new.length then new[j - k]? else l[j]? := by
 unfold over
 by_cases h1 : j < k
 ·rw [if_neg (by omega), List.append_assoc, List.getElem?_append_left (by simp; omega), List.getElem?_take, if_pos h1]
 ·by_cases h2 : j < k + new.length
  ·rw [if_pos (by omega), List.append_assoc, List.getElem?_append_right (by simp; omega), List.getElem?_append_left (by simp; omega)]
   congr 1; simp; omega
  ·rw [if_neg (by omega), List.append_assoc, List.getElem?_append_right (by simp; omega), List.getElem?_append_right (by simp; omega), List.getElem?_drop]
   congr 1; simp; omega
theorem over_length {l new : List AV} {k : Nat} (h : k + new.length ≤ l.length) : (over l k new).length = l.length := by
 unfold over; simp; omega
theorem over_ok {cells : List AV} {cs : Array Value} (hc : CellsOK I η H cells cs) {a : AV} {y : Value} (r : RelA I η H a y) (ho : (cellsA a).all one = true) {off : Nat} (hle : off + (cellsA a).length ≤ cells.length) :
  CellsOK I η H (over cells off (cellsA a)) (y.cells.zipIdx.foldl (fun cs (c, j) => cs.setIfInBounds (off + j) c) cs) := by
 obtain ⟨h1, h2, _⟩ := cells_ok r ho
 rw [foldl_zip]
 obtain ⟨h3, h4⟩ := foldl_set off y.cells.toList 0 cs (by simp; rw [hc.1, h1]; omega)
 refine ⟨by rw [h3, over_length hle, hc.1], fun k b hb => ?_⟩
 rw [over_get hle] at hb
 rw [Array.getD_eq_getD_getElem?, h4]
 simp only [Nat.add_zero, Array.length_toList, h1]
 split at hb
 ·rename_i hk
  rw [if_pos hk]
  have := h2 _ _ hb
  rwa [Array.getD_eq_getD_getElem?, ← Array.getElem?_toList] at this
 ·rename_i hk
  rw [if_neg hk]
  have := hc.2 _ _ hb
  rwa [Array.getD_eq_getD_getElem?] at this

def PartsOK (I : Imm) (η : Eta) (H : Hp) (ps : List (Nat × AV)) (qs : List (Nat × Value)) : Prop := ps.length = qs.length ∧ ∀ (k : Nat) (p : Nat × AV) (q : Nat × Value), ps[k]? = some p → qs[k]? = some q → p.1 = q.1 ∧ RelA I η H p.2 q.2
theorem fillA_ok {z : Nat} : ∀ {ps : List (Nat × AV)} {qs : List (Nat × Value)} {cells out : List AV} {cs : Array Value}, PartsOK I η H ps qs → CellsOK I η H cells cs → fillA z cells ps = some out →
  ∃ ds, Instr.fill (fun i => some (i * z, z)) cs qs = some ds ∧ CellsOK I η H out ds
 | [], [], cells, out, cs, _, hc, h => by simp [fillA] at h; subst h; exact ⟨cs, rfl, hc⟩
 | [], _ :: _, _, _, _, hp, _, _ => by have := hp.1; simp at this
 | _ :: _, [], _, _, _, hp, _, _ => by have := hp.1; simp at this
 | (i, a) :: ps, (j, y) :: qs, cells, out, cs, hp, hc, h => by
  simp only [fillA] at h
  split at h
  ·rename_i hk
   obtain ⟨hk1, hk2, hk3⟩ := hk
   obtain ⟨e, r⟩ := hp.2 0 _ _ rfl rfl
   simp only at e r
   subst e
   obtain ⟨h1, _, _⟩ := cells_ok r hk3
   have hov := over_ok hc r hk3 (off := i * z) (by omega)
   obtain ⟨ds, h2, h3⟩ := fillA_ok (z := z) ⟨by have := hp.1; simpa using this, fun k p q h4 h5 => hp.2 (k + 1) p q (by simpa using h4) (by simpa using h5)⟩ hov h
   refine ⟨ds, ?_, h3⟩
   simp only [Instr.fill]
   rw [if_neg]
   ·exact h2
   ·simp only [Bool.or_eq_true, decide_eq_true_eq, not_or, ne_eq]
    rw [hc.1, h1]; omega
  ·cases h
theorem fillS_ok {pl : List (Nat × Nat)} : ∀ {ps : List (Nat × AV)} {qs : List (Nat × Value)} {cells out : List AV} {cs : Array Value}, PartsOK I η H ps qs → CellsOK I η H cells cs → fillS pl cells ps = some out →
  ∃ ds, Instr.fill (pl[·]?) cs qs = some ds ∧ CellsOK I η H out ds
 | [], [], cells, out, cs, _, hc, h => by simp [fillS] at h; subst h; exact ⟨cs, rfl, hc⟩
 | [], _ :: _, _, _, _, hp, _, _ => by have := hp.1; simp at this
 | _ :: _, [], _, _, _, hp, _, _ => by have := hp.1; simp at this
 | (i, a) :: ps, (j, y) :: qs, cells, out, cs, hp, hc, h => by
  simp only [fillS] at h
  split at h
  ·rename_i off z hpl
   split at h
   ·rename_i hk
    obtain ⟨hk1, hk2, hk3⟩ := hk
    obtain ⟨e, r⟩ := hp.2 0 _ _ rfl rfl
    simp only at e r
    subst e
    obtain ⟨h1, _, _⟩ := cells_ok r hk3
    have hov := over_ok hc r hk3 (off := off) (by omega)
    obtain ⟨ds, h2, h3⟩ := fillS_ok (pl := pl) ⟨by have := hp.1; simpa using this, fun k p q h4 h5 => hp.2 (k + 1) p q (by simpa using h4) (by simpa using h5)⟩ hov h
    refine ⟨ds, ?_, h3⟩
    simp only [Instr.fill, hpl]
    rw [if_neg]
    ·exact h2
    ·simp only [Bool.or_eq_true, decide_eq_true_eq, not_or, ne_eq]
     rw [hc.1, h1]; omega
   ·cases h
  ·cases h
theorem zeroO_ok {P : Program} {t : TypeId} {z : AV} (h : zeroO P t = some z) (w : World) : ∃ v, (zeroValue t).run P w = .ok v w ∧ z = ofVal v := by
 simp only [zeroO, Option.map_eq_some_iff, Option.bind_eq_some_iff] at h
 obtain ⟨v, ⟨i, hi, hz⟩, rfl⟩ := h
 exact ⟨v, by simp [zeroValue, run_typeInfo w hi, hz], rfl⟩
theorem mapM_places {P : Program} (w : World) : ∀ {fs : List Field} {pl : List (Nat × Nat)}, (fs.mapM fun f => (szO P f.type).map fun z => (f.offset, z)) = some pl →
  (fs.mapM fun f => (do pure (f.offset, ← sizeOf f.type) : Sem (Nat × Nat))).run P w = .ok pl w
 | [], pl, h => by simp at h; subst h; simp
 | f :: fs, pl, h => by
  rw [List.mapM_cons] at h
  simp only [bind, Option.bind_eq_some_iff, Option.map_eq_some_iff, pure, Option.some.injEq] at h
  obtain ⟨p, ⟨z, hz, rfl⟩, pl', hpl, rfl⟩ := h
  have ih := mapM_places w hpl
  rw [List.mapM_cons]
  simp only [Sem.run_bind, (szO_ok hz w).1, Result.andThen_ok, Sem.run_pure] at ih ⊢
  rw [ih]; simp
theorem build_ok {t : TypeId} {ps : List (Nat × AV)} {qs : Array (Nat × Value)} {v : AV} (h : buildE E t ps = some v) (hp : PartsOK I η H ps qs.toList) : ∃ u, (Instr.build t qs).run E.P w = .ok u w ∧ RelA I η H v u := by
 unfold buildE at h
 split at h
 ·rename_i zero hz
  obtain ⟨zv, hzr, hze⟩ := zeroO_ok hz w
  have hzr' : RelA I η H (.agg zero) zv := by rw [hze]; exact relA_ofVal zv
  obtain ⟨zc, rfl, h1, h2⟩ := relA_agg hzr'
  have hc : CellsOK I η H zero zc := ⟨h1, h2⟩
  split at h
  ·rename_i n e ha
   split at h
   ·rename_i z hsz
    simp only [Option.map_eq_some_iff] at h
    obtain ⟨out, hout, rfl⟩ := h
    obtain ⟨ds, h3, h4⟩ := fillA_ok hp hc hout
    refine ⟨.agg ds, ?_, .agg _ _ h4.1 h4.2⟩
    simp [Instr.build, hzr, run_underlying (arrO_ok ha), (szO_ok hsz w).1, Value.cells, h3]
   ·cases h
  ·split at h
   ·rename_i pl hpl
    simp only [Option.map_eq_some_iff] at h
    obtain ⟨out, hout, rfl⟩ := h
    obtain ⟨ds, h3, h4⟩ := fillS_ok hp hc hout
    refine ⟨.agg ds, ?_, .agg _ _ h4.1 h4.2⟩
    unfold placesO at hpl
    split at hpl
    ·rename_i fs hu
     have hm := mapM_places w hpl
     have hm' : (fs.mapM fun f => (do pure (f.offset, ← sizeOf f.type) : Sem (Nat × Nat))).run E.P w = .ok pl.toArray w := by
      rw [← Array.toArray_toList (xs := fs), List.mapM_toArray, Sem.run_map, hm]; rfl
     simp only [Instr.build, Sem.run_bind, hzr, Result.andThen_ok, run_underlying hu, Value.cells]
     rw [hm']
     simp [h3]
    ·cases hpl
   ·cases h
 ·cases h
end
end Go.VI

set_option linter.unusedSimpArgs false
set_option linter.unusedVariables false
namespace Go.VI
section
variable {E : Env} {I : Imm} {η : Eta} {H : Hp} {w : World}

theorem toList_one {α : Type} {a : Array α} {x : α} (h : a.toList = [x]) : a = #[x] := by
 cases a; simp_all
theorem toList_two {α : Type} {a : Array α} {x y : α} (h : a.toList = [x, y]) : a = #[x, y] := by
 cases a; simp_all

theorem getD_map (f : Operand → Value) (l : Array Operand) (k : Nat) (h : k < l.size) : (l.map f).getD k undef = f l[k] := by
 simp [h]

theorem foldE_ok (P : Program) {f : AV → AV → Option AV} {g : Value → Value → Sem Value} (hfg : ∀ {a b v : AV} {x y : Value}, f a b = some v → RelA I η H a x → RelA I η H b y → ∃ u, (g x y).run P w = .ok u w ∧ RelA I η H v u)
  (l : List AV) (m : List Value) (v : AV) (hl : l.length = m.length) (hr : ∀ (k : Nat) (b : AV) (y : Value), l[k]? = some b → m[k]? = some y → RelA I η H b y) (e : Sem Value) (h : foldE f l = some v) :
  ∃ u, ((match m with | [] => e | x :: rest => rest.foldlM g x : Sem Value)).run P w = .ok u w ∧ RelA I η H v u := by
 cases l with
 | nil => simp [foldE] at h
 | cons a l =>
  cases m with
  | nil => simp at hl
  | cons x m =>
   simp only [foldE] at h
   exact fold_ok P hfg l m a v x (by simpa using hl) (fun k b y h1 h2 => hr (k + 1) b y (by simpa using h1) (by simpa using h2)) (hr 0 a x rfl rfl) h
theorem ChunkOK.mono {I' : Imm} {η' : Eta} {H' : Hp} {w' : World} {c : Nat} {x : Chunk} (h : ChunkOK I η H w c x) (he : η' c = η c) (hI : I.le I') (hm : Mono I η H I' η' H')
  (hw : ∀ b n, η c = some (b, n) → w'.heap[b]? = w.heap[b]?) : ChunkOK I' η' H' w' c x := by
 cases x with
 | box cells =>
  obtain ⟨b, cs, elem, fz, h1, h2, h3, h4, h5⟩ := h
  exact ⟨b, cs, elem, fz, by rw [he]; exact h1, by rw [hw _ _ h1]; exact h2, h3, h4, fun k a ha => hm _ _ (h5 k a ha)⟩
 | sl sz g rows ex =>
  obtain ⟨h1, h2, h3⟩ := h
  refine ⟨fun e => he.trans (h1 e), h2, ?_⟩
  rcases h3 with ⟨h4, h5⟩ | ⟨b, cs, elem, fz, h4, h5, h6, h7, h8, h9⟩
  ·exact .inl ⟨by rw [he]; exact h4, h5⟩
  ·exact .inr ⟨b, cs, elem, fz, by rw [he]; exact h4, by rw [hw _ _ h4]; exact h5, h6, h7, h8, fun i r k a hi ha => (h9 i r k a hi ha).mono hI⟩
 | fz sz g rows ex => exact (he.trans h : η' c = none)
 | iter s p =>
  obtain ⟨b, h1, h2⟩ := h
  exact ⟨b, by rw [he]; exact h1, by rw [hw _ _ h1]; exact h2⟩
 | map es =>
  obtain ⟨b, arr, cl, h1, h2, h3⟩ := h
  exact ⟨b, arr, cl, by rw [he]; exact h1, by rw [hw _ _ h1]; exact h2, h3.mono hI hm⟩
 | tb t cells =>
  obtain ⟨b, cs, h1, h2, h4, h5⟩ := h
  exact ⟨b, cs, by rw [he]; exact h1, by rw [hw _ _ h1]; exact h2, h4, fun k a ha => hm _ _ (h5 k a ha)⟩
 | buf t l =>
  obtain ⟨b, cs, h1, h2, h3⟩ := h
  exact ⟨b, cs, by rw [he]; exact h1, by rw [hw _ _ h1]; exact h2, h3⟩
 | gone => exact (he.trans h : η' c = none)

def After (E : Env) (I : Imm) (η : Eta) (H : Hp) (w : World) (H' : Hp) (w' : World) (Q : Imm → Eta → Prop) : Prop :=
 ∃ I' η', Conc E I' η' H' w' ∧ Trans I η w I' η' w' ∧ Mono I η H I' η' H' ∧ Q I' η'
theorem After.refl {Q : Imm → Eta → Prop} (hC : Conc E I η H w) (h : Q I η) : After E I η H w H w Q := ⟨I, η, hC, Trans.refl _ _ _, Mono.refl _ _ _, h⟩
theorem After.imp {H' : Hp} {w' : World} {Q Q' : Imm → Eta → Prop} (h : After E I η H w H' w' Q) (hq : ∀ I' η', I.le I' → Mono I η H I' η' H' → Q I' η' → Q' I' η') : After E I η H w H' w' Q' := by
 obtain ⟨I', η', h1, h2, h3, h4⟩ := h
 exact ⟨I', η', h1, h2, h3, hq _ _ h2.imm h3 h4⟩

theorem drop_take_get {α : Type} {l : List α} {o n i : Nat} {r : α} (h : ((l.drop o).take n)[i]? = some r) : l[o + i]? = some r ∧ i < n := by
 rw [List.getElem?_take] at h
 split at h
 ·rename_i hi; rw [List.getElem?_drop] at h; exact ⟨h, hi⟩
 ·cases h

theorem rel_rows {I' : Imm} {sz : Nat} {rows : List (List IV)} {b : Nat} {cs : Array Value} {elem : TypeId} {fz : Nat × Nat} (hI : I' b = some (.cells cs elem fz))
  (hr : ∀ (i : Nat) (r : List IV), rows[i]? = some r → r.length = sz) (hle : rows.length * sz ≤ cs.size)
  (h : ∀ (i : Nat) (r : List IV) (k : Nat) (a : IV), rows[i]? = some r → r[k]? = some a → RelI I' a (cs.getD (i * sz + k) undef)) :
  (∀ off len cap ex, off + len ≤ rows.length → len ≤ cap → (ex = true → cap = len) → RelI I' (.sl sz ((rows.drop off).take len) ex) (.slice (some ⟨b, off * sz, none⟩) len cap)) ∧
  (∀ r row k, rows[r]? = some row → RelI I' (.pt row k) (.pointer (some ⟨b, r * sz + k, none⟩))) := by
 have hlt : ∀ (i : Nat) (r : List IV) (k : Nat) (a : IV), rows[i]? = some r → r[k]? = some a → i * sz + k < cs.size := by
  intro i r k a hi ha
  have h1 := hr _ _ hi
  have h2 := (List.getElem?_eq_some_iff.1 hi).1
  have h3 := (List.getElem?_eq_some_iff.1 ha).1
  have : (i + 1) * sz ≤ rows.length * sz := Nat.mul_le_mul_right _ h2
  rw [Nat.add_mul] at this; omega
 constructor
 ·intro off len cap ex ho hc hx
  have hlen : ((rows.drop off).take len).length = len := by simp; omega
  have := RelI.sl (I := I') sz ((rows.drop off).take len) ex b (off * sz) cap cs elem fz (fun i k => cs.getD ((off + i) * sz + k) undef) hI (by omega) (fun he => by rw [hx he, hlen])
   (fun i r hi => hr _ _ (drop_take_get hi).1)
   (fun i r k a hi ha => by
    have h1 := (drop_take_get hi).1
    rw [show off * sz + i * sz + k = (off + i) * sz + k by rw [Nat.add_mul]]
    exact getD_eq _ _ (hlt _ _ _ _ h1 ha))
   (fun i r k a hi ha => h _ _ _ _ (drop_take_get hi).1 ha)
  rwa [hlen] at this
 ·intro r row k hrow
  exact .pt row k b (r * sz) cs elem fz (fun k => cs.getD (r * sz + k) undef) hI (fun k a ha => getD_eq _ _ (hlt _ _ _ _ hrow ha)) (fun k a ha => h _ _ _ _ hrow ha)

theorem set_get {H : Hp} {c : Nat} {x y : Chunk} {d : Nat} (h : (H.set c x)[d]? = some y) : (d = c ∧ y = x) ∨ (d ≠ c ∧ H[d]? = some y) := by
 by_cases hd : d = c
 ·subst hd
  rw [List.getElem?_set_self' ] at h
  cases hH : H[d]? with
  | none => rw [hH] at h; cases h
  | some z => rw [hH] at h; simp at h; exact .inl ⟨rfl, h.symm⟩
 ·rw [List.getElem?_set_ne (Ne.symm hd)] at h; exact .inr ⟨hd, h⟩

theorem freeze_ok (hC : Conc E I η H w) {a : AV} {y : Value} (r : RelA I η H a y) {x : IV} {H' : Hp} (h : freeze H a = some (x, H')) : After E I η H w H' w fun I' η' => RelI I' x y := by
 unfold freeze at h
 split at h
 ·cases h; exact After.refl hC (relA_i r)
 ·rename_i c g off len
  split at h
  ·rename_i sz g' rows ex hH
   split at h
   ·rename_i hg
    subst hg
    simp only [Option.some.injEq, Prod.mk.injEq] at h
    obtain ⟨rfl, rfl⟩ := h
    have hcl : c < H.length := (List.getElem?_eq_some_iff.1 hH).1
    obtain ⟨hz, hrl, hbk⟩ := hC.ch _ _ hH
    rcases hbk with ⟨hn, hr0⟩ | ⟨b, cs, elem, fz, hη, hw, hth, hsz, hxx, hcell⟩
    rotate_left
    have hz : 0 < sz := Nat.pos_of_ne_zero fun e => by rw [hz e] at hη; cases hη
    rotate_left
    ·-- nothing lies behind it
     subst hr0
     have nilR : ∀ (v : Value) off len, RefOk η c sz [] off len v → RelI I (.sl sz ((([] : List (List IV)).drop off).take len) (ex && decide (off + len = 0))) v := by
      intro v off len hro
      obtain ⟨h1, a, cap, rfl, h2⟩ := hro
      simp at h1
      obtain ⟨rfl, rfl⟩ := h1
      rcases h2 with ⟨_, rfl⟩ | ⟨b, n, he, _⟩
      ·simp; exact .nil _ _ _ _ (fun _ => rfl)
      ·rw [hn] at he; cases he
     have hm : Mono I η H I η (H.set c (.fz sz g [] ex)) := by
      refine mono_of (fun _ _ h => h) (by simp) fun d hd => ?_
      by_cases hdc : d = c
      ·subst hdc
       intro y hy
       rcases set_get hy with ⟨_, rfl⟩ | ⟨h1, _⟩
       ·right
        intro a v ha ra
        rcases ha with ⟨off, len, rfl⟩ | ⟨r, k, rfl⟩
        ·cases ra with
         | ref c g off len v hc hs hf hp hg =>
          refine .ref _ _ _ _ _ (by simpa using hcl) (fun _ _ _ h => by rcases set_get h with ⟨_, e⟩ | ⟨e, _⟩ <;> simp_all) (fun sz2 rows2 ex2 h => ?_) hp (fun _ _ _ _ h => by rcases set_get h with ⟨_, e⟩ | ⟨e, _⟩ <;> simp_all)
          rcases set_get h with ⟨_, e⟩ | ⟨e, _⟩
          ·cases e
           have := hs _ _ _ hH
           exact ⟨this.1, nilR _ _ _ this⟩
          ·exact absurd rfl e
        ·cases ra with
         | ptr c g r k v hc hb hs hf hi hp hg =>
          obtain ⟨b, n, he, _⟩ := hs _ _ _ hH
          rw [hn] at he; cases he
       ·exact absurd rfl h1
      ·exact CStep.same (by rw [List.getElem?_set_ne (Ne.symm hdc)]) rfl
     refine ⟨I, η, ⟨hC.imm, fun d x hd => ?_, hC.inj, fun d b n hd => by have := hC.sep d b n hd; simpa using this, hC.glob⟩, Trans.refl _ _ _, hm, ?_⟩
     ·rcases set_get hd with ⟨rfl, rfl⟩ | ⟨h1, h2⟩
      ·exact hn
      ·exact (hC.ch _ _ h2).mono rfl (fun _ _ h => h) hm (fun _ _ _ => rfl)
     ·cases r with
      | ref c g off len v hc hs hf hp hg => exact nilR _ _ _ (hs _ _ _ hH)
    ·-- its block is held fast from now on
     let I' : Imm := fun b' => if b' = b then some (.cells cs elem fz) else I b'
     let η' : Eta := fun d => if d = c then none else η d
     have hIb : I' b = some (.cells cs elem fz) := by simp [I']
     have hle : I.le I' := by
      intro b' o hb
      by_cases hbb : b' = b
      ·subst hbb; have := (hC.sep _ _ _ hη).1; rw [this] at hb; cases hb
      ·simp [I', hbb, hb]
     obtain ⟨hsl, hpt⟩ := rel_rows (I' := I') hIb hrl hsz (fun i r k a hi ha => (hcell i r k a hi ha).mono hle)
     have slR : ∀ (v : Value) off len, RefOk η c sz rows off len v → RelI I' (.sl sz ((rows.drop off).take len) (ex && decide (off + len = rows.length))) v := by
      intro v off len hro
      obtain ⟨h1, a, cap, rfl, h2⟩ := hro
      rcases h2 with ⟨he, _⟩ | ⟨b2, n2, he, h3, h4, h5⟩
      ·rw [hη] at he; cases he
      ·rw [hη] at he; cases he
       have hcap : len ≤ cap := by omega
       have hexc : (ex && decide (off + len = rows.length)) = true → cap = len := by
        intro he
        simp only [Bool.and_eq_true, decide_eq_true_eq] at he
        rw [hxx he.1] at h4
        have := Nat.le_of_mul_le_mul_right h4 hz
        omega
       rcases h5 with rfl | ⟨rfl, rfl⟩
       ·exact hsl off len cap _ h1 hcap hexc
       ·simp; exact .nil _ _ _ _ (fun _ => rfl)
     have hm : Mono I η H I' η' (H.set c (.fz sz g rows ex)) := by
      refine mono_of hle (by simp) fun d hd => ?_
      by_cases hdc : d = c
      ·subst hdc
       intro y hy
       rcases set_get hy with ⟨_, rfl⟩ | ⟨h1, _⟩
       ·right
        intro a v ha ra
        rcases ha with ⟨off, len, rfl⟩ | ⟨r, k, rfl⟩
        ·cases ra with
         | ref c g off len v hc hs hf hp hg =>
          refine .ref _ _ _ _ _ (by simpa using hcl) (fun _ _ _ h => by rcases set_get h with ⟨_, e⟩ | ⟨e, _⟩ <;> simp_all) (fun sz2 rows2 ex2 h => ?_) hp (fun _ _ _ _ h => by rcases set_get h with ⟨_, e⟩ | ⟨e, _⟩ <;> simp_all)
          rcases set_get h with ⟨_, e⟩ | ⟨e, _⟩
          ·cases e
           have := hs _ _ _ hH
           exact ⟨this.1, slR _ _ _ this⟩
          ·exact absurd rfl e
        ·cases ra with
         | ptr c g r k v hc hb hs hf hi hp hg =>
          refine .ptr _ _ _ _ _ (by simpa using hcl) (fun _ h => by rcases set_get h with ⟨_, e⟩ | ⟨e, _⟩ <;> simp_all) (fun _ _ _ h => by rcases set_get h with ⟨_, e⟩ | ⟨e, _⟩ <;> simp_all) (fun sz2 rows2 ex2 row h hrow => ?_) (fun _ _ h => by rcases set_get h with ⟨_, e⟩ | ⟨e, _⟩ <;> simp_all) hp (fun _ _ _ _ h => by rcases set_get h with ⟨_, e⟩ | ⟨e, _⟩ <;> simp_all)
          rcases set_get h with ⟨_, e⟩ | ⟨e, _⟩
          ·cases e
           obtain ⟨b2, n2, he, rfl⟩ := hs _ _ _ hH
           rw [hη] at he; cases he
           exact hpt _ _ _ hrow
          ·exact absurd rfl e
       ·exact absurd rfl h1
      ·exact CStep.same (by rw [List.getElem?_set_ne (Ne.symm hdc)]) (by simp [η', hdc])
     refine ⟨I', η', ⟨fun b' o hb => ?_, fun d x hd => ?_, fun d d' b' n n' h1 h2 => ?_, fun d b' n hd => ?_, fun g cells hg => (hC.glob g cells hg).mono hle⟩,
      ⟨rfl, rfl, rfl, Nat.le_refl _, fun _ _ _ => rfl, hle, fun b' hb => ?_, fun d b' n hd => ?_⟩, hm, ?_⟩
     ·by_cases hbb : b' = b
      ·subst hbb; rw [hIb] at hb; cases hb; exact hw
      ·simp [I', hbb] at hb; exact hC.imm _ _ hb
     ·rcases set_get hd with ⟨rfl, rfl⟩ | ⟨h1, h2⟩
      ·show η' d = none; simp [η']
      ·exact (hC.ch _ _ h2).mono (by simp [η', h1]) hle hm (fun _ _ _ => rfl)
     ·by_cases h3 : d = c
      ·simp [η', h3] at h1
      ·by_cases h4 : d' = c
       ·simp [η', h4] at h2
       ·simp [η', h3] at h1; simp [η', h4] at h2; exact hC.inj _ _ _ _ _ h1 h2
     ·by_cases h3 : d = c
      ·simp [η', h3] at hd
      ·simp [η', h3] at hd
       obtain ⟨h4, h5, h6⟩ := hC.sep _ _ _ hd
       have hbb : b' ≠ b := fun e => h3 (hC.inj _ _ _ _ _ (e ▸ hd) hη)
       exact ⟨by simp [I', hbb, h4], h5, by simpa using h6⟩
     ·by_cases hbb : b' = b
      ·exact .inr (.inr ⟨c, _, by rw [hbb]; exact hη⟩)
      ·simp [I', hbb] at hb; exact .inl (by simpa using hb)
     ·by_cases h3 : d = c
      ·simp [η', h3] at hd
      ·simp [η', h3] at hd; exact .inr ⟨_, _, hd⟩
     ·cases r with
      | ref c g off len v hc hs hf hp hg => exact slR _ _ _ (hs _ _ _ hH)
   ·cases h
  ·rename_i sz g' rows ex hH
   split at h
   ·rename_i hg
    subst hg
    simp only [Option.some.injEq, Prod.mk.injEq] at h
    obtain ⟨rfl, rfl⟩ := h
    cases r with
    | ref c g off len v hc hs hf hp hg => exact After.refl hC (hf _ _ _ hH).2
   ·cases h
  ·cases h
 ·cases h
end
end Go.VI

set_option linter.unusedSimpArgs false
set_option linter.unusedVariables false
namespace Go.VI
section
variable {E : Env} {I : Imm} {η : Eta} {H : Hp} {w : World}

theorem relI_one {x : IV} {y : Value} (h : RelI I x y) : y.oneCell' = true := by
 cases h with
 | v _ h => exact h
 | _ => rfl

def Flat (sz : Nat) (rows : List (List IV)) : Prop := ∀ (i : Nat) (r : List IV), rows[i]? = some r → r.length = sz
theorem Flat.cons {sz : Nat} {r : List IV} {rows : List (List IV)} (h : Flat sz (r :: rows)) : r.length = sz ∧ Flat sz rows := ⟨h 0 r rfl, fun i s hs => h (i + 1) s (by simpa using hs)⟩
theorem Flat.length {sz : Nat} : ∀ {rows : List (List IV)}, Flat sz rows → rows.flatten.length = rows.length * sz
 | [], _ => by simp
 | r :: rows, h => by rw [List.flatten_cons, List.length_append, h.cons.1, Flat.length h.cons.2, List.length_cons, Nat.add_mul]; omega
theorem Flat.get {sz : Nat} : ∀ {rows : List (List IV)}, Flat sz rows → ∀ {i : Nat} {r : List IV} {k : Nat} {a : IV}, rows[i]? = some r → r[k]? = some a → rows.flatten[i * sz + k]? = some a
 | [], _, i, r, k, a, hi, _ => by simp at hi
 | s :: rows, h, 0, r, k, a, hi, ha => by
  simp at hi; subst hi
  rw [List.flatten_cons, Nat.zero_mul, Nat.zero_add, List.getElem?_append_left (List.getElem?_eq_some_iff.1 ha).1]; exact ha
 | s :: rows, h, i + 1, r, k, a, hi, ha => by
  rw [List.flatten_cons, List.getElem?_append_right (by rw [h.cons.1, Nat.add_mul]; omega), h.cons.1]
  rw [← Flat.get h.cons.2 (i := i) (by simpa using hi) ha]
  congr 1; rw [Nat.add_mul]; omega
theorem Flat.append {sz : Nat} {a b : List (List IV)} (ha : Flat sz a) (hb : Flat sz b) : Flat sz (a ++ b) := by
 intro i r h
 rw [List.getElem?_append] at h
 split at h
 ·exact ha _ _ h
 ·exact hb _ _ h
theorem Flat.take {sz n : Nat} {a : List (List IV)} (ha : Flat sz a) : Flat sz (a.take n) := by
 intro i r h
 rw [List.getElem?_take] at h
 split at h
 ·exact ha _ _ h
 ·cases h
theorem Flat.drop {sz n : Nat} {a : List (List IV)} (ha : Flat sz a) : Flat sz (a.drop n) := by
 intro i r h
 rw [List.getElem?_drop] at h
 exact ha _ _ h
def CellsI (I : Imm) (l : List IV) (cs : Array Value) : Prop := ∀ (j : Nat) (v : IV), l[j]? = some v → RelI I v (cs.getD j undef)
theorem CellsI.rows {sz : Nat} {rows : List (List IV)} {cs : Array Value} (hf : Flat sz rows) (h : CellsI I rows.flatten cs) :
  ∀ (i : Nat) (r : List IV) (k : Nat) (a : IV), rows[i]? = some r → r[k]? = some a → RelI I a (cs.getD (i * sz + k) undef) := fun i r k a hi ha => h _ _ (hf.get hi ha)

theorem flat_rev {sz : Nat} (hz : 0 < sz) {rows : List (List IV)} (hf : Flat sz rows) {j : Nat} (hj : j < rows.length * sz) : ∃ r a, rows[j / sz]? = some r ∧ r[j % sz]? = some a ∧ rows.flatten[j]? = some a := by
 have h1 : j / sz < rows.length := (Nat.div_lt_iff_lt_mul hz).2 hj
 have h2 := hf _ _ (List.getElem?_eq_getElem h1)
 have h3 : j % sz < rows[j / sz].length := by rw [h2]; exact Nat.mod_lt _ hz
 refine ⟨_, _, List.getElem?_eq_getElem h1, List.getElem?_eq_getElem h3, ?_⟩
 have := hf.get (List.getElem?_eq_getElem h1) (List.getElem?_eq_getElem h3)
 rwa [show j / sz * sz + j % sz = j by rw [Nat.mul_comm]; exact Nat.div_add_mod _ _] at this

theorem load_rows {P : Program} {sz : Nat} {rows : List (List IV)} {b o : Nat} (hz : 0 < sz) (hf : Flat sz rows)
  (h : ∀ (j : Nat) (v : IV), rows.flatten[j]? = some v → ∃ cv, w.cell? ⟨b, o + j, none⟩ = some cv ∧ RelI I v cv) :
  ∃ cs : Array Value, (∀ w' : World, w'.heap = w.heap → (loadCells ⟨b, o, none⟩ (rows.length * sz)).run P w' = .ok cs w') ∧ cs.size = rows.length * sz ∧ CellsI I rows.flatten cs := by
 refine ⟨((List.range (rows.length * sz)).map fun j => (w.cell? ⟨b, o + j, none⟩).getD undef).toArray, fun w' hw' => run_loadCells w' _ _ _ fun j hj => ?_, by simp, fun j v hv => ?_⟩
 ·obtain ⟨r, a, _, _, h3⟩ := flat_rev hz hf hj
  obtain ⟨cv, h4, _⟩ := h _ _ h3
  have e : w'.cell? ⟨b, o + j, none⟩ = w.cell? ⟨b, o + j, none⟩ := by simp [World.cell?, hw']
  rw [add_none, e, h4]; rfl
 ·have hj := (List.getElem?_eq_some_iff.1 hv).1
  rw [hf.length] at hj
  obtain ⟨cv, h4, h5⟩ := h _ _ hv
  have : ((List.range (rows.length * sz)).map fun j => (w.cell? ⟨b, o + j, none⟩).getD undef).toArray.getD j undef = cv := by
   simp [Array.getD_eq_getD_getElem?, hj, h4]
  rw [this]; exact h5

theorem relI_src {P : Program} (hi : ∀ b o, I b = some o → w.heap[b]? = some o) {sz : Nat} {rows : List (List IV)} {ex : Bool} {y : Value} (hz : 0 < sz) (h : RelI I (.sl sz rows ex) y) :
  ∃ cs : Array Value, (∀ w' : World, (Builtin.lenOf y).run P w' = .ok rows.length w') ∧ (∀ w' : World, w'.heap = w.heap → (Builtin.firstCells sz rows.length y).run P w' = .ok cs w') ∧ cs.size = rows.length * sz ∧ CellsI I rows.flatten cs ∧ Flat sz rows := by
 cases h with
 | nil sz ex a cap hx =>
  refine ⟨#[], by simp [Builtin.lenOf], fun w' _ => ?_, by simp, fun j v h => by simp at h, fun i r h => by simp at h⟩
  cases a <;> simp [Builtin.firstCells, loadCells, loadCellsFrom]
 | sl sz rows ex b off cap cs elem fz cv hI hc hx hr h1 h2 =>
  have hf : Flat sz rows := hr
  obtain ⟨ds, h3, h4, h5⟩ := load_rows (P := P) (w := w) (I := I) (b := b) (o := off) hz hf (fun j v hv => by
   have hj := (List.getElem?_eq_some_iff.1 hv).1
   rw [hf.length] at hj
   obtain ⟨r, a, e1, e2, e3⟩ := flat_rev hz hf hj
   rw [hv] at e3; cases e3
   have := h1 _ _ _ _ e1 e2
   rw [show off + j / sz * sz + j % sz = off + j by rw [Nat.add_assoc]; congr 1; rw [Nat.mul_comm]; exact Nat.div_add_mod _ _] at this
   exact ⟨_, by rw [cell_of (hi _ _ hI)]; exact this, h2 _ _ _ _ e1 e2⟩)
  exact ⟨ds, by simp [Builtin.lenOf], h3, h4, h5, hf⟩

theorem own_read {P : Program} {sz : Nat} {rows : List (List IV)} {b : Nat} {cs : Array Value} {elem : TypeId} {fz : Nat × Nat} (hz : 0 < sz) (hf : Flat sz rows) (hw : w.heap[b]? = some (.cells cs elem fz))
  (hle : rows.length * sz ≤ cs.size) (hc : ∀ (i : Nat) (r : List IV) (k : Nat) (a : IV), rows[i]? = some r → r[k]? = some a → RelI I a (cs.getD (i * sz + k) undef)) (off len : Nat) (ho : off + len ≤ rows.length) :
  ∃ ds : Array Value, (∀ w' : World, w'.heap = w.heap → (loadCells ⟨b, off * sz, none⟩ (len * sz)).run P w' = .ok ds w') ∧ ds.size = len * sz ∧ CellsI I ((rows.drop off).take len).flatten ds := by
 have hf' : Flat sz ((rows.drop off).take len) := hf.drop.take
 have hlen : ((rows.drop off).take len).length = len := by simp; omega
 have := load_rows (P := P) (w := w) (I := I) (b := b) (o := off * sz) hz hf' (fun j v hv => by
  have hj := (List.getElem?_eq_some_iff.1 hv).1
  rw [hf'.length, hlen] at hj
  obtain ⟨r, a, e1, e2, e3⟩ := flat_rev hz hf' (by rw [hlen]; exact hj)
  rw [hv] at e3; cases e3
  have e4 := (drop_take_get e1).1
  have e5 : (off + j / sz) * sz + j % sz = off * sz + j := by rw [Nat.add_mul, Nat.add_assoc]; congr 1; rw [Nat.mul_comm]; exact Nat.div_add_mod _ _
  have hlt : off * sz + j < cs.size := by
   have : (off + len) * sz ≤ rows.length * sz := Nat.mul_le_mul_right _ ho
   rw [Nat.add_mul] at this; omega
  have := hc _ _ _ _ e4 e2
  rw [e5] at this
  exact ⟨_, by rw [cell_of hw]; exact getD_eq _ _ hlt, this⟩)
 rwa [hlen] at this

theorem flat_one {α β : Type} (f : α → β) : ∀ l : List α, (l.map fun b => [f b]).flatten = l.map f
 | [] => rfl
 | b :: l => by simp only [List.map_cons, List.flatten_cons, List.singleton_append, flat_one f l]
theorem src_ok {P : Program} (hC : Conc E I η H w) {x : AV} {y : Value} (r : RelA I η H x y) {z : Nat} {rows : List (List IV)} {ex : Bool} (h : srcE H x = some (z, rows, ex)) {size : Nat} (hs : rows = [] ∨ z = size) (hz : 0 < size) :
  ∃ cs : Array Value, (∀ w' : World, (Builtin.lenOf y).run P w' = .ok rows.length w') ∧ (∀ w' : World, w'.heap = w.heap → (Builtin.firstCells size rows.length y).run P w' = .ok cs w') ∧ cs.size = rows.length * size ∧ CellsI I rows.flatten cs ∧ Flat size rows := by
 have emp : ∀ (y : Value), rows = [] → (∃ a cap, y = .slice a 0 cap) → ∃ cs : Array Value, (∀ w' : World, (Builtin.lenOf y).run P w' = .ok rows.length w') ∧ (∀ w' : World, w'.heap = w.heap → (Builtin.firstCells size rows.length y).run P w' = .ok cs w') ∧ cs.size = rows.length * size ∧ CellsI I rows.flatten cs ∧ Flat size rows := by
  rintro y rfl ⟨a, cap, rfl⟩
  refine ⟨#[], by simp [Builtin.lenOf], fun w' _ => ?_, by simp, fun j v h => by simp at h, fun i r h => by simp at h⟩
  cases a <;> simp [Builtin.firstCells, loadCells, loadCellsFrom]
 unfold srcE at h
 split at h
 ·rename_i l
  cases h
  rw [relA_str r]
  have hsz : l = [] ∨ 1 = size := by simpa using hs
  have hfl := flat_one (fun b : UInt8 => IV.v (.int .u8 b.toNat)) l
  refine ⟨(l.map fun b => Value.int .u8 b.toNat).toArray, by simp [Builtin.lenOf, size_mk], ?_, ?_, ?_, ?_⟩
  ·intro w' _
   simp only [Builtin.firstCells, Sem.run_pure, List.length_map]
   congr 1
   rw [extract_mk]
   simp
  ·rcases hsz with e | e
   ·subst e; simp
   ·subst e; simp
  ·rw [hfl]
   intro j v hv
   simp only [List.getElem?_map, Option.map_eq_some_iff] at hv
   obtain ⟨b, hb, rfl⟩ := hv
   have : ((l.map fun b => Value.int .u8 b.toNat).toArray).getD j undef = .int .u8 b.toNat := by
    simp [Array.getD_eq_getD_getElem?, hb]
   rw [this]; exact .v _ rfl
  ·intro i r hi
   simp only [List.getElem?_map, Option.map_eq_some_iff] at hi
   obtain ⟨b, hb, rfl⟩ := hi
   rcases hsz with e | e
   ·subst e; simp at hb
   ·simpa using e
 ·unfold rowsE at h
  split at h
  ·cases h
   rcases hs with e | rfl
   ·refine emp y e ?_
    obtain ⟨a, cap, rfl⟩ := sl_len (relA_i r)
    exact ⟨a, cap, by rw [e]; rfl⟩
   ·exact relI_src hC.imm hz (relA_i r)
  ·rename_i c g off len _
   split at h
   ·rename_i sz g' rows' ex' hH
    split at h
    ·rename_i hg
     subst hg
     cases h
     cases r with
     | ref c g off len v hc hs' hf' hp hg =>
      obtain ⟨hle, a, cap, rfl, hbk⟩ := hs' _ _ _ hH
      have hlen : ((rows'.drop off).take len).length = len := by simp; omega
      rcases hs with e | rfl
      ·refine emp _ e ⟨a, cap, ?_⟩
       rw [e] at hlen; simp at hlen; rw [← hlen]
      ·obtain ⟨hz0, hfl, h3⟩ := hC.ch _ _ hH
       rcases hbk with ⟨he, hc0⟩ | ⟨b, m, he, h1, h2, h4⟩
       ·rcases h3 with ⟨_, h5⟩ | ⟨b, _, _, _, h5, _⟩
        ·subst h5; simp at hle; obtain ⟨rfl, rfl⟩ := hle
         exact emp _ (by simp) ⟨_, _, rfl⟩
        ·rw [he] at h5; cases h5
       ·rcases h3 with ⟨h5, _⟩ | ⟨b', cs, elem, fz, h5, h6, h7, h8, h9, h10⟩
        ·rw [he] at h5; cases h5
        ·rw [he] at h5; cases h5
         rcases h4 with rfl | ⟨rfl, rfl⟩
         ·obtain ⟨ds, e1, e2, e3⟩ := own_read (P := P) (I := I) hz hfl h6 h8 h10 off len hle
          refine ⟨ds, by rw [hlen]; simp [Builtin.lenOf], fun w' hw' => by rw [hlen]; exact e1 w' hw', by rw [hlen]; exact e2, e3, Flat.take (Flat.drop hfl)⟩
         ·exact emp _ (by simp) ⟨_, _, rfl⟩
    ·cases h
   ·rename_i sz g' rows' ex' hH
    split at h
    ·rename_i hg
     subst hg
     cases h
     cases r with
     | ref c g off len v hc hs' hf' hp hg =>
      obtain ⟨hle, rI⟩ := hf' _ _ _ hH
      rcases hs with e | rfl
      ·refine emp _ e ?_
       obtain ⟨a, cap, rfl⟩ := sl_len rI
       exact ⟨a, cap, by rw [e]; rfl⟩
      ·exact relI_src hC.imm hz rI
    ·cases h
   ·cases h
  ·cases h

def etaNew (η : Eta) (c b n : Nat) : Eta := fun d => if d = c then some (b, n) else η d
theorem new_ok (hC : Conc E I η H w) {w' : World} {cs : Array Value} {elem : TypeId} {fz : Nat × Nat} (hw : w'.heap = w.heap.push (.cells cs elem fz)) (ho : w'.os = w.os) (ht : w'.tape = w.tape) (hu : w'.output = w.output) (ch : Chunk)
  (hch : Mono I η H I (etaNew η H.length w.heap.size cs.size) (H ++ [ch]) → ChunkOK I (etaNew η H.length w.heap.size cs.size) (H ++ [ch]) w' H.length ch) {Q : Imm → Eta → Prop}
  (hQ : Mono I η H I (etaNew η H.length w.heap.size cs.size) (H ++ [ch]) → Q I (etaNew η H.length w.heap.size cs.size)) : After E I η H w (H ++ [ch]) w' Q := by
 have hold : ∀ b, b < w.heap.size → w'.heap[b]? = w.heap[b]? := by
  intro b hb
  rw [hw, Array.getElem?_push, if_neg (by omega)]
 have hnew : ∀ d, H.length ≤ d → η d = none := by
  intro d hd
  cases h : η d with
  | none => rfl
  | some p => have := (hC.sep d p.1 p.2 h).2.2; omega
 have hm : Mono I η H I (etaNew η H.length w.heap.size cs.size) (H ++ [ch]) := by
  refine mono_of (fun _ _ h => h) (by simp) fun c hc => ?_
  exact CStep.same (by rw [List.getElem?_append_left hc]) (by simp [etaNew, show c ≠ H.length by omega])
 have hin : ∀ c b n, etaNew η H.length w.heap.size cs.size c = some (b, n) → (c = H.length ∧ b = w.heap.size ∧ n = cs.size) ∨ η c = some (b, n) := by
  intro c b n h
  unfold etaNew at h
  split at h
  ·cases h; exact .inl ⟨by assumption, rfl, rfl⟩
  ·exact .inr h
 refine ⟨I, etaNew η H.length w.heap.size cs.size, ⟨fun b o hb => ?_, fun c x hx => ?_, fun c c' b n n' h1 h2 => ?_, fun c b n h => ?_, hC.glob⟩, ⟨ho, ht, hu, by rw [hw]; simp, fun b hb _ => hold b hb, fun _ _ h => h, fun b h => .inl h, fun c b n h => ?_⟩, hm, hQ hm⟩
 ·have := hC.imm b o hb
  have hlt : b < w.heap.size := (Array.getElem?_eq_some_iff.1 this).1
  rw [hold b hlt]; exact this
 ·by_cases hc : c < H.length
  ·rw [List.getElem?_append_left hc] at hx
   refine (hC.ch c x hx).mono (by simp [etaNew, show c ≠ H.length by omega]) (fun _ _ h => h) hm fun b n h => hold b (hC.sep _ _ _ h).2.1
  ·have : c = H.length := by
    have := (List.getElem?_eq_some_iff.1 hx).1
    simp at this; omega
   subst this
   simp at hx; subst hx
   exact hch hm
 ·rcases hin _ _ _ h1 with ⟨rfl, rfl, rfl⟩ | e1
  ·rcases hin _ _ _ h2 with ⟨e, _, _⟩ | e2
   ·exact e.symm
   ·have := (hC.sep _ _ _ e2).2.1; omega
  ·rcases hin _ _ _ h2 with ⟨e, rfl, _⟩ | e2
   ·have := (hC.sep _ _ _ e1).2.1; omega
   ·exact hC.inj _ _ _ _ _ e1 e2
 ·rcases hin _ _ _ h with ⟨rfl, rfl, rfl⟩ | e1
  ·refine ⟨?_, by rw [hw]; simp, by simp⟩
   cases hI : I w.heap.size with
   | none => rfl
   | some o => have := hC.imm _ _ hI; simp at this
  ·have := hC.sep _ _ _ e1
   exact ⟨this.1, by rw [hw]; simp; omega, by simp; omega⟩
 ·rcases hin _ _ _ h with ⟨rfl, rfl, rfl⟩ | e1
  ·exact .inl (Nat.le_refl _)
  ·exact .inr ⟨_, _, e1⟩

theorem thaw0 (n : Nat) : Thaw (0, 0) n := fun k _ h => by simp at h
theorem heap_push_new {w w' : World} {o : Obj} (hw : w'.heap = w.heap.push o) : w'.heap[w.heap.size]? = some o := by rw [hw]; simp

theorem new_box (hC : Conc E I η H w) {a : AV} {y : Value} (r : RelA I η H a y) (ho : (cellsA a).all one = true) (t : TypeId) :
  ∃ x w', (Instr.box t y).run E.P w = .ok x w' ∧ After E I η H w (H ++ [.box (cellsA a)]) w' fun I' η' => RelA I' η' (H ++ [.box (cellsA a)]) (.ptr H.length 0 0 0) x := by
 obtain ⟨h1, h2, h3⟩ := cells_ok r ho
 refine ⟨.pointer (some ⟨w.heap.size, 0, none⟩), { w with heap := w.heap.push (.cells y.cells t) }, by simp [Instr.box, newVar, newRow], ?_⟩
 refine new_ok (w' := { w with heap := w.heap.push (.cells y.cells t) }) hC rfl rfl rfl rfl _ (fun hm => ?_) (fun hm => ?_)
 ·exact ⟨w.heap.size, y.cells, t, (0, 0), by simp [etaNew], heap_push_new rfl, thaw0 _, h1, fun k c hc => hm _ _ (h2 k c hc)⟩
 ·refine .ptr _ _ _ _ _ (by simp) (fun cells h => ⟨w.heap.size, y.cells.size, by simp [etaNew], rfl⟩) (fun _ _ _ h => by simp at h) (fun _ _ _ _ h => by simp at h) (fun _ _ h => by simp at h) ⟨_, rfl⟩ (fun _ _ _ _ h => by simp at h)

theorem new_tb (hC : Conc E I η H w) {cells : List AV} {y : Value} (r : y.cells.size = cells.length ∧ ∀ (k : Nat) (a : AV), cells[k]? = some a → ∀ I' η' H', RelA I' η' H' a (y.cells.getD k undef)) (t : TypeId) :
  ∃ x w', (Instr.box t y).run E.P w = .ok x w' ∧ After E I η H w (H ++ [.tb t cells]) w' fun I' η' => RelA I' η' (H ++ [.tb t cells]) (.mref H.length) x := by
 obtain ⟨h1, h2⟩ := r
 refine ⟨.pointer (some ⟨w.heap.size, 0, none⟩), { w with heap := w.heap.push (.cells y.cells t) }, by simp [Instr.box, newVar, newRow], ?_⟩
 refine new_ok (w' := { w with heap := w.heap.push (.cells y.cells t) }) hC rfl rfl rfl rfl _ (fun hm => ?_) (fun hm => ?_)
 ·exact ⟨w.heap.size, y.cells, by simp [etaNew], heap_push_new rfl, h1, fun k c hc => h2 k c hc _ _ _⟩
 ·refine .mref _ _ (by simp) (fun _ h => by simp at h) (fun _ _ h => ⟨w.heap.size, y.cells.size, by simp [etaNew], rfl⟩) (fun _ _ h => by simp at h) rfl (fun _ _ _ _ h => by simp at h)
theorem zcells_ok {P : Program} {t : TypeId} {zv : Value} (hz : (P.info? t).bind (·.zero) = some zv) (h : zone P t = true) : zv.cells.size = (zcells P t).length ∧ ∀ (k : Nat) (a : AV), (zcells P t)[k]? = some a → ∀ I η H, RelA I η H a (zv.cells.getD k undef) := by
 unfold zone at h
 unfold zcells
 rw [hz] at h ⊢
 cases zv with
 | agg cs =>
  simp only at h ⊢
  refine ⟨by simp [Value.cells], fun k a hk I η H => ?_⟩
  simp only [List.getElem?_map, Option.map_eq_some_iff] at hk
  obtain ⟨x, hx, rfl⟩ := hk
  have h1 := List.all_eq_true.1 h x (List.mem_of_getElem? hx)
  have h2 : cs[k]? = some x := by simpa using hx
  have : (Value.cells (.agg cs)).getD k undef = x := by simp [Value.cells, Array.getD_eq_getD_getElem?, h2]
  rw [this]
  exact .i _ _ (.v _ h1)
 | _ => simp at h

theorem new_row (hC : Conc E I η H w) {w' : World} {cs : Array Value} {elem : TypeId} {fz : Nat × Nat} (hw : w'.heap = w.heap.push (.cells cs elem fz)) (ho : w'.os = w.os) (ht : w'.tape = w.tape) (hu : w'.output = w.output)
  {sz : Nat} {rows : List (List IV)} {ex : Bool} (hz : 0 < sz) (hf : Flat sz rows) (hc : CellsI I rows.flatten cs) (hle : rows.length * sz ≤ cs.size) (hx : ex = true → cs.size = rows.length * sz) (hth : Thaw fz cs.size)
  {n cap : Nat} (hn : n ≤ rows.length) (hcap : rows.length ≤ cap) (hcs : cap * sz ≤ cs.size) :
  After E I η H w (H ++ [.sl sz 0 rows ex]) w' fun I' η' => RelA I' η' (H ++ [.sl sz 0 rows ex]) (.ref H.length 0 0 n) (.slice (some ⟨w.heap.size, 0, none⟩) n cap) := by
 refine new_ok hC hw ho ht hu _ (fun hm => ?_) (fun hm => ?_)
 ·exact ⟨fun e => by omega, hf, .inr ⟨w.heap.size, cs, elem, fz, by simp [etaNew], heap_push_new hw, hth, hle, hx, CellsI.rows hf hc⟩⟩
 ·refine .ref _ _ _ _ _ (by simp) (fun sz2 rows2 ex2 h => ?_) (fun _ _ _ h => by simp at h) ⟨_, _, rfl⟩ (fun _ _ _ _ h => by omega)
  simp at h
  obtain ⟨rfl, rfl, rfl⟩ := h
  exact ⟨by omega, _, _, rfl, .inr ⟨w.heap.size, cs.size, by simp [etaNew], by omega, by simpa using hcs, .inl (by simp)⟩⟩

theorem After.trans {H' H'' : Hp} {w' w'' : World} {Q Q' : Imm → Eta → Prop} (h : After E I η H w H' w' Q) (k : ∀ I' η', Conc E I' η' H' w' → I.le I' → Mono I η H I' η' H' → Q I' η' → After E I' η' H' w' H'' w'' Q') : After E I η H w H'' w'' Q' := by
 obtain ⟨I', η', h1, h2, h3, h4⟩ := h
 obtain ⟨I'', η'', k1, k2, k3, k4⟩ := k I' η' h1 h2.imm h3 h4
 exact ⟨I'', η'', k1, h2.trans k2, h3.trans k3, k4⟩
theorem freezeAll_ok : ∀ {I : Imm} {η : Eta} {H : Hp} (hC : Conc E I η H w) {l : List AV} (f : Nat → Value) (r : ∀ (k : Nat) (a : AV), l[k]? = some a → RelA I η H a (f k)) {xs : List IV} {H' : Hp} (h : freezeAll H l = some (xs, H')),
  After E I η H w H' w fun I' η' => xs.length = l.length ∧ ∀ (k : Nat) (x : IV), xs[k]? = some x → RelI I' x (f k)
 | I, η, H, hC, [], f, r, xs, H', h => by
  simp only [freezeAll, Option.some.injEq, Prod.mk.injEq] at h
  obtain ⟨rfl, rfl⟩ := h
  exact After.refl hC ⟨rfl, fun k x hx => by simp at hx⟩
 | I, η, H, hC, a :: l, f, r, xs, H', h => by
  simp only [freezeAll] at h
  split at h
  ·rename_i x H1 h1
   split at h
   ·rename_i ys H2 h2
    simp only [Option.some.injEq, Prod.mk.injEq] at h
    obtain ⟨rfl, rfl⟩ := h
    refine (freeze_ok hC (r 0 a rfl) h1).trans fun I1 η1 hC1 _ hm hx => ?_
    refine (freezeAll_ok hC1 (fun k => f (k + 1)) (fun k b hb => hm _ _ (r (k + 1) b (by simpa using hb))) h2).imp fun I2 η2 hI _ hy => ?_
    refine ⟨by simp [hy.1], fun k y hk => ?_⟩
    cases k with
    | zero => simp at hk; subst hk; exact hx.mono hI
    | succ k => exact hy.2 k y (by simpa using hk)
   ·cases h
  ·cases h

theorem canI_ok {I : Imm} {k : Option Nat} {x : IV} {v : Value} (r : RelI I x v) : RelI I (canI k x) v := by
 cases k with
 | none => cases x <;> exact r
 | some z =>
  cases x with
  | sl sz rows ex =>
   have weak : ∀ sz', (rows = [] ∨ sz' = sz) → RelI I (.sl sz' rows false) v := by
    intro sz' hs
    cases r with
    | nil _ _ a cap h => exact .nil _ _ _ _ (fun h => by cases h)
    | sl _ _ _ b off cap cs elem fz cv hI hc hx hr h1 h2 =>
     rcases hs with hs | rfl
     ·subst hs
      exact .nil _ _ _ _ (fun h => by cases h)
     ·exact .sl _ _ _ b off cap cs elem fz cv hI hc (fun h => by cases h) hr h1 h2
   simp only [canI]
   split
   ·rename_i e; subst e; exact weak _ (.inr rfl)
   ·split
    ·rename_i e; subst e; exact weak _ (.inl rfl)
    ·exact weak _ (.inr rfl)
  | _ => exact r
theorem canR_len : ∀ (ks : List (Option Nat)) (l : List IV), (canR ks l).length = l.length
 | [], l => rfl
 | k :: ks, [] => rfl
 | k :: ks, x :: l => by simp [canR, canR_len ks l]
theorem canR_get : ∀ (ks : List (Option Nat)) (l : List IV) (i : Nat) (y : IV), (canR ks l)[i]? = some y → ∃ k x, l[i]? = some x ∧ y = canI k x
 | [], l, i, y, h => ⟨none, y, h, by cases y <;> rfl⟩
 | k :: ks, [], i, y, h => by simp [canR] at h
 | k :: ks, x :: l, 0, y, h => by simp [canR] at h; exact ⟨k, x, rfl, h.symm⟩
 | k :: ks, x :: l, i + 1, y, h => by simpa using canR_get ks l i y (by simpa [canR] using h)
theorem canR_ok {I : Imm} {ks : List (Option Nat)} {xs : List IV} {n : Nat} {f : Nat → Value} (h : xs.length = n ∧ ∀ (k : Nat) (x : IV), xs[k]? = some x → RelI I x (f k)) : (canR ks xs).length = n ∧ ∀ (k : Nat) (x : IV), (canR ks xs)[k]? = some x → RelI I x (f k) :=
 ⟨by rw [canR_len]; exact h.1, fun k x hx => by obtain ⟨o, y, hy, rfl⟩ := canR_get _ _ _ _ hx; exact canI_ok (h.2 k y hy)⟩

theorem chop_spec (z : Nat) : ∀ (n : Nat) (l : List IV), l.length = n * z → (chop z n l).length = n ∧ (chop z n l).flatten = l ∧ Flat z (chop z n l)
 | 0, l, h => by
  have : l = [] := by simpa using h
  subst this
  exact ⟨rfl, rfl, fun i r hi => by simp [chop] at hi⟩
 | n + 1, l, h => by
  obtain ⟨h1, h2, h3⟩ := chop_spec z n (l.drop z) (by simp [h, Nat.add_mul])
  refine ⟨by simp [chop, h1], by simp [chop, h2], fun i r hi => ?_⟩
  cases i with
  | zero => simp [chop] at hi; subst hi; simp; rw [h, Nat.add_mul]; omega
  | succ i => exact h3 i r (by simpa [chop] using hi)

theorem rep_cells {l : List AV} {cs : Array Value} (h : CellsOK I η H l cs) (n : Nat) (hz : 0 < l.length) :
  CellsOK I η H (List.replicate n l).flatten ((Array.range (n * l.length)).map (cs[· % cs.size]!)) := by
 refine ⟨by simp, fun k a ha => ?_⟩
 have hk : k < n * l.length := by have := (List.getElem?_eq_some_iff.1 ha).1; simpa using this
 have e : k / l.length * l.length + k % l.length = k := by rw [Nat.mul_comm]; exact Nat.div_add_mod _ _
 have hlt : k / l.length < n := (Nat.div_lt_iff_lt_mul hz).2 hk
 rw [← e, flatten_get l n _ _ hlt (Nat.mod_lt _ hz)] at ha
 have := h.2 _ _ ha
 have h2 : ((Array.range (n * l.length)).map (cs[· % cs.size]!)).getD k undef = cs.getD (k % l.length) undef := by
  have hm : k % l.length < cs.size := by rw [h.1]; exact Nat.mod_lt _ hz
  rw [Array.getD_eq_getD_getElem?, Array.getD_eq_getD_getElem?]
  simp [hk, h.1]
  rw [getElem!_pos cs _ hm, Array.getElem?_eq_getElem hm]; rfl
 rw [h2]; exact this

theorem buildSlice_ok (hC : Conc E I η H w) {t : TypeId} {n : Nat} {ps : List (Nat × AV)} {qs : Array (Nat × Value)} {v : AV} {H' : Hp} (h : buildSliceE E H t n ps = some (v, H')) (hp : PartsOK I η H ps qs.toList) :
  ∃ x w', (Instr.buildSlice t n qs).run E.P w = .ok x w' ∧ After E I η H w H' w' fun I' η' => RelA I' η' H' v x := by
 unfold buildSliceE at h
 split at h
 rotate_left
 ·cases h
 rename_i e he
 split at h
 rotate_left
 ·cases h
 rename_i z zero hz hzero
 split at h
 rotate_left
 ·cases h
 rename_i hc
 obtain ⟨hc1, hc2, hc3⟩ := hc
 split at h
 rotate_left
 ·cases h
 rename_i cells hfill
 split at h
 rotate_left
 ·cases h
 rename_i xs H1 hfr
 simp only [Option.some.injEq, Prod.mk.injEq] at h
 obtain ⟨rfl, rfl⟩ := h
 obtain ⟨hc4, hc5⟩ := hc3
 obtain ⟨zv, hzr, hze⟩ := zeroO_ok hzero w
 have hzr' : RelA I η H zero zv := by rw [hze]; exact relA_ofVal zv
 have hzc : CellsOK I η H (cellsA zero) zv.cells := ⟨(cells_ok hzr' hc5).1, (cells_ok hzr' hc5).2.1⟩
 have hrep := rep_cells hzc n (by rw [hc2]; exact hc4)
 rw [hc2] at hrep
 obtain ⟨ds, hds, hdc⟩ := fillA_ok hp hrep hfill
 have hcl : cells.length = n * z := by
  have : ∀ (ps : List (Nat × AV)) (l out : List AV), fillA z l ps = some out → out.length = l.length := by
   intro ps
   induction ps with
   | nil => intro l out h; simp [fillA] at h; rw [h]
   | cons p ps ih =>
    intro l out h
    obtain ⟨i, a⟩ := p
    simp only [fillA] at h
    split at h
    ·rename_i hk
     rw [ih _ _ h, over_length (by omega)]
    ·cases h
  rw [this _ _ _ hfill]; simp [hc2]
 have hdsz : ds.size = n * z := by rw [hdc.1, hcl]
 refine ⟨.slice (some ⟨w.heap.size, 0, none⟩) n n, { w with heap := w.heap.push (.cells ds e) }, ?_, ?_⟩
 ·have hnz : ¬ (n * z > 2 ^ 24) := by omega
  by_cases h0 : n * z = 0
  ·have hn : n = 0 := by
    rcases Nat.mul_eq_zero.1 h0 with h1 | h1
    ·exact h1
    ·omega
   subst hn
   have hds' : Instr.fill (fun i => some (i * z, z)) #[] qs.toList = some ds := by
    rw [← hds]; congr 1; simp
   simp only [Instr.buildSlice, Sem.run_bind, run_underlying (slO_ok he), Result.andThen_ok, (szO_ok hz w).1]
   have e0 : ∀ f : Nat → Value, (Array.range 0).map f = #[] := fun f => by simp
   simp only [h0, e0, if_true, Sem.run_pure, Result.andThen_ok, hds']
   simp [newRow]
  ·simp only [Instr.buildSlice, Sem.run_bind, run_underlying (slO_ok he), Result.andThen_ok, (szO_ok hz w).1, hnz, if_false, h0, hzr, Sem.run_pure]
   rw [hds]
   simp [newRow]
 ·refine (freezeAll_ok hC (fun k => ds.getD k undef) hdc.2 hfr).trans fun I1 η1 hC1 hI1 hm1 hx => ?_
  have hx := canR_ok (ks := (List.replicate n (E.kinds e)).flatten) hx
  obtain ⟨c1, c2, c3⟩ := chop_spec z n (canR (List.replicate n (E.kinds e)).flatten xs) (by rw [hx.1, hcl])
  have := new_row (w' := { w with heap := w.heap.push (.cells ds e) }) hC1 rfl rfl rfl rfl (ex := true) (n := n) (cap := n) hc4 c3 (by rw [c2]; exact hx.2) (by rw [c1]; omega) (fun _ => by rw [c1]; exact hdsz) (thaw0 _) (by omega) (by omega) (by omega)
  exact this

theorem storeCells_ok (P : Program) (b o : Nat) (elem : TypeId) (fz : Nat × Nat) : ∀ (vs : List Value) (i : Nat) (cur : Array Value) (w : World), w.heap[b]? = some (.cells cur elem fz) → Thaw fz cur.size → o + i + vs.length ≤ cur.size →
  (∀ v ∈ vs, v.oneCell' = true) → ∃ w' cur', (storeCells ⟨b, o, none⟩ vs i).run P w = .ok () w' ∧ w'.heap[b]? = some (.cells cur' elem fz) ∧ (∀ b', b' ≠ b → w'.heap[b']? = w.heap[b']?) ∧ w'.heap.size = w.heap.size ∧
   w'.os = w.os ∧ w'.tape = w.tape ∧ w'.output = w.output ∧ cur'.size = cur.size ∧ ∀ k, cur'[k]? = if o + i ≤ k ∧ k < o + i + vs.length then vs[k - (o + i)]? else cur[k]?
 | [], i, cur, w, hw, _, _, _ => ⟨w, cur, by simp [storeCells], hw, fun _ _ => rfl, rfl, rfl, rfl, rfl, rfl, fun k => by rw [if_neg (by simp only [List.length_nil]; omega)]⟩
 | v :: vs, i, cur, w, hw, hth, hle, hone => by
  simp only [List.length_cons] at hle
  have hlt : o + i < cur.size := by omega
  have hcell : w.cell? ⟨b, o + i, none⟩ = some cur[o + i] := by rw [cell_of hw]; simp [hlt]
  have hfr : w.frozen? ⟨b, o + i, none⟩ = false := by
   simp only [World.frozen?, hw]
   have := hth (o + i) hlt
   simpa using this
  let w1 : World := w.setCell ⟨b, o + i, none⟩ v
  have hw1 : w1.heap[b]? = some (.cells (cur.setIfInBounds (o + i) v) elem fz) := by
   simp [w1, World.setCell, Array.getElem?_modify, hw]
  have hoth : ∀ b', b' ≠ b → w1.heap[b']? = w.heap[b']? := by
   intro b' hb
   simp [w1, World.setCell, Array.getElem?_modify, Ne.symm hb]
  obtain ⟨w', cur', h1, h2, h3, h4, h5, h6, h7, h8, h9⟩ := storeCells_ok P b o elem fz vs (i + 1) (cur.setIfInBounds (o + i) v) w1 hw1 (by simpa using hth) (by rw [Array.size_setIfInBounds]; omega) (fun x hx => hone x (by simp [hx]))
  refine ⟨w', cur', ?_, h2, fun b' hb => by rw [h3 b' hb, hoth b' hb], by rw [h4]; simp [w1, World.setCell], h5, h6, h7, by rw [h8]; simp, fun k => ?_⟩
  ·simp only [storeCells, Sem.run_bind, add_none]
   rw [run_store _ _ _ _ _ (hone v (by simp)), hcell, hfr]
   exact h1
  ·rw [h9]
   by_cases hk : k = o + i
   ·subst hk
    rw [if_neg (by omega), if_pos (by constructor <;> simp)]
    simp [hlt]
   ·by_cases hr : o + (i + 1) ≤ k ∧ k < o + (i + 1) + vs.length
    ·rw [if_pos hr, if_pos (by simp; omega)]
     rw [show k - (o + i) = (k - (o + (i + 1))) + 1 by omega]; simp
    ·rw [if_neg hr, if_neg (by simp; omega)]
     rw [Array.getElem?_setIfInBounds_ne (by omega)]

theorem wrote (hC : Conc E I η H w) {w' : World} {c b n : Nat} (hη : η c = some (b, n)) {ch ch0 : Chunk} (hH : H[c]? = some ch0) (hoth : ∀ b', b' ≠ b → w'.heap[b']? = w.heap[b']?) (hsz : w'.heap.size = w.heap.size) (ho : w'.os = w.os) (ht : w'.tape = w.tape) (hu : w'.output = w.output)
  (hst : CStep I η H I η (H.set c ch) c) (hch : Mono I η H I η (H.set c ch) → ChunkOK I η (H.set c ch) w' c ch) {Q : Imm → Eta → Prop} (hQ : Mono I η H I η (H.set c ch) → Q I η) : After E I η H w (H.set c ch) w' Q := by
 have hcl : c < H.length := (List.getElem?_eq_some_iff.1 hH).1
 have hm : Mono I η H I η (H.set c ch) := by
  refine mono_of (fun _ _ h => h) (by simp) fun d hd => ?_
  by_cases hdc : d = c
  ·subst hdc; exact hst
  ·exact CStep.same (by rw [List.getElem?_set_ne (Ne.symm hdc)]) rfl
 have hIb : I b = none := (hC.sep _ _ _ hη).1
 refine ⟨I, η, ⟨fun b' o hb => ?_, fun d x hd => ?_, hC.inj, fun d b' n' hd => ?_, hC.glob⟩, ⟨ho, ht, hu, by rw [hsz]; exact Nat.le_refl _, fun b' hb hn => hoth b' (fun e => hn c n (e ▸ hη)), fun _ _ h => h, fun _ h => .inl h, fun _ _ _ h => .inr ⟨_, _, h⟩⟩, hm, hQ hm⟩
 ·have hbb : b' ≠ b := fun e => by subst e; rw [hIb] at hb; cases hb
  rw [hoth _ hbb]; exact hC.imm _ _ hb
 ·rcases set_get hd with ⟨rfl, rfl⟩ | ⟨h1, h2⟩
  ·exact hch hm
  ·exact (hC.ch _ _ h2).mono rfl (fun _ _ h => h) hm fun b' n' h3 => hoth _ fun e => h1 (hC.inj _ _ _ _ _ (e ▸ h3) hη)
 ·have := hC.sep _ _ _ hd
  exact ⟨this.1, by rw [hsz]; exact this.2.1, by simpa using this.2.2⟩

theorem store_ok (hC : Conc E I η H w) {t : TypeId} {p v : AV} {y z : Value} {H' : Hp} (h : storeE E H t p v = some H') (rp : RelA I η H p y) (rv : RelA I η H v z) :
  ∃ w', (Instr.storeAt t y z).run E.P w = .ok () w' ∧ After E I η H w H' w' fun _ _ => True := by
 unfold storeE at h
 split at h
 rotate_left
 ·cases h
 rename_i n hn
 split at h
 rotate_left
 ·cases h
 rename_i hc
 obtain ⟨hc1, hc2⟩ := hc
 obtain ⟨z1, z2, z3⟩ := cells_ok rv hc2
 split at h
 rotate_left
 ·cases h
 rename_i c g r k
 have hones : ∀ x ∈ z.cells.toList, x.oneCell' = true := by
  intro x hx
  obtain ⟨j, hj, rfl⟩ := List.getElem_of_mem hx
  have := z3 j (by simpa using hj)
  simpa [Array.getD_eq_getD_getElem?, show j < z.cells.size by simpa using hj] using this
 have hzs : z.cells.size = n := by rw [z1, hc1]
 have run : ∀ (a : Addr) (w' : World), (storeCells a z.cells.toList 0).run E.P w = .ok () w' → (Instr.storeAt t (.pointer (some a)) z).run E.P w = .ok () w' := by
  intro a w' hr
  simp [Instr.storeAt, Instr.sureAddr, storeVar, (szO_ok hn w).1, hzs, hr]
 split at h
 ·rename_i cells hH
  split at h
  ·rename_i hk
   simp only [Option.some.injEq] at h
   subst h
   cases rp with
   | ptr c g r k v' hc' hb hs hf hi hp hg =>
    obtain ⟨b, m, hη, rfl⟩ := hb _ hH
    obtain ⟨b', cs, elem, fz, hη', hw, hth, hsz, hcell⟩ := hC.ch _ _ hH
    rw [hη] at hη'; cases hη'
    obtain ⟨w', cur', h1, h2, h3, h4, h5, h6, h7, h8, h9⟩ := storeCells_ok E.P b k elem fz z.cells.toList 0 cs w hw hth (by simp; omega) hones
    refine ⟨w', run _ _ h1, wrote hC hη hH h3 h4 h5 h6 h7 ?_ (fun hm => ?_) (fun _ => trivial)⟩
    ·intro y hy
     rcases set_get hy with ⟨_, rfl⟩ | ⟨e, _⟩
     ·exact .inl ⟨cells, hH, rfl⟩
     ·exact absurd rfl e
    ·refine ⟨b, cur', elem, fz, by rw [h8]; exact hη, h2, by rw [h8]; exact hth, by rw [h8, hsz, over_length (by omega)], fun j a ha => hm _ _ ?_⟩
     rw [over_get (by omega)] at ha
     have hcur : cur'.getD j undef = if k ≤ j ∧ j < k + n then z.cells.getD (j - k) undef else cs.getD j undef := by
      rw [Array.getD_eq_getD_getElem?, h9]
      simp only [Nat.add_zero, Array.length_toList, hzs]
      split
      ·rw [Array.getElem?_toList, Array.getD_eq_getD_getElem?]
      ·rw [Array.getD_eq_getD_getElem?]
     rw [hcur]
     rw [hc1] at ha
     split at ha
     ·rename_i hj; rw [if_pos hj]; exact z2 _ _ ha
     ·rename_i hj; rw [if_neg hj]; exact hcell _ _ ha
  ·cases h
 ·rename_i hH0
  split at h
  rotate_left
  ·cases h
  rename_i xs H1 hfr
  split at h
  rotate_left
  ·cases h
  rename_i sz g' rows ex hH
  split at h
  rotate_left
  ·cases h
  rename_i hg
  obtain ⟨rfl, hks⟩ := hg
  split at h
  rotate_left
  ·cases h
  rename_i row hrow
  simp only [Option.some.injEq] at h
  subst h
  obtain ⟨I1, η1, hC1, hT1, hm1, hx12⟩ := freezeAll_ok hC (fun k => z.cells.getD k undef) z2 hfr
  obtain ⟨hx1, hx2⟩ := canR_ok (ks := E.kinds t) hx12
  generalize canR (E.kinds t) xs = xs at *
  have rp1 := hm1 _ _ rp
  cases rp1 with
  | ptr c g r k v' hc' hb hs hf hi hp hg =>
   obtain ⟨b, m, hη, rfl⟩ := hs _ _ _ hH
   obtain ⟨hz, hfl, h3⟩ := hC1.ch _ _ hH
   rcases h3 with ⟨h5, _⟩ | ⟨b', cs, elem, fz, h5, hw, hth, hle, hxx, hcell⟩
   ·rw [hη] at h5; cases h5
   ·rw [hη] at h5; cases h5
    have hr := (List.getElem?_eq_some_iff.1 hrow).1
    have hrl := hfl _ _ hrow
    have hin : r * sz + sz ≤ cs.size := by
     have : (r + 1) * sz ≤ rows.length * sz := Nat.mul_le_mul_right _ hr
     rw [Nat.add_mul] at this; omega
    obtain ⟨w', cur', h1, h2, h3, h4, h5, h6, h7, h8, h9⟩ := storeCells_ok E.P b (r * sz + k) elem fz z.cells.toList 0 cs w hw hth (by simp; omega) hones
    refine ⟨w', run _ _ h1, ?_⟩
    have hcur : ∀ j, cur'.getD j undef = if r * sz + k ≤ j ∧ j < r * sz + k + n then z.cells.getD (j - (r * sz + k)) undef else cs.getD j undef := by
     intro j
     rw [Array.getD_eq_getD_getElem?, h9]
     simp only [Nat.add_zero, Array.length_toList, hzs]
     split
     ·rw [Array.getElem?_toList, Array.getD_eq_getD_getElem?]
     ·rw [Array.getD_eq_getD_getElem?]
    have hxn : xs.length = n := by rw [hx1, hc1]
    have key : After E I1 η1 H1 w (H1.set c (.sl sz g (rows.set r (row.take k ++ xs ++ row.drop (k + n))) ex)) w' fun _ _ => True := by
     refine wrote hC1 hη hH h3 h4 h5 h6 h7 ?_ (fun hm => ?_) (fun _ => trivial)
     ·intro y hy
      rcases set_get hy with ⟨_, rfl⟩ | ⟨e, _⟩
      ·exact .inl ⟨rows, ex, hH, rfl, by simp⟩
      ·exact absurd rfl e
     ·have rs : ∀ (i : Nat) (r' : List IV), (rows.set r (row.take k ++ xs ++ row.drop (k + n)))[i]? = some r' → (i = r ∧ r' = row.take k ++ xs ++ row.drop (k + n)) ∨ (i ≠ r ∧ rows[i]? = some r') := by
       intro i r' hi
       by_cases hir : i = r
       ·subst hir
        rw [List.getElem?_set_self (by omega)] at hi
        cases hi; exact .inl ⟨rfl, rfl⟩
       ·rw [List.getElem?_set_ne (Ne.symm hir)] at hi; exact .inr ⟨hir, hi⟩
      refine ⟨hz, fun i r' hi => ?_, .inr ⟨b, cur', elem, fz, by rw [h8]; exact hη, h2, by rw [h8]; exact hth, by rw [h8, List.length_set]; exact hle, fun he => by rw [h8, List.length_set]; exact hxx he, fun i r' kk a hi ha => ?_⟩⟩
      ·rcases rs _ _ hi with ⟨_, rfl⟩ | ⟨_, h⟩
       ·simp [hxn, hrl]; omega
       ·exact hfl _ _ h
      ·rcases rs _ _ hi with ⟨rfl, rfl⟩ | ⟨hir, h⟩
       ·rw [hcur]
        by_cases e1 : kk < k
        ·rw [if_neg (by omega)]
         rw [List.append_assoc, List.getElem?_append_left (by simp; omega), List.getElem?_take, if_pos e1] at ha
         exact hcell _ _ _ _ hrow ha
        ·by_cases e2 : kk < k + n
         ·rw [if_pos (by omega), show i * sz + kk - (i * sz + k) = kk - k by omega]
          rw [List.append_assoc, List.getElem?_append_right (by simp; omega), List.getElem?_append_left (by simp; omega)] at ha
          have e3 : kk - (List.take k row).length = kk - k := by simp; omega
          rw [e3] at ha
          exact hx2 _ _ ha
         ·rw [if_neg (by omega)]
          rw [List.append_assoc, List.getElem?_append_right (by simp; omega), List.getElem?_append_right (by simp; omega), List.getElem?_drop] at ha
          have e3 : k + n + (kk - (List.take k row).length - xs.length) = kk := by simp; omega
          rw [e3] at ha
          exact hcell _ _ _ _ hrow ha
       ·rw [hcur]
        have hkk : kk < sz := by have := (List.getElem?_eq_some_iff.1 ha).1; rw [hfl _ _ h] at this; exact this
        rw [if_neg]
        ·exact hcell _ _ _ _ h ha
        ·rcases Nat.lt_or_gt_of_ne hir with e1 | e1
         ·have : (i + 1) * sz ≤ r * sz := Nat.mul_le_mul_right _ e1
          rw [Nat.add_mul] at this; omega
         ·have : (r + 1) * sz ≤ i * sz := Nat.mul_le_mul_right _ e1
          rw [Nat.add_mul] at this; omega
    obtain ⟨I2, η2, k1, k2, k3, _⟩ := key
    exact ⟨I2, η2, k1, hT1.trans k2, hm1.trans k3, trivial⟩
 ·cases h
end
end Go.VI

