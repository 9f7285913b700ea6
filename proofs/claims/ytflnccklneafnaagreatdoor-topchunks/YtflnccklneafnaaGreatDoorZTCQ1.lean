import Derived.Orders
import Derived.Laws.Sem
import Derived.Laws.Cells
import Derived.ChangeKeysEq
import Derived.Laws.StructEq
import Derived.Laws.Strings
import Derived.IntWalk
import Derived.Laws.BytesArg
import Derived.Laws.RangeString
open Array renaming getElem?_toList→mH,getD_eq_getD_getElem?→di,getElem?_eq_some_iff→jY,length_toList→uW,getElem?_push→HT,range→HW,getElem?_eq_getElem→qM,eq_empty_of_size_eq_zero→y9,replicate→y_,getElem?_append_left→xc,toList_map→MD
open BitVec renaming ofInt→su
open Bool renaming false_eq_true→fF,and_eq_true→cR,or_eq_true→w2
open Go.Builtin renaming lenOf→qL,firstCells→iD,nextslicecap→H_,zeroCells→Ev,append_→qO
open Go.Conv renaming runesFrom→Mw
open Go.Instr renaming sureAddr→yL,indexAt→yS,sliceBounds→yT,sliceAt→uV,slice→yV,fill→HJ,buildSlice→HX,storeAt→xa,makeSlice→H4,findNow→p7,sameNow→My,lookup→y',checkKey→MA,findKey→zb,sameBits→Ib,mapUpdate→Ic
open Go.IntKind renaming i64→nK
open Go.Op renaming intCmp→Ec,equalIn→Hy
open Go.Region renaming before→pT
open Go.Result renaming andThen_ok→eg
open Go.Sem renaming run_bind→dT,run_pure→eE,run→tL
open Go.Utf8 renaming encode→Hl,decode→l7
open Go.Value renaming int→jW,func→D9,cells→tE,oneCell'→Ma
open Go.World renaming cell?→rP
open List renaming replicate→cB,range→g',range'→lF,length_eq_zero_iff→pX,map_cons→fh,mem_cons→ng,pairwise_cons→uR,getElem?_map→fw,getElem?_eq_some_iff→bF,getElem?_take→nJ,getElem?_drop→rQ,getElem?_append_left→ei,getElem?_append_right→hd,getElem?_eq_getElem→eX,length_append→dp,replicate_succ→Ef,flatten_cons→sF,drop_drop→HH,foldl_cons→yX,all_eq_true→oo,getElem_mem→mL,length_cons→cQ,append_assoc→dU,mapM_cons→Me,getElem?_set_ne→dw,set_getElem_self→Br,getElem?_set_self→kl,append_nil→c8,set_append_right→yY,set_set→uY,nil_append→gJ,getElem?_append→tI,length_map→nM,mem_of_getElem?→kn,length_nil→dr,getElem_of_mem→Es,length_set→jC,take→ek,getElem?_cons_zero→p6,size_toArray→H8,mem_cons_of_mem→xe,length_take→hE,length_replicate→mg,length_drop→iG,getElem?_replicate→MG,mem_append→fS,getElem?_concat_length→TI
open List.cons renaming injEq→Bu
open Nat renaming lt_of_lt_of_le→wO,le_refl→cL,le_trans→rN,add_zero→e7,mul_le_mul_right→jX,add_mul→hc,zero_add→cp,div_lt_iff_lt_mul→HA,mod_lt→Ei,mul_comm→uT,div_add_mod→yR,add_assoc→tB,mul_one→HC,sub_self→rR
open Ne renaming symm→a'
open Option renaming map_eq_some_iff→c0,bind_eq_some_iff→Bo,isSome_iff_exists→Mx,getD_some→i1,map_some→en
open Option.some renaming inj→pY,injEq→bg
open Prod.mk renaming injEq→bw
open UInt8 renaming ofNat→hI
namespace Go.VI
set_option maxRecDepth 100000
set_option maxHeartbeats 40000000
set_option linter.unusedVariables false
set_option linter.unusedSimpArgs false
set_option linter.defProp false
theorem R{P:Prop}(h:P:=by omega):P:=h
theorem aK{P:Prop}(h:P:=by kernel_rfl):P:=h
theorem AI{P Q:Prop}(h:P)(q:Q):P∧Q:=⟨h,q⟩
def boP:=AI @decide_true (AI @decide_false (AI @Bool.true_and (AI @Bool.and_true (AI @Bool.false_and (AI @Bool.and_false (AI @Bool.not_true (AI @Bool.not_false (AI @Bool.or_true (AI @Bool.true_or (AI @Bool.or_false (AI @Bool.false_or (AI @List.isEmpty_nil.{0} (@List.isEmpty_cons.{0})))))))))))))
def cU:=AI @List.length_cons.{0} (@List.length_nil.{0})
def cj:=AI @List.cons_append.{0} (@List.nil_append.{0})
inductive aC where
 |v (x:Value)
 |str (l:List UInt8)
 |sl (aw:Nat) (rows:List (List aC)) (ex:Bool)
 |gd (cells:List aC) (off:Nat)
 |mp (es:List (Int×Nat))
 deriving Inhabited
inductive cN where
 |d (c g off len:Nat)
 |e (c g r:Nat)
 |h (c g s r:Nat)
 |p (c g s r i k:Nat)
 deriving DecidableEq,Inhabited
def cN.c:cN→Nat
 |.d c _ _ _=>c
 |.e c _ _=>c
 |.h c _ _ _=>c
 |.p c _ _ _ _ _=>c
def cN.to(n:Nat):cN→cN
 |.d _ g ai l=>.d n g ai l
 |.e _ g r=>.e n g r
 |.h _ g s r=>.h n g s r
 |.p _ g s r i k=>.p n g s r i k
inductive bT where
 |own (rows:List (List aC))
 |dK (x:aC)
 |dead
 deriving Inhabited
inductive U where
 |dead
 |i (x:aC)
 |agg (cells:List U)
 |ref (c g off len:Nat)
 |ptr (c g r k:Nat)
 |dv (c:Nat)
 |x (k:cN)
 |aQ (fn:Fn) (first ft:List U)
 |bd (vs:List U)
 deriving Inhabited
inductive Chunk where
 |box (cells:List U)
 |sl (aw g:Nat) (rows:List (List aC)) (ex:Bool)
 |bj (aw g:Nat) (rows:List (List aC)) (ex:Bool)
 |iter (s:List UInt8) (pos:Nat)
 |map (es:List (aC×U))
 |cY (t:Nat) (cells:List U)
 |ju (t:Nat) (l:List UInt8)
 |gone
 |az (z g s:Nat) (rows:List bT)
 |fd (g:Nat) (rows:List (List aC))
 deriving Inhabited
abbrev aa:=List Chunk
abbrev Fr:=List (Nat×U)
def get(k:Nat):Fr→U
 |[]=>.dead
 |(ac,v)::r=>if k=ac then v else get k r
def U.int(k:IntKind)(n:Int):U:=.i (.v (.int k n))
def U.bool(b:Bool):U:=.i (.v (.bool b))
def U.str(l:List UInt8):U:=.i (.str l)
structure Env where
 P:Program
 kg:FuncId→Nat→List Nat
 head:FuncId→Nat→List Nat
 e4:Nat→Option (List aC)
 dL:FuncId→Nat→List (Nat×Nat)
 yx:FuncId→Bool
 qs:FuncId→Nat→Bool
 ext:FuncId→Option (List U→List Chunk→Option (U×List Chunk))
 kinds:TypeId→List (Option Nat)
 gF:FuncId→List (List (Option Nat))
 lA:FuncId→List (List (Option Nat))
 own:FuncId→Bool
 wx:FuncId→Nat→List (Nat×Nat)
 wy:FuncId→Nat→List (Nat×Nat×Nat)
 wz:FuncId→Nat→List (Nat×Nat)
 seq:FuncId→Option (List (List aC)→Option (List U))
 Sr:TypeId→Bool:=λ _=>false
 oa:FuncId→Option FuncId:=λ _=>none
 ss:FuncId→Bool:=λ _=>false
 Ss:TypeId→Option Nat:=λ _=>none
 st:TypeId→List Nat:=λ _=>[]
def fG(P:Program)(t:TypeId):Option Nat:=(P.info? t).map (·.size)
def kh(P:Program)(t:TypeId):Option Bool:=(P.underlying t).map λ|.struct _|.array _ _=>true|_=>false
def e0(P:Program)(t:TypeId):Option TypeId:=match P.underlying t with|some (.slice e)=>some e|_=>none
def uD(P:Program)(t:TypeId):Option (Nat×TypeId):=match P.underlying t with|some (.array n e)=>some (n,e)|_=>none
def AW(P:Program)(t:TypeId)(f:Nat):Option (Nat×TypeId):=match P.underlying t with|some (.struct eI)=>(eI[f]?).map λ x=>(x.offset,x.type)|_=>none
def tl(P:Program)(t:TypeId):Option Nat:=(P.info? t).map (·.bytes)
def Hh(P:Program)(t:TypeId):Option (List (Nat×Nat)):=match P.underlying t with
 |some (.struct eI)=>eI.toList.mapM λ f=>(fG P f.type).map λ z=>(f.offset,z)
 |_=>none
def hx(P:Program)(t:TypeId):Bool:=match P.underlying t with|some .string=>true|_=>false
def nB(P:Program)(t:TypeId):Option IntKind:=match P.underlying t with|some (.int k)=>some k|_=>none
def cellOf:Value→U
 |.string b=>.i (.str b.data.toList)
 |.slice none 0 0=>.i (.sl 0 [] true)
 |.tuple _=>.dead
 |.agg _=>.dead
 |x=>.i (.v x)
def jQ:Value→U
 |.agg cs=>.agg (cs.toList.map cellOf)
 |x=>cellOf x
def kG(P:Program)(t:TypeId):Option U:=((P.info? t).bind (·.zero)).map jQ
def Hi(P:Program)(t:TypeId):List U:=match(P.info? t).bind (·.zero)with
 |some (.agg cs)=>cs.toList.map λ x=>.i (.v x)
 |_=>[]
def LM(P:Program)(t:TypeId):Bool:=match(P.info? t).bind (·.zero)with
 |some (.agg cs)=>cs.toList.all (·.oneCell')
 |_=>false
def bn(E:Env)(J:Fr):Operand→U
 |.tmp t=>get t J
 |.const v=>jQ v
 |.func f=>.aQ (.func f) [] []
 |.global g=>match E.e4 g with
  |some cells=>.i (.gd cells 0)
  |none=>.dead
def cw:U→List U
 |.agg cs=>cs
 |a=>[a]
def one:U→Bool
 |.i _=>true
 |.ref ..=>true
 |.ptr ..=>true
 |.dv _=>true
 |.x _=>true
 |.aQ ..=>true
 |_=>false
def jR(op:BinOp)(k:IntKind)(a b:Int):Option Int:=
 let x:=su k.bits a
 let y:=su k.bits b
 match op with
 |.and=>some (k.wrap (x &&&y).toNat)
 |.or=>some (k.wrap (x|||y).toNat)
 |.xor=>some (k.wrap (x^^^y).toNat)
 |.andNot=>some (k.wrap (x &&&~~~y).toNat)
 |_=>none
def lB(op:BinOp)(k:IntKind)(a:Int)(dx:IntKind)(b:Int):Option U:=
 match op with
 |.shl=>if 0≤b then some (.int k (k.wrap (a*2^min b.toNat k.bits)))else none
 |.shr=>if 0≤b then some (.int k (a.fdiv (2^min b.toNat k.bits)))else none
 |_=>if k=dx then match op with
  |.add=>some (.int k (k.wrap (a+b)))
  |.sub=>some (.int k (k.wrap (a-b)))
  |.mul=>some (.int k (k.wrap (a*b)))
  |.quo=>if b=0 then none else some (.int k (k.wrap (a.tdiv b)))
  |.rem=>if b=0 then none else some (.int k (a.tmod b))
  |.eql=>some (.bool (decide (a=b)))
  |.neq=>some (.bool (!decide (a=b)))
  |.lss=>some (.bool (decide (a<b)))
  |.leq=>some (.bool (decide (a≤b)))
  |.gtr=>some (.bool (decide (b<a)))
  |.geq=>some (.bool (decide (b≤a)))
  |.and=>(jR .and k a b).map (.int k ·)
  |.or=>(jR .or k a b).map (.int k ·)
  |.xor=>(jR .xor k a b).map (.int k ·)
  |.andNot=>(jR .andNot k a b).map (.int k ·)
  |_=>none
  else none
def sv(op:BinOp)(a b:List UInt8):Option U:=
 match op with
 |.add=>if a.length+b.length≤9223372036854775807 then some (.str (a++b))else none
 |.eql=>some (.bool (a==b))
 |.neq=>some (.bool (!(a==b)))
 |.lss=>some (.bool (Op.bytesLess a b))
 |.leq=>some (.bool (Op.bytesLess a b||a==b))
 |.gtr=>some (.bool (!(Op.bytesLess a b||a==b)))
 |.geq=>some (.bool (!Op.bytesLess a b))
 |_=>none
def qt:U→U→Option Bool
 |.i (.v (.int k a)),.i (.v (.int dx b))=>if k=dx then some (decide (a=b))else none
 |.i (.v (.bool a)),.i (.v (.bool b))=>some (a==b)
 |.i (.str a),.i (.str b)=>some (a==b)
 |_,_=>none
def ob:List U→List U→Option Bool
 |[],[]=>some true
 |a::r,b::t=>match qt a b,ob r t with
  |some x,some y=>some (x &&y)
  |_,_=>none
 |_,_=>none
inductive na where
 |int (k:IntKind)|bool|str
 deriving DecidableEq
def DR(P:Program)(St:TypeId→Option (List na)):Nat→List Field→Option (List na)
 |_,[]=>some []
 |ai,f::r=>match St f.type,fG P f.type with
  |some l,some z=>if f.offset=ai∧l.length=z∧f.name≠ "_" then(DR P St (ai+z) r).map (l++·)else none
  |_,_=>none
def leaves(P:Program):Nat→TypeId→Option (List na)
 |0,_=>none
 |d+1,t=>match P.underlying t with
  |some .bool=>some [.bool]
  |some (.int k)=>some [.int k]
  |some .string=>some [.str]
  |some (.array n e)=>match leaves P d e,fG P e with
   |some l,some z=>if l.length=z then some (cB n l).flatten else none
   |_,_=>none
  |some (.struct eI)=>if P.stoodInHeld t then none else DR P (leaves P d) 0 eI.toList
  |_=>none
def o1:na→U→Bool
 |.int k,.i (.v (.int dx _))=>decide (k=dx)
 |.bool,.i (.v (.bool _))=>true
 |.str,.i (.str _)=>true
 |_,_=>false
def oc:List na→List U→Bool
 |[],[]=>true
 |l::r,a::t=>o1 l a &&oc r t
 |_,_=>false
def LN(P:Program)(t:TypeId):Bool:=P.eqGuardType P.depth t
def iS(P:Program)(t:TypeId)(x y:U):Option Bool:=
 match x,y with
 |.agg a,.agg b=>if LN P t=true then none else match kh P t with
  |some true=>match leaves P 9 t with
   |some l=>if oc l a=true∧oc l b=true then ob a b else none
   |none=>none
  |_=>none
 |.i (.v (.bool a)),.i (.v (.bool b))=>match P.underlying t with
  |some .bool=>some (a==b)
  |_=>none
 |.ptr _ _ _ _,.i (.v (.pointer none))=>match P.underlying t with
  |some (.pointer _)=>some false
  |_=>none
 |.i (.gd _ _),.i (.v (.pointer none))=>match P.underlying t with
  |some (.pointer _)=>some false
  |_=>none
 |.i (.v (.pointer none)),.i (.v (.pointer none))=>match P.underlying t with
  |some (.pointer _)=>some true
  |_=>none
 |_,_=>none
def jS(P:Program)(op:BinOp)(t:TypeId)(x y:U):Option U:=
 match x,y with
 |.i (.v (.int k a)),.i (.v (.int dx b))=>lB op k a dx b
 |.i (.str a),.i (.str b)=>sv op a b
 |x,y=>match op with
  |.eql=>(iS P t x y).map .bool
  |.neq=>(iS P t x y).map λ b=>.bool (!b)
  |_=>none
def yy(op:UnOp)(x:U):Option U:=
 match op,x with
 |.neg,.i (.v (.int k n))=>some (.int k (k.wrap (0-n)))
 |.xor,.i (.v (.int k n))=>(jR .xor k (if k.signed then-1 else k.max) n).map (.int k ·)
 |.not,.i (.v (.bool b))=>some (.bool (!b))
 |_,_=>none
def kH(l:List aC):List U:=l.map .i
def take(l:List U)(k n:Nat):Option (List U):=
 if k+n≤l.length then some ((l.drop k).take n)else none
def DS(c g r:Nat):Option Chunk→Option (List U×Nat)
 |some (.az _ aU s rows)=>if g=aU then match rows[r]? with
  |some (.own _)=>some ([.x (.h c g s r)],0)
  |some (.dK y)=>some ([.i y],0)
  |_=>none
  else none
 |_=>none
def DT(g s r i k:Nat):Option Chunk→Option (List U×Nat)
 |some (.az _ aU dD rows)=>if g=aU∧s=dD then match rows[r]? with
  |some (.own bP)=>match bP[i]? with
   |some row=>some (kH row,k)
   |none=>none
  |_=>none
  else none
 |_=>none
def uE(H:aa):cN→Option (List U×Nat)
 |.e c g r=>DS c g r H[c]?
 |.p c g s r i k=>DT g s r i k H[c]?
 |_=>none
def behind(H:aa):U→Option (List U×Nat)
 |.i (.gd cells off)=>some (kH cells,off)
 |.ptr c g r k=>match H[c]? with
  |some (.box cells)=>some (cells,k)
  |some (.sl _ aU rows _)=>if g=aU then match rows[r]? with
   |some row=>some (kH row,k)
   |none=>none
   else none
  |some (.bj _ aU rows _)=>if g=aU then match rows[r]? with
   |some row=>some (kH row,k)
   |none=>none
   else none
  |_=>none
 |.x k=>uE H k
 |_=>none
def tm(E:Env)(H:aa)(t:TypeId)(x:U):Option U:=
 match behind H x,kh E.P t,fG E.P t with
 |some (cells,k),some true,some n=>(take cells k n).map .agg
 |some (cells,k),some false,some _=>cells[k]?
 |_,_,_=>none
def hH(H:aa):U→Option (Nat×List (List aC)×Bool)
 |.i (.sl aw rows ex)=>some (aw,rows,ex)
 |.ref c g off len=>match H[c]? with
  |some (.sl aw aU rows ex)=>if g=aU then some (aw,(rows.drop off).take len,ex &&decide (off+len=rows.length))else none
  |some (.bj aw aU rows ex)=>if g=aU then some (aw,(rows.drop off).take len,ex &&decide (off+len=rows.length))else none
  |_=>none
 |_=>none
def o2:U→Option Nat
 |.i (.sl _ rows _)=>some rows.length
 |.i (.str l)=>some l.length
 |.ref _ _ _ len=>some len
 |.x (.d _ _ _ len)=>some len
 |_=>none
def wA(n:Nat):U→Option U
 |.i (.gd cells off)=>some (.i (.gd cells (off+n)))
 |.ptr c g r k=>some (.ptr c g r (k+n))
 |.x (.p c g s r i k)=>some (.x (.p c g s r i (k+n)))
 |_=>none
def Hj(z c g off len:Nat)(n:Int):Option Chunk→Option U
 |some (.az _ aU _ _)=>if 0≤n∧n<len∧z=1∧g=aU then some (.x (.e c g (off+n.toNat)))else none
 |_=>none
def DU(z c g s r:Nat)(n:Int):Option Chunk→Option U
 |some (.az c_ aU dD rows)=>if g=aU∧s=dD∧z=c_∧0≤n then match rows[r]? with
  |some (.own bP)=>if n.toNat<bP.length then some (.x (.p c g s r n.toNat 0))else none
  |_=>none
  else none
 |_=>none
def uF(H:aa)(z:Nat)(n:Int):cN→Option U
 |.d c g off len=>Hj z c g off len n H[c]?
 |.h c g s r=>DU z c g s r n H[c]?
 |_=>none
def AX(E:Env)(H:aa)(t:TypeId)(x jv:U):Option U:=
 match jv with
 |.i (.v (.int _ n))=>match uD E.P t,e0 E.P t with
  |some (len,e),_=>match fG E.P e with
   |some z=>if 0≤n∧n<len then wA (n.toNat*z) x else none
   |none=>none
  |none,some e=>match fG E.P e,x with
   |some z,.i (.sl aw rows _)=>if 0≤n∧aw=z then match rows[n.toNat]? with
    |some row=>some (.i (.gd row 0))
    |none=>none
    else none
   |some z,.ref c g off len=>match H[c]? with
    |some (.sl aw aU _ _)=>if 0≤n∧n<len∧aw=z∧g=aU then some (.ptr c g (off+n.toNat) 0)else none
    |some (.bj aw aU _ _)=>if 0≤n∧n<len∧aw=z∧g=aU then some (.ptr c g (off+n.toNat) 0)else none
    |_=>none
   |some z,.x k=>uF H z n k
   |_,_=>none
  |_,_=>none
 |_=>none
def AY(E:Env)(t:TypeId)(x jv:U):Option U:=
 match x,jv with
 |.i (.str l),.i (.v (.int _ n))=>if 0≤n∧hx E.P t=true then(l[n.toNat]?).map λ b=>.int .u8 b.toNat else none
 |.agg cells,.i (.v (.int _ n))=>match uD E.P t with
  |some (len,e)=>match fG E.P e,kh E.P e with
   |some z,some true=>if 0≤n∧n<len then(take cells (n.toNat*z) z).map .agg else none
   |some z,some false=>if 0≤n∧n<len then cells[n.toNat*z]? else none
   |_,_=>none
  |none=>none
 |_,_=>none
def Hk(E:Env)(t:TypeId)(x:U)(f:Nat):Option U:=
 match x,AW E.P t f with
 |.agg cells,some (off,d')=>match fG E.P d',kh E.P d' with
  |some z,some true=>(take cells off z).map .agg
  |some _,some false=>cells[off]?
  |_,_=>none
 |_,_=>none
def fP(d:Nat):Option U→Option Nat
 |none=>some d
 |some (.i (.v (.int _ n)))=>if 0≤n then some n.toNat else none
 |_=>none
def LO(c g off l h:Nat):Option Nat→Option Chunk→Option U
 |some 1,some (.az _ aU _ _)=>if g=aU then some (.x (.d c g (off+l) (h-l)))else none
 |_,_=>none
def jT(E:Env)(H:aa)(t:TypeId)(x:U)(bS ax kI:Option U):Option U:=
 match o2 x with
 |none=>none
 |some n=>match fP 0 bS,fP n ax with
  |some l,some h=>if l≤h∧h≤n then match x with
   |.i (.str s)=>if kI.isNone∧hx E.P t=true then some (.str ((s.drop l).take (h-l)))else none
   |.i (.sl aw rows ex)=>match e0 E.P t with
    |some e=>match fG E.P e with
     |some z=>if rows=[]∨z=aw then match kI with
      |none=>some (.i (.sl aw ((rows.drop l).take (h-l)) (ex &&decide (h=n))))
      |some m=>match fP 0 (some m)with
       |some bZ=>if h=bZ∧ax.isSome=true then some (.i (.sl aw ((rows.drop l).take (h-l)) true))else none
       |none=>none
      else none
     |none=>none
    |none=>none
   |.ref c g off _=>match e0 E.P t,H[c]? with
    |some e,some (.sl aw aU _ _)=>if g=aU∧fG E.P e=some aw then match kI with
     |none=>some (.ref c g (off+l) (h-l))
     |some m=>match fP 0 (some m)with
      |some bZ=>if h=bZ∧ax.isSome=true then some (.ref c g (off+l) (h-l))else none
      |none=>none
     else none
    |some e,some (.bj aw aU rows ex)=>if g=aU∧fG E.P e=some aw∧off+n≤rows.length then match kI with
     |none=>some (.i (.sl aw ((rows.drop (off+l)).take (h-l)) (ex &&decide (off+h=rows.length))))
     |some m=>match fP 0 (some m)with
      |some bZ=>if h=bZ∧ax.isSome=true then some (.i (.sl aw ((rows.drop (off+l)).take (h-l)) true))else none
      |none=>none
     else none
    |_,_=>none
   |.x (.d c g off _)=>if kI.isNone then LO c g off l h ((e0 E.P t).bind (fG E.P)) H[c]? else none
   |_=>none
   else none
  |_,_=>none
def mD(E:Env)(src dst:TypeId)(x:U):Option U:=
 match x with
 |.i (.v (.int _ n))=>match kh E.P src,nB E.P dst with
  |some _,some k=>some (.int k (k.wrap n))
  |some _,none=>if hx E.P dst=true then some (.str (Hl n).data.toList)else none
  |none,_=>none
 |.i (.str l)=>if hx E.P dst=true∧hx E.P src=true then some (.str l)else none
 |_=>none
def rA:List (List aC)→Option (List Int)
 |[]=>some []
 |[.v (.int .u8 n)]::r=>(rA r).map (n::·)
 |_=>none
def AZ(E:Env)(H:aa)(e d:TypeId)(x:U):Option U:=
 if hx E.P d=true∧nB E.P e=some .u8 then match hH H x with
  |some (z,rows,_)=>if rows=[]∨z=1 then(rA rows).map λ l=>.str (l.map λ n=>hI n.toNat)else none
  |none=>none
 else none
def DV:U→U→Option U
 |.i (.v (.int k a)),.i (.v (.int _ b))=>some (.int k (max a b))
 |_,_=>none
def DW:U→U→Option U
 |.i (.v (.int k a)),.i (.v (.int _ b))=>some (.int k (min a b))
 |_,_=>none
def rB(f:U→U→Option U):List U→Option U
 |[]=>none
 |a::r=>r.foldl (λ acc x=>match acc with|some y=>f y x|none=>none) (some a)
def o3(l:List U)(k:Nat)(new:List U):List U:=l.take k++new++l.drop (k+new.length)
def jw(pl:List (Nat×Nat)):List U→List (Nat×U)→Option (List U)
 |cells,[]=>some cells
 |cells,(i,v)::r=>match pl[i]? with
  |some (off,z)=>if(cw v).length=z∧off+z≤cells.length∧(cw v).all one=true then jw pl (o3 cells off (cw v)) r else none
  |none=>none
def fX(z:Nat):List U→List (Nat×U)→Option (List U)
 |cells,[]=>some cells
 |cells,(i,v)::r=>if(cw v).length=z∧i*z+z≤cells.length∧(cw v).all one=true then fX z (o3 cells (i*z) (cw v)) r else none
def jU(E:Env)(t:TypeId)(parts:List (Nat×U)):Option U:=
 match kG E.P t with
 |some (.agg zero)=>match uD E.P t with
  |some (_,e)=>match fG E.P e with
   |some z=>(fX z zero parts).map .agg
   |none=>none
  |none=>match Hh E.P t with
   |some pl=>(jw pl zero parts).map .agg
   |none=>none
 |_=>none
def tn(P:Program)(t:TypeId):Option (TypeId×TypeId):=match P.underlying t with
 |some (.map k e)=>some (k,e)
 |_=>none
def sw(zero:Option U)(n:Int):List (Int×Nat)→Option U
 |[]=>match zero with
  |some z=>if one z=true then some (.bd [z,.bool false])else none
  |none=>none
 |(k,f)::r=>if n=k then some (.bd [.aQ (.func f) [] [],.bool true])else sw zero n r
def DX(E:Env)(t:TypeId)(x k:U):Option U:=match tn E.P t with
 |some (iT,e)=>if nB E.P iT=some .i64 then match x,k with
  |.i (.mp es),.i (.v (.int .i64 n))=>sw (kG E.P e) n es
  |_,_=>none
  else none
 |none=>none
def gf:aC→aC→Option Bool
 |.v (.int k a),.v (.int dx b)=>if k=dx then some (decide (a=b))else none
 |.str a,.str b=>some (decide (a=b))
 |_,_=>none
def hy(k:aC):List (aC×U)→Option (Option U)
 |[]=>some none
 |(ac,v)::r=>match gf k ac with
  |some true=>some (some v)
  |some false=>hy k r
  |none=>none
def qu:List UInt8→List UInt8→Bool
 |[],[]=>false
 |[],_::_=>true
 |_::_,[]=>false
 |a::r,b::t=>if a.toNat<b.toNat then true else if a.toNat=b.toNat then qu r t else false
def nb:aC→aC→Bool
 |.v (.int _ a),.v (.int _ b)=>decide (a<b)
 |.str a,.str b=>qu a b
 |_,_=>false
def kJ(k:aC)(v:U):List (aC×U)→List (aC×U)
 |[]=>[(k,v)]
 |p::r=>if nb k p.1=true then(k,v)::p::r else p::kJ k v r
def jV(k:aC)(v:U):List (aC×U)→List (aC×U)
 |[]=>[]
 |p::r=>(if gf k p.1=some true then(k,v)else p)::jV k v r
def ki(k:aC)(v:U)(es:List (aC×U)):Option (List (aC×U)):=
 match hy k es with
 |some none=>some (kJ k v es)
 |some (some _)=>some (jV k v es)
 |none=>none
def A0(P:Program)(iT:TypeId):aC→Bool
 |.v (.int k _)=>decide (nB P iT=some k)
 |.str _=>hx P iT
 |_=>false
def uG(ok:Bool)(zero:Option U):Option (Option U)→Option U
 |some (some v)=>some (if ok=true then .bd [v,.bool true]else v)
 |some none=>match zero with
  |some z=>if one z=true then some (if ok=true then .bd [z,.bool false]else z)else none
  |none=>none
 |none=>none
def A1(E:Env)(t:TypeId)(k:U)(ok:Bool):Option Chunk→Option U
 |some (.map es)=>match tn E.P t,k with
  |some (iT,e),.i cu=>if A0 E.P iT cu=true then uG ok (kG E.P e) (hy cu es)else none
  |_,_=>none
 |_=>none
def yz(E:Env)(H:aa)(t:TypeId)(x k:U)(ok:Bool):Option U:=match x with
 |.dv c=>A1 E t k ok H[c]?
 |x=>if ok=true then DX E t x k else none
def sx(E:Env)(H:aa)(c:Nat)(t:TypeId)(k x:U):Option Chunk→Option (U×aa)
 |some (.map es)=>match tn E.P t,k with
  |some (iT,_),.i cu=>if A0 E.P iT cu=true∧one x=true then(ki cu x es).map λ hJ=>(.dead,H.set c (.map hJ))else none
  |_,_=>none
 |_=>none
def mE(E:Env)(H:aa)(t:TypeId)(m k x:U):Option (U×aa):=match m with
 |.dv c=>sx E H c t k x H[c]?
 |_=>none
def et(E:Env)(J:Fr)(H:aa):Op→Option U
 |.move x=>some (bn E J x)
 |.assign x=>some (bn E J x)
 |.pick c a b=>match bn E J c with
  |.i (.v (.bool t))=>some (bif t then bn E J a else bn E J b)
  |_=>none
 |.build t parts=>jU E t (parts.toList.map λ p=>(p.1,bn E J p.2))
 |.load t a=>tm E H t (bn E J a)
 |.nilCheck x=>match bn E J x with
  |.ptr c g r k=>some (.ptr c g r k)
  |.i (.gd c ai)=>some (.i (.gd c ai))
  |.aQ (.func f) a b=>some (.aQ (.func f) a b)
  |.x (.e c g r)=>some (.x (.e c g r))
  |.x (.p c g s r i k)=>some (.x (.p c g s r i k))
  |_=>none
 |.binOp op t x y _=>jS E.P op t (bn E J x) (bn E J y)
 |.unOp op _ x=>yy op (bn E J x)
 |.convert s d x=>match e0 E.P s with
  |some e=>AZ E H e d (bn E J x)
  |none=>mD E s d (bn E J x)
 |.makeFunc fn first ft=>some (.aQ fn (first.toList.map (bn E J)) (ft.toList.map (bn E J)))
 |.slice t x bS ax kI=>jT E H t (bn E J x) (bS.map (bn E J)) (ax.map (bn E J)) (kI.map (bn E J))
 |.fieldAddr s x f=>match AW E.P s f with
  |some (off,d')=>match fG E.P d' with
   |some z=>if 0<z then wA off (bn E J x)else none
   |none=>none
  |none=>none
 |.field t x f=>Hk E t (bn E J x) f
 |.indexAddr t x jv=>AX E H t (bn E J x) (bn E J jv)
 |.index t x jv=>AY E t (bn E J x) (bn E J jv)
 |.lookup t x k ok=>yz E H t (bn E J x) (bn E J k) ok
 |.extract x n=>match bn E J x with
  |.bd vs=>vs[n]?
  |_=>none
 |.call ⟨.builtin b,args,e1⟩=>match b,args.toList,e1.toList with
  |.len,[x],[t]=>if hx E.P t=true∨(e0 E.P t).isSome=true then match bn E J x with
   |.i (.str l)=>if hx E.P t=true then some (.int .i64 l.length)else none
   |.i (.sl _ rows _)=>if hx E.P t=true then none else some (.int .i64 rows.length)
   |.ref _ _ _ len=>if hx E.P t=true then none else some (.int .i64 len)
   |.x (.d _ _ _ len)=>if hx E.P t=true then none else some (.int .i64 len)
   |_=>none
   else none
  |.max,l,_=>rB DV (l.map (bn E J))
  |.min,l,_=>rB DW (l.map (bn E J))
  |_,_,_=>none
 |_=>none
def qv(z:Nat):List bT→Option (List aC)
 |[]=>some []
 |.own bP::l=>(qv z l).map (.sl z bP false::·)
 |.dK y::l=>(qv z l).map (y::·)
 |.dead::_=>none
def A2(c g off len:Nat)(H:aa):Option (List aC)→Option (aC×aa)
 |some xs=>some (.sl 1 (((xs.map λ y=>[y]).drop off).take len) false,H.set c (.fd g (xs.map λ y=>[y])))
 |none=>none
def uH(c g off len:Nat)(H:aa):Option Chunk→Option (aC×aa)
 |some (.az z aU _ rows)=>if g=aU then A2 c g off len H (qv z rows)else none
 |some (.fd aU rows)=>if g=aU then some (.sl 1 ((rows.drop off).take len) false,H)else none
 |_=>none
def uI(c g s r:Nat)(H:aa):Option Chunk→Option (aC×aa)
 |some (.az z aU dD rows)=>if g=aU∧s=dD then match rows[r]? with
  |some (.own bP)=>some (.sl z bP false,H.set c (.az z g s (rows.set r (.dK (.sl z bP false)))))
  |_=>none
  else none
 |_=>none
def o4(H:aa):cN→Option (aC×aa)
 |.d c g off len=>uH c g off len H H[c]?
 |.h c g s r=>uI c g s r H H[c]?
 |_=>none
def freeze(H:aa):U→Option (aC×aa)
 |.i x=>some (x,H)
 |.ref c g off len=>match H[c]? with
  |some (.sl aw aU rows ex)=>if g=aU then
   some (.sl aw ((rows.drop off).take len) (ex &&decide (off+len=rows.length)),H.set c (.bj aw g rows ex))else none
  |some (.bj aw aU rows ex)=>if g=aU then some (.sl aw ((rows.drop off).take len) (ex &&decide (off+len=rows.length)),H)else none
  |_=>none
 |.x k=>o4 H k
 |_=>none
def fC(H:aa):List U→Option (List aC×aa)
 |[]=>some ([],H)
 |a::r=>match freeze H a with
  |some (x,H1)=>match fC H1 r with
   |some (xs,bu)=>some (x::xs,bu)
   |none=>none
  |none=>none
def hZ:Option Nat→aC→aC
 |some z,.sl aw rows _=>if aw=z then .sl z rows false else if rows=[]then .sl z [] false else .sl aw rows false
 |_,x=>x
def hO:List (Option Nat)→List aC→List aC
 |k::br,x::r=>hZ k x::hO br r
 |_,l=>l
def jx:List (Option Nat)→List U→List U
 |k::br,.i x::r=>.i (hZ k x)::jx br r
 |_::br,a::r=>a::jx br r
 |_,l=>l
def rC(br:List (Option Nat)):U→U
 |.i x=>.i (hZ (br.headD none) x)
 |.agg cells=>.agg (jx br cells)
 |a=>a
def nC:List (List (Option Nat))→List U→List U
 |k::br,a::r=>rC k a::nC br r
 |_,l=>l
def yA(H:aa)(z:Nat):Bool→U×aa
 |true=>(.ref H.length 0 0 0,H++[.sl z 0 [] false])
 |false=>(.x (.d H.length 0 0 0),H++[.az (z-1000) 0 0 []])
def iU(z:Nat)(H:aa):U→U×aa
 |.i (.sl _ [] true)=>yA H z (decide (z<1000))
 |a=>(a,H)
def k7:List (Option Nat)→aa→U→U×aa
 |[some z],H,a=>iU z H a
 |_,H,a=>(a,H)
def eR:List (List (Option Nat))→List U→aa→List U×aa
 |k::br,a::r,H=>((k7 k H a).1::(eR br r (k7 k H a).2).1,(eR br r (k7 k H a).2).2)
 |_,l,H=>(l,H)
def rD:List (Nat×Nat)→Fr→aa→Fr×aa
 |[],J,H=>(J,H)
 |(k,z)::r,J,H=>rD r ((k,(iU z H (get k J)).1)::J) (iU z H (get k J)).2
def A3(ac z c:Nat)(H:aa):Option Chunk→aa
 |some (.box cells)=>match cells[ac]? with
  |some a=>(iU z H a).2.set c (.box (cells.set ac (iU z H a).1))
  |none=>H
 |_=>H
def DY(ac z:Nat)(H:aa):U→aa
 |.ptr c _ _ _=>A3 ac z c H H[c]?
 |_=>H
def uJ:List (Nat×Nat×Nat)→Fr→aa→aa
 |[],_,H=>H
 |(k,ac,z)::r,J,H=>uJ r J (DY ac z H (get k J))
def yB(k z:Nat)(J:Fr)(H:aa):Option (aC×aa)→Fr×aa
 |some (x,H1)=>((k,.i (hZ (some z) x))::J,H1)
 |none=>(J,H)
def qw:List (Nat×Nat)→Fr→aa→Fr×aa
 |[],J,H=>(J,H)
 |(k,z)::r,J,H=>qw r (yB k z J H (freeze H (get k J))).1 (yB k z J H (freeze H (get k J))).2
def DZ(c g ai n:Nat):Option Chunk→U
 |some (.sl _ aU _ _)=>if g=aU then .ref c 0 ai n else .dead
 |some (.bj aw aU rows ex)=>if g=aU then .i (.sl aw ((rows.drop ai).take n) (ex &&decide (ai+n=rows.length)))else .dead
 |_=>.dead
def tp(c g r k:Nat):Option Chunk→U
 |some (.sl _ aU _ _)=>if g=aU then .ptr c 0 r k else .dead
 |some _=>.ptr c g r k
 |none=>.dead
def rE(k:cN):Option Chunk→U
 |some (.az _ aU dD _)=>match k with
  |.d c g ai n=>if g=aU then .x (.d c 0 ai n)else .dead
  |.e c g r=>if g=aU then .x (.e c 0 r)else .dead
  |.h c g s r=>if g=aU∧s=dD then .x (.h c 0 0 r)else .dead
  |.p c g s r i ac=>if g=aU∧s=dD then .x (.p c 0 0 r i ac)else .dead
 |some (.fd aU rows)=>match k with
  |.d _ g ai n=>if g=aU then .i (.sl 1 ((rows.drop ai).take n) false)else .dead
  |_=>.dead
 |_=>.dead
mutual
def el (B:Nat) (H:aa):U→U
 |.dead=>.dead
 |.i x=>.i x
 |.agg l=>.agg (ey B H l)
 |.ref c g ai n=>if c<B then .ref c g ai n else DZ c g ai n H[c]?
 |.ptr c g r k=>if c<B then .ptr c g r k else tp c g r k H[c]?
 |.dv c=>.dv c
 |.x k=>if k.c<B then .x k else rE k H[k.c]?
 |.aQ f a b=>.aQ f (ey B H a) (ey B H b)
 |.bd l=>.bd (ey B H l)
def ey (B:Nat) (H:aa):List U→List U
 |[]=>[]
 |a::r=>el B H a::ey B H r
end
def uK(B:Nat)(H:aa):List (aC×U)→List (aC×U)
 |[]=>[]
 |p::r=>(p.1,el B H p.2)::uK B H r
def dO(B:Nat)(H:aa)(c:Nat):Chunk→Chunk
 |.box cells=>.box (ey B H cells)
 |.map es=>.map (uK B H es)
 |.cY t cells=>.cY t (ey B H cells)
 |.sl aw g rows ex=>if c<B then .sl aw g rows ex else .sl aw 0 rows false
 |.az z g s rows=>if c<B then .az z g s rows else .az z 0 0 rows
 |x=>x
def eJ(B:Nat)(H:aa):Nat→aa→aa
 |_,[]=>[]
 |c,x::r=>dO B H c x::eJ B H (c+1) r
def od(B:Nat)(H:aa):Fr→Fr
 |[]=>[]
 |(k,a)::r=>(k,el B H a)::od B H r
def o5(z:Nat):Nat→List aC→List (List aC)
 |0,_=>[]
 |n+1,l=>l.take z::o5 z n (l.drop z)
def kK:List U→Option (List aC)
 |[]=>some []
 |.i x::r=>(kK r).map (x::·)
 |_=>none
def Hm(E:Env)(e:TypeId):Option (List aC):=
 match kG E.P e with
 |some (.agg cs)=>kK cs
 |some (.i x)=>some [x]
 |_=>none
def k8(E:Env)(H:aa)(t:TypeId)(n:Nat)(parts:List (Nat×U)):Option (U×aa):=
 match e0 E.P t with
 |some e=>match fG E.P e,kG E.P e with
  |some z,some zero=>if n*z≤16777216∧(cw zero).length=z∧0<z∧(cw zero).all one=true then
    match fX z (cB n (cw zero)).flatten parts with
    |some cells=>match fC H cells with
     |some (xs,H1)=>some (.ref H1.length 0 0 n,H1++[.sl z 0 (o5 z n (hO (cB n (E.kinds e)).flatten xs)) true])
     |none=>none
    |none=>none
   else none
  |_,_=>none
 |none=>none
def tq(z:Nat):Option (aC×aa)→Option (bT×aa)
 |some (y,H1)=>some (.dK (hZ (some z) y),H1)
 |none=>none
def A4(H:aa)(z d g len:Nat):Option Chunk→Option (bT×aa)
 |some (.sl c_ aU bP ex)=>if c_=z∧0<z∧g=aU∧len=bP.length then some (.own bP,H.set d .gone)else none
 |_=>tq z (freeze H (.ref d g 0 len))
def pP(H:aa)(z:Nat):U→Option (bT×aa)
 |.ref d g 0 len=>A4 H z d g len H[d]?
 |v=>tq z (freeze H v)
def wB(c g r:Nat):Option (bT×aa)→Option aa
 |some (y,H1)=>match H1[c]? with
  |some (.az z aU s rows)=>if g=aU∧r<rows.length then some (H1.set c (.az z g (s+1) (rows.set r y)))else none
  |_=>none
 |none=>none
def wC(H:aa)(c g r:Nat)(v:U):Option Chunk→Option aa
 |some (.az z _ _ _)=>wB c g r (pP H z v)
 |_=>none
def wD(E:Env)(H:aa)(t:TypeId)(n c g s r i k:Nat)(v:U):Option Chunk→Option aa
 |some (.az z aU dD rows)=>if g=aU∧s=dD∧k+n≤z then match rows[r]? with
  |some (.own bP)=>match bP[i]?,kK (cw v)with
   |some row,some xs=>some (H.set c (.az z g s (rows.set r (.own (bP.set i (row.take k++hO (E.kinds t) xs++row.drop (k+n)))))))
   |_,_=>none
  |_=>none
  else none
 |_=>none
def pQ(E:Env)(H:aa)(t:TypeId)(n:Nat)(v:U):cN→Option aa
 |.e c g r=>if n=1 then wC H c g r v H[c]? else none
 |.p c g s r i k=>wD E H t n c g s r i k v H[c]?
 |_=>none
def rF(E:Env)(t t2:TypeId):Bool:=
 match e0 E.P t with
 |some e=>match fG E.P e,tl E.P e,kG E.P e with
  |some z,some b,some dX=>decide (z=1∧b≤65536∧(e0 E.P t2).isSome=true∧(cw dX).length=1) &&(cw dX).all one
  |_,_,_=>false
 |none=>false
def A5(z:Nat):Option (bT×aa)→Option (U×aa)
 |some (y,H1)=>some (.x (.d H1.length 0 0 1),H1++[.az z 0 1 [y]])
 |none=>none
def tr(E:Env)(H:aa)(t:TypeId)(z n:Nat)(parts:List (Nat×U)):Option (U×aa):=
 match parts with
 |[(0,v)]=>if n=1∧one v=true∧rF E t t=true then A5 z (pP H z v)else none
 |_=>none
def e5(rows:List bT)(off len:Nat):List bT:=rows.take off++(cB len bT.dead++rows.drop (off+len))
def uL(z d g off len:Nat)(H:aa):Option Chunk→Option (Nat×List bT×aa)
 |some (.az c_ aU s rows)=>if z=c_∧g=aU∧off+len≤rows.length then some (d,(rows.drop off).take len,H.set d (.az z g (s+1) (e5 rows off len)))else none
 |_=>none
def lC(z:Nat)(H:aa):U→Option (Nat×List bT×aa)
 |.x (.d c g off len)=>uL z c g off len H H[c]?
 |_=>none
def A6(z d c g len:Nat)(new:List bT)(H:aa):Option Chunk→Option (U×aa)
 |some (.az c_ aU _ rows)=>if z=c_∧g=aU∧c≠d∧len≤rows.length∧len+new.length<1073741824 then
  some (.x (.d c (g+1) 0 (len+new.length)),H.set c (.az z (g+1) 0 (rows.take len++new)))else none
 |_=>none
def uM(z:Nat)(s:U):Option (Nat×List bT×aa)→Option (U×aa)
 |some (d,new,H1)=>match s with
  |.i (.sl _ [] true)=>if new.length<1073741824 then some (.x (.d H1.length 0 0 new.length),H1++[.az z 0 0 new])else none
  |.x (.d c g 0 len)=>A6 z d c g len new H1 H1[c]?
  |_=>none
 |none=>none
def ts(E:Env)(H:aa)(t t2:TypeId)(z:Nat)(s x:U):Option (U×aa):=
 if rF E t t2=true then uM z s (lC z H x)else none
def A7(z d c g off len:Nat)(new:List bT)(H:aa):Option Chunk→Option (U×aa)
 |some (.az c_ aU s rows)=>if z=c_∧g=aU∧c≠d∧off+len≤rows.length∧new.length≤len then
  some (.int .i64 new.length,H.set c (.az z g (s+1) (rows.take off++(new++rows.drop (off+new.length)))))else none
 |_=>none
def yC(z:Nat)(x:U):Option (Nat×List bT×aa)→Option (U×aa)
 |some (d,new,H1)=>match x with
  |.x (.d c g off len)=>A7 z d c g off len new H1 H1[c]?
  |_=>none
 |none=>none
def qx(E:Env)(H:aa)(t:TypeId)(z:Nat)(x y:U):Option (U×aa):=
 if rF E t t=true then yC z x (lC z H y)else none
def sy(E:Env)(t:TypeId):Option Nat:=(e0 E.P t).bind E.Ss
def pR:List aC→bT
 |[y]=>.dK y
 |_=>.dead
def A8(z c n:Nat)(H:aa):Option Chunk→Option (U×aa)
 |some (.sl 1 0 rows _)=>some (.x (.d c 0 0 n),H.set c (.az z 0 0 (rows.map pR)))
 |_=>none
def tt(z:Nat):Option (U×aa)→Option (U×aa)
 |some (.ref c 0 0 n,H)=>A8 z c n H H[c]?
 |_=>none
def nD(E:Env)(H:aa)(t:TypeId)(p v:U):Option aa:=
 match fG E.P t with
 |some n=>if(cw v).length=n∧(cw v).all one=true then match p with
  |.x k=>pQ E H t n v k
  |.ptr c g r k=>match H[c]? with
   |some (.box cells)=>if k+n≤cells.length then some (H.set c (.box (o3 cells k (cw v))))else none
   |some (.sl ..)=>match fC H (cw v)with
    |some (xs,H1)=>match H1[c]? with
     |some (.sl aw aU rows ex)=>if g=aU∧k+n≤aw then match rows[r]? with
      |some row=>some (H1.set c (.sl aw aU (rows.set r (row.take k++hO (E.kinds t) xs++row.drop (k+n))) ex))
      |none=>none
      else none
     |_=>none
    |none=>none
   |_=>none
  |_=>none
  else none
 |none=>none
def kL(H:aa):U→Option (Nat×List (List aC)×Bool)
 |.i (.str l)=>some (1,l.map λ b=>[aC.v (.int .u8 b.toNat)],true)
 |x=>hH H x
def hz(E:Env)(H:aa)(t t2:TypeId)(s x:U):Option (U×aa):=
 match e0 E.P t with
 |some e=>match fG E.P e,tl E.P e,kG E.P e,kL H x with
  |some z,some b,some dX,some (c_,new,_)=>
   if(new=[]∨c_=z)∧0<z∧b≤65536∧((e0 E.P t2).isSome=true∨hx E.P t2=true)∧(cw dX).length=z∧(cw dX).all one=true then match s with
   |.i (.sl aw rows ex)=>if ex=true∧(rows=[]∨(aw=z∧new≠[]))∧rows.length+new.length<1073741824 then
     some (.ref H.length 0 0 (rows.length+new.length),H++[.sl z 0 (rows++new) (rows.isEmpty &&new.isEmpty)])else none
   |.ref c g off len=>match H[c]? with
    |some (.sl aw aU rows ex)=>if g=aU∧off=0∧aw=z∧len+new.length<1073741824 then
      some (.ref c (g+1) 0 (len+new.length),H.set c (.sl z (g+1) (rows.take len++new) (ex &&rows.isEmpty &&new.isEmpty)))else none
    |some (.bj aw aU rows ex)=>if g=aU∧off=0∧aw=z∧ex=true∧len=rows.length∧new≠[]∧len+new.length<1073741824 then
      some (.ref H.length 0 0 (len+new.length),H++[.sl z 0 (rows++new) false])else none
    |_=>none
   |_=>none
   else none
  |_,_,_,_=>none
 |none=>none
def qy(E:Env)(H:aa)(t t2:TypeId)(z:Nat)(s:U):U→Option (U×aa)
 |.i y=>hz E H t t2 s (.i y)
 |x=>ts E H t t2 z s x
def yD(z g off len:Nat)(new:List (List aC))(H:aa)(c:Nat):Option Chunk→Option (U×aa)
 |some (.sl aw aU rows ex)=>if g=aU∧aw=z then
  some (.int .i64 (min new.length len:Nat),H.set c (.sl z aU (rows.take off++(new.take len++rows.drop (off+min new.length len))) ex))else none
 |_=>none
def nc(E:Env)(H:aa)(t:TypeId)(d x:U):Option (U×aa):=
 match e0 E.P t with
 |some e=>match fG E.P e,d,hH H x with
  |some z,.ref c g off len,some (c_,new,_)=>if(new=[]∨c_=z)∧0<z then yD z g off len new H c H[c]? else none
  |_,_,_=>none
 |none=>none
def jg(E:Env)(H:aa)(t:TypeId)(l c:U):Option (U×aa):=
 match e0 E.P t,l,c with
 |some e,.i (.v (.int _ n)),.i (.v (.int _ m))=>match fG E.P e,Hm E e,tl E.P e with
  |some z,some row,some b=>if 0≤n∧n=m∧n<1073741824∧row.length=z∧0<z∧b≤65536 then
    some (.ref H.length 0 0 n.toNat,H++[.sl z 0 (cB n.toNat (hO (E.kinds e) row)) true])
   else if n=0∧0<m∧m<1073741824∧row.length=z∧0<z∧b≤65536 then some (.ref H.length 0 0 0,H++[.sl z 0 [] false])else none
  |_,_,_=>none
 |_,_,_=>none
def rG(l:List UInt8):Nat→Nat→List Int
 |0,_=>[]
 |n+1,i=>if i<l.length then((l7 ⟨⟨l⟩⟩ i).1:Int)::rG l n (i+(l7 ⟨⟨l⟩⟩ i).2)else[]
def lD(l:List UInt8):List (List aC):=(rG l l.length 0).map λ r=>[aC.v (.int .i32 r)]
def yE(H:aa)(l:List UInt8):Option IntKind→Option (U×aa)
 |some .u8=>some (.ref H.length 0 0 l.length,H++[.sl 1 0 (l.map λ b=>[aC.v (.int .u8 b.toNat)]) false])
 |some .i32=>some (.ref H.length 0 0 (lD l).length,H++[.sl 1 0 (lD l) false])
 |_=>none
def jh(br:List (Option Nat)):List Nat→aa→List U→Option (List U×aa)
 |[],H,cs=>some (cs,H)
 |ac::r,H,cs=>match cs[ac]? with
  |some a=>match freeze H a with
   |some (x,H1)=>jh br r H1 (cs.set ac (.i (hZ (br.getD ac none) x)))
   |none=>none
  |none=>none
def wE:U→List U→U
 |.agg _,cs=>.agg cs
 |a,cs=>cs.headD a
def uN(v:U):Option (List U×aa)→Option (U×aa)
 |some (cs,H1)=>some (wE v cs,H1)
 |none=>none
def kj(E:Env)(t:TypeId)(H:aa)(v:U):List Nat→Option (U×aa)
 |[]=>some (v,H)
 |ac::r=>uN v (jh (E.kinds t) (ac::r) H (cw v))
def yF:Option (U×aa)→Option (U×aa)
 |some (v,H1)=>if(cw v).all one then some (.ptr H1.length 0 0 0,H1++[.box (cw v)])else none
 |none=>none
def wF(E:Env)(t:TypeId)(p:U):Option (U×aa)→Option (U×aa)
 |some (v,H1)=>(nD E H1 t p v).map λ an=>(.dead,an)
 |none=>none
def Hn(E:Env)(t:TypeId)(n:Nat):Option Nat:=if n=1 then sy E t else none
def dc(E:Env)(J:Fr)(H:aa):Op→Option (U×aa)
 |.alloc e=>match kG E.P e with
  |some v=>if(cw v).all one then(if E.Sr e then(if LM E.P e=true then some (.dv H.length,H++[.cY e (Hi E.P e)])else none)else some (.ptr H.length 0 0 0,H++[.box (cw v)]))else none
  |none=>none
 |.box t x=>yF (kj E t H (bn E J x) (E.st t))
 |.buildSlice t n parts=>match Hn E t n with
  |none=>k8 E H t n (parts.toList.map λ p=>(p.1,bn E J p.2))
  |some z=>tr E H t z n (parts.toList.map λ p=>(p.1,bn E J p.2))
 |.store t a x=>wF E t (bn E J a) (kj E t H (bn E J x) (E.st t))
 |.makeSlice t l c=>match sy E t with
  |none=>jg E H t (bn E J l) (bn E J c)
  |some z=>tt z (jg E H t (bn E J l) (bn E J c))
 |.convert s d x=>match bn E J x with
  |.i (.str l)=>if hx E.P s=true∧l.length<1073741824 then yE H l ((e0 E.P d).bind (nB E.P))else none
  |_=>none
 |.slice t x bS ax (some m)=>match freeze H (bn E J x)with
  |some (y,H1)=>(jT E H1 t (.i y) (bS.map (bn E J)) (ax.map (bn E J)) (some (bn E J m))).map λ v=>(v,H1)
  |none=>none
 |.range t x=>match bn E J x with
  |.i (.str l)=>if hx E.P t=true then some (.ptr H.length 0 0 0,H++[.iter l 0])else none
  |_=>none
 |.makeMap t none=>match tn E.P t with
  |some _=>some (.dv H.length,H++[.map []])
  |none=>none
 |.mapUpdate t m k x=>mE E H t (bn E J m) (bn E J k) (bn E J x)
 |.insert t m k x=>mE E H t (bn E J m) (bn E J k) (bn E J x)
 |.next it b=>match b,bn E J it with
  |true,.ptr c _ _ 0=>match H[c]? with
   |some (.iter s pos)=>if pos<s.length then
    some (.bd [.bool true,.int .i64 pos,.int .i32 (l7 ⟨⟨s⟩⟩ pos).1],H.set c (.iter s (pos+(l7 ⟨⟨s⟩⟩ pos).2)))else some (.bd [.bool false],H)
   |_=>none
  |_,_=>none
 |.call ⟨.builtin b,args,e1⟩=>match b,args.toList,e1.toList with
  |.append,[s,x],[t,t2]=>match sy E t with
   |none=>hz E H t t2 (bn E J s) (bn E J x)
   |some z=>qy E H t t2 z (bn E J s) (bn E J x)
  |.copy,[d,x],[t,_]=>match sy E t with
   |none=>nc E H t (bn E J d) (bn E J x)
   |some z=>qx E H t z (bn E J d) (bn E J x)
  |_,_,_=>none
 |_=>none
def ez(E:Env):Op→Bool
 |.alloc _|.box ..|.buildSlice ..|.store ..|.makeSlice ..|.range ..|.next ..|.makeMap ..|.mapUpdate ..|.insert ..=>true
 |.convert _ d _=>(e0 E.P d).isSome
 |.call ⟨.builtin b,_,_⟩=>match b with
  |.append=>true
  |.copy=>true
  |_=>false
 |.call ⟨.value _,_,_⟩=>true
 |_=>false
mutual
def co (aS:Nat→Option Nat):U→U
 |.dead=>.dead
 |.i x=>.i x
 |.agg l=>.agg (cx aS l)
 |.ref c g ai n=>match aS c with|some cl=>.ref cl g ai n|none=>.dead
 |.ptr c g r k=>match aS c with|some cl=>.ptr cl g r k|none=>.dead
 |.dv c=>match aS c with|some cl=>.dv cl|none=>.dead
 |.x k=>match aS k.c with|some cl=>.x (k.to cl)|none=>.dead
 |.aQ f a b=>.aQ f (cx aS a) (cx aS b)
 |.bd l=>.bd (cx aS l)
def cx (aS:Nat→Option Nat):List U→List U
 |[]=>[]
 |a::r=>co aS a::cx aS r
end
mutual
def bc:U→List Nat
 |.dead=>[]
 |.i _=>[]
 |.agg l=>bx l
 |.ref c _ _ _=>[c]
 |.ptr c _ _ _=>[c]
 |.dv c=>[c]
 |.x k=>[k.c]
 |.aQ _ a b=>bx a++bx b
 |.bd l=>bx l
def bx:List U→List Nat
 |[]=>[]
 |a::r=>bc a++bx r
end
def yG(aS:Nat→Option Nat):List (aC×U)→List (aC×U)
 |[]=>[]
 |p::r=>(p.1,co aS p.2)::yG aS r
def wG:List (aC×U)→List Nat
 |[]=>[]
 |p::r=>bc p.2++wG r
def Chunk.cI(aS:Nat→Option Nat):Chunk→Chunk
 |.box cells=>.box (cx aS cells)
 |.map es=>.map (yG aS es)
 |.cY t cells=>.cY t (cx aS cells)
 |c=>c
def Chunk.refs:Chunk→List Nat
 |.box cells=>bx cells
 |.map es=>wG es
 |.cY _ cells=>bx cells
 |_=>[]
def reach(H:aa):Nat→List Nat→List Nat→List Nat
 |0,_,seen=>seen
 |_+1,[],seen=>seen
 |n+1,c::r,seen=>if c∈seen∨H.length≤c then reach H n r seen
  else reach H n (((H[c]?).map Chunk.refs).getD []++r) (seen++[c])
def bt:List Nat→Nat→Option Nat
 |[],_=>none
 |c::r,k=>if k=c then some 0 else(bt r k).map (·+1)
def qz:Nat→List U→Fr
 |_,[]=>[]
 |k,a::r=>(k,a)::qz (k+1) r
inductive eC where
 |normal|exit (id:Nat)|ret
 deriving DecidableEq
def yH(E:Env)(J:Fr)(H:aa):ResultVar→Option U
 |.tmp t=>some (get t J)
 |.cell a t=>tm E H t (get a J)
def qA(E:Env)(J:Fr)(H:aa):List ResultVar→Option (List U)
 |[]=>some []
 |r::l=>match yH E J H r,qA E J H l with
  |some a,some bE=>some (a::bE)
  |_,_=>none
def wH(E:Env)(J:Fr)(H:aa)(l:List ResultVar):Option U:=
 match qA E J H l with
 |some [a]=>some a
 |some bE=>some (.bd bE)
 |none=>none
abbrev D0:=Nat→FuncId→Code→Fr→aa→Option (eC×Fr×aa)
abbrev dy:=FuncId→List U→aa→Option (U×aa)
def dk(H:aa):List U→Option (List U×aa)
 |[]=>some ([],H)
 |a::r=>match a with
  |.ref ..=>match freeze H a with
   |some (x,H1)=>match dk H1 r with
    |some (bE,bu)=>some (.i x::bE,bu)
    |none=>none
   |none=>none
  |.x _=>match freeze H a with
   |some (x,H1)=>match dk H1 r with
    |some (bE,bu)=>some (.i x::bE,bu)
    |none=>none
   |none=>none
  |.agg l=>match fC H l with
   |some (xs,H1)=>match dk H1 r with
    |some (bE,bu)=>some (.agg (kH xs)::bE,bu)
    |none=>none
   |none=>match dk H r with
    |some (bE,bu)=>some (.agg l::bE,bu)
    |none=>none
  |a=>match dk H r with
   |some (bE,bu)=>some (a::bE,bu)
   |none=>none
def iV(E:Env)(f:FuncId)(H:aa)(args:List U):Option (List U×aa):=
 match E.yx f with
 |true=>some (eR (E.gF f) args H)
 |false=>match dk H args with
  |some (bE,H1)=>some (nC (E.gF f) bE,H1)
  |none=>none
def ea(H:aa):List Nat→List Chunk→aa
 |c::r,x::t=>ea (H.set c x) r t
 |_,_=>H
def df(aV:List Nat)(n:Nat)(K:List Nat):Nat→Option Nat:=λ i=>
 match aV[i]? with
 |some c=>some c
 |none=>(bt K i).map (·+n)
def eV(E:Env)(aJ:dy):dy:=λ f args H=>
 match E.ext f with
 |some h=>h args H
 |none=>aJ f args H
def k9(E:Env)(aJ:dy):dy:=λ f args H=>
 match iV E f H args with
 |none=>none
 |some (hA,H1)=>
  let aV:=reach H1 64 (bx hA) []
  let D1:=bt aV
  match eV E aJ f (cx D1 hA) (aV.map λ c=>((H1[c]?).map (Chunk.cI D1)).getD (.iter [] 0))with
  |none=>none
  |some (r,L)=>if L.length<aV.length then none else
   let K:=(reach L 64 (bc r++(L.take aV.length).flatMap Chunk.refs) []).filter λ i=>decide (aV.length≤i)
   let back:=df aV H1.length K
   some (co back r,ea H1 aV ((L.take aV.length).map (Chunk.cI back))++K.map λ i=>((L[i]?).map (Chunk.cI back)).getD (.iter [] 0))
noncomputable def D2(x y:Value):Bool:=match x with
 |.int k a=>match y with|.int dx b=>decide (k=dx) &&decide (a=b)|_=>false
 |.bool a=>match y with|.bool b=>a==b|_=>false
 |.pointer none=>match y with|.pointer none=>true|_=>false
 |.nilFunc=>match y with|.nilFunc=>true|_=>false
 |.map none=>match y with|.map none=>true|_=>false
 |x=>@decide (x=y) (Classical.propDecidable _)
mutual
noncomputable def lE:aC→aC→Bool
 |.v x,.v y=>D2 x y
 |.str a,.str b=>a==b
 |.sl z r e,.sl c_ hk k_=>z==c_ &&(rH r hk &&e==k_)
 |.gd c ai,.gd cl rI=>uO c cl &&ai==rI
 |.mp a,.mp b=>decide (a=b)
 |_,_=>false
noncomputable def uO:List aC→List aC→Bool
 |[],[]=>true
 |a::r,b::t=>lE a b &&uO r t
 |_,_=>false
noncomputable def rH:List (List aC)→List (List aC)→Bool
 |[],[]=>true
 |a::r,b::t=>uO a b &&rH r t
 |_,_=>false
end
noncomputable def Ho(x y:Fn):Bool:=decide (x=y)
mutual
noncomputable def ix:U→U→Bool
 |.dead,.dead=>true
 |.i x,.i y=>lE x y
 |.agg a,.agg b=>qB a b
 |.ref a b c d,.ref bW bR cl ig=>a==bW &&(b==bR &&(c==cl &&d==ig))
 |.ptr a b c d,.ptr bW bR cl ig=>a==bW &&(b==bR &&(c==cl &&d==ig))
 |.dv a,.dv b=>a==b
 |.x a,.x b=>decide (a=b)
 |.aQ f a b,.aQ Hp bW bR=>Ho f Hp &&(qB a bW &&qB b bR)
 |.bd a,.bd b=>qB a b
 |_,_=>false
noncomputable def qB:List U→List U→Bool
 |[],[]=>true
 |a::r,b::t=>ix a b &&qB r t
 |_,_=>false
end
noncomputable def D3:bT→bT→Bool
 |.own a,.own b=>rH a b
 |.dK a,.dK b=>lE a b
 |.dead,.dead=>true
 |_,_=>false
noncomputable def wI:List bT→List bT→Bool
 |[],[]=>true
 |a::r,b::t=>D3 a b &&wI r t
 |_,_=>false
noncomputable def wJ:List (aC×U)→List (aC×U)→Bool
 |[],[]=>true
 |a::r,b::t=>(lE a.1 b.1 &&ix a.2 b.2) &&wJ r t
 |_,_=>false
noncomputable def D4:Chunk→Chunk→Bool
 |.box a,.box b=>qB a b
 |.sl a b c d,.sl bW bR cl ig=>a==bW &&(b==bR &&(rH c cl &&d==ig))
 |.bj a b c d,.bj bW bR cl ig=>a==bW &&(b==bR &&(rH c cl &&d==ig))
 |.iter a b,.iter bW bR=>a==bW &&b==bR
 |.map a,.map b=>wJ a b
 |.cY a b,.cY bW bR=>a==bW &&qB b bR
 |.ju a b,.ju bW bR=>a==bW &&b==bR
 |.gone,.gone=>true
 |.fd a b,.fd bW bR=>a==bW &&rH b bR
 |.az a b c d,.az bW bR cl ig=>a==bW &&(b==bR &&(c==cl &&wI d ig))
 |_,_=>false
noncomputable def wK:aa→aa→Bool
 |[],[]=>true
 |a::r,b::t=>D4 a b &&wK r t
 |_,_=>false
noncomputable def wL(H:aa):Option (U×aa)→Option (U×aa)
 |some (v,an)=>if wK H an=true then some (v,H)else none
 |none=>none
def kM:Nat:=1000000
def wM(H:aa)(fn:FuncId):List U→Option (U×aa)
 |[a]=>if one a=true then some (.aQ (.func fn) [] [.ptr H.length 0 0 0],H++[.box [a]])else none
 |_=>none
noncomputable def gg(E:Env)(aJ:dy):dy:=λ f args H=>
 match E.oa f with
 |some fn=>wM H fn args
 |none=>match E.ss f with
  |true=>wL H (k9 E aJ f args H)
  |false=>k9 E aJ f args H
def dH(dst:Option Nat)(v:U)(J:Fr):Fr:=
 match dst with
 |some d=>(d,v)::J
 |none=>J
def wN(E:Env)(J:Fr)(f:Operand)(args:List Operand):Option (FuncId×List U):=
 match bn E J f with
 |.aQ (.func g) first ft=>some (g,first++args.map (bn E J)++ft)
 |_=>none
def k'(E:Env)(g:FuncId):Bool:=
 match E.P.funcs[g]? with
 |some fn=>fn.body.isSome &&!(fn.name== "runtime.NumGoroutine")
 |none=>false
noncomputable def cd(E:Env)(aJ:dy)(ai:Op)(J:Fr)(H:aa):Option (U×aa):=
 match ai with
 |.call ⟨.value f,args,_⟩=>match wN E J f args.toList with
  |some (g,bE)=>if k' E g=true then gg E aJ g bE H else none
  |none=>none
 |ai=>if ez E ai then dc E J H ai else(et E J H ai).map λ v=>(v,H)
def gm(ops:List Oper)(J:Fr)(ai:Oper):Option Bool:=
 match ai.guard with
 |none=>some true
 |some (ac,want)=>match(ops[ac]?).bind (·.dst)with
  |some d=>match get d J with
   |.i (.v (.bool b))=>some (b==want)
   |.bd []=>some false
   |_=>none
  |none=>none
noncomputable def ih(E:Env)(aJ:dy)(ops:List Oper):List Oper→Fr→aa→Option (Fr×aa)
 |[],J,H=>some (J,H)
 |ai::r,J,H=>match gm ops J ai with
  |some true=>match cd E aJ ai.op J H with
   |some (v,an)=>ih E aJ ops r (dH ai.dst v J) an
   |none=>none
  |some false=>ih E aJ ops r (dH ai.dst (.bd []) J) H
  |none=>none
def qC(E:Env)(f:FuncId)(args:List U)(H:aa):List Nat:=
 match iV E f H args with
 |some (hA,H1)=>bx args++reach H1 64 (bx hA) []
 |none=>[]
def ji(E:Env)(f:FuncId)(args:List U)(H:aa):List Nat:=
 match E.oa f with
 |some _=>[]
 |none=>match E.ss f with
  |true=>(qC E f args H).map (·+kM)
  |false=>qC E f args H
def nE(E:Env)(t:TypeId)(n:Nat)(parts:List (Nat×U)):List Nat:=
 match e0 E.P t with
 |some e=>match fG E.P e,kG E.P e with
  |some z,some zero=>match fX z (cB n (cw zero)).flatten parts with
   |some cells=>bx cells
   |none=>[]
  |_,_=>[]
 |none=>[]
def cO(E:Env)(J:Fr)(H:aa):Op→List Nat
 |.call ⟨.value f,args,_⟩=>match wN E J f args.toList with
  |some (g,bE)=>ji E g bE H
  |none=>[]
 |.call ⟨.builtin _,args,_⟩=>bx (args.toList.map (bn E J))
 |.load _ x=>bc (bn E J x)
 |.indexAddr _ x _=>bc (bn E J x)
 |.slice _ x _ _ _=>bc (bn E J x)
 |.convert _ _ x=>bc (bn E J x)
 |.next it _=>bc (bn E J it)
 |.lookup _ x _ _=>bc (bn E J x)
 |.mapUpdate _ m _ _=>bc (bn E J m)++(bc (bn E J m)).map (·+kM)
 |.insert _ m _ _=>bc (bn E J m)++(bc (bn E J m)).map (·+kM)
 |.store _ a x=>bc (bn E J a)++bc (bn E J x)
 |.box t x=>match E.st t with
  |[]=>[]
  |_::_=>bc (bn E J x)
 |.buildSlice t n parts=>nE E t n (parts.toList.map λ p=>(p.1,bn E J p.2))
 |_=>[]
def kN:Op→Bool
 |.load ..|.indexAddr ..|.slice ..|.convert ..|.lookup ..=>true
 |_=>false
def pS(b:Array Nat)(i ac:Nat):Bool:=(b.getD ac 0).testBit i
def D5(E:Env)(ops:Array Oper):List (Nat×Nat):=
 let b:=pT ops
 (g' ops.size).flatMap λ ac=>(g' ac).filterMap λ i=>
  match ops[i]?,ops[ac]? with
  |some x,some y=>if !pS b i ac &&((ez E x.op &&kN y.op)||(ez E y.op &&kN x.op))then some (i,ac)else none
  |_,_=>none
def A9(E:Env)(ops:Array Oper):Bool:=
 let b:=pT ops
 (ops.toList.all λ ai=>!(ai.op matches .select ..)) &&
 ((g' ops.size).all λ ac=>match ops[ac]? with
  |some y=>y.after.all λ e=>!Region.binds .any e||decide (e.on<ac)
  |none=>false) &&
 (g' ops.size).all λ ac=>(g' ac).all λ i=>
  match ops[i]?,ops[ac]? with
  |some x,some y=>pS b i ac||(x.apart ops y &&!(ez E x.op &&ez E y.op))
  |_,_=>false
noncomputable def pU(E:Env)(aJ:dy)(ops:List Oper)(ai:Oper)(J:Fr)(H:aa):Option (Fr×aa×List Nat):=
 match gm ops J ai with
 |some true=>match cd E aJ ai.op J H with
  |some (v,an)=>some (dH ai.dst v J,an,cO E J H ai.op++lF H.length (an.length-H.length))
  |none=>none
 |some false=>some (dH ai.dst (.bd []) J,H,[])
 |none=>none
noncomputable def hP(E:Env)(aJ:dy)(ops:List Oper):List Oper→Fr→aa→Option (Fr×aa×List (List Nat))
 |[],J,H=>some (J,H,[])
 |ai::r,J,H=>match pU E aJ ops ai J H with
  |some (lG,H1,t)=>match hP E aJ ops r lG H1 with
   |some (dE,bu,fD)=>some (dE,bu,t::fD)
   |none=>none
  |none=>none
def qD(a b:List Nat):Bool:=a.all λ c=>!b.contains c
def sz(eA:List (List Nat))(p:Nat×Nat):Bool:=qD (eA.getD p.1 []) (eA.getD p.2 [])
def mF:Chunk:=.sl 0 0 [] true
def dQ:Op→Bool
 |.alloc _|.box ..|.buildSlice ..|.makeSlice ..=>true
 |.makeMap _ none=>true
 |_=>false
def h0:Option (U×aa)→Option (Option (Option Nat)×Chunk)
 |some (.ref _ _ _ n,[.sl z _ rows ex])=>some (some (some n),.sl z 1 rows ex)
 |some (.ptr _ _ _ _,[.box cells])=>some (none,.box cells)
 |some (.dv _,[.map []])=>some (some none,.map [])
 |_=>none
def tu(c:Nat):Option (Option Nat)→U
 |none=>.ptr c 0 0 0
 |some (some n)=>.ref c 1 0 n
 |some none=>.dv c
def D6(c:Nat)(H:aa)(r:Option (Option (Option Nat)×Chunk)):Option Chunk→Option (U×aa)
 |some (.sl 0 0 [] true)=>match r with
  |some (k,b6)=>some (tu c k,H.set c b6)
  |none=>none
 |_=>none
noncomputable def jy(E:Env)(aJ:dy)(c:Nat)(ai:Op)(J:Fr)(H:aa):Option (U×aa):=
 match dQ ai with
 |true=>D6 c H (h0 (dc E J [] ai)) H[c]?
 |false=>cd E aJ ai J H
def sA(E:Env)(c:Nat)(J:Fr)(H:aa)(ai:Op):List Nat:=
 match dQ ai with
 |true=>[c,c+kM]
 |false=>cO E J H ai
def nd(c:Nat)(ai:Op):Nat:=match dQ ai with|true=>c+1|false=>c
def o6(l:List Oper):Nat:=l.foldl (λ c ai=>nd c ai.op) 0
noncomputable def iy(E:Env)(aJ:dy)(ops:List Oper):Nat→List Oper→Fr→aa→Option (Fr×aa×List (List Nat))
 |_,[],J,H=>some (J,H,[])
 |c,ai::r,J,H=>match gm ops J ai with
  |some true=>match jy E aJ c ai.op J H with
   |some (v,an)=>match iy E aJ ops (nd c ai.op) r (dH ai.dst v J) an with
    |some (dE,bu,fD)=>some (dE,bu,(sA E c J H ai.op++lF H.length (an.length-H.length))::fD)
    |none=>none
   |none=>none
  |some false=>match iy E aJ ops (nd c ai.op) r (dH ai.dst (.bd []) J) H with
   |some (dE,bu,fD)=>some (dE,bu,[]::fD)
   |none=>none
  |none=>none
def A_:Op→Bool
 |.insert ..|.mapUpdate ..=>true
 |_=>false
def rJ:Op→Op→Bool
 |.insert _ _ (.const (.int k a)) _,.insert _ _ (.const (.int dx b)) _=>decide (k=dx) &&!decide (a=b)
 |_,_=>false
def D7(x y:Op):Bool:=(A_ x &&!A_ y)||(A_ y &&!A_ x)||rJ x y
def D8(E:Env)(ops:Array Oper):List (Nat×Nat):=
 let b:=pT ops
 (g' ops.size).flatMap λ ac=>(g' ac).filterMap λ i=>
  match ops[i]?,ops[ac]? with
  |some x,some y=>if !pS b i ac &&!rJ x.op y.op &&((ez E x.op &&(kN y.op||ez E y.op))||(ez E y.op &&(kN x.op||ez E x.op)))then some (i,ac)else none
  |_,_=>none
def A'(E:Env)(ops:Array Oper):Bool:=
 let b:=pT ops
 (ops.toList.all λ ai=>!(ai.op matches .select ..)) &&
 ((g' ops.size).all λ ac=>match ops[ac]? with
  |some y=>y.after.all λ e=>!Region.binds .any e||decide (e.on<ac)
  |none=>false) &&
 (g' ops.size).all λ ac=>(g' ac).all λ i=>
  match ops[i]?,ops[ac]? with
  |some x,some y=>pS b i ac||(x.apart ops y &&(!(ez E x.op &&ez E y.op)||dQ x.op||dQ y.op||D7 x.op y.op))
  |_,_=>false
def lH:Code→Bool
 |.seq a b=>lH a &&lH b
 |.cond _ a b=>lH a &&lH b
 |.block _ c=>lH c
 |.loop c=>lH c
 |.scope _=>false
 |.rangeFunc ..=>false
 |_=>true
def codeOk(E:Env)(f:FuncId)(sB:Nat):Code→Bool
 |.region id ops draw=>(ops.toList.all λ ai=>match ai.dst with|some d=>decide (d<sB)|none=>true) &&
  (!draw||(match E.qs f id with
   |false=>A9 E ops &&(D5 E ops).all λ p=>(E.dL f id).contains p
   |true=>A' E ops &&(D8 E ops).all λ p=>(E.dL f id).contains p))
 |.seq a b=>codeOk E f sB a &&codeOk E f sB b
 |.cond _ a b=>codeOk E f sB a &&codeOk E f sB b
 |.block _ c=>codeOk E f sB c
 |.loop c=>codeOk E f sB c
 |.scope c=>codeOk E f sB c
 |.rangeFunc _ bk a b=>bk.toList.all (λ p=>decide (p<sB)) &&(lH a &&lH b) &&(codeOk E f sB a &&codeOk E f sB b)
 |.goto _=>false
 |_=>true
def yI(E:Env)(f:FuncId):Bool:=
 match E.P.funcs[f]? with
 |some fn=>match fn.body with
  |some c=>codeOk E f fn.ntmps c &&E.P.follows .mixedOrders
  |none=>false
 |none=>false
def pV(E:Env)(f:FuncId)(B:Nat)(H:aa)(vs:List U):Option (List U×aa):=
 match E.own f with
 |true=>some (ey B (eR (E.lA f) vs H).2 (eR (E.lA f) vs H).1,eJ B (eR (E.lA f) vs H).2 0 (eR (E.lA f) vs H).2)
 |false=>match dk H vs with
  |some (bE,H1)=>some (ey B H1 (nC (E.lA f) bE),eJ B H1 0 H1)
  |none=>none
def tv:Option (List U×aa)→Option (U×aa)
 |some ([a],H)=>some (a,H)
 |_=>none
def Hq:Option (List U×aa)→Option (U×aa)
 |some (bE,H)=>some (.bd bE,H)
 |none=>none
def qE(E:Env)(f:FuncId)(B:Nat)(H:aa):U→Option (U×aa)
 |.bd vs=>Hq (pV E f B H vs)
 |a=>tv (pV E f B H [a])
def iz(E:Env)(ex:D0):dy:=λ f args H=>
 match E.P.funcs[f]? with
 |some fn=>match fn.body with
  |some c=>if yI E f=true∧args.length≤fn.ntmps then match ex H.length f c (qz 0 args) H with
   |some (.exit _,_,_)=>none
   |some (_,J,an)=>match wH E J an fn.results.toList with
    |some r=>qE E f H.length an r
    |none=>none
   |none=>none
   else none
  |none=>none
 |none=>none
def norm(l:List Nat)(J:Fr):Fr:=l.map λ k=>(k,get k J)
def fE:Code→Option Nat
 |.region id _ _=>some id
 |.seq a b=>match fE a with|some i=>some i|none=>fE b
 |.cond _ a b=>match fE a with|some i=>some i|none=>fE b
 |.block _ c=>fE c
 |.loop c=>fE c
 |.scope c=>fE c
 |.rangeFunc _ _ a b=>match fE a with|some i=>some i|none=>fE b
 |_=>none
def o7(B:Nat)(J:Fr)(H:aa):List Nat:=
 g' B++(reach H 64 (bx (J.map (·.2))++(H.take B).flatMap Chunk.refs) []).filter λ i=>decide (B≤i)
def yJ(aV:List Nat)(J:Fr)(H:aa):Fr×aa:=
 (J.map λ x=>(x.1,co (bt aV) x.2),aV.map λ c=>((H[c]?).map (Chunk.cI (bt aV))).getD (.iter [] 0))
def gc(B:Nat)(J:Fr)(H:aa):Fr×aa:=if B≤H.length then yJ (o7 B J H) J H else(J,H)
def o8(B:Nat)(J:Fr)(H:aa):Fr×aa:=gc B (od B H J) (eJ B H 0 H)
def oe(E:Env)(B:Nat)(f:FuncId)(id:Nat)(J:Fr)(H:aa):Fr×aa:=
 let p:=rD (E.wx f id) J H
 let bu:=uJ (E.wy f id) p.1 p.2
 let q:=qw (E.wz f id) p.1 bu
 o8 B (norm (E.head f id) q.1) q.2
def rK(H:aa):List U→Option (List (List aC))
 |[]=>some []
 |.ptr c _ 0 0::r=>match H[c]? with
  |some (.box cells)=>match kK cells,rK H r with
   |some a,some b=>some (a::b)
   |_,_=>none
  |_=>none
 |_=>none
def Ba(E:Env)(H:aa):U→Option (List U)
 |.aQ (.func g) [] ft=>match E.seq g,rK H ft with
  |some L,some nF=>L nF
  |_,_=>none
 |_=>none
def tw(ex:Nat→Code→Fr→aa→Option (eC×Fr×aa))(nG body:Code)(J:Fr)(H:aa):Option (eC×aa):=
 match ex H.length nG J H with
 |some (.normal,lG,H1)=>match ex H.length body lG H1 with
  |some (e,_,bu)=>some (e,bu)
  |none=>none
 |_=>none
def og(rd:Fr→aa→Option (eC×aa))(p:Nat)(J:Fr):List U→aa→Option (eC×Fr×aa)
 |[],H=>some (.normal,J,H)
 |x::xs,H=>match rd ((p,x)::J) H with
  |some (.normal,H1)=>og rd p J xs H1
  |some (e,H1)=>some (e,J,H1)
  |none=>none
noncomputable def exec(E:Env):Nat→D0
 |0,_,_,_,_,_=>none
 |n+1,B,f,c,J,H=>match c with
  |.skip=>some (.normal,J,H)
  |.label _=>some (.normal,J,H)
  |.ret=>some (.ret,J,H)
  |.exit id=>some (.exit id,J,H)
  |.region id ops draw=>
   match draw with
   |false=>match ih E (iz E (exec E n)) ops.toList ops.toList J H with
    |some (bM,an)=>some (.normal,norm (E.kg f id) bM,an)
    |none=>none
   |true=>match E.qs f id with
    |false=>match hP E (iz E (exec E n)) ops.toList ops.toList J H with
     |some (bM,an,eA)=>if(E.dL f id).all (sz eA)=true then some (.normal,norm (E.kg f id) bM,an)else none
     |none=>none
    |true=>match iy E (iz E (exec E n)) ops.toList H.length ops.toList J (H++cB (o6 ops.toList) mF)with
     |some (bM,an,eA)=>if(E.dL f id).all (sz eA)=true then some (.normal,norm (E.kg f id) bM,an)else none
     |none=>none
  |.seq a b=>match exec E n B f a J H with
   |some (.normal,bM,an)=>exec E n B f b bM an
   |r=>r
  |.cond c a b=>match bn E J c with
   |.i (.v (.bool true))=>exec E n B f a J H
   |.i (.v (.bool false))=>exec E n B f b J H
   |_=>none
  |.block id c=>match exec E n B f c J H with
   |some (.exit ac,bM,an)=>if ac=id then some (.normal,bM,an)else some (.exit ac,bM,an)
   |r=>r
  |.loop c=>match exec E n B f c (oe E B f ((fE c).getD 0) J H).1 (oe E B f ((fE c).getD 0) J H).2 with
   |some (.normal,bM,an)=>exec E n B f (.loop c) bM an
   |r=>r
  |.scope c=>exec E n B f c J H
  |.rangeFunc g bk a b=>match bk.toList,Ba E H (bn E J g)with
   |[p],some xs=>og (tw (λ eb c J H=>exec E n eb f c J H) a b) p J xs H
   |_,_=>none
  |_=>none
noncomputable def call(E:Env)(n:Nat):dy:=iz E (exec E n)
abbrev b':=Nat→Option Obj
structure fb where
 c:Nat
 r:Nat
 deriving DecidableEq
instance:Coe Nat fb:=⟨λ c=>⟨c,0⟩⟩
abbrev b8:=fb→Option (Nat×Nat)
inductive dl (ad:b'):aC→Value→Prop
 |v (x:Value) (h:x.oneCell'=true):dl ad (.v x) x
 |str (l:List UInt8):dl ad (.str l) (.string ⟨⟨l⟩⟩)
 |nil (aw:Nat) (ex:Bool) (a:Option Addr) (cap:Nat) (h:ex=true→cap=0):dl ad (.sl aw [] ex) (.slice a 0 cap)
 |sl (aw:Nat) (rows:List (List aC)) (ex:Bool) (b off cap:Nat) (cs:Array Value) (elem:TypeId) (bj:Nat×Nat) (dA:Nat→Nat→Value)
  (cc:ad b=some (.cells cs elem bj)) (ag:rows.length≤cap) (ak:ex=true→cap=rows.length)
  (ah:∀(i:Nat) (r:List aC),rows[i]?=some r→r.length=aw)
  (j:∀(i:Nat) (r:List aC) (k:Nat) (a:aC),rows[i]?=some r→r[k]?=some a→cs[off+i*aw+k]?=some (dA i k))
  (I:∀(i:Nat) (r:List aC) (k:Nat) (a:aC),rows[i]?=some r→r[k]?=some a→dl ad a (dA i k)):
  dl ad (.sl aw rows ex) (.slice (some ⟨b,off,none⟩) rows.length cap)
 |gd (cells:List aC) (ai b off:Nat) (cs:Array Value) (elem:TypeId) (bj:Nat×Nat) (dA:Nat→Value)
  (cc:ad b=some (.cells cs elem bj))
  (j:∀(k:Nat) (a:aC),cells[k]?=some a→cs[off+k]?=some (dA k))
  (I:∀(k:Nat) (a:aC),cells[k]?=some a→dl ad a (dA k)):
  dl ad (.gd cells ai) (.pointer (some ⟨b,off+ai,none⟩))
 |mp (es:List (Int×Nat)) (b:Nat) (hl:Array MapEntry) (clock:Nat) (cc:ad b=some (.map hl clock))
  (h:hl.toList.map (λ e=>(e.key,e.val))=es.map λ p=>(jW .i64 p.1,D9 (.func p.2) #[] #[])):dl ad (.mp es) (.map (some b))
def b'.le(ad aL:b'):Prop:=∀b ai,ad b=some ai→aL b=some ai
def dl.mono{ad aL:b'}(h:ad.le aL){x:aC}{v:Value}(r:dl ad x v):dl aL x v:=by
 induction r with
 |v x h=>exact .v x h
 |str l=>exact .str l
 |nil aw ex a cap ak=>exact .nil aw ex a cap ak
 |sl aw rows ex b off cap cs elem bj dA cc ag ak ah j _ a8=>exact .sl aw rows ex b off cap cs elem bj dA (h _ _ cc) ag ak ah j a8
 |gd cells ai b off cs elem bj dA cc j _ a8=>exact .gd cells ai b off cs elem bj dA (h _ _ cc) j a8
 |mp es b hl clock cc j=>exact .mp es b hl clock (h _ _ cc) j
def sC(ab:b8)(c aw:Nat)(rows:List (List aC))(off len:Nat)(v:Value):Prop:=
 off+len≤rows.length∧∃a cap,v=.slice a len cap∧
  ((ab c=none∧cap=0)∨
   ∃b n,ab c=some (b,n)∧len≤cap∧(off+cap)*aw≤n∧(a=some ⟨b,off*aw,none⟩∨(len=0∧cap=0)))
def D_(ab:b8)(c n off len:Nat)(v:Value):Prop:=
 off+len≤n∧∃a cap,v=.slice a len cap∧((ab c=none∧cap=0)∨∃b m,ab c=some (b,m)∧len≤cap∧off+cap≤m∧(a=some ⟨b,off,none⟩∨(len=0∧cap=0)))
def Su(z b len n:Nat)(v:Value):Prop:=∃cap,v=.slice (some ⟨b,0,none⟩) len cap∧len≤cap∧cap*z≤n
def uP(ab:b8)(z c r:Nat)(bP:List (List aC))(v:Value):Prop:=(bP=[]∧∃a cap,v=.slice a 0 cap)∨∃b n,ab ⟨c,r+1⟩=some (b,n)∧Su z b bP.length n v
def kO(ab:b8)(H:aa):cN→Value→Prop
 |.d c g off len,v=>c<H.length∧(∃a m,v=.slice a len m)∧∀z aU s rows,H[c]?=some (.az z aU s rows)→g≤aU∧(g=aU→D_ ab c rows.length off len v)
 |.e c g r,v=>c<H.length∧(∃a,v=.pointer (some a))∧∀z aU s rows,H[c]?=some (.az z aU s rows)→g≤aU∧(g=aU→∃b n,ab c=some (b,n)∧v=.pointer (some ⟨b,r,none⟩))
 |.h c g s r,v=>c<H.length∧(∃a l m,v=.slice a l m)∧∀z aU dD rows,H[c]?=some (.az z aU dD rows)→(g<aU∨(g=aU∧s≤dD))∧(g=aU→s=dD→∀bP,rows[r]?=some (.own bP)→uP ab z c r bP v)
 |.p c g s r i k,v=>c<H.length∧(∃a,v=.pointer (some a))∧∀z aU dD rows,H[c]?=some (.az z aU dD rows)→(g<aU∨(g=aU∧s≤dD))∧(g=aU→s=dD→∀bP,rows[r]?=some (.own bP)→i<bP.length→∃b n,ab ⟨c,r+1⟩=some (b,n)∧v=.pointer (some ⟨b,i*z+k,none⟩))
def kO.lt{ab:b8}{H:aa}{k:cN}{v:Value}(h:kO ab H k v):k.c<H.length:=by cases k<;>exact h.1
def kO.one{ab:b8}{H:aa}{k:cN}{v:Value}(h:kO ab H k v):v.oneCell'=true:=by
 cases k with
 |d=>obtain⟨_,⟨_,_,rfl⟩,_⟩:=h;rfl
 |e=>obtain⟨_,⟨_,rfl⟩,_⟩:=h;rfl
 |h=>obtain⟨_,⟨_,_,_,rfl⟩,_⟩:=h;rfl
 |p=>obtain⟨_,⟨_,rfl⟩,_⟩:=h;rfl
def LP(ab:b8)(H:aa)(aB:b8)(an:aa)(c:Nat):Prop:=
 ∀z g s eB,an[c]?=some (.az z g s eB)→
  (∃dh rows,H[c]?=some (.az z g dh rows)∧aB c=ab c∧eB.length=rows.length∧(dh<s∨(dh=s∧∀(r:Nat) pW,eB[r]?=some (.own pW)→∃bP,rows[r]?=some (.own bP)∧bP.length=pW.length∧aB ⟨c,r+1⟩=ab ⟨c,r+1⟩)))
  ∨∃z0 g0 dh ha,H[c]?=some (.az z0 g0 dh ha)∧g0<g
def uP.step{ab aB:b8}{z c r:Nat}{bP pW:List (List aC)}{v:Value}(al:bP.length=pW.length)(he:aB ⟨c,r+1⟩=ab ⟨c,r+1⟩)(h:uP ab z c r bP v):uP aB z c r pW v:=by
 rcases h with⟨rfl,I⟩|⟨b,n,j,I⟩
 ·exact .inl ⟨pX.1 (by rw[←al];rfl),I⟩
 ·exact .inr ⟨b,n,by rw[he];exact j,by rw[←al];exact I⟩
def kO.Sv{ab aB:b8}{H an:aa}{k:cN}{v:Value}(al:k.c<an.length)(h:LP ab H aB an k.c)(r:kO ab H k v):kO aB an k v:=by
 cases k with
 |d c g off len=>
  obtain⟨j,I,av⟩:=r;refine⟨al,I,λ z aU s rows aO=>?_⟩;rcases h z aU s rows aO with⟨dh,ha,ao,aH,bN,_⟩|⟨z0,g0,dh,ha,ao,aH⟩
  ·obtain⟨cm,cy⟩:=av _ _ _ _ ao;refine⟨cm,λ e=>?_⟩;have LQ:aB ⟨c,0⟩=ab ⟨c,0⟩:=aH;have:=cy e;unfold D_ at*;rw[bN,LQ];exact this
  ·obtain⟨cm,_⟩:=av _ _ _ _ ao;exact⟨R,λ e=>R⟩
 |e c g r=>
  obtain⟨j,I,av⟩:=r;refine⟨al,I,λ z aU s rows aO=>?_⟩;rcases h z aU s rows aO with⟨dh,ha,ao,aH,bN,_⟩|⟨z0,g0,dh,ha,ao,aH⟩
  ·obtain⟨cm,cy⟩:=av _ _ _ _ ao;refine⟨cm,λ e=>?_⟩;have LQ:aB ⟨c,0⟩=ab ⟨c,0⟩:=aH;rw[LQ];exact cy e
  ·obtain⟨cm,_⟩:=av _ _ _ _ ao;exact⟨R,λ e=>R⟩
 |h c g s r=>
  obtain⟨j,I,av⟩:=r;refine⟨al,I,λ z aU dD rows aO=>?_⟩;rcases h z aU dD rows aO with⟨dh,ha,ao,aH,bN,c'⟩|⟨z0,g0,dh,ha,ao,aH⟩
  ·obtain⟨cm,cy⟩:=av _ _ _ _ ao;rcases c' with c'|⟨rfl,c'⟩
   ·exact⟨R,λ e k_=>R⟩
   ·refine⟨cm,λ e k_ pW ah=>?_⟩;obtain⟨bP,f1,f2,f3⟩:=c' _ _ ah;exact(cy e k_ bP f1).step f2 f3
  ·obtain⟨cm,_⟩:=av _ _ _ _ ao;exact⟨R,λ e=>R⟩
 |p c g s r i k=>
  obtain⟨j,I,av⟩:=r;refine⟨al,I,λ z aU dD rows aO=>?_⟩;rcases h z aU dD rows aO with⟨dh,ha,ao,aH,bN,c'⟩|⟨z0,g0,dh,ha,ao,aH⟩
  ·obtain⟨cm,cy⟩:=av _ _ _ _ ao;rcases c' with c'|⟨rfl,c'⟩
   ·exact⟨R,λ e k_=>R⟩
   ·refine⟨cm,λ e k_ pW ah ax=>?_⟩;obtain⟨bP,f1,f2,f3⟩:=c' _ _ ah;have aiB:aB ⟨c,r+1⟩=ab ⟨c,r+1⟩:=f3;rw[aiB];exact cy e k_ bP f1 R
  ·obtain⟨cm,_⟩:=av _ _ _ _ ao;exact⟨R,λ e=>R⟩
def kO.step{ab aB:b8}{H an:aa}{k:cN}{v:Value}(al:H.length≤an.length)(h:LP ab H aB an k.c)(r:kO ab H k v):kO aB an k v:=r.Sv (wO r.lt al) h
def qF(ad:b')(H:aa)(k:cN)(v:Value):Prop:=∀g c off len rows,k=.d c g off len→H[c]?=some (.fd g rows)→dl ad (.sl 1 ((rows.drop off).take len) false) v
def qF.ne{ad:b'}{H:aa}{k:cN}{v:Value}(h:∀c g ai n,k≠.d c g ai n):qF ad H k v:=λ g c ai n _ e=>absurd e (h c g ai n)
def qF.az{ad:b'}{H:aa}{k:cN}{v:Value}{z g s:Nat}{rows:List bT}(h:H[k.c]?=some (.az z g s rows)):qF ad H k v:=λ aU c ai n eB e aO=>by subst e;have h:H[c]?=_:=h;rw[h]at aO;cases aO
def qF.d{ad:b'}{H:aa}{c g ai n:Nat}{v:Value}{z aU s:Nat}{rows:List bT}(h:H[c]?=some (.az z aU s rows)):qF ad H (.d c g ai n) v:=qF.az (k:=.d c g ai n) h
def qF.to{ad aL:b'}{H an:aa}{k:cN}{v:Value}(cc:ad.le aL)(he:∀g rows,an[k.c]?=some (.fd g rows)→H[k.c]?=some (.fd g rows))(h:qF ad H k v):qF aL an k v:=λ g c ai n rows e aO=>by subst e;exact(h g c ai n rows rfl (he g rows aO)).mono cc
inductive a6 (ad:b') (ab:b8) (H:aa):U→Value→Prop
 |dead (v:Value):a6 ad ab H .dead v
 |i (x:aC) (v:Value) (h:dl ad x v):a6 ad ab H (.i x) v
 |agg (cells:List U) (cs:Array Value) (al:cs.size=cells.length)
  (h:∀(k:Nat) (a:U),cells[k]?=some a→a6 ad ab H a (cs.getD k undef)):a6 ad ab H (.agg cells) (.agg cs)
 |ref (c g off len:Nat) (v:Value) (ag:c<H.length)
  (aR:∀aw rows ex,H[c]?=some (.sl aw g rows ex)→sC ab c aw rows off len v)
  (aI:∀aw rows ex,H[c]?=some (.bj aw g rows ex)→off+len≤rows.length∧
   dl ad (.sl aw ((rows.drop off).take len) (ex &&decide (off+len=rows.length))) v)
  (au:∃a m,v=.slice a len m) (aP:∀aw aU rows ex,H[c]?=some (.sl aw aU rows ex)→g≤aU):a6 ad ab H (.ref c g off len) v
 |ptr (c g r k:Nat) (v:Value) (ag:c<H.length)
  (aj:∀cells,H[c]?=some (.box cells)→∃b n,ab c=some (b,n)∧v=.pointer (some ⟨b,k,none⟩))
  (aR:∀aw rows ex,H[c]?=some (.sl aw g rows ex)→∃b n,ab c=some (b,n)∧v=.pointer (some ⟨b,r*aw+k,none⟩))
  (aI:∀aw rows ex row,H[c]?=some (.bj aw g rows ex)→rows[r]?=some row→dl ad (.gd row k) v)
  (ax:∀s p,H[c]?=some (.iter s p)→∃b n,ab c=some (b,n)∧v=.pointer (some ⟨b,k,none⟩))
  (au:∃a:Addr,v=.pointer (some a)) (aP:∀aw aU rows ex,H[c]?=some (.sl aw aU rows ex)→g≤aU):a6 ad ab H (.ptr c g r k) v
 |dv (c:Nat) (v:Value) (ag:c<H.length) (hm:∀es,H[c]?=some (.map es)→∃b n,ab c=some (b,n)∧v=.map (some b))
  (bp:∀t cells,H[c]?=some (.cY t cells)→∃b n,ab c=some (b,n)∧v=.pointer (some ⟨b,0,none⟩))
  (hu:∀t l,H[c]?=some (.ju t l)→∃b n,ab c=some (b,n)∧v=.slice (some ⟨b,0,none⟩) l.length n)
  (au:v.oneCell'=true) (bf:∀aw g rows ex,H[c]?≠some (.sl aw g rows ex)):a6 ad ab H (.dv c) v
 |x (k:cN) (v:Value) (h:kO ab H k v) (aI:qF ad H k v):a6 ad ab H (.x k) v
 |aQ (fn:Fn) (first ft:List U) (eI cs:Array Value) (al:eI.size=first.length) (hm:cs.size=ft.length)
  (j:∀(k:Nat) (a:U),first[k]?=some a→a6 ad ab H a (eI.getD k undef))
  (I:∀(k:Nat) (a:U),ft[k]?=some a→a6 ad ab H a (cs.getD k undef)):a6 ad ab H (.aQ fn first ft) (.func fn eI cs)
 |bd (vs:List U) (xs:Array Value) (al:xs.size=vs.length)
  (h:∀(k:Nat) (a:U),vs[k]?=some a→a6 ad ab H a (xs.getD k undef)):a6 ad ab H (.bd vs) (.tuple xs)
def uQ(bj:Nat×Nat)(n:Nat):Prop:=∀k,k<n→¬(bj.1≤k∧k<bj.2)
def nf(ad:b')(ab:b8)(H:aa):List (aC×U)→List MapEntry→Prop
 |[],[]=>True
 |p::r,e::q=>dl ad p.1 e.key∧a6 ad ab H p.2 e.val∧nf ad ab H r q
 |_,_=>False
def nf.mono{ad aL:b'}{ab aB:b8}{H an:aa}(h:ad.le aL)(hm:∀a v,a6 ad ab H a v→a6 aL aB an a v):∀{es:List (aC×U)} {q:List MapEntry},nf ad ab H es q→nf aL aB an es q
 |[],[],_=>trivial
 |_::_,_::_,g=>⟨g.1.mono h,hm _ _ g.2.1,g.2.2.mono h hm⟩
def nf.to{ad:b'}{ab aB:b8}{H an:aa}{g:U→U}(hm:∀a v,a6 ad ab H a v→a6 ad aB an (g a) v):∀{es:List (aC×U)} {q:List MapEntry},nf ad ab H es q→nf ad aB an (es.map λ p=>(p.1,g p.2)) q
 |[],[],_=>trivial
 |_::_,_::_,h=>⟨h.1,hm _ _ h.2.1,h.2.2.to hm⟩
def nf.ex{ad:b'}{ab:b8}{H:aa}{a:U}:∀{es:List (aC×U)} {q:List MapEntry},nf ad ab H es q→a∈es.map (·.2)→∃v,a6 ad ab H a v
 |[],[],_,aA=>by simp at aA
 |p::r,e::q,h,aA=>by
  simp only[fh,ng]at aA;rcases aA with rfl|aA
  ·exact⟨_,h.2.1⟩
  ·exact h.2.2.ex aA
def nf.of{ad:b'}{ab aB:b8}{H an:aa}:∀{es:List (aC×U)} {q:List MapEntry},(∀a v,a∈es.map (·.2)→a6 ad ab H a v→a6 ad aB an a v)→nf ad ab H es q→nf ad aB an es q
 |[],[],_,_=>trivial
 |_::_,_::_,hm,h=>⟨h.1,hm _ _ (by simp) h.2.1,h.2.2.of λ a v aA=>hm a v (by simp at aA⊢;exact .inr aA)⟩
def l8(ad:b')(ab:b8)(H:aa)(es:List (aC×U))(q:List MapEntry):Prop:=
 ∃hJ,es.Perm hJ∧nf ad ab H hJ q∧es.Pairwise λ p r=>gf p.1 r.1=some false
def l8.nil{ad:b'}{ab:b8}{H:aa}:l8 ad ab H [] []:=⟨[],.refl _,trivial,.nil⟩
def l8.mono{ad aL:b'}{ab aB:b8}{H an:aa}(h:ad.le aL)(hm:∀a v,a6 ad ab H a v→a6 aL aB an a v){es:List (aC×U)}{q:List MapEntry}(g:l8 ad ab H es q):l8 aL aB an es q:=by obtain⟨hJ,j,I,av⟩:=g;exact⟨hJ,j,I.mono h hm,av⟩
def l8.to{ad:b'}{ab aB:b8}{H an:aa}{g:U→U}(hm:∀a v,a6 ad ab H a v→a6 ad aB an (g a) v){es:List (aC×U)}{q:List MapEntry}(h:l8 ad ab H es q):l8 ad aB an (es.map λ p=>(p.1,g p.2)) q:=by obtain⟨hJ,j,I,av⟩:=h;exact⟨_,j.map _,I.to hm,List.pairwise_map.2 av⟩
def l8.ex{ad:b'}{ab:b8}{H:aa}{a:U}{es:List (aC×U)}{q:List MapEntry}(h:l8 ad ab H es q)(aA:a∈es.map (·.2)):∃v,a6 ad ab H a v:=by obtain⟨hJ,j,I,av⟩:=h;exact I.ex ((j.map _).mem_iff.1 aA)
def l8.of{ad:b'}{ab aB:b8}{H an:aa}{es:List (aC×U)}{q:List MapEntry}(hm:∀a v,a∈es.map (·.2)→a6 ad ab H a v→a6 ad aB an a v)(h:l8 ad ab H es q):l8 ad aB an es q:=by obtain⟨hJ,j,I,av⟩:=h;exact⟨hJ,j,I.of λ a v aA=>hm a v ((j.map _).mem_iff.2 aA),av⟩
def Bb{k ac:aC}(h:gf k ac=some true):k=ac:=by
 unfold gf at h;split at h
 ·split at h
  ·rename_i ay;subst ay;cases of_decide_eq_true (pY h);rfl
  ·cases h
 ·cases of_decide_eq_true (pY h);rfl
 ·cases h
def D'(k ac:aC):gf k ac=gf ac k:=by
 cases k with
 |v x=>
  cases ac with
  |v y=>
   cases x<;>cases y<;>try rfl
   rename_i bG a bC b;simp only[gf];by_cases h:bG=bC
   ·subst h;simp[eq_comm]
   ·simp[h,a' h]
  |_=>cases x<;>rfl
 |str a=>
  cases ac with
  |str b=>simp[gf,eq_comm]
  |v y=>cases y<;>rfl
  |_=>rfl
 |_=>cases ac<;>first|rfl|(rename_i y;cases y<;>rfl)
def LR{k:aC}:∀{es:List (aC×U)},hy k es=some none↔∀p∈es,gf k p.1=some false
 |[]=>by simp[hy]
 |p::r=>by
  obtain⟨ac,v⟩:=p;simp only[hy,ng,forall_eq_or_imp];cases h:gf k ac with
  |none=>simp
  |some b=>cases b<;>simp[LR]
def LS{k:aC}{es hJ:List (aC×U)}(h:es.Perm hJ)(aM:es.Pairwise λ p r=>gf p.1 r.1=some false){r:Option U}(aI:hy k es=some r):hy k hJ=some r:=by
 induction h with
 |nil=>exact aI
 |cons p _ a8=>
  obtain⟨ac,v⟩:=p;simp only[hy]at aI⊢;cases h:gf k ac with
  |none=>rw[h]at aI;cases aI
  |some b=>
   rw[h]at aI;cases b with
   |true=>exact aI
   |false=>exact a8 (uR.1 aM).2 aI
 |swap p la l=>
  obtain⟨ac,v⟩:=p;obtain⟨Sw,hb⟩:=la;have aiC:gf Sw ac=some false:=(uR.1 aM).1 (ac,v) (by simp);simp only[hy]at aI⊢;cases h1:gf k Sw with
  |none=>rw[h1]at aI;cases aI
  |some bR=>
   rw[h1]at aI;cases bR with
   |true=>have:=Bb h1;subst this;rw[aiC];exact aI
   |false=>exact aI
 |trans j I nH nI=>exact nI ((j.pairwise_iff (λ{x y} Ea=>by rw[D'];exact Ea)).1 aM) (nH aM aI)
def LU(k:aC)(v:U):∀es,(kJ k v es).Perm ((k,v)::es)
 |[]=>.refl _
 |p::r=>by
  simp only[kJ];split
  ·exact .refl _
  ·exact((LU k v r).cons p).trans (.swap _ _ _)
def Hr(k:aC)(v:U):∀es,jV k v es=es.map λ p=>if gf k p.1=some true then(k,v)else p
 |[]=>rfl
 |p::r=>by simp only[jV,fh,Hr k v r]
def LV(k:aC)(v:U)(p:aC×U):(if gf k p.1=some true then(k,v)else p).1=p.1:=by
 split
 ·rename_i h;exact Bb h
 ·rfl
def l9(ad:b')(ab:b8)(w:World)(z c r:Nat):bT→Value→Prop
 |.own bP,v=>(∀(i:Nat) (row:List aC),bP[i]?=some row→row.length=z)∧((bP=[]∧∃a cap,v=.slice a 0 cap)∨∃b cs elem bj,ab ⟨c,r+1⟩=some (b,cs.size)∧Su z b bP.length cs.size v∧
  w.heap[b]?=some (.cells cs elem bj)∧uQ bj cs.size∧0<z∧∀(i:Nat) (row:List aC) (k:Nat) (a:aC),bP[i]?=some row→row[k]?=some a→dl ad a (cs.getD (i*z+k) undef))
 |.dK y,v=>dl ad y v
 |.dead,v=>v.oneCell'=true
def l9.mono{ad aL:b'}{ab aB:b8}{w aq:World}{z c r:Nat}{y:bT}{v:Value}(h:l9 ad ab w z c r y v)(he:aB ⟨c,r+1⟩=ab ⟨c,r+1⟩)(cc:ad.le aL)
  (hw:∀b n,ab ⟨c,r+1⟩=some (b,n)→aq.heap[b]?=w.heap[b]?):l9 aL aB aq z c r y v:=by
 cases y with
 |own bP=>
  obtain⟨j,I⟩:=h;refine⟨j,?_⟩;rcases I with I|⟨b,cs,elem,bj,cm,cy,fc,iW,l_,wP⟩
  ·exact .inl I
  ·exact .inr ⟨b,cs,elem,bj,by rw[he];exact cm,cy,by rw[hw _ _ cm];exact fc,iW,l_,λ i row k a ax aA=>(wP i row k a ax aA).mono cc⟩
 |dK y=>exact dl.mono cc h
 |dead=>exact h
def l9.slice{ad:b'}{ab:b8}{w:World}{z c r:Nat}{bP:List (List aC)}{v:Value}(h:l9 ad ab w z c r (.own bP) v):∃a m,v=.slice a bP.length m:=by
 rcases h.2 with⟨rfl,a,cap,rfl⟩|⟨b,cs,elem,bj,_,⟨cap,rfl,_⟩,_⟩
 ·exact⟨a,cap,rfl⟩
 ·exact⟨_,_,rfl⟩
def oh(ad:b')(ab:b8)(H:aa)(w:World)(c:Nat):Chunk→Prop
 |.box cells=>∃b cs elem bj,ab c=some (b,cs.size)∧w.heap[b]?=some (.cells cs elem bj)∧uQ bj cs.size∧cs.size=cells.length∧
  ∀(k:Nat) (a:U),cells[k]?=some a→a6 ad ab H a (cs.getD k undef)
 |.sl aw _ rows ex=>(aw=0→ab c=none)∧(∀(i:Nat) (r:List aC),rows[i]?=some r→r.length=aw)∧
  ((ab c=none∧rows=[])∨∃b cs elem bj,ab c=some (b,cs.size)∧w.heap[b]?=some (.cells cs elem bj)∧uQ bj cs.size∧
   rows.length*aw≤cs.size∧(ex=true→cs.size=rows.length*aw)∧
   ∀(i:Nat) (r:List aC) (k:Nat) (a:aC),rows[i]?=some r→r[k]?=some a→dl ad a (cs.getD (i*aw+k) undef))
 |.bj ..=>ab c=none
 |.iter s pos=>∃b,ab c=some (b,0)∧w.heap[b]?=some (.stringIter ⟨⟨s⟩⟩ pos)
 |.map es=>∃b hl clock,ab c=some (b,0)∧w.heap[b]?=some (.map hl clock)∧l8 ad ab H es hl.toList
 |.cY t cells=>∃b cs,ab c=some (b,cs.size)∧w.heap[b]?=some (.cells cs t (0,0))∧cs.size=cells.length∧
  ∀(k:Nat) (a:U),cells[k]?=some a→a6 ad ab H a (cs.getD k undef)
 |.ju t l=>∃b cs,ab c=some (b,cs.size)∧w.heap[b]?=some (.cells cs t (0,0))∧l.length≤cs.size∧cs.size≤maxLen∧
  ∀(k:Nat) (x:UInt8),l[k]?=some x→cs[k]?=some (.int .u8 x.toNat)
 |.gone=>ab c=none
 |.fd ..=>ab c=none
 |.az z _ _ rows=>(ab c=none∧rows=[])∨∃b cs elem bj,ab c=some (b,cs.size)∧w.heap[b]?=some (.cells cs elem bj)∧uQ bj cs.size∧rows.length≤cs.size∧
  ∀(r:Nat) (y:bT),rows[r]?=some y→l9 ad ab w z c r y (cs.getD r undef)
def tx(ad:b')(g:Nat)(cells:List aC):Prop:=dl ad (.gd cells 0) (.pointer (some ⟨g,0,none⟩))∧∃cs e bj,ad g=some (.cells cs e bj)∧cs.size=cells.length
def tx.mono{ad aL:b'}(h:ad.le aL){g:Nat}{cells:List aC}(k:tx ad g cells):tx aL g cells:=by obtain⟨bG,cs,e,bj,bC,cE⟩:=k;exact⟨bG.mono h,cs,e,bj,h _ _ bC,cE⟩
structure b5 (E:Env) (ad:b') (ab:b8) (H:aa) (w:World):Prop where
 dR:∀b ai,ad b=some ai→w.heap[b]?=some ai
 b6:∀c x,H[c]?=some x→oh ad ab H w c x
 inj:∀(c cl:fb) b n dP,ab c=some (b,n)→ab cl=some (b,dP)→c=cl
 sep:∀(c:fb) b n,ab c=some (b,n)→ad b=none∧b<w.heap.size∧c.c<H.length
 e4:∀g cells,E.e4 g=some cells→tx ad g cells
def b5.aiD{E:Env}{ad:b'}{ab:b8}{H:aa}{w:World}(ap:b5 E ad ab H w){c cl b n dP:Nat}(j:ab c=some (b,n))(I:ab cl=some (b,dP)):c=cl:=congrArg fb.c (ap.inj _ _ _ _ _ j I)
def b5.Bc{E:Env}{ad:b'}{ab:b8}{H:aa}{w:World}(ap:b5 E ad ab H w){c b n:Nat}(j:ab c=some (b,n)):c<H.length:=(ap.sep _ _ _ j).2.2
structure Trans (ad:b') (ab:b8) (w:World) (aL:b') (aB:b8) (aq:World):Prop where
 os:aq.os=w.os
 tape:aq.tape=w.tape
 output:aq.output=w.output
 size:w.heap.size≤aq.heap.size
 frame:∀b,b<w.heap.size→(∀(c:fb) n,ab c≠some (b,n))→aq.heap[b]?=w.heap[b]?
 dR:ad.le aL
 qG:∀b,aL b≠none→ad b≠none∨w.heap.size≤b∨∃(c:fb) (n:Nat),ab c=some (b,n)
 own:∀(c:fb) b n,aB c=some (b,n)→w.heap.size≤b∨∃(cl:fb) (dP:Nat),ab cl=some (b,dP)
def Trans.refl(ad:b')(ab:b8)(w:World):Trans ad ab w ad ab w:=
 ⟨rfl,rfl,rfl,cL _,λ _ _ _=>rfl,λ _ _ h=>h,λ _ h=>.inl h,λ _ _ _ h=>.inr ⟨_,_,h⟩⟩
def Trans.trans{ad ab w aL aB aq rL rM qH}(h:Trans ad ab w aL aB aq)(k:Trans aL aB aq rL rM qH):Trans ad ab w rL rM qH where
 os:=k.os.trans h.os
 tape:=k.tape.trans h.tape
 output:=k.output.trans h.output
 size:=rN h.size k.size
 frame b aj aE:=by
  rw[k.frame b (wO aj h.size) ?_,h.frame b aj aE];intro c n ag;rcases h.own c b n ag with j|⟨cl,dP,j⟩
  ·omega
  ·exact aE _ _ j
 dR b ai aj:=k.dR _ _ (h.dR _ _ aj)
 qG b aj:=by
  rcases k.qG b aj with j|j|⟨c,n,j⟩
  ·exact h.qG b j
  ·exact .inr (.inl (rN h.size j))
  ·rcases h.own c b n j with I|I
   ·exact .inr (.inl I)
   ·exact .inr (.inr I)
 own c b n ag:=by
  rcases k.own c b n ag with j|⟨cl,dP,j⟩
  ·exact .inl (rN h.size j)
  ·exact h.own _ _ _ j
def e6(ad:b')(ab:b8)(H:aa)(aL:b')(aB:b8)(an:aa):Prop:=∀a v,a6 ad ab H a v→a6 aL aB an a v
def e6.refl(ad ab H):e6 ad ab H ad ab H:=λ _ _ h=>h
def e6.trans{ad ab H aL aB an rL rM nh}(h:e6 ad ab H aL aB an)(k:e6 aL aB an rL rM nh):e6 ad ab H rL rM nh:=
 λ a v r=>k a v (h a v r)
def iX(ad:b')(ab:b8)(H:aa)(aL:b')(aB:b8)(an:aa)(c:Nat):Prop:=
 ∀y,an[c]?=some y→match y with
  |.box Sx=>(∃cells,H[c]?=some (.box cells)∧aB c=ab c)∨(∃rows ex,H[c]?=some (.sl 0 0 rows ex)∧ab c=none)
  |.iter _ _=>∃s p,H[c]?=some (.iter s p)∧aB c=ab c
  |.map _=>∃es,H[c]?=some (.map es)∧aB c=ab c
  |.cY _ _=>∃t cells,H[c]?=some (.cY t cells)∧aB c=ab c
  |.ju _ fu=>∃t l,H[c]?=some (.ju t l)∧aB c=ab c∧fu.length=l.length
  |.gone=>True
  |.fd g rows=>(H[c]?=some (.fd g rows))∨(∀off len v,a6 ad ab H (.x (.d c g off len)) v→dl aL (.sl 1 ((rows.drop off).take len) false) v)
  |.az _ _ _ _=>LP ab H aB an c
  |.sl aw g eB fY=>(∃rows ex,H[c]?=some (.sl aw g rows ex)∧aB c=ab c∧eB.length=rows.length)∨(∃qI g0 ha ii,H[c]?=some (.sl qI g0 ha ii)∧g0<g)
  |.bj aw g rows ex=>(H[c]?=some (.bj aw g rows ex))∨(∀a v,(∃off len,a=.ref c g off len)∨(∃r k,a=.ptr c g r k)→a6 ad ab H a v→a6 aL aB an a v)
def sC.step{ab aB:b8}{c aw:Nat}{rows eB:List (List aC)}{off len:Nat}{v:Value}(he:aB c=ab c)(al:eB.length=rows.length)
  (h:sC ab c aw rows off len v):sC aB c aw eB off len v:=by
 unfold sC at*;rw[he,al];exact h
def mG{ad ab H aL aB an}(cc:ad.le aL)(hlen:H.length≤an.length)(ag:∀c,c<H.length→iX ad ab H aL aB an c):e6 ad ab H aL aB an:=by
 intro a v r;induction r with
 |dead v=>exact .dead v
 |i x v h=>exact .i x v (h.mono cc)
 |agg cells cs al _ a8=>exact .agg cells cs al a8
 |aQ fn first ft eI cs al hm _ _ nH nI=>exact .aQ fn first ft eI cs al hm nH nI
 |bd vs xs al _ a8=>exact .bd vs xs al a8
 |x k v h aI=>
  refine .x k v (h.step hlen ?_) ?_
  ·intro z g s eB aO;have:=ag k.c h.lt _ aO;exact this z g s eB aO
  ·intro g c off len rows e aO;subst e;rcases ag c h.lt _ aO with j|j
   ·exact(aI g c off len rows rfl j).mono cc
   ·exact j off len v (.x _ _ h aI)
 |dv c v ch hm bp hu au bf=>
  refine .dv c v R (λ es h=>?_) (λ t cells h=>?_) (λ t l h=>?_) au (λ aw g rows ex h=>?_)
  ·obtain⟨yK,j,I⟩:=ag c ch _ h;rw[I];exact hm _ j
  ·obtain⟨t0,pZ,j,I⟩:=ag c ch _ h;rw[I];exact bp _ _ j
  ·obtain⟨t0,oi,j,I,av⟩:=ag c ch _ h;rw[I,av];exact hu _ _ j
  ·rcases ag c ch _ h with⟨_,_,j,_⟩|⟨_,_,_,_,j,_⟩
   ·exact bf _ _ _ _ j
   ·exact bf _ _ _ _ j
 |ref c g off len v ch aR aI au aP=>
  have eS:=ag c ch;by_cases hex:∃y,an[c]?=some y
  ·obtain⟨y,aY⟩:=hex;have gU:=eS y aY;cases y with
   |box cells=>exact .ref c g off len v R (λ aw rows ex h=>by rw[aY]at h;cases h) (λ aw rows ex h=>by rw[aY]at h;cases h) au (λ _ _ _ _ h=>by rw[aY]at h;cases h)
   |iter s p=>exact .ref c g off len v R (λ aw rows ex h=>by rw[aY]at h;cases h) (λ aw rows ex h=>by rw[aY]at h;cases h) au (λ _ _ _ _ h=>by rw[aY]at h;cases h)
   |map|cY|ju|gone|az|fd=>exact .ref c g off len v R (λ aw rows ex h=>by rw[aY]at h;cases h) (λ aw rows ex h=>by rw[aY]at h;cases h) au (λ _ _ _ _ h=>by rw[aY]at h;cases h)
   |sl aw aU eB fY=>
    rcases gU with⟨rows,ex,j,I,av⟩|⟨qI,g0,ha,ii,j,I⟩
    ·refine .ref c g off len v R (λ h2 c7 hB h=>?_) (λ h2 c7 hB h=>by rw[aY]at h;cases h) au (λ _ _ _ _ h=>by rw[aY]at h;cases h;exact aP _ _ _ _ j);rw[aY]at h;cases h;exact(aR _ _ _ j).step I av
    ·have hle:=aP _ _ _ _ j;exact .ref c g off len v R (λ h2 c7 hB h=>by rw[aY]at h;cases h;omega) (λ h2 c7 hB h=>by rw[aY]at h;cases h) au (λ _ _ _ _ h=>by rw[aY]at h;cases h;omega)
   |bj aw aU eB fY=>
    rcases gU with j|j
    ·refine .ref c g off len v R (λ h2 c7 hB h=>by rw[aY]at h;cases h) (λ h2 c7 hB h=>?_) au (λ _ _ _ _ h=>by rw[aY]at h;cases h);rw[aY]at h;cases h;exact⟨(aI _ _ _ j).1,(aI _ _ _ j).2.mono cc⟩
    ·by_cases Bd:aU=g
     ·subst Bd;exact j _ _ (.inl ⟨off,len,rfl⟩) (.ref c aU off len v ch aR aI au aP)
     ·exact .ref c g off len v R (λ h2 c7 hB h=>by rw[aY]at h;cases h) (λ h2 c7 hB h=>by rw[aY]at h;cases h;exact absurd rfl Bd) au (λ _ _ _ _ h=>by rw[aY]at h;cases h)
  ·have aE:an[c]?=none:=by cases h:an[c]? with|none=>rfl|some y=>exact absurd ⟨y,h⟩ hex
   exact .ref c g off len v R (λ aw rows ex h=>by rw[aE]at h;cases h) (λ aw rows ex h=>by rw[aE]at h;cases h) au (λ _ _ _ _ h=>by rw[aE]at h;cases h)
 |ptr c g r k v ch aj aR aI ax au aP=>
  have eS:=ag c ch;by_cases hex:∃y,an[c]?=some y
  ·obtain⟨y,aY⟩:=hex;have gU:=eS y aY;cases y with
   |box Sx=>
    rcases gU with⟨cells,j,I⟩|⟨rows,ex,j,I⟩
    ·refine .ptr c g r k v R (λ x h=>?_) (λ _ _ _ h=>by rw[aY]at h;cases h) (λ _ _ _ _ h=>by rw[aY]at h;cases h) (λ _ _ h=>by rw[aY]at h;cases h) au (λ _ _ _ _ h=>by rw[aY]at h;cases h);rw[I];exact aj _ j
    ·exfalso;have av:=aP _ _ _ _ j;obtain rfl:g=0:=R;obtain⟨b,n,ba,_⟩:=aR _ _ _ j;rw[I]at ba;cases ba
   |iter s p=>obtain⟨dh,kk,j,I⟩:=gU;refine .ptr c g r k v R (λ _ h=>by rw[aY]at h;cases h) (λ _ _ _ h=>by rw[aY]at h;cases h) (λ _ _ _ _ h=>by rw[aY]at h;cases h) (λ _ _ h=>?_) au (λ _ _ _ _ h=>by rw[aY]at h;cases h);rw[I];exact ax _ _ j
   |map|cY|ju|gone|az|fd=>exact .ptr c g r k v R (λ _ h=>by rw[aY]at h;cases h) (λ _ _ _ h=>by rw[aY]at h;cases h) (λ _ _ _ _ h=>by rw[aY]at h;cases h) (λ _ _ h=>by rw[aY]at h;cases h) au (λ _ _ _ _ h=>by rw[aY]at h;cases h)
   |sl aw aU eB fY=>
    rcases gU with⟨rows,ex,j,I,av⟩|⟨qI,g0,ha,ii,j,I⟩
    ·refine .ptr c g r k v R (λ _ h=>by rw[aY]at h;cases h) (λ h2 c7 hB h=>?_) (λ _ _ _ _ h=>by rw[aY]at h;cases h) (λ _ _ h=>by rw[aY]at h;cases h) au (λ _ _ _ _ h=>by rw[aY]at h;cases h;exact aP _ _ _ _ j);rw[aY]at h;cases h;rw[I];exact aR _ _ _ j
    ·have hle:=aP _ _ _ _ j;exact .ptr c g r k v R (λ _ h=>by rw[aY]at h;cases h) (λ h2 c7 hB h=>by rw[aY]at h;cases h;omega) (λ _ _ _ _ h=>by rw[aY]at h;cases h) (λ _ _ h=>by rw[aY]at h;cases h) au (λ _ _ _ _ h=>by rw[aY]at h;cases h;omega)
   |bj aw aU eB fY=>
    rcases gU with j|j
    ·refine .ptr c g r k v R (λ _ h=>by rw[aY]at h;cases h) (λ _ _ _ h=>by rw[aY]at h;cases h) (λ h2 c7 hB row h h1=>?_) (λ _ _ h=>by rw[aY]at h;cases h) au (λ _ _ _ _ h=>by rw[aY]at h;cases h);rw[aY]at h;cases h;exact(aI _ _ _ _ j h1).mono cc
    ·by_cases Bd:aU=g
     ·subst Bd;exact j _ _ (.inr ⟨r,k,rfl⟩) (.ptr c aU r k v ch aj aR aI ax au aP)
     ·exact .ptr c g r k v R (λ _ h=>by rw[aY]at h;cases h) (λ _ _ _ h=>by rw[aY]at h;cases h) (λ h2 c7 hB row h=>by rw[aY]at h;cases h;exact absurd rfl Bd) (λ _ _ h=>by rw[aY]at h;cases h) au (λ _ _ _ _ h=>by rw[aY]at h;cases h)
  ·have aE:an[c]?=none:=by cases h:an[c]? with|none=>rfl|some y=>exact absurd ⟨y,h⟩ hex
   exact .ptr c g r k v R (λ _ h=>by rw[aE]at h;cases h) (λ _ _ _ h=>by rw[aE]at h;cases h) (λ _ _ _ _ h=>by rw[aE]at h;cases h) (λ _ _ h=>by rw[aE]at h;cases h) au (λ _ _ _ _ h=>by rw[aE]at h;cases h)
def iX.same{ad:b'}{ab:b8}{H:aa}{aL:b'}{aB:b8}{an:aa}{c:Nat}(j:an[c]?=H[c]?)(av:∀r,aB ⟨c,r⟩=ab ⟨c,r⟩):iX ad ab H aL aB an c:=by
 have I:=av 0;intro y aY;rw[j]at aY;cases y with
 |box cells=>exact .inl ⟨cells,aY,I⟩
 |iter s p=>exact⟨s,p,aY,I⟩
 |map es=>exact⟨es,aY,I⟩
 |cY t cells=>exact⟨t,cells,aY,I⟩
 |ju t l=>exact⟨t,l,aY,I,rfl⟩
 |gone=>trivial
 |fd g rows=>exact .inl aY
 |az z g s rows=>intro c_ aU dD eB aO;rw[j]at aO;exact .inl ⟨dD,eB,aO,I,rfl,.inr ⟨rfl,λ r bP ah=>⟨bP,ah,rfl,av _⟩⟩⟩
 |sl aw g rows ex=>exact .inl ⟨rows,ex,aY,I,rfl⟩
 |bj aw g rows ex=>exact .inl aY
def eW(ad:b')(ab:b8)(H:aa)(J:Fr)(tmps:Array Value):Prop:=∀k,a6 ad ab H (get k J) (tmps.getD k undef)
def eW.mono{ad ab H aL aB an J tmps}(h:eW ad ab H J tmps)(m:e6 ad ab H aL aB an):eW aL aB an J tmps:=λ k=>m _ _ (h k)
def eW.put{ad ab H J}{a:Act}(h:eW ad ab H J a.tmps){v:U}{x:Value}(r:a6 ad ab H v x)(d:Option Nat)(aM:∀k,d=some k→k<a.tmps.size):
  eW ad ab H (dH d v J) (a.put d x).tmps:=by
 cases d with
 |none=>exact h
 |some d=>
  intro k;have be:=aM d rfl;by_cases ay:k=d
  ·subst ay;simp only[dH,get,Act.put,if_true];simpa[be]using r
  ·simp only[dH,get,Act.put,ay,if_false];have:=h k;simpa[a' ay]using this
def eW.Hs{ad ab H J tmps}(h:eW ad ab H J tmps)(l:List Nat):eW ad ab H (norm l J) tmps:=by
 intro k;have key:∀l:List Nat,get k (norm l J)=get k J∨get k (norm l J)=.dead:=by
  intro l;induction l with
  |nil=>exact .inr rfl
  |cons x l a8=>
   simp only[VI.norm,fh,get];by_cases ak:k=x
   ·subst ak;simp
   ·simp only[ak,if_false];exact a8
 rcases key l with e|e<;>rw[e]
 ·exact h k
 ·exact .dead _
def LW(ad ab H):a6 ad ab H (.bd []) undef:=.bd [] #[] rfl (λ k a h=>by simp at h)
section
variable{E:Env}{ad:b'}{ab:b8}{H:aa}{w:World}
def iA{x:aC}{y:Value}(h:a6 ad ab H (.i x) y):dl ad x y:=by cases h;assumption
def fv{x y:Value}(h:a6 ad ab H (.i (.v x)) y):y=x:=by cases iA h;rfl
def p0{l:List UInt8}{y:Value}(h:a6 ad ab H (.i (.str l)) y):y=.string ⟨⟨l⟩⟩:=by cases iA h;rfl
def l'{k:IntKind}{n:Int}:a6 ad ab H (.int k n) (.int k n):=.i _ _ (.v _ rfl)
def wQ{b:Bool}:a6 ad ab H (.bool b) (.bool b):=.i _ _ (.v _ rfl)
def Be{l:List UInt8}:a6 ad ab H (.str l) (.string ⟨⟨l⟩⟩):=.i _ _ (.str _)
def uS{cells:List U}{y:Value}(h:a6 ad ab H (.agg cells) y):
  ∃cs:Array Value,y=.agg cs∧cs.size=cells.length∧∀(k:Nat) (a:U),cells[k]?=some a→a6 ad ab H a (cs.getD k undef):=by
 cases h;rename_i cs al h;exact⟨cs,rfl,al,h⟩
def Sy{cells:List U}{y:Value}(h:a6 ad ab H (.bd cells) y):
  ∃cs:Array Value,y=.tuple cs∧cs.size=cells.length∧∀(k:Nat) (a:U),cells[k]?=some a→a6 ad ab H a (cs.getD k undef):=by
 cases h;rename_i cs al h;exact⟨cs,rfl,al,h⟩
def Ht{a:U}{y:Value}(h:a6 ad ab H a y)(b9:one a=true):y.oneCell'=true:=by
 cases h with
 |dead=>simp[one]at b9
 |i x v h=>cases h with
  |v _ h=>exact h
  |_=>rfl
 |agg=>simp[one]at b9
 |ref c g off len v ag aR aI au aP=>obtain⟨a,m,rfl⟩:=au;rfl
 |ptr c g r k v ag aj aR aI ax au aP=>obtain⟨a,rfl⟩:=au;rfl
 |dv c v ag hm bp hu au bf=>exact au
 |x k v h aI=>exact h.one
 |aQ=>rfl
 |bd=>simp[one]at b9
def Sz(v:Value):a6 ad ab H (cellOf v) v:=by
 unfold cellOf;split
 ·rename_i b;obtain⟨⟨l⟩⟩:=b;exact .i _ _ (.str l)
 ·exact .i _ _ (.nil 0 true none 0 (λ _=>rfl))
 ·exact .dead _
 ·exact .dead _
 ·rename_i j I;refine .i _ _ (.v _ ?_);cases v<;>first|rfl|exact absurd rfl (j _)|exact absurd rfl (I _)
def getD_eq(cs:Array Value)(k:Nat)(h:k<cs.size):cs[k]?=some (cs.getD k undef):=by simp[h]
def sD(v:Value):a6 ad ab H (jQ v) v:=by
 unfold jQ;split
 ·rename_i cs;refine .agg _ _ (by simp) λ k a h=>?_
  simp only[fw,mH,c0]at h;obtain⟨x,ak,rfl⟩:=h;have:cs.getD k undef=x:=by simp[di,ak]
  rw[this];exact Sz x
 ·exact Sz _
def eD{J:Fr}{a:Act}(ap:b5 E ad ab H w)(aI:eW ad ab H J a.tmps)(x:Operand):a6 ad ab H (bn E J x) (a.eval x):=by
 cases x with
 |tmp t=>exact aI t
 |const v=>exact sD v
 |func f=>exact .aQ _ _ _ #[] #[] rfl rfl (λ k a h=>by simp at h) (λ k a h=>by simp at h)
 |global g=>
  simp only[bn,Act.eval];cases h:E.e4 g with
  |none=>exact .dead _
  |some cells=>exact .i _ _ (ap.e4 _ _ h).1
def gG{P:Program}{t n}(h:fG P t=some n)(w:World):(sizeOf t).run P w=.ok n w∧∃i,P.info? t=some i∧i.size=n:=by simp only[fG,c0]at h;obtain⟨i,ax,rfl⟩:=h;exact⟨by rw[run_sizeOf (i:=i) w ax];simp[Program.cellsOf,ax],i,ax,rfl⟩
def wR{P:Program}{t b}(h:kh P t=some b)(w:World):(isAgg t).run P w=.ok b w:=by simp only[kh,c0]at h;obtain⟨d,aM,rfl⟩:=h;simp only[isAgg,dT,run_underlying aM,eg];cases d<;>rfl
def h3{P:Program}{t e}(h:e0 P t=some e):P.underlying t=some (.slice e):=by unfold e0 at h;split at h<;>simp_all
def Hu{P:Program}{t n e}(h:uD P t=some (n,e)):P.underlying t=some (.array n e):=by unfold uD at h;split at h<;>simp_all
def rO{P:Program}{t}(h:hx P t=true):P.underlying t=some .string:=by unfold hx at h;split at h<;>simp_all
def Bf{P:Program}{t k}(h:nB P t=some k):P.underlying t=some (.int k):=by unfold nB at h;split at h<;>simp_all
def SA{P:Program}{t f off d'}(h:AW P t f=some (off,d')):∃eI x,P.underlying t=some (.struct eI)∧eI[f]?=some x∧x.offset=off∧x.type=d':=by
 unfold AW at h;split at h
 ·rename_i eI hu;simp only[c0,bw]at h;obtain⟨x,ak,j,I⟩:=h;exact⟨eI,x,hu,ak,j,I⟩
 ·cases h
def lb(b ai n:Nat):(⟨b,ai,none⟩:Addr).add n=⟨b,ai+n,none⟩:=by unfold Addr.add;split<;>simp_all
def cell_of{b:Nat}{cs:Array Value}{e:TypeId}{bj:Nat×Nat}(h:w.heap[b]?=some (.cells cs e bj))(ai:Nat):w.cell? ⟨b,ai,none⟩=cs[ai]?:=by simp[rP,h]
def l9.SB{z c r:Nat}{bP:List (List aC)}{v:Value}(h:l9 ad ab w z c r (.own bP) v):uP ab z c r bP v:=by
 rcases h.2 with j|⟨b,cs,elem,bj,j,I,_⟩
 ·exact .inl j
 ·exact .inr ⟨b,cs.size,j,I⟩
def aiE(ap:b5 E ad ab H w){q:cN}{y:Value}(h:kO ab H q y){cells:List U}{k:Nat}(aj:uE H q=some (cells,k)):
  ∃b base,y=.pointer (some ⟨b,base+k,none⟩)∧∀(ac:Nat) (c:U),cells[ac]?=some c→∃dA,w.cell? ⟨b,base+ac,none⟩=some dA∧a6 ad ab H c dA:=by
 cases q with
 |d=>cases aj
 |h=>cases aj
 |e c g r=>
  obtain⟨ag,⟨a,aA⟩,ak⟩:=h;simp only[uE]at aj;unfold DS at aj;split at aj
  ·rename_i z aU s rows aO;split at aj
   ·rename_i aP;subst aP;obtain⟨b,n,cb,rfl⟩:=(ak _ _ _ _ aO).2 rfl;have p1:=ap.b6 _ _ aO;rcases p1 with⟨aE,_⟩|⟨bR,cs,elem,bj,gV,hw,gH,hle,eh⟩
    ·rw[cb]at aE;cases aE
    ·rw[cb]at gV;cases gV;split at aj
     ·rename_i bP ah;cases aj;have be:r<cs.size:=by have:=(bF.1 ah).1;omega
      refine⟨b,r,by simp,λ ac x a_=>?_⟩;cases ac with
      |succ ac=>simp at a_
      |zero=>
       simp at a_;subst a_;refine⟨cs.getD r undef,by rw[cell_of hw,e7];exact getD_eq _ _ be,.x _ _ ⟨ag,?_,λ c_ aQh dD eB lc=>?_⟩ (.ne nofun)⟩
       ·obtain⟨a,m,e⟩:=(eh _ _ ah).slice;exact⟨a,_,m,e⟩
       ·rw[aO]at lc;cases lc;refine⟨.inr ⟨rfl,cL _⟩,λ _ _ pW Bg=>?_⟩;rw[ah]at Bg;cases Bg;exact(eh _ _ ah).SB
     ·rename_i x ah;cases aj;have be:r<cs.size:=by have:=(bF.1 ah).1;omega
      refine⟨b,r,by simp,λ ac y a_=>?_⟩;cases ac with
      |succ ac=>simp at a_
      |zero=>simp at a_;subst a_;exact⟨cs.getD r undef,by rw[cell_of hw,e7];exact getD_eq _ _ be,.i _ _ (eh _ _ ah)⟩
     ·cases aj
   ·cases aj
  ·cases aj
 |p c g s r i dx=>
  obtain⟨ag,⟨a,aA⟩,ak⟩:=h;simp only[uE]at aj;unfold DT at aj;split at aj
  ·rename_i z aU dD rows aO;split at aj
   ·rename_i aP;obtain⟨rfl,rfl⟩:=aP;split at aj
    ·rename_i bP ah;split at aj
     ·rename_i row bX;cases aj;have ax:=(bF.1 bX).1;obtain⟨b,n,cb,rfl⟩:=(ak _ _ _ _ aO).2 rfl rfl _ ah ax;rcases ap.b6 _ _ aO with⟨aE,aW⟩|⟨bR,cs,elem,bj,gV,hw,gH,hle,eh⟩
      ·subst aW;simp at ah
      ·obtain⟨j,I⟩:=eh _ _ ah;rcases I with⟨rfl,_⟩|⟨dz,wS,aH,aQi,cm,cy,fc,iW,l_,wP⟩
       ·simp at ax
       ·rw[cb]at cm;cases cm;refine⟨b,i*z,rfl,λ ac x a_=>?_⟩;simp only[kH,fw,c0]at a_;obtain⟨a,aA,rfl⟩:=a_;have be:i*z+ac<wS.size:=by obtain⟨cap,_,c4,eN⟩:=cy;have ld:=(bF.1 aA).1;rw[j _ _ bX]at ld;have:(i+1)*z≤cap*z:=jX _ R;rw[hc]at this;omega
        exact⟨wS.getD (i*z+ac) undef,by rw[cell_of fc];exact getD_eq _ _ be,.i _ _ (wP _ _ _ _ bX aA)⟩
     ·cases aj
    ·cases aj
   ·cases aj
  ·cases aj
def Hv(ap:b5 E ad ab H w){p:U}{y:Value}(h:a6 ad ab H p y){cells:List U}{k:Nat}(aj:behind H p=some (cells,k)):
  ∃b base,y=.pointer (some ⟨b,base+k,none⟩)∧∀(ac:Nat) (c:U),cells[ac]?=some c→∃dA,w.cell? ⟨b,base+ac,none⟩=some dA∧a6 ad ab H c dA:=by
 have Bh:∀(aJ:List aC) (ai:Nat),dl ad (.gd aJ ai) y→∃b base,y=.pointer (some ⟨b,base+ai,none⟩)∧∀(ac:Nat) (c:U),(kH aJ)[ac]?=some c→∃dA,w.cell? ⟨b,base+ac,none⟩=some dA∧a6 ad ab H c dA:=by
  intro aJ ai ah;cases ah with
  |gd cells ai b off cs elem bj dA cc j I=>refine⟨b,off,rfl,λ ac c a_=>?_⟩;simp only[kH,fw,c0]at a_;obtain⟨a,aA,rfl⟩:=a_;exact⟨dA ac,by rw[cell_of (ap.dR _ _ cc)];exact j _ _ aA,.i _ _ (I _ _ aA)⟩
 unfold behind at aj;split at aj
 ·cases aj;exact Bh _ _ (iA h)
 ·rename_i c g r dx;cases h with
  |ptr c g r k v ag aiF Hw LX hit au=>
   split at aj
   ·rename_i Sx aO;cases aj;obtain⟨b,n,cb,rfl⟩:=aiF _ aO;obtain⟨bR,cs,elem,bj,gV,hw,_,eu,eh⟩:=ap.b6 _ _ aO;rw[cb]at gV;cases gV;refine⟨b,0,by simp,λ ac c a_=>?_⟩;have be:ac<cs.size:=by rw[eu];exact(bF.1 a_).1
    exact⟨cs.getD ac undef,by rw[cell_of hw,cp];exact getD_eq cs ac be,eh _ _ a_⟩
   ·rename_i aw aU rows ex aO;split at aj
    ·rename_i aP;subst aP;split at aj
     ·rename_i row bX;cases aj;obtain⟨b,n,cb,rfl⟩:=Hw _ _ _ aO;obtain⟨bf,hlen,fi⟩:=ap.b6 _ _ aO;rcases fi with⟨aE,_⟩|⟨bR,cs,elem,bj,gV,hw,_,eu,_,eh⟩
      ·rw[cb]at aE;cases aE
      ·rw[cb]at gV;cases gV;refine⟨b,r*aw,rfl,λ ac c a_=>?_⟩;simp only[kH,fw,c0]at a_;obtain⟨a,aA,rfl⟩:=a_;have fj:=hlen _ _ bX;have ld:=(bF.1 aA).1;have Bg:=(bF.1 bX).1;have be:r*aw+ac<cs.size:=by have:(r+1)*aw≤rows.length*aw:=jX _ Bg;rw[hc]at this;omega
       exact⟨cs.getD (r*aw+ac) undef,by rw[cell_of hw];exact getD_eq _ _ be,.i _ _ (eh _ _ _ _ bX aA)⟩
     ·cases aj
    ·cases aj
   ·rename_i aw aU rows ex aO;split at aj
    ·rename_i aP;subst aP;split at aj
     ·rename_i row bX;cases aj;exact Bh _ _ (LX _ _ _ _ aO bX)
     ·cases aj
    ·cases aj
   ·cases aj
 ·cases h with
  |x k v h aI=>exact aiE ap h aj
 ·cases aj
def SC{l m:List U}{k n:Nat}(h:take l k n=some m):m.length=n∧∀ac,ac<n→∃a,m[ac]?=some a∧l[k+ac]?=some a:=by
 unfold take at h;split at h
 ·rename_i hle;cases h;refine⟨by simp;omega,λ ac a_=>?_⟩;have be:k+ac<l.length:=R;exact⟨l[k+ac],by simp[nJ,a_,rQ,be],by simp[be]⟩
 ·cases h
def SD(ap:b5 E ad ab H w){p:U}{y:Value}(h:a6 ad ab H p y){t:TypeId}{v:U}(al:tm E H t p=some v):
  ∃x,(Instr.loadAt t y).run E.P w=.ok x w∧a6 ad ab H v x:=by
 unfold tm at al;split at al
 ·rename_i cells k n aj aA aR;obtain⟨b,base,rfl,eh⟩:=Hv ap h aj;simp only[c0]at al;obtain⟨m,hm,rfl⟩:=al;obtain⟨Bi,SE⟩:=SC hm;have lI:(loadCells ⟨b,base+k,none⟩ n).run E.P w=.ok ((g' n).map λ ac=>(w.cell? ⟨b,base+k+ac,none⟩).getD undef).toArray w:=by
   refine run_loadCells w _ n _ λ ac a_=>?_
   obtain⟨a,_,I⟩:=SE ac a_;obtain⟨dA,av,_⟩:=eh _ _ I;rw[lb,show base+k+ac=base+(k+ac)by omega,av];rfl
  refine⟨.agg ((g' n).map λ ac=>(w.cell? ⟨b,base+k+ac,none⟩).getD undef).toArray,?_,?_⟩
  ·simp only[Instr.loadAt,yL,loadVar,dT,eE,eg,wR aA,if_true,(gG aR w).1,lI,Sem.run_ite]
  ·refine .agg _ _ (by simp[Bi]) λ ac a a_=>?_
   have Bj:ac<n:=by rw[←Bi];exact(bF.1 a_).1
   obtain⟨bW,j,I⟩:=SE ac Bj;rw[a_]at j;cases j;obtain⟨dA,av,ba⟩:=eh _ _ I;have:((g' n).map λ ac=>(w.cell? ⟨b,base+k+ac,none⟩).getD undef).toArray.getD ac undef=dA:=by simp[di,Bj,show base+k+ac=base+(k+ac)by omega,av]
   rw[this];exact ba
 ·rename_i cells k n aj aA aR;obtain⟨b,base,rfl,eh⟩:=Hv ap h aj;obtain⟨dA,av,ba⟩:=eh _ _ al;refine⟨dA,?_,ba⟩;simp[Instr.loadAt,yL,loadVar,wR aA,av]
 ·cases al
def Eb(p:Prop) [Decidable p](b:Bool)(h:b=decide p):a6 ad ab H (.bool (decide p)) (.bool b):=by rw[h];exact wQ
def SF{op:BinOp}{k:IntKind}{a b r:Int}(h:jR op k a b=some r)(P:Program):(Op.intBits op k a b).run P w=.ok (.int k r) w:=by cases op<;>simp_all [jR,Op.intBits]
def aiG{op:BinOp}{k dx:IntKind}{a b:Int}{v:U}(h:lB op k a dx b=some v)(t:TypeId)(P:Program):
  ∃x,(binOp op t (.int k a) (.int dx b)).run P w=.ok x w∧a6 ad ab H v x:=by
 unfold lB at h;split at h
 ·split at h
  ·rename_i aj;cases h;exact⟨_,by simp[binOp,Op.shift,show¬b<0 by omega],l'⟩
  ·cases h
 ·split at h
  ·rename_i aj;cases h;exact⟨_,by simp[binOp,Op.shift,show¬b<0 by omega],l'⟩
  ·cases h
 ·split at h
  ·rename_i ay;subst ay;split at h
   ·cases h;exact⟨_,by simp[binOp,Op.intArith],l'⟩
   ·cases h;exact⟨_,by simp[binOp,Op.intArith],l'⟩
   ·cases h;exact⟨_,by simp[binOp,Op.intArith],l'⟩
   ·split at h
    ·cases h
    ·rename_i aj;cases h;exact⟨_,by simp[binOp,Op.intDiv,aj],l'⟩
   ·split at h
    ·cases h
    ·rename_i aj;cases h;exact⟨_,by simp[binOp,Op.intDiv,aj],l'⟩
   ·cases h;exact⟨_,by simp[binOp,Ec];rfl,Eb _ _ rfl⟩
   ·cases h;exact⟨.bool (a !=b),by simp[binOp,Ec],by
     have:(!decide (a=b))=(a !=b):=rfl;rw[this];exact wQ⟩
   ·cases h;exact⟨_,by simp[binOp,Ec];rfl,Eb _ _ (by rfl)⟩
   ·cases h;exact⟨_,by simp[binOp,Ec];rfl,Eb _ _ (by rfl)⟩
   ·cases h;exact⟨_,by simp[binOp,Ec];rfl,Eb _ _ (by rfl)⟩
   ·cases h;exact⟨_,by simp[binOp,Ec];rfl,Eb _ _ (by rfl)⟩
   all_goals first
    |(simp only[c0]at h;obtain⟨r,ah,rfl⟩:=h;exact⟨_,by simp[binOp];exact SF ah P,l'⟩)
    |cases h
  ·cases h
def toList_mk(l:List UInt8):(⟨⟨l⟩⟩:ByteArray).toList=l:=by rw[ByteArray.toList_eq]
def size_mk(l:List UInt8):(⟨⟨l⟩⟩:ByteArray).size=l.length:=rfl
def aiH(a b:List UInt8):(⟨⟨a⟩⟩:ByteArray)++⟨⟨b⟩⟩=⟨⟨a++b⟩⟩:=by apply ByteArray.ext;simp
def aiI{op:BinOp}{a b:List UInt8}{v:U}(h:sv op a b=some v)(t:TypeId)(P:Program):
  ∃x,(binOp op t (.string ⟨⟨a⟩⟩) (.string ⟨⟨b⟩⟩)).run P w=.ok x w∧a6 ad ab H v x:=by
 unfold sv at h;split at h
 ·split at h
  ·rename_i al;cases h;refine⟨.string ⟨⟨a++b⟩⟩,?_,Be⟩;have:¬((a.length:Int)+b.length>nK.max):=by
    have:nK.max=9223372036854775807:=by decide
    omega
   simp[binOp,Op.stringOp,size_mk,aiH];omega
  ·cases h
 all_goals first
  |(simp only[bg]at h;subst h;exact⟨.bool _,by simp[binOp,Op.stringOp,toList_mk],wQ⟩)
  |exact absurd h (by simp)
def SG:na→Value→Prop
 |.int k,x=>∃n,x=.int k n
 |.bool,x=>∃b,x=.bool b
 |.str,x=>∃s,x=.string s
def ma(l:List na)(xs:Array Value)(off:Nat):Prop:=∀(k:Nat) (f:na),l[k]?=some f→∃x,xs[off+k]?=some x∧SG f x
def ty(xs cP:Array Value)(off n:Nat):Prop:=∀k,k<n→xs[off+k]?=cP[off+k]?
def ty.split{xs cP:Array Value}{off n m:Nat}:ty xs cP off (n+m)↔ty xs cP off n∧ty xs cP (off+n) m:=by
 constructor
 ·intro h;exact⟨λ k ay=>h k R,λ k ay=>by have:=h (n+k) R;rwa [show off+(n+k)=off+n+k by omega]at this⟩
 ·rintro⟨j,I⟩ k ay;by_cases aE:k<n
  ·exact j k aE
  ·have:=I (k-n) R;rwa [show off+n+(k-n)=off+k by omega]at this
def ma.split{l m:List na}{xs:Array Value}{off:Nat}(h:ma (l++m) xs off):ma l xs off∧ma m xs (off+l.length):=by
 constructor
 ·intro k f aI;exact h k f (by rw[ei (bF.1 aI).1];exact aI)
 ·intro k f aI;have:=h (l.length+k) f (by rw[hd R];simpa using aI);rwa [show off+(l.length+k)=off+l.length+k by omega]at this
def yM(P:Program)(t:TypeId)(xs:Array Value)(off n:Nat)(x:Value):Prop:=
 (kh P t=some true∧∃cs:Array Value,x=.agg cs∧∀k,k<n→cs[k]?=xs[off+k]?)∨(kh P t=some false∧n=1∧xs[off]?=some x)
def Hx{P:Program}{t:TypeId}{l:List na}{xs:Array Value}{off:Nat}{wT:Bool}(aA:kh P t=some wT)(bf:fG P t=some l.length)
  (j:wT=false→l.length=1)(ay:ma l xs off):∃x,(part t xs off).run P w=.ok x w∧yM P t xs off l.length x:=by
 cases wT with
 |true=>refine⟨.agg (xs.extract off (off+l.length)),by simp[part,wR aA,(gG bf w).1],.inl ⟨aA,_,rfl,λ k tz=>?_⟩⟩;obtain⟨x,ak,_⟩:=ay k _ (eX tz);have be:=(jY.1 ak).1;rw[Array.getElem?_extract];simp;omega
 |false=>have al:=j rfl;obtain⟨x,ak,_⟩:=ay 0 _ (eX R);exact⟨x,by simp only[part,dT,wR aA,eg];simp at ak;simp[ak],.inr ⟨aA,al,by simpa using ak⟩⟩
def LY{P:Program}{d:Nat}{t:TypeId}{l:List na}(h:leaves P d t=some l):∃wT,kh P t=some wT∧(wT=false→l.length=1):=by
 cases d with
 |zero=>simp[leaves]at h
 |succ d=>
  simp only[leaves]at h;cases hu:P.underlying t with
  |none=>simp[hu]at h
  |some u=>
   simp only[hu]at h;cases u<;>simp at h
   all_goals first
    |(subst h;exact⟨false,by simp[kh,hu],λ _=>rfl⟩)
    |exact⟨true,by simp[kh,hu],λ h=>by cases h⟩
def SH{P:Program}{d D:Nat}(a8:∀t l,leaves P d t=some l→∀(xs cP:Array Value) (p2 p3:Nat) (x y:Value),ma l xs p2→ma l cP p3→
   yM P t xs p2 l.length x→yM P t cP p3 l.length y→∃r,(Hy D t x y).run P w=.ok r w∧(r=true↔∀k,k<l.length→xs[p2+k]?=cP[p3+k]?)):
  ∀(eI:List Field) (ai:Nat) (l:List na),DR P (leaves P d) ai eI=some l→∀xs cP:Array Value,ma l xs ai→ma l cP ai→
   ∃r,(Op.eqFields D xs cP eI).run P w=.ok r w∧(r=true↔ty xs cP ai l.length)
 |[],ai,l,h,xs,cP,_,_=>by simp only[DR,bg]at h;subst h;exact⟨true,by simp[Op.eqFields],by simp[ty]⟩
 |f::eI,ai,l,h,xs,cP,ak,aY=>by
  simp only[DR]at h;split at h
  ·rename_i c4 z hQ bf;split at h
   ·rename_i ag;obtain⟨j,I,av⟩:=ag;simp only[c0]at h;obtain⟨eN,hK,rfl⟩:=h;subst j I;obtain⟨lJ,yN⟩:=ak.split;obtain⟨yO,Bk⟩:=aY.split;obtain⟨wT,aA,nL⟩:=LY hQ;obtain⟨x,LZ,yP⟩:=Hx (w:=w) aA bf nL lJ;obtain⟨y,L0,L1⟩:=Hx (w:=w) aA bf nL yO;obtain⟨iB,oj,Ed⟩:=a8 _ _ hQ xs cP _ _ x y lJ yO yP L1;obtain⟨tA,iC,yQ⟩:=SH a8 eI _ eN hK xs cP yN Bk;have Ee:iB=true↔ty xs cP f.offset c4.length:=Ed;simp only[Op.eqFields,av,ne_eq,not_false_eq_true,if_true,dT,LZ,L0,oj,eg,dp,ty.split];cases iB with
    |true=>exact⟨tA,by simp[iC],by rw[yQ];simp[Ee.1 rfl]⟩
    |false=>exact⟨false,by simp,by simp only[fF,false_iff];exact λ h=>by simpa using Ee.2 h.1⟩
   ·cases h
  ·cases h
def SI{P:Program}{d D:Nat}{e:TypeId}{l:List na}(al:leaves P d e=some l)(bf:fG P e=some l.length)(sE:P.cellsOf e=l.length)
  (a8:∀(xs cP:Array Value) (p2 p3:Nat) (x y:Value),ma l xs p2→ma l cP p3→
   yM P e xs p2 l.length x→yM P e cP p3 l.length y→∃r,(Hy D e x y).run P w=.ok r w∧(r=true↔∀k,k<l.length→xs[p2+k]?=cP[p3+k]?))(xs cP:Array Value):
  ∀is:List Nat,(∀i∈is,ma l xs (i*l.length)∧ma l cP (i*l.length))→
   ∃r,(Op.eqItems D e (P.cellsOf e) xs cP is).run P w=.ok r w∧(r=true↔∀i∈is,ty xs cP (i*l.length) l.length)
 |[],_=>⟨true,by simp[Op.eqItems],by simp⟩
 |i::is,h=>by
  obtain⟨ak,aY⟩:=h i (by simp);obtain⟨wT,aA,nL⟩:=LY al;obtain⟨x,LZ,yP⟩:=Hx (w:=w) aA bf nL ak;obtain⟨y,L0,L1⟩:=Hx (w:=w) aA bf nL aY;obtain⟨iB,oj,Ed⟩:=a8 xs cP _ _ x y ak aY yP L1;obtain⟨tA,iC,yQ⟩:=SI al bf sE a8 xs cP is (λ ac a_=>h ac (by simp[a_]));have Ee:iB=true↔ty xs cP (i*l.length) l.length:=Ed;simp only[sE]at iC;simp only[Op.eqItems,sE,dT,LZ,L0,oj,eg,List.forall_mem_cons];cases iB with
  |true=>exact⟨tA,by simp[iC],by rw[yQ];simp[Ee.1 rfl]⟩
  |false=>exact⟨false,by simp,by simp only[fF,false_iff];exact λ h=>by simpa using Ee.2 h.1⟩
def Hz{α:Type}(l:List α):∀(n i k:Nat),i<n→k<l.length→(cB n l).flatten[i*l.length+k]?=l[k]?
 |0,_,_,h,_=>R
 |n+1,0,k,_,ay=>by simp[Ef,ei ay]
 |n+1,i+1,k,h,ay=>by
  rw[Ef,sF,hd (by rw[hc];omega)];rw[←Hz l n i k R ay]
  congr 1;rw[hc];omega
def L2{P:Program}:∀(d:Nat) (t:TypeId) (l:List na),leaves P d t=some l→∀D,d≤D→∀(xs cP:Array Value) (p2 p3:Nat) (x y:Value),ma l xs p2→ma l cP p3→
  yM P t xs p2 l.length x→yM P t cP p3 l.length y→
   ∃r,(Hy D t x y).run P w=.ok r w∧(r=true↔∀k,k<l.length→xs[p2+k]?=cP[p3+k]?)
 |0,t,l,h=>by simp[leaves]at h
 |d+1,t,l,h=>by
  intro D lK xs cP p2 p3 x y ak aY jj kP;obtain⟨D,rfl⟩:∃L3,D=L3+1:=⟨D-1,R⟩;have nL:=LY h;simp only[leaves]at h;cases hu:P.underlying t with
  |none=>simp[hu]at h
  |some u=>
   simp only[hu]at h;have single:kh P t=some false→l.length=1→(xs[p2]?=some x∧cP[p3]?=some y):=by
    intro aA al;rcases jj with⟨j,_⟩|⟨_,_,j⟩
    ·rw[aA]at j;cases j
    ·rcases kP with⟨I,_⟩|⟨_,_,I⟩
     ·rw[aA]at I;cases I
     ·exact⟨j,I⟩
   cases u<;>simp at h
   case bool=>subst h;obtain⟨wU,wV⟩:=single (by simp[kh,hu]) rfl;obtain⟨mI,j,a,rfl⟩:=ak 0 .bool rfl;obtain⟨wW,I,b,rfl⟩:=aY 0 .bool rfl;simp only[e7]at j I;rw[wU]at j;rw[wV]at I;cases j;cases I;refine⟨a==b,run_equalIn_bool' w D t a b hu,?_⟩;simp[wU,wV]
   case int k=>subst h;obtain⟨wU,wV⟩:=single (by simp[kh,hu]) rfl;obtain⟨mI,j,a,rfl⟩:=ak 0 _ rfl;obtain⟨wW,I,b,rfl⟩:=aY 0 _ rfl;simp only[e7]at j I;rw[wU]at j;rw[wV]at I;cases j;cases I;refine⟨a==b,run_equalIn_int w D t k k a b hu,?_⟩;simp[wU,wV]
   case string=>subst h;obtain⟨wU,wV⟩:=single (by simp[kh,hu]) rfl;obtain⟨mI,j,a,rfl⟩:=ak 0 .str rfl;obtain⟨wW,I,b,rfl⟩:=aY 0 .str rfl;simp only[e7]at j I;rw[wU]at j;rw[wV]at I;cases j;cases I;refine⟨a.toList==b.toList,run_equalIn_string w D t a b hu,?_⟩;rw[ByteArray.toList_eq,ByteArray.toList_eq];obtain⟨⟨a⟩⟩:=a;obtain⟨⟨b⟩⟩:=b;simp[wU,wV]
   case array n e=>
    split at h
    ·rename_i c4 z hQ bf;split at h
     ·rename_i L4;subst L4;simp only[bg]at h;subst h;have hlen:(cB n c4).flatten.length=n*c4.length:=by simp
      rcases jj with⟨_,cs,rfl,eS⟩|⟨j,_⟩
      case inr=>simp[kh,hu]at j
      rcases kP with⟨_,cK,rfl,lL⟩|⟨j,_⟩
      case inr=>simp[kh,hu]at j
      obtain⟨i,ax,aiJ⟩:=(gG bf w).2;have Eg:P.cellsOf e=c4.length:=by simp[Program.cellsOf,ax,aiJ]
      rw[hlen]at eS lL;have fK:∀(fL:Array Value) (es:Array Value) (ai:Nat),ma (cB n c4).flatten fL ai→(∀k,k<n*c4.length→es[k]?=fL[ai+k]?)→∀i,i<n→ma c4 es (i*c4.length):=by
       intro fL es ai ay he i ax k f aI;have ni:=(bF.1 aI).1;have be:i*c4.length+k<n*c4.length:=by have:(i+1)*c4.length≤n*c4.length:=jX _ ax;rw[hc]at this;omega
       obtain⟨x,j,I⟩:=ay (i*c4.length+k) f (by rw[Hz c4 n i k ax ni];exact aI);exact⟨x,by rw[he _ be];exact j,I⟩
      obtain⟨r,ah,Eh⟩:=SI (w:=w) hQ bf Eg (L2 d e c4 hQ D R) cs cK (g' n)
       (λ i mb=>⟨fK xs cs p2 ak eS i (by simpa using mb),fK cP cK p3 aY lL i (by simpa using mb)⟩)
      refine⟨r,by rw[run_equalIn_array w D cs cK hu ax];exact ah,?_⟩;rw[Eh,hlen];constructor
      ·intro aR k ay;have hL:0<c4.length:=(Nat.eq_zero_or_pos c4.length).elim (λ aW=>by rw[aW]at ay;omega) id;have SJ:k/c4.length<n:=(HA hL).2 ay;have:=aR (k/c4.length) (by simpa using SJ) (k%c4.length) (Ei _ hL);have L5:k/c4.length*c4.length+k%c4.length=k:=by rw[uT];exact yR _ _
       rw[L5,eS k ay,lL k ay]at this;exact this
      ·intro aR i mb k ay;have be:i*c4.length+k<n*c4.length:=by
        have hn:i<n:=by simpa using mb
        have:(i+1)*c4.length≤n*c4.length:=jX _ hn;rw[hc]at this;omega
       rw[eS _ be,lL _ be];exact aR _ be
     ·cases h
    ·cases h
   case struct eI=>
    obtain⟨gU,h⟩:=h;rcases jj with⟨_,cs,rfl,eS⟩|⟨j,_⟩
    case inr=>simp[kh,hu]at j
    rcases kP with⟨_,cK,rfl,lL⟩|⟨j,_⟩
    case inr=>simp[kh,hu]at j
    have fK:∀(fL es:Array Value) (ai:Nat),ma l fL ai→(∀k,k<l.length→es[k]?=fL[ai+k]?)→ma l es 0:=by intro fL es ai ay he k f aI;obtain⟨x,j,I⟩:=ay k f aI;exact⟨x,by rw[cp,he _ (bF.1 aI).1];exact j,I⟩
    have wX:P.fieldsOf t=eI:=by simp[Program.fieldsOf,hu]
    obtain⟨r,ah,Eh⟩:=SH (w:=w) (D:=D) (λ t l al=>L2 d t l al D R) eI.toList 0 l h cs cK (fK _ _ _ ak eS) (fK _ _ _ aY lL);refine⟨r,by rw[run_equalIn_struct w D t cs cK (by rw[wX];exact hu) gU,wX];exact ah,?_⟩;rw[Eh];constructor
    ·intro aR k ay;have:=aR k ay;rw[cp,eS k ay,lL k ay]at this;exact this
    ·intro aR k ay;rw[cp,eS k ay,lL k ay];exact aR k ay
def SK{l:List na}:∀{bE:List U},oc l bE=true→bE.length=l.length∧∀(k:Nat) (f:na),l[k]?=some f→∃a,bE[k]?=some a∧o1 f a=true:=by
 induction l with
 |nil=>intro bE h;cases bE<;>simp_all [oc]
 |cons f l a8=>
  intro bE h;cases bE with
  |nil=>simp[oc]at h
  |cons a bE=>
   simp only[oc,cR]at h;obtain⟨j,I⟩:=a8 h.2;refine⟨by simp[j],λ k g aP=>?_⟩;cases k with
   |zero=>simp at aP;subst aP;exact⟨a,rfl,h.1⟩
   |succ k=>simpa using I k g (by simpa using aP)
def aiK{f:na}{a:U}{x:Value}(h:o1 f a=true)(r:a6 ad ab H a x):SG f x:=by
 unfold o1 at h;split at h
 ·rw[fv r];simp at h;subst h;exact⟨_,rfl⟩
 ·rw[fv r];exact⟨_,rfl⟩
 ·rw[p0 r];exact⟨_,rfl⟩
 ·cases h
def aiL{a b:U}{x y:Value}{r:Bool}(h:qt a b=some r)(e8:a6 ad ab H a x)(h4:a6 ad ab H b y):r=true↔x=y:=by
 unfold qt at h;split at h
 ·split at h
  ·cases h;rw[fv e8,fv h4];simp_all
  ·cases h
 ·cases h;rw[fv e8,fv h4];simp
 ·cases h;rw[p0 e8,p0 h4];simp
 ·cases h
def SL:∀{bE mJ:List U} {r:Bool},ob bE mJ=some r→∀(xs cP:Nat→Value),(∀(k:Nat) (a:U),bE[k]?=some a→a6 ad ab H a (xs k))→(∀(k:Nat) (b:U),mJ[k]?=some b→a6 ad ab H b (cP k))→
  (r=true↔∀k,k<bE.length→xs k=cP k)
 |[],[],r,h,xs,cP,_,_=>by simp[ob]at h;simp[←h]
 |[],_::_,r,h,xs,cP,_,_=>by simp[ob]at h
 |_::_,[],r,h,xs,cP,_,_=>by simp[ob]at h
 |a::bE,b::mJ,r,h,xs,cP,aA,aj=>by
  simp only[ob]at h;split at h
  ·rename_i iB tA j I;cases h;have ao:=aiL j (aA 0 a rfl) (aj 0 b rfl);have aH:=SL I (λ k=>xs (k+1)) (λ k=>cP (k+1)) (λ k c ag=>aA (k+1) c (by simpa using ag)) (λ k c ag=>aj (k+1) c (by simpa using ag));rw[cR,ao,aH];constructor
   ·rintro⟨av,ba⟩ k ay;cases k with
    |zero=>exact av
    |succ k=>exact ba k (by simpa using ay)
   ·intro av;exact⟨av 0 (by simp),λ k ay=>av (k+1) (by simpa using ay)⟩
  ·cases h
def L6{P:Program}(d:Nat){t e:TypeId}(hu:P.underlying t=some (.pointer e))(a:Option Addr):
  (Hy (d+1) t (.pointer a) (.pointer none)).run P w=.ok a.isNone w:=by
 cases a<;>simp[Hy,run_underlying hu]
def L7{P:Program}(op:BinOp)(t:TypeId)(ai p:Operand)(a b:Option Addr):(eqGuard op t ai p (.pointer a) (.pointer b)).run P w=.ok () w:=by cases op<;>simp[eqGuard]
def aiM{P:Program}(op:BinOp)(t:TypeId)(ai p:Operand)(k dx:IntKind)(a b:Int):(eqGuard op t ai p (.int k a) (.int dx b)).run P w=.ok () w:=by cases op<;>simp[eqGuard]
def aiN{P:Program}(op:BinOp)(t:TypeId)(ai p:Operand)(a b:ByteArray):(eqGuard op t ai p (.string a) (.string b)).run P w=.ok () w:=by cases op<;>simp[eqGuard]
def L8{P:Program}{t:TypeId}{a b:U}{x y:Value}{r:Bool}(h:iS P t a b=some r)(e8:a6 ad ab H a x)(h4:a6 ad ab H b y):
  (Op.equal t x y).run P w=.ok r w∧∀(op:BinOp) (ai p:Operand),(eqGuard op t ai p x y).run P w=.ok () w:=by
 unfold iS at h;split at h
 ·rename_i bE mJ;split at h
  ·cases h
  ·rename_i aP;split at h
   ·rename_i nL;split at h
    ·rename_i l al;split at h
     ·rename_i ho;obtain⟨cs,rfl,ch,wY⟩:=uS e8;obtain⟨cK,rfl,fk,SM⟩:=uS h4;obtain⟨c4,bG⟩:=SK ho.1;obtain⟨eN,bC⟩:=SK ho.2;have mk:∀(fL:List U) (es:Array Value),es.size=fL.length→(∀(k:Nat) (a:U),fL[k]?=some a→a6 ad ab H a (es.getD k undef))→(∀(k:Nat) (f:na),l[k]?=some f→∃a,fL[k]?=some a∧o1 f a=true)→ma l es 0:=by intro fL es aR ah ay k f aI;obtain⟨a,j,I⟩:=ay k f aI;refine⟨es.getD k undef,?_,aiK I (ah k a j)⟩;rw[cp];exact getD_eq es k (by rw[aR];exact(bF.1 j).1)
      obtain⟨hk,Bg,Eh⟩:=L2 (w:=w) 9 t l al 10000 R cs cK 0 0 (.agg cs) (.agg cK) (mk bE cs ch wY bG) (mk mJ cK fk SM bC)
       (.inl ⟨nL,cs,rfl,λ k _=>by simp⟩) (.inl ⟨nL,cK,rfl,λ k _=>by simp⟩)
      have e:=SL h (λ k=>cs.getD k undef) (λ k=>cK.getD k undef) wY SM;have:r=hk:=by
       rw[Bool.eq_iff_iff,e,Eh,c4];constructor
       ·intro ay k ni;rw[cp,getD_eq cs k R,getD_eq cK k R,ay k ni]
       ·intro ay k ni;have:=ay k ni;rw[cp,getD_eq cs k R,getD_eq cK k R]at this;exact pY this
      rw[this];exact⟨Bg,λ op ai p=>run_eqGuard_agg w op t ai p cs cK (by simpa[LN]using aP)⟩
     ·cases h
    ·cases h
   ·cases h
 ·split at h
  ·rename_i hu;cases h;rw[fv e8,fv h4];exact⟨run_equalIn_bool' w 9999 t _ _ hu,λ op ai p=>by cases op<;>simp[eqGuard]⟩
  ·cases h
 ·split at h
  ·rename_i hu;cases h;rw[fv h4];cases e8 with
   |ptr c g r k v ag aj aR aI ax au aP=>obtain⟨a,rfl⟩:=au;exact⟨L6 9999 hu (some a),λ op ai p=>L7 ..⟩
  ·cases h
 ·split at h
  ·rename_i hu;cases h;rw[fv h4];cases iA e8 with
   |gd=>exact⟨L6 9999 hu (some _),λ op ai p=>L7 ..⟩
  ·cases h
 ·split at h
  ·rename_i hu;cases h;rw[fv e8,fv h4];exact⟨L6 9999 hu none,λ op ai p=>L7 ..⟩
  ·cases h
 ·cases h
def SN{P:Program}{t:TypeId}{a b:U}{x y:Value}{r:Bool}(h:iS P t a b=some r)(e8:a6 ad ab H a x)(h4:a6 ad ab H b y):
  (binOp .eql t x y).run P w=.ok (.bool r) w∧(binOp .neq t x y).run P w=.ok (.bool (!r)) w:=by
 have j:=(L8 (w:=w) h e8 h4).1;unfold iS at h;split at h
 ·obtain⟨cs,rfl,_⟩:=uS e8;obtain⟨cK,rfl,_⟩:=uS h4;exact⟨by simp[binOp,j],by simp[binOp,j]⟩
 ·rw[fv e8,fv h4]at j⊢;exact⟨by simp[binOp,j],by simp[binOp,j]⟩
 ·rw[fv h4]at j⊢;cases e8 with
  |ptr c g r k v ag aj aR aI ax au aP=>obtain⟨a,rfl⟩:=au;exact⟨by simp[binOp,j],by simp[binOp,j]⟩
 ·rw[fv h4]at j⊢;cases iA e8 with
  |gd=>exact⟨by simp[binOp,j],by simp[binOp,j]⟩
 ·rw[fv e8,fv h4]at j⊢;exact⟨by simp[binOp,j],by simp[binOp,j]⟩
 ·cases h
def aiO{P:Program}{op:BinOp}{t:TypeId}{a b:U}{x y:Value}{v:U}(h:jS P op t a b=some v)(e8:a6 ad ab H a x)(h4:a6 ad ab H b y)(ai p:Operand):
  ∃z,(do eqGuard op t ai p x y;binOp op t x y:Sem Value).run P w=.ok z w∧a6 ad ab H v z:=by
 unfold jS at h;split at h
 ·rw[fv e8,fv h4];obtain⟨z,j,I⟩:=aiG (ad:=ad) (ab:=ab) (H:=H) (w:=w) h t P;refine⟨z,?_,I⟩;simp only[dT,aiM,eg,j]
 ·rw[p0 e8,p0 h4];obtain⟨z,j,I⟩:=aiI (ad:=ad) (ab:=ab) (H:=H) (w:=w) h t P;refine⟨z,?_,I⟩;simp only[dT,aiN,eg,j]
 ·split at h
  ·simp only[c0]at h;obtain⟨r,ah,rfl⟩:=h;exact⟨.bool r,by simp only[dT,(L8 ah e8 h4).2,eg,(SN ah e8 h4).1],wQ⟩
  ·simp only[c0]at h;obtain⟨r,ah,rfl⟩:=h;exact⟨.bool (!r),by simp only[dT,(L8 ah e8 h4).2,eg,(SN ah e8 h4).2],wQ⟩
  ·cases h
def aiP{P:Program}{op:UnOp}{a:U}{x:Value}{v:U}(h:yy op a=some v)(e8:a6 ad ab H a x):
  ∃z,(Op.unary op x).run P w=.ok z w∧a6 ad ab H v z:=by
 unfold yy at h;split at h
 ·cases h;rw[fv e8];exact⟨_,by simp[Op.unary,Op.intArith],l'⟩
 ·simp only[c0]at h;obtain⟨r,ah,rfl⟩:=h;rw[fv e8];exact⟨_,by simp only[Op.unary];exact SF ah P,l'⟩
 ·cases h;rw[fv e8];exact⟨_,by simp[Op.unary],wQ⟩
 ·cases h
end
section
variable{E:Env}{ad:b'}{ab:b8}{H:aa}{w:World}
def SO{n:Nat}{x v:U}{y:Value}(h:wA n x=some v)(r:a6 ad ab H x y):∃a:Addr,y=.pointer (some a)∧a6 ad ab H v (.pointer (some (a.add n))):=by
 unfold wA at h;split at h
 ·rename_i cells off;cases h;cases iA r with
  |gd cells ai b L9 cs elem bj dA cc j I=>refine⟨_,rfl,?_⟩;rw[lb,tB];exact .i _ _ (.gd cells (off+n) b L9 cs elem bj dA cc j I)
 ·rename_i c g hk k;cases h;cases r with
  |ptr c g r k v ag aj aR aI ax au aP=>
   obtain⟨a,rfl⟩:=au;refine⟨a,rfl,.ptr c g hk (k+n) _ ag ?_ ?_ ?_ ?_ ⟨_,rfl⟩ aP⟩
   ·intro cells aO;obtain⟨b,m,j,I⟩:=aj _ aO;cases I;exact⟨b,m,j,by rw[lb]⟩
   ·intro aw rows ex aO;obtain⟨b,m,j,I⟩:=aR _ _ _ aO;cases I;exact⟨b,m,j,by rw[lb,tB]⟩
   ·intro aw rows ex row aO bX;cases aI _ _ _ _ aO bX with
    |gd cells ai b L9 cs elem bj dA cc j I=>rw[lb,tB];exact .gd row (k+n) b L9 cs elem bj dA cc j I
   ·intro s p aO;obtain⟨b,m,j,I⟩:=ax _ _ aO;cases I;exact⟨b,m,j,by rw[lb]⟩
 ·rename_i c g s hk i k;cases h;cases r with
  |x k v h aI=>obtain⟨j,⟨a,rfl⟩,av⟩:=h;refine⟨a,rfl,.x _ _ ⟨j,⟨_,rfl⟩,λ z aU dD rows aO=>⟨(av z aU dD rows aO).1,λ ao aH bP ah ax=>?_⟩⟩ (.ne nofun)⟩;obtain⟨b,m,cm,cy⟩:=(av z aU dD rows aO).2 ao aH bP ah ax;cases cy;exact⟨b,m,cm,by rw[lb,tB]⟩
 ·cases h
def aiQ{t f:Nat}{x v:U}{y:Value}{off d' z:Nat}(aI:AW E.P t f=some (off,d'))(bf:fG E.P d'=some z)(au:0<z)
  (h:wA off x=some v)(r:a6 ad ab H x y):∃u,(Instr.fieldAt t y f).run E.P w=.ok u w∧a6 ad ab H v u:=by
 obtain⟨eI,fd,hu,wZ,rfl,rfl⟩:=SA aI;obtain⟨a,rfl,ah⟩:=SO h r;refine⟨_,?_,ah⟩;have HB:¬z=0:=R;simp[Instr.fieldAt,run_underlying hu,wZ,yL,fieldPlace,(gG bf w).1,HB]
def SP{aw:Nat}{rows:List (List aC)}{ex:Bool}{y:Value}(h:dl ad (.sl aw rows ex) y){n:Nat}{row:List aC}(ah:rows[n]?=some row):
  ∃b off cap,y=.slice (some ⟨b,off,none⟩) rows.length cap∧dl ad (.gd row 0) (.pointer (some ⟨b,off+n*aw,none⟩)):=by
 cases h with
 |nil=>simp at ah
 |sl aw rows ex b off cap cs elem bj dA cc ag ak al j I=>refine⟨b,off,cap,rfl,?_⟩;have:=dl.gd (ad:=ad) row 0 b (off+n*aw) cs elem bj (dA n) cc (λ k a aA=>j n row k a ah aA) (λ k a aA=>I n row k a ah aA);simpa using this
def aiR{t e:TypeId}{z:Nat}{n:Int}{q:cN}{k:IntKind}{v:U}{y:Value}(aR:e0 E.P t=some e)(bf:fG E.P e=some z)(h:uF H z n q=some v)(ap:b5 E ad ab H w)(r:kO ab H q y):
  ∃u,(yS t y (.int k n)).run E.P w=.ok u w∧a6 ad ab H v u:=by
 cases q with
 |e=>cases h
 |p=>cases h
 |d c g off len=>
  obtain⟨ag,_,ak⟩:=r;simp only[uF]at h;unfold Hj at h;split at h
  ·rename_i c_ aU dD rows aO;split at h
   ·rename_i aE;obtain⟨hp,ol,rfl,rfl⟩:=aE;cases h;obtain⟨hle,a,cap,rfl,fi⟩:=(ak _ _ _ _ aO).2 rfl;rcases fi with⟨he,_⟩|⟨b,m,he,_,_,aA⟩
    ·exfalso;rcases ap.b6 _ _ aO with⟨_,ba⟩|⟨b,_,_,_,ba,_⟩
     ·subst ba;simp at hle;omega
     ·rw[he]at ba;cases ba
    ·rcases aA with rfl|⟨aW,_⟩
     ·refine⟨.pointer (some ⟨b,off+n.toNat*1,none⟩),by simp[yS,asIntOf,run_underlying (h3 aR),hp,ol,(gG bf w).1,lb],?_⟩;rw[HC];refine .x _ _ ⟨ag,⟨_,rfl⟩,λ z2 g2 s2 c7 om=>?_⟩ (.ne nofun);rw[aO]at om;cases om;exact⟨cL _,λ _=>⟨b,m,he,rfl⟩⟩
     ·omega
   ·cases h
  ·cases h
 |h c g s r=>
  obtain⟨ag,_,ak⟩:=r;simp only[uF]at h;unfold DU at h;split at h
  ·rename_i c_ aU dD rows aO;split at h
   ·rename_i aE;obtain⟨rfl,rfl,rfl,hp⟩:=aE;split at h
    ·rename_i bP ah;split at h
     ·rename_i be;cases h;rcases(ak _ _ _ _ aO).2 rfl rfl _ ah with⟨rfl,_⟩|⟨b,m,he,cap,rfl,gI,ff⟩
      ·simp at be
      ·refine⟨.pointer (some ⟨b,0+n.toNat*z,none⟩),by simp[yS,asIntOf,run_underlying (h3 aR),hp,show n<bP.length by omega,(gG bf w).1,lb],?_⟩;refine .x _ _ ⟨ag,⟨_,rfl⟩,λ z2 g2 s2 c7 om=>?_⟩ (.ne nofun);rw[aO]at om;cases om;refine⟨.inr ⟨rfl,cL _⟩,λ _ _ aQj iC _=>?_⟩;exact⟨b,m,he,by rw[cp,e7]⟩
     ·cases h
    ·cases h
   ·cases h
  ·cases h
def aiS{t:TypeId}{x jv v:U}{y ac:Value}(h:AX E H t x jv=some v)(ap:b5 E ad ab H w)(r:a6 ad ab H x y)(HD:a6 ad ab H jv ac):
  ∃u,(yS t y ac).run E.P w=.ok u w∧a6 ad ab H v u:=by
 unfold AX at h;split at h
 ·rename_i k n;rw[fv HD];split at h
  ·rename_i len e _ aA;split at h
   ·rename_i z bf;split at h
    ·rename_i aE;obtain⟨a,rfl,ah⟩:=SO h r;refine⟨_,?_,ah⟩;simp[yS,asIntOf,run_underlying (Hu aA),yL,aE,(gG bf w).1]
    ·cases h
   ·cases h
  ·rename_i e _ aR;split at h
   ·rename_i z aw rows ex bf;split at h
    ·rename_i aE;obtain⟨hp,rfl⟩:=aE;split at h
     ·rename_i row bX;cases h;obtain⟨b,off,cap,rfl,au⟩:=SP (iA r) bX;have be:n<rows.length:=by have:=(bF.1 bX).1;omega
      refine⟨_,?_,.i _ _ au⟩;simp[yS,asIntOf,run_underlying (h3 aR),hp,be,(gG bf w).1,lb]
     ·cases h
    ·cases h
   ·rename_i z c g off len bf;split at h
    ·rename_i aw aU rows ex aO;split at h
     ·rename_i aE;obtain⟨hp,ol,rfl,rfl⟩:=aE;cases h;cases r with
      |ref c g off len v ag o9 aI au aP=>
       obtain⟨hle,a,cap,rfl,fi⟩:=o9 _ _ _ aO;rcases fi with⟨he,_⟩|⟨b,m,he,_,_,aA⟩
       ·exfalso;obtain⟨_,_,av⟩:=ap.b6 _ _ aO;rcases av with⟨_,ba⟩|⟨b,_,_,_,ba,_⟩
        ·subst ba;simp at hle;omega
        ·rw[he]at ba;cases ba
       ·rcases aA with rfl|⟨aW,_⟩
        ·refine⟨.pointer (some ⟨b,off*aw+n.toNat*aw,none⟩),by simp[yS,asIntOf,run_underlying (h3 aR),hp,ol,(gG bf w).1,lb],?_⟩;refine .ptr c g (off+n.toNat) 0 _ ag ?_ ?_ ?_ ?_ ⟨_,rfl⟩ aP
         ·intro cells h;rw[aO]at h;cases h
         ·intro h2 c7 hB h;rw[aO]at h;cases h;exact⟨b,m,he,by rw[hc,e7]⟩
         ·intro _ _ _ _ h;rw[aO]at h;cases h
         ·intro _ _ h;rw[aO]at h;cases h
        ·omega
     ·cases h
    ·rename_i aw aU rows ex aO;split at h
     ·rename_i aE;obtain⟨hp,ol,rfl,rfl⟩:=aE;cases h;cases r with
      |ref c g off len v ag o9 aI au aP=>
       obtain⟨hle,aiT⟩:=aI _ _ _ aO;have be:off+n.toNat<rows.length:=R;have bX:((rows.drop off).take len)[n.toNat]?=some rows[off+n.toNat]:=by rw[nJ,if_pos R,rQ,eX be]
       obtain⟨b,ai,cap,rfl,Bh⟩:=SP aiT bX;have hlen:((rows.drop off).take len).length=len:=by simp;omega
       rw[hlen]at*;refine⟨.pointer (some ⟨b,ai+n.toNat*aw,none⟩),by simp[yS,asIntOf,run_underlying (h3 aR),hp,ol,(gG bf w).1,lb],?_⟩;refine .ptr c g (off+n.toNat) 0 _ ag ?_ ?_ ?_ ?_ ⟨_,rfl⟩ aP
       ·intro cells h;rw[aO]at h;cases h
       ·intro h2 c7 hB h;rw[aO]at h;cases h
       ·intro h2 c7 hB row h ah;rw[aO]at h;cases h;rw[eX be]at ah;cases ah;exact Bh
       ·intro _ _ h;rw[aO]at h;cases h
     ·cases h
    ·cases h
   ·rename_i z dx bf;cases r with
    |x k v ah aI=>exact aiR aR bf h ap ah
   ·cases h
  ·cases h
 ·cases h
def SQ{cells m:List U}{cs:Array Value}{off z:Nat}(al:cs.size=cells.length)(ah:∀(k:Nat) (a:U),cells[k]?=some a→a6 ad ab H a (cs.getD k undef))
  (h:take cells off z=some m):a6 ad ab H (.agg m) (.agg (cs.extract off (off+z))):=by
 obtain⟨j,I⟩:=SC h;have hle:off+z≤cells.length:=by
  unfold take at h;split at h
  ·assumption
  ·cases h
 refine .agg _ _ (by simp;omega) λ k a aA=>?_
 have ay:k<z:=by rw[←j];exact(bF.1 aA).1
 obtain⟨bW,av,ba⟩:=I k ay;rw[aA]at av;cases av;have:=ah _ _ ba;have e:(cs.extract off (off+z)).getD k undef=cs.getD (off+k) undef:=by simp only[di,Array.getElem?_extract];rw[if_pos R]
 rw[e];exact this
def aiU{t:TypeId}{x jv v:U}{y ac:Value}(h:AY E t x jv=some v)(r:a6 ad ab H x y)(HD:a6 ad ab H jv ac):
  ∃u,(Instr.index t y ac).run E.P w=.ok u w∧a6 ad ab H v u:=by
 unfold AY at h;split at h
 ·rename_i l k n;rw[fv HD,p0 r];split at h
  ·rename_i aE;simp only[c0]at h;obtain⟨b,aj,rfl⟩:=h;refine⟨.int .u8 b.toNat,?_,l'⟩;have:(⟨⟨l⟩⟩:ByteArray)[n.toNat]?=some b:=by
    have be:=(bF.1 aj).1;have bh:=(bF.1 aj).2;rw[getElem?_pos _ _ (by simpa[size_mk]using be)]
    congr 1
   simp[Instr.index,asIntOf,run_underlying (rO aE.2),aE.1,this]
  ·cases h
 ·rename_i cells k n;rw[fv HD];obtain⟨cs,rfl,al,ah⟩:=uS r;split at h
  ·rename_i len e aA;split at h
   ·rename_i z bf nL;split at h
    ·rename_i aE;simp only[c0]at h;obtain⟨m,hm,rfl⟩:=h;refine⟨_,?_,SQ al ah hm⟩;simp[Instr.index,asIntOf,run_underlying (Hu aA),aE,(gG bf w).1,part,wR nL]
    ·cases h
   ·rename_i z bf nL;split at h
    ·rename_i aE;have be:=(bF.1 h).1;refine⟨_,?_,ah _ _ h⟩;simp only[Instr.index,asIntOf,dT,eE,eg,run_underlying (Hu aA),aE,if_true,Sem.run_ite,(gG bf w).1,part,wR nL,and_self];simp only[fF,if_false];rw[getD_eq cs _ R];simp
    ·cases h
   ·cases h
  ·cases h
 ·cases h
def aiV{t:TypeId}{f:Nat}{x v:U}{y:Value}(h:Hk E t x f=some v)(r:a6 ad ab H x y):
  ∃u,(Instr.field t y f).run E.P w=.ok u w∧a6 ad ab H v u:=by
 unfold Hk at h;split at h
 ·rename_i cells off d' aI;obtain⟨eI,fd,hu,wZ,rfl,rfl⟩:=SA aI;obtain⟨cs,rfl,al,ah⟩:=uS r;split at h
  ·rename_i z bf nL;simp only[c0]at h;obtain⟨m,hm,rfl⟩:=h;exact⟨_,by simp[Instr.field,run_underlying hu,wZ,asAgg,part,wR nL,(gG bf w).1],SQ al ah hm⟩
  ·rename_i z bf nL;have be:=(bF.1 h).1;refine⟨_,?_,ah _ _ h⟩;simp only[Instr.field,dT,run_underlying hu,eg,wZ,asAgg,eE,part,wR nL,fF,if_false,Sem.run_ite];rw[getD_eq cs _ R];simp
  ·cases h
 ·cases h
end
section
variable{E:Env}{ad:b'}{ab:b8}{H:aa}{w:World}
inductive tC (ad:b') (ab:b8) (H:aa):Option U→Option Value→Prop
 |none:tC ad ab H none none
 |some (a:U) (v:Value) (h:a6 ad ab H a v):tC ad ab H (some a) (some v)
def Bl{J:Fr}{a:Act}(ap:b5 E ad ab H w)(aI:eW ad ab H J a.tmps)(x:Option Operand):tC ad ab H (x.map (bn E J)) (x.map a.eval):=by
 cases x with
 |none=>exact .none
 |some x=>exact .some _ _ (eD ap aI x)
def uU{P:Program}{d l:Nat}{ai:U}{v:Value}(h:fP d (some ai)=some l)(r:a6 ad ab H ai v)(y:Nat)(code:BoundsCode)(al:l≤y):(Instr.sliceBound v y code).run P w=.ok l w:=by
 unfold fP at h;split at h
 ·rename_i h1;cases h1
 ·rename_i k n h1;cases h1;split at h
  ·rename_i aE;cases h;rw[fv r];have:n≤y:=R;simp[Instr.sliceBound,asIntOf,aE,this]
  ·cases h
 ·cases h
def Ej{P:Program}{Bm:Bool}{len cap l h:Nat}{bS ax:Option U}{w0 mb:Option Value}(mc:fP 0 bS=some l)(mK:fP len ax=some h)
  (ej:tC ad ab H bS w0)(qJ:tC ad ab H ax mb)(Ek:l≤h)(ag:h≤cap):
  (yT Bm len cap w0 mb none).run P w=.ok (l,h,cap) w:=by
 cases ej with
 |none=>
  simp only[fP,bg]at mc;cases qJ with
  |none=>simp only[fP,bg]at mK;simp[yT,mc,mK]
  |some a v r=>simp[yT,mc,uU mK r _ _ ag]
 |some b u s=>
  cases qJ with
  |none=>simp only[fP,bg]at mK;subst mK;simp[yT,uU mc s _ _ Ek]
  |some a v r=>simp[yT,uU mK r _ _ ag,uU mc s _ _ Ek]
def L_{P:Program}{len cap l h:Nat}{bS ax:Option U}{m:U}{w0 mb:Option Value}{bZ:Value}(mc:fP 0 bS=some l)(mK:fP len ax=some h)(hm:fP 0 (some m)=some h)
  (ej:tC ad ab H bS w0)(qJ:tC ad ab H ax mb)(qK:a6 ad ab H m bZ)(Ek:l≤h)(ag:h≤cap)(aE:ax.isSome=true):
  (yT true len cap w0 mb (some bZ)).run P w=.ok (l,h,h) w:=by
 cases qJ with
 |none=>cases aE
 |some a v r=>
  cases ej with
  |none=>simp only[fP,bg]at mc;simp[yT,mc,uU hm qK _ _ ag,uU mK r _ _ (cL h)]
  |some b u s=>simp[yT,uU hm qK _ _ ag,uU mK r _ _ (cL h),uU mc s _ _ Ek]
def extract_mk(s:List UInt8)(l h:Nat):(⟨⟨s⟩⟩:ByteArray).extract l h=⟨⟨(s.drop l).take (h-l)⟩⟩:=by apply ByteArray.ext;simp only[ByteArray.data_extract];apply Array.ext';simp[List.extract_eq_take_drop]
def HE{aw l h m:Nat}{rows:List (List aC)}{ex fY:Bool}{a:Option Addr}{n cap size:Nat}(r:dl ad (.sl aw rows ex) (.slice a n cap))(Ek:l≤h)(aE:h≤rows.length)(hm:h≤m)(aQk:m≤cap)
  (eu:rows=[]∨size=aw)(hex:fY=true→m=h∨(ex=true∧h=rows.length∧m=cap)):
  dl ad (.sl aw ((rows.drop l).take (h-l)) fY) (.slice (if m=l then a else a.map (·.add (l*size))) (h-l) (m-l)):=by
 have SR:fY=true→m=h:=by
  intro he;rcases hex he with j|⟨j,I,av⟩
  ·exact j
  ·cases r with
   |nil aw ex a cap ak=>have:=ak j;omega
   |sl aw rows ex b off cap cs elem bj dA cc ag ak ah ba bs=>have:=ak j;omega
 by_cases aN:h=l
 ·subst aN;have:(rows.drop h).take (h-h)=[]:=by simp
  rw[this,rR];exact .nil _ _ _ _ (λ he=>by have:=SR he;omega)
 ·have al:l<h:=R;have gh:m≠l:=R;have hlen:((rows.drop l).take (h-l)).length=h-l:=by simp;omega
  cases r with
  |nil=>simp at aE;omega
  |sl aw rows ex b off cap cs elem bj dA cc ag ak ah j I=>
   have yU:size=aw:=eu.elim (λ e=>by subst e;simp at aE;omega) id;subst yU;rw[if_neg gh];have gt:∀(i:Nat) (r:List aC),((rows.drop l).take (h-l))[i]?=some r→rows[l+i]?=some r:=by
    intro i r ax;rw[nJ]at ax;split at ax
    ·rwa [rQ]at ax
    ·cases ax
   have:=dl.sl (ad:=ad) size ((rows.drop l).take (h-l)) fY b (off+l*size) (m-l) cs elem bj (λ i k=>dA (l+i) k) cc R (λ he=>by have:=SR he;omega)
    (λ i r ax=>ah _ _ (gt i r ax))
    (λ i r k a ax aA=>by have:=j _ _ _ _ (gt i r ax) aA;rw[←this];congr 1;rw[hc];omega)
    (λ i r k a ax aA=>I _ _ _ _ (gt i r ax) aA)
   rw[hlen]at this;simpa[lb]using this
def SS{t:TypeId}{x v:U}{y:Value}{bS ax kI:Option U}{w0 mb ST:Option Value}(h:jT E H t x bS ax kI=some v)(ap:b5 E ad ab H w)(r:a6 ad ab H x y)
  (ej:tC ad ab H bS w0)(qJ:tC ad ab H ax mb)(qK:tC ad ab H kI ST):
  ∃u,(uV t y w0 mb ST).run E.P w=.ok u w∧a6 ad ab H v u:=by
 unfold jT at h;split at h
 ·cases h
 rename_i n hlen;split at h;rotate_left
 ·cases h
 rename_i l aN mc mK;split at h;rotate_left
 ·cases h
 rename_i hle;obtain⟨hQ,hK⟩:=hle;split at h
 ·rename_i s;split at h
  ·rename_i ag;cases h;rw[p0 r];cases qK with
   |some=>simp at ag
   |none=>simp only[o2,bg]at hlen;refine⟨.string ⟨⟨(s.drop l).take (aN-l)⟩⟩,?_,Be⟩;have hu:=rO ag.2;have aj:=Ej (P:=E.P) (w:=w) (Bm:=false) (cap:=(⟨⟨s⟩⟩:ByteArray).size) mc (by rw[←hlen]at mK;exact mK) ej qJ hQ (by rw[size_mk];omega);simp only[uV,dT,run_underlying hu,eg,yV,Option.isSome_none,fF,if_false,eE];rw[show(⟨⟨s⟩⟩:ByteArray).size=s.length from rfl]at aj⊢;simp[aj,extract_mk]
  ·cases h
 ·rename_i aw rows ex;split at h
  ·rename_i e aR;have hu:=h3 aR;simp only[o2,bg]at hlen;subst hlen;have lM:=iA r;have yW:∃a cap,y=.slice a rows.length cap∧rows.length≤cap:=by
    cases lM with
    |nil aw ex a cap ak=>exact⟨a,cap,rfl,by simp⟩
    |sl aw rows ex b off cap cs elem bj dA cc ag ak ah j I=>exact⟨_,cap,rfl,ag⟩
   obtain⟨a,cap,rfl,jZ⟩:=yW;split at h;rotate_left
   ·cases h
   rename_i size bf;have HF:=(gG bf w).1;split at h
   ·rename_i HG;split at h
    ·cases h;cases qK with
     |none=>
      have aj:=Ej (P:=E.P) (w:=w) (Bm:=true) (cap:=cap) mc mK ej qJ hQ R;refine⟨_,?_,.i _ _ (HE (m:=cap) (size:=size) lM hQ hK R (cL _) HG λ he=>?_)⟩
      ·simp[uV,run_underlying hu,yV,aj,HF]
      ·simp only[cR,decide_eq_true_eq]at he;exact .inr ⟨he.1,he.2,rfl⟩
    ·rename_i m;split at h
     ·rename_i bZ hm;split at h
      ·rename_i gB;cases h;obtain rfl:=gB.1;cases qK with
       |some bW hb hk=>have aj:=L_ (P:=E.P) (w:=w) (cap:=cap) mc mK hm ej qJ hk hQ R gB.2;refine⟨_,?_,.i _ _ (HE (m:=aN) (size:=size) lM hQ hK (cL _) R HG λ _=>.inl rfl)⟩;simp[uV,run_underlying hu,yV,aj,HF]
      ·cases h
     ·cases h
   ·cases h
  ·cases h
 ·rename_i c g off len;simp only[o2,bg]at hlen;subst hlen;split at h
  ·rename_i e aw aU rows ex aR aO;have hu:=h3 aR;split at h
   ·rename_i ag;obtain⟨rfl,bf⟩:=ag;cases r with
    |ref c g off len v ch o9 aI au aP=>
     obtain⟨hle,a,cap,rfl,fi⟩:=o9 _ _ _ aO;have jZ:len≤cap:=by
      rcases fi with⟨he,fZ⟩|⟨b,m,he,j,_,_⟩
      ·obtain⟨_,_,av⟩:=ap.b6 _ _ aO;rcases av with⟨_,ba⟩|⟨b,_,_,_,ba,_⟩
       ·subst ba;simp at hle;omega
       ·rw[he]at ba;cases ba
      ·omega
     split at h
     ·cases h;cases qK with
      |none=>
       have aj:=Ej (P:=E.P) (w:=w) (Bm:=true) (cap:=cap) mc mK ej qJ hQ R;refine⟨.slice (if cap=l then a else a.map (·.add (l*aw))) (aN-l) (cap-l),by simp[uV,run_underlying hu,yV,aj,(gG bf w).1],?_⟩;refine .ref c g (off+l) (aN-l) _ ch ?_ ?_ ⟨_,_,rfl⟩ aP
       ·intro h2 c7 hB h;rw[aO]at h;cases h;refine⟨R,_,_,rfl,?_⟩;rcases fi with⟨he,fZ⟩|⟨b,m,he,j,I,av⟩
        ·exact .inl ⟨he,R⟩
        ·refine .inr ⟨b,m,he,R,by rw[show off+l+(cap-l)=off+cap by omega];exact I,?_⟩;by_cases w1:cap=l
         ·right;omega
         ·rw[if_neg w1];rcases av with rfl|⟨ba,bs⟩
          ·left;simp[lb,hc]
          ·right;omega
       ·intro _ _ _ h;rw[aO]at h;cases h
     ·rename_i aQl;split at h
      ·rename_i bZ hm;split at h
       ·rename_i gB;cases h;obtain rfl:=gB.1;cases qK with
        |some bW hb hk=>
         have aj:=L_ (P:=E.P) (w:=w) (cap:=cap) mc mK hm ej qJ hk hQ R gB.2;refine⟨.slice (if aN=l then a else a.map (·.add (l*aw))) (aN-l) (aN-l),by simp[uV,run_underlying hu,yV,aj,(gG bf w).1],?_⟩;refine .ref c g (off+l) (aN-l) _ ch ?_ ?_ ⟨_,_,rfl⟩ aP
         ·intro h2 c7 hB h;rw[aO]at h;cases h;refine⟨R,_,_,rfl,?_⟩;rcases fi with⟨he,fZ⟩|⟨b,m,he,j,I,av⟩
          ·exact .inl ⟨he,R⟩
          ·refine .inr ⟨b,m,he,R,rN (jX _ R) I,?_⟩;by_cases w1:aN=l
           ·right;omega
           ·rw[if_neg w1];rcases av with rfl|⟨ba,bs⟩
            ·left;simp[lb,hc]
            ·right;omega
         ·intro _ _ _ h;rw[aO]at h;cases h
       ·cases h
      ·cases h
   ·cases h
  ·rename_i e aw aU rows ex aR aO;have hu:=h3 aR;split at h
   ·rename_i ag;obtain⟨rfl,bf,aQm⟩:=ag;cases r with
    |ref c g off len v ch o9 aI au aP=>
     obtain⟨hle,lM⟩:=aI _ _ _ aO;have Bn:((rows.drop off).take len).length=len:=by simp;omega
     have yW:∃a cap,y=.slice a len cap∧len≤cap:=by
      cases ak:y with
      |slice a n cap=>
       rw[ak]at lM;have:n=len∧len≤cap:=by
        generalize aQn:(rows.drop off).take len=fQ at lM Bn;cases lM with
        |nil aw ex a cap ak=>simp at Bn;omega
        |sl aw rows ex b off cap cs elem bj dA cc ag ak ah j I=>omega
       exact⟨a,cap,by rw[this.1],this.2⟩
      |_=>obtain⟨a,m,aW⟩:=au;rw[ak]at aW;cases aW
     obtain⟨a,cap,rfl,jZ⟩:=yW;have aH:(((rows.drop off).take len).drop l).take (aN-l)=(rows.drop (off+l)).take (aN-l):=by
      rw[List.drop_take,List.take_take,HH]
      congr 1;omega
     split at h
     ·cases h;cases qK with
      |none=>
       have aj:=Ej (P:=E.P) (w:=w) (Bm:=true) (cap:=cap) mc mK ej qJ hQ R;have au:=HE (m:=cap) (size:=aw) (fY:=ex &&decide (off+aN=rows.length)) lM hQ R R (cL _) (.inr rfl) λ he=>by simp only[cR,decide_eq_true_eq]at he;refine .inr ⟨?_,R,rfl⟩;simp only[cR,decide_eq_true_eq];exact⟨he.1,R⟩
       rw[aH]at au;exact⟨_,by simp[uV,run_underlying hu,yV,aj,(gG bf w).1],.i _ _ au⟩
     ·rename_i m;split at h
      ·rename_i bZ hm;split at h
       ·rename_i gB;cases h;obtain rfl:=gB.1;cases qK with
        |some bW hb hk=>
         have aj:=L_ (P:=E.P) (w:=w) (cap:=cap) mc mK hm ej qJ hk hQ R gB.2;have au:=HE (m:=aN) (size:=aw) (fY:=true) lM hQ R (cL _) R (.inr rfl) λ _=>.inl rfl
         rw[aH]at au;exact⟨_,by simp[uV,run_underlying hu,yV,aj,(gG bf w).1],.i _ _ au⟩
       ·cases h
      ·cases h
   ·cases h
  ·cases h
 ·rename_i c g off len;simp only[o2,bg]at hlen;subst hlen;split at h;rotate_left
  ·cases h
  rename_i aiW;unfold LO at h;split at h;rotate_left
  ·cases h
  rename_i z aU s rows eu aO;split at h;rotate_left
  ·cases h
  rename_i aP;subst aP;cases h;cases qK with
  |some=>simp at aiW
  |none=>
   simp only[Bo]at eu;obtain⟨e,aiX,bf⟩:=eu;have hu:=h3 aiX;cases r with
   |x k v ah aI=>
    obtain⟨ch,_,ak⟩:=ah;obtain⟨hle,a,cap,rfl,fi⟩:=(ak _ _ _ _ aO).2 rfl;have jZ:len≤cap:=by
     rcases fi with⟨he,fZ⟩|⟨b,m,he,j,_,_⟩
     ·rcases ap.b6 _ _ aO with⟨_,ba⟩|⟨b,_,_,_,ba,_⟩
      ·subst ba;simp at hle;omega
      ·rw[he]at ba;cases ba
     ·omega
    have aj:=Ej (P:=E.P) (w:=w) (Bm:=true) (cap:=cap) mc mK ej qJ hQ R;refine⟨.slice (if cap=l then a else a.map (·.add (l*1))) (aN-l) (cap-l),by simp[uV,run_underlying hu,yV,aj,(gG bf w).1],?_⟩;refine .x _ _ ⟨ch,⟨_,_,rfl⟩,λ z2 g2 s2 c7 om=>?_⟩ (.az aO);rw[aO]at om;cases om;refine⟨cL _,λ _=>⟨R,_,_,rfl,?_⟩⟩;rcases fi with⟨he,fZ⟩|⟨b,m,he,j,I,av⟩
    ·exact .inl ⟨he,R⟩
    ·refine .inr ⟨b,m,he,R,R,?_⟩;by_cases w1:cap=l
     ·right;omega
     ·rw[if_neg w1];rcases av with rfl|⟨ba,bs⟩
      ·left;simp[lb]
      ·right;omega
 ·cases h
def El{aw:Nat}{rows:List (List aC)}{ex:Bool}{y:Value}(h:dl ad (.sl aw rows ex) y):∃a cap,y=.slice a rows.length cap:=by
 cases h with
 |nil=>exact⟨_,_,rfl⟩
 |sl=>exact⟨_,_,rfl⟩
def L'{c g off len:Nat}{y:Value}(r:a6 ad ab H (.ref c g off len) y):∃a cap,y=.slice a len cap:=by cases r;assumption
def aiY{s d:TypeId}{x v:U}{y:Value}(h:mD E s d x=some v)(r:a6 ad ab H x y):∃u,(convert s d y).run E.P w=.ok u w∧a6 ad ab H v u:=by
 unfold mD at h;split at h
 ·rename_i k n;rw[fv r];split at h
  ·rename_i b dx aj ay;cases h;have aR:∃cK,E.P.underlying s=some cK:=by simp only[kh,c0]at aj;obtain⟨cK,lL,_⟩:=aj;exact⟨cK,lL⟩
   obtain⟨cK,lL⟩:=aR;exact⟨_,by simp[convert,run_underlying lL,run_underlying (Bf ay),Conv.intToInt],l'⟩
  ·rename_i b aj ay;split at h
   ·rename_i aM;cases h;have aR:∃cK,E.P.underlying s=some cK:=by simp only[kh,c0]at aj;obtain⟨cK,lL,_⟩:=aj;exact⟨cK,lL⟩
    obtain⟨cK,lL⟩:=aR;exact⟨.string (Hl n),by simp[convert,run_underlying lL,run_underlying (rO aM),Conv.intToString],by
     have:=Be (ad:=ad) (ab:=ab) (H:=H) (l:=(Hl n).data.toList);exact this⟩
   ·cases h
  ·cases h
 ·split at h
  ·rename_i ag;cases h;rw[p0 r];exact⟨_,by simp[convert,run_underlying (rO ag.1),run_underlying (rO ag.2)],Be⟩
  ·cases h
 ·cases h
def aiZ{a b v:U}{x y:Value}(P:Program)(h:DV a b=some v)(e8:a6 ad ab H a x)(h4:a6 ad ab H b y):∃u,(Builtin.max2 x y).run P w=.ok u w∧a6 ad ab H v u:=by
 unfold DV at h;split at h
 ·rename_i k a dx b;cases h;rw[fv e8,fv h4];refine⟨.int k (max a b),?_,l'⟩;have:(if b>a then b else a)=max a b:=R;simp only[Builtin.max2,eE,this]
 ·cases h
def ai0{a b v:U}{x y:Value}(P:Program)(h:DW a b=some v)(e8:a6 ad ab H a x)(h4:a6 ad ab H b y):∃u,(Builtin.min2 x y).run P w=.ok u w∧a6 ad ab H v u:=by
 unfold DW at h;split at h
 ·rename_i k a dx b;cases h;rw[fv e8,fv h4];refine⟨.int k (min a b),?_,l'⟩;have:(if b<a then b else a)=min a b:=R;simp only[Builtin.min2,eE,this]
 ·cases h
def SU(f:U→U→Option U):∀l:List U,l.foldl (λ acc x=>match acc with|some y=>f y x|none=>none) none=none
 |[]=>rfl
 |_::l=>SU f l
def SV(P:Program){f:U→U→Option U}{g:Value→Value→Sem Value}(HI:∀{a b v:U} {x y:Value},f a b=some v→a6 ad ab H a x→a6 ad ab H b y→∃u,(g x y).run P w=.ok u w∧a6 ad ab H v u):
  ∀(l:List U) (m:List Value) (a v:U) (x:Value),l.length=m.length→(∀(k:Nat) (b:U) (y:Value),l[k]?=some b→m[k]?=some y→a6 ad ab H b y)→a6 ad ab H a x→
   l.foldl (λ acc x=>match acc with|some y=>f y x|none=>none) (some a)=some v→∃u,(m.foldlM g x).run P w=.ok u w∧a6 ad ab H v u
 |[],[],a,v,x,_,_,e8,h=>by simp at h;subst h;exact⟨x,by simp,e8⟩
 |[],_::_,_,_,_,h,_,_,_=>by simp at h
 |_::_,[],_,_,_,h,_,_,_=>by simp at h
 |b::l,y::m,a,v,x,al,ah,e8,h=>by
  simp only[yX]at h;cases aI:f a b with
  |none=>rw[aI,SU]at h;cases h
  |some c=>rw[aI]at h;obtain⟨u,hu,ai1⟩:=HI aI e8 (ah 0 b y rfl rfl);obtain⟨z,bf,lf⟩:=SV P HI l m c v u (by simpa using al) (λ k b y j I=>ah (k+1) b y (by simpa using j) (by simpa using I)) ai1 h;exact⟨z,by simp[List.foldlM_cons,hu,bf],lf⟩
def tD{a:U}{y:Value}(r:a6 ad ab H a y)(b9:(cw a).all one=true):
  y.cells.size=(cw a).length∧(∀(k:Nat) (c:U),(cw a)[k]?=some c→a6 ad ab H c (y.cells.getD k undef))∧∀k,k<y.cells.size→(y.cells.getD k undef).oneCell'=true:=by
 have key:∀a,one a=true→a6 ad ab H a y→(y.cells.size=1∧(∀(k:Nat) (c:U),[a][k]?=some c→a6 ad ab H c (y.cells.getD k undef))∧∀k,k<y.cells.size→(y.cells.getD k undef).oneCell'=true):=by
  intro a j r;have aY:=Ht r j;have:y.cells=#[y]:=by cases y<;>simp_all [tE,Ma]
  rw[this];refine⟨rfl,λ k c ag=>?_,λ k ay=>?_⟩
  ·cases k with
   |zero=>simp at ag;subst ag;simpa using r
   |succ k=>simp at ag
  ·simp at ay;subst ay;simpa using aY
 cases a with
 |agg cells=>obtain⟨cs,rfl,j,I⟩:=uS r;refine⟨j,I,λ k ay=>?_⟩;simp only[tE]at ay;have be:k<cells.length:=R;have av:=I k cells[k] (by simp[be]);simp only[cw,oo]at b9;exact Ht av (b9 _ (mL be))
 |dead=>simp[cw,one]at b9
 |bd=>simp[cw,one]at b9
 |i x=>exact key _ (by simpa[cw]using b9) r
 |ref=>exact key _ (by simpa[cw]using b9) r
 |ptr=>exact key _ (by simpa[cw]using b9) r
 |dv=>exact key _ (by simpa[cw]using b9) r
 |x=>exact key _ (by simpa[cw]using b9) r
 |aQ=>exact key _ (by simpa[cw]using b9) r
def tF(ad:b')(ab:b8)(H:aa)(cells:List U)(cs:Array Value):Prop:=cs.size=cells.length∧∀(k:Nat) (a:U),cells[k]?=some a→a6 ad ab H a (cs.getD k undef)
def SW(off:Nat):∀(vs:List Value) (ac:Nat) (cs:Array Value),off+ac+vs.length≤cs.size→
  ((vs.zipIdx ac).foldl (λ cs (p:Value×Nat)=>cs.setIfInBounds (off+p.2) p.1) cs).size=cs.size∧
  ∀k,((vs.zipIdx ac).foldl (λ cs (p:Value×Nat)=>cs.setIfInBounds (off+p.2) p.1) cs)[k]?=if off+ac≤k∧k<off+ac+vs.length then vs[k-(off+ac)]? else cs[k]?
 |[],ac,cs,_=>by simp;intro k j I;omega
 |v::vs,ac,cs,h=>by
  simp only[cQ]at h;simp only[List.zipIdx_cons,yX];obtain⟨j,I⟩:=SW off vs (ac+1) (cs.setIfInBounds (off+ac) v) (by rw[Array.size_setIfInBounds];omega);refine⟨by rw[j];simp,λ k=>?_⟩;rw[I];by_cases ay:k=off+ac
  ·subst ay;rw[if_neg R,if_pos (by constructor<;>simp)];have:off+ac<cs.size:=R;simp[this]
  ·by_cases ah:off+(ac+1)≤k∧k<off+(ac+1)+vs.length
   ·rw[if_pos ah,if_pos (by simp;omega)];rw[show k-(off+ac)=(k-(off+(ac+1)))+1 by omega];simp
   ·rw[if_neg ah,if_neg (by simp;omega)];rw[Array.getElem?_setIfInBounds_ne R]
def ai2(vs cs:Array Value)(off:Nat):vs.zipIdx.foldl (λ cs (c,ac)=>cs.setIfInBounds (off+ac) c) cs=(vs.toList.zipIdx 0).foldl (λ cs (p:Value×Nat)=>cs.setIfInBounds (off+p.2) p.1) cs:=by rw[←Array.foldl_toList,Array.toList_zipIdx]
def SX{l new:List U}{k ac:Nat}(h:k+new.length≤l.length):(o3 l k new)[ac]?=if k≤ac∧ac<k+new.length then new[ac-k]? else l[ac]?:=by
 unfold o3;by_cases j:ac<k
 ·rw[if_neg R,dU,ei (by simp;omega),nJ,if_pos j]
 ·by_cases I:ac<k+new.length
  ·rw[if_pos R,dU,hd (by simp;omega),ei (by simp;omega)]
   congr 1;simp;omega
  ·rw[if_neg R,dU,hd (by simp;omega),hd (by simp;omega),rQ]
   congr 1;simp;omega
def Mb{l new:List U}{k:Nat}(h:k+new.length≤l.length):(o3 l k new).length=l.length:=by unfold o3;simp;omega
def SY{cells:List U}{cs:Array Value}(ag:tF ad ab H cells cs){a:U}{y:Value}(r:a6 ad ab H a y)(b9:(cw a).all one=true){off:Nat}(hle:off+(cw a).length≤cells.length):
  tF ad ab H (o3 cells off (cw a)) (y.cells.zipIdx.foldl (λ cs (c,ac)=>cs.setIfInBounds (off+ac) c) cs):=by
 obtain⟨j,I,_⟩:=tD r b9;rw[ai2];obtain⟨av,ba⟩:=SW off y.cells.toList 0 cs (by simp;rw[ag.1,j];omega);refine⟨by rw[av,Mb hle,ag.1],λ k b aj=>?_⟩;rw[SX hle]at aj;rw[di,ba];simp only[e7,uW,j];split at aj
 ·rename_i ay;rw[if_pos ay];have:=I _ _ aj;rwa [di,←mH]at this
 ·rename_i ay;rw[if_neg ay];have:=ag.2 _ _ aj;rwa [di]at this
def Bp(ad:b')(ab:b8)(H:aa)(bk:List (Nat×U))(jz:List (Nat×Value)):Prop:=bk.length=jz.length∧∀(k:Nat) (p:Nat×U) (q:Nat×Value),bk[k]?=some p→jz[k]?=some q→p.1=q.1∧a6 ad ab H p.2 q.2
def Mc{z:Nat}:∀{bk:List (Nat×U)} {jz:List (Nat×Value)} {cells out:List U} {cs:Array Value},Bp ad ab H bk jz→tF ad ab H cells cs→fX z cells bk=some out→
  ∃cK,HJ (λ i=>some (i*z,z)) cs jz=some cK∧tF ad ab H out cK
 |[],[],cells,out,cs,_,ag,h=>by simp[fX]at h;subst h;exact⟨cs,rfl,ag⟩
 |[],_::_,_,_,_,au,_,_=>by have:=au.1;simp at this
 |_::_,[],_,_,_,au,_,_=>by have:=au.1;simp at this
 |(i,a)::bk,(ac,y)::jz,cells,out,cs,au,ag,h=>by
  simp only[fX]at h;split at h
  ·rename_i ay;obtain⟨Bq,fR,uX⟩:=ay;obtain⟨e,r⟩:=au.2 0 _ _ rfl rfl;simp only at e r;subst e;obtain⟨j,_,_⟩:=tD r uX;have Md:=SY ag r uX (off:=i*z) R;obtain⟨cK,I,av⟩:=Mc (z:=z) ⟨by have:=au.1;simpa using this,λ k p q ba bs=>au.2 (k+1) p q (by simpa using ba) (by simpa using bs)⟩ Md h;refine⟨cK,?_,av⟩;simp only[HJ];rw[if_neg]
   ·exact I
   ·simp only[w2,decide_eq_true_eq,not_or,ne_eq];rw[ag.1,j];omega
  ·cases h
def SZ{pl:List (Nat×Nat)}:∀{bk:List (Nat×U)} {jz:List (Nat×Value)} {cells out:List U} {cs:Array Value},Bp ad ab H bk jz→tF ad ab H cells cs→jw pl cells bk=some out→
  ∃cK,HJ (pl[·]?) cs jz=some cK∧tF ad ab H out cK
 |[],[],cells,out,cs,_,ag,h=>by simp[jw]at h;subst h;exact⟨cs,rfl,ag⟩
 |[],_::_,_,_,_,au,_,_=>by have:=au.1;simp at this
 |_::_,[],_,_,_,au,_,_=>by have:=au.1;simp at this
 |(i,a)::bk,(ac,y)::jz,cells,out,cs,au,ag,h=>by
  simp only[jw]at h;split at h
  ·rename_i off z w3;split at h
   ·rename_i ay;obtain⟨Bq,fR,uX⟩:=ay;obtain⟨e,r⟩:=au.2 0 _ _ rfl rfl;simp only at e r;subst e;obtain⟨j,_,_⟩:=tD r uX;have Md:=SY ag r uX (off:=off) R;obtain⟨cK,I,av⟩:=SZ (pl:=pl) ⟨by have:=au.1;simpa using this,λ k p q ba bs=>au.2 (k+1) p q (by simpa using ba) (by simpa using bs)⟩ Md h;refine⟨cK,?_,av⟩;simp only[HJ,w3];rw[if_neg]
    ·exact I
    ·simp only[w2,decide_eq_true_eq,not_or,ne_eq];rw[ag.1,j];omega
   ·cases h
  ·cases h
def w4{P:Program}{t:TypeId}{z:U}(h:kG P t=some z)(w:World):∃v,(zeroValue t).run P w=.ok v w∧z=jQ v:=by simp only[kG,c0,Bo]at h;obtain⟨v,⟨i,ax,bf⟩,rfl⟩:=h;exact⟨v,by simp[zeroValue,run_typeInfo w ax,bf],rfl⟩
def S0{P:Program}(w:World):∀{eI:List Field} {pl:List (Nat×Nat)},(eI.mapM λ f=>(fG P f.type).map λ z=>(f.offset,z))=some pl→
  (eI.mapM λ f=>(do pure (f.offset,←sizeOf f.type):Sem (Nat×Nat))).run P w=.ok pl w
 |[],pl,h=>by simp at h;subst h;simp
 |f::eI,pl,h=>by rw[Me]at h;simp only[bind,Bo,c0,pure,bg]at h;obtain⟨p,⟨z,bf,rfl⟩,aQo,w3,rfl⟩:=h;have a8:=S0 w w3;rw[Me];simp only[dT,(gG bf w).1,eg,eE]at a8⊢;rw[a8];simp
def ai3{t:TypeId}{bk:List (Nat×U)}{jz:Array (Nat×Value)}{v:U}(h:jU E t bk=some v)(au:Bp ad ab H bk jz.toList):∃u,(Instr.build t jz).run E.P w=.ok u w∧a6 ad ab H v u:=by
 unfold jU at h;split at h
 ·rename_i zero bf;obtain⟨dX,w5,sE⟩:=w4 bf w;have HK:a6 ad ab H (.agg zero) dX:=by rw[sE];exact sD dX
  obtain⟨lg,rfl,j,I⟩:=uS HK;have ag:tF ad ab H zero lg:=⟨j,I⟩;split at h
  ·rename_i n e aA;split at h
   ·rename_i z eu;simp only[c0]at h;obtain⟨out,Mf,rfl⟩:=h;obtain⟨cK,av,ba⟩:=Mc au ag Mf;refine⟨.agg cK,?_,.agg _ _ ba.1 ba.2⟩;simp[Instr.build,w5,run_underlying (Hu aA),(gG eu w).1,tE,av]
   ·cases h
  ·split at h
   ·rename_i pl w3;simp only[c0]at h;obtain⟨out,Mf,rfl⟩:=h;obtain⟨cK,av,ba⟩:=SZ au ag Mf;refine⟨.agg cK,?_,.agg _ _ ba.1 ba.2⟩;unfold Hh at w3;split at w3
    ·rename_i eI hu;have hm:=S0 w w3;have HL:(eI.mapM λ f=>(do pure (f.offset,←sizeOf f.type):Sem (Nat×Nat))).run E.P w=.ok pl.toArray w:=by rw[←Array.toArray_toList (xs:=eI),List.mapM_toArray,Sem.run_map,hm];rfl
     simp only[Instr.build,dT,w5,eg,run_underlying hu,tE];rw[HL];simp[av]
    ·cases w3
   ·cases h
 ·cases h
end
section
variable{E:Env}{ad:b'}{ab:b8}{H:aa}{w:World}
def S1{α:Type}{a:Array α}{x:α}(h:a.toList=[x]):a=#[x]:=by cases a;simp_all
def HM{α:Type}{a:Array α}{x y:α}(h:a.toList=[x,y]):a=#[x,y]:=by cases a;simp_all
def getD_map(f:Operand→Value)(l:Array Operand)(k:Nat)(h:k<l.size):(l.map f).getD k undef=f l[k]:=by simp[h]
def S2(P:Program){f:U→U→Option U}{g:Value→Value→Sem Value}(HI:∀{a b v:U} {x y:Value},f a b=some v→a6 ad ab H a x→a6 ad ab H b y→∃u,(g x y).run P w=.ok u w∧a6 ad ab H v u)
  (l:List U)(m:List Value)(v:U)(al:l.length=m.length)(ah:∀(k:Nat) (b:U) (y:Value),l[k]?=some b→m[k]?=some y→a6 ad ab H b y)(e:Sem Value)(h:rB f l=some v):
  ∃u,((match m with|[]=>e|x::rest=>rest.foldlM g x:Sem Value)).run P w=.ok u w∧a6 ad ab H v u:=by
 cases l with
 |nil=>simp[rB]at h
 |cons a l=>
  cases m with
  |nil=>simp at al
  |cons x m=>simp only[rB]at h;exact SV P HI l m a v x (by simpa using al) (λ k b y j I=>ah (k+1) b y (by simpa using j) (by simpa using I)) (ah 0 a x rfl rfl) h
def oh.mono{aL:b'}{aB:b8}{an:aa}{aq:World}{c:Nat}{x:Chunk}(h:oh ad ab H w c x)(o_:∀r,aB ⟨c,r⟩=ab ⟨c,r⟩)(cc:ad.le aL)(hm:e6 ad ab H aL aB an)
  (p4:∀r b n,ab ⟨c,r⟩=some (b,n)→aq.heap[b]?=w.heap[b]?):oh aL aB an aq c x:=by
 have he:aB c=ab c:=o_ 0;have hw:∀b n,ab c=some (b,n)→aq.heap[b]?=w.heap[b]?:=p4 0;cases x with
 |box cells=>obtain⟨b,cs,elem,bj,j,I,av,ba,bs⟩:=h;exact⟨b,cs,elem,bj,by rw[he];exact j,by rw[hw _ _ j];exact I,av,ba,λ k a aA=>hm _ _ (bs k a aA)⟩
 |sl aw g rows ex=>
  obtain⟨j,I,av⟩:=h;refine⟨λ e=>he.trans (j e),I,?_⟩;rcases av with⟨ba,bs⟩|⟨b,cs,elem,bj,ba,bs,dq,gn,gP,gp⟩
  ·exact .inl ⟨by rw[he];exact ba,bs⟩
  ·exact .inr ⟨b,cs,elem,bj,by rw[he];exact ba,by rw[hw _ _ ba];exact bs,dq,gn,gP,λ i r k a ax aA=>(gp i r k a ax aA).mono cc⟩
 |bj aw g rows ex=>exact(he.trans h:aB c=none)
 |iter s p=>obtain⟨b,j,I⟩:=h;exact⟨b,by rw[he];exact j,by rw[hw _ _ j];exact I⟩
 |map es=>obtain⟨b,hl,aJ,j,I,av⟩:=h;exact⟨b,hl,aJ,by rw[he];exact j,by rw[hw _ _ j];exact I,av.mono cc hm⟩
 |cY t cells=>obtain⟨b,cs,j,I,ba,bs⟩:=h;exact⟨b,cs,by rw[he];exact j,by rw[hw _ _ j];exact I,ba,λ k a aA=>hm _ _ (bs k a aA)⟩
 |ju t l=>obtain⟨b,cs,j,I,av⟩:=h;exact⟨b,cs,by rw[he];exact j,by rw[hw _ _ j];exact I,av⟩
 |gone=>exact(he.trans h:aB c=none)
 |fd=>exact(he.trans h:aB c=none)
 |az z g s rows=>
  rcases h with⟨j,I⟩|⟨b,cs,elem,bj,j,I,av,ba,bs⟩
  ·exact .inl ⟨by rw[he];exact j,I⟩
  ·exact .inr ⟨b,cs,elem,bj,by rw[he];exact j,by rw[hw _ _ j];exact I,av,ba,λ r y aY=>(bs r y aY).mono (o_ _) cc (p4 _)⟩
def ci(E:Env)(ad:b')(ab:b8)(H:aa)(w:World)(an:aa)(aq:World)(Q:b'→b8→Prop):Prop:=
 ∃aL aB,b5 E aL aB an aq∧Trans ad ab w aL aB aq∧e6 ad ab H aL aB an∧Q aL aB
def ci.refl{Q:b'→b8→Prop}(ap:b5 E ad ab H w)(h:Q ad ab):ci E ad ab H w H w Q:=⟨ad,ab,ap,Trans.refl _ _ _,e6.refl _ _ _,h⟩
def ci.imp{an:aa}{aq:World}{Q w6:b'→b8→Prop}(h:ci E ad ab H w an aq Q)(bm:∀aL aB,ad.le aL→e6 ad ab H aL aB an→Q aL aB→w6 aL aB):ci E ad ab H w an aq w6:=by obtain⟨aL,aB,j,I,av,ba⟩:=h;exact⟨aL,aB,j,I,av,bm _ _ I.dR av ba⟩
def HN{α:Type}{l:List α}{ai n i:Nat}{r:α}(h:((l.drop ai).take n)[i]?=some r):l[ai+i]?=some r∧i<n:=by
 rw[nJ]at h;split at h
 ·rename_i ax;rw[rQ]at h;exact⟨h,ax⟩
 ·cases h
def Mg{aL:b'}{aw:Nat}{rows:List (List aC)}{b:Nat}{cs:Array Value}{elem:TypeId}{bj:Nat×Nat}(cc:aL b=some (.cells cs elem bj))
  (ah:∀(i:Nat) (r:List aC),rows[i]?=some r→r.length=aw)(hle:rows.length*aw≤cs.size)
  (h:∀(i:Nat) (r:List aC) (k:Nat) (a:aC),rows[i]?=some r→r[k]?=some a→dl aL a (cs.getD (i*aw+k) undef)):
  (∀off len cap ex,off+len≤rows.length→len≤cap→(ex=true→cap=len)→dl aL (.sl aw ((rows.drop off).take len) ex) (.slice (some ⟨b,off*aw,none⟩) len cap))∧
  (∀r row k,rows[r]?=some row→dl aL (.gd row k) (.pointer (some ⟨b,r*aw+k,none⟩))):=by
 have be:∀(i:Nat) (r:List aC) (k:Nat) (a:aC),rows[i]?=some r→r[k]?=some a→i*aw+k<cs.size:=by intro i r k a ax aA;have j:=ah _ _ ax;have I:=(bF.1 ax).1;have av:=(bF.1 aA).1;have:(i+1)*aw≤rows.length*aw:=jX _ I;rw[hc]at this;omega
 constructor
 ·intro off len cap ex b9 ag ak;have hlen:((rows.drop off).take len).length=len:=by simp;omega
  have:=dl.sl (ad:=aL) aw ((rows.drop off).take len) ex b (off*aw) cap cs elem bj (λ i k=>cs.getD ((off+i)*aw+k) undef) cc R (λ he=>by rw[ak he,hlen])
   (λ i r ax=>ah _ _ (HN ax).1)
   (λ i r k a ax aA=>by
    have j:=(HN ax).1;rw[show off*aw+i*aw+k=(off+i)*aw+k by rw[hc]];exact getD_eq _ _ (be _ _ _ _ j aA))
   (λ i r k a ax aA=>h _ _ _ _ (HN ax).1 aA)
  rwa [hlen]at this
 ·intro r row k bX;exact .gd row k b (r*aw) cs elem bj (λ k=>cs.getD (r*aw+k) undef) cc (λ k a aA=>getD_eq _ _ (be _ _ _ _ bX aA)) (λ k a aA=>h _ _ _ _ bX aA)
def fx{H:aa}{c:Nat}{x y:Chunk}{d:Nat}(h:(H.set c x)[d]?=some y):(d=c∧y=x)∨(d≠c∧H[d]?=some y):=by
 by_cases aM:d=c
 ·subst aM;rw[List.getElem?_set_self']at h;cases aO:H[d]? with
  |none=>rw[aO]at h;cases h
  |some z=>rw[aO]at h;simp at h;exact .inl ⟨rfl,h.symm⟩
 ·rw[dw (a' aM)]at h;exact .inr ⟨aM,h⟩
def ai4{H:aa}{c:Nat}{x:Chunk}(h:H[c]?=some x):H.set c x=H:=by obtain⟨al,rfl⟩:=bF.1 h;exact Br al
def S3(ap:b5 E ad ab H w){c z g s r:Nat}{rows:List bT}{bP:List (List aC)}(aO:H[c]?=some (.az z g s rows))(ah:rows[r]?=some (.own bP)):
  ci E ad ab H w (H.set c (.az z g s (rows.set r (.dK (.sl z bP false))))) w λ aL _=>∀v,uP ab z c r bP v→dl aL (.sl z bP false) v:=by
 have ch:c<H.length:=(bF.1 aO).1;have fj:r<rows.length:=(bF.1 ah).1;have jA:∀(i:Nat) (y:bT),(rows.set r (.dK (.sl z bP false)))[i]?=some y→(i=r∧y=.dK (.sl z bP false))∨(i≠r∧rows[i]?=some y):=by
  intro i y ax;by_cases nj:i=r
  ·subst nj;rw[kl fj]at ax;cases ax;exact .inl ⟨rfl,rfl⟩
  ·rw[dw (a' nj)]at ax;exact .inr ⟨nj,ax⟩
 have kQ:=ap.b6 _ _ aO;rcases kQ with⟨_,aW⟩|⟨cT,w7,c6,Mh,HO,sG,Mi,Mj,Bs⟩
 ·subst aW;simp at ah
 obtain⟨ai5,fi⟩:=Bs _ _ ah;have fin:∀(aL:b') (aB:b8),ad.le aL→(∀i,i≠⟨c,r+1⟩→aB i=ab i)→(∀i b n,aB i=some (b,n)→ab i=some (b,n))→(∀b ai,aL b=some ai→w.heap[b]?=some ai)→(∀i b n,aB i=some (b,n)→aL b=none)→
   (∀b,aL b≠none→ad b≠none∨∃(i:fb) (n:Nat),ab i=some (b,n))→(∀v,uP ab z c r bP v→dl aL (.sl z bP false) v)→ci E ad ab H w (H.set c (.az z g s (rows.set r (.dK (.sl z bP false))))) w λ aL _=>∀v,uP ab z c r bP v→dl aL (.sl z bP false) v:=by
  intro aL aB hle cb lh ai6 ai7 fy S4;have hm:e6 ad ab H aL aB (H.set c (.az z g s (rows.set r (.dK (.sl z bP false))))):=by
   refine mG hle (by simp) λ d aM=>?_
   by_cases eF:d=c
   ·subst eF;intro y aY;rcases fx aY with⟨_,rfl⟩|⟨e,_⟩
    ·intro c_ aU dD eB lc;rcases fx lc with⟨_,e⟩|⟨e,_⟩
     ·cases e;refine .inl ⟨s,rows,aO,cb _ (by simp),by simp,.inr ⟨rfl,λ i pW ax=>?_⟩⟩;rcases jA _ _ ax with⟨_,e⟩|⟨ao,aH⟩
      ·cases e
      ·exact⟨pW,aH,rfl,cb _ (by simp;exact ao)⟩
     ·exact absurd rfl e
    ·exact absurd rfl e
   ·exact iX.same (by rw[dw (a' eF)]) (λ hk=>cb _ (by simp[eF]))
  refine⟨aL,aB,⟨ai6,λ d x aM=>?_,λ i ac b n dP j I=>ap.inj _ _ _ _ _ (lh _ _ _ j) (lh _ _ _ I),λ i b n h=>?_,λ g cells aP=>(ap.e4 g cells aP).mono hle⟩,
   ⟨rfl,rfl,rfl,cL _,λ _ _ _=>rfl,hle,λ b aj=>?_,λ i b n h=>.inr ⟨_,_,lh _ _ _ h⟩⟩,hm,S4⟩
  ·rcases fx aM with⟨rfl,rfl⟩|⟨j,I⟩
   ·refine .inr ⟨cT,w7,c6,Mh,by rw[←HO];exact cb _ (by simp),sG,Mi,by simpa using Mj,λ i y ax=>?_⟩;rcases jA _ _ ax with⟨rfl,rfl⟩|⟨ao,aH⟩
    ·exact S4 _ (Bs _ _ ah).SB
    ·exact(Bs _ _ aH).mono (cb _ (by simp;exact ao)) hle (λ _ _ _=>rfl)
   ·exact(ap.b6 _ _ I).mono (λ hk=>cb _ (by simp[j])) hle hm (λ _ _ _ _=>rfl)
  ·have:=ap.sep _ _ _ (lh _ _ _ h);exact⟨ai7 _ _ _ h,this.2.1,by simpa using this.2.2⟩
  ·rcases fy b aj with j|j
   ·exact .inl j
   ·exact .inr (.inr j)
 rcases fi with⟨rfl,_⟩|⟨b,cs,elem,bj,cb,bh,hw,gH,bf,eh⟩
 ·refine fin ad ab (λ _ _ h=>h) (λ _ _=>rfl) (λ _ _ _ h=>h) ap.dR (λ i b n h=>(ap.sep _ _ _ h).1) (λ b aj=>.inl aj) λ v bh=>?_
  rcases bh with⟨_,a,cap,rfl⟩|⟨b,n,_,cap,rfl,_⟩
  ·exact .nil _ _ _ _ (λ h=>by cases h)
  ·exact .nil _ _ _ _ (λ h=>by cases h)
 ·have ai8:=(ap.sep _ _ _ cb).1
  let aL:b':=λ bR=>if bR=b then some (.cells cs elem bj)else ad bR
  let aB:b8:=λ i=>if i=⟨c,r+1⟩then none else ab i
  have tG:aL b=some (.cells cs elem bj):=by simp[aL]
  have hle:ad.le aL:=by
   intro bR ai aj;by_cases e9:bR=b
   ·subst e9;rw[ai8]at aj;cases aj
   ·simp[aL,e9,aj]
  have lh:∀i b n,aB i=some (b,n)→ab i=some (b,n):=by
   intro i b n h;simp only[aB]at h;split at h
   ·cases h
   ·exact h
  refine fin aL aB hle (λ i ax=>by simp[aB,ax]) lh (λ bR ai aj=>?_) (λ i bR n h=>?_) (λ bR aj=>?_) λ v bh=>?_
  ·by_cases e9:bR=b
   ·subst e9;rw[tG]at aj;cases aj;exact hw
   ·simp[aL,e9]at aj;exact ap.dR _ _ aj
  ·have j:=lh _ _ _ h;have e9:bR≠b:=by rintro rfl;have:=ap.inj _ _ _ _ _ j cb;subst this;simp[aB]at h
   simp[aL,e9,(ap.sep _ _ _ j).1]
  ·by_cases e9:bR=b
   ·exact .inr ⟨_,_,by rw[e9];exact cb⟩
   ·simp[aL,e9]at aj;exact .inl (by simpa using aj)
  ·rcases bh with⟨rfl,a,cap,rfl⟩|⟨dz,n,j,cap,rfl,I,av⟩
   ·exact .nil _ _ _ _ (λ h=>by cases h)
   ·rw[cb]at j;cases j;have hlen:bP.length*z≤cs.size:=rN (jX _ I) av;have:=(Mg (aL:=aL) tG ai5 hlen (λ i row k a ax aA=>(eh i row k a ax aA).mono hle)).1 0 bP.length cap false R I (λ h=>by cases h);simpa using this
def Mk{z g s c:Nat}:∀(sH:List bT) (pre:List aC) {ad:b'} {ab:b8} {H:aa},b5 E ad ab H w→H[c]?=some (.az z g s (pre.map bT.dK++sH))→∀xs,qv z sH=some xs→
  ci E ad ab H w (H.set c (.az z g s ((pre++xs).map bT.dK))) w λ _ _=>True
 |[],pre,ad,ab,H,ap,aO,xs,h=>by simp only[qv,bg]at h;subst h;rw[c8]at aO⊢;rw[ai4 aO];exact ci.refl ap trivial
 |.own bP::sH,pre,ad,ab,H,ap,aO,xs,h=>by
  simp only[qv,c0]at h;obtain⟨cP,aY,rfl⟩:=h;have ch:c<H.length:=(bF.1 aO).1;have ah:(pre.map bT.dK++bT.own bP::sH)[pre.length]?=some (.own bP):=by simp
  obtain⟨ef,dW,dm,lN,gW,_⟩:=S3 ap aO ah;have e:(pre.map bT.dK++bT.own bP::sH).set pre.length (.dK (.sl z bP false))=(pre++[aC.sl z bP false]).map bT.dK++sH:=by rw[yY _ _ (by simp)];simp
  rw[e]at dm gW;obtain⟨eY,ev,tH,sI,gB,_⟩:=Mk sH (pre++[.sl z bP false]) dm (by rw[kl ch]) cP aY;have aH:(H.set c (.az z g s ((pre++[aC.sl z bP false]).map bT.dK++sH))).set c (.az z g s ((pre++[aC.sl z bP false]++cP).map bT.dK))=H.set c (.az z g s ((pre++aC.sl z bP false::cP).map bT.dK)):=by rw[uY];simp
  rw[aH]at tH gB;exact⟨eY,ev,tH,lN.trans sI,gW.trans gB,trivial⟩
 |.dK y::sH,pre,ad,ab,H,ap,aO,xs,h=>by simp only[qv,c0]at h;obtain⟨cP,aY,rfl⟩:=h;have:=Mk sH (pre++[y]) ap (by simpa using aO) cP aY;simpa using this
 |.dead::sH,pre,ad,ab,H,ap,aO,xs,h=>by simp[qv]at h
def ai9(ap:b5 E ad ab H w){c g off len z s:Nat}{rows:List bT}{v:Value}(r:kO ab H (.d c g off len) v)(aO:H[c]?=some (.az z g s rows)){xs:List aC}(ak:qv z rows=some xs):
  ci E ad ab H w (H.set c (.fd g (xs.map λ y=>[y]))) w λ aL _=>dl aL (.sl 1 (((xs.map λ y=>[y]).drop off).take len) false) v:=by
 obtain⟨ef,dW,dm,lN,gW,_⟩:=Mk rows [] ap (by simpa using aO) xs ak;simp only[gJ]at dm gW;have iB:kO dW (H.set c (.az z g s (xs.map bT.dK))) (.d c g off len) v:=by
  cases gW _ _ (.x _ _ r (.az aO))with
  |x _ _ h=>exact h
 have ch:c<H.length:=(bF.1 aO).1;have uZ:(H.set c (.az z g s (xs.map bT.dK)))[c]?=some (.az z g s (xs.map bT.dK)):=by simp[ch]
 have ai_:(H.set c (.az z g s (xs.map bT.dK))).set c (.fd g (xs.map λ y=>[y]))=H.set c (.fd g (xs.map λ y=>[y])):=uY ..
 suffices ci E ef dW (H.set c (.az z g s (xs.map bT.dK))) w ((H.set c (.az z g s (xs.map bT.dK))).set c (.fd g (xs.map λ y=>[y]))) w λ aL _=>dl aL (.sl 1 (((xs.map λ y=>[y]).drop off).take len) false) v by rw[ai_]at this;obtain⟨eY,ev,tH,sI,gB,bm⟩:=this;exact⟨eY,ev,tH,lN.trans sI,gW.trans gB,bm⟩
 generalize H.set c (.az z g s (xs.map bT.dK))=H1 at*;have aQp:c<H1.length:=(bF.1 uZ).1;have sJ:∀(aL:b') off len a cap,len=0→dl aL (.sl 1 (((xs.map λ y=>[y]).drop off).take len) false) (.slice a len cap):=by intro aL off len a cap aW;subst aW;simp;exact .nil _ _ _ _ (λ h=>by cases h)
 rcases dm.b6 _ _ uZ with⟨aE,aW⟩|⟨b,cs,elem,bj,cb,hw,gH,eu,eh⟩
 ·have key:∀off len v,kO dW H1 (.d c g off len) v→dl ef (.sl 1 (((xs.map λ y=>[y]).drop off).take len) false) v:=by intro off len v r;obtain⟨hle,a,cap,rfl,fi⟩:=(r.2.2 _ _ _ _ uZ).2 rfl;refine sJ _ _ _ _ _ ?_;simp at aW;subst aW;simp at hle;omega
  have hm:e6 ef dW H1 ef dW (H1.set c (.fd g (xs.map λ y=>[y]))):=by
   refine mG (λ _ _ h=>h) (by simp) λ d aM=>?_
   by_cases eF:d=c
   ·subst eF;intro y aY;rcases fx aY with⟨_,rfl⟩|⟨e,_⟩
    ·right;intro off len v e8;cases e8 with
     |x _ _ h _=>exact key _ _ _ h
    ·exact absurd rfl e
   ·exact iX.same (by rw[dw (a' eF)]) (λ _=>rfl)
  refine⟨ef,dW,⟨dm.dR,λ d x aM=>?_,dm.inj,λ i b n h=>by have:=dm.sep _ _ _ h;simpa using this,dm.e4⟩,Trans.refl _ _ _,hm,key _ _ _ iB⟩;rcases fx aM with⟨rfl,rfl⟩|⟨j,I⟩
  ·exact aE
  ·exact(dm.b6 _ _ I).mono (λ _=>rfl) (λ _ _ h=>h) hm (λ _ _ _ _=>rfl)
 ·let aL:b':=λ bR=>if bR=b then some (.cells cs elem bj)else ef bR
  let aB:b8:=λ d=>if d=c then none else dW d
  have tG:aL b=some (.cells cs elem bj):=by simp[aL]
  have Em:ef.le aL:=by
   intro bR ai aj;by_cases e9:bR=b
   ·subst e9;have:=(dm.sep _ _ _ cb).1;rw[this]at aj;cases aj
   ·simp[aL,e9,aj]
  have lh:∀i b n,aB i=some (b,n)→i≠⟨c,0⟩∧dW i=some (b,n):=by
   intro i b n h;simp only[aB]at h;split at h
   ·cases h
   ·rename_i ax;exact⟨ax,h⟩
  have key:∀off len v,kO dW H1 (.d c g off len) v→dl aL (.sl 1 (((xs.map λ y=>[y]).drop off).take len) false) v:=by
   intro off len v r;obtain⟨hle,a,cap,rfl,fi⟩:=(r.2.2 _ _ _ _ uZ).2 rfl;rcases fi with⟨he,fZ⟩|⟨dz,gi,he,av,ba,bs⟩
   ·rw[cb]at he;cases he
   ·rw[cb]at he;cases he;rcases bs with rfl|⟨aW,_⟩
    ·have al:(xs.map λ y=>[y]).length=(xs.map bT.dK).length:=by simp
     have key:=(Mg (aL:=aL) (aw:=1) (rows:=xs.map λ y=>[y]) tG (λ i row ax=>by
      simp only[fw,c0]at ax;obtain⟨y,_,rfl⟩:=ax;rfl) (by rw[al];omega) (λ i row k a ax aA=>by
      simp only[fw,c0]at ax;obtain⟨y,aY,rfl⟩:=ax;cases k with
      |succ k=>simp at aA
      |zero=>
       simp at aA;subst aA;rw[HC,e7];exact dl.mono Em (eh i (.dK y) (by simp[aY])))).1 off len cap false (by rw[al];exact hle) R (λ h=>by cases h)
     rw[HC]at key;exact key
    ·exact sJ _ _ _ _ _ aW
  have hm:e6 ef dW H1 aL aB (H1.set c (.fd g (xs.map λ y=>[y]))):=by
   refine mG Em (by simp) λ d aM=>?_
   by_cases eF:d=c
   ·subst eF;intro y aY;rcases fx aY with⟨_,rfl⟩|⟨e,_⟩
    ·right;intro off len v e8;cases e8 with
     |x _ _ h _=>exact key _ _ _ h
    ·exact absurd rfl e
   ·exact iX.same (by rw[dw (a' eF)]) (λ r=>by simp[aB,eF])
  refine⟨aL,aB,⟨λ bR ai aj=>?_,λ d x aM=>?_,λ i ac bR n dP j I=>dm.inj _ _ _ _ _ (lh _ _ _ j).2 (lh _ _ _ I).2,λ i bR n h=>?_,λ g cells aP=>(dm.e4 g cells aP).mono Em⟩,
   ⟨rfl,rfl,rfl,cL _,λ _ _ _=>rfl,Em,λ bR aj=>?_,λ i bR n h=>.inr ⟨_,_,(lh _ _ _ h).2⟩⟩,hm,key _ _ _ iB⟩
  ·by_cases e9:bR=b
   ·subst e9;rw[tG]at aj;cases aj;exact hw
   ·simp[aL,e9]at aj;exact dm.dR _ _ aj
  ·rcases fx aM with⟨rfl,rfl⟩|⟨j,I⟩
   ·show aB d=none;simp[aB]
   ·exact(dm.b6 _ _ I).mono (λ r=>by simp[aB,j]) Em hm (λ _ _ _ _=>rfl)
  ·obtain⟨j,I⟩:=lh _ _ _ h;have e9:bR≠b:=by rintro rfl;exact j (dm.inj _ _ _ _ _ I cb)
   have:=dm.sep _ _ _ I;exact⟨by simp[aL,e9,this.1],this.2.1,by simpa using this.2.2⟩
  ·by_cases e9:bR=b
   ·exact .inr (.inr ⟨c,_,by rw[e9];exact cb⟩)
   ·simp[aL,e9]at aj;exact .inl (by simpa using aj)
def yZ(ap:b5 E ad ab H w){a:U}{y:Value}(r:a6 ad ab H a y){x:aC}{an:aa}(h:freeze H a=some (x,an)):ci E ad ab H w an w λ aL aB=>dl aL x y:=by
 unfold freeze at h;split at h
 ·cases h;exact ci.refl ap (iA r)
 ·rename_i c g off len;split at h
  ·rename_i aw aU rows ex aO;split at h
   ·rename_i aP;subst aP;simp only[bg,bw]at h;obtain⟨rfl,rfl⟩:=h;have ch:c<H.length:=(bF.1 aO).1;obtain⟨bf,fj,fi⟩:=ap.b6 _ _ aO;rcases fi with⟨aE,ai'⟩|⟨b,cs,elem,bj,cb,hw,gH,eu,rS,eh⟩;rotate_left;have bf:0<aw:=Nat.pos_of_ne_zero λ e=>by rw[bf e]at cb;cases cb
    rotate_left
    ·subst ai';have S5:∀(v:Value) off len,sC ab c aw [] off len v→dl ad (.sl aw ((([]:List (List aC)).drop off).take len) (ex &&decide (off+len=0))) v:=by
      intro v off len iY;obtain⟨j,a,cap,rfl,I⟩:=iY;simp at j;obtain⟨rfl,rfl⟩:=j;rcases I with⟨_,rfl⟩|⟨b,n,he,_⟩
      ·simp;exact .nil _ _ _ _ (λ _=>rfl)
      ·rw[aE]at he;cases he
     have hm:e6 ad ab H ad ab (H.set c (.bj aw g [] ex)):=by
      refine mG (λ _ _ h=>h) (by simp) λ d aM=>?_
      by_cases eF:d=c
      ·subst eF;intro y aY;rcases fx aY with⟨_,rfl⟩|⟨j,_⟩
       ·right;intro a v aA e8;rcases aA with⟨off,len,rfl⟩|⟨r,k,rfl⟩
        ·cases e8 with
         |ref c g off len v ag aR aI au aP=>
          refine .ref _ _ _ _ _ (by simpa using ch) (λ _ _ _ h=>by rcases fx h with⟨_,e⟩|⟨e,_⟩<;>simp_all) (λ h2 c7 hB h=>?_) au (λ _ _ _ _ h=>by rcases fx h with⟨_,e⟩|⟨e,_⟩<;>simp_all);rcases fx h with⟨_,e⟩|⟨e,_⟩
          ·cases e;have:=aR _ _ _ aO;exact⟨this.1,S5 _ _ _ this⟩
          ·exact absurd rfl e
        ·cases e8 with
         |ptr c g r k v ag aj aR aI ax au aP=>obtain⟨b,n,he,_⟩:=aR _ _ _ aO;rw[aE]at he;cases he
       ·exact absurd rfl j
      ·exact iX.same (by rw[dw (a' eF)]) (λ _=>rfl)
     refine⟨ad,ab,⟨ap.dR,λ d x aM=>?_,ap.inj,λ d b n aM=>by have:=ap.sep d b n aM;simpa using this,ap.e4⟩,Trans.refl _ _ _,hm,?_⟩
     ·rcases fx aM with⟨rfl,rfl⟩|⟨j,I⟩
      ·exact aE
      ·exact(ap.b6 _ _ I).mono (λ _=>rfl) (λ _ _ h=>h) hm (λ _ _ _ _=>rfl)
     ·cases r with
      |ref c g off len v ag aR aI au aP=>exact S5 _ _ _ (aR _ _ _ aO)
    ·let aL:b':=λ bR=>if bR=b then some (.cells cs elem bj)else ad bR
     let aB:b8:=λ d=>if d=c then none else ab d
     have tG:aL b=some (.cells cs elem bj):=by simp[aL]
     have hle:ad.le aL:=by
      intro bR ai aj;by_cases e9:bR=b
      ·subst e9;have:=(ap.sep _ _ _ cb).1;rw[this]at aj;cases aj
      ·simp[aL,e9,aj]
     obtain⟨Hw,Bh⟩:=Mg (aL:=aL) tG fj eu (λ i r k a ax aA=>(eh i r k a ax aA).mono hle);have S6:∀(v:Value) off len,sC ab c aw rows off len v→dl aL (.sl aw ((rows.drop off).take len) (ex &&decide (off+len=rows.length))) v:=by
      intro v off len iY;obtain⟨j,a,cap,rfl,I⟩:=iY;rcases I with⟨he,_⟩|⟨dz,gi,he,av,ba,bs⟩
      ·rw[cb]at he;cases he
      ·rw[cb]at he;cases he;have jZ:len≤cap:=R;have aja:(ex &&decide (off+len=rows.length))=true→cap=len:=by intro he;simp only[cR,decide_eq_true_eq]at he;rw[rS he.1]at ba;have:=Nat.le_of_mul_le_mul_right ba bf;omega
       rcases bs with rfl|⟨rfl,rfl⟩
       ·exact Hw off len cap _ j jZ aja
       ·simp;exact .nil _ _ _ _ (λ _=>rfl)
     have hm:e6 ad ab H aL aB (H.set c (.bj aw g rows ex)):=by
      refine mG hle (by simp) λ d aM=>?_
      by_cases eF:d=c
      ·subst eF;intro y aY;rcases fx aY with⟨_,rfl⟩|⟨j,_⟩
       ·right;intro a v aA e8;rcases aA with⟨off,len,rfl⟩|⟨r,k,rfl⟩
        ·cases e8 with
         |ref c g off len v ag aR aI au aP=>
          refine .ref _ _ _ _ _ (by simpa using ch) (λ _ _ _ h=>by rcases fx h with⟨_,e⟩|⟨e,_⟩<;>simp_all) (λ h2 c7 hB h=>?_) au (λ _ _ _ _ h=>by rcases fx h with⟨_,e⟩|⟨e,_⟩<;>simp_all);rcases fx h with⟨_,e⟩|⟨e,_⟩
          ·cases e;have:=aR _ _ _ aO;exact⟨this.1,S6 _ _ _ this⟩
          ·exact absurd rfl e
        ·cases e8 with
         |ptr c g r k v ag aj aR aI ax au aP=>
          refine .ptr _ _ _ _ _ (by simpa using ch) (λ _ h=>by rcases fx h with⟨_,e⟩|⟨e,_⟩<;>simp_all) (λ _ _ _ h=>by rcases fx h with⟨_,e⟩|⟨e,_⟩<;>simp_all) (λ h2 c7 hB row h bX=>?_) (λ _ _ h=>by rcases fx h with⟨_,e⟩|⟨e,_⟩<;>simp_all) au (λ _ _ _ _ h=>by rcases fx h with⟨_,e⟩|⟨e,_⟩<;>simp_all);rcases fx h with⟨_,e⟩|⟨e,_⟩
          ·cases e;obtain⟨dz,gi,he,rfl⟩:=aR _ _ _ aO;rw[cb]at he;cases he;exact Bh _ _ _ bX
          ·exact absurd rfl e
       ·exact absurd rfl j
      ·exact iX.same (by rw[dw (a' eF)]) (λ r=>by simp[aB,eF])
     refine⟨aL,aB,⟨λ bR ai aj=>?_,λ d x aM=>?_,λ d ig bR n dP j I=>?_,λ d bR n aM=>?_,λ g cells aP=>(ap.e4 g cells aP).mono hle⟩,
      ⟨rfl,rfl,rfl,cL _,λ _ _ _=>rfl,hle,λ bR aj=>?_,λ d bR n aM=>?_⟩,hm,?_⟩
     ·by_cases e9:bR=b
      ·subst e9;rw[tG]at aj;cases aj;exact hw
      ·simp[aL,e9]at aj;exact ap.dR _ _ aj
     ·rcases fx aM with⟨rfl,rfl⟩|⟨j,I⟩
      ·show aB d=none;simp[aB]
      ·exact(ap.b6 _ _ I).mono (λ r=>by simp[aB,j]) hle hm (λ _ _ _ _=>rfl)
     ·by_cases av:d=c
      ·simp[aB,av]at j
      ·by_cases ba:ig=c
       ·simp[aB,ba]at I
       ·simp[aB,av]at j;simp[aB,ba]at I;exact ap.inj _ _ _ _ _ j I
     ·by_cases av:d=c
      ·simp[aB,av]at aM
      ·simp[aB,av]at aM;obtain⟨ba,bs,dq⟩:=ap.sep _ _ _ aM;have e9:bR≠b:=λ e=>av (ap.inj _ _ _ _ _ (e▸aM) cb)
       exact⟨by simp[aL,e9,ba],bs,by simpa using dq⟩
     ·by_cases e9:bR=b
      ·exact .inr (.inr ⟨c,_,by rw[e9];exact cb⟩)
      ·simp[aL,e9]at aj;exact .inl (by simpa using aj)
     ·by_cases av:d=c
      ·simp[aB,av]at aM
      ·simp[aB,av]at aM;exact .inr ⟨_,_,aM⟩
     ·cases r with
      |ref c g off len v ag aR aI au aP=>exact S6 _ _ _ (aR _ _ _ aO)
   ·cases h
  ·rename_i aw aU rows ex aO;split at h
   ·rename_i aP;subst aP;simp only[bg,bw]at h;obtain⟨rfl,rfl⟩:=h;cases r with
    |ref c g off len v ag aR aI au aP=>exact ci.refl ap (aI _ _ _ aO).2
   ·cases h
  ·cases h
 ·rename_i k;cases r with
  |x k v r wZ=>
   cases k with
   |e=>cases h
   |p=>cases h
   |d c g off len=>
    simp only[o4]at h;unfold uH at h;split at h
    ·rename_i z aU s rows aO;split at h
     ·rename_i aP;subst aP;unfold A2 at h;split at h
      ·rename_i xs ak;simp only[bg,bw]at h;obtain⟨rfl,rfl⟩:=h;exact ai9 ap r aO ak
      ·cases h
     ·cases h
    ·rename_i aU rows aO;split at h
     ·rename_i aP;subst aP;simp only[bg,bw]at h;obtain⟨rfl,rfl⟩:=h;exact ci.refl ap (wZ _ _ _ _ _ rfl aO)
     ·cases h
    ·cases h
   |h c g s q=>
    simp only[o4]at h;unfold uI at h;split at h
    ·rename_i z aU dD rows aO;split at h
     ·rename_i aP;obtain⟨rfl,rfl⟩:=aP;split at h
      ·rename_i bP ah;simp only[bg,bw]at h;obtain⟨rfl,rfl⟩:=h;exact(S3 ap aO ah).imp λ aL aB _ _ bm=>bm _ ((r.2.2 _ _ _ _ aO).2 rfl rfl _ ah)
      ·cases h
     ·cases h
    ·cases h
 ·cases h
end
section
variable{E:Env}{ad:b'}{ab:b8}{H:aa}{w:World}
def En{x:aC}{y:Value}(h:dl ad x y):y.oneCell'=true:=by
 cases h with
 |v _ h=>exact h
 |_=>rfl
def Flat(aw:Nat)(rows:List (List aC)):Prop:=∀(i:Nat) (r:List aC),rows[i]?=some r→r.length=aw
def Flat.cons{aw:Nat}{r:List aC}{rows:List (List aC)}(h:Flat aw (r::rows)):r.length=aw∧Flat aw rows:=⟨h 0 r rfl,λ i s aR=>h (i+1) s (by simpa using aR)⟩
def Flat.length{aw:Nat}:∀{rows:List (List aC)},Flat aw rows→rows.flatten.length=rows.length*aw
 |[],_=>by simp
 |r::rows,h=>by rw[sF,dp,h.cons.1,Flat.length h.cons.2,cQ,hc];omega
def Flat.get{aw:Nat}:∀{rows:List (List aC)},Flat aw rows→∀{i:Nat} {r:List aC} {k:Nat} {a:aC},rows[i]?=some r→r[k]?=some a→rows.flatten[i*aw+k]?=some a
 |[],_,i,r,k,a,ax,_=>by simp at ax
 |s::rows,h,0,r,k,a,ax,aA=>by simp at ax;subst ax;rw[sF,Nat.zero_mul,cp,ei (bF.1 aA).1];exact aA
 |s::rows,h,i+1,r,k,a,ax,aA=>by
  rw[sF,hd (by rw[h.cons.1,hc];omega),h.cons.1];rw[←Flat.get h.cons.2 (i:=i) (by simpa using ax) aA]
  congr 1;rw[hc];omega
def Flat.append{aw:Nat}{a b:List (List aC)}(aA:Flat aw a)(aj:Flat aw b):Flat aw (a++b):=by
 intro i r h;rw[tI]at h;split at h
 ·exact aA _ _ h
 ·exact aj _ _ h
def Flat.take{aw n:Nat}{a:List (List aC)}(aA:Flat aw a):Flat aw (a.take n):=by
 intro i r h;rw[nJ]at h;split at h
 ·exact aA _ _ h
 ·cases h
def Flat.drop{aw n:Nat}{a:List (List aC)}(aA:Flat aw a):Flat aw (a.drop n):=by intro i r h;rw[rQ]at h;exact aA _ _ h
def km(ad:b')(l:List aC)(cs:Array Value):Prop:=∀(ac:Nat) (v:aC),l[ac]?=some v→dl ad v (cs.getD ac undef)
def km.rows{aw:Nat}{rows:List (List aC)}{cs:Array Value}(aI:Flat aw rows)(h:km ad rows.flatten cs):
 ∀(i:Nat) (r:List aC) (k:Nat) (a:aC),rows[i]?=some r→r[k]?=some a→dl ad a (cs.getD (i*aw+k) undef):=λ i r k a ax aA=>h _ _ (aI.get ax aA)
def HP{aw:Nat}(bf:0<aw){rows:List (List aC)}(aI:Flat aw rows){ac:Nat}(a_:ac<rows.length*aw):∃r a,rows[ac/aw]?=some r∧r[ac%aw]?=some a∧rows.flatten[ac]?=some a:=by
 have j:ac/aw<rows.length:=(HA bf).2 a_;have I:=aI _ _ (eX j);have av:ac%aw<rows[ac/aw].length:=by rw[I];exact Ei _ bf
 refine⟨_,_,eX j,eX av,?_⟩;have:=aI.get (eX j) (eX av);rwa [show ac/aw*aw+ac%aw=ac by rw[uT];exact yR _ _]at this
def S7{P:Program}{aw:Nat}{rows:List (List aC)}{b ai:Nat}(bf:0<aw)(aI:Flat aw rows)
  (h:∀(ac:Nat) (v:aC),rows.flatten[ac]?=some v→∃dA,w.cell? ⟨b,ai+ac,none⟩=some dA∧dl ad v dA):
  ∃cs:Array Value,(∀aq:World,aq.heap=w.heap→(loadCells ⟨b,ai,none⟩ (rows.length*aw)).run P aq=.ok cs aq)∧cs.size=rows.length*aw∧km ad rows.flatten cs:=by
 refine⟨((g' (rows.length*aw)).map λ ac=>(w.cell? ⟨b,ai+ac,none⟩).getD undef).toArray,λ aq p4=>run_loadCells aq _ _ _ λ ac a_=>?_,by simp,λ ac v bh=>?_⟩
 ·obtain⟨r,a,_,_,av⟩:=HP bf aI a_;obtain⟨dA,ba,_⟩:=h _ _ av;have e:aq.cell? ⟨b,ai+ac,none⟩=w.cell? ⟨b,ai+ac,none⟩:=by simp[rP,p4]
  rw[lb,e,ba];rfl
 ·have a_:=(bF.1 bh).1;rw[aI.length]at a_;obtain⟨dA,ba,bs⟩:=h _ _ bh;have:((g' (rows.length*aw)).map λ ac=>(w.cell? ⟨b,ai+ac,none⟩).getD undef).toArray.getD ac undef=dA:=by simp[di,a_,ba]
  rw[this];exact bs
def HQ{P:Program}(ax:∀b ai,ad b=some ai→w.heap[b]?=some ai){aw:Nat}{rows:List (List aC)}{ex:Bool}{y:Value}(bf:0<aw)(h:dl ad (.sl aw rows ex) y):
  ∃cs:Array Value,(∀aq:World,(qL y).run P aq=.ok rows.length aq)∧(∀aq:World,aq.heap=w.heap→(iD aw rows.length y).run P aq=.ok cs aq)∧cs.size=rows.length*aw∧km ad rows.flatten cs∧Flat aw rows:=by
 cases h with
 |nil aw ex a cap ak=>refine⟨#[],by simp[qL],λ aq _=>?_,by simp,λ ac v h=>by simp at h,λ i r h=>by simp at h⟩;cases a<;>simp[iD,loadCells,loadCellsFrom]
 |sl aw rows ex b off cap cs elem bj dA cc ag ak ah j I=>
  have aI:Flat aw rows:=ah;obtain⟨cK,av,ba,bs⟩:=S7 (P:=P) (w:=w) (ad:=ad) (b:=b) (ai:=off) bf aI (λ ac v bh=>by
   have a_:=(bF.1 bh).1;rw[aI.length]at a_;obtain⟨r,a,ao,aH,bN⟩:=HP bf aI a_;rw[bh]at bN;cases bN;have:=j _ _ _ _ ao aH;rw[show off+ac/aw*aw+ac%aw=off+ac by rw[tB];congr 1;rw[uT];exact yR _ _]at this;exact⟨_,by rw[cell_of (ax _ _ cc)];exact this,I _ _ _ _ ao aH⟩)
  exact⟨cK,by simp[qL],av,ba,bs,aI⟩
def S8{P:Program}{aw:Nat}{rows:List (List aC)}{b:Nat}{cs:Array Value}{elem:TypeId}{bj:Nat×Nat}(bf:0<aw)(aI:Flat aw rows)(hw:w.heap[b]?=some (.cells cs elem bj))
  (hle:rows.length*aw≤cs.size)(ag:∀(i:Nat) (r:List aC) (k:Nat) (a:aC),rows[i]?=some r→r[k]?=some a→dl ad a (cs.getD (i*aw+k) undef))(off len:Nat)(b9:off+len≤rows.length):
  ∃cK:Array Value,(∀aq:World,aq.heap=w.heap→(loadCells ⟨b,off*aw,none⟩ (len*aw)).run P aq=.ok cK aq)∧cK.size=len*aw∧km ad ((rows.drop off).take len).flatten cK:=by
 have Bt:Flat aw ((rows.drop off).take len):=aI.drop.take;have hlen:((rows.drop off).take len).length=len:=by simp;omega
 have:=S7 (P:=P) (w:=w) (ad:=ad) (b:=b) (ai:=off*aw) bf Bt (λ ac v bh=>by
  have a_:=(bF.1 bh).1;rw[Bt.length,hlen]at a_;obtain⟨r,a,ao,aH,bN⟩:=HP bf Bt (by rw[hlen];exact a_);rw[bh]at bN;cases bN;have c':=(HN ao).1;have mM:(off+ac/aw)*aw+ac%aw=off*aw+ac:=by rw[hc,tB];congr 1;rw[uT];exact yR _ _
  have be:off*aw+ac<cs.size:=by have:(off+len)*aw≤rows.length*aw:=jX _ b9;rw[hc]at this;omega
  have:=ag _ _ _ _ c' aH;rw[mM]at this;exact⟨_,by rw[cell_of hw];exact getD_eq _ _ be,this⟩)
 rwa [hlen]at this
def HR{α β:Type}(f:α→β):∀l:List α,(l.map λ b=>[f b]).flatten=l.map f
 |[]=>rfl
 |b::l=>by simp only[fh,sF,List.singleton_append,HR f l]
def Ml{P:Program}(ap:b5 E ad ab H w){x:U}{y:Value}(r:a6 ad ab H x y){z:Nat}{rows:List (List aC)}{ex:Bool}(h:kL H x=some (z,rows,ex)){size:Nat}(aR:rows=[]∨z=size)(bf:0<size):
  ∃cs:Array Value,(∀aq:World,(qL y).run P aq=.ok rows.length aq)∧(∀aq:World,aq.heap=w.heap→(iD size rows.length y).run P aq=.ok cs aq)∧cs.size=rows.length*size∧km ad rows.flatten cs∧Flat size rows:=by
 have sJ:∀(y:Value),rows=[]→(∃a cap,y=.slice a 0 cap)→∃cs:Array Value,(∀aq:World,(qL y).run P aq=.ok rows.length aq)∧(∀aq:World,aq.heap=w.heap→(iD size rows.length y).run P aq=.ok cs aq)∧cs.size=rows.length*size∧km ad rows.flatten cs∧Flat size rows:=by rintro y rfl ⟨a,cap,rfl⟩;refine⟨#[],by simp[qL],λ aq _=>?_,by simp,λ ac v h=>by simp at h,λ i r h=>by simp at h⟩;cases a<;>simp[iD,loadCells,loadCellsFrom]
 unfold kL at h;split at h
 ·rename_i l;cases h;rw[p0 r];have eu:l=[]∨1=size:=by simpa using aR
  have hq:=HR (λ b:UInt8=>aC.v (.int .u8 b.toNat)) l;refine⟨(l.map λ b=>jW .u8 b.toNat).toArray,by simp[qL,size_mk],?_,?_,?_,?_⟩
  ·intro aq _;simp only[iD,eE,nM]
   congr 1
   rw[extract_mk];simp
  ·rcases eu with e|e
   ·subst e;simp
   ·subst e;simp
  ·rw[hq];intro ac v bh;simp only[fw,c0]at bh;obtain⟨b,aj,rfl⟩:=bh;have:((l.map λ b=>jW .u8 b.toNat).toArray).getD ac undef=.int .u8 b.toNat:=by simp[di,aj]
   rw[this];exact .v _ rfl
  ·intro i r ax;simp only[fw,c0]at ax;obtain⟨b,aj,rfl⟩:=ax;rcases eu with e|e
   ·subst e;simp at aj
   ·simpa using e
 ·unfold hH at h;split at h
  ·cases h;rcases aR with e|rfl
   ·refine sJ y e ?_;obtain⟨a,cap,rfl⟩:=El (iA r);exact⟨a,cap,by rw[e];rfl⟩
   ·exact HQ ap.dR bf (iA r)
  ·rename_i c g off len _;split at h
   ·rename_i aw aU eB fY aO;split at h
    ·rename_i aP;subst aP;cases h;cases r with
     |ref c g off len v ag o9 Bt au aP=>
      obtain⟨hle,a,cap,rfl,fi⟩:=o9 _ _ _ aO;have hlen:((eB.drop off).take len).length=len:=by simp;omega
      rcases aR with e|rfl
      ·refine sJ _ e ⟨a,cap,?_⟩;rw[e]at hlen;simp at hlen;rw[←hlen]
      ·obtain⟨o',hq,av⟩:=ap.b6 _ _ aO;rcases fi with⟨he,fZ⟩|⟨b,m,he,j,I,ba⟩
       ·rcases av with⟨_,bs⟩|⟨b,_,_,_,bs,_⟩
        ·subst bs;simp at hle;obtain⟨rfl,rfl⟩:=hle;exact sJ _ (by simp) ⟨_,_,rfl⟩
        ·rw[he]at bs;cases bs
       ·rcases av with⟨bs,_⟩|⟨bR,cs,elem,bj,bs,dq,gn,gP,gp,rT⟩
        ·rw[he]at bs;cases bs
        ·rw[he]at bs;cases bs;rcases ba with rfl|⟨rfl,rfl⟩
         ·obtain⟨cK,ao,aH,bN⟩:=S8 (P:=P) (ad:=ad) bf hq dq gP rT off len hle;refine⟨cK,by rw[hlen];simp[qL],λ aq p4=>by rw[hlen];exact ao aq p4,by rw[hlen];exact aH,bN,Flat.take (Flat.drop hq)⟩
         ·exact sJ _ (by simp) ⟨_,_,rfl⟩
    ·cases h
   ·rename_i aw aU eB fY aO;split at h
    ·rename_i aP;subst aP;cases h;cases r with
     |ref c g off len v ag o9 Bt au aP=>
      obtain⟨hle,lM⟩:=Bt _ _ _ aO;rcases aR with e|rfl
      ·refine sJ _ e ?_;obtain⟨a,cap,rfl⟩:=El lM;exact⟨a,cap,by rw[e];rfl⟩
      ·exact HQ ap.dR bf lM
    ·cases h
   ·cases h
  ·cases h
def fM(ab:b8)(c b n:Nat):b8:=λ d=>if d=c then some (b,n)else ab d
def HS(ap:b5 E ad ab H w){aq:World}{cs:Array Value}{elem:TypeId}{bj:Nat×Nat}(hw:aq.heap=w.heap.push (.cells cs elem bj))(b9:aq.os=w.os)(bp:aq.tape=w.tape)(hu:aq.output=w.output)(b6:Chunk)
  (kQ:e6 ad ab H ad (fM ab H.length w.heap.size cs.size) (H++[b6])→oh ad (fM ab H.length w.heap.size cs.size) (H++[b6]) aq H.length b6){Q:b'→b8→Prop}
  (eT:e6 ad ab H ad (fM ab H.length w.heap.size cs.size) (H++[b6])→Q ad (fM ab H.length w.heap.size cs.size)):ci E ad ab H w (H++[b6]) aq Q:=by
 have hold:∀b,b<w.heap.size→aq.heap[b]?=w.heap[b]?:=by intro b aj;rw[hw,HT,if_neg R]
 have hm:e6 ad ab H ad (fM ab H.length w.heap.size cs.size) (H++[b6]):=by
  refine mG (λ _ _ h=>h) (by simp) λ c ag=>?_
  exact iX.same (by rw[ei ag]) (λ r=>by simp[fM,show c≠H.length by omega])
 have hn:∀(c:fb) b n,fM ab H.length w.heap.size cs.size c=some (b,n)→(c=⟨H.length,0⟩∧b=w.heap.size∧n=cs.size)∨ab c=some (b,n):=by
  intro c b n h;unfold fM at h;split at h
  ·cases h;exact .inl ⟨by assumption,rfl,rfl⟩
  ·exact .inr h
 refine⟨ad,fM ab H.length w.heap.size cs.size,⟨λ b ai aj=>?_,λ c x ak=>?_,λ c cl b n dP j I=>?_,λ c b n h=>?_,ap.e4⟩,⟨b9,bp,hu,by rw[hw];simp,λ b aj _=>hold b aj,λ _ _ h=>h,λ b h=>.inl h,λ c b n h=>?_⟩,hm,eT hm⟩
 ·have:=ap.dR b ai aj;have be:b<w.heap.size:=(jY.1 this).1;rw[hold b be];exact this
 ·by_cases ag:c<H.length
  ·rw[ei ag]at ak;refine(ap.b6 c x ak).mono (λ r=>by simp[fM,show c≠H.length by omega]) (λ _ _ h=>h) hm λ r b n h=>hold b (ap.sep _ _ _ h).2.1
  ·have:c=H.length:=by have:=(bF.1 ak).1;simp at this;omega
   subst this;simp at ak;subst ak;exact kQ hm
 ·rcases hn _ _ _ j with⟨rfl,rfl,rfl⟩|ao
  ·rcases hn _ _ _ I with⟨e,_,_⟩|aH
   ·exact e.symm
   ·have:=(ap.sep _ _ _ aH).2.1;omega
  ·rcases hn _ _ _ I with⟨e,rfl,_⟩|aH
   ·have:=(ap.sep _ _ _ ao).2.1;omega
   ·exact ap.inj _ _ _ _ _ ao aH
 ·rcases hn _ _ _ h with⟨rfl,rfl,rfl⟩|ao
  ·refine⟨?_,by rw[hw];simp,by simp⟩;cases cc:ad w.heap.size with
   |none=>rfl
   |some ai=>have:=ap.dR _ _ cc;simp at this
  ·have:=ap.sep _ _ _ ao;exact⟨this.1,by rw[hw];simp;omega,by simp;omega⟩
 ·rcases hn _ _ _ h with⟨rfl,rfl,rfl⟩|ao
  ·exact .inl (cL _)
  ·exact .inr ⟨_,_,ao⟩
def pb(n:Nat):uQ (0,0) n:=λ k _ h=>by simp at h
def w8{w aq:World}{ai:Obj}(hw:aq.heap=w.heap.push ai):aq.heap[w.heap.size]?=some ai:=by rw[hw];simp
def S9(ap:b5 E ad ab H w){a:U}{y:Value}(r:a6 ad ab H a y)(b9:(cw a).all one=true)(t:TypeId):
  ∃x aq,(Instr.box t y).run E.P w=.ok x aq∧ci E ad ab H w (H++[.box (cw a)]) aq λ aL aB=>a6 aL aB (H++[.box (cw a)]) (.ptr H.length 0 0 0) x:=by
 obtain⟨j,I,av⟩:=tD r b9;refine⟨.pointer (some ⟨w.heap.size,0,none⟩),{w with heap:=w.heap.push (.cells y.cells t)},by simp[Instr.box,newVar,newRow],?_⟩;refine HS (aq:={w with heap:=w.heap.push (.cells y.cells t)}) ap rfl rfl rfl rfl _ (λ hm=>?_) (λ hm=>?_)
 ·exact⟨w.heap.size,y.cells,t,(0,0),by simp[fM],w8 rfl,pb _,j,λ k c ag=>hm _ _ (I k c ag)⟩
 ·refine .ptr _ _ _ _ _ (by simp) (λ cells h=>⟨w.heap.size,y.cells.size,by simp[fM],rfl⟩) (λ _ _ _ h=>by simp at h) (λ _ _ _ _ h=>by simp at h) (λ _ _ h=>by simp at h) ⟨_,rfl⟩ (λ _ _ _ _ h=>by simp at h)
def ajb(ap:b5 E ad ab H w){cells:List U}{y:Value}(r:y.cells.size=cells.length∧∀(k:Nat) (a:U),cells[k]?=some a→∀aL aB an,a6 aL aB an a (y.cells.getD k undef))(t:TypeId):
  ∃x aq,(Instr.box t y).run E.P w=.ok x aq∧ci E ad ab H w (H++[.cY t cells]) aq λ aL aB=>a6 aL aB (H++[.cY t cells]) (.dv H.length) x:=by
 obtain⟨j,I⟩:=r;refine⟨.pointer (some ⟨w.heap.size,0,none⟩),{w with heap:=w.heap.push (.cells y.cells t)},by simp[Instr.box,newVar,newRow],?_⟩;refine HS (aq:={w with heap:=w.heap.push (.cells y.cells t)}) ap rfl rfl rfl rfl _ (λ hm=>?_) (λ hm=>?_)
 ·exact⟨w.heap.size,y.cells,by simp[fM],w8 rfl,j,λ k c ag=>I k c ag _ _ _⟩
 ·refine .dv _ _ (by simp) (λ _ h=>by simp at h) (λ _ _ h=>⟨w.heap.size,y.cells.size,by simp[fM],rfl⟩) (λ _ _ h=>by simp at h) rfl (λ _ _ _ _ h=>by simp at h)
def ajc{P:Program}{t:TypeId}{dX:Value}(bf:(P.info? t).bind (·.zero)=some dX)(h:LM P t=true):dX.cells.size=(Hi P t).length∧∀(k:Nat) (a:U),(Hi P t)[k]?=some a→∀ad ab H,a6 ad ab H a (dX.cells.getD k undef):=by
 unfold LM at h;unfold Hi;rw[bf]at h⊢;cases dX with
 |agg cs=>
  simp only at h⊢;refine⟨by simp[tE],λ k a ay ad ab H=>?_⟩;simp only[fw,c0]at ay;obtain⟨x,ak,rfl⟩:=ay;have j:=oo.1 h x (kn ak);have I:cs[k]?=some x:=by simpa using ak
  have:(tE (.agg cs)).getD k undef=x:=by simp[tE,di,I]
  rw[this];exact .i _ _ (.v _ j)
 |_=>simp at h
def y0(ap:b5 E ad ab H w){aq:World}{cs:Array Value}{elem:TypeId}{bj:Nat×Nat}(hw:aq.heap=w.heap.push (.cells cs elem bj))(b9:aq.os=w.os)(bp:aq.tape=w.tape)(hu:aq.output=w.output)
  {aw:Nat}{rows:List (List aC)}{ex:Bool}(bf:0<aw)(aI:Flat aw rows)(ag:km ad rows.flatten cs)(hle:rows.length*aw≤cs.size)(ak:ex=true→cs.size=rows.length*aw)(gH:uQ bj cs.size)
  {n cap:Nat}(aE:n≤rows.length)(jZ:rows.length≤cap)(eS:cap*aw≤cs.size):
  ci E ad ab H w (H++[.sl aw 0 rows ex]) aq λ aL aB=>a6 aL aB (H++[.sl aw 0 rows ex]) (.ref H.length 0 0 n) (.slice (some ⟨w.heap.size,0,none⟩) n cap):=by
 refine HS ap hw b9 bp hu _ (λ hm=>?_) (λ hm=>?_)
 ·exact⟨λ e=>R,aI,.inr ⟨w.heap.size,cs,elem,bj,by simp[fM],w8 hw,gH,hle,ak,km.rows aI ag⟩⟩
 ·refine .ref _ _ _ _ _ (by simp) (λ h2 c7 hB h=>?_) (λ _ _ _ h=>by simp at h) ⟨_,_,rfl⟩ (λ _ _ _ _ h=>R);simp at h;obtain⟨rfl,rfl,rfl⟩:=h;exact⟨R,_,_,rfl,.inr ⟨w.heap.size,cs.size,by simp[fM],R,by simpa using eS,.inl (by simp)⟩⟩
def ci.trans{an nh:aa}{aq qH:World}{Q w6:b'→b8→Prop}(h:ci E ad ab H w an aq Q)(k:∀aL aB,b5 E aL aB an aq→ad.le aL→e6 ad ab H aL aB an→Q aL aB→ci E aL aB an aq nh qH w6):ci E ad ab H w nh qH w6:=by obtain⟨aL,aB,j,I,av,ba⟩:=h;obtain⟨rL,rM,bG,bC,cE,eU⟩:=k aL aB j I.dR av ba;exact⟨rL,rM,bG,I.trans bC,av.trans cE,eU⟩
def HU:∀{ad:b'} {ab:b8} {H:aa} (ap:b5 E ad ab H w) {l:List U} (f:Nat→Value) (r:∀(k:Nat) (a:U),l[k]?=some a→a6 ad ab H a (f k)) {xs:List aC} {an:aa} (h:fC H l=some (xs,an)),
  ci E ad ab H w an w λ aL aB=>xs.length=l.length∧∀(k:Nat) (x:aC),xs[k]?=some x→dl aL x (f k)
 |ad,ab,H,ap,[],f,r,xs,an,h=>by simp only[fC,bg,bw]at h;obtain⟨rfl,rfl⟩:=h;exact ci.refl ap ⟨rfl,λ k x ak=>by simp at ak⟩
 |ad,ab,H,ap,a::l,f,r,xs,an,h=>by
  simp only[fC]at h;split at h
  ·rename_i x H1 j;split at h
   ·rename_i cP bu I;simp only[bg,bw]at h;obtain⟨rfl,rfl⟩:=h;refine(yZ ap (r 0 a rfl) j).trans λ ef dW dm _ hm ak=>?_
    refine(HU dm (λ k=>f (k+1)) (λ k b aj=>hm _ _ (r (k+1) b (by simpa using aj))) I).imp λ eY ev cc _ aY=>?_
    refine⟨by simp[aY.1],λ k y ay=>?_⟩;cases k with
    |zero=>simp at ay;subst ay;exact ak.mono cc
    |succ k=>exact aY.2 k y (by simpa using ay)
   ·cases h
  ·cases h
def y1{ad:b'}{k:Option Nat}{x:aC}{v:Value}(r:dl ad x v):dl ad (hZ k x) v:=by
 cases k with
 |none=>cases x<;>exact r
 |some z=>
  cases x with
  |sl aw rows ex=>
   have Mm:∀Mn,(rows=[]∨Mn=aw)→dl ad (.sl Mn rows false) v:=by
    intro Mn aR;cases r with
    |nil _ _ a cap h=>exact .nil _ _ _ _ (λ h=>by cases h)
    |sl _ _ _ b off cap cs elem bj dA cc ag ak ah j I=>
     rcases aR with aR|rfl
     ·subst aR;exact .nil _ _ _ _ (λ h=>by cases h)
     ·exact .sl _ _ _ b off cap cs elem bj dA cc ag (λ h=>by cases h) ah j I
   simp only[hZ];split
   ·rename_i e;subst e;exact Mm _ (.inr rfl)
   ·split
    ·rename_i e;subst e;exact Mm _ (.inl rfl)
    ·exact Mm _ (.inr rfl)
  |_=>exact r
def HV:∀(br:List (Option Nat)) (l:List aC),(hO br l).length=l.length
 |[],l=>rfl
 |k::br,[]=>rfl
 |k::br,x::l=>by simp[hO,HV br l]
def Mo:∀(br:List (Option Nat)) (l:List aC) (i:Nat) (y:aC),(hO br l)[i]?=some y→∃k x,l[i]?=some x∧y=hZ k x
 |[],l,i,y,h=>⟨none,y,h,by cases y<;>rfl⟩
 |k::br,[],i,y,h=>by simp[hO]at h
 |k::br,x::l,0,y,h=>by simp[hO]at h;exact⟨k,x,rfl,h.symm⟩
 |k::br,x::l,i+1,y,h=>by simpa using Mo br l i y (by simpa[hO]using h)
def Mp{ad:b'}{br:List (Option Nat)}{xs:List aC}{n:Nat}{f:Nat→Value}(h:xs.length=n∧∀(k:Nat) (x:aC),xs[k]?=some x→dl ad x (f k)):(hO br xs).length=n∧∀(k:Nat) (x:aC),(hO br xs)[k]?=some x→dl ad x (f k):=
 ⟨by rw[HV];exact h.1,λ k x ak=>by obtain⟨ai,y,aY,rfl⟩:=Mo _ _ _ _ ak;exact y1 (h.2 k y aY)⟩
def S_(z:Nat):∀(n:Nat) (l:List aC),l.length=n*z→(o5 z n l).length=n∧(o5 z n l).flatten=l∧Flat z (o5 z n l)
 |0,l,h=>by
  have:l=[]:=by simpa using h
  subst this;exact⟨rfl,rfl,λ i r ax=>by simp[o5]at ax⟩
 |n+1,l,h=>by
  obtain⟨j,I,av⟩:=S_ z n (l.drop z) (by simp[h,hc]);refine⟨by simp[o5,j],by simp[o5,I],λ i r ax=>?_⟩;cases i with
  |zero=>simp[o5]at ax;subst ax;simp;rw[h,hc];omega
  |succ i=>exact av i r (by simpa[o5]using ax)
def ajd{l:List U}{cs:Array Value}(h:tF ad ab H l cs)(n:Nat)(bf:0<l.length):
  tF ad ab H (cB n l).flatten ((HW (n*l.length)).map (cs[·%cs.size]!)):=by
 refine⟨by simp,λ k a aA=>?_⟩;have ay:k<n*l.length:=by have:=(bF.1 aA).1;simpa using this
 have e:k/l.length*l.length+k%l.length=k:=by rw[uT];exact yR _ _
 have be:k/l.length<n:=(HA bf).2 ay;rw[←e,Hz l n _ _ be (Ei _ bf)]at aA;have:=h.2 _ _ aA;have I:((HW (n*l.length)).map (cs[·%cs.size]!)).getD k undef=cs.getD (k%l.length) undef:=by
  have hm:k%l.length<cs.size:=by rw[h.1];exact Ei _ bf
  rw[di,di];simp[ay,h.1];rw[getElem!_pos cs _ hm,qM hm];rfl
 rw[I];exact this
def S'(ap:b5 E ad ab H w){t:TypeId}{n:Nat}{bk:List (Nat×U)}{jz:Array (Nat×Value)}{v:U}{an:aa}(h:k8 E H t n bk=some (v,an))(au:Bp ad ab H bk jz.toList):
  ∃x aq,(HX t n jz).run E.P w=.ok x aq∧ci E ad ab H w an aq λ aL aB=>a6 aL aB an v x:=by
 unfold k8 at h;split at h;rotate_left
 ·cases h
 rename_i e he;split at h;rotate_left
 ·cases h
 rename_i z zero bf hzero;split at h;rotate_left
 ·cases h
 rename_i ag;obtain⟨gI,ff,w9⟩:=ag;split at h;rotate_left
 ·cases h
 rename_i cells HY;split at h;rotate_left
 ·cases h
 rename_i xs H1 gK;simp only[bg,bw]at h;obtain⟨rfl,rfl⟩:=h;obtain⟨HZ,pc⟩:=w9;obtain⟨dX,w5,sE⟩:=w4 hzero w;have HK:a6 ad ab H zero dX:=by rw[sE];exact sD dX
 have Mq:tF ad ab H (cw zero) dX.cells:=⟨(tD HK pc).1,(tD HK pc).2.1⟩;have w_:=ajd Mq n (by rw[ff];exact HZ);rw[ff]at w_;obtain⟨cK,lL,eF⟩:=Mc au w_ HY;have ch:cells.length=n*z:=by
  have:∀(bk:List (Nat×U)) (l out:List U),fX z l bk=some out→out.length=l.length:=by
   intro bk;induction bk with
   |nil=>intro l out h;simp[fX]at h;rw[h]
   |cons p bk a8=>
    intro l out h;obtain⟨i,a⟩:=p;simp only[fX]at h;split at h
    ·rename_i ay;rw[a8 _ _ h,Mb R]
    ·cases h
  rw[this _ _ _ HY];simp[ff]
 have aje:cK.size=n*z:=by rw[eF.1,ch]
 refine⟨.slice (some ⟨w.heap.size,0,none⟩) n n,{w with heap:=w.heap.push (.cells cK e)},?_,?_⟩
 ·have ajf:¬(n*z>2^24):=R;by_cases aW:n*z=0
  ·have aE:n=0:=by
    rcases Nat.mul_eq_zero.1 aW with j|j
    ·exact j
    ·omega
   subst aE;have ajg:HJ (λ i=>some (i*z,z)) #[] jz.toList=some cK:=by rw[←lL];congr 1;simp
   simp only[HX,dT,run_underlying (h3 he),eg,(gG bf w).1];have c6:∀f:Nat→Value,(HW 0).map f=#[]:=λ f=>by simp
   simp only[aW,c6,if_true,eE,eg,ajg];simp[newRow]
  ·simp only[HX,dT,run_underlying (h3 he),eg,(gG bf w).1,ajf,if_false,aW,w5,eE];rw[lL];simp[newRow]
 ·refine(HU ap (λ k=>cK.getD k undef) eF.2 gK).trans λ ef dW dm Ta gW ak=>?_
  have ak:=Mp (br:=(cB n (E.kinds e)).flatten) ak;obtain⟨b_,ca,c3⟩:=S_ z n (hO (cB n (E.kinds e)).flatten xs) (by rw[ak.1,ch]);have:=y0 (aq:={w with heap:=w.heap.push (.cells cK e)}) dm rfl rfl rfl rfl (ex:=true) (n:=n) (cap:=n) HZ c3 (by rw[ca];exact ak.2) (by rw[b_];omega) (λ _=>by rw[b_];exact aje) (pb _) R R R;exact this
def u0(P:Program)(b ai:Nat)(elem:TypeId)(bj:Nat×Nat):∀(vs:List Value) (i:Nat) (lO:Array Value) (w:World),w.heap[b]?=some (.cells lO elem bj)→uQ bj lO.size→ai+i+vs.length≤lO.size→
  (∀v∈vs,v.oneCell'=true)→∃aq hC,(storeCells ⟨b,ai,none⟩ vs i).run P w=.ok () aq∧aq.heap[b]?=some (.cells hC elem bj)∧(∀bR,bR≠b→aq.heap[bR]?=w.heap[bR]?)∧aq.heap.size=w.heap.size∧
   aq.os=w.os∧aq.tape=w.tape∧aq.output=w.output∧hC.size=lO.size∧∀k,hC[k]?=if ai+i≤k∧k<ai+i+vs.length then vs[k-(ai+i)]? else lO[k]?
 |[],i,lO,w,hw,_,_,_=>⟨w,lO,by simp[storeCells],hw,λ _ _=>rfl,rfl,rfl,rfl,rfl,rfl,λ k=>by rw[if_neg (by simp only[dr];omega)]⟩
 |v::vs,i,lO,w,hw,gH,hle,pd=>by
  simp only[cQ]at hle;have be:ai+i<lO.size:=R;have eh:w.cell? ⟨b,ai+i,none⟩=some lO[ai+i]:=by rw[cell_of hw];simp[be]
  have gK:w.frozen? ⟨b,ai+i,none⟩=false:=by simp only[World.frozen?,hw];have:=gH (ai+i) be;simpa using this
  let f_:World:=w.setCell ⟨b,ai+i,none⟩ v
  have w':f_.heap[b]?=some (.cells (lO.setIfInBounds (ai+i) v) elem bj):=by simp[f_,World.setCell,Array.getElem?_modify,hw]
  have nk:∀bR,bR≠b→f_.heap[bR]?=w.heap[bR]?:=by intro bR aj;simp[f_,World.setCell,Array.getElem?_modify,a' aj]
  obtain⟨aq,hC,j,I,av,ba,bs,dq,gn,gP,gp⟩:=u0 P b ai elem bj vs (i+1) (lO.setIfInBounds (ai+i) v) f_ w' (by simpa using gH) (by rw[Array.size_setIfInBounds];omega) (λ x ak=>pd x (by simp[ak]));refine⟨aq,hC,?_,I,λ bR aj=>by rw[av bR aj,nk bR aj],by rw[ba];simp[f_,World.setCell],bs,dq,gn,by rw[gP];simp,λ k=>?_⟩
  ·simp only[storeCells,dT,lb];rw[run_store _ _ _ _ _ (pd v (by simp)),eh,gK];exact j
  ·rw[gp];by_cases ay:k=ai+i
   ·subst ay;rw[if_neg R,if_pos (by constructor<;>simp)];simp[be]
   ·by_cases ah:ai+(i+1)≤k∧k<ai+(i+1)+vs.length
    ·rw[if_pos ah,if_pos (by simp;omega)];rw[show k-(ai+i)=(k-(ai+(i+1)))+1 by omega];simp
    ·rw[if_neg ah,if_neg (by simp;omega)];rw[Array.getElem?_setIfInBounds_ne R]
def wrote(ap:b5 E ad ab H w){aq:World}{c b n:Nat}(cb:ab c=some (b,n)){b6 Eo:Chunk}(aO:H[c]?=some Eo)(nk:∀bR,bR≠b→aq.heap[bR]?=w.heap[bR]?)(eu:aq.heap.size=w.heap.size)(b9:aq.os=w.os)(bp:aq.tape=w.tape)(hu:aq.output=w.output)
  (gU:iX ad ab H ad ab (H.set c b6) c)(kQ:e6 ad ab H ad ab (H.set c b6)→oh ad ab (H.set c b6) aq c b6){Q:b'→b8→Prop}(eT:e6 ad ab H ad ab (H.set c b6)→Q ad ab):ci E ad ab H w (H.set c b6) aq Q:=by
 have ch:c<H.length:=(bF.1 aO).1;have hm:e6 ad ab H ad ab (H.set c b6):=by
  refine mG (λ _ _ h=>h) (by simp) λ d aM=>?_
  by_cases eF:d=c
  ·subst eF;exact gU
  ·exact iX.same (by rw[dw (a' eF)]) (λ _=>rfl)
 have tG:ad b=none:=(ap.sep _ _ _ cb).1;refine⟨ad,ab,⟨λ bR ai aj=>?_,λ d x aM=>?_,ap.inj,λ d bR dP aM=>?_,ap.e4⟩,⟨b9,bp,hu,by rw[eu];exact cL _,λ bR aj aE=>nk bR (λ e=>aE c n (e▸cb)),λ _ _ h=>h,λ _ h=>.inl h,λ _ _ _ h=>.inr ⟨_,_,h⟩⟩,hm,eT hm⟩
 ·have e9:bR≠b:=λ e=>by subst e;rw[tG]at aj;cases aj
  rw[nk _ e9];exact ap.dR _ _ aj
 ·rcases fx aM with⟨rfl,rfl⟩|⟨j,I⟩
  ·exact kQ hm
  ·exact(ap.b6 _ _ I).mono (λ _=>rfl) (λ _ _ h=>h) hm λ r bR dP av=>nk _ λ e=>j (congrArg fb.c (ap.inj _ _ _ _ _ (e▸av) cb))
 ·have:=ap.sep _ _ _ aM;exact⟨this.1,by rw[eu];exact this.2.1,by simpa using this.2.2⟩
def Ep(ap:b5 E ad ab H w){aq:World}{an:aa}{aB:b8}(gU:∀c,c<H.length→iX ad ab H ad aB an c)(hlen:H.length≤an.length)
  (kQ:e6 ad ab H ad aB an→∀c x,an[c]?=some x→oh ad aB an aq c x)(gK:∀b,b<w.heap.size→(∀(i:fb) n,ab i≠some (b,n))→aq.heap[b]?=w.heap[b]?)
  (eu:w.heap.size≤aq.heap.size)(b9:aq.os=w.os)(bp:aq.tape=w.tape)(hu:aq.output=w.output)(ko:∀(i:fb) b n,aB i=some (b,n)→w.heap.size≤b∨∃(ac:fb) (m:Nat),ab ac=some (b,m))
  (be:∀(i:fb) b n,aB i=some (b,n)→b<aq.heap.size∧i.c<an.length)(Er:∀(i ac:fb) b n dP,aB i=some (b,n)→aB ac=some (b,dP)→i=ac)
  {Q:b'→b8→Prop}(eT:e6 ad ab H ad aB an→Q ad aB):ci E ad ab H w an aq Q:=by
 have hm:=mG (λ _ _ h=>h) hlen gU;have cc:∀b ai,ad b=some ai→b<w.heap.size:=λ b ai h=>(jY.1 (ap.dR b ai h)).1
 refine⟨ad,aB,⟨λ b ai aj=>?_,kQ hm,Er,λ i b n h=>⟨?_,be i b n h⟩,ap.e4⟩,⟨b9,bp,hu,eu,gK,λ _ _ h=>h,λ b h=>.inl h,ko⟩,hm,eT hm⟩
 ·rw[gK b (cc b ai aj) λ i n h=>by rw[(ap.sep _ _ _ h).1]at aj;cases aj];exact ap.dR b ai aj
 ·rcases ko i b n h with j|⟨ac,m,j⟩
  ·cases aj:ad b with
   |none=>rfl
   |some ai=>have:=cc b ai aj;omega
  ·exact(ap.sep _ _ _ j).1
def Tb(ap:b5 E ad ab H w){t:TypeId}{c z g s r:Nat}{rows:List bT}(aO:H[c]?=some (.az z g s rows))(ah:r<rows.length)(H0:fG E.P t=some 1){v:Value}(bh:v.oneCell'=true){p:Value}
  (au:∃b n,ab c=some (b,n)∧p=.pointer (some ⟨b,r,none⟩)){oq:aa}{aB:b8}{y:bT}(aW:oq.length=H.length)
  (nk:∀e,e≠c→(oq[e]?=H[e]?∧∀q,aB ⟨e,q⟩=ab ⟨e,q⟩)∨(oq[e]?=some .gone∧aB ⟨e,0⟩=none))(fZ:aB ⟨c,0⟩=ab ⟨c,0⟩)(ajh:∀q,q≠r→aB ⟨c,q+1⟩=ab ⟨c,q+1⟩)
  (ko:∀(i:fb) b n,aB i=some (b,n)→(∃(ac:fb) (m:Nat),ab ac=some (b,m))∧i.c<H.length)(Er:∀(i ac:fb) b n dP,aB i=some (b,n)→aB ac=some (b,dP)→i=ac)
  (aY:∀aq:World,(∀b,(∀n,ab c≠some (b,n))→aq.heap[b]?=w.heap[b]?)→l9 ad aB aq z c r y v):
  ∃aq,(xa t p v).run E.P w=.ok () aq∧ci E ad ab H w (oq.set c (.az z g (s+1) (rows.set r y))) aq λ _ _=>True:=by
 obtain⟨b,n,cb,rfl⟩:=au;have ch:c<H.length:=(bF.1 aO).1;rcases ap.b6 _ _ aO with⟨aE,_⟩|⟨bR,cs,elem,bj,gV,hw,gH,hle,eh⟩
 ·rw[cb]at aE;cases aE
 rw[cb]at gV;cases gV;have aji:v.cells=#[v]:=by cases v<;>simp_all [tE,Ma]
 obtain⟨aq,hC,j,I,av,ba,bs,dq,gn,gP,gp⟩:=u0 E.P b r elem bj [v] 0 cs w hw gH (by simp;omega) (λ x ak=>by simp at ak;subst ak;exact bh);refine⟨aq,?_,?_⟩
 ·simp[xa,yL,storeVar,(gG H0 w).1,aji,j]
 have kp:∀ac,hC.getD ac undef=if ac=r then v else cs.getD ac undef:=by
  intro ac;rw[di,gp];simp only[e7,cU,cp];by_cases a_:ac=r
  ·subst a_;simp
  ·rw[if_neg R,if_neg a_,di]
 have aj:∀dz,(∀n,ab c≠some (dz,n))→aq.heap[dz]?=w.heap[dz]?:=λ dz h=>av dz λ e=>h _ (e▸cb)
 have H2:∀(i:Nat) (d:bT),(rows.set r y)[i]?=some d→(i=r∧d=y)∨(i≠r∧rows[i]?=some d):=by
  intro i d ax;by_cases nj:i=r
  ·subst nj;rw[kl ah]at ax;cases ax;exact .inl ⟨rfl,rfl⟩
  ·rw[dw (a' nj)]at ax;exact .inr ⟨nj,ax⟩
 refine Ep ap (aB:=aB) (λ e he=>?_) (by simp[aW]) (λ hm e x ak=>?_) (λ dz _ aE=>aj dz λ n=>aE c n) (by rw[ba];exact cL _) bs dq gn (λ i dz n h=>.inr (ko i dz n h).1)
  (λ i dz n h=>?_) Er (λ _=>trivial)
 ·by_cases jB:e=c
  ·subst jB;intro x ak;rcases fx ak with⟨_,rfl⟩|⟨ao,_⟩
   ·intro c_ aU dD eB lc;rcases fx lc with⟨_,aH⟩|⟨aH,_⟩
    ·cases aH;exact .inl ⟨s,rows,aO,fZ,by simp,.inl R⟩
    ·exact absurd rfl aH
   ·exact absurd rfl ao
  ·rcases nk e jB with⟨cm,cy⟩|⟨cm,cy⟩
   ·exact iX.same (by rw[dw (a' jB)];exact cm) cy
   ·intro x ak;rw[dw (a' jB),cm]at ak;cases ak;trivial
 ·rcases fx ak with⟨rfl,rfl⟩|⟨jB,lJ⟩
  ·refine .inr ⟨b,hC,elem,bj,by rw[gP,←cb];exact fZ,I,by rw[gP];exact gH,by rw[gP];simpa using hle,λ i d ax=>?_⟩;rw[kp];rcases H2 _ _ ax with⟨rfl,rfl⟩|⟨nj,Ed⟩
   ·rw[if_pos rfl];exact aY aq aj
   ·rw[if_neg nj];refine(eh _ _ Ed).mono (ajh _ nj) (λ _ _ h=>h) λ dz n h=>av dz ?_
    rintro rfl;have:=ap.inj _ _ _ _ _ h cb;simp at this
  ·rcases nk e jB with⟨cm,cy⟩|⟨cm,cy⟩
   ·rw[cm]at lJ;refine(ap.b6 _ _ lJ).mono cy (λ _ _ h=>h) hm λ q dz n h=>av dz ?_
    rintro rfl;exact jB (congrArg fb.c (ap.inj _ _ _ _ _ h cb))
   ·rw[cm]at lJ;cases lJ;exact cy
 ·obtain⟨⟨ac,m,cm⟩,cy⟩:=ko i dz n h;exact⟨by rw[ba];exact(ap.sep _ _ _ cm).2.1,by simpa[aW]using cy⟩
def Tc(ap:b5 E ad ab H w){d z g:Nat}{bP:List (List aC)}{ex:Bool}(aO:H[d]?=some (.sl z g bP ex))(bf:0<z){v:Value}(bh:a6 ad ab H (.ref d g 0 bP.length) v){aB:b8}{c r:Nat}(he:aB ⟨c,r+1⟩=ab ⟨d,0⟩)
  {aq:World}(hw:∀b n,ab ⟨d,0⟩=some (b,n)→aq.heap[b]?=w.heap[b]?):l9 ad aB aq z c r (.own bP) v:=by
 obtain⟨o',hq,fi⟩:=ap.b6 _ _ aO;refine⟨hq,?_⟩;cases bh with
 |ref _ _ _ _ _ ag aR aI au aP=>
  obtain⟨_,a,cap,rfl,I⟩:=aR _ _ _ aO;rcases fi with⟨aE,aW⟩|⟨b,cs,elem,bj,cb,ajj,gH,hle,_,eh⟩
  ·subst aW;exact .inl ⟨rfl,a,cap,rfl⟩
  ·rcases I with⟨pe,_⟩|⟨dz,gi,pe,cm,cy,fc⟩
   ·rw[cb]at pe;cases pe
   ·rw[cb]at pe;cases pe;rcases fc with rfl|⟨fc,_⟩
    ·refine .inr ⟨b,cs,elem,bj,by rw[he];exact cb,⟨cap,by simp,R,by simpa using cy⟩,by rw[hw _ _ cb];exact ajj,gH,bf,eh⟩
    ·have:bP=[]:=pX.1 fc;subst this;exact .inl ⟨rfl,a,cap,rfl⟩
def Td(ap:b5 E ad ab H w){z:Nat}{v:U}{x:Value}(iZ:a6 ad ab H v x){y:bT}{H1:aa}(h:tq z (freeze H v)=some (y,H1)):
  ∃q,y=.dK q∧ci E ad ab H w H1 w λ aL _=>dl aL q x:=by
 unfold tq at h;split at h
 ·rename_i q bu aI;simp only[bg,bw]at h;obtain⟨rfl,rfl⟩:=h;exact⟨_,rfl,(yZ ap iZ aI).imp λ _ _ _ _ bm=>y1 bm⟩
 ·cases h
def Te(ap:b5 E ad ab H w){z:Nat}{v:U}{x:Value}(iZ:a6 ad ab H v x){y:bT}{H1:aa}(h:pP H z v=some (y,H1)):
  (∃q,y=.dK q∧ci E ad ab H w H1 w λ aL _=>dl aL q x)∨∃d g bP ex,v=.ref d g 0 bP.length∧H[d]?=some (.sl z g bP ex)∧0<z∧y=.own bP∧H1=H.set d .gone:=by
 unfold pP at h;split at h
 ·rename_i d g len;unfold A4 at h;split at h
  ·rename_i c_ aU bP ex aO;split at h
   ·rename_i ag;obtain⟨rfl,bf,rfl,rfl⟩:=ag;simp only[bg,bw]at h;obtain⟨rfl,rfl⟩:=h;exact .inr ⟨d,g,bP,ex,rfl,aO,bf,rfl,rfl⟩
   ·cases h
  ·exact .inl (Td ap iZ h)
 ·exact .inl (Td ap iZ h)
def xb{k:cN}{v:Value}(h:a6 ad ab H (.x k) v):kO ab H k v:=by cases h;assumption
def ajk(ap:b5 E ad ab H w){t:TypeId}{c g r:Nat}{v:U}{y x:Value}{an:aa}(H0:fG E.P t=some 1)(pd:one v=true)(ds:kO ab H (.e c g r) y)(iZ:a6 ad ab H v x)(h:wC H c g r v H[c]?=some an):
  ∃aq,(xa t y x).run E.P w=.ok () aq∧ci E ad ab H w an aq λ _ _=>True:=by
 unfold wC at h;split at h;rotate_left
 ·cases h
 rename_i z g0 dh ha u1;unfold wB at h;split at h;rotate_left
 ·cases h
 rename_i q H1 bX;split at h;rotate_left
 ·cases h
 rename_i fl g1 s rows uZ;split at h;rotate_left
 ·cases h
 rename_i ag;obtain⟨rfl,ah⟩:=ag;simp only[bg]at h;subst h;have lJ:x.oneCell'=true:=Ht iZ pd;rcases Te ap iZ bX with⟨a,rfl,bY⟩|⟨d,g2,bP,ex,rfl,aM,bf,rfl,rfl⟩
 ·obtain⟨ef,dW,dm,lN,gW,aA⟩:=bY;have Mr:=xb (gW _ _ (.x _ _ ds (.ne nofun)));have au:=(Mr.2.2 _ _ _ _ uZ).2 rfl
  let aB:b8:=λ i=>if i=⟨c,r+1⟩then none else dW i
  have lh:∀i b n,aB i=some (b,n)→dW i=some (b,n):=by
   intro i b n h;simp only[aB]at h;split at h
   ·cases h
   ·exact h
  obtain⟨aq,bG,bC⟩:=Tb dm (t:=t) (aB:=aB) (y:=.dK a) (oq:=H1) uZ ah H0 lJ au rfl (λ e he=>.inl ⟨rfl,λ q=>by simp[aB,he]⟩) (by simp[aB]) (λ q bm=>by simp[aB,bm])
   (λ i b n h=>⟨⟨_,_,lh _ _ _ h⟩,(dm.sep _ _ _ (lh _ _ _ h)).2.2⟩) (λ i ac b n dP j I=>dm.inj _ _ _ _ _ (lh _ _ _ j) (lh _ _ _ I)) (λ _ _=>aA)
  obtain⟨eY,ev,tH,sI,gB,_⟩:=bC;exact⟨aq,bG,eY,ev,tH,lN.trans sI,gW.trans gB,trivial⟩
 ·have eF:d≠c:=by rintro rfl;rw[aM]at u1;cases u1
  have nl:H[c]?=some (.az fl g s rows):=by rw[dw eF]at uZ;exact uZ
  have ajl:fl=z:=by rw[nl]at u1;cases u1;rfl
  subst ajl;have au:=(ds.2.2 _ _ _ _ nl).2 rfl;have ch:c<H.length:=(bF.1 nl).1
  let aB:b8:=λ i=>if i=⟨c,r+1⟩then ab ⟨d,0⟩else if i=⟨d,0⟩then none else ab i
  have u2:∀i b n,aB i=some (b,n)→(i=⟨c,r+1⟩∧ab ⟨d,0⟩=some (b,n))∨(i≠⟨c,r+1⟩∧i≠⟨d,0⟩∧ab i=some (b,n)):=by
   intro i b n h;simp only[aB]at h;split at h
   ·rename_i ax;exact .inl ⟨ax,h⟩
   ·rename_i ax;split at h
    ·cases h
    ·rename_i yQ;exact .inr ⟨ax,yQ,h⟩
  refine Tb ap (t:=t) (aB:=aB) (y:=.own bP) (oq:=H.set d .gone) nl ah H0 lJ au (by simp) (λ e he=>?_) (by simp[aB,a' eF]) (λ q bm=>by simp[aB,bm]) (λ i b n h=>?_) (λ i ac b n dP j I=>?_) (λ aq hw=>?_)
  ·by_cases pf:e=d
   ·subst pf;exact .inr ⟨by simp[(bF.1 aM).1],by simp[aB,eF]⟩
   ·exact .inl ⟨by rw[dw (a' pf)],λ q=>by simp[aB,he,pf]⟩
  ·rcases u2 _ _ _ h with⟨rfl,j⟩|⟨_,_,j⟩
   ·exact⟨⟨_,_,j⟩,ch⟩
   ·exact⟨⟨_,_,j⟩,(ap.sep _ _ _ j).2.2⟩
  ·rcases u2 _ _ _ j with⟨rfl,ao⟩|⟨cm,cy,ao⟩
   ·rcases u2 _ _ _ I with⟨rfl,aH⟩|⟨fc,iW,aH⟩
    ·rfl
    ·exact absurd (ap.inj _ _ _ _ _ aH ao) iW
   ·rcases u2 _ _ _ I with⟨rfl,aH⟩|⟨fc,iW,aH⟩
    ·exact absurd (ap.inj _ _ _ _ _ ao aH) cy
    ·exact ap.inj _ _ _ _ _ ao aH
  ·refine Tc ap aM bf iZ (by simp[aB]) λ b n h=>hw b λ dP h1=>?_
   exact eF (ap.aiD h h1)
def Tf:∀{l:List U} {xs:List aC},kK l=some xs→l=kH xs
 |[],xs,h=>by simp only[kK,bg]at h;subst h;rfl
 |a::l,xs,h=>by
  cases a with
  |i x=>simp only[kK,c0]at h;obtain⟨cP,aY,rfl⟩:=h;rw[Tf aY];rfl
  |_=>simp[kK]at h
def ajm(ap:b5 E ad ab H w){t:TypeId}{n c g s r i k:Nat}{v:U}{y x:Value}{an:aa}(aE:fG E.P t=some n)(sK:(cw v).length=n)(pd:(cw v).all one=true)(ds:kO ab H (.p c g s r i k) y)(iZ:a6 ad ab H v x)
  (h:wD E H t n c g s r i k v H[c]?=some an):∃aq,(xa t y x).run E.P w=.ok () aq∧ci E ad ab H w an aq λ _ _=>True:=by
 unfold wD at h;split at h;rotate_left
 ·cases h
 rename_i z aU dD rows aO;split at h;rotate_left
 ·cases h
 rename_i ag;obtain⟨rfl,rfl,ay⟩:=ag;split at h;rotate_left
 ·cases h
 rename_i bP ah;split at h;rotate_left
 ·cases h
 rename_i row xs bX Ms;simp only[bg]at h;subst h;have ch:c<H.length:=(bF.1 aO).1;have fj:r<rows.length:=(bF.1 ah).1;have y2:=(bF.1 bX).1;obtain⟨fl,z2,z3⟩:=tD iZ pd;obtain⟨b,m,cb,rfl⟩:=(ds.2.2 _ _ _ _ aO).2 rfl rfl _ ah y2;have p5:=Tf Ms;have ajn:xs.length=n:=by rw[←sK,p5];simp[kH]
 have y5:xs.length=n∧∀(ac:Nat) (q:aC),xs[ac]?=some q→dl ad q (x.cells.getD ac undef):=⟨ajn,λ ac q bm=>iA (z2 ac (.i q) (by rw[p5];simp[kH,bm]))⟩;obtain⟨lJ,yN⟩:=Mp (br:=E.kinds t) y5;generalize hO (E.kinds t) xs=cP at*;rcases ap.b6 _ _ aO with⟨_,aW⟩|⟨cT,w7,c6,Mh,HO,sG,Mi,Mj,Bs⟩
 ·subst aW;simp at ah
 obtain⟨hq,fi⟩:=Bs _ _ ah;rcases fi with⟨rfl,_⟩|⟨bR,cs,elem,bj,gV,bh,hw,gH,bf,eh⟩
 ·simp at y2
 rw[cb]at gV;cases gV;have ajo:=hq _ _ bX;have hn:i*z+z≤cs.size:=by obtain⟨cap,_,c4,eN⟩:=bh;have:(i+1)*z≤cap*z:=jX _ R;rw[hc]at this;omega
 have rU:∀q∈x.cells.toList,q.oneCell'=true:=by intro q bm;obtain⟨ac,a_,rfl⟩:=Es bm;have:=z3 ac (by simpa using a_);simpa[di,show ac<x.cells.size by simpa using a_]using this
 have tJ:x.cells.size=n:=by rw[fl,sK]
 obtain⟨aq,hC,j,I,av,ba,bs,dq,gn,gP,gp⟩:=u0 E.P b (i*z+k) elem bj x.cells.toList 0 cs w hw gH (by simp;omega) rU;refine⟨aq,by simp[xa,yL,storeVar,(gG aE w).1,tJ,j],?_⟩;have kp:∀ac,hC.getD ac undef=if i*z+k≤ac∧ac<i*z+k+n then x.cells.getD (ac-(i*z+k)) undef else cs.getD ac undef:=by
  intro ac;rw[di,gp];simp only[e7,uW,tJ];split
  ·rw[mH,di]
  ·rw[di]
 have H2:∀(ac:Nat) (d:bT),(rows.set r (.own (bP.set i (row.take k++cP++row.drop (k+n)))))[ac]?=some d→(ac=r∧d=.own (bP.set i (row.take k++cP++row.drop (k+n))))∨(ac≠r∧rows[ac]?=some d):=by
  intro ac d a_;by_cases Et:ac=r
  ·subst Et;rw[kl fj]at a_;cases a_;exact .inl ⟨rfl,rfl⟩
  ·rw[dw (a' Et)]at a_;exact .inr ⟨Et,a_⟩
 have fQ:∀(ac:Nat) (hk:List aC),(bP.set i (row.take k++cP++row.drop (k+n)))[ac]?=some hk→(ac=i∧hk=row.take k++cP++row.drop (k+n))∨(ac≠i∧bP[ac]?=some hk):=by
  intro ac hk a_;by_cases qN:ac=i
  ·subst qN;rw[kl y2]at a_;cases a_;exact .inl ⟨rfl,rfl⟩
  ·rw[dw (a' qN)]at a_;exact .inr ⟨qN,a_⟩
 refine Ep ap (aB:=ab) (λ e he=>?_) (by simp) (λ hm e q bm=>?_) (λ dz _ aE=>av dz λ e=>aE _ _ (e▸cb)) (by rw[ba];exact cL _) bs dq gn (λ i dz n h=>.inr ⟨_,_,h⟩)
  (λ i dz n h=>by have:=ap.sep _ _ _ h;exact⟨by rw[ba];exact this.2.1,by simpa using this.2.2⟩) ap.inj (λ _=>trivial)
 ·by_cases jB:e=c
  ·subst jB;intro q bm;rcases fx bm with⟨_,rfl⟩|⟨ao,_⟩
   ·intro c_ aU dD eB lc;rcases fx lc with⟨_,aH⟩|⟨aH,_⟩
    ·cases aH;refine .inl ⟨s,rows,aO,rfl,by simp,.inr ⟨rfl,λ ac pW a_=>?_⟩⟩;rcases H2 _ _ a_ with⟨rfl,bN⟩|⟨_,Eu⟩
     ·cases bN;exact⟨bP,ah,by simp,rfl⟩
     ·exact⟨pW,Eu,rfl,rfl⟩
    ·exact absurd rfl aH
   ·exact absurd rfl ao
  ·exact iX.same (by rw[dw (a' jB)]) (λ _=>rfl)
 ·rcases fx bm with⟨rfl,rfl⟩|⟨jB,ajp⟩
  ·have e9:cT≠b:=by rintro rfl;have:=ap.inj _ _ _ _ _ cb HO;simp at this
   refine .inr ⟨cT,w7,c6,Mh,HO,by rw[av cT e9];exact sG,Mi,by simpa using Mj,λ ac d a_=>?_⟩;rcases H2 _ _ a_ with⟨rfl,rfl⟩|⟨Et,Eu⟩
   ·refine⟨λ y7 ajq mb=>?_,.inr ⟨b,hC,elem,bj,by rw[gP];exact cb,?_,I,by rw[gP];exact gH,bf,λ y7 ajq fK a mb aA=>?_⟩⟩
    ·rcases fQ _ _ mb with⟨rfl,rfl⟩|⟨_,h⟩
     ·simp[lJ,ajo];omega
     ·exact hq _ _ h
    ·rw[gP,jC];exact bh
    ·rcases fQ _ _ mb with⟨rfl,rfl⟩|⟨nj,h⟩
     ·rw[kp];by_cases ao:fK<k
      ·rw[if_neg R];rw[dU,ei (by simp;omega),nJ,if_pos ao]at aA;exact eh _ _ _ _ bX aA
      ·by_cases aH:fK<k+n
       ·rw[if_pos R,show y7*z+fK-(y7*z+k)=fK-k by omega];rw[dU,hd (by simp;omega),ei (by simp;omega)]at aA;have bN:fK-(ek k row).length=fK-k:=by simp;omega
        rw[bN]at aA;exact yN _ _ aA
       ·rw[if_neg R];rw[dU,hd (by simp;omega),hd (by simp;omega),rQ]at aA;have bN:k+n+(fK-(ek k row).length-cP.length)=fK:=by simp;omega
        rw[bN]at aA;exact eh _ _ _ _ bX aA
     ·rw[kp];have Mt:fK<z:=by have:=(bF.1 aA).1;rw[hq _ _ h]at this;exact this
      rw[if_neg]
      ·exact eh _ _ _ _ h aA
      ·rcases Nat.lt_or_gt_of_ne nj with ao|ao
       ·have:(y7+1)*z≤i*z:=jX _ ao;rw[hc]at this;omega
       ·have:(i+1)*z≤y7*z:=jX _ ao;rw[hc]at this;omega
   ·refine(Bs _ _ Eu).mono rfl (λ _ _ h=>h) λ dz gi h=>av dz ?_
    rintro rfl;have:=ap.inj _ _ _ _ _ h cb;simp at this;exact Et this
  ·refine(ap.b6 _ _ ajp).mono (λ _=>rfl) (λ _ _ h=>h) hm λ q dz n h=>av dz ?_
   rintro rfl;exact jB (congrArg fb.c (ap.inj _ _ _ _ _ h cb))
def ajr(ap:b5 E ad ab H w){t:TypeId}{n:Nat}{q:cN}{v:U}{y x:Value}{an:aa}(aE:fG E.P t=some n)(sK:(cw v).length=n)(pd:(cw v).all one=true)(ds:kO ab H q y)(iZ:a6 ad ab H v x)
  (h:pQ E H t n v q=some an):∃aq,(xa t y x).run E.P w=.ok () aq∧ci E ad ab H w an aq λ _ _=>True:=by
 cases q with
 |d=>cases h
 |h=>cases h
 |p c g s r i k=>exact ajm ap aE sK pd ds iZ h
 |e c g r=>
  simp only[pQ]at h;split at h
  ·rename_i j;subst j;have b9:one v=true:=by
    cases v with
    |agg cells=>
     exfalso;unfold wC at h;split at h
     ·unfold wB pP tq freeze at h;simp at h
     ·cases h
    |dead=>simp[cw,one]at pd
    |bd=>simp[cw,one]at pd
    |_=>rfl
   exact ajk ap aE b9 ds iZ h
  ·cases h
def Tg{br:List (Option Nat)}:∀{hr:List Nat} {H H1:aa} {cs cs':List U},jh br hr H cs=some (cs',H1)→cs'.length=cs.length
 |[],H,H1,cs,cs',h=>by simp only[jh,bg,bw]at h;rw[h.1]
 |ac::r,H,H1,cs,cs',h=>by
  simp only[jh]at h;split at h
  ·split at h
   ·rw[Tg h];simp
   ·cases h
  ·cases h
def Mu{br:List (Option Nat)}:∀{hr:List Nat} {ad:b'} {ab:b8} {H H1:aa} {w:World} {cs cs':List U} {cP:Array Value},b5 E ad ab H w→a6 ad ab H (.agg cs) (.agg cP)→jh br hr H cs=some (cs',H1)→
  ci E ad ab H w H1 w λ aL aB=>a6 aL aB H1 (.agg cs') (.agg cP)
 |[],ad,ab,H,H1,w,cs,cs',cP,ap,r,h=>by simp only[jh,bg,bw]at h;obtain⟨rfl,rfl⟩:=h;exact .refl ap r
 |ac::hr,ad,ab,H,H1,w,cs,cs',cP,ap,r,h=>by
  simp only[jh]at h;split at h
  ·rename_i a aA;split at h
   ·rename_i x bu aI;cases r with
    |agg _ _ al ah=>
     refine(yZ ap (ah ac a aA) aI).trans λ ef dW dm _ hm ak=>Mu dm (.agg _ _ (by simp[al]) λ k b ay=>?_) h
     by_cases Th:ac=k
     ·subst Th;have be:ac<cs.length:=(bF.1 aA).1;rw[kl be]at ay;cases ay;exact .i _ _ (y1 ak)
     ·rw[dw Th]at ay;exact hm _ _ (ah k b ay)
   ·cases h
  ·cases h
def Ti(ap:b5 E ad ab H w){t:TypeId}{v v1:U}{y:Value}{hr:List Nat}{H1:aa}(h:kj E t H v hr=some (v1,H1))(r:a6 ad ab H v y):ci E ad ab H w H1 w λ aL aB=>a6 aL aB H1 v1 y:=by
 cases hr with
 |nil=>simp only[kj,bg,bw]at h;obtain⟨rfl,rfl⟩:=h;exact .refl ap r
 |cons ac hr=>
  simp only[kj,uN]at h;split at h
  ·rename_i cs bu aI;simp only[bg,bw]at h;obtain⟨rfl,rfl⟩:=h;have one:∀a:U,cw a=[a]→jh (E.kinds t) (ac::hr) H (cw a)=some (cs,bu)→(∀l,wE a l=l.headD a)→a6 ad ab H a y→ci E ad ab H w bu w λ aL aB=>a6 aL aB bu (wE a cs) y:=by
    intro a aA aI Mv e8;rw[aA]at aI;have hlen:=Tg aI;refine(Mu (cP:=#[y]) ap (.agg _ _ rfl λ k b ay=>?_) aI).imp λ aL aB _ _ ah=>?_
    ·cases k with
     |zero=>simp only[p6,bg]at ay;subst ay;exact e8
     |succ k=>simp at ay
    ·match cs,hlen,ah with
     |[c],_,ah=>
      cases ah with
      |agg _ _ _ h=>rw[Mv];exact h 0 c rfl
   cases v with
   |agg cells=>
    cases r with
    |agg _ cP al ah=>exact Mu ap (.agg _ _ al ah) aI
   |dead=>exact one _ rfl aI (λ _=>rfl) r
   |i x=>exact one _ rfl aI (λ _=>rfl) r
   |ref c g ai n=>exact one _ rfl aI (λ _=>rfl) r
   |ptr c g q k=>exact one _ rfl aI (λ _=>rfl) r
   |dv c=>exact one _ rfl aI (λ _=>rfl) r
   |x k=>exact one _ rfl aI (λ _=>rfl) r
   |aQ fn a b=>exact one _ rfl aI (λ _=>rfl) r
   |bd l=>exact one _ rfl aI (λ _=>rfl) r
  ·cases h
def ajs(ap:b5 E ad ab H w){t:TypeId}{p v:U}{y z:Value}{an:aa}(h:nD E H t p v=some an)(ds:a6 ad ab H p y)(iZ:a6 ad ab H v z):
  ∃aq,(xa t y z).run E.P w=.ok () aq∧ci E ad ab H w an aq λ _ _=>True:=by
 unfold nD at h;split at h;rotate_left
 ·cases h
 rename_i n aE;split at h;rotate_left
 ·cases h
 rename_i ag;obtain⟨gI,ff⟩:=ag;obtain⟨fl,z2,z3⟩:=tD iZ ff;split at h
 ·rename_i k;exact ajr ap aE gI ff (xb ds) iZ h
 rotate_left
 ·cases h
 rename_i c g r k;have rU:∀x∈z.cells.toList,x.oneCell'=true:=by intro x ak;obtain⟨ac,a_,rfl⟩:=Es ak;have:=z3 ac (by simpa using a_);simpa[di,show ac<z.cells.size by simpa using a_]using this
 have tJ:z.cells.size=n:=by rw[fl,gI]
 have run:∀(a:Addr) (aq:World),(storeCells a z.cells.toList 0).run E.P w=.ok () aq→(xa t (.pointer (some a)) z).run E.P w=.ok () aq:=by intro a aq ah;simp[xa,yL,storeVar,(gG aE w).1,tJ,ah]
 split at h
 ·rename_i cells aO;split at h
  ·rename_i ay;simp only[bg]at h;subst h;cases ds with
   |ptr c g r k hb kR aj aR aI ax au aP=>
    obtain⟨b,m,cb,rfl⟩:=aj _ aO;obtain⟨bR,cs,elem,bj,gV,hw,gH,eu,eh⟩:=ap.b6 _ _ aO;rw[cb]at gV;cases gV;obtain⟨aq,hC,j,I,av,ba,bs,dq,gn,gP,gp⟩:=u0 E.P b k elem bj z.cells.toList 0 cs w hw gH (by simp;omega) rU;refine⟨aq,run _ _ j,wrote ap cb aO av ba bs dq gn ?_ (λ hm=>?_) (λ _=>trivial)⟩
    ·intro y aY;rcases fx aY with⟨_,rfl⟩|⟨e,_⟩
     ·exact .inl ⟨cells,aO,rfl⟩
     ·exact absurd rfl e
    ·refine⟨b,hC,elem,bj,by rw[gP];exact cb,I,by rw[gP];exact gH,by rw[gP,eu,Mb R],λ ac a aA=>hm _ _ ?_⟩;rw[SX R]at aA;have kp:hC.getD ac undef=if k≤ac∧ac<k+n then z.cells.getD (ac-k) undef else cs.getD ac undef:=by
      rw[di,gp];simp only[e7,uW,tJ];split
      ·rw[mH,di]
      ·rw[di]
     rw[kp];rw[gI]at aA;split at aA
     ·rename_i a_;rw[if_pos a_];exact z2 _ _ aA
     ·rename_i a_;rw[if_neg a_];exact eh _ _ aA
  ·cases h
 ·rename_i u1;split at h;rotate_left
  ·cases h
  rename_i xs H1 gK;split at h;rotate_left
  ·cases h
  rename_i aw aU rows ex aO;split at h;rotate_left
  ·cases h
  rename_i aP;obtain⟨rfl,aQq⟩:=aP;split at h;rotate_left
  ·cases h
  rename_i row bX;simp only[bg]at h;subst h;obtain⟨ef,dW,dm,lN,gW,ajt⟩:=HU ap (λ k=>z.cells.getD k undef) z2 gK;obtain⟨lJ,yN⟩:=Mp (br:=E.kinds t) ajt;generalize hO (E.kinds t) xs=xs at*;have Mr:=gW _ _ ds;cases Mr with
  |ptr c g r k hb kR aj aR aI ax au aP=>
   obtain⟨b,m,cb,rfl⟩:=aR _ _ _ aO;obtain⟨bf,hq,av⟩:=dm.b6 _ _ aO;rcases av with⟨bs,_⟩|⟨bR,cs,elem,bj,bs,hw,gH,hle,rS,eh⟩
   ·rw[cb]at bs;cases bs
   ·rw[cb]at bs;cases bs;have ah:=(bF.1 bX).1;have fj:=hq _ _ bX;have hn:r*aw+aw≤cs.size:=by have:(r+1)*aw≤rows.length*aw:=jX _ ah;rw[hc]at this;omega
    obtain⟨aq,hC,j,I,av,ba,bs,dq,gn,gP,gp⟩:=u0 E.P b (r*aw+k) elem bj z.cells.toList 0 cs w hw gH (by simp;omega) rU;refine⟨aq,run _ _ j,?_⟩;have kp:∀ac,hC.getD ac undef=if r*aw+k≤ac∧ac<r*aw+k+n then z.cells.getD (ac-(r*aw+k)) undef else cs.getD ac undef:=by
     intro ac;rw[di,gp];simp only[e7,uW,tJ];split
     ·rw[mH,di]
     ·rw[di]
    have aju:xs.length=n:=by rw[lJ,gI]
    have key:ci E ef dW H1 w (H1.set c (.sl aw g (rows.set r (row.take k++xs++row.drop (k+n))) ex)) aq λ _ _=>True:=by
     refine wrote dm cb aO av ba bs dq gn ?_ (λ hm=>?_) (λ _=>trivial)
     ·intro y aY;rcases fx aY with⟨_,rfl⟩|⟨e,_⟩
      ·exact .inl ⟨rows,ex,aO,rfl,by simp⟩
      ·exact absurd rfl e
     ·have fQ:∀(i:Nat) (hk:List aC),(rows.set r (row.take k++xs++row.drop (k+n)))[i]?=some hk→(i=r∧hk=row.take k++xs++row.drop (k+n))∨(i≠r∧rows[i]?=some hk):=by
       intro i hk ax;by_cases nj:i=r
       ·subst nj;rw[kl R]at ax;cases ax;exact .inl ⟨rfl,rfl⟩
       ·rw[dw (a' nj)]at ax;exact .inr ⟨nj,ax⟩
      refine⟨bf,λ i hk ax=>?_,.inr ⟨b,hC,elem,bj,by rw[gP];exact cb,I,by rw[gP];exact gH,by rw[gP,jC];exact hle,λ he=>by rw[gP,jC];exact rS he,λ i hk fK a ax aA=>?_⟩⟩
      ·rcases fQ _ _ ax with⟨_,rfl⟩|⟨_,h⟩
       ·simp[aju,fj];omega
       ·exact hq _ _ h
      ·rcases fQ _ _ ax with⟨rfl,rfl⟩|⟨nj,h⟩
       ·rw[kp];by_cases ao:fK<k
        ·rw[if_neg R];rw[dU,ei (by simp;omega),nJ,if_pos ao]at aA;exact eh _ _ _ _ bX aA
        ·by_cases aH:fK<k+n
         ·rw[if_pos R,show i*aw+fK-(i*aw+k)=fK-k by omega];rw[dU,hd (by simp;omega),ei (by simp;omega)]at aA;have bN:fK-(ek k row).length=fK-k:=by simp;omega
          rw[bN]at aA;exact yN _ _ aA
         ·rw[if_neg R];rw[dU,hd (by simp;omega),hd (by simp;omega),rQ]at aA;have bN:k+n+(fK-(ek k row).length-xs.length)=fK:=by simp;omega
          rw[bN]at aA;exact eh _ _ _ _ bX aA
       ·rw[kp];have Mt:fK<aw:=by have:=(bF.1 aA).1;rw[hq _ _ h]at this;exact this
        rw[if_neg]
        ·exact eh _ _ _ _ h aA
        ·rcases Nat.lt_or_gt_of_ne nj with ao|ao
         ·have:(i+1)*aw≤r*aw:=jX _ ao;rw[hc]at this;omega
         ·have:(r+1)*aw≤i*aw:=jX _ ao;rw[hc]at this;omega
    obtain⟨eY,ev,bG,bC,cE,_⟩:=key;exact⟨eY,ev,bG,lN.trans bC,gW.trans cE,trivial⟩
 ·cases h
end
section
variable{E:Env}{ad:b'}{ab:b8}{H:aa}{w:World}
def Tj{P:Program}{t:TypeId}{b:Nat}(h:tl P t=some b)(w:World):∃i,(typeInfo t).run P w=.ok i w∧i.bytes=b:=by simp only[tl,c0]at h;obtain⟨i,ax,rfl⟩:=h;exact⟨i,run_typeInfo w ax,rfl⟩
def zeroV{P:Program}{t:TypeId}{n:Nat}(h:fG P t=some n){row:List aC}(bf:Hm E t=some row)(lP:E.P=P)(w:World):
  ∃v,(zeroValue t).run P w=.ok v w∧km ad row v.cells∧v.cells.size=row.length:=by
 subst lP;unfold Hm at bf;split at bf
 ·rename_i cs o';obtain⟨v,j,I⟩:=w4 o' w;refine⟨v,j,?_⟩;have ah:a6 ad (λ _=>none) [] (.agg cs) v:=by rw[I];exact sD v
  obtain⟨cK,rfl,ao,aH⟩:=uS ah;have key:∀(cs:List U) (row:List aC),kK cs=some row→cs=row.map .i:=by
   intro cs;induction cs with
   |nil=>intro row h;simp[kK]at h;subst h;rfl
   |cons c cs a8=>intro row h;cases c<;>simp[kK]at h;obtain⟨r,ah,rfl⟩:=h;rw[a8 r ah];rfl
  have eS:=key _ _ bf;subst eS;refine⟨λ ac x ak=>iA (aH ac (.i x) (by simp[ak])),by simpa[tE]using ao⟩
 ·rename_i x o';cases bf;obtain⟨v,j,I⟩:=w4 o' w;have ah:a6 ad (λ _=>none) [] (.i x) v:=by rw[I];exact sD v
  have bh:=iA ah;have b9:=En bh;have ag:v.cells=#[v]:=by cases v<;>simp_all [tE,Ma]
  refine⟨v,j,?_,by rw[ag];rfl⟩;intro ac y aY;cases ac with
  |zero=>simp at aY;subst aY;rw[ag];exact bh
  |succ ac=>simp at aY
 ·cases bf
def ajv(n:Nat)(row:List aC):(cB n row).flatten.length=n*row.length:=by simp
def Tk(ap:b5 E ad ab H w){t:TypeId}{l c v:U}{y z:Value}{an:aa}(h:jg E H t l c=some (v,an))(ej:a6 ad ab H l y)(H3:a6 ad ab H c z):
  ∃x aq,(H4 t y z).run E.P w=.ok x aq∧ci E ad ab H w an aq λ aL aB=>a6 aL aB an v x:=by
 unfold jg at h;split at h;rotate_left
 ·cases h
 rename_i e k n dx m he;split at h;rotate_left
 ·cases h
 rename_i s row b aR bX aj;split at h;rotate_left
 ·split at h
  ·rename_i ag;obtain⟨rfl,ca,c3,fH,c5,li⟩:=ag;simp only[bg,bw]at h;obtain⟨rfl,rfl⟩:=h;rw[fv ej,fv H3];obtain⟨eK,H5,y8⟩:=Tj aj w;obtain⟨dX,j0,kq,u3⟩:=zeroV (ad:=ad) (E:=E) aR bX rfl w;have H6:nK.wrap m=m:=IntWalk.i64_in _ R;have ajw:nK.wrap 0=0:=IntWalk.i64_in _ R
   let cs:Array Value:=(HW (m.toNat*s)).map (dX.cells[·%dX.cells.size]!)
   have eS:cs.size=m.toNat*s:=by simp[cs]
   refine⟨.slice (some ⟨w.heap.size,0,none⟩) 0 m.toNat,{w with heap:=w.heap.push (.cells cs e)},?_,?_⟩
   ·have pg:¬(281474976710656<(b:Int)*m):=by have j:(b:Int)*m≤65536*m:=Int.mul_le_mul_of_nonneg_right R R;omega
    have H7:¬m<0:=R;have aW:¬m.toNat*s=0:=Nat.ne_of_gt (Nat.mul_pos R c5);simp[H4,run_underlying (h3 he),asInt,asIntOf,H5,y8,H6,ajw,H7,pg,(gG aR w).1,newRow,aW,j0,cs]
   ·exact y0 (aq:={w with heap:=w.heap.push (.cells cs e)}) (rows:=[]) (ex:=false) (n:=0) (cap:=m.toNat) ap rfl rfl rfl rfl c5 (λ i r h=>by simp at h) (λ i x h=>by simp at h) (by simp) (λ h=>by cases h) (pb _) (by simp) (by simp) (by rw[eS];exact cL _)
  ·cases h
 rename_i ag;obtain⟨b_,rfl,c3,fH,c5,li⟩:=ag;simp only[bg,bw]at h;obtain⟨rfl,rfl⟩:=h;rw[fv ej,fv H3];obtain⟨eK,H5,y8⟩:=Tj aj w;obtain⟨dX,j0,kq,u3⟩:=zeroV (ad:=ad) (E:=E) aR bX rfl w;have kq:km ad (hO (E.kinds e) row) dX.cells:=λ ac v bh=>by obtain⟨ai,y,aY,rfl⟩:=Mo _ _ _ _ bh;exact y1 (kq ac y aY)
 have u3:=u3.trans (HV (E.kinds e) row).symm;have fH:(hO (E.kinds e) row).length=s:=by rw[HV];exact fH
 clear bX;generalize hO (E.kinds e) row=row at*;have H6:nK.wrap n=n:=by exact IntWalk.i64_in _ R
 let cs:Array Value:=(HW (n.toNat*s)).map (dX.cells[·%dX.cells.size]!)
 refine⟨.slice (some ⟨w.heap.size,0,none⟩) n.toNat n.toNat,{w with heap:=w.heap.push (.cells cs e)},?_,?_⟩
 ·have pg:¬(281474976710656<(b:Int)*n):=by have j:(b:Int)*n≤65536*n:=Int.mul_le_mul_of_nonneg_right R b_;omega
  have H7:¬n<0:=R;by_cases aW:n.toNat*s=0
  ·have:cs=#[]:=by simp[cs,aW]
   rw[this];simp[H4,run_underlying (h3 he),asInt,asIntOf,H5,y8,H6,H7,pg,(gG aR w).1,newRow,aW]
   congr
   exact y9 (by simp)
  ·simp[H4,run_underlying (h3 he),asInt,asIntOf,H5,y8,H6,H7,pg,(gG aR w).1,newRow,aW,j0,cs]
 ·have hq:Flat s (cB n.toNat row):=by intro i r ax;have hm:=kn ax;rw[List.eq_of_mem_replicate hm];exact fH
  have eS:cs.size=n.toNat*s:=by simp[cs]
  refine y0 (aq:={w with heap:=w.heap.push (.cells cs e)}) (ex:=true) (n:=n.toNat) (cap:=n.toNat) ap rfl rfl rfl rfl c5 hq ?_ (by simp[eS]) (λ _=>by simp[eS]) (pb _) (by simp) (by simp) (by simp[eS]);intro ac x ak;subst fH;have a_:ac<n.toNat*row.length:=by have:=(bF.1 ak).1;rw[ajv]at this;exact this
  have ao:ac/row.length*row.length+ac%row.length=ac:=by rw[uT];exact yR _ _
  have aH:ac/row.length<n.toNat:=(HA c5).2 a_;have hm:ac%row.length<row.length:=Ei _ c5;rw[←ao,Hz row n.toNat _ _ aH hm]at ak;have I:cs.getD ac undef=dX.cells.getD (ac%row.length) undef:=by
   have HL:ac%row.length<dX.cells.size:=by rw[u3];exact hm
   rw[di,di];simp[cs,a_,u3];rw[getElem!_pos dX.cells _ HL,qM HL];rfl
  rw[I];exact kq _ _ ak
def ajx(ap:b5 E ad ab H w){s d e:TypeId}{l:List UInt8}(aR:hx E.P s=true)(aM:e0 E.P d=some e)(he:nB E.P e=some .u8)(al:l.length<1073741824):
  ∃x aq,(convert s d (.string ⟨⟨l⟩⟩)).run E.P w=.ok x aq∧ci E ad ab H w (H++[.sl 1 0 (l.map λ b=>[aC.v (.int .u8 b.toNat)]) false]) aq λ aL aB=>a6 aL aB (H++[.sl 1 0 (l.map λ b=>[aC.v (.int .u8 b.toNat)]) false]) (.ref H.length 0 0 l.length) x:=by
 let q:Question:=.appendCap l.length 0 e
 let cap:Nat:=q.cut (w.tape w.drawn q)
 have jZ:l.length≤cap:=by simp only[cap,q,Question.cut];omega
 let cs:Array Value:=(l.map λ b=>jW .u8 b.toNat).toArray++y_ (cap-l.length) (.int .u8 0)
 have eS:cs.size=cap:=by simp[cs];omega
 let f_:World:={w with heap:=w.heap.push (.cells cs e),drawn:=w.drawn+1}
 let fI:World:={w with heap:=w.heap.push (.cells cs e (cap,cap+1)),drawn:=w.drawn+1}
 refine⟨.slice (some ⟨w.heap.size,0,none⟩) l.length cap,fI,?_,?_⟩
 ·have ajy:(markStringish ⟨w.heap.size,0,none⟩).run E.P f_=.ok () fI:=by
   have yW:f_.shape? w.heap.size=some (e,cap):=by simp[World.shape?,f_,eS]
   simp only[markStringish,dT,run_shape,eg,yW,run_freeze]
   congr 1
   simp only[World.freeze,f_,fI];simp;apply Array.ext (by simp);intro i j I;simp only[Array.getElem_modify,Array.getElem_push];by_cases ax:i<w.heap.size
   ·simp[ax];intro av;omega
   ·have:i=w.heap.size:=by simp at I;omega
    subst this;simp
  have bm:q.forced=false:=rfl;simp only[convert,dT,run_underlying (rO aR),run_underlying (h3 aM),eg,run_underlying (Bf he),Conv.stringToBytes,run_choose,size_mk];show(Result.andThen (if q.forced then _ else _) _)=_;rw[bm];simp only[fF,if_false,eg,newRow,dT,run_newObj,eE];have w':({heap:=w.heap.push (.cells (Array.map (λ(b:UInt8)=>jW .u8 b.toNat) {toList:=l}++y_ (q.cut (w.tape w.drawn q)-l.length) (.int .u8 0)) e),tape:=w.tape,drawn:=w.drawn+1,os:=w.os,output:=w.output}:World)=f_:=by simp only[f_,cs,cap];simp
  rw[w',ajy];rfl
 ·refine y0 (aq:=fI) (aw:=1) (rows:=l.map λ b=>[aC.v (.int .u8 b.toNat)]) (ex:=false) (n:=l.length) (cap:=cap) ap rfl rfl rfl rfl R ?_ ?_ (by simp[eS];omega) (λ h=>by cases h) ?_ (by simp) (by simpa using jZ) (by simp[eS])
  ·intro i r ax;simp only[fw,c0]at ax;obtain⟨b,_,rfl⟩:=ax;rfl
  ·rw[HR];intro ac x ak;simp only[fw,c0]at ak;obtain⟨b,aj,rfl⟩:=ak;have:cs.getD ac undef=.int .u8 b.toNat:=by have a_:=(bF.1 aj).1;rw[di];simp[cs,xc,a_];have:=(bF.1 aj).2;rw[this]
   rw[this];exact .v _ rfl
  ·intro k ay h;rw[eS]at ay;simp at h;omega
def Tl(l:List UInt8):∀(n i:Nat) (acc:Array Value),Mw ⟨⟨l⟩⟩ n i acc=acc++((rG l n i).map (jW .i32)).toArray
 |0,i,acc=>by simp[Mw,rG]
 |n+1,i,acc=>by
  unfold Mw rG;rw[size_mk];split
  ·simp only;rw[Tl l n];simp
  ·simp
def ajz(ap:b5 E ad ab H w){s d e:TypeId}{l:List UInt8}(aR:hx E.P s=true)(aM:e0 E.P d=some e)(he:nB E.P e=some .i32)(al:(lD l).length<1073741824):
  ∃x aq,(convert s d (.string ⟨⟨l⟩⟩)).run E.P w=.ok x aq∧ci E ad ab H w (H++[.sl 1 0 (lD l) false]) aq λ aL aB=>a6 aL aB (H++[.sl 1 0 (lD l) false]) (.ref H.length 0 0 (lD l).length) x:=by
 let fQ:=rG l l.length 0
 have fj:(lD l).length=fQ.length:=by simp[lD,fQ]
 let q:Question:=.appendCap fQ.length 0 e
 let cap:Nat:=q.cut (w.tape w.drawn q)
 have jZ:fQ.length≤cap:=by simp only[cap,q,Question.cut];omega
 let cs:Array Value:=(fQ.map (jW .i32)).toArray++y_ (cap-fQ.length) (.int .i32 0)
 have eS:cs.size=cap:=by simp[cs];omega
 let f_:World:={w with heap:=w.heap.push (.cells cs e),drawn:=w.drawn+1}
 refine⟨.slice (some ⟨w.heap.size,0,none⟩) (lD l).length cap,f_,?_,?_⟩
 ·have bm:q.forced=false:=rfl;have lI:Mw ⟨⟨l⟩⟩ l.length 0 #[]=(fQ.map (jW .i32)).toArray:=by rw[Tl];simp[fQ]
  simp only[convert,dT,run_underlying (rO aR),run_underlying (h3 aM),eg,run_underlying (Bf he),Conv.stringToRunes,run_choose,size_mk,lI,H8,nM];show(Result.andThen (if q.forced then _ else _) _)=_;rw[bm];simp only[fF,if_false,eg,newRow,dT,run_newObj,eE];simp only[fj];rfl
 ·refine y0 (aq:=f_) (aw:=1) (rows:=lD l) (ex:=false) (n:=(lD l).length) (cap:=cap) ap rfl rfl rfl rfl R ?_ ?_ (by simp[eS];omega) (λ h=>by cases h) ?_ (by simp) (by simpa[fj]using jZ) (by simp[eS])
  ·intro i r ax;simp only[lD,fw,c0]at ax;obtain⟨b,_,rfl⟩:=ax;rfl
  ·unfold lD;rw[HR];intro ac x ak;simp only[fw,c0]at ak;obtain⟨b,aj,rfl⟩:=ak;have:cs.getD ac undef=.int .i32 b:=by have a_:=(bF.1 aj).1;rw[di];have ld:ac<fQ.length:=a_;simp[cs,xc,ld];exact(bF.1 aj).2
   rw[this];exact .v _ rfl
  ·intro k ay h;simp at h
def ajA(ap:b5 E ad ab H w){s d:TypeId}{l:List UInt8}{v:U}{an:aa}(aR:hx E.P s=true)(al:l.length<1073741824)(h:yE H l ((e0 E.P d).bind (nB E.P))=some (v,an)):
  ∃x aq,(convert s d (.string ⟨⟨l⟩⟩)).run E.P w=.ok x aq∧ci E ad ab H w an aq λ aL aB=>a6 aL aB an v x:=by
 cases aj:(e0 E.P d).bind (nB E.P)with
 |none=>rw[aj]at h;cases h
 |some k=>
  rw[aj]at h;simp only[Bo]at aj;obtain⟨e,he,ay⟩:=aj;unfold yE at h;split at h
  ·rename_i aN;cases aN;cases h;exact ajx ap aR he ay al
  ·rename_i aN;cases aN;cases h;refine ajz ap aR he ay (Nat.lt_of_le_of_lt ?_ al);have key:∀n i,(rG l n i).length≤n:=by
    intro n;induction n with
    |zero=>intro i;simp[rG]
    |succ n a8=>
     intro i;unfold rG;split
     ·simpa using a8 _
     ·simp
   simpa[lD]using key l.length 0
  ·cases h
def ajB(H9 cap:Nat)(h:cap<H9)(aE:H9<1073741824):H_ H9 cap≤4294967296:=by
 have grow:∀(r c:Nat),c≤2147483648→Builtin.growBy H9 r c≤4294967296:=by
  intro r;induction r with
  |zero=>intro c ag;simp only[Builtin.growBy];omega
  |succ r a8=>
   intro c ag;simp only[Builtin.growBy];split
   ·omega
   ·exact a8 _ R
 unfold H_;split
 ·omega
 ·split
  ·omega
  ·exact grow _ _ R
def Tm(z:Array Value)(n:Nat):(Ev z n).size=n*z.size:=by simp[Ev]
def H'(P:Program)(t:TypeId):Prop:=(∃e,P.underlying t=some (.slice e))∨P.underlying t=some .string
def Tn{P:Program}{t:TypeId}(h:(e0 P t).isSome=true∨hx P t=true):H' P t:=by
 rcases h with h|h
 ·obtain⟨e,he⟩:=Mx.1 h;exact .inl ⟨_,h3 he⟩
 ·exact .inr (rO h)
def To{t t2 d' e:TypeId}{z b:Nat}{y:Value}{base:Option Addr}{sl cap:Nat}{rows new:List (List aC)}{gL ew:Array Value}(he:e0 E.P t=some e)(bf:fG E.P e=some z)(aj:tl E.P e=some b)
  {lg:Value}(hzero:∀w,(zeroValue e).run E.P w=.ok lg w)
  (nN:H' E.P t2)(hlen:∀aq:World,aq.heap=w.heap→(qL y).run E.P aq=.ok new.length aq)(jZ:cap<sl+new.length)(pg:sl+new.length<1073741824)(e9:b≤65536)
  (hold:∀aq:World,aq.heap=w.heap→(iD z sl (.slice base sl cap)).run E.P aq=.ok gL aq)(fy:∀aq:World,aq.heap=w.heap→(iD z new.length y).run E.P aq=.ok ew aq)(tJ:lg.cells.size=z):
  ∃aq iE,(qO #[t,t2] d' #[.slice base sl cap,y]).run E.P w=.ok (.slice (some ⟨w.heap.size,0,none⟩) (sl+new.length) iE) aq∧sl+new.length≤iE∧
   aq.heap=w.heap.push (.cells (gL++ew++Ev lg.cells (iE-(sl+new.length))) e)∧aq.os=w.os∧aq.tape=w.tape∧aq.output=w.output:=by
 obtain⟨eK,Tp,y8⟩:∃i,(∀w,(typeInfo e).run E.P w=.ok i w)∧i.bytes=b:=by simp only[tl,c0]at aj;obtain⟨i,ax,rfl⟩:=aj;exact⟨i,λ w=>run_typeInfo w ax,rfl⟩
 let q:Question:=.appendCap (sl+new.length) cap e
 let iE:Nat:=q.cut (w.tape w.drawn q)
 have ajC:sl+new.length≤iE:=by simp only[iE,q,Question.cut];omega
 let f_:World:={w with drawn:=w.drawn+1}
 have ajD:=ajB _ _ jZ pg;have j:¬(sl+new.length≤cap):=R;have I:¬(H_ (sl+new.length) cap*b>2^48):=by have:H_ (sl+new.length) cap*b≤4294967296*65536:=Nat.mul_le_mul ajD e9;omega
 have av:¬(((sl+new.length:Nat):Int)>nK.max):=by
  have:nK.max=9223372036854775807:=by decide
  omega
 refine⟨w.drew.alloc (.cells (gL++ew++Ev lg.cells (iE-(sl+new.length))) e),iE,?_,ajC,rfl,rfl,rfl,rfl⟩;have bm:q.forced=false:=rfl;have Ew:¬(281474976710656<H_ (sl+new.length) cap*b):=I;have Ex:¬(9223372036854775807<(sl:Int)+new.length):=R;have kQ:(choose (.appendCap (sl+new.length) cap e)).run E.P w=.ok iE w.drew:=by rw[run_choose];show(if q.forced=true then _ else _)=_;rw[bm];rfl
 rcases nN with⟨aH,me⟩|me
 ·simp[qO,run_underlying (h3 he),(gG bf w).1,run_underlying me,hlen w rfl,j,Ex,Ew,Tp,y8,-run_choose,kQ,hold w.drew rfl,fy w.drew rfl,hzero,newRow]
 ·simp[qO,run_underlying (h3 he),(gG bf w).1,run_underlying me,hlen w rfl,j,Ex,Ew,Tp,y8,-run_choose,kQ,hold w.drew rfl,fy w.drew rfl,hzero,newRow]
def Tq{t t2 d' e:TypeId}{z:Nat}{y:Value}{b ai sl cap:Nat}{n:Nat}{ew:Array Value}(he:e0 E.P t=some e)(bf:fG E.P e=some z)
  (nN:H' E.P t2)(hlen:(qL y).run E.P w=.ok n w)(jZ:sl+n≤cap)(fy:(iD z n y).run E.P w=.ok ew w)
  {aq:World}(gU:(storeCells ⟨b,ai+sl*z,none⟩ ew.toList).run E.P w=.ok () aq):
  (qO #[t,t2] d' #[.slice (some ⟨b,ai,none⟩) sl cap,y]).run E.P w=.ok (.slice (some ⟨b,ai,none⟩) (sl+n) cap) aq:=by
 rcases nN with⟨aH,me⟩|me
 ·simp[qO,run_underlying (h3 he),(gG bf w).1,run_underlying me,hlen,jZ,fy,lb,gU]
 ·simp[qO,run_underlying (h3 he),(gG bf w).1,run_underlying me,hlen,jZ,fy,lb,gU]
def Ey{t t2 d' e:TypeId}{z:Nat}{y:Value}{a:Option Addr}{sl cap:Nat}(he:e0 E.P t=some e)(bf:fG E.P e=some z)
  (nN:H' E.P t2)(hlen:(qL y).run E.P w=.ok 0 w)(jZ:sl≤cap)(fy:(iD z 0 y).run E.P w=.ok #[] w):
  (qO #[t,t2] d' #[.slice a sl cap,y]).run E.P w=.ok (.slice a sl cap) w:=by
 rcases nN with⟨aH,me⟩|me
 ·cases a<;>simp[qO,run_underlying (h3 he),(gG bf w).1,run_underlying me,hlen,jZ,fy,storeCells]
 ·cases a<;>simp[qO,run_underlying (h3 he),(gG bf w).1,run_underlying me,hlen,jZ,fy,storeCells]
end
section
variable{E:Env}{ad:b'}{ab:b8}{H:aa}{w:World}
def Tr:∀{rows:List (List aC)} {l:List Int},rA rows=some l→rows.length=l.length∧rows.flatten=l.map λ n=>aC.v (.int .u8 n)
 |[],l,h=>by simp only[rA,bg]at h;subst h;simp
 |r::rows,l,h=>by
  unfold rA at h;split at h
  ·rename_i e;cases e
  ·rename_i n hk e;simp only[Bu]at e;obtain⟨rfl,rfl⟩:=e;simp only[c0]at h;obtain⟨m,hm,rfl⟩:=h;obtain⟨j,I⟩:=Tr hm;simp[j,I]
  ·cases h
def ajE(ap:b5 E ad ab H w){s d e:TypeId}{x v:U}{y:Value}(aR:e0 E.P s=some e)(h:AZ E H e d x=some v)(r:a6 ad ab H x y):∃u,(convert s d y).run E.P w=.ok u w∧a6 ad ab H v u:=by
 unfold AZ at h;split at h;rotate_left
 ·cases h
 rename_i ag;split at h;rotate_left
 ·cases h
 rename_i z rows ex bX;split at h;rotate_left
 ·cases h
 rename_i bf;simp only[c0]at h;obtain⟨l,al,rfl⟩:=h;have ph:kL H x=some (z,rows,ex):=by
  cases x with
  |i u=>cases u with
   |str l=>simp[hH]at bX
   |_=>exact bX
  |_=>exact bX
 obtain⟨cs,b_,ca,c3,fH,c5⟩:=Ml (P:=E.P) ap r ph bf (Nat.lt_add_one 0);obtain⟨f',gi⟩:=Tr al;have aY:∃a cap,y=.slice a rows.length cap:=by
  cases x with
  |i u=>cases u with
   |sl aw eB fY=>simp only[hH,bg,bw]at bX;obtain⟨rfl,rfl,rfl⟩:=bX;exact El (iA r)
   |_=>simp[hH]at bX
  |ref c g off len=>obtain⟨a,cap,rfl⟩:=L' r;have:=b_ w;simp only[qL,eE,Result.ok.injEq]at this;exact⟨a,cap,by rw[this.1]⟩
  |_=>simp[hH]at bX
 obtain⟨a,cap,rfl⟩:=aY;have eS:cs=(l.map (jW .u8)).toArray:=by
  apply Array.ext
  ·rw[c3];simp[f']
  ·intro ac j I;have a_:ac<l.length:=by simpa using I
   have av:=fH ac (.v (.int .u8 l[ac])) (by rw[gi];simp[a_]);rw[di,qM j,i1]at av;generalize cs[ac]=q at av⊢;cases av;simp
 rw[run_convert_bytes_string w s d e a rows.length cap (h3 aR) (Bf ag.2) (rO ag.1)];cases a with
 |none=>
  have hD:=ca w rfl;simp only[iD,eE,Result.ok.injEq,and_true]at hD;rw[eS]at hD;have:l=[]:=by
   cases l with
   |nil=>rfl
   |cons a l=>have:=congrArg Array.size hD;simp at this
  subst this;exact⟨_,rfl,Be⟩
 |some a=>
  have hD:=ca w rfl;simp only[iD,HC]at hD;rw[eS]at hD;rw[run_bytesToString w a rows.length cap l hD,foldl_push_bytes];refine⟨_,rfl,?_⟩;have:=Be (ad:=ad) (ab:=ab) (H:=H) (l:=l.map λ n=>hI n.toNat);have e:∀a:Array UInt8,ByteArray.empty.data++a=a:=λ a=>by have aW:ByteArray.empty.data=#[]:=rfl;rw[aW];simp
  rw[e];exact this
def Ts(n:Int)(zero:Option U):∀(l:List MapEntry) (es:List (Int×Nat)) (i:Nat),l.map (λ e=>(e.key,e.val))=es.map (λ p=>(jW .i64 p.1,D9 (.func p.2) #[] #[]))→
  (p7 (.int .i64) (.int .i64 n) l i=some none∧sw zero n es=sw zero n [])∨∃ac f,p7 (.int .i64) (.int .i64 n) l i=some (some (ac,.func (.func f) #[] #[]))∧sw zero n es=some (.bd [.aQ (.func f) [] [],.bool true])
 |[],[],i,h=>.inl ⟨rfl,rfl⟩
 |e::l,p::es,i,h=>by
  simp only[fh,Bu,bw]at h;obtain⟨⟨j,I⟩,av⟩:=h;obtain⟨k,f⟩:=p;simp only at j I;unfold p7;rw[j];simp only[My,if_true];by_cases aE:n=k
  ·subst aE;refine .inr ⟨i,f,by simp[I],by rw[sw,if_pos rfl]⟩
  ·have aj:(n==k)=false:=by simp[aE]
   rw[aj];rw[sw,if_neg aE];exact Ts n zero l es (i+1) av
def Mz{P:Program}{t k e}(h:tn P t=some (k,e)):P.underlying t=some (.map k e):=by unfold tn at h;split at h<;>simp_all
def look_ok{t:TypeId}{x k v:U}{y z:Value}(ap:b5 E ad ab H w)(h:DX E t x k=some v)(rx:a6 ad ab H x y)(iF:a6 ad ab H k z):
  ∃u,(y' t y z true).run E.P w=.ok u w∧a6 ad ab H v u:=by
 unfold DX at h;split at h
 ·rename_i iT e hm;split at h
  ·rename_i ay;split at h
   ·rename_i es n;have hu:=Mz hm;have qP:=Bf ay;obtain rfl:=fv iF;cases iA rx with
    |mp es b hl clock cc ajF=>
     have aN:=ap.dR _ _ cc;have tK:(getObj b).run E.P w=.ok (.map hl clock) w:=by simp[getObj,tL,aN]
     have p1:∀em:Bool,(MA em 10000 iT (.int .i64 n)).run E.P w=.ok () w:=λ em=>by unfold MA;simp[run_underlying qP]
     rcases Ts n (kG E.P e) hl.toList es 0 ajF with⟨f1,f2⟩|⟨ac,f,f1,f2⟩
     ·rw[f2]at h;simp only[sw]at h;split at h
      ·rename_i dX bf;split at h
       ·cases h;obtain⟨za,j0,rfl⟩:=w4 bf w;refine⟨.tuple #[za,.bool false],?_,?_⟩
        ·unfold y';simp only[dT,run_underlying hu,eg,tK,eE,p1,zb,run_underlying qP,f1,j0,if_true]
        ·exact .bd _ _ (by simp) λ k a aA=>by
          match k,aA with
          |0,aA=>cases aA;exact sD za
          |1,aA=>cases aA;exact .i _ _ (.v _ rfl)
          |k+2,aA=>simp at aA
       ·cases h
      ·cases h
     ·rw[f2]at h;cases h;refine⟨.tuple #[.func (.func f) #[] #[],.bool true],?_,?_⟩
      ·unfold y';simp only[dT,run_underlying hu,eg,tK,eE,p1,zb,run_underlying qP,f1,if_true]
      ·exact .bd _ _ (by simp) λ k a aA=>by
        match k,aA with
        |0,aA=>cases aA;exact .aQ _ _ _ _ _ rfl rfl (λ k a h=>by simp at h) (λ k a h=>by simp at h)
        |1,aA=>cases aA;exact .i _ _ (.v _ rfl)
        |k+2,aA=>simp at aA
   ·cases h
  ·cases h
 ·cases h
def ot:aC→TypeDesc
 |.str _=>.string
 |.v (.int k _)=>.int k
 |_=>.int .i64
def Tt{P:Program}{iT:TypeId}{cu:aC}{z:Value}{ad:b'}(h:A0 P iT cu=true)(r:dl ad cu z):P.underlying iT=some (ot cu)∧((∃k n,ot cu=.int k∧z=.int k n)∨∃s,ot cu=.string∧z=.string s):=by
 unfold A0 at h;split at h
 ·cases r;exact⟨Bf (of_decide_eq_true h),.inl ⟨_,_,rfl,rfl⟩⟩
 ·cases r;exact⟨rO h,.inr ⟨_,rfl,rfl⟩⟩
 ·cases h
def Tu(a c:List UInt8):((⟨⟨a⟩⟩:ByteArray)==⟨⟨c⟩⟩)=decide (a=c):=by
 show ByteArray.beq _ _=_;unfold ByteArray.beq;by_cases h:a=c
 ·subst h;simp
 ·simp[h]
def Ia{ad:b'}{cu ac:aC}{z e:Value}{b:Bool}(h:gf cu ac=some b)(lf:dl ad cu z)(Tv:dl ad ac e):My (ot cu) z e=some b∧(b=true→e=z∧Ib 10000 e z=true):=by
 unfold gf at h;split at h
 ·rename_i k a dx c;split at h
  ·rename_i ay;subst ay;cases lf;cases Tv;cases h;refine⟨by simp[ot,My];rfl,λ aj=>?_⟩;have aj:=of_decide_eq_true aj;subst aj;exact⟨rfl,by simp[Ib]⟩
  ·cases h
 ·rename_i a c;cases lf;cases Tv;cases h;refine⟨?_,λ aj=>?_⟩
  ·simp only[ot,My,bg,Tu]
  ·have aj:=of_decide_eq_true aj;subst aj;exact⟨rfl,by simp[Ib,Tu]⟩
 ·cases h
def MB{ad:b'}{ab:b8}{H:aa}{cu:aC}{z:Value}(lf:dl ad cu z):∀(es:List (aC×U)) (q:List MapEntry) (i:Nat) {r:Option U},nf ad ab H es q→hy cu es=some r→
  (r=none∧p7 (ot cu) z q i=some none)∨∃u ac val,r=some u∧p7 (ot cu) z q i=some (some (ac,val))∧a6 ad ab H u val
 |[],[],i,r,_,h=>by cases h;exact .inl ⟨rfl,rfl⟩
 |(ac,v)::es,e::q,i,r,hm,h=>by
  obtain⟨m1,m2,m3⟩:=hm;simp only[hy]at h;split at h
  ·rename_i aR;obtain⟨s1,_⟩:=Ia aR lf m1;cases h;exact .inr ⟨v,i,e.val,rfl,by simp[p7,s1],m2⟩
  ·rename_i aR;obtain⟨s1,_⟩:=Ia aR lf m1;rcases MB lf es q (i+1) m3 h with⟨j,I⟩|⟨u,k,val,j,I,av⟩
   ·exact .inl ⟨j,by simp[p7,s1,I]⟩
   ·exact .inr ⟨u,k,val,j,by simp[p7,s1,I],av⟩
  ·cases h
 |[],_::_,_,_,hm,_=>hm.elim
 |_::_,[],_,_,hm,_=>hm.elim
def ajG{ad:b'}{ab:b8}{H:aa}{cu:aC}{z:Value}(lf:dl ad cu z)(es:List (aC×U))(q:List MapEntry)(i:Nat){r:Option U}(hm:l8 ad ab H es q)(h:hy cu es=some r):
  (r=none∧p7 (ot cu) z q i=some none)∨∃u ac val,r=some u∧p7 (ot cu) z q i=some (some (ac,val))∧a6 ad ab H u val:=by
 obtain⟨hJ,j,I,av⟩:=hm;exact MB lf hJ q i I (LS j av h)
def Tw{ad:b'}{ab:b8}{H:aa}{k:aC}{x:U}{z y:Value}(lf:dl ad k z)(xd:a6 ad ab H x y)(born:Nat):∀(es:List (aC×U)) (q:List MapEntry),nf ad ab H es q→nf ad ab H (es++[(k,x)]) (q++[{key:=z,val:=y,born:=born}])
 |[],[],_=>⟨lf,xd,trivial⟩
 |_::es,_::q,h=>⟨h.1,h.2.1,Tw lf xd born es q h.2.2⟩
 |[],_::_,h=>h.elim
 |_::_,[],h=>h.elim
def Tx{k:aC}{v:U}:∀{es:List (aC×U)},(∀p∈es,gf k p.1=some false)→jV k v es=es
 |[],_=>rfl
 |p::r,h=>by
  have aW:=h p (by simp);have a8:=Tx (v:=v) λ q (bm:q∈r)=>h q (xe _ bm)
  simp only[jV,aW,bg,fF,if_false,a8]
def Ty{ad:b'}{ab:b8}{H:aa}{cu:aC}{u4:U}{z y:Value}(lf:dl ad cu z)(xd:a6 ad ab H u4 y):∀(es:List (aC×U)) (q:List MapEntry) (i:Nat) {u:U},nf ad ab H es q→(es.Pairwise λ p r=>gf p.1 r.1=some false)→hy cu es=some (some u)→
  ∃ac val,p7 (ot cu) z q i=some (some (i+ac,val))∧(∃e,q[ac]?=some e∧Ib 10000 e.key z=true)∧nf ad ab H (jV cu u4 es) (q.modify ac λ e=>{e with key:=z,val:=y})
 |[],[],i,_,_,_,h=>by cases h
 |(ac,v)::es,e::q,i,u,hm,aM,h=>by
  obtain⟨m1,m2,m3⟩:=hm;obtain⟨d1,d2⟩:=uR.1 aM;simp only[hy]at h;split at h
  ·rename_i aR;obtain⟨s1,s2⟩:=Ia aR lf m1;have:=Bb aR;subst this;refine⟨0,e.val,by simp[p7,s1],⟨e,rfl,(s2 rfl).2⟩,?_⟩;simp only[jV,aR,if_true,Tx d1];exact⟨lf,xd,m3⟩
  ·rename_i aR;obtain⟨s1,_⟩:=Ia aR lf m1;obtain⟨k,val,I,⟨aH,av,ba⟩,bs⟩:=Ty lf xd es q (i+1) m3 d2 h;refine⟨k+1,val,by simp[p7,s1,I];omega,⟨aH,by simpa using av,ba⟩,?_⟩;simp only[jV,aR,bg,fF,if_false,List.modify_succ_cons];exact⟨m1,m2,bs⟩
  ·cases h
 |[],_::_,_,_,hm,_,_=>hm.elim
 |_::_,[],_,_,hm,_,_=>hm.elim
def ajH{ad:b'}{ab:b8}{H:aa}{cu:aC}{u4:U}{z y:Value}(lf:dl ad cu z)(xd:a6 ad ab H u4 y)(es:List (aC×U))(q:List MapEntry)(i:Nat){hJ:List (aC×U)}(hm:l8 ad ab H es q)(h:ki cu u4 es=some hJ):
  (p7 (ot cu) z q i=some none∧∀born,l8 ad ab H hJ (q++[{key:=z,val:=y,born:=born}]))∨
  ∃ac val,p7 (ot cu) z q i=some (some (i+ac,val))∧(∃e,q[ac]?=some e∧Ib 10000 e.key z=true)∧l8 ad ab H hJ (q.modify ac λ e=>{e with key:=z,val:=y}):=by
 obtain⟨Ez,j,I,av⟩:=hm;unfold ki at h;split at h
 ·rename_i aI;cases h;have zc:=LS j av aI;rcases MB lf Ez q i I zc with⟨_,g⟩|⟨u,ac,val,g,_⟩
  ·refine .inl ⟨g,λ born=>⟨Ez++[(cu,u4)],(LU cu u4 es).trans ((j.cons _).trans (List.perm_append_singleton _ _).symm),Tw lf xd born Ez q I,?_⟩⟩;refine((LU cu u4 es).symm.pairwise_iff (λ{x y} Ea=>by rw[D'];exact Ea)).1 (uR.2 ⟨λ p au=>LR.1 aI p au,av⟩)
  ·cases g
 ·rename_i u aI;cases h;have zc:=LS j av aI;have Ex:=(j.pairwise_iff (λ{x y} Ea=>by rw[D'];exact Ea)).1 av;obtain⟨ac,val,g1,g2,g3⟩:=Ty lf xd Ez q i I Ex zc;refine .inr ⟨ac,val,g1,g2,jV cu u4 Ez,by rw[Hr,Hr];exact j.map _,g3,?_⟩;rw[Hr,List.pairwise_map];exact av.imp λ{a b} cS=>by rw[LV,LV];exact cS
 ·cases h
def Tz{P:Program}{iT:TypeId}{cu:aC}{z:Value}(hu:P.underlying iT=some (ot cu))(bf:(∃k n,ot cu=.int k∧z=.int k n)∨∃s,ot cu=.string∧z=.string s)(em:Bool)(w:World):(MA em 10000 iT z).run P w=.ok () w:=by unfold MA;rcases bf with⟨k,n,ay,rfl⟩|⟨s,ay,rfl⟩<;>rw[ay]at hu<;>simp[run_underlying hu]
def ajI{t:TypeId}{x k v:U}{y z:Value}{ok:Bool}(ap:b5 E ad ab H w)(h:yz E H t x k ok=some v)(rx:a6 ad ab H x y)(iF:a6 ad ab H k z):
  ∃u,(y' t y z ok).run E.P w=.ok u w∧a6 ad ab H v u:=by
 unfold yz at h;split at h
 ·rename_i c;unfold A1 at h;split at h
  ·rename_i es aO;split at h
   ·rename_i iT e cu hm;split at h
    ·rename_i ay;have iF:=iA iF;have hu:=Mz hm;obtain⟨qP,bf⟩:=Tt ay iF;cases rx with
     |dv _ _ ag MC _ _ au _=>
      obtain⟨b,n,cb,rfl⟩:=MC _ aO;obtain⟨bR,hl,aJ,gV,hw,e_⟩:=ap.b6 _ _ aO;rw[cb]at gV;cases gV;have tK:(getObj b).run E.P w=.ok (.map hl aJ) w:=by simp[getObj,tL,hw]
      have p1:=λ em:Bool=>Tz (w:=w) qP bf em
      cases aI:hy cu es with
      |none=>rw[aI]at h;cases h
      |some r=>
       rw[aI]at h;rcases ajG iF es hl.toList 0 e_ aI with⟨rfl,f2⟩|⟨u,ac,val,rfl,f2,f3⟩
       ·simp only[uG]at h;split at h
        ·rename_i dX kq;split at h
         ·obtain⟨za,j0,rfl⟩:=w4 kq w;cases h;cases ok with
          |true=>
           refine⟨.tuple #[za,.bool false],?_,?_⟩
           ·unfold y';simp only[dT,run_underlying hu,eg,tK,eE,p1,zb,run_underlying qP,f2,j0,if_true]
           ·exact .bd _ _ (by simp) λ k a aA=>by
             match k,aA with
             |0,aA=>cases aA;exact sD za
             |1,aA=>cases aA;exact .i _ _ (.v _ rfl)
             |k+2,aA=>simp at aA
          |false=>refine⟨za,?_,by simpa using sD za⟩;unfold y';simp only[dT,run_underlying hu,eg,tK,eE,p1,zb,run_underlying qP,f2,j0,fF,if_false]
         ·cases h
        ·cases h
       ·simp only[uG,bg]at h;cases h;cases ok with
        |true=>
         refine⟨.tuple #[val,.bool true],?_,?_⟩
         ·unfold y';simp only[dT,run_underlying hu,eg,tK,eE,p1,zb,run_underlying qP,f2,if_true]
         ·exact .bd _ _ (by simp) λ k a aA=>by
           match k,aA with
           |0,aA=>cases aA;exact f3
           |1,aA=>cases aA;exact .i _ _ (.v _ rfl)
           |k+2,aA=>simp at aA
        |false=>refine⟨val,?_,by simpa using f3⟩;unfold y';simp only[dT,run_underlying hu,eg,tK,eE,p1,zb,run_underlying qP,f2,fF,if_false]
    ·cases h
   ·cases h
  ·cases h
 ·split at h
  ·rename_i ho;subst ho;exact look_ok ap h rx iF
  ·cases h
def TA{t:TypeId}{m k x v:U}{y z u:Value}{an:aa}(ap:b5 E ad ab H w)(h:mE E H t m k x=some (v,an))(qK:a6 ad ab H m y)(iF:a6 ad ab H k z)(rx:a6 ad ab H x u):
  ∃aq,(Ic t y z u).run E.P w=.ok () aq∧v=.dead∧ci E ad ab H w an aq λ _ _=>True:=by
 unfold mE at h;split at h
 ·rename_i c;unfold sx at h;split at h
  ·rename_i es aO;split at h
   ·rename_i iT e cu hm;split at h
    ·rename_i ay;obtain⟨ay,_⟩:=ay;simp only[c0,bw]at h;obtain⟨hJ,au,rfl,rfl⟩:=h;have iF:=iA iF;have hu:=Mz hm;obtain⟨qP,bf⟩:=Tt ay iF;cases qK with
     |dv _ _ ag MC _ _ _ _=>
      obtain⟨b,n,cb,rfl⟩:=MC _ aO;obtain⟨bR,hl,aJ,gV,hw,e_⟩:=ap.b6 _ _ aO;rw[cb]at gV;cases gV;have be:b<w.heap.size:=(jY.1 hw).1;have tK:(getObj b).run E.P w=.ok (.map hl aJ) w:=by simp[getObj,tL,hw]
      have jA:∀ai:Obj,(setObj b ai).run E.P w=.ok () {w with heap:=w.heap.setIfInBounds b ai}:=λ ai=>by simp[setObj,tL,hw]
      have p1:=Tz (w:=w) qP bf false;have fin:∀(EA:Array MapEntry) (j1:Nat),l8 ad ab H hJ EA.toList→(Ic t (.map (some b)) z u).run E.P w=.ok () {w with heap:=w.heap.setIfInBounds b (.map EA j1)}→
        ∃aq,(Ic t (.map (some b)) z u).run E.P w=.ok () aq∧U.dead=.dead∧ci E ad ab H w (H.set c (.map hJ)) aq λ _ _=>True:=by
       intro EA j1 ajJ lI;refine⟨_,lI,rfl,wrote (aq:={w with heap:=w.heap.setIfInBounds b (.map EA j1)}) ap cb aO (λ bR jk=>by simp[Array.getElem?_setIfInBounds,a' jk]) (by simp) rfl rfl rfl ?_ (λ hm=>?_) (λ _=>trivial)⟩
       ·intro q bm;rcases fx bm with⟨_,rfl⟩|⟨e,_⟩
        ·exact⟨es,aO,rfl⟩
        ·exact absurd rfl e
       ·exact⟨b,EA,j1,cb,by simp[be],ajJ.mono (λ _ _ h=>h) hm⟩
      rcases ajH iF rx es hl.toList 0 e_ au with⟨f1,f2⟩|⟨ac,val,f1,⟨aH,f3,f4⟩,f5⟩
      ·refine fin (hl.push {key:=z,val:=u,born:=aJ}) (aJ+1) (by rw[Array.toList_push];exact f2 aJ) ?_;unfold Ic;simp only[dT,run_underlying hu,eg,tK,p1,zb,run_underlying qP,f1,eE,jA]
      ·have a_:hl[ac]?=some aH:=by rw[←mH];exact f3
       refine fin (hl.modify ac λ e=>{e with key:=z,val:=u}) aJ (by rw[Array.toList_modify];exact f5) ?_;unfold Ic;simp only[dT,run_underlying hu,eg,tK,p1,zb,run_underlying qP,f1,eE,cp,a_,en,i1,Instr.keyThatStays,f4,if_true,jA]
    ·cases h
   ·cases h
  ·cases h
 ·cases h
def ajK{J:Fr}{a:Act}{ai:Oper}{v:U}(h:et E J H ai.op=some v)(ap:b5 E ad ab H w)(aI:eW ad ab H J a.tmps):
  ∃x,(execOp a.eval ai).run E.P w=.ok (.value x) w∧a6 ad ab H v x:=by
 obtain⟨dst,op,d',pos,after,guard⟩:=ai;simp only at h;cases op<;>(try(first|(simp only[et]at h;done)|(simp only[et]at h;cases h;done)))
 case move x=>simp only[et,bg]at h;subst h;exact⟨_,by simp[execOp],eD ap aI x⟩
 case assign x=>simp only[et,bg]at h;subst h;exact⟨_,by simp[execOp],eD ap aI x⟩
 case pick c x y=>
  simp only[et]at h;split at h
  ·rename_i t ag;cases h;have p5:=eD ap aI c;rw[ag]at p5;refine⟨if t then a.eval x else a.eval y,by simp[execOp,fv p5,asBool],?_⟩;cases t
   ·exact eD ap aI y
   ·exact eD ap aI x
  ·cases h
 case build t parts=>
  simp only[et]at h;obtain⟨u,j,I⟩:=ai3 (w:=w) (jz:=parts.map λ p=>(p.1,a.eval p.2)) h ⟨by simp,λ k p q au bm=>by
   simp only[fw,c0,MD]at au bm;obtain⟨kk,sL,rfl⟩:=au;obtain⟨mf,sM,rfl⟩:=bm;rw[sL]at sM;cases sM;exact⟨rfl,eD ap aI _⟩⟩
  exact⟨u,by simp only[execOp,dT];rw[j];simp,I⟩
 case load t x=>simp only[et]at h;obtain⟨u,j,I⟩:=SD ap (eD ap aI x) h;exact⟨u,by simp only[execOp,dT,j,eg,eE],I⟩
 case nilCheck x=>
  simp only[et]at h;have ak:=eD ap aI x;split at h
  ·rename_i ag;cases h;rw[ag]at ak;have u5:=ak;cases ak with
   |ptr c g r k v ff aj aR Bv ax au aP=>obtain⟨b,kr⟩:=au;refine⟨a.eval x,?_,u5⟩;simp only[execOp,kr,eE]
  ·rename_i ag;cases h;rw[ag]at ak;have u5:=ak;generalize aY:a.eval x=y at ak u5;cases iA ak with
   |gd=>exact⟨_,by simp only[execOp,aY,eE],u5⟩
  ·rename_i ag;cases h;rw[ag]at ak;have u5:=ak;generalize aY:a.eval x=y at ak u5;cases ak with
   |aQ=>exact⟨_,by simp only[execOp,aY,eE],u5⟩
  ·rename_i ag;cases h;rw[ag]at ak;obtain⟨_,⟨b,kr⟩,_⟩:=xb ak;exact⟨a.eval x,by simp only[execOp,kr,eE],ak⟩
  ·rename_i ag;cases h;rw[ag]at ak;obtain⟨_,⟨b,kr⟩,_⟩:=xb ak;exact⟨a.eval x,by simp only[execOp,kr,eE],ak⟩
  ·cases h
 case binOp op t x y t2=>simp only[et]at h;obtain⟨z,j,I⟩:=aiO (w:=w) h (eD ap aI x) (eD ap aI y) x y;exact⟨z,by simp only[execOp];rw[dT,j];simp,I⟩
 case unOp op t x=>simp only[et]at h;obtain⟨z,j,I⟩:=aiP (w:=w) (P:=E.P) h (eD ap aI x);exact⟨z,by simp only[execOp,dT,j,eg,eE],I⟩
 case convert s d x=>
  simp only[et]at h;split at h
  ·rename_i e he;obtain⟨z,j,I⟩:=ajE (w:=w) ap he h (eD ap aI x);exact⟨z,by simp only[execOp,dT,j,eg,eE],I⟩
  ·obtain⟨z,j,I⟩:=aiY (w:=w) h (eD ap aI x);exact⟨z,by simp only[execOp,dT,j,eg,eE],I⟩
 case makeFunc fn first ft=>
  simp only[et,bg]at h;subst h;have key:∀(l:Array Operand) (k:Nat) (b:U),(l.toList.map (bn E J))[k]?=some b→a6 ad ab H b ((l.map a.eval).getD k undef):=by intro l k b aj;simp only[fw,c0,mH]at aj;obtain⟨x,ak,rfl⟩:=aj;have be:=(jY.1 ak).1;rw[getD_map _ _ _ be,(jY.1 ak).2];exact eD ap aI x
  exact⟨_,by simp only[execOp,Instr.makeFunc,dT,eE,eg],.aQ _ _ _ _ _ (by simp) (by simp) (key first) (key ft)⟩
 case slice t x bS ax kI=>simp only[et]at h;obtain⟨u,j,I⟩:=SS h ap (eD ap aI x) (Bl ap aI bS) (Bl ap aI ax) (Bl ap aI kI);exact⟨u,by simp only[execOp,dT,j,eg,eE],I⟩
 case fieldAddr t x f=>
  simp only[et]at h;split at h
  ·rename_i off d' wZ;split at h
   ·rename_i z bf;split at h
    ·rename_i au;obtain⟨u,j,I⟩:=aiQ (w:=w) wZ bf au h (eD ap aI x);exact⟨u,by simp only[execOp,dT,j,eg,eE],I⟩
    ·cases h
   ·cases h
  ·cases h
 case field t x f=>simp only[et]at h;obtain⟨u,j,I⟩:=aiV (w:=w) h (eD ap aI x);exact⟨u,by simp only[execOp,dT,j,eg,eE],I⟩
 case indexAddr t x jv=>simp only[et]at h;obtain⟨u,j,I⟩:=aiS h ap (eD ap aI x) (eD ap aI jv);exact⟨u,by simp only[execOp,dT,j,eg,eE],I⟩
 case index t x jv=>simp only[et]at h;obtain⟨u,j,I⟩:=aiU (w:=w) h (eD ap aI x) (eD ap aI jv);exact⟨u,by simp only[execOp,dT,j,eg,eE],I⟩
 case lookup t x k ok=>simp only[et]at h;obtain⟨u,j,I⟩:=ajI (w:=w) ap h (eD ap aI x) (eD ap aI k);exact⟨u,by simp only[execOp,dT,j,eg,eE],I⟩
 case extract x n=>
  simp only[et]at h;split at h
  ·rename_i vs ak;have r:=eD ap aI x;rw[ak]at r;obtain⟨cs,e,j,I⟩:=Sy r;have be:=(bF.1 h).1;refine⟨_,?_,I _ _ h⟩;simp only[execOp,e,Instr.extract];rw[getD_eq cs n R];simp
  ·cases h
 case call c=>
  obtain⟨callee,args,e1⟩:=c;cases callee with
  |value f=>simp[et]at h
  |invoke r m=>simp[et]at h
  |builtin b=>
   simp only[et]at h;split at h
   ·rename_i x t ak bp;have ak:=S1 ak;have bp:=S1 bp;subst ak bp;have r:=eD ap aI x;split at h
    ·rename_i ME;split at h
     ·rename_i l al;rw[al]at r;split at h
      ·rename_i aR;cases h;exact⟨_,by simp[execOp,resolve,invoke,builtin,Builtin.len_,run_underlying (rO aR),p0 r,goInt,size_mk],l'⟩
      ·cases h
     ·rename_i aw rows ex al;rw[al]at r;split at h
      ·cases h
      ·rename_i aR;cases h;rcases ME with aW|aW
       ·exact absurd aW aR
       ·obtain⟨e,he⟩:=Mx.1 aW;obtain⟨i6,cap,aY⟩:=El (iA r);exact⟨_,by simp[execOp,resolve,invoke,builtin,Builtin.len_,run_underlying (h3 he),aY,goInt],l'⟩
     ·rename_i c g off len al;rw[al]at r;split at h
      ·cases h
      ·rename_i aR;cases h;rcases ME with aW|aW
       ·exact absurd aW aR
       ·obtain⟨e,he⟩:=Mx.1 aW;obtain⟨i6,cap,aY⟩:=L' r;exact⟨_,by simp[execOp,resolve,invoke,builtin,Builtin.len_,run_underlying (h3 he),aY,goInt],l'⟩
     ·rename_i c g off len al;rw[al]at r;split at h
      ·cases h
      ·rename_i aR;cases h;rcases ME with aW|aW
       ·exact absurd aW aR
       ·obtain⟨e,he⟩:=Mx.1 aW;obtain⟨_,⟨i6,cap,aY⟩,_⟩:=xb r;exact⟨_,by simp[execOp,resolve,invoke,builtin,Builtin.len_,run_underlying (h3 he),aY,goInt],l'⟩
     ·cases h
    ·cases h
   ·obtain⟨u,j,I⟩:=S2 (w:=w) (g:=Builtin.max2) E.P (λ aN e8 h4=>aiZ E.P aN e8 h4) (args.toList.map (bn E J)) (args.map a.eval).toList v (by simp)
     (λ k b y aj aY=>by
      simp only[fw,c0,MD]at aj aY;obtain⟨kk,sL,rfl⟩:=aj;obtain⟨mf,sM,rfl⟩:=aY;rw[sL]at sM;cases sM;exact eD ap aI _) (stuck "max: at least one argument expected") h
    have gq:(Builtin.max_ e1 d' (args.map a.eval)).run E.P w=.ok u w:=j;exact⟨u,by simp only[execOp,resolve,dT,eE,eg,invoke,builtin,gq],I⟩
   ·obtain⟨u,j,I⟩:=S2 (w:=w) (g:=Builtin.min2) E.P (λ aN e8 h4=>ai0 E.P aN e8 h4) (args.toList.map (bn E J)) (args.map a.eval).toList v (by simp)
     (λ k b y aj aY=>by
      simp only[fw,c0,MD]at aj aY;obtain⟨kk,sL,rfl⟩:=aj;obtain⟨mf,sM,rfl⟩:=aY;rw[sL]at sM;cases sM;exact eD ap aI _) (stuck "min: at least one argument expected") h
    have gq:(Builtin.min_ e1 d' (args.map a.eval)).run E.P w=.ok u w:=j;exact⟨u,by simp only[execOp,resolve,dT,eE,eg,invoke,builtin,gq],I⟩
   ·cases h
def TB(ap:b5 E ad ab H w){aq:World}{ai:Obj}(hw:aq.heap=w.heap.push ai)(b9:aq.os=w.os)(bp:aq.tape=w.tape)(hu:aq.output=w.output)(b6:Chunk)
  (kQ:e6 ad ab H ad (fM ab H.length w.heap.size 0) (H++[b6])→oh ad (fM ab H.length w.heap.size 0) (H++[b6]) aq H.length b6){Q:b'→b8→Prop}
  (eT:e6 ad ab H ad (fM ab H.length w.heap.size 0) (H++[b6])→Q ad (fM ab H.length w.heap.size 0)):ci E ad ab H w (H++[b6]) aq Q:=by
 have hold:∀b,b<w.heap.size→aq.heap[b]?=w.heap[b]?:=by intro b aj;rw[hw,HT,if_neg R]
 have hm:e6 ad ab H ad (fM ab H.length w.heap.size 0) (H++[b6]):=by
  refine mG (λ _ _ h=>h) (by simp) λ c ag=>?_
  exact iX.same (by rw[ei ag]) (λ r=>by simp[fM,show c≠H.length by omega])
 have hn:∀(c:fb) b n,fM ab H.length w.heap.size 0 c=some (b,n)→(c=⟨H.length,0⟩∧b=w.heap.size∧n=0)∨ab c=some (b,n):=by
  intro c b n h;unfold fM at h;split at h
  ·cases h;exact .inl ⟨by assumption,rfl,rfl⟩
  ·exact .inr h
 refine⟨ad,fM ab H.length w.heap.size 0,⟨λ b ai aj=>?_,λ c x ak=>?_,λ c cl b n dP j I=>?_,λ c b n h=>?_,ap.e4⟩,⟨b9,bp,hu,by rw[hw];simp,λ b aj _=>hold b aj,λ _ _ h=>h,λ b h=>.inl h,λ c b n h=>?_⟩,hm,eT hm⟩
 ·have:=ap.dR b ai aj;have be:b<w.heap.size:=(jY.1 this).1;rw[hold b be];exact this
 ·by_cases ag:c<H.length
  ·rw[ei ag]at ak;refine(ap.b6 c x ak).mono (λ r=>by simp[fM,show c≠H.length by omega]) (λ _ _ h=>h) hm λ r b n h=>hold b (ap.sep _ _ _ h).2.1
  ·have:c=H.length:=by have:=(bF.1 ak).1;simp at this;omega
   subst this;simp at ak;subst ak;exact kQ hm
 ·rcases hn _ _ _ j with⟨rfl,rfl,rfl⟩|ao
  ·rcases hn _ _ _ I with⟨e,_,_⟩|aH
   ·exact e.symm
   ·have:=(ap.sep _ _ _ aH).2.1;omega
  ·rcases hn _ _ _ I with⟨e,rfl,_⟩|aH
   ·have:=(ap.sep _ _ _ ao).2.1;omega
   ·exact ap.inj _ _ _ _ _ ao aH
 ·rcases hn _ _ _ h with⟨rfl,rfl,rfl⟩|ao
  ·refine⟨?_,by rw[hw];simp,by simp⟩;cases cc:ad w.heap.size with
   |none=>rfl
   |some ai=>have:=ap.dR _ _ cc;simp at this
  ·have:=ap.sep _ _ _ ao;exact⟨this.1,by rw[hw];simp;omega,by simp;omega⟩
 ·rcases hn _ _ _ h with⟨rfl,rfl,rfl⟩|ao
  ·exact .inl (cL _)
  ·exact .inr ⟨_,_,ao⟩
def ajL(ap:b5 E ad ab H w){t:TypeId}{l:List UInt8}(bp:hx E.P t=true):
  ∃x aq,(Instr.range t (.string ⟨⟨l⟩⟩)).run E.P w=.ok x aq∧ci E ad ab H w (H++[.iter l 0]) aq λ aL aB=>a6 aL aB (H++[.iter l 0]) (.ptr H.length 0 0 0) x:=by
 refine⟨_,_,run_range_string w t ⟨⟨l⟩⟩ (rO bp),?_⟩;refine TB (aq:=w.iter ⟨⟨l⟩⟩ 0) (ai:=.stringIter ⟨⟨l⟩⟩ 0) ap rfl rfl rfl rfl _ (λ hm=>?_) (λ hm=>?_)
 ·exact⟨w.heap.size,by simp[fM],World.iter_heap w _ 0⟩
 ·exact .ptr _ _ _ _ _ (by simp) (λ _ h=>by simp at h) (λ _ _ _ h=>by simp at h) (λ _ _ _ _ h=>by simp at h) (λ s p h=>⟨w.heap.size,0,by simp[fM],rfl⟩) ⟨_,rfl⟩ (λ _ _ _ _ h=>by simp at h)
def ajM:a6 ad ab H (.bd [.bool false]) (.tuple #[.bool false]):=.bd _ _ rfl (λ k a h=>by
 cases k with
 |zero=>simp at h;subst h;exact wQ
 |succ k=>simp at h)
def ajN{a:Bool}{n m:Int}:a6 ad ab H (.bd [.bool a,.int .i64 n,.int .i32 m]) (.tuple #[.bool a,.int .i64 n,.int .i32 m]):=.bd _ _ rfl (λ k x h=>by
 match k with
 |0=>simp at h;subst h;exact wQ
 |1=>simp at h;subst h;exact l'
 |2=>simp at h;subst h;exact l'
 |k+3=>simp at h)
def ajO(ap:b5 E ad ab H w){c g r:Nat}{y:Value}{s:List UInt8}{pos:Nat}(d':TypeId)(ah:a6 ad ab H (.ptr c g r 0) y)(aO:H[c]?=some (.iter s pos)):
  (pos<s.length→∃x aq,(Instr.next y true d').run E.P w=.ok x aq∧ci E ad ab H w (H.set c (.iter s (pos+(l7 ⟨⟨s⟩⟩ pos).2))) aq λ aL aB=>a6 aL aB (H.set c (.iter s (pos+(l7 ⟨⟨s⟩⟩ pos).2))) (.bd [.bool true,.int .i64 pos,.int .i32 (l7 ⟨⟨s⟩⟩ pos).1]) x)∧
  (¬pos<s.length→∃x,(Instr.next y true d').run E.P w=.ok x w∧a6 ad ab H (.bd [.bool false]) x):=by
 cases ah with
 |ptr _ _ _ _ _ ag aj aR aI ax au aP=>
  obtain⟨b,n,cb,rfl⟩:=ax _ _ aO;obtain⟨bR,gV,hw⟩:=ap.b6 _ _ aO;rw[cb]at gV;cases gV;have be:b<w.heap.size:=(jY.1 hw).1;refine⟨λ hL=>?_,λ hL=>?_⟩
  ·have MF:pos<(⟨⟨s⟩⟩:ByteArray).size:=hL
   let W:World:={w with heap:=w.heap.setIfInBounds b (.stringIter ⟨⟨s⟩⟩ (pos+(l7 ⟨⟨s⟩⟩ pos).2))}
   refine⟨.tuple #[.bool true,.int .i64 pos,.int .i32 (l7 ⟨⟨s⟩⟩ pos).1],W,?_,?_⟩
   ·simp[Instr.next,getObj,setObj,tL,hw,MF,goInt,W]
   ·refine wrote (aq:=W) ap cb aO (λ bR jk=>by simp[W,Array.getElem?_setIfInBounds,a' jk]) (by simp[W]) rfl rfl rfl ?_ (λ hm=>?_) (λ hm=>ajN)
    ·intro z bf;rcases fx bf with⟨_,rfl⟩|⟨e,_⟩
     ·exact⟨s,pos,aO,rfl⟩
     ·exact absurd rfl e
    ·exact⟨b,cb,by simp[W,be]⟩
  ·have MF:¬pos<(⟨⟨s⟩⟩:ByteArray).size:=hL;exact⟨.tuple #[.bool false],by simp[Instr.next,getObj,tL,hw,MF],ajM⟩
end
section
variable{E:Env}{ad:b'}{ab:b8}{H:aa}{w:World}
def ajP{P:Program}{e:TypeId}{z:U}(h:kG P e=some z):∃v,(∀w,(zeroValue e).run P w=.ok v w)∧z=jQ v:=by simp only[kG,c0,Bo]at h;obtain⟨v,⟨i,ax,bf⟩,rfl⟩:=h;exact⟨v,λ w=>by simp[zeroValue,run_typeInfo w ax,bf],rfl⟩
def ajQ(P:Program)(e:TypeId)(z:Nat):Prop:=∃v:Value,(∀w,(zeroValue e).run P w=.ok v w)∧v.cells.size=z
def TC{z:Nat}{e:TypeId}{a:U}(h:kG E.P e=some a)(j:(cw a).length=z)(I:(cw a).all one=true):ajQ E.P e z:=by obtain⟨v,bh,rfl⟩:=ajP h;exact⟨v,bh,by rw[←j];exact(tD (sD (ad:=λ _=>none) (ab:=λ _=>none) (H:=[]) v) I).1⟩
def Bw{rows:List bT}{off n:Nat}(h:off+n≤rows.length):(e5 rows off n).length=rows.length:=by simp only[e5,dp,hE,mg,iG];omega
def ajR{rows:List bT}{off n i:Nat}{y:bT}(h:off+n≤rows.length)(ax:(e5 rows off n)[i]?=some y):(off≤i∧i<off+n∧y=.dead)∨(¬(off≤i∧i<off+n)∧rows[i]?=some y):=by
 unfold e5 at ax;rw[tI]at ax;have ao:(rows.take off).length=off:=by simp;omega
 rw[ao]at ax;split at ax
 ·rename_i be;rw[nJ,if_pos be]at ax;exact .inr ⟨R,ax⟩
 ·rename_i be;rw[tI,mg]at ax;split at ax
  ·rename_i I;rw[MG,if_pos I]at ax;cases ax;exact .inl ⟨R,R,rfl⟩
  ·rename_i I;rw[rQ,show off+n+(i-off-n)=i by omega]at ax;exact .inr ⟨R,ax⟩
def l9.one{z c r:Nat}{y:bT}{v:Value}(h:l9 ad ab w z c r y v):v.oneCell'=true:=by
 cases y with
 |own bP=>obtain⟨a,m,rfl⟩:=h.slice;rfl
 |dK q=>exact En h
 |dead=>exact h
def Ie(P:Program)(ap:b5 E ad ab H w){z d:Nat}{x:U}{lj:Value}{new:List bT}{H1:aa}(rx:a6 ad ab H x lj)(h:lC z H x=some (d,new,H1)):
  ∃g off s rows,x=.x (.d d g off new.length)∧H[d]?=some (.az z g s rows)∧off+new.length≤rows.length∧(∀i,i<new.length→new[i]?=rows[off+i]?)∧H1=H.set d (.az z g (s+1) (e5 rows off new.length))∧
   ∃(ew:Array Value) (a:Option Addr) (cap:Nat),lj=.slice a new.length cap∧(∀aq:World,aq.heap=w.heap→(iD 1 new.length lj).run P aq=.ok ew aq)∧ew.size=new.length∧
    (∀(i:Nat) (y:bT),new[i]?=some y→l9 ad ab w z d (off+i) y (ew.getD i undef))∧∀i,i<new.length→∃i6:Addr,a=some i6∧w.cell? (i6.add i)=some (ew.getD i undef):=by
 unfold lC at h;split at h;rotate_left
 ·cases h
 rename_i c g off len;unfold uL at h;split at h;rotate_left
 ·cases h
 rename_i c_ aU s rows aO;split at h;rotate_left
 ·cases h
 rename_i ag;obtain⟨rfl,rfl,hle⟩:=ag;simp only[bg,bw]at h;obtain⟨rfl,rfl,rfl⟩:=h;have al:((rows.drop off).take len).length=len:=by simp;omega
 rw[al];have p8:∀i,i<len→((rows.drop off).take len)[i]?=rows[off+i]?:=by intro i ax;rw[nJ,if_pos ax,rQ]
 refine⟨g,off,s,rows,rfl,aO,hle,p8,rfl,?_⟩;obtain⟨ch,_,ak⟩:=xb rx;obtain⟨_,a,cap,rfl,fi⟩:=(ak _ _ _ _ aO).2 rfl;by_cases aW:len=0
 ·subst aW;refine⟨#[],a,cap,rfl,λ aq _=>?_,rfl,λ i y ax=>by simp at ax,λ i ax=>R⟩;cases a<;>simp[iD,loadCells,loadCellsFrom]
 ·rcases ap.b6 _ _ aO with⟨_,ba⟩|⟨b,cs,elem,bj,cb,hw,gH,eu,eh⟩
  ·subst ba;simp at hle;omega
  ·rcases fi with⟨he,_⟩|⟨dz,m,he,_,_,aA⟩
   ·rw[cb]at he;cases he
   ·rw[cb]at he;cases he;rcases aA with rfl|⟨bs,_⟩;rotate_left
    ·exact absurd bs aW
    refine⟨((g' len).map λ ac=>(w.cell? ⟨b,off+ac,none⟩).getD undef).toArray,_,cap,rfl,λ aq p4=>?_,by simp,λ i y ax=>?_,λ i ax=>⟨_,rfl,?_⟩⟩
    ·have ah:(loadCells ⟨b,off,none⟩ len).run P aq=.ok ((g' len).map λ ac=>(w.cell? ⟨b,off+ac,none⟩).getD undef).toArray aq:=by
      refine run_loadCells aq _ _ _ λ ac a_=>?_
      have:aq.cell? ⟨b,off+ac,none⟩=w.cell? ⟨b,off+ac,none⟩:=by simp[rP,p4]
      rw[lb,this,cell_of hw];have be:off+ac<cs.size:=R;rw[getD_eq _ _ be];rfl
     simp[iD,ah]
    ·have mb:i<len:=by have:=(bF.1 ax).1;rw[al]at this;exact this
     rw[p8 i mb]at ax;have be:off+i<cs.size:=by have:=(bF.1 ax).1;omega
     have e:((g' len).map λ ac=>(w.cell? ⟨b,off+ac,none⟩).getD undef).toArray.getD i undef=cs.getD (off+i) undef:=by simp[di,mb,cell_of hw]
     rw[e];exact eh _ _ ax
    ·have be:off+i<cs.size:=R;have e:((g' len).map λ ac=>(w.cell? ⟨b,off+ac,none⟩).getD undef).toArray.getD i undef=cs.getD (off+i) undef:=by simp[di,ax,cell_of hw]
     rw[e,lb,cell_of hw];exact getD_eq _ _ be
def Bx(ap:b5 E ad ab H w){aq:World}{an:aa}{c d z g2 s2 off n p g1 s1 fe:Nat}{c7 rows eB:List bT}{cs iH:Array Value}{ao:TypeId}{u6:Nat×Nat}{ew:Array Value}(e2:c≠d)
  (mN:H[d]?=some (.az z g2 s2 c7))(b9:off+n≤c7.length)(hlen:H.length≤an.length)(kR:an[c]?=some (.az z g1 s1 eB))(u7:an[d]?=some (.az z g2 (s2+1) (e5 c7 off n)))
  (nk:∀e,e≠c→e≠d→an[e]?=H[e]?)(ajS:c<H.length→∃z0 g s ha,H[c]?=some (.az z0 g s ha)∧(g<g1∨(z0=z∧g=g1∧s<s1∧eB.length=ha.length∧ab ⟨c,0⟩=some (fe,iH.size))))
  (w':aq.heap[fe]?=some (.cells iH ao u6))(ajT:uQ u6 iH.size)(HF:eB.length≤iH.size)(pi:ab ⟨c,0⟩=some (fe,iH.size)∨w.heap.size≤fe)
  (gK:∀b,b<w.heap.size→(∀m,ab ⟨c,0⟩≠some (b,m))→aq.heap[b]?=w.heap[b]?)(eu:w.heap.size≤aq.heap.size)(ajU:aq.os=w.os)(ajV:aq.tape=w.tape)(ajW:aq.output=w.output)
  (ph:∀(i:Nat) (y:bT),i<n→c7[off+i]?=some y→l9 ad ab w z d (off+i) y (ew.getD i undef))
  (hold:∀(ac:Nat) (y:bT),rows[ac]?=some y→l9 ad ab w z c ac y (cs.getD ac undef))
  (bX:∀(ac:Nat) (y:bT),eB[ac]?=some y→(∃i,i<n∧ac=p+i∧c7[off+i]?=some y∧iH.getD ac undef=ew.getD i undef)∨(¬(p≤ac∧ac<p+n)∧rows[ac]?=some y∧iH.getD ac undef=cs.getD ac undef))
  {Q:b'→b8→Prop}(eT:∀aB:b8,aB ⟨c,0⟩=some (fe,iH.size)→Q ad aB):ci E ad ab H w an aq Q:=by
 let aB:b8:=λ i=>if i.c=c then(if i.r=0 then some (fe,iH.size)else if p<i.r∧i.r≤p+n then ab ⟨d,off+(i.r-p)⟩else ab i)else if i.c=d∧off<i.r∧i.r≤off+n then none else ab i
 have c6:aB ⟨c,0⟩=some (fe,iH.size):=by simp[aB]
 have TD:∀i,i<n→aB ⟨c,p+i+1⟩=ab ⟨d,off+i+1⟩:=by intro i ax;simp only[aB,if_true];rw[if_neg R,if_pos R,show off+(p+i+1-p)=off+i+1 by omega]
 have TE:∀ac,¬(p≤ac∧ac<p+n)→aB ⟨c,ac+1⟩=ab ⟨c,ac+1⟩:=by intro ac a_;simp only[aB,if_true];rw[if_neg R,if_neg R]
 have TF:∀ac,¬(off≤ac∧ac<off+n)→aB ⟨d,ac+1⟩=ab ⟨d,ac+1⟩:=by intro ac a_;simp only[aB];rw[if_neg (a' e2),if_neg R]
 have If:aB ⟨d,0⟩=ab ⟨d,0⟩:=by simp only[aB];rw[if_neg (a' e2),if_neg R]
 have u9:∀e q,e≠c→e≠d→aB ⟨e,q⟩=ab ⟨e,q⟩:=by intro e q j I;simp only[aB];rw[if_neg j,if_neg (λ h=>I h.1)]
 have fk:d<H.length:=(bF.1 mN).1;have w1:c<an.length:=(bF.1 kR).1;have inv:∀(i:fb) b m,aB i=some (b,m)→(i=⟨c,0⟩∧b=fe)∨(∃q,i=⟨c,p+q+1⟩∧q<n∧ab ⟨d,off+q+1⟩=some (b,m))∨(i≠⟨c,0⟩∧(∀q,q<n→i≠⟨c,p+q+1⟩)∧(∀q,q<n→i≠⟨d,off+q+1⟩)∧ab i=some (b,m)):=by
  rintro⟨TG,By⟩ b m h;by_cases j:TG=c
  ·subst j;by_cases I:By=0
   ·subst I;rw[c6]at h;cases h;exact .inl ⟨rfl,rfl⟩
   ·obtain⟨ac,rfl⟩:∃ac,By=ac+1:=⟨By-1,R⟩;by_cases av:p≤ac∧ac<p+n
    ·obtain⟨q,rfl⟩:∃q,ac=p+q:=⟨ac-p,R⟩;rw[TD q R]at h;exact .inr (.inl ⟨q,rfl,R,h⟩)
    ·rw[TE ac av]at h;exact .inr (.inr ⟨by simp,λ q bm=>by simp;omega,λ q bm=>by simp[e2],h⟩)
  ·by_cases I:TG=d
   ·subst I;by_cases av:By=0
    ·subst av;rw[If]at h;exact .inr (.inr ⟨by simp[a' e2],λ q bm=>by simp,λ q bm=>by simp,h⟩)
    ·obtain⟨ac,rfl⟩:∃ac,By=ac+1:=⟨By-1,R⟩;by_cases ba:off≤ac∧ac<off+n
     ·simp only[aB]at h;rw[if_neg j,if_pos (by first|exact⟨trivial,R,R⟩|exact⟨rfl,R,R⟩)]at h;cases h
     ·rw[TF ac ba]at h;exact .inr (.inr ⟨by simp,λ q bm=>by simp[a' e2],λ q bm=>by simp;omega,h⟩)
   ·rw[u9 _ _ j I]at h;exact .inr (.inr ⟨by simp[j],λ q bm=>by simp[j],λ q bm=>by simp[I],h⟩)
 have fy:∀i m,ab i=some (fe,m)→ab ⟨c,0⟩=some (fe,iH.size):=by
  intro i m h;rcases pi with j|j
  ·exact j
  ·have:=(ap.sep _ _ _ h).2.1;omega
 have stay:∀(i:fb) b m,ab i=some (b,m)→i≠⟨c,0⟩→aq.heap[b]?=w.heap[b]?:=by
  intro i b m h ax;exact gK b (ap.sep _ _ _ h).2.1 λ bZ h1=>ax (ap.inj _ _ _ _ _ h h1)
 refine Ep ap (aB:=aB) (λ e he=>?_) hlen (λ hm e x ak=>?_) (λ b aj aE=>gK b aj λ m=>aE _ m) eu ajU ajV ajW (λ i b m h=>?_) (λ i b m h=>?_) (λ i ac b m bZ j I=>?_) (λ hm=>eT aB c6)
 ·by_cases jB:e=c
  ·subst jB;intro x ak;rw[kR]at ak;cases ak;intro c_ aU dD pW lc;rw[kR]at lc;cases lc;obtain⟨z0,g,s,ha,cm,cy⟩:=ajS he;rcases cy with cy|⟨rfl,rfl,fc,iW,l_⟩
   ·exact .inr ⟨_,_,_,_,cm,cy⟩
   ·exact .inl ⟨s,ha,cm,by rw[c6];exact l_.symm,iW,.inl fc⟩
  ·by_cases pf:e=d
   ·subst pf;intro x ak;rw[u7]at ak;cases ak;intro c_ aU dD pW lc;rw[u7]at lc;cases lc;exact .inl ⟨s2,c7,mN,If,Bw b9,.inl R⟩
   ·exact iX.same (nk e jB pf) λ q=>u9 e q jB pf
 ·by_cases jB:e=c
  ·subst jB;rw[kR]at ak;cases ak;refine .inr ⟨fe,iH,ao,u6,c6,w',ajT,HF,λ ac y a_=>?_⟩;rcases bX ac y a_ with⟨i,ax,rfl,aY,bh⟩|⟨MH,aY,bh⟩
   ·rw[bh];have:=ph i y ax aY;cases y with
    |own bP=>
     obtain⟨bG,bC⟩:=this;refine⟨bG,?_⟩;rcases bC with bC|⟨b,wS,zd,bj,cm,cy,fc,iW,l_,wP⟩
     ·exact .inl bC
     ·exact .inr ⟨b,wS,zd,bj,by rw[TD i ax];exact cm,cy,by rw[stay _ _ _ cm (by simp[a' e2])];exact fc,iW,l_,wP⟩
    |dK q=>exact this
    |dead=>exact this
   ·rw[bh];exact(hold ac y aY).mono (TE ac MH) (λ _ _ h=>h) λ b m h=>stay _ _ _ h (by simp)
  ·by_cases pf:e=d
   ·subst pf;rw[u7]at ak;cases ak;rcases ap.b6 _ _ mN with⟨cm,cy⟩|⟨b,wS,zd,bj,cm,cy,fc,iW,l_⟩
    ·refine .inl ⟨by rw[←cm];exact If,?_⟩;subst cy;have:(e5 [] off n).length=0:=Bw b9;exact pX.1 this
    ·refine .inr ⟨b,wS,zd,bj,by rw[←cm];exact If,by rw[stay _ _ _ cm (by simp[a' e2])];exact cy,fc,by rw[Bw b9];exact iW,λ ac y a_=>?_⟩;rcases ajR b9 a_ with⟨j,I,rfl⟩|⟨j,I⟩
     ·have MH:ac<c7.length:=R;have:=l_ ac _ (eX MH);exact this.one
     ·exact(l_ ac y I).mono (TF ac j) (λ _ _ h=>h) λ b m h=>stay _ _ _ h (by simp)
   ·rw[nk e jB pf]at ak;exact(ap.b6 _ _ ak).mono (λ q=>u9 e q jB pf) (λ _ _ h=>h) hm λ q b m h=>stay _ _ _ h (by simp[jB])
 ·rcases inv i b m h with⟨rfl,rfl⟩|⟨q,rfl,_,j⟩|⟨_,_,_,j⟩
  ·rcases pi with j|j
   ·exact .inr ⟨_,_,j⟩
   ·exact .inl R
  ·exact .inr ⟨_,_,j⟩
  ·exact .inr ⟨_,_,j⟩
 ·rcases inv i b m h with⟨rfl,rfl⟩|⟨q,rfl,_,j⟩|⟨_,_,_,j⟩
  ·exact⟨(jY.1 w').1,w1⟩
  ·exact⟨wO (ap.sep _ _ _ j).2.1 eu,w1⟩
  ·exact⟨wO (ap.sep _ _ _ j).2.1 eu,wO (ap.sep _ _ _ j).2.2 hlen⟩
 ·rcases inv i b m j with⟨rfl,rfl⟩|⟨q,rfl,bm,hs⟩|⟨ajX,aQr,ajY,hs⟩
  ·rcases inv ac b bZ I with⟨rfl,_⟩|⟨Bz,rfl,MI,a2⟩|⟨v1,v2,v3,a2⟩
   ·rfl
   ·have:=ap.inj _ _ _ _ _ a2 (fy _ _ a2);simp[a' e2]at this
   ·exact absurd (ap.inj _ _ _ _ _ a2 (fy _ _ a2)) v1
  ·rcases inv ac b bZ I with⟨rfl,rfl⟩|⟨Bz,rfl,MI,a2⟩|⟨v1,v2,v3,a2⟩
   ·have:=ap.inj _ _ _ _ _ hs (fy _ _ hs);simp[a' e2]at this
   ·have:=ap.inj _ _ _ _ _ hs a2;simp at this;rw[this]
   ·exact absurd (ap.inj _ _ _ _ _ a2 hs) (v3 q bm)
  ·rcases inv ac b bZ I with⟨rfl,rfl⟩|⟨Bz,rfl,MI,a2⟩|⟨v1,v2,v3,a2⟩
   ·exact absurd (ap.inj _ _ _ _ _ hs (fy _ _ hs)) ajX
   ·exact absurd (ap.inj _ _ _ _ _ hs a2) (ajY Bz MI)
   ·exact ap.inj _ _ _ _ _ hs a2
def lQ{d:Nat}:∀{l:List U},d∈bx l↔∃(k:Nat) (a:U),l[k]?=some a∧d∈bc a
 |[]=>by simp[bx]
 |a::l=>by
  simp only[bx,fS,lQ (l:=l)];constructor
  ·rintro(h|⟨k,b,j,I⟩)
   ·exact⟨0,a,rfl,h⟩
   ·exact⟨k+1,b,by simpa using j,I⟩
  ·rintro⟨k,b,j,I⟩;cases k with
   |zero=>simp at j;subst j;exact .inl I
   |succ k=>exact .inr ⟨k,b,by simpa using j,I⟩
def qQ{a:U}{v:Value}(r:a6 ad ab H a v):∀d∈bc a,d<H.length:=by
 induction r with
 |dead v=>intro d aM;simp[bc]at aM
 |i x v h=>intro d aM;simp[bc]at aM
 |agg cells cs al _ a8=>intro d aM;simp only[bc]at aM;obtain⟨k,b,j,I⟩:=lQ.1 aM;exact a8 k b j d I
 |ref c g off len v ag aR aI au aP=>intro d aM;simp[bc]at aM;omega
 |ptr c g r k v ag aj aR aI ax au aP=>intro d aM;simp[bc]at aM;omega
 |dv c v ag hm bp hu au bf=>intro d aM;simp[bc]at aM;omega
 |x k v h aI=>intro d aM;simp[bc]at aM;subst aM;exact h.lt
 |aQ fn first ft eI cs al hm _ _ nH nI=>
  intro d aM;simp only[bc,fS]at aM;rcases aM with aM|aM
  ·obtain⟨k,b,j,I⟩:=lQ.1 aM;exact nH k b j d I
  ·obtain⟨k,b,j,I⟩:=lQ.1 aM;exact nI k b j d I
 |bd vs xs al _ a8=>intro d aM;simp only[bc]at aM;obtain⟨k,b,j,I⟩:=lQ.1 aM;exact a8 k b j d I
def TH{y:Chunk}{c:Nat}{cells:List U}(h:oh ad ab H w c y)(aY:y=.box cells∨(∃t,y=.cY t cells)):∀d∈bx cells,d<H.length:=by
 intro d aM;obtain⟨k,a,j,I⟩:=lQ.1 aM;rcases aY with rfl|⟨t,rfl⟩
 ·obtain⟨_,cs,_,_,_,_,_,_,bs⟩:=h;exact qQ (bs k a j) d I
 ·obtain⟨_,cs,_,_,_,bs⟩:=h;exact qQ (bs k a j) d I
def Ig{Eo j2:Chunk}{a:U}{v:Value}(r:a6 ad ab (H++[Eo]) a v):(∀d∈bc a,d<H.length)→a6 ad ab (H++[j2]) a v:=by
 have xf:∀d,d<H.length→(H++[j2])[d]?=(H++[Eo])[d]?:=by intro d aM;rw[ei aM,ei aM]
 induction r with
 |dead v=>exact λ _=>.dead v
 |i x v h=>exact λ _=>.i x v h
 |agg cells cs al _ a8=>exact λ aM=>.agg cells cs al λ k a aA=>a8 k a aA λ d h=>aM d (by simp only[bc];exact lQ.2 ⟨k,a,aA,h⟩)
 |aQ fn first ft eI cs al hm _ _ nH nI=>exact λ aM=>.aQ fn first ft eI cs al hm (λ k a aA=>nH k a aA λ d h=>aM d (by simp only[bc,fS];exact .inl (lQ.2 ⟨k,a,aA,h⟩))) (λ k a aA=>nI k a aA λ d h=>aM d (by simp only[bc,fS];exact .inr (lQ.2 ⟨k,a,aA,h⟩)))
 |bd vs xs al _ a8=>exact λ aM=>.bd vs xs al λ k a aA=>a8 k a aA λ d h=>aM d (by simp only[bc];exact lQ.2 ⟨k,a,aA,h⟩)
 |ref d g off len v ag aR aI au aP=>intro aM;have e:=xf d (aM d (by simp[bc]));exact .ref _ _ _ _ _ (by simpa using ag) (λ aw rows ex h=>aR aw rows ex (by rw[←e];exact h)) (λ aw rows ex h=>aI aw rows ex (by rw[←e];exact h)) au (λ aw aU rows ex h=>aP aw aU rows ex (by rw[←e];exact h))
 |dv d v ag hm bp hu au bf=>intro aM;have e:=xf d (aM d (by simp[bc]));exact .dv _ _ (by simpa using ag) (λ es h=>hm es (by rw[←e];exact h)) (λ t cells h=>bp t cells (by rw[←e];exact h)) (λ t l h=>hu t l (by rw[←e];exact h)) au (λ aw g rows ex h=>bf _ _ _ _ (by rw[←e];exact h))
 |ptr d g r k v ag aj aR aI ax au aP=>intro aM;have e:=xf d (aM d (by simp[bc]));exact .ptr _ _ _ _ _ (by simpa using ag) (λ cells h=>aj cells (by rw[←e];exact h)) (λ aw rows ex h=>aR aw rows ex (by rw[←e];exact h)) (λ aw rows ex row h=>aI aw rows ex row (by rw[←e];exact h)) (λ s p h=>ax s p (by rw[←e];exact h)) au (λ aw aU rows ex h=>aP aw aU rows ex (by rw[←e];exact h))
 |x k v h aI=>intro aM;have e:=xf k.c (aM k.c (by simp[bc]));refine .x _ _ (h.step (by simp) ?_) (aI.to (λ _ _ h=>h) λ g rows aO=>by rw[e]at aO;exact aO);intro z g s rows aO;rw[e]at aO;exact .inl ⟨s,rows,aO,rfl,rfl,.inr ⟨rfl,λ r bP ah=>⟨bP,ah,rfl,rfl⟩⟩⟩
def MJ(ap:b5 E ad ab H w){aq:World}{rows:List (List aC)}{ex:Bool}{x:Value}{n z:Nat}
  (bY:ci E ad ab H w (H++[.sl 1 0 rows ex]) aq λ aL aB=>a6 aL aB (H++[.sl 1 0 rows ex]) (.ref H.length 0 0 n) x):
  ci E ad ab H w (H++[.az z 0 0 (rows.map pR)]) aq λ aL aB=>a6 aL aB (H++[.az z 0 0 (rows.map pR)]) (.x (.d H.length 0 0 n)) x:=by
 obtain⟨aL,aB,nm,cX,MK,sN⟩:=bY;have last:(H++[Chunk.sl 1 0 rows ex])[H.length]?=some (.sl 1 0 rows ex):=by simp
 have key:∀a v,a6 ad ab H a v→a6 aL aB (H++[.az z 0 0 (rows.map pR)]) a v:=λ a v r=>Ig (MK a v r) (qQ r)
 obtain⟨bf,hq,fi⟩:=nm.b6 _ _ last;have Ms:∃a cap,x=.slice a n cap∧D_ aB H.length rows.length 0 n (.slice a n cap):=by
  cases sN with
  |ref c g off len v ag aR aI au aP=>
   obtain⟨cm,a,cap,rfl,cy⟩:=aR _ _ _ last;refine⟨a,cap,rfl,cm,a,cap,rfl,?_⟩;rcases cy with cy|⟨b,m,bG,bC,cE,eU⟩
   ·exact .inl cy
   ·exact .inr ⟨b,m,bG,bC,by simpa using cE,by simpa using eU⟩
 obtain⟨a,cap,rfl,ajZ⟩:=Ms;refine⟨aL,aB,⟨nm.dR,λ c y aY=>?_,nm.inj,λ i b m h=>by have:=nm.sep i b m h;simpa using this,nm.e4⟩,cX,key,?_⟩
 ·by_cases ag:c<H.length
  ·rw[ei ag]at aY;have EB:(H++[Chunk.sl 1 0 rows ex])[c]?=some y:=by rw[ei ag];exact aY
   have j:=nm.b6 _ _ EB;have aW:=ap.b6 _ _ aY;cases y with
   |box cells=>have ah:=TH aW (.inl rfl);obtain⟨b,cs,elem,bj,cm,cy,fc,iW,l_⟩:=j;exact⟨b,cs,elem,bj,cm,cy,fc,iW,λ k a aA=>Ig (l_ k a aA) λ d aM=>ah d (lQ.2 ⟨k,a,aA,aM⟩)⟩
   |cY t cells=>have ah:=TH aW (.inr ⟨t,rfl⟩);obtain⟨b,cs,cm,cy,iW,l_⟩:=j;exact⟨b,cs,cm,cy,iW,λ k a aA=>Ig (l_ k a aA) λ d aM=>ah d (lQ.2 ⟨k,a,aA,aM⟩)⟩
   |map es=>obtain⟨b,hl,aJ,cm,cy,fc⟩:=j;obtain⟨_,_,_,_,_,cE⟩:=aW;exact⟨b,hl,aJ,cm,cy,fc.of λ a v aA r=>Ig r (qQ (cE.ex aA).choose_spec)⟩
   |sl=>exact j
   |bj=>exact j
   |iter=>exact j
   |ju=>exact j
   |gone=>exact j
   |fd=>exact j
   |az=>exact j
  ·have:c=H.length:=by have:=(bF.1 aY).1;simp at this;omega
   subst this;simp at aY;subst aY;rcases fi with⟨j,I⟩|⟨b,cs,elem,bj,j,I,av,ba,_,bs⟩
   ·exact .inl ⟨j,by rw[I];rfl⟩
   ·refine .inr ⟨b,cs,elem,bj,j,I,av,by simpa using ba,λ r y ah=>?_⟩;simp only[fw,c0]at ah;obtain⟨row,ah,rfl⟩:=ah;have al:=hq _ _ ah
    match row,al,ah with
    |[q],_,ah=>exact(by simpa using bs r [q] 0 q ah rfl:dl aL q (cs.getD r undef))
 ·refine .x _ _ ⟨by simp,⟨_,_,rfl⟩,λ c_ aU dD eB h=>?_⟩ (.d TI);simp at h;obtain⟨rfl,rfl,rfl,rfl⟩:=h;refine⟨cL _,λ _=>?_⟩;rw[nM];exact ajZ
def TJ{t:TypeId}{l c v:U}{an:aa}(h:jg E H t l c=some (v,an)):∃z n rows ex,v=.ref H.length 0 0 n∧an=H++[.sl z 0 rows ex]:=by
 unfold jg at h
 repeat' split at h
 all_goals first|(cases h;exact⟨_,_,_,_,rfl,rfl⟩)|cases h
def aj0(ap:b5 E ad ab H w){t:TypeId}{z:Nat}{l c v:U}{y TK:Value}{an:aa}(h:tt z (jg E H t l c)=some (v,an))(ej:a6 ad ab H l y)(H3:a6 ad ab H c TK):
  ∃x aq,(H4 t y TK).run E.P w=.ok x aq∧ci E ad ab H w an aq λ aL aB=>a6 aL aB an v x:=by
 unfold tt at h;split at h
 ·rename_i cl n H1 hm;obtain⟨fl,f',rows,ex,ao,rfl⟩:=TJ hm;cases ao;unfold A8 at h;split at h
  ·rename_i eB fY al;simp at al;obtain⟨rfl,rfl,rfl⟩:=al;simp only[bg,bw]at h;obtain⟨rfl,rfl⟩:=h;obtain⟨x,aq,j,I⟩:=Tk ap hm ej H3;have e:(H++[Chunk.sl 1 0 rows ex]).set H.length (.az z 0 0 (rows.map pR))=H++[.az z 0 0 (rows.map pR)]:=by rw[yY _ _ (cL _)];simp
   rw[e];exact⟨x,aq,j,MJ ap I⟩
  ·cases h
 ·cases h
def Ih{t t2:TypeId}(h:rF E t t2=true):∃e b dX,e0 E.P t=some e∧fG E.P e=some 1∧tl E.P e=some b∧kG E.P e=some dX∧b≤65536∧(e0 E.P t2).isSome=true∧(cw dX).length=1∧(cw dX).all one=true:=by
 unfold rF at h;split at h
 ·rename_i e he;split at h
  ·rename_i z b dX j I av;simp only[cR,decide_eq_true_eq]at h;obtain⟨⟨rfl,cm,cy,fc⟩,iW⟩:=h;exact⟨e,b,dX,he,j,I,av,cm,cy,fc,iW⟩
  ·cases h
 ·cases h
def TL(ap:b5 E ad ab H w){t:TypeId}{z:Nat}{eL:Value}(ho:rF E t t=true)(lJ:eL.oneCell'=true):
  ∃x aq,(HX t 1 #[(0,eL)]).run E.P w=.ok x aq∧ci E ad ab H w (H++[.az z 0 0 [.dK (.v eL)]]) aq λ aL aB=>a6 aL aB (H++[.az z 0 0 [.dK (.v eL)]]) (.x (.d H.length 0 0 1)) x:=by
 obtain⟨e,b,dX,he,bf,aj,hzero,_,_,pc,ze⟩:=Ih ho;have aj1:k8 E H t 1 [(0,.i (.v eL))]=some (.ref H.length 0 0 1,H++[.sl 1 0 [[.v eL]] true]):=by
  unfold k8;rw[he];simp only[bf,hzero];rw[if_pos ⟨R,pc,R,ze⟩];obtain⟨a0,ML⟩:∃a0,cw dX=[a0]:=by
   match bm:cw dX,pc with
   |[a0],_=>exact⟨a0,rfl⟩
  have ao:fX 1 (cB 1 (cw dX)).flatten [(0,U.i (.v eL))]=some [U.i (.v eL)]:=by rw[ML];simp[fX,cw,one,o3]
  simp only[ao,fC,freeze,o5];have aH:hO (cB 1 (E.kinds e)).flatten [aC.v eL]=[aC.v eL]:=by
   cases ay:(cB 1 (E.kinds e)).flatten with
   |nil=>rfl
   |cons k br=>cases k<;>cases br<;>rfl
  rw[aH];rfl
 obtain⟨x,aq,bG,bC⟩:=S' (jz:=#[(0,eL)]) ap aj1 ⟨rfl,λ k p q au bm=>by
  cases k with
  |zero=>simp at au bm;subst au bm;exact⟨rfl,.i _ _ (.v _ lJ)⟩
  |succ k=>simp at au⟩
 exact⟨x,aq,bG,MJ (z:=z) ap bC⟩
def TM{N z:Nat}{eL:Value}(al:H.length=N)(ap:b5 E ad ab (H++[.az z 0 0 [.dK (.v eL)]]) w){oq:aa}{aB:b8}{y:bT}{u:Value}(r:a6 ad ab (H++[.az z 0 0 [.dK (.v eL)]]) (.x (.d N 0 0 1)) u)(aW:oq.length=N)
  (nk:∀e,e<N→(oq[e]?=H[e]?∧∀q,aB ⟨e,q⟩=ab ⟨e,q⟩)∨(oq[e]?=some .gone∧aB ⟨e,0⟩=none))(lk:aB ⟨N,0⟩=ab ⟨N,0⟩)
  (ko:∀(i:fb) b n,aB i=some (b,n)→(∃(ac:fb) (m:Nat),ab ac=some (b,m))∧i.c≤N)(Er:∀(i ac:fb) b n dP,aB i=some (b,n)→aB ac=some (b,dP)→i=ac)(aY:l9 ad aB w z N 0 y eL):
  ci E ad ab (H++[.az z 0 0 [.dK (.v eL)]]) w (oq++[.az z 0 1 [y]]) w λ aL aB=>a6 aL aB (oq++[.az z 0 1 [y]]) (.x (.d N 0 0 1)) u:=by
 have last:(H++[Chunk.az z 0 0 [.dK (.v eL)]])[N]?=some (.az z 0 0 [.dK (.v eL)]):=by subst al;simp
 have MM:(oq++[Chunk.az z 0 1 [y]])[N]?=some (.az z 0 1 [y]):=by subst aW;simp
 have bK:∀c,c<(H++[Chunk.az z 0 0 [.dK (.v eL)]]).length→iX ad ab (H++[Chunk.az z 0 0 [.dK (.v eL)]]) ad aB (oq++[Chunk.az z 0 1 [y]]) c:=by
  intro c ag;simp at ag;by_cases MN:c=N
  ·subst MN;intro q bm;rw[MM]at bm;cases bm;intro c_ aU dD eB lc;rw[MM]at lc;cases lc;exact .inl ⟨0,_,last,lk,rfl,.inl R⟩
  ·have be:c<N:=R;rcases nk c be with⟨cm,cy⟩|⟨cm,cy⟩
   ·exact iX.same (by rw[ei R,ei R];exact cm) cy
   ·intro q bm;rw[ei R,cm]at bm;cases bm;trivial
 refine Ep ap (aB:=aB) bK (by simp[al,aW]) (λ hm c q bm=>?_) (λ _ _ _=>rfl) (cL _) rfl rfl rfl (λ i b n h=>.inr (ko i b n h).1) (λ i b n h=>?_) Er (λ hm=>hm _ _ r)
 ·by_cases MN:c=N
  ·subst MN;rw[MM]at bm;cases bm;rcases ap.b6 _ _ last with⟨_,I⟩|⟨b,cs,elem,bj,j,I,av,ba,bs⟩
   ·cases I
   ·refine .inr ⟨b,cs,elem,bj,by rw[←j];exact lk,I,av,by simpa using ba,λ r d ah=>?_⟩;cases r with
    |succ r=>simp at ah
    |zero=>
     simp at ah;subst ah;have dq:dl ad (.v eL) (cs.getD 0 undef):=bs 0 _ rfl;have gn:cs.getD 0 undef=eL:=by generalize cs.getD 0 undef=q at dq;cases dq;rfl
     rw[gn];exact aY
  ·have be:c<N:=by have:=(bF.1 bm).1;simp at this;omega
   rw[ei R]at bm;rcases nk c be with⟨cm,cy⟩|⟨cm,cy⟩
   ·rw[cm]at bm;exact(ap.b6 c q (by rw[ei R];exact bm)).mono cy (λ _ _ h=>h) hm (λ _ _ _ _=>rfl)
   ·rw[cm]at bm;cases bm;exact cy
 ·obtain⟨⟨ac,m,cm⟩,cy⟩:=ko i b n h;exact⟨(ap.sep _ _ _ cm).2.1,by simp[aW];omega⟩
def aj2(ap:b5 E ad ab H w){t:TypeId}{z n:Nat}{bk:List (Nat×U)}{jz:Array (Nat×Value)}{v:U}{an:aa}(h:tr E H t z n bk=some (v,an))(au:Bp ad ab H bk jz.toList):
  ∃x aq,(HX t n jz).run E.P w=.ok x aq∧ci E ad ab H w an aq λ aL aB=>a6 aL aB an v x:=by
 unfold tr at h;split at h;rotate_left
 ·cases h
 rename_i v0;split at h;rotate_left
 ·cases h
 rename_i ag;obtain⟨rfl,pd,ho⟩:=ag;obtain⟨eL,bm,rx⟩:∃eL,jz=#[(0,eL)]∧a6 ad ab H v0 eL:=by
  obtain⟨al,ah⟩:=au;obtain⟨aj3⟩:=jz
  match aj3,al with
  |[q],_=>obtain⟨cm,cy⟩:=ah 0 _ _ rfl rfl;exact⟨q.2,by rw[show q=(q.1,q.2)from rfl,←cm],cy⟩
 subst bm;have lJ:=Ht rx pd;unfold A5 at h;split at h;rotate_left
 ·cases h
 rename_i y H1 bX;simp only[bg,bw]at h;obtain⟨rfl,rfl⟩:=h;rcases Te ap rx bX with⟨q,rfl,bY⟩|⟨d,g2,bP,ex,rfl,aM,bf,rfl,rfl⟩
 ·obtain⟨ef,dW,ou,gM,mO,bm⟩:=bY;obtain⟨x,aq,bG,bC⟩:=TL (z:=z) ou ho lJ;refine⟨x,aq,bG,?_⟩;obtain⟨eY,ev,h5,gQ,j3,pj⟩:=bC
  let aB:b8:=λ i=>if i=⟨H1.length,1⟩then none else ev i
  have lh:∀i b n,aB i=some (b,n)→ev i=some (b,n):=by
    intro i b n h;simp only[aB]at h;split at h
    · cases h
    · exact h
  obtain⟨jD,jE,EC,xg,BA,ED⟩:=TM (aB:=ev) (oq:=H1) (y:=.dK q) rfl h5 pj rfl (λ e he=>.inl ⟨rfl,λ _=>rfl⟩) rfl (λ i b n h=>⟨⟨_,_,h⟩,by have:=(h5.sep _ _ _ h).2.2;simp at this;omega⟩) h5.inj (bm.mono gQ.dR);exact⟨jD,jE,EC,gM.trans (gQ.trans xg),mO.trans (j3.trans BA),ED⟩
 ·obtain⟨x,aq,bG,bC⟩:=TL (z:=z) ap ho lJ;refine⟨x,aq,bG,?_⟩;obtain⟨eY,ev,h5,gQ,j3,pj⟩:=bC;have fk:d<H.length:=(bF.1 aM).1;have me:(H++[Chunk.az z 0 0 [.dK (.v eL)]])[d]?=some (.sl z g2 bP ex):=by rw[ei fk];exact aM
  let aB:b8:=λ i=>if i=⟨H.length,1⟩then ev ⟨d,0⟩else if i=⟨d,0⟩then none else ev i
  have u2:∀i b n,aB i=some (b,n)→(i=⟨H.length,1⟩∧ev ⟨d,0⟩=some (b,n))∨(i≠⟨H.length,1⟩∧i≠⟨d,0⟩∧ev i=some (b,n)):=by
    intro i b n h;simp only[aB]at h;split at h
    · rename_i ax;exact .inl ⟨ax,h⟩
    · rename_i ax;split at h
      · cases h
      · rename_i yQ;exact .inr ⟨ax,yQ,h⟩
  have key:ci E eY ev (H++[.az z 0 0 [.dK (.v eL)]]) aq (H.set d .gone++[.az z 0 1 [.own bP]]) aq λ aL aB=>a6 aL aB (H.set d .gone++[.az z 0 1 [.own bP]]) (.x (.d H.length 0 0 1)) x:=by
   refine TM (aB:=aB) (oq:=H.set d .gone) (y:=.own bP) rfl h5 pj (by simp) (λ e he=>?_) (by simp[aB,show H.length≠d by omega]) (λ i b n h=>?_) (λ i ac b n dP j I=>?_)
    (Tc h5 me bf (j3 _ _ rx) (by simp[aB]) (λ _ _ _=>rfl))
   · by_cases pf:e=d
     · subst pf;exact .inr ⟨by simp[fk],by simp[aB,show e≠H.length by omega]⟩
     · exact .inl ⟨by rw[dw (a' pf)],λ q=>by simp[aB,pf,show e≠H.length by omega]⟩
   · rcases u2 _ _ _ h with⟨rfl,j⟩|⟨_,_,j⟩
     · exact⟨⟨_,_,j⟩,cL _⟩
     · exact⟨⟨_,_,j⟩,by have:=(h5.sep _ _ _ j).2.2;simp at this;omega⟩
   · rcases u2 _ _ _ j with⟨rfl,ao⟩|⟨cm,cy,ao⟩
     · rcases u2 _ _ _ I with⟨rfl,aH⟩|⟨fc,iW,aH⟩
       · rfl
       · exact absurd (h5.inj _ _ _ _ _ aH ao) iW
     · rcases u2 _ _ _ I with⟨rfl,aH⟩|⟨fc,iW,aH⟩
       · exact absurd (h5.inj _ _ _ _ _ ao aH) cy
       · exact h5.inj _ _ _ _ _ ao aH
  obtain⟨jD,jE,EC,xg,BA,ED⟩:=key;have e:(H.set d Chunk.gone).length=H.length:=by simp
  rw[e];exact⟨jD,jE,EC,gQ.trans xg,j3.trans BA,ED⟩
def BB(ap:b5 E ad ab H w){c z g s g1 s1:Nat}{rows tM:List bT}(aO:H[c]?=some (.az z g s rows))(be:g<g1∨(g=g1∧s<s1∧tM.length=rows.length))(al:tM.length≤rows.length)
  (ah:∀(i:Nat) (y:bT),tM[i]?=some y→rows[i]?=some y):ci E ad ab H w (H.set c (.az z g1 s1 tM)) w λ aL aB=>aB=ab∧aL=ad:=by
 have ch:c<H.length:=(bF.1 aO).1;refine Ep ap (aB:=ab) (λ e he=>?_) (by simp) (λ hm e x ak=>?_) (λ _ _ _=>rfl) (cL _) rfl rfl rfl (λ i b n h=>.inr ⟨_,_,h⟩) (λ i b n h=>by have:=ap.sep _ _ _ h;exact⟨this.2.1,by simpa using this.2.2⟩) ap.inj (λ _=>⟨rfl,rfl⟩)
 ·by_cases jB:e=c
  ·subst jB;intro x ak;rcases fx ak with⟨_,rfl⟩|⟨ao,_⟩
   ·intro c_ aU dD eB lc;rcases fx lc with⟨_,aH⟩|⟨aH,_⟩
    ·cases aH;rcases be with h|⟨rfl,j,I⟩
     ·exact .inr ⟨_,_,_,_,aO,h⟩
     ·exact .inl ⟨_,_,aO,rfl,I,.inl j⟩
    ·exact absurd rfl aH
   ·exact absurd rfl ao
  ·exact iX.same (by rw[dw (a' jB)]) (λ _=>rfl)
 ·rcases fx ak with⟨rfl,rfl⟩|⟨j,I⟩
  ·rcases ap.b6 _ _ aO with⟨cm,cy⟩|⟨b,cs,elem,bj,cm,cy,fc,iW,l_⟩
   ·subst cy;exact .inl ⟨cm,pX.1 (by simpa using al)⟩
   ·exact .inr ⟨b,cs,elem,bj,cm,cy,fc,R,λ r y aY=>l_ r y (ah r y aY)⟩
  ·exact(ap.b6 _ _ I).mono (λ _=>rfl) (λ _ _ h=>h) hm (λ _ _ _ _=>rfl)
def rV(rows:List bT)(off:Nat):e5 rows off 0=rows:=by simp[e5]
def MO(ap:b5 E ad ab H w)(z:Nat)(a:Option Addr):ci E ad ab H w (H++[.az z 0 0 []]) w λ aL aB=>a6 aL aB (H++[.az z 0 0 []]) (.x (.d H.length 0 0 0)) (.slice a 0 0):=by
 have fy:ab (⟨H.length,0⟩:fb)=none:=by
  cases h:ab (⟨H.length,0⟩:fb)with
  |none=>rfl
  |some p=>have:=ap.Bc (c:=H.length) (b:=p.1) (n:=p.2) h;omega
 have hm:e6 ad ab H ad ab (H++[.az z 0 0 []]):=mG (λ _ _ h=>h) (by simp) λ c ag=>iX.same (by rw[ei ag]) (λ _=>rfl)
 refine⟨ad,ab,⟨ap.dR,λ c x ak=>?_,ap.inj,λ c b n h=>by have:=ap.sep c b n h;exact⟨this.1,this.2.1,by simp;omega⟩,ap.e4⟩,Trans.refl _ _ _,hm,?_⟩
 ·by_cases ag:c<H.length
  ·rw[ei ag]at ak;exact(ap.b6 c x ak).mono (λ _=>rfl) (λ _ _ h=>h) hm (λ _ _ _ _=>rfl)
  ·have:c=H.length:=by have:=(bF.1 ak).1;simp at this;omega
   subst this;simp at ak;subst ak;exact .inl ⟨fy,rfl⟩
 ·refine .x _ _ ⟨by simp,⟨_,_,rfl⟩,λ c_ aU dD eB h=>?_⟩ (.d TI);simp at h;obtain⟨rfl,rfl,rfl,rfl⟩:=h;exact⟨cL _,λ _=>⟨by simp,_,_,rfl,.inl ⟨fy,rfl⟩⟩⟩
def BC{P:Program}{a:Option Addr}{n cap:Nat}(aq:World):(qL (.slice a n cap)).run P aq=.ok n aq:=by simp[qL]
end
end Go.VI
