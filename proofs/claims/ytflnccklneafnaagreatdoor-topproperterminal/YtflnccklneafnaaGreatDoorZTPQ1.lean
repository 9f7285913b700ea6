import Derived.Orders
import Derived.Laws.Sem
import Derived.Laws.Cells
import Derived.ChangeKeysEq
import Derived.Laws.StructEq
import Derived.Laws.Strings
import Derived.IntWalk
import Derived.Laws.BytesArg
import Derived.Laws.RangeString
open Array renaming getElem?_toList→mW,getD_eq_getD_getElem?→dp,getElem?_eq_some_iff→j6,length_toList→vl,getElem?_push→Is,range→Iv,getElem?_eq_getElem→q9,eq_empty_of_size_eq_zero→zw,replicate→zx,getElem?_append_left→xI,toList_map→Nf
open BitVec renaming ofInt→sP
open Bool renaming false_eq_true→fK,and_eq_true→cO,or_eq_true→xv
open Go.Builtin renaming lenOf→q8,firstCells→iK,nextslicecap→II,zeroCells→EZ,append_→q'
open Go.Conv renaming runesFrom→M9
open Go.Instr renaming sureAddr→zc,indexAt→zj,sliceBounds→zk,sliceAt→vk,slice→zm,fill→Ih,buildSlice→Iw,storeAt→xG,makeSlice→IC,findNow→qo,sameNow→M',lookup→zy,checkKey→Nb,findKey→zA,sameBits→IL,mapUpdate→IM
open Go.IntKind renaming i64→n0
open Go.Op renaming intCmp→EH,equalIn→H7
open Go.Region renaming before→qa
open Go.Result renaming andThen_ok→ek
open Go.Sem renaming run_bind→dU,run_pure→eL,run→ua
open Go.Utf8 renaming encode→HT,decode→mh
open Go.Value renaming int→j4,func→EB,cells→sg,oneCell'→MN
open Go.World renaming cell?→sf
open List renaming replicate→cy,range→hg,range'→lN,length_eq_zero_iff→qe,map_cons→fk,mem_cons→mU,pairwise_cons→vg,getElem?_map→fA,getElem?_eq_some_iff→bF,getElem?_take→nZ,getElem?_drop→q5,getElem?_append_left→en,getElem?_append_right→ha,getElem?_eq_getElem→eT,length_append→dd,replicate_succ→EK,flatten_cons→s0,drop_drop→If,foldl_cons→zo,all_eq_true→oH,getElem_mem→mr,length_cons→cT,append_assoc→dV,mapM_cons→MR,getElem?_set_ne→dC,set_getElem_self→BN,getElem?_set_self→ks,append_nil→c_,set_append_right→xB,set_set→vn,nil_append→gM,getElem?_append→tZ,length_map→lX,mem_of_getElem?→jG,length_nil→dx,getElem_of_mem→EW,length_set→jI,take→eo,getElem?_cons_zero→qn,size_toArray→IG,mem_cons_of_mem→xK,length_take→gE,length_replicate→mv,length_drop→ic,getElem?_replicate→Ni,mem_append→fT,getElem?_concat_length→Uu
open List.cons renaming injEq→BQ
open Nat renaming lt_of_lt_of_le→xf,le_refl→cQ,le_trans→sd,add_zero→fc,mul_le_mul_right→j5,add_mul→hj,zero_add→cq,div_lt_iff_lt_mul→H9,mod_lt→EN,mul_comm→vi,div_add_mod→zi,add_assoc→tT,mul_one→H',sub_self→qk
open Ne renaming symm→ba
open Option renaming map_eq_some_iff→c0,bind_eq_some_iff→BK,isSome_iff_exists→M_,getD_some→iM,map_some→d'
open Option.some renaming inj→qf,injEq→bj
open Prod.mk renaming injEq→bA
open UInt8 renaming ofNat→h6
namespace Go.VI
set_option maxRecDepth 100000
set_option maxHeartbeats 40000000
set_option linter.unusedVariables false
set_option linter.unusedSimpArgs false
set_option linter.defProp false
theorem R{P:Prop}(h:P:=by omega):P:=h
theorem aJ{P:Prop}(h:P:=by kernel_rfl):P:=h
theorem AI{P Q:Prop}(h:P)(q:Q):P∧Q:=⟨h,q⟩
def boP:=AI @decide_true (AI @decide_false (AI @Bool.true_and (AI @Bool.and_true (AI @Bool.false_and (AI @Bool.and_false (AI @Bool.not_true (AI @Bool.not_false (AI @Bool.or_true (AI @Bool.true_or (AI @Bool.or_false (AI @Bool.false_or (AI @List.isEmpty_nil.{0} (@List.isEmpty_cons.{0})))))))))))))
def cX:=AI @List.length_cons.{0} (@List.length_nil.{0})
def ck:=AI @List.cons_append.{0} (@List.nil_append.{0})
inductive aD where
 |v (x:Value)
 |str (l:List UInt8)
 |ae (ay:Nat) (rows:List (List aD)) (ex:Bool)
 |gl (cells:List aD) (off:Nat)
 |mp (es:List (Int×Nat))
 deriving Inhabited
inductive cP where
 |d (c g off len:Nat)
 |e (c g r:Nat)
 |h (c g s r:Nat)
 |p (c g s r i k:Nat)
 deriving DecidableEq,Inhabited
def cP.c:cP→Nat
 |.d c _ _ _=>c
 |.e c _ _=>c
 |.h c _ _ _=>c
 |.p c _ _ _ _ _=>c
def cP.to(n:Nat):cP→cP
 |.d _ g aj l=>.d n g aj l
 |.e _ g r=>.e n g r
 |.h _ g s r=>.h n g s r
 |.p _ g s r i k=>.p n g s r i k
inductive bS where
 |own (rows:List (List aD))
 |dG (x:aD)
 |dead
 deriving Inhabited
inductive U where
 |dead
 |i (x:aD)
 |agg (cells:List U)
 |ref (c g off len:Nat)
 |ptr (c g r k:Nat)
 |dA (c:Nat)
 |x (k:cP)
 |aR (fn:Fn) (first fy:List U)
 |be (vs:List U)
 deriving Inhabited
inductive Chunk where
 |box (cells:List U)
 |ae (ay g:Nat) (rows:List (List aD)) (ex:Bool)
 |bl (ay g:Nat) (rows:List (List aD)) (ex:Bool)
 |iter (s:List UInt8) (pos:Nat)
 |map (es:List (aD×U))
 |cZ (t:Nat) (cells:List U)
 |jA (t:Nat) (l:List UInt8)
 |gone
 |ax (z g s:Nat) (rows:List bS)
 |fd (g:Nat) (rows:List (List aD))
 deriving Inhabited
abbrev aa:=List Chunk
abbrev Fr:=List (Nat×U)
def get(k:Nat):Fr→U
 |[]=>.dead
 |(ab,v)::r=>if k=ab then v else get k r
def U.int(k:IntKind)(n:Int):U:=.i (.v (.int k n))
def U.bool(b:Bool):U:=.i (.v (.bool b))
def U.str(l:List UInt8):U:=.i (.str l)
structure Env where
 P:Program
 kn:FuncId→Nat→List Nat
 head:FuncId→Nat→List Nat
 e_:Nat→Option (List aD)
 dR:FuncId→Nat→List (Nat×Nat)
 yY:FuncId→Bool
 p7:FuncId→Nat→Bool
 ext:FuncId→Option (List U→List Chunk→Option (U×List Chunk))
 kinds:TypeId→List (Option Nat)
 gI:FuncId→List (List (Option Nat))
 lH:FuncId→List (List (Option Nat))
 own:FuncId→Bool
 w0:FuncId→Nat→List (Nat×Nat)
 w1:FuncId→Nat→List (Nat×Nat×Nat)
 w2:FuncId→Nat→List (Nat×Nat)
 seq:FuncId→Option (List (List aD)→Option (List U))
 Td:TypeId→Bool:=λ _=>false
 oy:FuncId→Option FuncId:=λ _=>none
 sN:FuncId→Bool:=λ _=>false
 Te:TypeId→Option Nat:=λ _=>none
 sO:TypeId→List Nat:=λ _=>[]
def fM(P:Program)(t:TypeId):Option Nat:=(P.info? t).map (·.size)
def ko(P:Program)(t:TypeId):Option Bool:=(P.underlying t).map λ|.struct _|.array _ _=>true|_=>false
def e5(P:Program)(t:TypeId):Option TypeId:=match P.underlying t with|some (.slice e)=>some e|_=>none
def u2(P:Program)(t:TypeId):Option (Nat×TypeId):=match P.underlying t with|some (.array n e)=>some (n,e)|_=>none
def Bh(P:Program)(t:TypeId)(f:Nat):Option (Nat×TypeId):=match P.underlying t with|some (.struct eP)=>(eP[f]?).map λ x=>(x.offset,x.type)|_=>none
def tF(P:Program)(t:TypeId):Option Nat:=(P.info? t).map (·.bytes)
def HP(P:Program)(t:TypeId):Option (List (Nat×Nat)):=match P.underlying t with
 |some (.struct eP)=>eP.toList.mapM λ f=>(fM P f.type).map λ z=>(f.offset,z)
 |_=>none
def hG(P:Program)(t:TypeId):Bool:=match P.underlying t with|some .string=>true|_=>false
def nS(P:Program)(t:TypeId):Option IntKind:=match P.underlying t with|some (.int k)=>some k|_=>none
def cellOf:Value→U
 |.string b=>.i (.str b.data.toList)
 |.slice none 0 0=>.i (.ae 0 [] true)
 |.tuple _=>.dead
 |.agg _=>.dead
 |x=>.i (.v x)
def jZ:Value→U
 |.agg cs=>.agg (cs.toList.map cellOf)
 |x=>cellOf x
def kO(P:Program)(t:TypeId):Option U:=((P.info? t).bind (·.zero)).map jZ
def HQ(P:Program)(t:TypeId):List U:=match(P.info? t).bind (·.zero)with
 |some (.agg cs)=>cs.toList.map λ x=>.i (.v x)
 |_=>[]
def Mp(P:Program)(t:TypeId):Bool:=match(P.info? t).bind (·.zero)with
 |some (.agg cs)=>cs.toList.all (·.oneCell')
 |_=>false
def bo(E:Env)(I:Fr):Operand→U
 |.tmp t=>get t I
 |.const v=>jZ v
 |.func f=>.aR (.func f) [] []
 |.global g=>match E.e_ g with
  |some cells=>.i (.gl cells 0)
  |none=>.dead
def cA:U→List U
 |.agg cs=>cs
 |a=>[a]
def one:U→Bool
 |.i _=>true
 |.ref ..=>true
 |.ptr ..=>true
 |.dA _=>true
 |.x _=>true
 |.aR ..=>true
 |_=>false
def j0(op:BinOp)(k:IntKind)(a b:Int):Option Int:=
 let x:=sP k.bits a
 let y:=sP k.bits b
 match op with
 |.and=>some (k.wrap (x &&&y).toNat)
 |.or=>some (k.wrap (x|||y).toNat)
 |.xor=>some (k.wrap (x^^^y).toNat)
 |.andNot=>some (k.wrap (x &&&~~~y).toNat)
 |_=>none
def lI(op:BinOp)(k:IntKind)(a:Int)(dv:IntKind)(b:Int):Option U:=
 match op with
 |.shl=>if 0≤b then some (.int k (k.wrap (a*2^min b.toNat k.bits)))else none
 |.shr=>if 0≤b then some (.int k (a.fdiv (2^min b.toNat k.bits)))else none
 |_=>if k=dv then match op with
  |.add=>some (.int k (k.wrap (a+b)))
  |.sub=>some (.int k (k.wrap (a-b)))
  |.mul=>some (.int k (k.wrap (a*b)))
  |.quo=>if b=0 then none else some (.int k (k.wrap (a.tdiv b)))
  |.rem=>if b=0 then none else some (.int k (a.tmod b))
  |.eql=>some (.bool (decide (a=b)))
  |.neq=>some (.bool (!decide (a=b)))
  |.lss=>some (.bool (decide (a<b)))
  |.leq=>some (.bool (decide (a≤b)))
  |.gtr=>some (.bool (decide (b<a)))
  |.geq=>some (.bool (decide (b≤a)))
  |.and=>(j0 .and k a b).map (.int k ·)
  |.or=>(j0 .or k a b).map (.int k ·)
  |.xor=>(j0 .xor k a b).map (.int k ·)
  |.andNot=>(j0 .andNot k a b).map (.int k ·)
  |_=>none
  else none
def sQ(op:BinOp)(a b:List UInt8):Option U:=
 match op with
 |.add=>if a.length+b.length≤9223372036854775807 then some (.str (a++b))else none
 |.eql=>some (.bool (a==b))
 |.neq=>some (.bool (!(a==b)))
 |.lss=>some (.bool (Op.bytesLess a b))
 |.leq=>some (.bool (Op.bytesLess a b||a==b))
 |.gtr=>some (.bool (!(Op.bytesLess a b||a==b)))
 |.geq=>some (.bool (!Op.bytesLess a b))
 |_=>none
def qP:U→U→Option Bool
 |.i (.v (.int k a)),.i (.v (.int dv b))=>if k=dv then some (decide (a=b))else none
 |.i (.v (.bool a)),.i (.v (.bool b))=>some (a==b)
 |.i (.str a),.i (.str b)=>some (a==b)
 |_,_=>none
def oz:List U→List U→Option Bool
 |[],[]=>some true
 |a::r,b::t=>match qP a b,oz r t with
  |some x,some y=>some (x &&y)
  |_,_=>none
 |_,_=>none
inductive nq where
 |int (k:IntKind)|bool|str
 deriving DecidableEq
def Ei(P:Program)(Tf:TypeId→Option (List nq)):Nat→List Field→Option (List nq)
 |_,[]=>some []
 |aj,f::r=>match Tf f.type,fM P f.type with
  |some l,some z=>if f.offset=aj∧l.length=z∧f.name≠ "_" then(Ei P Tf (aj+z) r).map (l++·)else none
  |_,_=>none
def leaves(P:Program):Nat→TypeId→Option (List nq)
 |0,_=>none
 |d+1,t=>match P.underlying t with
  |some .bool=>some [.bool]
  |some (.int k)=>some [.int k]
  |some .string=>some [.str]
  |some (.array n e)=>match leaves P d e,fM P e with
   |some l,some z=>if l.length=z then some (cy n l).flatten else none
   |_,_=>none
  |some (.struct eP)=>if P.stoodInHeld t then none else Ei P (leaves P d) 0 eP.toList
  |_=>none
def pg:nq→U→Bool
 |.int k,.i (.v (.int dv _))=>decide (k=dv)
 |.bool,.i (.v (.bool _))=>true
 |.str,.i (.str _)=>true
 |_,_=>false
def oA:List nq→List U→Bool
 |[],[]=>true
 |l::r,a::t=>pg l a &&oA r t
 |_,_=>false
def Mq(P:Program)(t:TypeId):Bool:=P.eqGuardType P.depth t
def i6(P:Program)(t:TypeId)(x y:U):Option Bool:=
 match x,y with
 |.agg a,.agg b=>if Mq P t=true then none else match ko P t with
  |some true=>match leaves P 9 t with
   |some l=>if oA l a=true∧oA l b=true then oz a b else none
   |none=>none
  |_=>none
 |.i (.v (.bool a)),.i (.v (.bool b))=>match P.underlying t with
  |some .bool=>some (a==b)
  |_=>none
 |.ptr _ _ _ _,.i (.v (.pointer none))=>match P.underlying t with
  |some (.pointer _)=>some false
  |_=>none
 |.i (.gl _ _),.i (.v (.pointer none))=>match P.underlying t with
  |some (.pointer _)=>some false
  |_=>none
 |.i (.v (.pointer none)),.i (.v (.pointer none))=>match P.underlying t with
  |some (.pointer _)=>some true
  |_=>none
 |_,_=>none
def j1(P:Program)(op:BinOp)(t:TypeId)(x y:U):Option U:=
 match x,y with
 |.i (.v (.int k a)),.i (.v (.int dv b))=>lI op k a dv b
 |.i (.str a),.i (.str b)=>sQ op a b
 |x,y=>match op with
  |.eql=>(i6 P t x y).map .bool
  |.neq=>(i6 P t x y).map λ b=>.bool (!b)
  |_=>none
def yZ(op:UnOp)(x:U):Option U:=
 match op,x with
 |.neg,.i (.v (.int k n))=>some (.int k (k.wrap (0-n)))
 |.xor,.i (.v (.int k n))=>(j0 .xor k (if k.signed then-1 else k.max) n).map (.int k ·)
 |.not,.i (.v (.bool b))=>some (.bool (!b))
 |_,_=>none
def kP(l:List aD):List U:=l.map .i
def take(l:List U)(k n:Nat):Option (List U):=
 if k+n≤l.length then some ((l.drop k).take n)else none
def Ej(c g r:Nat):Option Chunk→Option (List U×Nat)
 |some (.ax _ aY s rows)=>if g=aY then match rows[r]? with
  |some (.own _)=>some ([.x (.h c g s r)],0)
  |some (.dG y)=>some ([.i y],0)
  |_=>none
  else none
 |_=>none
def Ek(g s r i k:Nat):Option Chunk→Option (List U×Nat)
 |some (.ax _ aY dH rows)=>if g=aY∧s=dH then match rows[r]? with
  |some (.own bR)=>match bR[i]? with
   |some row=>some (kP row,k)
   |none=>none
  |_=>none
  else none
 |_=>none
def u3(H:aa):cP→Option (List U×Nat)
 |.e c g r=>Ej c g r H[c]?
 |.p c g s r i k=>Ek g s r i k H[c]?
 |_=>none
def behind(H:aa):U→Option (List U×Nat)
 |.i (.gl cells off)=>some (kP cells,off)
 |.ptr c g r k=>match H[c]? with
  |some (.box cells)=>some (cells,k)
  |some (.ae _ aY rows _)=>if g=aY then match rows[r]? with
   |some row=>some (kP row,k)
   |none=>none
   else none
  |some (.bl _ aY rows _)=>if g=aY then match rows[r]? with
   |some row=>some (kP row,k)
   |none=>none
   else none
  |_=>none
 |.x k=>u3 H k
 |_=>none
def tG(E:Env)(H:aa)(t:TypeId)(x:U):Option U:=
 match behind H x,ko E.P t,fM E.P t with
 |some (cells,k),some true,some n=>(take cells k n).map .agg
 |some (cells,k),some false,some _=>cells[k]?
 |_,_,_=>none
def hP(H:aa):U→Option (Nat×List (List aD)×Bool)
 |.i (.ae ay rows ex)=>some (ay,rows,ex)
 |.ref c g off len=>match H[c]? with
  |some (.ae ay aY rows ex)=>if g=aY then some (ay,(rows.drop off).take len,ex &&decide (off+len=rows.length))else none
  |some (.bl ay aY rows ex)=>if g=aY then some (ay,(rows.drop off).take len,ex &&decide (off+len=rows.length))else none
  |_=>none
 |_=>none
def ph:U→Option Nat
 |.i (.ae _ rows _)=>some rows.length
 |.i (.str l)=>some l.length
 |.ref _ _ _ len=>some len
 |.x (.d _ _ _ len)=>some len
 |_=>none
def w3(n:Nat):U→Option U
 |.i (.gl cells off)=>some (.i (.gl cells (off+n)))
 |.ptr c g r k=>some (.ptr c g r (k+n))
 |.x (.p c g s r i k)=>some (.x (.p c g s r i (k+n)))
 |_=>none
def HR(z c g off len:Nat)(n:Int):Option Chunk→Option U
 |some (.ax _ aY _ _)=>if 0≤n∧n<len∧z=1∧g=aY then some (.x (.e c g (off+n.toNat)))else none
 |_=>none
def El(z c g s r:Nat)(n:Int):Option Chunk→Option U
 |some (.ax db aY dH rows)=>if g=aY∧s=dH∧z=db∧0≤n then match rows[r]? with
  |some (.own bR)=>if n.toNat<bR.length then some (.x (.p c g s r n.toNat 0))else none
  |_=>none
  else none
 |_=>none
def u4(H:aa)(z:Nat)(n:Int):cP→Option U
 |.d c g off len=>HR z c g off len n H[c]?
 |.h c g s r=>El z c g s r n H[c]?
 |_=>none
def Bi(E:Env)(H:aa)(t:TypeId)(x jB:U):Option U:=
 match jB with
 |.i (.v (.int _ n))=>match u2 E.P t,e5 E.P t with
  |some (len,e),_=>match fM E.P e with
   |some z=>if 0≤n∧n<len then w3 (n.toNat*z) x else none
   |none=>none
  |none,some e=>match fM E.P e,x with
   |some z,.i (.ae ay rows _)=>if 0≤n∧ay=z then match rows[n.toNat]? with
    |some row=>some (.i (.gl row 0))
    |none=>none
    else none
   |some z,.ref c g off len=>match H[c]? with
    |some (.ae ay aY _ _)=>if 0≤n∧n<len∧ay=z∧g=aY then some (.ptr c g (off+n.toNat) 0)else none
    |some (.bl ay aY _ _)=>if 0≤n∧n<len∧ay=z∧g=aY then some (.ptr c g (off+n.toNat) 0)else none
    |_=>none
   |some z,.x k=>u4 H z n k
   |_,_=>none
  |_,_=>none
 |_=>none
def Bj(E:Env)(t:TypeId)(x jB:U):Option U:=
 match x,jB with
 |.i (.str l),.i (.v (.int _ n))=>if 0≤n∧hG E.P t=true then(l[n.toNat]?).map λ b=>.int .u8 b.toNat else none
 |.agg cells,.i (.v (.int _ n))=>match u2 E.P t with
  |some (len,e)=>match fM E.P e,ko E.P e with
   |some z,some true=>if 0≤n∧n<len then(take cells (n.toNat*z) z).map .agg else none
   |some z,some false=>if 0≤n∧n<len then cells[n.toNat*z]? else none
   |_,_=>none
  |none=>none
 |_,_=>none
def HS(E:Env)(t:TypeId)(x:U)(f:Nat):Option U:=
 match x,Bh E.P t f with
 |.agg cells,some (off,ed)=>match fM E.P ed,ko E.P ed with
  |some z,some true=>(take cells off z).map .agg
  |some _,some false=>cells[off]?
  |_,_=>none
 |_,_=>none
def fV(d:Nat):Option U→Option Nat
 |none=>some d
 |some (.i (.v (.int _ n)))=>if 0≤n then some n.toNat else none
 |_=>none
def Mr(c g off l h:Nat):Option Nat→Option Chunk→Option U
 |some 1,some (.ax _ aY _ _)=>if g=aY then some (.x (.d c g (off+l) (h-l)))else none
 |_,_=>none
def j2(E:Env)(H:aa)(t:TypeId)(x:U)(bU aA kQ:Option U):Option U:=
 match ph x with
 |none=>none
 |some n=>match fV 0 bU,fV n aA with
  |some l,some h=>if l≤h∧h≤n then match x with
   |.i (.str s)=>if kQ.isNone∧hG E.P t=true then some (.str ((s.drop l).take (h-l)))else none
   |.i (.ae ay rows ex)=>match e5 E.P t with
    |some e=>match fM E.P e with
     |some z=>if rows=[]∨z=ay then match kQ with
      |none=>some (.i (.ae ay ((rows.drop l).take (h-l)) (ex &&decide (h=n))))
      |some m=>match fV 0 (some m)with
       |some b1=>if h=b1∧aA.isSome=true then some (.i (.ae ay ((rows.drop l).take (h-l)) true))else none
       |none=>none
      else none
     |none=>none
    |none=>none
   |.ref c g off _=>match e5 E.P t,H[c]? with
    |some e,some (.ae ay aY _ _)=>if g=aY∧fM E.P e=some ay then match kQ with
     |none=>some (.ref c g (off+l) (h-l))
     |some m=>match fV 0 (some m)with
      |some b1=>if h=b1∧aA.isSome=true then some (.ref c g (off+l) (h-l))else none
      |none=>none
     else none
    |some e,some (.bl ay aY rows ex)=>if g=aY∧fM E.P e=some ay∧off+n≤rows.length then match kQ with
     |none=>some (.i (.ae ay ((rows.drop (off+l)).take (h-l)) (ex &&decide (off+h=rows.length))))
     |some m=>match fV 0 (some m)with
      |some b1=>if h=b1∧aA.isSome=true then some (.i (.ae ay ((rows.drop (off+l)).take (h-l)) true))else none
      |none=>none
     else none
    |_,_=>none
   |.x (.d c g off _)=>if kQ.isNone then Mr c g off l h ((e5 E.P t).bind (fM E.P)) H[c]? else none
   |_=>none
   else none
  |_,_=>none
def mP(E:Env)(src dst:TypeId)(x:U):Option U:=
 match x with
 |.i (.v (.int _ n))=>match ko E.P src,nS E.P dst with
  |some _,some k=>some (.int k (k.wrap n))
  |some _,none=>if hG E.P dst=true then some (.str (HT n).data.toList)else none
  |none,_=>none
 |.i (.str l)=>if hG E.P dst=true∧hG E.P src=true then some (.str l)else none
 |_=>none
def r2:List (List aD)→Option (List Int)
 |[]=>some []
 |[.v (.int .u8 n)]::r=>(r2 r).map (n::·)
 |_=>none
def Bk(E:Env)(H:aa)(e d:TypeId)(x:U):Option U:=
 if hG E.P d=true∧nS E.P e=some .u8 then match hP H x with
  |some (z,rows,_)=>if rows=[]∨z=1 then(r2 rows).map λ l=>.str (l.map λ n=>h6 n.toNat)else none
  |none=>none
 else none
def Em:U→U→Option U
 |.i (.v (.int k a)),.i (.v (.int _ b))=>some (.int k (max a b))
 |_,_=>none
def En:U→U→Option U
 |.i (.v (.int k a)),.i (.v (.int _ b))=>some (.int k (min a b))
 |_,_=>none
def r3(f:U→U→Option U):List U→Option U
 |[]=>none
 |a::r=>r.foldl (λ acc x=>match acc with|some y=>f y x|none=>none) (some a)
def pi(l:List U)(k:Nat)(new:List U):List U:=l.take k++new++l.drop (k+new.length)
def jo(pl:List (Nat×Nat)):List U→List (Nat×U)→Option (List U)
 |cells,[]=>some cells
 |cells,(i,v)::r=>match pl[i]? with
  |some (off,z)=>if(cA v).length=z∧off+z≤cells.length∧(cA v).all one=true then jo pl (pi cells off (cA v)) r else none
  |none=>none
def fW(z:Nat):List U→List (Nat×U)→Option (List U)
 |cells,[]=>some cells
 |cells,(i,v)::r=>if(cA v).length=z∧i*z+z≤cells.length∧(cA v).all one=true then fW z (pi cells (i*z) (cA v)) r else none
def jC(E:Env)(t:TypeId)(parts:List (Nat×U)):Option U:=
 match kO E.P t with
 |some (.agg zero)=>match u2 E.P t with
  |some (_,e)=>match fM E.P e with
   |some z=>(fW z zero parts).map .agg
   |none=>none
  |none=>match HP E.P t with
   |some pl=>(jo pl zero parts).map .agg
   |none=>none
 |_=>none
def tH(P:Program)(t:TypeId):Option (TypeId×TypeId):=match P.underlying t with
 |some (.map k e)=>some (k,e)
 |_=>none
def sR(zero:Option U)(n:Int):List (Int×Nat)→Option U
 |[]=>match zero with
  |some z=>if one z=true then some (.be [z,.bool false])else none
  |none=>none
 |(k,f)::r=>if n=k then some (.be [.aR (.func f) [] [],.bool true])else sR zero n r
def Eo(E:Env)(t:TypeId)(x k:U):Option U:=match tH E.P t with
 |some (i7,e)=>if nS E.P i7=some .i64 then match x,k with
  |.i (.mp es),.i (.v (.int .i64 n))=>sR (kO E.P e) n es
  |_,_=>none
  else none
 |none=>none
def gm:aD→aD→Option Bool
 |.v (.int k a),.v (.int dv b)=>if k=dv then some (decide (a=b))else none
 |.str a,.str b=>some (decide (a=b))
 |_,_=>none
def hH(k:aD):List (aD×U)→Option (Option U)
 |[]=>some none
 |(ab,v)::r=>match gm k ab with
  |some true=>some (some v)
  |some false=>hH k r
  |none=>none
def qQ:List UInt8→List UInt8→Bool
 |[],[]=>false
 |[],_::_=>true
 |_::_,[]=>false
 |a::r,b::t=>if a.toNat<b.toNat then true else if a.toNat=b.toNat then qQ r t else false
def nr:aD→aD→Bool
 |.v (.int _ a),.v (.int _ b)=>decide (a<b)
 |.str a,.str b=>qQ a b
 |_,_=>false
def kR(k:aD)(v:U):List (aD×U)→List (aD×U)
 |[]=>[(k,v)]
 |p::r=>if nr k p.1=true then(k,v)::p::r else p::kR k v r
def j3(k:aD)(v:U):List (aD×U)→List (aD×U)
 |[]=>[]
 |p::r=>(if gm k p.1=some true then(k,v)else p)::j3 k v r
def kp(k:aD)(v:U)(es:List (aD×U)):Option (List (aD×U)):=
 match hH k es with
 |some none=>some (kR k v es)
 |some (some _)=>some (j3 k v es)
 |none=>none
def Bl(P:Program)(i7:TypeId):aD→Bool
 |.v (.int k _)=>decide (nS P i7=some k)
 |.str _=>hG P i7
 |_=>false
def u5(ok:Bool)(zero:Option U):Option (Option U)→Option U
 |some (some v)=>some (if ok=true then .be [v,.bool true]else v)
 |some none=>match zero with
  |some z=>if one z=true then some (if ok=true then .be [z,.bool false]else z)else none
  |none=>none
 |none=>none
def Bm(E:Env)(t:TypeId)(k:U)(ok:Bool):Option Chunk→Option U
 |some (.map es)=>match tH E.P t,k with
  |some (i7,e),.i cu=>if Bl E.P i7 cu=true then u5 ok (kO E.P e) (hH cu es)else none
  |_,_=>none
 |_=>none
def y0(E:Env)(H:aa)(t:TypeId)(x k:U)(ok:Bool):Option U:=match x with
 |.dA c=>Bm E t k ok H[c]?
 |x=>if ok=true then Eo E t x k else none
def sS(E:Env)(H:aa)(c:Nat)(t:TypeId)(k x:U):Option Chunk→Option (U×aa)
 |some (.map es)=>match tH E.P t,k with
  |some (i7,_),.i cu=>if Bl E.P i7 cu=true∧one x=true then(kp cu x es).map λ hQ=>(.dead,H.set c (.map hQ))else none
  |_,_=>none
 |_=>none
def mQ(E:Env)(H:aa)(t:TypeId)(m k x:U):Option (U×aa):=match m with
 |.dA c=>sS E H c t k x H[c]?
 |_=>none
def ev(E:Env)(I:Fr)(H:aa):Op→Option U
 |.move x=>some (bo E I x)
 |.assign x=>some (bo E I x)
 |.pick c a b=>match bo E I c with
  |.i (.v (.bool t))=>some (bif t then bo E I a else bo E I b)
  |_=>none
 |.build t parts=>jC E t (parts.toList.map λ p=>(p.1,bo E I p.2))
 |.load t a=>tG E H t (bo E I a)
 |.nilCheck x=>match bo E I x with
  |.ptr c g r k=>some (.ptr c g r k)
  |.i (.gl c aj)=>some (.i (.gl c aj))
  |.aR (.func f) a b=>some (.aR (.func f) a b)
  |.x (.e c g r)=>some (.x (.e c g r))
  |.x (.p c g s r i k)=>some (.x (.p c g s r i k))
  |_=>none
 |.binOp op t x y _=>j1 E.P op t (bo E I x) (bo E I y)
 |.unOp op _ x=>yZ op (bo E I x)
 |.convert s d x=>match e5 E.P s with
  |some e=>Bk E H e d (bo E I x)
  |none=>mP E s d (bo E I x)
 |.makeFunc fn first fy=>some (.aR fn (first.toList.map (bo E I)) (fy.toList.map (bo E I)))
 |.slice t x bU aA kQ=>j2 E H t (bo E I x) (bU.map (bo E I)) (aA.map (bo E I)) (kQ.map (bo E I))
 |.fieldAddr s x f=>match Bh E.P s f with
  |some (off,ed)=>match fM E.P ed with
   |some z=>if 0<z then w3 off (bo E I x)else none
   |none=>none
  |none=>none
 |.field t x f=>HS E t (bo E I x) f
 |.indexAddr t x jB=>Bi E H t (bo E I x) (bo E I jB)
 |.index t x jB=>Bj E t (bo E I x) (bo E I jB)
 |.lookup t x k ok=>y0 E H t (bo E I x) (bo E I k) ok
 |.extract x n=>match bo E I x with
  |.be vs=>vs[n]?
  |_=>none
 |.call ⟨.builtin b,args,e6⟩=>match b,args.toList,e6.toList with
  |.len,[x],[t]=>if hG E.P t=true∨(e5 E.P t).isSome=true then match bo E I x with
   |.i (.str l)=>if hG E.P t=true then some (.int .i64 l.length)else none
   |.i (.ae _ rows _)=>if hG E.P t=true then none else some (.int .i64 rows.length)
   |.ref _ _ _ len=>if hG E.P t=true then none else some (.int .i64 len)
   |.x (.d _ _ _ len)=>if hG E.P t=true then none else some (.int .i64 len)
   |_=>none
   else none
  |.max,l,_=>r3 Em (l.map (bo E I))
  |.min,l,_=>r3 En (l.map (bo E I))
  |_,_,_=>none
 |_=>none
def lJ(z:Nat):List bS→Option (List aD)
 |[]=>some []
 |.own bR::l=>(lJ z l).map (.ae z bR false::·)
 |.dG y::l=>(lJ z l).map (y::·)
 |.dead::_=>none
def Bn(c g off len:Nat)(H:aa):Option (List aD)→Option (aD×aa)
 |some xs=>some (.ae 1 (((xs.map λ y=>[y]).drop off).take len) false,H.set c (.fd g (xs.map λ y=>[y])))
 |none=>none
def u6(c g off len:Nat)(H:aa):Option Chunk→Option (aD×aa)
 |some (.ax z aY _ rows)=>if g=aY then Bn c g off len H (lJ z rows)else none
 |some (.fd aY rows)=>if g=aY then some (.ae 1 ((rows.drop off).take len) false,H)else none
 |_=>none
def u7(c g s r:Nat)(H:aa):Option Chunk→Option (aD×aa)
 |some (.ax z aY dH rows)=>if g=aY∧s=dH then match rows[r]? with
  |some (.own bR)=>some (.ae z bR false,H.set c (.ax z g s (rows.set r (.dG (.ae z bR false)))))
  |_=>none
  else none
 |_=>none
def pj(H:aa):cP→Option (aD×aa)
 |.d c g off len=>u6 c g off len H H[c]?
 |.h c g s r=>u7 c g s r H H[c]?
 |_=>none
def freeze(H:aa):U→Option (aD×aa)
 |.i x=>some (x,H)
 |.ref c g off len=>match H[c]? with
  |some (.ae ay aY rows ex)=>if g=aY then
   some (.ae ay ((rows.drop off).take len) (ex &&decide (off+len=rows.length)),H.set c (.bl ay g rows ex))else none
  |some (.bl ay aY rows ex)=>if g=aY then some (.ae ay ((rows.drop off).take len) (ex &&decide (off+len=rows.length)),H)else none
  |_=>none
 |.x k=>pj H k
 |_=>none
def fI(H:aa):List U→Option (List aD×aa)
 |[]=>some ([],H)
 |a::r=>match freeze H a with
  |some (x,H1)=>match fI H1 r with
   |some (xs,bx)=>some (x::xs,bx)
   |none=>none
  |none=>none
def h7:Option Nat→aD→aD
 |some z,.ae ay rows _=>if ay=z then .ae z rows false else if rows=[]then .ae z [] false else .ae ay rows false
 |_,x=>x
def hW:List (Option Nat)→List aD→List aD
 |k::bs,x::r=>h7 k x::hW bs r
 |_,l=>l
def jD:List (Option Nat)→List U→List U
 |k::bs,.i x::r=>.i (h7 k x)::jD bs r
 |_::bs,a::r=>a::jD bs r
 |_,l=>l
def r4(bs:List (Option Nat)):U→U
 |.i x=>.i (h7 (bs.headD none) x)
 |.agg cells=>.agg (jD bs cells)
 |a=>a
def nT:List (List (Option Nat))→List U→List U
 |k::bs,a::r=>r4 k a::nT bs r
 |_,l=>l
def y1(H:aa)(z:Nat):Bool→U×aa
 |true=>(.ref H.length 0 0 0,H++[.ae z 0 [] false])
 |false=>(.x (.d H.length 0 0 0),H++[.ax (z-1000) 0 0 []])
def i_(z:Nat)(H:aa):U→U×aa
 |.i (.ae _ [] true)=>y1 H z (decide (z<1000))
 |a=>(a,H)
def lf:List (Option Nat)→aa→U→U×aa
 |[some z],H,a=>i_ z H a
 |_,H,a=>(a,H)
def eW:List (List (Option Nat))→List U→aa→List U×aa
 |k::bs,a::r,H=>((lf k H a).1::(eW bs r (lf k H a).2).1,(eW bs r (lf k H a).2).2)
 |_,l,H=>(l,H)
def r5:List (Nat×Nat)→Fr→aa→Fr×aa
 |[],I,H=>(I,H)
 |(k,z)::r,I,H=>r5 r ((k,(i_ z H (get k I)).1)::I) (i_ z H (get k I)).2
def Bo(ab z c:Nat)(H:aa):Option Chunk→aa
 |some (.box cells)=>match cells[ab]? with
  |some a=>(i_ z H a).2.set c (.box (cells.set ab (i_ z H a).1))
  |none=>H
 |_=>H
def Ep(ab z:Nat)(H:aa):U→aa
 |.ptr c _ _ _=>Bo ab z c H H[c]?
 |_=>H
def u9:List (Nat×Nat×Nat)→Fr→aa→aa
 |[],_,H=>H
 |(k,ab,z)::r,I,H=>u9 r I (Ep ab z H (get k I))
def y2(k z:Nat)(I:Fr)(H:aa):Option (aD×aa)→Fr×aa
 |some (x,H1)=>((k,.i (h7 (some z) x))::I,H1)
 |none=>(I,H)
def qR:List (Nat×Nat)→Fr→aa→Fr×aa
 |[],I,H=>(I,H)
 |(k,z)::r,I,H=>qR r (y2 k z I H (freeze H (get k I))).1 (y2 k z I H (freeze H (get k I))).2
def Er(c g aj n:Nat):Option Chunk→U
 |some (.ae _ aY _ _)=>if g=aY then .ref c 0 aj n else .dead
 |some (.bl ay aY rows ex)=>if g=aY then .i (.ae ay ((rows.drop aj).take n) (ex &&decide (aj+n=rows.length)))else .dead
 |_=>.dead
def r6(c g r k:Nat):Option Chunk→U
 |some (.ae _ aY _ _)=>if g=aY then .ptr c 0 r k else .dead
 |some _=>.ptr c g r k
 |none=>.dead
def qS(k:cP):Option Chunk→U
 |some (.ax _ aY dH _)=>match k with
  |.d c g aj n=>if g=aY then .x (.d c 0 aj n)else .dead
  |.e c g r=>if g=aY then .x (.e c 0 r)else .dead
  |.h c g s r=>if g=aY∧s=dH then .x (.h c 0 0 r)else .dead
  |.p c g s r i ab=>if g=aY∧s=dH then .x (.p c 0 0 r i ab)else .dead
 |some (.fd aY rows)=>match k with
  |.d _ g aj n=>if g=aY then .i (.ae 1 ((rows.drop aj).take n) false)else .dead
  |_=>.dead
 |_=>.dead
mutual
def ee (B:Nat) (H:aa):U→U
 |.dead=>.dead
 |.i x=>.i x
 |.agg l=>.agg (ew B H l)
 |.ref c g aj n=>if c<B then .ref c g aj n else Er c g aj n H[c]?
 |.ptr c g r k=>if c<B then .ptr c g r k else r6 c g r k H[c]?
 |.dA c=>.dA c
 |.x k=>if k.c<B then .x k else qS k H[k.c]?
 |.aR f a b=>.aR f (ew B H a) (ew B H b)
 |.be l=>.be (ew B H l)
def ew (B:Nat) (H:aa):List U→List U
 |[]=>[]
 |a::r=>ee B H a::ew B H r
end
def u_(B:Nat)(H:aa):List (aD×U)→List (aD×U)
 |[]=>[]
 |p::r=>(p.1,ee B H p.2)::u_ B H r
def dN(B:Nat)(H:aa)(c:Nat):Chunk→Chunk
 |.box cells=>.box (ew B H cells)
 |.map es=>.map (u_ B H es)
 |.cZ t cells=>.cZ t (ew B H cells)
 |.ae ay g rows ex=>if c<B then .ae ay g rows ex else .ae ay 0 rows false
 |.ax z g s rows=>if c<B then .ax z g s rows else .ax z 0 0 rows
 |x=>x
def ep(B:Nat)(H:aa):Nat→aa→aa
 |_,[]=>[]
 |c,x::r=>dN B H c x::ep B H (c+1) r
def mg(B:Nat)(H:aa):Fr→Fr
 |[]=>[]
 |(k,a)::r=>(k,ee B H a)::mg B H r
def pk(z:Nat):Nat→List aD→List (List aD)
 |0,_=>[]
 |n+1,l=>l.take z::pk z n (l.drop z)
def kS:List U→Option (List aD)
 |[]=>some []
 |.i x::r=>(kS r).map (x::·)
 |_=>none
def HU(E:Env)(e:TypeId):Option (List aD):=
 match kO E.P e with
 |some (.agg cs)=>kS cs
 |some (.i x)=>some [x]
 |_=>none
def kT(E:Env)(H:aa)(t:TypeId)(n:Nat)(parts:List (Nat×U)):Option (U×aa):=
 match e5 E.P t with
 |some e=>match fM E.P e,kO E.P e with
  |some z,some zero=>if n*z≤16777216∧(cA zero).length=z∧0<z∧(cA zero).all one=true then
    match fW z (cy n (cA zero)).flatten parts with
    |some cells=>match fI H cells with
     |some (xs,H1)=>some (.ref H1.length 0 0 n,H1++[.ae z 0 (pk z n (hW (cy n (E.kinds e)).flatten xs)) true])
     |none=>none
    |none=>none
   else none
  |_,_=>none
 |none=>none
def tI(z:Nat):Option (aD×aa)→Option (bS×aa)
 |some (y,H1)=>some (.dG (h7 (some z) y),H1)
 |none=>none
def Bp(H:aa)(z d g len:Nat):Option Chunk→Option (bS×aa)
 |some (.ae db aY bR ex)=>if db=z∧0<z∧g=aY∧len=bR.length then some (.own bR,H.set d .gone)else none
 |_=>tI z (freeze H (.ref d g 0 len))
def p8(H:aa)(z:Nat):U→Option (bS×aa)
 |.ref d g 0 len=>Bp H z d g len H[d]?
 |v=>tI z (freeze H v)
def w4(c g r:Nat):Option (bS×aa)→Option aa
 |some (y,H1)=>match H1[c]? with
  |some (.ax z aY s rows)=>if g=aY∧r<rows.length then some (H1.set c (.ax z g (s+1) (rows.set r y)))else none
  |_=>none
 |none=>none
def w5(H:aa)(c g r:Nat)(v:U):Option Chunk→Option aa
 |some (.ax z _ _ _)=>w4 c g r (p8 H z v)
 |_=>none
def w6(E:Env)(H:aa)(t:TypeId)(n c g s r i k:Nat)(v:U):Option Chunk→Option aa
 |some (.ax z aY dH rows)=>if g=aY∧s=dH∧k+n≤z then match rows[r]? with
  |some (.own bR)=>match bR[i]?,kS (cA v)with
   |some row,some xs=>some (H.set c (.ax z g s (rows.set r (.own (bR.set i (row.take k++hW (E.kinds t) xs++row.drop (k+n)))))))
   |_,_=>none
  |_=>none
  else none
 |_=>none
def p9(E:Env)(H:aa)(t:TypeId)(n:Nat)(v:U):cP→Option aa
 |.e c g r=>if n=1 then w5 H c g r v H[c]? else none
 |.p c g s r i k=>w6 E H t n c g s r i k v H[c]?
 |_=>none
def r7(E:Env)(t t2:TypeId):Bool:=
 match e5 E.P t with
 |some e=>match fM E.P e,tF E.P e,kO E.P e with
  |some z,some b,some dZ=>decide (z=1∧b≤65536∧(e5 E.P t2).isSome=true∧(cA dZ).length=1) &&(cA dZ).all one
  |_,_,_=>false
 |none=>false
def Bq(z:Nat):Option (bS×aa)→Option (U×aa)
 |some (y,H1)=>some (.x (.d H1.length 0 0 1),H1++[.ax z 0 1 [y]])
 |none=>none
def tJ(E:Env)(H:aa)(t:TypeId)(z n:Nat)(parts:List (Nat×U)):Option (U×aa):=
 match parts with
 |[(0,v)]=>if n=1∧one v=true∧r7 E t t=true then Bq z (p8 H z v)else none
 |_=>none
def e'(rows:List bS)(off len:Nat):List bS:=rows.take off++(cy len bS.dead++rows.drop (off+len))
def u'(z d g off len:Nat)(H:aa):Option Chunk→Option (Nat×List bS×aa)
 |some (.ax db aY s rows)=>if z=db∧g=aY∧off+len≤rows.length then some (d,(rows.drop off).take len,H.set d (.ax z g (s+1) (e' rows off len)))else none
 |_=>none
def lK(z:Nat)(H:aa):U→Option (Nat×List bS×aa)
 |.x (.d c g off len)=>u' z c g off len H H[c]?
 |_=>none
def Br(z d c g len:Nat)(new:List bS)(H:aa):Option Chunk→Option (U×aa)
 |some (.ax db aY _ rows)=>if z=db∧g=aY∧c≠d∧len≤rows.length∧len+new.length<1073741824 then
  some (.x (.d c (g+1) 0 (len+new.length)),H.set c (.ax z (g+1) 0 (rows.take len++new)))else none
 |_=>none
def va(z:Nat)(s:U):Option (Nat×List bS×aa)→Option (U×aa)
 |some (d,new,H1)=>match s with
  |.i (.ae _ [] true)=>if new.length<1073741824 then some (.x (.d H1.length 0 0 new.length),H1++[.ax z 0 0 new])else none
  |.x (.d c g 0 len)=>Br z d c g len new H1 H1[c]?
  |_=>none
 |none=>none
def tK(E:Env)(H:aa)(t t2:TypeId)(z:Nat)(s x:U):Option (U×aa):=
 if r7 E t t2=true then va z s (lK z H x)else none
def Bs(z d c g off len:Nat)(new:List bS)(H:aa):Option Chunk→Option (U×aa)
 |some (.ax db aY s rows)=>if z=db∧g=aY∧c≠d∧off+len≤rows.length∧new.length≤len then
  some (.int .i64 new.length,H.set c (.ax z g (s+1) (rows.take off++(new++rows.drop (off+new.length)))))else none
 |_=>none
def y5(z:Nat)(x:U):Option (Nat×List bS×aa)→Option (U×aa)
 |some (d,new,H1)=>match x with
  |.x (.d c g off len)=>Bs z d c g off len new H1 H1[c]?
  |_=>none
 |none=>none
def qT(E:Env)(H:aa)(t:TypeId)(z:Nat)(x y:U):Option (U×aa):=
 if r7 E t t=true then y5 z x (lK z H y)else none
def sT(E:Env)(t:TypeId):Option Nat:=(e5 E.P t).bind E.Te
def p_:List aD→bS
 |[y]=>.dG y
 |_=>.dead
def Bt(z c n:Nat)(H:aa):Option Chunk→Option (U×aa)
 |some (.ae 1 0 rows _)=>some (.x (.d c 0 0 n),H.set c (.ax z 0 0 (rows.map p_)))
 |_=>none
def tL(z:Nat):Option (U×aa)→Option (U×aa)
 |some (.ref c 0 0 n,H)=>Bt z c n H H[c]?
 |_=>none
def nU(E:Env)(H:aa)(t:TypeId)(p v:U):Option aa:=
 match fM E.P t with
 |some n=>if(cA v).length=n∧(cA v).all one=true then match p with
  |.x k=>p9 E H t n v k
  |.ptr c g r k=>match H[c]? with
   |some (.box cells)=>if k+n≤cells.length then some (H.set c (.box (pi cells k (cA v))))else none
   |some (.ae ..)=>match fI H (cA v)with
    |some (xs,H1)=>match H1[c]? with
     |some (.ae ay aY rows ex)=>if g=aY∧k+n≤ay then match rows[r]? with
      |some row=>some (H1.set c (.ae ay aY (rows.set r (row.take k++hW (E.kinds t) xs++row.drop (k+n))) ex))
      |none=>none
      else none
     |_=>none
    |none=>none
   |_=>none
  |_=>none
  else none
 |none=>none
def kU(H:aa):U→Option (Nat×List (List aD)×Bool)
 |.i (.str l)=>some (1,l.map λ b=>[aD.v (.int .u8 b.toNat)],true)
 |x=>hP H x
def hI(E:Env)(H:aa)(t t2:TypeId)(s x:U):Option (U×aa):=
 match e5 E.P t with
 |some e=>match fM E.P e,tF E.P e,kO E.P e,kU H x with
  |some z,some b,some dZ,some (db,new,_)=>
   if(new=[]∨db=z)∧0<z∧b≤65536∧((e5 E.P t2).isSome=true∨hG E.P t2=true)∧(cA dZ).length=z∧(cA dZ).all one=true then match s with
   |.i (.ae ay rows ex)=>if ex=true∧(rows=[]∨(ay=z∧new≠[]))∧rows.length+new.length<1073741824 then
     some (.ref H.length 0 0 (rows.length+new.length),H++[.ae z 0 (rows++new) (rows.isEmpty &&new.isEmpty)])else none
   |.ref c g off len=>match H[c]? with
    |some (.ae ay aY rows ex)=>if g=aY∧off=0∧ay=z∧len+new.length<1073741824 then
      some (.ref c (g+1) 0 (len+new.length),H.set c (.ae z (g+1) (rows.take len++new) (ex &&rows.isEmpty &&new.isEmpty)))else none
    |some (.bl ay aY rows ex)=>if g=aY∧off=0∧ay=z∧ex=true∧len=rows.length∧new≠[]∧len+new.length<1073741824 then
      some (.ref H.length 0 0 (len+new.length),H++[.ae z 0 (rows++new) false])else none
    |_=>none
   |_=>none
   else none
  |_,_,_,_=>none
 |none=>none
def qU(E:Env)(H:aa)(t t2:TypeId)(z:Nat)(s:U):U→Option (U×aa)
 |.i y=>hI E H t t2 s (.i y)
 |x=>tK E H t t2 z s x
def y7(z g off len:Nat)(new:List (List aD))(H:aa)(c:Nat):Option Chunk→Option (U×aa)
 |some (.ae ay aY rows ex)=>if g=aY∧ay=z then
  some (.int .i64 (min new.length len:Nat),H.set c (.ae z aY (rows.take off++(new.take len++rows.drop (off+min new.length len))) ex))else none
 |_=>none
def ns(E:Env)(H:aa)(t:TypeId)(d x:U):Option (U×aa):=
 match e5 E.P t with
 |some e=>match fM E.P e,d,hP H x with
  |some z,.ref c g off len,some (db,new,_)=>if(new=[]∨db=z)∧0<z then y7 z g off len new H c H[c]? else none
  |_,_,_=>none
 |none=>none
def i'(E:Env)(H:aa)(t:TypeId)(l c:U):Option (U×aa):=
 match e5 E.P t,l,c with
 |some e,.i (.v (.int _ n)),.i (.v (.int _ m))=>match fM E.P e,HU E e,tF E.P e with
  |some z,some row,some b=>if 0≤n∧n=m∧n<1073741824∧row.length=z∧0<z∧b≤65536 then
    some (.ref H.length 0 0 n.toNat,H++[.ae z 0 (cy n.toNat (hW (E.kinds e) row)) true])
   else if n=0∧0<m∧m<1073741824∧row.length=z∧0<z∧b≤65536 then some (.ref H.length 0 0 0,H++[.ae z 0 [] false])else none
  |_,_,_=>none
 |_,_,_=>none
def r8(l:List UInt8):Nat→Nat→List Int
 |0,_=>[]
 |n+1,i=>if i<l.length then((mh ⟨⟨l⟩⟩ i).1:Int)::r8 l n (i+(mh ⟨⟨l⟩⟩ i).2)else[]
def lL(l:List UInt8):List (List aD):=(r8 l l.length 0).map λ r=>[aD.v (.int .i32 r)]
def y8(H:aa)(l:List UInt8):Option IntKind→Option (U×aa)
 |some .u8=>some (.ref H.length 0 0 l.length,H++[.ae 1 0 (l.map λ b=>[aD.v (.int .u8 b.toNat)]) false])
 |some .i32=>some (.ref H.length 0 0 (lL l).length,H++[.ae 1 0 (lL l) false])
 |_=>none
def jp(bs:List (Option Nat)):List Nat→aa→List U→Option (List U×aa)
 |[],H,cs=>some (cs,H)
 |ab::r,H,cs=>match cs[ab]? with
  |some a=>match freeze H a with
   |some (x,H1)=>jp bs r H1 (cs.set ab (.i (h7 (bs.getD ab none) x)))
   |none=>none
  |none=>none
def w7:U→List U→U
 |.agg _,cs=>.agg cs
 |a,cs=>cs.headD a
def vb(v:U):Option (List U×aa)→Option (U×aa)
 |some (cs,H1)=>some (w7 v cs,H1)
 |none=>none
def kq(E:Env)(t:TypeId)(H:aa)(v:U):List Nat→Option (U×aa)
 |[]=>some (v,H)
 |ab::r=>vb v (jp (E.kinds t) (ab::r) H (cA v))
def y9:Option (U×aa)→Option (U×aa)
 |some (v,H1)=>if(cA v).all one then some (.ptr H1.length 0 0 0,H1++[.box (cA v)])else none
 |none=>none
def w8(E:Env)(t:TypeId)(p:U):Option (U×aa)→Option (U×aa)
 |some (v,H1)=>(nU E H1 t p v).map λ ap=>(.dead,ap)
 |none=>none
def HV(E:Env)(t:TypeId)(n:Nat):Option Nat:=if n=1 then sT E t else none
def dh(E:Env)(I:Fr)(H:aa):Op→Option (U×aa)
 |.alloc e=>match kO E.P e with
  |some v=>if(cA v).all one then(if E.Td e then(if Mp E.P e=true then some (.dA H.length,H++[.cZ e (HQ E.P e)])else none)else some (.ptr H.length 0 0 0,H++[.box (cA v)]))else none
  |none=>none
 |.box t x=>y9 (kq E t H (bo E I x) (E.sO t))
 |.buildSlice t n parts=>match HV E t n with
  |none=>kT E H t n (parts.toList.map λ p=>(p.1,bo E I p.2))
  |some z=>tJ E H t z n (parts.toList.map λ p=>(p.1,bo E I p.2))
 |.store t a x=>w8 E t (bo E I a) (kq E t H (bo E I x) (E.sO t))
 |.makeSlice t l c=>match sT E t with
  |none=>i' E H t (bo E I l) (bo E I c)
  |some z=>tL z (i' E H t (bo E I l) (bo E I c))
 |.convert s d x=>match bo E I x with
  |.i (.str l)=>if hG E.P s=true∧l.length<1073741824 then y8 H l ((e5 E.P d).bind (nS E.P))else none
  |_=>none
 |.slice t x bU aA (some m)=>match freeze H (bo E I x)with
  |some (y,H1)=>(j2 E H1 t (.i y) (bU.map (bo E I)) (aA.map (bo E I)) (some (bo E I m))).map λ v=>(v,H1)
  |none=>none
 |.range t x=>match bo E I x with
  |.i (.str l)=>if hG E.P t=true then some (.ptr H.length 0 0 0,H++[.iter l 0])else none
  |_=>none
 |.makeMap t none=>match tH E.P t with
  |some _=>some (.dA H.length,H++[.map []])
  |none=>none
 |.mapUpdate t m k x=>mQ E H t (bo E I m) (bo E I k) (bo E I x)
 |.insert t m k x=>mQ E H t (bo E I m) (bo E I k) (bo E I x)
 |.next it b=>match b,bo E I it with
  |true,.ptr c _ _ 0=>match H[c]? with
   |some (.iter s pos)=>if pos<s.length then
    some (.be [.bool true,.int .i64 pos,.int .i32 (mh ⟨⟨s⟩⟩ pos).1],H.set c (.iter s (pos+(mh ⟨⟨s⟩⟩ pos).2)))else some (.be [.bool false],H)
   |_=>none
  |_,_=>none
 |.call ⟨.builtin b,args,e6⟩=>match b,args.toList,e6.toList with
  |.append,[s,x],[t,t2]=>match sT E t with
   |none=>hI E H t t2 (bo E I s) (bo E I x)
   |some z=>qU E H t t2 z (bo E I s) (bo E I x)
  |.copy,[d,x],[t,_]=>match sT E t with
   |none=>ns E H t (bo E I d) (bo E I x)
   |some z=>qT E H t z (bo E I d) (bo E I x)
  |_,_,_=>none
 |_=>none
def eC(E:Env):Op→Bool
 |.alloc _|.box ..|.buildSlice ..|.store ..|.makeSlice ..|.range ..|.next ..|.makeMap ..|.mapUpdate ..|.insert ..=>true
 |.convert _ d _=>(e5 E.P d).isSome
 |.call ⟨.builtin b,_,_⟩=>match b with
  |.append=>true
  |.copy=>true
  |_=>false
 |.call ⟨.value _,_,_⟩=>true
 |_=>false
mutual
def co (aU:Nat→Option Nat):U→U
 |.dead=>.dead
 |.i x=>.i x
 |.agg l=>.agg (cB aU l)
 |.ref c g aj n=>match aU c with|some cp=>.ref cp g aj n|none=>.dead
 |.ptr c g r k=>match aU c with|some cp=>.ptr cp g r k|none=>.dead
 |.dA c=>match aU c with|some cp=>.dA cp|none=>.dead
 |.x k=>match aU k.c with|some cp=>.x (k.to cp)|none=>.dead
 |.aR f a b=>.aR f (cB aU a) (cB aU b)
 |.be l=>.be (cB aU l)
def cB (aU:Nat→Option Nat):List U→List U
 |[]=>[]
 |a::r=>co aU a::cB aU r
end
mutual
def bd:U→List Nat
 |.dead=>[]
 |.i _=>[]
 |.agg l=>bz l
 |.ref c _ _ _=>[c]
 |.ptr c _ _ _=>[c]
 |.dA c=>[c]
 |.x k=>[k.c]
 |.aR _ a b=>bz a++bz b
 |.be l=>bz l
def bz:List U→List Nat
 |[]=>[]
 |a::r=>bd a++bz r
end
def y_(aU:Nat→Option Nat):List (aD×U)→List (aD×U)
 |[]=>[]
 |p::r=>(p.1,co aU p.2)::y_ aU r
def w9:List (aD×U)→List Nat
 |[]=>[]
 |p::r=>bd p.2++w9 r
def Chunk.cL(aU:Nat→Option Nat):Chunk→Chunk
 |.box cells=>.box (cB aU cells)
 |.map es=>.map (y_ aU es)
 |.cZ t cells=>.cZ t (cB aU cells)
 |c=>c
def Chunk.refs:Chunk→List Nat
 |.box cells=>bz cells
 |.map es=>w9 es
 |.cZ _ cells=>bz cells
 |_=>[]
def reach(H:aa):Nat→List Nat→List Nat→List Nat
 |0,_,seen=>seen
 |_+1,[],seen=>seen
 |n+1,c::r,seen=>if c∈seen∨H.length≤c then reach H n r seen
  else reach H n (((H[c]?).map Chunk.refs).getD []++r) (seen++[c])
def bt:List Nat→Nat→Option Nat
 |[],_=>none
 |c::r,k=>if k=c then some 0 else(bt r k).map (·+1)
def qV:Nat→List U→Fr
 |_,[]=>[]
 |k,a::r=>(k,a)::qV (k+1) r
inductive eD where
 |normal|exit (id:Nat)|ret
 deriving DecidableEq
def y'(E:Env)(I:Fr)(H:aa):ResultVar→Option U
 |.tmp t=>some (get t I)
 |.cell a t=>tG E H t (get a I)
def qW(E:Env)(I:Fr)(H:aa):List ResultVar→Option (List U)
 |[]=>some []
 |r::l=>match y' E I H r,qW E I H l with
  |some a,some bI=>some (a::bI)
  |_,_=>none
def w_(E:Env)(I:Fr)(H:aa)(l:List ResultVar):Option U:=
 match qW E I H l with
 |some [a]=>some a
 |some bI=>some (.be bI)
 |none=>none
abbrev Es:=Nat→FuncId→Code→Fr→aa→Option (eD×Fr×aa)
abbrev dD:=FuncId→List U→aa→Option (U×aa)
def dr(H:aa):List U→Option (List U×aa)
 |[]=>some ([],H)
 |a::r=>match a with
  |.ref ..=>match freeze H a with
   |some (x,H1)=>match dr H1 r with
    |some (bI,bx)=>some (.i x::bI,bx)
    |none=>none
   |none=>none
  |.x _=>match freeze H a with
   |some (x,H1)=>match dr H1 r with
    |some (bI,bx)=>some (.i x::bI,bx)
    |none=>none
   |none=>none
  |.agg l=>match fI H l with
   |some (xs,H1)=>match dr H1 r with
    |some (bI,bx)=>some (.agg (kP xs)::bI,bx)
    |none=>none
   |none=>match dr H r with
    |some (bI,bx)=>some (.agg l::bI,bx)
    |none=>none
  |a=>match dr H r with
   |some (bI,bx)=>some (a::bI,bx)
   |none=>none
def ja(E:Env)(f:FuncId)(H:aa)(args:List U):Option (List U×aa):=
 match E.yY f with
 |true=>some (eW (E.gI f) args H)
 |false=>match dr H args with
  |some (bI,H1)=>some (nT (E.gI f) bI,H1)
  |none=>none
def ef(H:aa):List Nat→List Chunk→aa
 |c::r,x::t=>ef (H.set c x) r t
 |_,_=>H
def dm(aW:List Nat)(n:Nat)(K:List Nat):Nat→Option Nat:=λ i=>
 match aW[i]? with
 |some c=>some c
 |none=>(bt K i).map (·+n)
def e0(E:Env)(aL:dD):dD:=λ f args H=>
 match E.ext f with
 |some h=>h args H
 |none=>aL f args H
def lg(E:Env)(aL:dD):dD:=λ f args H=>
 match ja E f H args with
 |none=>none
 |some (hJ,H1)=>
  let aW:=reach H1 64 (bz hJ) []
  let Et:=bt aW
  match e0 E aL f (cB Et hJ) (aW.map λ c=>((H1[c]?).map (Chunk.cL Et)).getD (.iter [] 0))with
  |none=>none
  |some (r,L)=>if L.length<aW.length then none else
   let K:=(reach L 64 (bd r++(L.take aW.length).flatMap Chunk.refs) []).filter λ i=>decide (aW.length≤i)
   let back:=dm aW H1.length K
   some (co back r,ef H1 aW ((L.take aW.length).map (Chunk.cL back))++K.map λ i=>((L[i]?).map (Chunk.cL back)).getD (.iter [] 0))
noncomputable def Eu(x y:Value):Bool:=match x with
 |.int k a=>match y with|.int dv b=>decide (k=dv) &&decide (a=b)|_=>false
 |.bool a=>match y with|.bool b=>a==b|_=>false
 |.pointer none=>match y with|.pointer none=>true|_=>false
 |.nilFunc=>match y with|.nilFunc=>true|_=>false
 |.map none=>match y with|.map none=>true|_=>false
 |x=>@decide (x=y) (Classical.propDecidable _)
mutual
noncomputable def lM:aD→aD→Bool
 |.v x,.v y=>Eu x y
 |.str a,.str b=>a==b
 |.ae z r e,.ae db ht lh=>z==db &&(r9 r ht &&e==lh)
 |.gl c aj,.gl cp r_=>vc c cp &&aj==r_
 |.mp a,.mp b=>decide (a=b)
 |_,_=>false
noncomputable def vc:List aD→List aD→Bool
 |[],[]=>true
 |a::r,b::t=>lM a b &&vc r t
 |_,_=>false
noncomputable def r9:List (List aD)→List (List aD)→Bool
 |[],[]=>true
 |a::r,b::t=>vc a b &&r9 r t
 |_,_=>false
end
noncomputable def HW(x y:Fn):Bool:=decide (x=y)
mutual
noncomputable def iF:U→U→Bool
 |.dead,.dead=>true
 |.i x,.i y=>lM x y
 |.agg a,.agg b=>qX a b
 |.ref a b c d,.ref bY bV cp hR=>a==bY &&(b==bV &&(c==cp &&d==hR))
 |.ptr a b c d,.ptr bY bV cp hR=>a==bY &&(b==bV &&(c==cp &&d==hR))
 |.dA a,.dA b=>a==b
 |.x a,.x b=>decide (a=b)
 |.aR f a b,.aR HX bY bV=>HW f HX &&(qX a bY &&qX b bV)
 |.be a,.be b=>qX a b
 |_,_=>false
noncomputable def qX:List U→List U→Bool
 |[],[]=>true
 |a::r,b::t=>iF a b &&qX r t
 |_,_=>false
end
noncomputable def Ev:bS→bS→Bool
 |.own a,.own b=>r9 a b
 |.dG a,.dG b=>lM a b
 |.dead,.dead=>true
 |_,_=>false
noncomputable def w':List bS→List bS→Bool
 |[],[]=>true
 |a::r,b::t=>Ev a b &&w' r t
 |_,_=>false
noncomputable def xa:List (aD×U)→List (aD×U)→Bool
 |[],[]=>true
 |a::r,b::t=>(lM a.1 b.1 &&iF a.2 b.2) &&xa r t
 |_,_=>false
noncomputable def Ew:Chunk→Chunk→Bool
 |.box a,.box b=>qX a b
 |.ae a b c d,.ae bY bV cp hR=>a==bY &&(b==bV &&(r9 c cp &&d==hR))
 |.bl a b c d,.bl bY bV cp hR=>a==bY &&(b==bV &&(r9 c cp &&d==hR))
 |.iter a b,.iter bY bV=>a==bY &&b==bV
 |.map a,.map b=>xa a b
 |.cZ a b,.cZ bY bV=>a==bY &&qX b bV
 |.jA a b,.jA bY bV=>a==bY &&b==bV
 |.gone,.gone=>true
 |.fd a b,.fd bY bV=>a==bY &&r9 b bV
 |.ax a b c d,.ax bY bV cp hR=>a==bY &&(b==bV &&(c==cp &&w' d hR))
 |_,_=>false
noncomputable def xb:aa→aa→Bool
 |[],[]=>true
 |a::r,b::t=>Ew a b &&xb r t
 |_,_=>false
noncomputable def xc(H:aa):Option (U×aa)→Option (U×aa)
 |some (v,ap)=>if xb H ap=true then some (v,H)else none
 |none=>none
def kV:Nat:=1000000
def xd(H:aa)(fn:FuncId):List U→Option (U×aa)
 |[a]=>if one a=true then some (.aR (.func fn) [] [.ptr H.length 0 0 0],H++[.box [a]])else none
 |_=>none
noncomputable def gn(E:Env)(aL:dD):dD:=λ f args H=>
 match E.oy f with
 |some fn=>xd H fn args
 |none=>match E.sN f with
  |true=>xc H (lg E aL f args H)
  |false=>lg E aL f args H
def dL(dst:Option Nat)(v:U)(I:Fr):Fr:=
 match dst with
 |some d=>(d,v)::I
 |none=>I
def xe(E:Env)(I:Fr)(f:Operand)(args:List Operand):Option (FuncId×List U):=
 match bo E I f with
 |.aR (.func g) first fy=>some (g,first++args.map (bo E I)++fy)
 |_=>none
def li(E:Env)(g:FuncId):Bool:=
 match E.P.funcs[g]? with
 |some fn=>fn.body.isSome &&!(fn.name== "runtime.NumGoroutine")
 |none=>false
noncomputable def ci(E:Env)(aL:dD)(aj:Op)(I:Fr)(H:aa):Option (U×aa):=
 match aj with
 |.call ⟨.value f,args,_⟩=>match xe E I f args.toList with
  |some (g,bI)=>if li E g=true then gn E aL g bI H else none
  |none=>none
 |aj=>if eC E aj then dh E I H aj else(ev E I H aj).map λ v=>(v,H)
def gw(ops:List Oper)(I:Fr)(aj:Oper):Option Bool:=
 match aj.guard with
 |none=>some true
 |some (ab,want)=>match(ops[ab]?).bind (·.dst)with
  |some d=>match get d I with
   |.i (.v (.bool b))=>some (b==want)
   |.be []=>some false
   |_=>none
  |none=>none
noncomputable def iu(E:Env)(aL:dD)(ops:List Oper):List Oper→Fr→aa→Option (Fr×aa)
 |[],I,H=>some (I,H)
 |aj::r,I,H=>match gw ops I aj with
  |some true=>match ci E aL aj.op I H with
   |some (v,ap)=>iu E aL ops r (dL aj.dst v I) ap
   |none=>none
  |some false=>iu E aL ops r (dL aj.dst (.be []) I) H
  |none=>none
def qY(E:Env)(f:FuncId)(args:List U)(H:aa):List Nat:=
 match ja E f H args with
 |some (hJ,H1)=>bz args++reach H1 64 (bz hJ) []
 |none=>[]
def jq(E:Env)(f:FuncId)(args:List U)(H:aa):List Nat:=
 match E.oy f with
 |some _=>[]
 |none=>match E.sN f with
  |true=>(qY E f args H).map (·+kV)
  |false=>qY E f args H
def nt(E:Env)(t:TypeId)(n:Nat)(parts:List (Nat×U)):List Nat:=
 match e5 E.P t with
 |some e=>match fM E.P e,kO E.P e with
  |some z,some zero=>match fW z (cy n (cA zero)).flatten parts with
   |some cells=>bz cells
   |none=>[]
  |_,_=>[]
 |none=>[]
def cR(E:Env)(I:Fr)(H:aa):Op→List Nat
 |.call ⟨.value f,args,_⟩=>match xe E I f args.toList with
  |some (g,bI)=>jq E g bI H
  |none=>[]
 |.call ⟨.builtin _,args,_⟩=>bz (args.toList.map (bo E I))
 |.load _ x=>bd (bo E I x)
 |.indexAddr _ x _=>bd (bo E I x)
 |.slice _ x _ _ _=>bd (bo E I x)
 |.convert _ _ x=>bd (bo E I x)
 |.next it _=>bd (bo E I it)
 |.lookup _ x _ _=>bd (bo E I x)
 |.mapUpdate _ m _ _=>bd (bo E I m)++(bd (bo E I m)).map (·+kV)
 |.insert _ m _ _=>bd (bo E I m)++(bd (bo E I m)).map (·+kV)
 |.store _ a x=>bd (bo E I a)++bd (bo E I x)
 |.box t x=>match E.sO t with
  |[]=>[]
  |_::_=>bd (bo E I x)
 |.buildSlice t n parts=>nt E t n (parts.toList.map λ p=>(p.1,bo E I p.2))
 |_=>[]
def kW:Op→Bool
 |.load ..|.indexAddr ..|.slice ..|.convert ..|.lookup ..=>true
 |_=>false
def p'(b:Array Nat)(i ab:Nat):Bool:=(b.getD ab 0).testBit i
def Ex(E:Env)(ops:Array Oper):List (Nat×Nat):=
 let b:=qa ops
 (hg ops.size).flatMap λ ab=>(hg ab).filterMap λ i=>
  match ops[i]?,ops[ab]? with
  |some x,some y=>if !p' b i ab &&((eC E x.op &&kW y.op)||(eC E y.op &&kW x.op))then some (i,ab)else none
  |_,_=>none
def Bu(E:Env)(ops:Array Oper):Bool:=
 let b:=qa ops
 (ops.toList.all λ aj=>!(aj.op matches .select ..)) &&
 ((hg ops.size).all λ ab=>match ops[ab]? with
  |some y=>y.after.all λ e=>!Region.binds .any e||decide (e.on<ab)
  |none=>false) &&
 (hg ops.size).all λ ab=>(hg ab).all λ i=>
  match ops[i]?,ops[ab]? with
  |some x,some y=>p' b i ab||(x.apart ops y &&!(eC E x.op &&eC E y.op))
  |_,_=>false
noncomputable def qb(E:Env)(aL:dD)(ops:List Oper)(aj:Oper)(I:Fr)(H:aa):Option (Fr×aa×List Nat):=
 match gw ops I aj with
 |some true=>match ci E aL aj.op I H with
  |some (v,ap)=>some (dL aj.dst v I,ap,cR E I H aj.op++lN H.length (ap.length-H.length))
  |none=>none
 |some false=>some (dL aj.dst (.be []) I,H,[])
 |none=>none
noncomputable def hX(E:Env)(aL:dD)(ops:List Oper):List Oper→Fr→aa→Option (Fr×aa×List (List Nat))
 |[],I,H=>some (I,H,[])
 |aj::r,I,H=>match qb E aL ops aj I H with
  |some (lO,H1,t)=>match hX E aL ops r lO H1 with
   |some (dI,bx,fa)=>some (dI,bx,t::fa)
   |none=>none
  |none=>none
def qZ(a b:List Nat):Bool:=a.all λ c=>!b.contains c
def sU(eE:List (List Nat))(p:Nat×Nat):Bool:=qZ (eE.getD p.1 []) (eE.getD p.2 [])
def mR:Chunk:=.ae 0 0 [] true
def dS:Op→Bool
 |.alloc _|.box ..|.buildSlice ..|.makeSlice ..=>true
 |.makeMap _ none=>true
 |_=>false
def h8:Option (U×aa)→Option (Option (Option Nat)×Chunk)
 |some (.ref _ _ _ n,[.ae z _ rows ex])=>some (some (some n),.ae z 1 rows ex)
 |some (.ptr _ _ _ _,[.box cells])=>some (none,.box cells)
 |some (.dA _,[.map []])=>some (some none,.map [])
 |_=>none
def tM(c:Nat):Option (Option Nat)→U
 |none=>.ptr c 0 0 0
 |some (some n)=>.ref c 1 0 n
 |some none=>.dA c
def Ey(c:Nat)(H:aa)(r:Option (Option (Option Nat)×Chunk)):Option Chunk→Option (U×aa)
 |some (.ae 0 0 [] true)=>match r with
  |some (k,b7)=>some (tM c k,H.set c b7)
  |none=>none
 |_=>none
noncomputable def jE(E:Env)(aL:dD)(c:Nat)(aj:Op)(I:Fr)(H:aa):Option (U×aa):=
 match dS aj with
 |true=>Ey c H (h8 (dh E I [] aj)) H[c]?
 |false=>ci E aL aj I H
def sV(E:Env)(c:Nat)(I:Fr)(H:aa)(aj:Op):List Nat:=
 match dS aj with
 |true=>[c,c+kV]
 |false=>cR E I H aj
def nu(c:Nat)(aj:Op):Nat:=match dS aj with|true=>c+1|false=>c
def pn(l:List Oper):Nat:=l.foldl (λ c aj=>nu c aj.op) 0
noncomputable def iG(E:Env)(aL:dD)(ops:List Oper):Nat→List Oper→Fr→aa→Option (Fr×aa×List (List Nat))
 |_,[],I,H=>some (I,H,[])
 |c,aj::r,I,H=>match gw ops I aj with
  |some true=>match jE E aL c aj.op I H with
   |some (v,ap)=>match iG E aL ops (nu c aj.op) r (dL aj.dst v I) ap with
    |some (dI,bx,fa)=>some (dI,bx,(sV E c I H aj.op++lN H.length (ap.length-H.length))::fa)
    |none=>none
   |none=>none
  |some false=>match iG E aL ops (nu c aj.op) r (dL aj.dst (.be []) I) H with
   |some (dI,bx,fa)=>some (dI,bx,[]::fa)
   |none=>none
  |none=>none
def Bv:Op→Bool
 |.insert ..|.mapUpdate ..=>true
 |_=>false
def r':Op→Op→Bool
 |.insert _ _ (.const (.int k a)) _,.insert _ _ (.const (.int dv b)) _=>decide (k=dv) &&!decide (a=b)
 |_,_=>false
def Ez(x y:Op):Bool:=(Bv x &&!Bv y)||(Bv y &&!Bv x)||r' x y
def EA(E:Env)(ops:Array Oper):List (Nat×Nat):=
 let b:=qa ops
 (hg ops.size).flatMap λ ab=>(hg ab).filterMap λ i=>
  match ops[i]?,ops[ab]? with
  |some x,some y=>if !p' b i ab &&!r' x.op y.op &&((eC E x.op &&(kW y.op||eC E y.op))||(eC E y.op &&(kW x.op||eC E x.op)))then some (i,ab)else none
  |_,_=>none
def Bw(E:Env)(ops:Array Oper):Bool:=
 let b:=qa ops
 (ops.toList.all λ aj=>!(aj.op matches .select ..)) &&
 ((hg ops.size).all λ ab=>match ops[ab]? with
  |some y=>y.after.all λ e=>!Region.binds .any e||decide (e.on<ab)
  |none=>false) &&
 (hg ops.size).all λ ab=>(hg ab).all λ i=>
  match ops[i]?,ops[ab]? with
  |some x,some y=>p' b i ab||(x.apart ops y &&(!(eC E x.op &&eC E y.op)||dS x.op||dS y.op||Ez x.op y.op))
  |_,_=>false
def lP:Code→Bool
 |.seq a b=>lP a &&lP b
 |.cond _ a b=>lP a &&lP b
 |.block _ c=>lP c
 |.loop c=>lP c
 |.scope _=>false
 |.rangeFunc ..=>false
 |_=>true
def codeOk(E:Env)(f:FuncId)(sW:Nat):Code→Bool
 |.region id ops draw=>(ops.toList.all λ aj=>match aj.dst with|some d=>decide (d<sW)|none=>true) &&
  (!draw||(match E.p7 f id with
   |false=>Bu E ops &&(Ex E ops).all λ p=>(E.dR f id).contains p
   |true=>Bw E ops &&(EA E ops).all λ p=>(E.dR f id).contains p))
 |.seq a b=>codeOk E f sW a &&codeOk E f sW b
 |.cond _ a b=>codeOk E f sW a &&codeOk E f sW b
 |.block _ c=>codeOk E f sW c
 |.loop c=>codeOk E f sW c
 |.scope c=>codeOk E f sW c
 |.rangeFunc _ bm a b=>bm.toList.all (λ p=>decide (p<sW)) &&(lP a &&lP b) &&(codeOk E f sW a &&codeOk E f sW b)
 |.goto _=>false
 |_=>true
def za(E:Env)(f:FuncId):Bool:=
 match E.P.funcs[f]? with
 |some fn=>match fn.body with
  |some c=>codeOk E f fn.ntmps c &&E.P.follows .mixedOrders
  |none=>false
 |none=>false
def qc(E:Env)(f:FuncId)(B:Nat)(H:aa)(vs:List U):Option (List U×aa):=
 match E.own f with
 |true=>some (ew B (eW (E.lH f) vs H).2 (eW (E.lH f) vs H).1,ep B (eW (E.lH f) vs H).2 0 (eW (E.lH f) vs H).2)
 |false=>match dr H vs with
  |some (bI,H1)=>some (ew B H1 (nT (E.lH f) bI),ep B H1 0 H1)
  |none=>none
def tN:Option (List U×aa)→Option (U×aa)
 |some ([a],H)=>some (a,H)
 |_=>none
def HY:Option (List U×aa)→Option (U×aa)
 |some (bI,H)=>some (.be bI,H)
 |none=>none
def q0(E:Env)(f:FuncId)(B:Nat)(H:aa):U→Option (U×aa)
 |.be vs=>HY (qc E f B H vs)
 |a=>tN (qc E f B H [a])
def iH(E:Env)(ex:Es):dD:=λ f args H=>
 match E.P.funcs[f]? with
 |some fn=>match fn.body with
  |some c=>if za E f=true∧args.length≤fn.ntmps then match ex H.length f c (qV 0 args) H with
   |some (.exit _,_,_)=>none
   |some (_,I,ap)=>match w_ E I ap fn.results.toList with
    |some r=>q0 E f H.length ap r
    |none=>none
   |none=>none
   else none
  |none=>none
 |none=>none
def norm(l:List Nat)(I:Fr):Fr:=l.map λ k=>(k,get k I)
def fJ:Code→Option Nat
 |.region id _ _=>some id
 |.seq a b=>match fJ a with|some i=>some i|none=>fJ b
 |.cond _ a b=>match fJ a with|some i=>some i|none=>fJ b
 |.block _ c=>fJ c
 |.loop c=>fJ c
 |.scope c=>fJ c
 |.rangeFunc _ _ a b=>match fJ a with|some i=>some i|none=>fJ b
 |_=>none
def mS(B:Nat)(I:Fr)(H:aa):List Nat:=
 hg B++(reach H 64 (bz (I.map (·.2))++(H.take B).flatMap Chunk.refs) []).filter λ i=>decide (B≤i)
def vd(aW:List Nat)(I:Fr)(H:aa):Fr×aa:=
 (I.map λ x=>(x.1,co (bt aW) x.2),aW.map λ c=>((H[c]?).map (Chunk.cL (bt aW))).getD (.iter [] 0))
def gc(B:Nat)(I:Fr)(H:aa):Fr×aa:=if B≤H.length then vd (mS B I H) I H else(I,H)
def mT(B:Nat)(I:Fr)(H:aa):Fr×aa:=gc B (mg B H I) (ep B H 0 H)
def oB(E:Env)(B:Nat)(f:FuncId)(id:Nat)(I:Fr)(H:aa):Fr×aa:=
 let p:=r5 (E.w0 f id) I H
 let bx:=u9 (E.w1 f id) p.1 p.2
 let q:=qR (E.w2 f id) p.1 bx
 mT B (norm (E.head f id) q.1) q.2
def sa(H:aa):List U→Option (List (List aD))
 |[]=>some []
 |.ptr c _ 0 0::r=>match H[c]? with
  |some (.box cells)=>match kS cells,sa H r with
   |some a,some b=>some (a::b)
   |_,_=>none
  |_=>none
 |_=>none
def Bx(E:Env)(H:aa):U→Option (List U)
 |.aR (.func g) [] fy=>match E.seq g,sa H fy with
  |some L,some nV=>L nV
  |_,_=>none
 |_=>none
def tO(ex:Nat→Code→Fr→aa→Option (eD×Fr×aa))(nW body:Code)(I:Fr)(H:aa):Option (eD×aa):=
 match ex H.length nW I H with
 |some (.normal,lO,H1)=>match ex H.length body lO H1 with
  |some (e,_,bx)=>some (e,bx)
  |none=>none
 |_=>none
def oC(rd:Fr→aa→Option (eD×aa))(p:Nat)(I:Fr):List U→aa→Option (eD×Fr×aa)
 |[],H=>some (.normal,I,H)
 |x::xs,H=>match rd ((p,x)::I) H with
  |some (.normal,H1)=>oC rd p I xs H1
  |some (e,H1)=>some (e,I,H1)
  |none=>none
noncomputable def exec(E:Env):Nat→Es
 |0,_,_,_,_,_=>none
 |n+1,B,f,c,I,H=>match c with
  |.skip=>some (.normal,I,H)
  |.label _=>some (.normal,I,H)
  |.ret=>some (.ret,I,H)
  |.exit id=>some (.exit id,I,H)
  |.region id ops draw=>
   match draw with
   |false=>match iu E (iH E (exec E n)) ops.toList ops.toList I H with
    |some (bN,ap)=>some (.normal,norm (E.kn f id) bN,ap)
    |none=>none
   |true=>match E.p7 f id with
    |false=>match hX E (iH E (exec E n)) ops.toList ops.toList I H with
     |some (bN,ap,eE)=>if(E.dR f id).all (sU eE)=true then some (.normal,norm (E.kn f id) bN,ap)else none
     |none=>none
    |true=>match iG E (iH E (exec E n)) ops.toList H.length ops.toList I (H++cy (pn ops.toList) mR)with
     |some (bN,ap,eE)=>if(E.dR f id).all (sU eE)=true then some (.normal,norm (E.kn f id) bN,ap)else none
     |none=>none
  |.seq a b=>match exec E n B f a I H with
   |some (.normal,bN,ap)=>exec E n B f b bN ap
   |r=>r
  |.cond c a b=>match bo E I c with
   |.i (.v (.bool true))=>exec E n B f a I H
   |.i (.v (.bool false))=>exec E n B f b I H
   |_=>none
  |.block id c=>match exec E n B f c I H with
   |some (.exit ab,bN,ap)=>if ab=id then some (.normal,bN,ap)else some (.exit ab,bN,ap)
   |r=>r
  |.loop c=>match exec E n B f c (oB E B f ((fJ c).getD 0) I H).1 (oB E B f ((fJ c).getD 0) I H).2 with
   |some (.normal,bN,ap)=>exec E n B f (.loop c) bN ap
   |r=>r
  |.scope c=>exec E n B f c I H
  |.rangeFunc g bm a b=>match bm.toList,Bx E H (bo E I g)with
   |[p],some xs=>oC (tO (λ eg c I H=>exec E n eg f c I H) a b) p I xs H
   |_,_=>none
  |_=>none
noncomputable def call(E:Env)(n:Nat):dD:=iH E (exec E n)
abbrev cb:=Nat→Option Obj
structure fj where
 c:Nat
 r:Nat
 deriving DecidableEq
instance:Coe Nat fj:=⟨λ c=>⟨c,0⟩⟩
abbrev b9:=fj→Option (Nat×Nat)
inductive ds (ad:cb):aD→Value→Prop
 |v (x:Value) (h:x.oneCell'=true):ds ad (.v x) x
 |str (l:List UInt8):ds ad (.str l) (.string ⟨⟨l⟩⟩)
 |nil (ay:Nat) (ex:Bool) (a:Option Addr) (cap:Nat) (h:ex=true→cap=0):ds ad (.ae ay [] ex) (.slice a 0 cap)
 |ae (ay:Nat) (rows:List (List aD)) (ex:Bool) (b off cap:Nat) (cs:Array Value) (elem:TypeId) (bl:Nat×Nat) (dB:Nat→Nat→Value)
  (cd:ad b=some (.cells cs elem bl)) (ah:rows.length≤cap) (al:ex=true→cap=rows.length)
  (ai:∀(i:Nat) (r:List aD),rows[i]?=some r→r.length=ay)
  (j:∀(i:Nat) (r:List aD) (k:Nat) (a:aD),rows[i]?=some r→r[k]?=some a→cs[off+i*ay+k]?=some (dB i k))
  (J:∀(i:Nat) (r:List aD) (k:Nat) (a:aD),rows[i]?=some r→r[k]?=some a→ds ad a (dB i k)):
  ds ad (.ae ay rows ex) (.slice (some ⟨b,off,none⟩) rows.length cap)
 |gl (cells:List aD) (aj b off:Nat) (cs:Array Value) (elem:TypeId) (bl:Nat×Nat) (dB:Nat→Value)
  (cd:ad b=some (.cells cs elem bl))
  (j:∀(k:Nat) (a:aD),cells[k]?=some a→cs[off+k]?=some (dB k))
  (J:∀(k:Nat) (a:aD),cells[k]?=some a→ds ad a (dB k)):
  ds ad (.gl cells aj) (.pointer (some ⟨b,off+aj,none⟩))
 |mp (es:List (Int×Nat)) (b:Nat) (hv:Array MapEntry) (clock:Nat) (cd:ad b=some (.map hv clock))
  (h:hv.toList.map (λ e=>(e.key,e.val))=es.map λ p=>(j4 .i64 p.1,EB (.func p.2) #[] #[])):ds ad (.mp es) (.map (some b))
def cb.le(ad aN:cb):Prop:=∀b aj,ad b=some aj→aN b=some aj
def ds.mono{ad aN:cb}(h:ad.le aN){x:aD}{v:Value}(r:ds ad x v):ds aN x v:=by
 induction r with
 |v x h=>exact .v x h
 |str l=>exact .str l
 |nil ay ex a cap al=>exact .nil ay ex a cap al
 |ae ay rows ex b off cap cs elem bl dB cd ah al ai j _ a8=>exact .ae ay rows ex b off cap cs elem bl dB (h _ _ cd) ah al ai j a8
 |gl cells aj b off cs elem bl dB cd j _ a8=>exact .gl cells aj b off cs elem bl dB (h _ _ cd) j a8
 |mp es b hv clock cd j=>exact .mp es b hv clock (h _ _ cd) j
def sX(ac:b9)(c ay:Nat)(rows:List (List aD))(off len:Nat)(v:Value):Prop:=
 off+len≤rows.length∧∃a cap,v=.slice a len cap∧
  ((ac c=none∧cap=0)∨
   ∃b n,ac c=some (b,n)∧len≤cap∧(off+cap)*ay≤n∧(a=some ⟨b,off*ay,none⟩∨(len=0∧cap=0)))
def EC(ac:b9)(c n off len:Nat)(v:Value):Prop:=
 off+len≤n∧∃a cap,v=.slice a len cap∧((ac c=none∧cap=0)∨∃b m,ac c=some (b,m)∧len≤cap∧off+cap≤m∧(a=some ⟨b,off,none⟩∨(len=0∧cap=0)))
def Tg(z b len n:Nat)(v:Value):Prop:=∃cap,v=.slice (some ⟨b,0,none⟩) len cap∧len≤cap∧cap*z≤n
def ve(ac:b9)(z c r:Nat)(bR:List (List aD))(v:Value):Prop:=(bR=[]∧∃a cap,v=.slice a 0 cap)∨∃b n,ac ⟨c,r+1⟩=some (b,n)∧Tg z b bR.length n v
def kX(ac:b9)(H:aa):cP→Value→Prop
 |.d c g off len,v=>c<H.length∧(∃a m,v=.slice a len m)∧∀z aY s rows,H[c]?=some (.ax z aY s rows)→g≤aY∧(g=aY→EC ac c rows.length off len v)
 |.e c g r,v=>c<H.length∧(∃a,v=.pointer (some a))∧∀z aY s rows,H[c]?=some (.ax z aY s rows)→g≤aY∧(g=aY→∃b n,ac c=some (b,n)∧v=.pointer (some ⟨b,r,none⟩))
 |.h c g s r,v=>c<H.length∧(∃a l m,v=.slice a l m)∧∀z aY dH rows,H[c]?=some (.ax z aY dH rows)→(g<aY∨(g=aY∧s≤dH))∧(g=aY→s=dH→∀bR,rows[r]?=some (.own bR)→ve ac z c r bR v)
 |.p c g s r i k,v=>c<H.length∧(∃a,v=.pointer (some a))∧∀z aY dH rows,H[c]?=some (.ax z aY dH rows)→(g<aY∨(g=aY∧s≤dH))∧(g=aY→s=dH→∀bR,rows[r]?=some (.own bR)→i<bR.length→∃b n,ac ⟨c,r+1⟩=some (b,n)∧v=.pointer (some ⟨b,i*z+k,none⟩))
def kX.lt{ac:b9}{H:aa}{k:cP}{v:Value}(h:kX ac H k v):k.c<H.length:=by cases k<;>exact h.1
def kX.one{ac:b9}{H:aa}{k:cP}{v:Value}(h:kX ac H k v):v.oneCell'=true:=by
 cases k with
 |d=>obtain⟨_,⟨_,_,rfl⟩,_⟩:=h;rfl
 |e=>obtain⟨_,⟨_,rfl⟩,_⟩:=h;rfl
 |h=>obtain⟨_,⟨_,_,_,rfl⟩,_⟩:=h;rfl
 |p=>obtain⟨_,⟨_,rfl⟩,_⟩:=h;rfl
def Ms(ac:b9)(H:aa)(aC:b9)(ap:aa)(c:Nat):Prop:=
 ∀z g s eF,ap[c]?=some (.ax z g s eF)→
  (∃dn rows,H[c]?=some (.ax z g dn rows)∧aC c=ac c∧eF.length=rows.length∧(dn<s∨(dn=s∧∀(r:Nat) qd,eF[r]?=some (.own qd)→∃bR,rows[r]?=some (.own bR)∧bR.length=qd.length∧aC ⟨c,r+1⟩=ac ⟨c,r+1⟩)))
  ∨∃z0 g0 dn hh,H[c]?=some (.ax z0 g0 dn hh)∧g0<g
def ve.step{ac aC:b9}{z c r:Nat}{bR qd:List (List aD)}{v:Value}(an:bR.length=qd.length)(he:aC ⟨c,r+1⟩=ac ⟨c,r+1⟩)(h:ve ac z c r bR v):ve aC z c r qd v:=by
 rcases h with⟨rfl,J⟩|⟨b,n,j,J⟩
 ·exact .inl ⟨qe.1 (by rw[←an];rfl),J⟩
 ·exact .inr ⟨b,n,by rw[he];exact j,by rw[←an];exact J⟩
def kX.Th{ac aC:b9}{H ap:aa}{k:cP}{v:Value}(an:k.c<ap.length)(h:Ms ac H aC ap k.c)(r:kX ac H k v):kX aC ap k v:=by
 cases k with
 |d c g off len=>
  obtain⟨j,J,aw⟩:=r;refine⟨an,J,λ z aY s rows aQ=>?_⟩;rcases h z aY s rows aQ with⟨dn,hh,ao,aI,bE,_⟩|⟨z0,g0,dn,hh,ao,aI⟩
  ·obtain⟨ch,cw⟩:=aw _ _ _ _ ao;refine⟨ch,λ e=>?_⟩;have Mt:aC ⟨c,0⟩=ac ⟨c,0⟩:=aI;have:=cw e;unfold EC at*;rw[bE,Mt];exact this
  ·obtain⟨ch,_⟩:=aw _ _ _ _ ao;exact⟨R,λ e=>R⟩
 |e c g r=>
  obtain⟨j,J,aw⟩:=r;refine⟨an,J,λ z aY s rows aQ=>?_⟩;rcases h z aY s rows aQ with⟨dn,hh,ao,aI,bE,_⟩|⟨z0,g0,dn,hh,ao,aI⟩
  ·obtain⟨ch,cw⟩:=aw _ _ _ _ ao;refine⟨ch,λ e=>?_⟩;have Mt:aC ⟨c,0⟩=ac ⟨c,0⟩:=aI;rw[Mt];exact cw e
  ·obtain⟨ch,_⟩:=aw _ _ _ _ ao;exact⟨R,λ e=>R⟩
 |h c g s r=>
  obtain⟨j,J,aw⟩:=r;refine⟨an,J,λ z aY dH rows aQ=>?_⟩;rcases h z aY dH rows aQ with⟨dn,hh,ao,aI,bE,c6⟩|⟨z0,g0,dn,hh,ao,aI⟩
  ·obtain⟨ch,cw⟩:=aw _ _ _ _ ao;rcases c6 with c6|⟨rfl,c6⟩
   ·exact⟨R,λ e lh=>R⟩
   ·refine⟨ch,λ e lh qd ai=>?_⟩;obtain⟨bR,f1,f2,f3⟩:=c6 _ _ ai;exact(cw e lh bR f1).step f2 f3
  ·obtain⟨ch,_⟩:=aw _ _ _ _ ao;exact⟨R,λ e=>R⟩
 |p c g s r i k=>
  obtain⟨j,J,aw⟩:=r;refine⟨an,J,λ z aY dH rows aQ=>?_⟩;rcases h z aY dH rows aQ with⟨dn,hh,ao,aI,bE,c6⟩|⟨z0,g0,dn,hh,ao,aI⟩
  ·obtain⟨ch,cw⟩:=aw _ _ _ _ ao;rcases c6 with c6|⟨rfl,c6⟩
   ·exact⟨R,λ e lh=>R⟩
   ·refine⟨ch,λ e lh qd ai aA=>?_⟩;obtain⟨bR,f1,f2,f3⟩:=c6 _ _ ai;have ajk:aC ⟨c,r+1⟩=ac ⟨c,r+1⟩:=f3;rw[ajk];exact cw e lh bR f1 R
  ·obtain⟨ch,_⟩:=aw _ _ _ _ ao;exact⟨R,λ e=>R⟩
def kX.step{ac aC:b9}{H ap:aa}{k:cP}{v:Value}(an:H.length≤ap.length)(h:Ms ac H aC ap k.c)(r:kX ac H k v):kX aC ap k v:=r.Th (xf r.lt an) h
def q1(ad:cb)(H:aa)(k:cP)(v:Value):Prop:=∀g c off len rows,k=.d c g off len→H[c]?=some (.fd g rows)→ds ad (.ae 1 ((rows.drop off).take len) false) v
def q1.ne{ad:cb}{H:aa}{k:cP}{v:Value}(h:∀c g aj n,k≠.d c g aj n):q1 ad H k v:=λ g c aj n _ e=>absurd e (h c g aj n)
def q1.ax{ad:cb}{H:aa}{k:cP}{v:Value}{z g s:Nat}{rows:List bS}(h:H[k.c]?=some (.ax z g s rows)):q1 ad H k v:=λ aY c aj n eF e aQ=>by subst e;have h:H[c]?=_:=h;rw[h]at aQ;cases aQ
def q1.d{ad:cb}{H:aa}{c g aj n:Nat}{v:Value}{z aY s:Nat}{rows:List bS}(h:H[c]?=some (.ax z aY s rows)):q1 ad H (.d c g aj n) v:=q1.ax (k:=.d c g aj n) h
def q1.to{ad aN:cb}{H ap:aa}{k:cP}{v:Value}(cd:ad.le aN)(he:∀g rows,ap[k.c]?=some (.fd g rows)→H[k.c]?=some (.fd g rows))(h:q1 ad H k v):q1 aN ap k v:=λ g c aj n rows e aQ=>by subst e;exact(h g c aj n rows rfl (he g rows aQ)).mono cd
inductive a7 (ad:cb) (ac:b9) (H:aa):U→Value→Prop
 |dead (v:Value):a7 ad ac H .dead v
 |i (x:aD) (v:Value) (h:ds ad x v):a7 ad ac H (.i x) v
 |agg (cells:List U) (cs:Array Value) (an:cs.size=cells.length)
  (h:∀(k:Nat) (a:U),cells[k]?=some a→a7 ad ac H a (cs.getD k undef)):a7 ad ac H (.agg cells) (.agg cs)
 |ref (c g off len:Nat) (v:Value) (ah:c<H.length)
  (aS:∀ay rows ex,H[c]?=some (.ae ay g rows ex)→sX ac c ay rows off len v)
  (aK:∀ay rows ex,H[c]?=some (.bl ay g rows ex)→off+len≤rows.length∧
   ds ad (.ae ay ((rows.drop off).take len) (ex &&decide (off+len=rows.length))) v)
  (av:∃a m,v=.slice a len m) (aP:∀ay aY rows ex,H[c]?=some (.ae ay aY rows ex)→g≤aY):a7 ad ac H (.ref c g off len) v
 |ptr (c g r k:Nat) (v:Value) (ah:c<H.length)
  (ak:∀cells,H[c]?=some (.box cells)→∃b n,ac c=some (b,n)∧v=.pointer (some ⟨b,k,none⟩))
  (aS:∀ay rows ex,H[c]?=some (.ae ay g rows ex)→∃b n,ac c=some (b,n)∧v=.pointer (some ⟨b,r*ay+k,none⟩))
  (aK:∀ay rows ex row,H[c]?=some (.bl ay g rows ex)→rows[r]?=some row→ds ad (.gl row k) v)
  (aA:∀s p,H[c]?=some (.iter s p)→∃b n,ac c=some (b,n)∧v=.pointer (some ⟨b,k,none⟩))
  (av:∃a:Addr,v=.pointer (some a)) (aP:∀ay aY rows ex,H[c]?=some (.ae ay aY rows ex)→g≤aY):a7 ad ac H (.ptr c g r k) v
 |dA (c:Nat) (v:Value) (ah:c<H.length) (hm:∀es,H[c]?=some (.map es)→∃b n,ac c=some (b,n)∧v=.map (some b))
  (bq:∀t cells,H[c]?=some (.cZ t cells)→∃b n,ac c=some (b,n)∧v=.pointer (some ⟨b,0,none⟩))
  (hu:∀t l,H[c]?=some (.jA t l)→∃b n,ac c=some (b,n)∧v=.slice (some ⟨b,0,none⟩) l.length n)
  (av:v.oneCell'=true) (bg:∀ay g rows ex,H[c]?≠some (.ae ay g rows ex)):a7 ad ac H (.dA c) v
 |x (k:cP) (v:Value) (h:kX ac H k v) (aK:q1 ad H k v):a7 ad ac H (.x k) v
 |aR (fn:Fn) (first fy:List U) (eP cs:Array Value) (an:eP.size=first.length) (hm:cs.size=fy.length)
  (j:∀(k:Nat) (a:U),first[k]?=some a→a7 ad ac H a (eP.getD k undef))
  (J:∀(k:Nat) (a:U),fy[k]?=some a→a7 ad ac H a (cs.getD k undef)):a7 ad ac H (.aR fn first fy) (.func fn eP cs)
 |be (vs:List U) (xs:Array Value) (an:xs.size=vs.length)
  (h:∀(k:Nat) (a:U),vs[k]?=some a→a7 ad ac H a (xs.getD k undef)):a7 ad ac H (.be vs) (.tuple xs)
def vf(bl:Nat×Nat)(n:Nat):Prop:=∀k,k<n→¬(bl.1≤k∧k<bl.2)
def nv(ad:cb)(ac:b9)(H:aa):List (aD×U)→List MapEntry→Prop
 |[],[]=>True
 |p::r,e::q=>ds ad p.1 e.key∧a7 ad ac H p.2 e.val∧nv ad ac H r q
 |_,_=>False
def nv.mono{ad aN:cb}{ac aC:b9}{H ap:aa}(h:ad.le aN)(hm:∀a v,a7 ad ac H a v→a7 aN aC ap a v):∀{es:List (aD×U)} {q:List MapEntry},nv ad ac H es q→nv aN aC ap es q
 |[],[],_=>trivial
 |_::_,_::_,g=>⟨g.1.mono h,hm _ _ g.2.1,g.2.2.mono h hm⟩
def nv.to{ad:cb}{ac aC:b9}{H ap:aa}{g:U→U}(hm:∀a v,a7 ad ac H a v→a7 ad aC ap (g a) v):∀{es:List (aD×U)} {q:List MapEntry},nv ad ac H es q→nv ad aC ap (es.map λ p=>(p.1,g p.2)) q
 |[],[],_=>trivial
 |_::_,_::_,h=>⟨h.1,hm _ _ h.2.1,h.2.2.to hm⟩
def nv.ex{ad:cb}{ac:b9}{H:aa}{a:U}:∀{es:List (aD×U)} {q:List MapEntry},nv ad ac H es q→a∈es.map (·.2)→∃v,a7 ad ac H a v
 |[],[],_,aB=>by simp at aB
 |p::r,e::q,h,aB=>by
  simp only[fk,mU]at aB;rcases aB with rfl|aB
  ·exact⟨_,h.2.1⟩
  ·exact h.2.2.ex aB
def nv.of{ad:cb}{ac aC:b9}{H ap:aa}:∀{es:List (aD×U)} {q:List MapEntry},(∀a v,a∈es.map (·.2)→a7 ad ac H a v→a7 ad aC ap a v)→nv ad ac H es q→nv ad aC ap es q
 |[],[],_,_=>trivial
 |_::_,_::_,hm,h=>⟨h.1,hm _ _ (by simp) h.2.1,h.2.2.of λ a v aB=>hm a v (by simp at aB⊢;exact .inr aB)⟩
def mi(ad:cb)(ac:b9)(H:aa)(es:List (aD×U))(q:List MapEntry):Prop:=
 ∃hQ,es.Perm hQ∧nv ad ac H hQ q∧es.Pairwise λ p r=>gm p.1 r.1=some false
def mi.nil{ad:cb}{ac:b9}{H:aa}:mi ad ac H [] []:=⟨[],.refl _,trivial,.nil⟩
def mi.mono{ad aN:cb}{ac aC:b9}{H ap:aa}(h:ad.le aN)(hm:∀a v,a7 ad ac H a v→a7 aN aC ap a v){es:List (aD×U)}{q:List MapEntry}(g:mi ad ac H es q):mi aN aC ap es q:=by obtain⟨hQ,j,J,aw⟩:=g;exact⟨hQ,j,J.mono h hm,aw⟩
def mi.to{ad:cb}{ac aC:b9}{H ap:aa}{g:U→U}(hm:∀a v,a7 ad ac H a v→a7 ad aC ap (g a) v){es:List (aD×U)}{q:List MapEntry}(h:mi ad ac H es q):mi ad aC ap (es.map λ p=>(p.1,g p.2)) q:=by obtain⟨hQ,j,J,aw⟩:=h;exact⟨_,j.map _,J.to hm,List.pairwise_map.2 aw⟩
def mi.ex{ad:cb}{ac:b9}{H:aa}{a:U}{es:List (aD×U)}{q:List MapEntry}(h:mi ad ac H es q)(aB:a∈es.map (·.2)):∃v,a7 ad ac H a v:=by obtain⟨hQ,j,J,aw⟩:=h;exact J.ex ((j.map _).mem_iff.1 aB)
def mi.of{ad:cb}{ac aC:b9}{H ap:aa}{es:List (aD×U)}{q:List MapEntry}(hm:∀a v,a∈es.map (·.2)→a7 ad ac H a v→a7 ad aC ap a v)(h:mi ad ac H es q):mi ad aC ap es q:=by obtain⟨hQ,j,J,aw⟩:=h;exact⟨hQ,j,J.of λ a v aB=>hm a v ((j.map _).mem_iff.2 aB),aw⟩
def By{k ab:aD}(h:gm k ab=some true):k=ab:=by
 unfold gm at h;split at h
 ·split at h
  ·rename_i az;subst az;cases of_decide_eq_true (qf h);rfl
  ·cases h
 ·cases of_decide_eq_true (qf h);rfl
 ·cases h
def ED(k ab:aD):gm k ab=gm ab k:=by
 cases k with
 |v x=>
  cases ab with
  |v y=>
   cases x<;>cases y<;>try rfl
   rename_i bG a bH b;simp only[gm];by_cases h:bG=bH
   ·subst h;simp[eq_comm]
   ·simp[h,ba h]
  |_=>cases x<;>rfl
 |str a=>
  cases ab with
  |str b=>simp[gm,eq_comm]
  |v y=>cases y<;>rfl
  |_=>rfl
 |_=>cases ab<;>first|rfl|(rename_i y;cases y<;>rfl)
def Mu{k:aD}:∀{es:List (aD×U)},hH k es=some none↔∀p∈es,gm k p.1=some false
 |[]=>by simp[hH]
 |p::r=>by
  obtain⟨ab,v⟩:=p;simp only[hH,mU,forall_eq_or_imp];cases h:gm k ab with
  |none=>simp
  |some b=>cases b<;>simp[Mu]
def Mv{k:aD}{es hQ:List (aD×U)}(h:es.Perm hQ)(aM:es.Pairwise λ p r=>gm p.1 r.1=some false){r:Option U}(aK:hH k es=some r):hH k hQ=some r:=by
 induction h with
 |nil=>exact aK
 |cons p _ a8=>
  obtain⟨ab,v⟩:=p;simp only[hH]at aK⊢;cases h:gm k ab with
  |none=>rw[h]at aK;cases aK
  |some b=>
   rw[h]at aK;cases b with
   |true=>exact aK
   |false=>exact a8 (vg.1 aM).2 aK
 |swap p lj l=>
  obtain⟨ab,v⟩:=p;obtain⟨Ti,hi⟩:=lj;have ajl:gm Ti ab=some false:=(vg.1 aM).1 (ab,v) (by simp);simp only[hH]at aK⊢;cases h9:gm k Ti with
  |none=>rw[h9]at aK;cases aK
  |some bV=>
   rw[h9]at aK;cases bV with
   |true=>have:=By h9;subst this;rw[ajl];exact aK
   |false=>exact aK
 |trans j J nX nY=>exact nY ((j.pairwise_iff (λ{x y} EE=>by rw[ED];exact EE)).1 aM) (nX aM aK)
def Mw(k:aD)(v:U):∀es,(kR k v es).Perm ((k,v)::es)
 |[]=>.refl _
 |p::r=>by
  simp only[kR];split
  ·exact .refl _
  ·exact((Mw k v r).cons p).trans (.swap _ _ _)
def HZ(k:aD)(v:U):∀es,j3 k v es=es.map λ p=>if gm k p.1=some true then(k,v)else p
 |[]=>rfl
 |p::r=>by simp only[j3,fk,HZ k v r]
def Mx(k:aD)(v:U)(p:aD×U):(if gm k p.1=some true then(k,v)else p).1=p.1:=by
 split
 ·rename_i h;exact By h
 ·rfl
def mj(ad:cb)(ac:b9)(w:World)(z c r:Nat):bS→Value→Prop
 |.own bR,v=>(∀(i:Nat) (row:List aD),bR[i]?=some row→row.length=z)∧((bR=[]∧∃a cap,v=.slice a 0 cap)∨∃b cs elem bl,ac ⟨c,r+1⟩=some (b,cs.size)∧Tg z b bR.length cs.size v∧
  w.heap[b]?=some (.cells cs elem bl)∧vf bl cs.size∧0<z∧∀(i:Nat) (row:List aD) (k:Nat) (a:aD),bR[i]?=some row→row[k]?=some a→ds ad a (cs.getD (i*z+k) undef))
 |.dG y,v=>ds ad y v
 |.dead,v=>v.oneCell'=true
def mj.mono{ad aN:cb}{ac aC:b9}{w ar:World}{z c r:Nat}{y:bS}{v:Value}(h:mj ad ac w z c r y v)(he:aC ⟨c,r+1⟩=ac ⟨c,r+1⟩)(cd:ad.le aN)
  (hw:∀b n,ac ⟨c,r+1⟩=some (b,n)→ar.heap[b]?=w.heap[b]?):mj aN aC ar z c r y v:=by
 cases y with
 |own bR=>
  obtain⟨j,J⟩:=h;refine⟨j,?_⟩;rcases J with J|⟨b,cs,elem,bl,ch,cw,fl,jb,ml,xg⟩
  ·exact .inl J
  ·exact .inr ⟨b,cs,elem,bl,by rw[he];exact ch,cw,by rw[hw _ _ ch];exact fl,jb,ml,λ i row k a aA aB=>(xg i row k a aA aB).mono cd⟩
 |dG y=>exact ds.mono cd h
 |dead=>exact h
def mj.slice{ad:cb}{ac:b9}{w:World}{z c r:Nat}{bR:List (List aD)}{v:Value}(h:mj ad ac w z c r (.own bR) v):∃a m,v=.slice a bR.length m:=by
 rcases h.2 with⟨rfl,a,cap,rfl⟩|⟨b,cs,elem,bl,_,⟨cap,rfl,_⟩,_⟩
 ·exact⟨a,cap,rfl⟩
 ·exact⟨_,_,rfl⟩
def oD(ad:cb)(ac:b9)(H:aa)(w:World)(c:Nat):Chunk→Prop
 |.box cells=>∃b cs elem bl,ac c=some (b,cs.size)∧w.heap[b]?=some (.cells cs elem bl)∧vf bl cs.size∧cs.size=cells.length∧
  ∀(k:Nat) (a:U),cells[k]?=some a→a7 ad ac H a (cs.getD k undef)
 |.ae ay _ rows ex=>(ay=0→ac c=none)∧(∀(i:Nat) (r:List aD),rows[i]?=some r→r.length=ay)∧
  ((ac c=none∧rows=[])∨∃b cs elem bl,ac c=some (b,cs.size)∧w.heap[b]?=some (.cells cs elem bl)∧vf bl cs.size∧
   rows.length*ay≤cs.size∧(ex=true→cs.size=rows.length*ay)∧
   ∀(i:Nat) (r:List aD) (k:Nat) (a:aD),rows[i]?=some r→r[k]?=some a→ds ad a (cs.getD (i*ay+k) undef))
 |.bl ..=>ac c=none
 |.iter s pos=>∃b,ac c=some (b,0)∧w.heap[b]?=some (.stringIter ⟨⟨s⟩⟩ pos)
 |.map es=>∃b hv clock,ac c=some (b,0)∧w.heap[b]?=some (.map hv clock)∧mi ad ac H es hv.toList
 |.cZ t cells=>∃b cs,ac c=some (b,cs.size)∧w.heap[b]?=some (.cells cs t (0,0))∧cs.size=cells.length∧
  ∀(k:Nat) (a:U),cells[k]?=some a→a7 ad ac H a (cs.getD k undef)
 |.jA t l=>∃b cs,ac c=some (b,cs.size)∧w.heap[b]?=some (.cells cs t (0,0))∧l.length≤cs.size∧cs.size≤maxLen∧
  ∀(k:Nat) (x:UInt8),l[k]?=some x→cs[k]?=some (.int .u8 x.toNat)
 |.gone=>ac c=none
 |.fd ..=>ac c=none
 |.ax z _ _ rows=>(ac c=none∧rows=[])∨∃b cs elem bl,ac c=some (b,cs.size)∧w.heap[b]?=some (.cells cs elem bl)∧vf bl cs.size∧rows.length≤cs.size∧
  ∀(r:Nat) (y:bS),rows[r]?=some y→mj ad ac w z c r y (cs.getD r undef)
def tP(ad:cb)(g:Nat)(cells:List aD):Prop:=ds ad (.gl cells 0) (.pointer (some ⟨g,0,none⟩))∧∃cs e bl,ad g=some (.cells cs e bl)∧cs.size=cells.length
def tP.mono{ad aN:cb}(h:ad.le aN){g:Nat}{cells:List aD}(k:tP ad g cells):tP aN g cells:=by obtain⟨bG,cs,e,bl,bH,cG⟩:=k;exact⟨bG.mono h,cs,e,bl,h _ _ bH,cG⟩
structure b6 (E:Env) (ad:cb) (ac:b9) (H:aa) (w:World):Prop where
 dT:∀b aj,ad b=some aj→w.heap[b]?=some aj
 b7:∀c x,H[c]?=some x→oD ad ac H w c x
 inj:∀(c cp:fj) b n dO,ac c=some (b,n)→ac cp=some (b,dO)→c=cp
 sep:∀(c:fj) b n,ac c=some (b,n)→ad b=none∧b<w.heap.size∧c.c<H.length
 e_:∀g cells,E.e_ g=some cells→tP ad g cells
def b6.ajm{E:Env}{ad:cb}{ac:b9}{H:aa}{w:World}(aq:b6 E ad ac H w){c cp b n dO:Nat}(j:ac c=some (b,n))(J:ac cp=some (b,dO)):c=cp:=congrArg fj.c (aq.inj _ _ _ _ _ j J)
def b6.Bz{E:Env}{ad:cb}{ac:b9}{H:aa}{w:World}(aq:b6 E ad ac H w){c b n:Nat}(j:ac c=some (b,n)):c<H.length:=(aq.sep _ _ _ j).2.2
structure Trans (ad:cb) (ac:b9) (w:World) (aN:cb) (aC:b9) (ar:World):Prop where
 os:ar.os=w.os
 tape:ar.tape=w.tape
 output:ar.output=w.output
 size:w.heap.size≤ar.heap.size
 frame:∀b,b<w.heap.size→(∀(c:fj) n,ac c≠some (b,n))→ar.heap[b]?=w.heap[b]?
 dT:ad.le aN
 q2:∀b,aN b≠none→ad b≠none∨w.heap.size≤b∨∃(c:fj) (n:Nat),ac c=some (b,n)
 own:∀(c:fj) b n,aC c=some (b,n)→w.heap.size≤b∨∃(cp:fj) (dO:Nat),ac cp=some (b,dO)
def Trans.refl(ad:cb)(ac:b9)(w:World):Trans ad ac w ad ac w:=
 ⟨rfl,rfl,rfl,cQ _,λ _ _ _=>rfl,λ _ _ h=>h,λ _ h=>.inl h,λ _ _ _ h=>.inr ⟨_,_,h⟩⟩
def Trans.trans{ad ac w aN aC ar sb sc q3}(h:Trans ad ac w aN aC ar)(k:Trans aN aC ar sb sc q3):Trans ad ac w sb sc q3 where
 os:=k.os.trans h.os
 tape:=k.tape.trans h.tape
 output:=k.output.trans h.output
 size:=sd h.size k.size
 frame b ak aF:=by
  rw[k.frame b (xf ak h.size) ?_,h.frame b ak aF];intro c n ah;rcases h.own c b n ah with j|⟨cp,dO,j⟩
  ·omega
  ·exact aF _ _ j
 dT b aj ak:=k.dT _ _ (h.dT _ _ ak)
 q2 b ak:=by
  rcases k.q2 b ak with j|j|⟨c,n,j⟩
  ·exact h.q2 b j
  ·exact .inr (.inl (sd h.size j))
  ·rcases h.own c b n j with J|J
   ·exact .inr (.inl J)
   ·exact .inr (.inr J)
 own c b n ah:=by
  rcases k.own c b n ah with j|⟨cp,dO,j⟩
  ·exact .inl (sd h.size j)
  ·exact h.own _ _ _ j
def fb(ad:cb)(ac:b9)(H:aa)(aN:cb)(aC:b9)(ap:aa):Prop:=∀a v,a7 ad ac H a v→a7 aN aC ap a v
def fb.refl(ad ac H):fb ad ac H ad ac H:=λ _ _ h=>h
def fb.trans{ad ac H aN aC ap sb sc nw}(h:fb ad ac H aN aC ap)(k:fb aN aC ap sb sc nw):fb ad ac H sb sc nw:=
 λ a v r=>k a v (h a v r)
def jc(ad:cb)(ac:b9)(H:aa)(aN:cb)(aC:b9)(ap:aa)(c:Nat):Prop:=
 ∀y,ap[c]?=some y→match y with
  |.box Tj=>(∃cells,H[c]?=some (.box cells)∧aC c=ac c)∨(∃rows ex,H[c]?=some (.ae 0 0 rows ex)∧ac c=none)
  |.iter _ _=>∃s p,H[c]?=some (.iter s p)∧aC c=ac c
  |.map _=>∃es,H[c]?=some (.map es)∧aC c=ac c
  |.cZ _ _=>∃t cells,H[c]?=some (.cZ t cells)∧aC c=ac c
  |.jA _ fs=>∃t l,H[c]?=some (.jA t l)∧aC c=ac c∧fs.length=l.length
  |.gone=>True
  |.fd g rows=>(H[c]?=some (.fd g rows))∨(∀off len v,a7 ad ac H (.x (.d c g off len)) v→ds aN (.ae 1 ((rows.drop off).take len) false) v)
  |.ax _ _ _ _=>Ms ac H aC ap c
  |.ae ay g eF gd=>(∃rows ex,H[c]?=some (.ae ay g rows ex)∧aC c=ac c∧eF.length=rows.length)∨(∃q4 g0 hh iv,H[c]?=some (.ae q4 g0 hh iv)∧g0<g)
  |.bl ay g rows ex=>(H[c]?=some (.bl ay g rows ex))∨(∀a v,(∃off len,a=.ref c g off len)∨(∃r k,a=.ptr c g r k)→a7 ad ac H a v→a7 aN aC ap a v)
def sX.step{ac aC:b9}{c ay:Nat}{rows eF:List (List aD)}{off len:Nat}{v:Value}(he:aC c=ac c)(an:eF.length=rows.length)
  (h:sX ac c ay rows off len v):sX aC c ay eF off len v:=by
 unfold sX at*;rw[he,an];exact h
def mV{ad ac H aN aC ap}(cd:ad.le aN)(hlen:H.length≤ap.length)(ah:∀c,c<H.length→jc ad ac H aN aC ap c):fb ad ac H aN aC ap:=by
 intro a v r;induction r with
 |dead v=>exact .dead v
 |i x v h=>exact .i x v (h.mono cd)
 |agg cells cs an _ a8=>exact .agg cells cs an a8
 |aR fn first fy eP cs an hm _ _ nX nY=>exact .aR fn first fy eP cs an hm nX nY
 |be vs xs an _ a8=>exact .be vs xs an a8
 |x k v h aK=>
  refine .x k v (h.step hlen ?_) ?_
  ·intro z g s eF aQ;have:=ah k.c h.lt _ aQ;exact this z g s eF aQ
  ·intro g c off len rows e aQ;subst e;rcases ah c h.lt _ aQ with j|j
   ·exact(aK g c off len rows rfl j).mono cd
   ·exact j off len v (.x _ _ h aK)
 |dA c v cg hm bq hu av bg=>
  refine .dA c v R (λ es h=>?_) (λ t cells h=>?_) (λ t l h=>?_) av (λ ay g rows ex h=>?_)
  ·obtain⟨zb,j,J⟩:=ah c cg _ h;rw[J];exact hm _ j
  ·obtain⟨t0,qg,j,J⟩:=ah c cg _ h;rw[J];exact bq _ _ j
  ·obtain⟨t0,oE,j,J,aw⟩:=ah c cg _ h;rw[J,aw];exact hu _ _ j
  ·rcases ah c cg _ h with⟨_,_,j,_⟩|⟨_,_,_,_,j,_⟩
   ·exact bg _ _ _ _ j
   ·exact bg _ _ _ _ j
 |ref c g off len v cg aS aK av aP=>
  have eX:=ah c cg;by_cases hex:∃y,ap[c]?=some y
  ·obtain⟨y,aZ⟩:=hex;have gS:=eX y aZ;cases y with
   |box cells=>exact .ref c g off len v R (λ ay rows ex h=>by rw[aZ]at h;cases h) (λ ay rows ex h=>by rw[aZ]at h;cases h) av (λ _ _ _ _ h=>by rw[aZ]at h;cases h)
   |iter s p=>exact .ref c g off len v R (λ ay rows ex h=>by rw[aZ]at h;cases h) (λ ay rows ex h=>by rw[aZ]at h;cases h) av (λ _ _ _ _ h=>by rw[aZ]at h;cases h)
   |map|cZ|jA|gone|ax|fd=>exact .ref c g off len v R (λ ay rows ex h=>by rw[aZ]at h;cases h) (λ ay rows ex h=>by rw[aZ]at h;cases h) av (λ _ _ _ _ h=>by rw[aZ]at h;cases h)
   |ae ay aY eF gd=>
    rcases gS with⟨rows,ex,j,J,aw⟩|⟨q4,g0,hh,iv,j,J⟩
    ·refine .ref c g off len v R (λ h_ c9 hK h=>?_) (λ h_ c9 hK h=>by rw[aZ]at h;cases h) av (λ _ _ _ _ h=>by rw[aZ]at h;cases h;exact aP _ _ _ _ j);rw[aZ]at h;cases h;exact(aS _ _ _ j).step J aw
    ·have hle:=aP _ _ _ _ j;exact .ref c g off len v R (λ h_ c9 hK h=>by rw[aZ]at h;cases h;omega) (λ h_ c9 hK h=>by rw[aZ]at h;cases h) av (λ _ _ _ _ h=>by rw[aZ]at h;cases h;omega)
   |bl ay aY eF gd=>
    rcases gS with j|j
    ·refine .ref c g off len v R (λ h_ c9 hK h=>by rw[aZ]at h;cases h) (λ h_ c9 hK h=>?_) av (λ _ _ _ _ h=>by rw[aZ]at h;cases h);rw[aZ]at h;cases h;exact⟨(aK _ _ _ j).1,(aK _ _ _ j).2.mono cd⟩
    ·by_cases BA:aY=g
     ·subst BA;exact j _ _ (.inl ⟨off,len,rfl⟩) (.ref c aY off len v cg aS aK av aP)
     ·exact .ref c g off len v R (λ h_ c9 hK h=>by rw[aZ]at h;cases h) (λ h_ c9 hK h=>by rw[aZ]at h;cases h;exact absurd rfl BA) av (λ _ _ _ _ h=>by rw[aZ]at h;cases h)
  ·have aF:ap[c]?=none:=by cases h:ap[c]? with|none=>rfl|some y=>exact absurd ⟨y,h⟩ hex
   exact .ref c g off len v R (λ ay rows ex h=>by rw[aF]at h;cases h) (λ ay rows ex h=>by rw[aF]at h;cases h) av (λ _ _ _ _ h=>by rw[aF]at h;cases h)
 |ptr c g r k v cg ak aS aK aA av aP=>
  have eX:=ah c cg;by_cases hex:∃y,ap[c]?=some y
  ·obtain⟨y,aZ⟩:=hex;have gS:=eX y aZ;cases y with
   |box Tj=>
    rcases gS with⟨cells,j,J⟩|⟨rows,ex,j,J⟩
    ·refine .ptr c g r k v R (λ x h=>?_) (λ _ _ _ h=>by rw[aZ]at h;cases h) (λ _ _ _ _ h=>by rw[aZ]at h;cases h) (λ _ _ h=>by rw[aZ]at h;cases h) av (λ _ _ _ _ h=>by rw[aZ]at h;cases h);rw[J];exact ak _ j
    ·exfalso;have aw:=aP _ _ _ _ j;obtain rfl:g=0:=R;obtain⟨b,n,bb,_⟩:=aS _ _ _ j;rw[J]at bb;cases bb
   |iter s p=>obtain⟨dn,kr,j,J⟩:=gS;refine .ptr c g r k v R (λ _ h=>by rw[aZ]at h;cases h) (λ _ _ _ h=>by rw[aZ]at h;cases h) (λ _ _ _ _ h=>by rw[aZ]at h;cases h) (λ _ _ h=>?_) av (λ _ _ _ _ h=>by rw[aZ]at h;cases h);rw[J];exact aA _ _ j
   |map|cZ|jA|gone|ax|fd=>exact .ptr c g r k v R (λ _ h=>by rw[aZ]at h;cases h) (λ _ _ _ h=>by rw[aZ]at h;cases h) (λ _ _ _ _ h=>by rw[aZ]at h;cases h) (λ _ _ h=>by rw[aZ]at h;cases h) av (λ _ _ _ _ h=>by rw[aZ]at h;cases h)
   |ae ay aY eF gd=>
    rcases gS with⟨rows,ex,j,J,aw⟩|⟨q4,g0,hh,iv,j,J⟩
    ·refine .ptr c g r k v R (λ _ h=>by rw[aZ]at h;cases h) (λ h_ c9 hK h=>?_) (λ _ _ _ _ h=>by rw[aZ]at h;cases h) (λ _ _ h=>by rw[aZ]at h;cases h) av (λ _ _ _ _ h=>by rw[aZ]at h;cases h;exact aP _ _ _ _ j);rw[aZ]at h;cases h;rw[J];exact aS _ _ _ j
    ·have hle:=aP _ _ _ _ j;exact .ptr c g r k v R (λ _ h=>by rw[aZ]at h;cases h) (λ h_ c9 hK h=>by rw[aZ]at h;cases h;omega) (λ _ _ _ _ h=>by rw[aZ]at h;cases h) (λ _ _ h=>by rw[aZ]at h;cases h) av (λ _ _ _ _ h=>by rw[aZ]at h;cases h;omega)
   |bl ay aY eF gd=>
    rcases gS with j|j
    ·refine .ptr c g r k v R (λ _ h=>by rw[aZ]at h;cases h) (λ _ _ _ h=>by rw[aZ]at h;cases h) (λ h_ c9 hK row h h9=>?_) (λ _ _ h=>by rw[aZ]at h;cases h) av (λ _ _ _ _ h=>by rw[aZ]at h;cases h);rw[aZ]at h;cases h;exact(aK _ _ _ _ j h9).mono cd
    ·by_cases BA:aY=g
     ·subst BA;exact j _ _ (.inr ⟨r,k,rfl⟩) (.ptr c aY r k v cg ak aS aK aA av aP)
     ·exact .ptr c g r k v R (λ _ h=>by rw[aZ]at h;cases h) (λ _ _ _ h=>by rw[aZ]at h;cases h) (λ h_ c9 hK row h=>by rw[aZ]at h;cases h;exact absurd rfl BA) (λ _ _ h=>by rw[aZ]at h;cases h) av (λ _ _ _ _ h=>by rw[aZ]at h;cases h)
  ·have aF:ap[c]?=none:=by cases h:ap[c]? with|none=>rfl|some y=>exact absurd ⟨y,h⟩ hex
   exact .ptr c g r k v R (λ _ h=>by rw[aF]at h;cases h) (λ _ _ _ h=>by rw[aF]at h;cases h) (λ _ _ _ _ h=>by rw[aF]at h;cases h) (λ _ _ h=>by rw[aF]at h;cases h) av (λ _ _ _ _ h=>by rw[aF]at h;cases h)
def jc.same{ad:cb}{ac:b9}{H:aa}{aN:cb}{aC:b9}{ap:aa}{c:Nat}(j:ap[c]?=H[c]?)(aw:∀r,aC ⟨c,r⟩=ac ⟨c,r⟩):jc ad ac H aN aC ap c:=by
 have J:=aw 0;intro y aZ;rw[j]at aZ;cases y with
 |box cells=>exact .inl ⟨cells,aZ,J⟩
 |iter s p=>exact⟨s,p,aZ,J⟩
 |map es=>exact⟨es,aZ,J⟩
 |cZ t cells=>exact⟨t,cells,aZ,J⟩
 |jA t l=>exact⟨t,l,aZ,J,rfl⟩
 |gone=>trivial
 |fd g rows=>exact .inl aZ
 |ax z g s rows=>intro db aY dH eF aQ;rw[j]at aQ;exact .inl ⟨dH,eF,aQ,J,rfl,.inr ⟨rfl,λ r bR ai=>⟨bR,ai,rfl,aw _⟩⟩⟩
 |ae ay g rows ex=>exact .inl ⟨rows,ex,aZ,J,rfl⟩
 |bl ay g rows ex=>exact .inl aZ
def e1(ad:cb)(ac:b9)(H:aa)(I:Fr)(tmps:Array Value):Prop:=∀k,a7 ad ac H (get k I) (tmps.getD k undef)
def e1.mono{ad ac H aN aC ap I tmps}(h:e1 ad ac H I tmps)(m:fb ad ac H aN aC ap):e1 aN aC ap I tmps:=λ k=>m _ _ (h k)
def e1.put{ad ac H I}{a:Act}(h:e1 ad ac H I a.tmps){v:U}{x:Value}(r:a7 ad ac H v x)(d:Option Nat)(aM:∀k,d=some k→k<a.tmps.size):
  e1 ad ac H (dL d v I) (a.put d x).tmps:=by
 cases d with
 |none=>exact h
 |some d=>
  intro k;have bf:=aM d rfl;by_cases az:k=d
  ·subst az;simp only[dL,get,Act.put,if_true];simpa[bf]using r
  ·simp only[dL,get,Act.put,az,if_false];have:=h k;simpa[ba az]using this
def e1.H0{ad ac H I tmps}(h:e1 ad ac H I tmps)(l:List Nat):e1 ad ac H (norm l I) tmps:=by
 intro k;have key:∀l:List Nat,get k (norm l I)=get k I∨get k (norm l I)=.dead:=by
  intro l;induction l with
  |nil=>exact .inr rfl
  |cons x l a8=>
   simp only[VI.norm,fk,get];by_cases al:k=x
   ·subst al;simp
   ·simp only[al,if_false];exact a8
 rcases key l with e|e<;>rw[e]
 ·exact h k
 ·exact .dead _
def My(ad ac H):a7 ad ac H (.be []) undef:=.be [] #[] rfl (λ k a h=>by simp at h)
section
variable{E:Env}{ad:cb}{ac:b9}{H:aa}{w:World}
def iI{x:aD}{y:Value}(h:a7 ad ac H (.i x) y):ds ad x y:=by cases h;assumption
def fz{x y:Value}(h:a7 ad ac H (.i (.v x)) y):y=x:=by cases iI h;rfl
def qh{l:List UInt8}{y:Value}(h:a7 ad ac H (.i (.str l)) y):y=.string ⟨⟨l⟩⟩:=by cases iI h;rfl
def mm{k:IntKind}{n:Int}:a7 ad ac H (.int k n) (.int k n):=.i _ _ (.v _ rfl)
def xh{b:Bool}:a7 ad ac H (.bool b) (.bool b):=.i _ _ (.v _ rfl)
def BB{l:List UInt8}:a7 ad ac H (.str l) (.string ⟨⟨l⟩⟩):=.i _ _ (.str _)
def vh{cells:List U}{y:Value}(h:a7 ad ac H (.agg cells) y):
  ∃cs:Array Value,y=.agg cs∧cs.size=cells.length∧∀(k:Nat) (a:U),cells[k]?=some a→a7 ad ac H a (cs.getD k undef):=by
 cases h;rename_i cs an h;exact⟨cs,rfl,an,h⟩
def Tk{cells:List U}{y:Value}(h:a7 ad ac H (.be cells) y):
  ∃cs:Array Value,y=.tuple cs∧cs.size=cells.length∧∀(k:Nat) (a:U),cells[k]?=some a→a7 ad ac H a (cs.getD k undef):=by
 cases h;rename_i cs an h;exact⟨cs,rfl,an,h⟩
def H2{a:U}{y:Value}(h:a7 ad ac H a y)(b':one a=true):y.oneCell'=true:=by
 cases h with
 |dead=>simp[one]at b'
 |i x v h=>cases h with
  |v _ h=>exact h
  |_=>rfl
 |agg=>simp[one]at b'
 |ref c g off len v ah aS aK av aP=>obtain⟨a,m,rfl⟩:=av;rfl
 |ptr c g r k v ah ak aS aK aA av aP=>obtain⟨a,rfl⟩:=av;rfl
 |dA c v ah hm bq hu av bg=>exact av
 |x k v h aK=>exact h.one
 |aR=>rfl
 |be=>simp[one]at b'
def Tl(v:Value):a7 ad ac H (cellOf v) v:=by
 unfold cellOf;split
 ·rename_i b;obtain⟨⟨l⟩⟩:=b;exact .i _ _ (.str l)
 ·exact .i _ _ (.nil 0 true none 0 (λ _=>rfl))
 ·exact .dead _
 ·exact .dead _
 ·rename_i j J;refine .i _ _ (.v _ ?_);cases v<;>first|rfl|exact absurd rfl (j _)|exact absurd rfl (J _)
def getD_eq(cs:Array Value)(k:Nat)(h:k<cs.size):cs[k]?=some (cs.getD k undef):=by simp[h]
def sY(v:Value):a7 ad ac H (jZ v) v:=by
 unfold jZ;split
 ·rename_i cs;refine .agg _ _ (by simp) λ k a h=>?_
  simp only[fA,mW,c0]at h;obtain⟨x,al,rfl⟩:=h;have:cs.getD k undef=x:=by simp[dp,al]
  rw[this];exact Tl x
 ·exact Tl _
def eK{I:Fr}{a:Act}(aq:b6 E ad ac H w)(aK:e1 ad ac H I a.tmps)(x:Operand):a7 ad ac H (bo E I x) (a.eval x):=by
 cases x with
 |tmp t=>exact aK t
 |const v=>exact sY v
 |func f=>exact .aR _ _ _ #[] #[] rfl rfl (λ k a h=>by simp at h) (λ k a h=>by simp at h)
 |global g=>
  simp only[bo,Act.eval];cases h:E.e_ g with
  |none=>exact .dead _
  |some cells=>exact .i _ _ (aq.e_ _ _ h).1
def gJ{P:Program}{t n}(h:fM P t=some n)(w:World):(sizeOf t).run P w=.ok n w∧∃i,P.info? t=some i∧i.size=n:=by simp only[fM,c0]at h;obtain⟨i,aA,rfl⟩:=h;exact⟨by rw[run_sizeOf (i:=i) w aA];simp[Program.cellsOf,aA],i,aA,rfl⟩
def xi{P:Program}{t b}(h:ko P t=some b)(w:World):(isAgg t).run P w=.ok b w:=by simp only[ko,c0]at h;obtain⟨d,aM,rfl⟩:=h;simp only[isAgg,dU,run_underlying aM,ek];cases d<;>rfl
def h'{P:Program}{t e}(h:e5 P t=some e):P.underlying t=some (.slice e):=by unfold e5 at h;split at h<;>simp_all
def H3{P:Program}{t n e}(h:u2 P t=some (n,e)):P.underlying t=some (.array n e):=by unfold u2 at h;split at h<;>simp_all
def se{P:Program}{t}(h:hG P t=true):P.underlying t=some .string:=by unfold hG at h;split at h<;>simp_all
def BC{P:Program}{t k}(h:nS P t=some k):P.underlying t=some (.int k):=by unfold nS at h;split at h<;>simp_all
def Tm{P:Program}{t f off ed}(h:Bh P t f=some (off,ed)):∃eP x,P.underlying t=some (.struct eP)∧eP[f]?=some x∧x.offset=off∧x.type=ed:=by
 unfold Bh at h;split at h
 ·rename_i eP hu;simp only[c0,bA]at h;obtain⟨x,al,j,J⟩:=h;exact⟨eP,x,hu,al,j,J⟩
 ·cases h
def lk(b aj n:Nat):(⟨b,aj,none⟩:Addr).add n=⟨b,aj+n,none⟩:=by unfold Addr.add;split<;>simp_all
def cell_of{b:Nat}{cs:Array Value}{e:TypeId}{bl:Nat×Nat}(h:w.heap[b]?=some (.cells cs e bl))(aj:Nat):w.cell? ⟨b,aj,none⟩=cs[aj]?:=by simp[sf,h]
def mj.Tn{z c r:Nat}{bR:List (List aD)}{v:Value}(h:mj ad ac w z c r (.own bR) v):ve ac z c r bR v:=by
 rcases h.2 with j|⟨b,cs,elem,bl,j,J,_⟩
 ·exact .inl j
 ·exact .inr ⟨b,cs.size,j,J⟩
def ajn(aq:b6 E ad ac H w){q:cP}{y:Value}(h:kX ac H q y){cells:List U}{k:Nat}(ak:u3 H q=some (cells,k)):
  ∃b base,y=.pointer (some ⟨b,base+k,none⟩)∧∀(ab:Nat) (c:U),cells[ab]?=some c→∃dB,w.cell? ⟨b,base+ab,none⟩=some dB∧a7 ad ac H c dB:=by
 cases q with
 |d=>cases ak
 |h=>cases ak
 |e c g r=>
  obtain⟨ah,⟨a,aB⟩,al⟩:=h;simp only[u3]at ak;unfold Ej at ak;split at ak
  ·rename_i z aY s rows aQ;split at ak
   ·rename_i aP;subst aP;obtain⟨b,n,cf,rfl⟩:=(al _ _ _ _ aQ).2 rfl;have nx:=aq.b7 _ _ aQ;rcases nx with⟨aF,_⟩|⟨bV,cs,elem,bl,g',hw,gK,hle,el⟩
    ·rw[cf]at aF;cases aF
    ·rw[cf]at g';cases g';split at ak
     ·rename_i bR ai;cases ak;have bf:r<cs.size:=by have:=(bF.1 ai).1;omega
      refine⟨b,r,by simp,λ ab x a'=>?_⟩;cases ab with
      |succ ab=>simp at a'
      |zero=>
       simp at a';subst a';refine⟨cs.getD r undef,by rw[cell_of hw,fc];exact getD_eq _ _ bf,.x _ _ ⟨ah,?_,λ db aQ' dH eF ll=>?_⟩ (.ne nofun)⟩
       ·obtain⟨a,m,e⟩:=(el _ _ ai).slice;exact⟨a,_,m,e⟩
       ·rw[aQ]at ll;cases ll;refine⟨.inr ⟨rfl,cQ _⟩,λ _ _ qd xj=>?_⟩;rw[ai]at xj;cases xj;exact(el _ _ ai).Tn
     ·rename_i x ai;cases ak;have bf:r<cs.size:=by have:=(bF.1 ai).1;omega
      refine⟨b,r,by simp,λ ab y a'=>?_⟩;cases ab with
      |succ ab=>simp at a'
      |zero=>simp at a';subst a';exact⟨cs.getD r undef,by rw[cell_of hw,fc];exact getD_eq _ _ bf,.i _ _ (el _ _ ai)⟩
     ·cases ak
   ·cases ak
  ·cases ak
 |p c g s r i dv=>
  obtain⟨ah,⟨a,aB⟩,al⟩:=h;simp only[u3]at ak;unfold Ek at ak;split at ak
  ·rename_i z aY dH rows aQ;split at ak
   ·rename_i aP;obtain⟨rfl,rfl⟩:=aP;split at ak
    ·rename_i bR ai;split at ak
     ·rename_i row bZ;cases ak;have aA:=(bF.1 bZ).1;obtain⟨b,n,cf,rfl⟩:=(al _ _ _ _ aQ).2 rfl rfl _ ai aA;rcases aq.b7 _ _ aQ with⟨aF,aV⟩|⟨bV,cs,elem,bl,g',hw,gK,hle,el⟩
      ·subst aV;simp at ai
      ·obtain⟨j,J⟩:=el _ _ ai;rcases J with⟨rfl,_⟩|⟨dE,xk,aI,aRa,ch,cw,fl,jb,ml,xg⟩
       ·simp at aA
       ·rw[cf]at ch;cases ch;refine⟨b,i*z,rfl,λ ab x a'=>?_⟩;simp only[kP,fA,c0]at a';obtain⟨a,aB,rfl⟩:=a';have bf:i*z+ab<xk.size:=by obtain⟨cap,_,c7,eS⟩:=cw;have lm:=(bF.1 aB).1;rw[j _ _ bZ]at lm;have:(i+1)*z≤cap*z:=j5 _ R;rw[hj]at this;omega
        exact⟨xk.getD (i*z+ab) undef,by rw[cell_of fl];exact getD_eq _ _ bf,.i _ _ (xg _ _ _ _ bZ aB)⟩
     ·cases ak
    ·cases ak
   ·cases ak
  ·cases ak
def H4(aq:b6 E ad ac H w){p:U}{y:Value}(h:a7 ad ac H p y){cells:List U}{k:Nat}(ak:behind H p=some (cells,k)):
  ∃b base,y=.pointer (some ⟨b,base+k,none⟩)∧∀(ab:Nat) (c:U),cells[ab]?=some c→∃dB,w.cell? ⟨b,base+ab,none⟩=some dB∧a7 ad ac H c dB:=by
 have BD:∀(aL:List aD) (aj:Nat),ds ad (.gl aL aj) y→∃b base,y=.pointer (some ⟨b,base+aj,none⟩)∧∀(ab:Nat) (c:U),(kP aL)[ab]?=some c→∃dB,w.cell? ⟨b,base+ab,none⟩=some dB∧a7 ad ac H c dB:=by
  intro aL aj ai;cases ai with
  |gl cells aj b off cs elem bl dB cd j J=>refine⟨b,off,rfl,λ ab c a'=>?_⟩;simp only[kP,fA,c0]at a';obtain⟨a,aB,rfl⟩:=a';exact⟨dB ab,by rw[cell_of (aq.dT _ _ cd)];exact j _ _ aB,.i _ _ (J _ _ aB)⟩
 unfold behind at ak;split at ak
 ·cases ak;exact BD _ _ (iI h)
 ·rename_i c g r dv;cases h with
  |ptr c g r k v ah ajo H5 EF hit av=>
   split at ak
   ·rename_i Tj aQ;cases ak;obtain⟨b,n,cf,rfl⟩:=ajo _ aQ;obtain⟨bV,cs,elem,bl,g',hw,_,ey,el⟩:=aq.b7 _ _ aQ;rw[cf]at g';cases g';refine⟨b,0,by simp,λ ab c a'=>?_⟩;have bf:ab<cs.size:=by rw[ey];exact(bF.1 a').1
    exact⟨cs.getD ab undef,by rw[cell_of hw,cq];exact getD_eq cs ab bf,el _ _ a'⟩
   ·rename_i ay aY rows ex aQ;split at ak
    ·rename_i aP;subst aP;split at ak
     ·rename_i row bZ;cases ak;obtain⟨b,n,cf,rfl⟩:=H5 _ _ _ aQ;obtain⟨bg,hlen,fm⟩:=aq.b7 _ _ aQ;rcases fm with⟨aF,_⟩|⟨bV,cs,elem,bl,g',hw,_,ey,_,el⟩
      ·rw[cf]at aF;cases aF
      ·rw[cf]at g';cases g';refine⟨b,r*ay,rfl,λ ab c a'=>?_⟩;simp only[kP,fA,c0]at a';obtain⟨a,aB,rfl⟩:=a';have fe:=hlen _ _ bZ;have lm:=(bF.1 aB).1;have xj:=(bF.1 bZ).1;have bf:r*ay+ab<cs.size:=by have:(r+1)*ay≤rows.length*ay:=j5 _ xj;rw[hj]at this;omega
       exact⟨cs.getD (r*ay+ab) undef,by rw[cell_of hw];exact getD_eq _ _ bf,.i _ _ (el _ _ _ _ bZ aB)⟩
     ·cases ak
    ·cases ak
   ·rename_i ay aY rows ex aQ;split at ak
    ·rename_i aP;subst aP;split at ak
     ·rename_i row bZ;cases ak;exact BD _ _ (EF _ _ _ _ aQ bZ)
     ·cases ak
    ·cases ak
   ·cases ak
 ·cases h with
  |x k v h aK=>exact ajn aq h ak
 ·cases ak
def To{l m:List U}{k n:Nat}(h:take l k n=some m):m.length=n∧∀ab,ab<n→∃a,m[ab]?=some a∧l[k+ab]?=some a:=by
 unfold take at h;split at h
 ·rename_i hle;cases h;refine⟨by simp;omega,λ ab a'=>?_⟩;have bf:k+ab<l.length:=R;exact⟨l[k+ab],by simp[nZ,a',q5,bf],by simp[bf]⟩
 ·cases h
def Tp(aq:b6 E ad ac H w){p:U}{y:Value}(h:a7 ad ac H p y){t:TypeId}{v:U}(an:tG E H t p=some v):
  ∃x,(Instr.loadAt t y).run E.P w=.ok x w∧a7 ad ac H v x:=by
 unfold tG at an;split at an
 ·rename_i cells k n ak aB aS;obtain⟨b,base,rfl,el⟩:=H4 aq h ak;simp only[c0]at an;obtain⟨m,hm,rfl⟩:=an;obtain⟨BE,Tq⟩:=To hm;have lQ:(loadCells ⟨b,base+k,none⟩ n).run E.P w=.ok ((hg n).map λ ab=>(w.cell? ⟨b,base+k+ab,none⟩).getD undef).toArray w:=by
   refine run_loadCells w _ n _ λ ab a'=>?_
   obtain⟨a,_,J⟩:=Tq ab a';obtain⟨dB,aw,_⟩:=el _ _ J;rw[lk,show base+k+ab=base+(k+ab)by omega,aw];rfl
  refine⟨.agg ((hg n).map λ ab=>(w.cell? ⟨b,base+k+ab,none⟩).getD undef).toArray,?_,?_⟩
  ·simp only[Instr.loadAt,zc,loadVar,dU,eL,ek,xi aB,if_true,(gJ aS w).1,lQ,Sem.run_ite]
  ·refine .agg _ _ (by simp[BE]) λ ab a a'=>?_
   have BF:ab<n:=by rw[←BE];exact(bF.1 a').1
   obtain⟨bY,j,J⟩:=Tq ab BF;rw[a']at j;cases j;obtain⟨dB,aw,bb⟩:=el _ _ J;have:((hg n).map λ ab=>(w.cell? ⟨b,base+k+ab,none⟩).getD undef).toArray.getD ab undef=dB:=by simp[dp,BF,show base+k+ab=base+(k+ab)by omega,aw]
   rw[this];exact bb
 ·rename_i cells k n ak aB aS;obtain⟨b,base,rfl,el⟩:=H4 aq h ak;obtain⟨dB,aw,bb⟩:=el _ _ an;refine⟨dB,?_,bb⟩;simp[Instr.loadAt,zc,loadVar,xi aB,aw]
 ·cases an
def EG(p:Prop) [Decidable p](b:Bool)(h:b=decide p):a7 ad ac H (.bool (decide p)) (.bool b):=by rw[h];exact xh
def Tr{op:BinOp}{k:IntKind}{a b r:Int}(h:j0 op k a b=some r)(P:Program):(Op.intBits op k a b).run P w=.ok (.int k r) w:=by cases op<;>simp_all [j0,Op.intBits]
def ajp{op:BinOp}{k dv:IntKind}{a b:Int}{v:U}(h:lI op k a dv b=some v)(t:TypeId)(P:Program):
  ∃x,(binOp op t (.int k a) (.int dv b)).run P w=.ok x w∧a7 ad ac H v x:=by
 unfold lI at h;split at h
 ·split at h
  ·rename_i ak;cases h;exact⟨_,by simp[binOp,Op.shift,show¬b<0 by omega],mm⟩
  ·cases h
 ·split at h
  ·rename_i ak;cases h;exact⟨_,by simp[binOp,Op.shift,show¬b<0 by omega],mm⟩
  ·cases h
 ·split at h
  ·rename_i az;subst az;split at h
   ·cases h;exact⟨_,by simp[binOp,Op.intArith],mm⟩
   ·cases h;exact⟨_,by simp[binOp,Op.intArith],mm⟩
   ·cases h;exact⟨_,by simp[binOp,Op.intArith],mm⟩
   ·split at h
    ·cases h
    ·rename_i ak;cases h;exact⟨_,by simp[binOp,Op.intDiv,ak],mm⟩
   ·split at h
    ·cases h
    ·rename_i ak;cases h;exact⟨_,by simp[binOp,Op.intDiv,ak],mm⟩
   ·cases h;exact⟨_,by simp[binOp,EH];rfl,EG _ _ rfl⟩
   ·cases h;exact⟨.bool (a !=b),by simp[binOp,EH],by
     have:(!decide (a=b))=(a !=b):=rfl;rw[this];exact xh⟩
   ·cases h;exact⟨_,by simp[binOp,EH];rfl,EG _ _ (by rfl)⟩
   ·cases h;exact⟨_,by simp[binOp,EH];rfl,EG _ _ (by rfl)⟩
   ·cases h;exact⟨_,by simp[binOp,EH];rfl,EG _ _ (by rfl)⟩
   ·cases h;exact⟨_,by simp[binOp,EH];rfl,EG _ _ (by rfl)⟩
   all_goals first
    |(simp only[c0]at h;obtain⟨r,ai,rfl⟩:=h;exact⟨_,by simp[binOp];exact Tr ai P,mm⟩)
    |cases h
  ·cases h
def toList_mk(l:List UInt8):(⟨⟨l⟩⟩:ByteArray).toList=l:=by rw[ByteArray.toList_eq]
def size_mk(l:List UInt8):(⟨⟨l⟩⟩:ByteArray).size=l.length:=rfl
def ajq(a b:List UInt8):(⟨⟨a⟩⟩:ByteArray)++⟨⟨b⟩⟩=⟨⟨a++b⟩⟩:=by apply ByteArray.ext;simp
def ajr{op:BinOp}{a b:List UInt8}{v:U}(h:sQ op a b=some v)(t:TypeId)(P:Program):
  ∃x,(binOp op t (.string ⟨⟨a⟩⟩) (.string ⟨⟨b⟩⟩)).run P w=.ok x w∧a7 ad ac H v x:=by
 unfold sQ at h;split at h
 ·split at h
  ·rename_i an;cases h;refine⟨.string ⟨⟨a++b⟩⟩,?_,BB⟩;have:¬((a.length:Int)+b.length>n0.max):=by
    have:n0.max=9223372036854775807:=by decide
    omega
   simp[binOp,Op.stringOp,size_mk,ajq];omega
  ·cases h
 all_goals first
  |(simp only[bj]at h;subst h;exact⟨.bool _,by simp[binOp,Op.stringOp,toList_mk],xh⟩)
  |exact absurd h (by simp)
def Ts:nq→Value→Prop
 |.int k,x=>∃n,x=.int k n
 |.bool,x=>∃b,x=.bool b
 |.str,x=>∃s,x=.string s
def mn(l:List nq)(xs:Array Value)(off:Nat):Prop:=∀(k:Nat) (f:nq),l[k]?=some f→∃x,xs[off+k]?=some x∧Ts f x
def tQ(xs cS:Array Value)(off n:Nat):Prop:=∀k,k<n→xs[off+k]?=cS[off+k]?
def tQ.split{xs cS:Array Value}{off n m:Nat}:tQ xs cS off (n+m)↔tQ xs cS off n∧tQ xs cS (off+n) m:=by
 constructor
 ·intro h;exact⟨λ k az=>h k R,λ k az=>by have:=h (n+k) R;rwa [show off+(n+k)=off+n+k by omega]at this⟩
 ·rintro⟨j,J⟩ k az;by_cases aF:k<n
  ·exact j k aF
  ·have:=J (k-n) R;rwa [show off+n+(k-n)=off+k by omega]at this
def mn.split{l m:List nq}{xs:Array Value}{off:Nat}(h:mn (l++m) xs off):mn l xs off∧mn m xs (off+l.length):=by
 constructor
 ·intro k f aK;exact h k f (by rw[en (bF.1 aK).1];exact aK)
 ·intro k f aK;have:=h (l.length+k) f (by rw[ha R];simpa using aK);rwa [show off+(l.length+k)=off+l.length+k by omega]at this
def zd(P:Program)(t:TypeId)(xs:Array Value)(off n:Nat)(x:Value):Prop:=
 (ko P t=some true∧∃cs:Array Value,x=.agg cs∧∀k,k<n→cs[k]?=xs[off+k]?)∨(ko P t=some false∧n=1∧xs[off]?=some x)
def H6{P:Program}{t:TypeId}{l:List nq}{xs:Array Value}{off:Nat}{xl:Bool}(aB:ko P t=some xl)(bg:fM P t=some l.length)
  (j:xl=false→l.length=1)(az:mn l xs off):∃x,(part t xs off).run P w=.ok x w∧zd P t xs off l.length x:=by
 cases xl with
 |true=>refine⟨.agg (xs.extract off (off+l.length)),by simp[part,xi aB,(gJ bg w).1],.inl ⟨aB,_,rfl,λ k tR=>?_⟩⟩;obtain⟨x,al,_⟩:=az k _ (eT tR);have bf:=(j6.1 al).1;rw[Array.getElem?_extract];simp;omega
 |false=>have an:=j rfl;obtain⟨x,al,_⟩:=az 0 _ (eT R);exact⟨x,by simp only[part,dU,xi aB,ek];simp at al;simp[al],.inr ⟨aB,an,by simpa using al⟩⟩
def Mz{P:Program}{d:Nat}{t:TypeId}{l:List nq}(h:leaves P d t=some l):∃xl,ko P t=some xl∧(xl=false→l.length=1):=by
 cases d with
 |zero=>simp[leaves]at h
 |succ d=>
  simp only[leaves]at h;cases hu:P.underlying t with
  |none=>simp[hu]at h
  |some u=>
   simp only[hu]at h;cases u<;>simp at h
   all_goals first
    |(subst h;exact⟨false,by simp[ko,hu],λ _=>rfl⟩)
    |exact⟨true,by simp[ko,hu],λ h=>by cases h⟩
def Tt{P:Program}{d D:Nat}(a8:∀t l,leaves P d t=some l→∀(xs cS:Array Value) (qi qj:Nat) (x y:Value),mn l xs qi→mn l cS qj→
   zd P t xs qi l.length x→zd P t cS qj l.length y→∃r,(H7 D t x y).run P w=.ok r w∧(r=true↔∀k,k<l.length→xs[qi+k]?=cS[qj+k]?)):
  ∀(eP:List Field) (aj:Nat) (l:List nq),Ei P (leaves P d) aj eP=some l→∀xs cS:Array Value,mn l xs aj→mn l cS aj→
   ∃r,(Op.eqFields D xs cS eP).run P w=.ok r w∧(r=true↔tQ xs cS aj l.length)
 |[],aj,l,h,xs,cS,_,_=>by simp only[Ei,bj]at h;subst h;exact⟨true,by simp[Op.eqFields],by simp[tQ]⟩
 |f::eP,aj,l,h,xs,cS,al,aZ=>by
  simp only[Ei]at h;split at h
  ·rename_i c7 z hY bg;split at h
   ·rename_i ah;obtain⟨j,J,aw⟩:=ah;simp only[c0]at h;obtain⟨eS,hx,rfl⟩:=h;subst j J;obtain⟨lR,ze⟩:=al.split;obtain⟨zf,BG⟩:=aZ.split;obtain⟨xl,aB,n1⟩:=Mz hY;obtain⟨x,MA,zg⟩:=H6 (w:=w) aB bg n1 lR;obtain⟨y,MB,MC⟩:=H6 (w:=w) aB bg n1 zf;obtain⟨iJ,n2,EI⟩:=a8 _ _ hY xs cS _ _ x y lR zf zg MC;obtain⟨tS,ia,zh⟩:=Tt a8 eP _ eS hx xs cS ze BG;have EJ:iJ=true↔tQ xs cS f.offset c7.length:=EI;simp only[Op.eqFields,aw,ne_eq,not_false_eq_true,if_true,dU,MA,MB,n2,ek,dd,tQ.split];cases iJ with
    |true=>exact⟨tS,by simp[ia],by rw[zh];simp[EJ.1 rfl]⟩
    |false=>exact⟨false,by simp,by simp only[fK,false_iff];exact λ h=>by simpa using EJ.2 h.1⟩
   ·cases h
  ·cases h
def Tu{P:Program}{d D:Nat}{e:TypeId}{l:List nq}(an:leaves P d e=some l)(bg:fM P e=some l.length)(sZ:P.cellsOf e=l.length)
  (a8:∀(xs cS:Array Value) (qi qj:Nat) (x y:Value),mn l xs qi→mn l cS qj→
   zd P e xs qi l.length x→zd P e cS qj l.length y→∃r,(H7 D e x y).run P w=.ok r w∧(r=true↔∀k,k<l.length→xs[qi+k]?=cS[qj+k]?))(xs cS:Array Value):
  ∀is:List Nat,(∀i∈is,mn l xs (i*l.length)∧mn l cS (i*l.length))→
   ∃r,(Op.eqItems D e (P.cellsOf e) xs cS is).run P w=.ok r w∧(r=true↔∀i∈is,tQ xs cS (i*l.length) l.length)
 |[],_=>⟨true,by simp[Op.eqItems],by simp⟩
 |i::is,h=>by
  obtain⟨al,aZ⟩:=h i (by simp);obtain⟨xl,aB,n1⟩:=Mz an;obtain⟨x,MA,zg⟩:=H6 (w:=w) aB bg n1 al;obtain⟨y,MB,MC⟩:=H6 (w:=w) aB bg n1 aZ;obtain⟨iJ,n2,EI⟩:=a8 xs cS _ _ x y al aZ zg MC;obtain⟨tS,ia,zh⟩:=Tu an bg sZ a8 xs cS is (λ ab a'=>h ab (by simp[a']));have EJ:iJ=true↔tQ xs cS (i*l.length) l.length:=EI;simp only[sZ]at ia;simp only[Op.eqItems,sZ,dU,MA,MB,n2,ek,List.forall_mem_cons];cases iJ with
  |true=>exact⟨tS,by simp[ia],by rw[zh];simp[EJ.1 rfl]⟩
  |false=>exact⟨false,by simp,by simp only[fK,false_iff];exact λ h=>by simpa using EJ.2 h.1⟩
def H8{α:Type}(l:List α):∀(n i k:Nat),i<n→k<l.length→(cy n l).flatten[i*l.length+k]?=l[k]?
 |0,_,_,h,_=>R
 |n+1,0,k,_,az=>by simp[EK,en az]
 |n+1,i+1,k,h,az=>by
  rw[EK,s0,ha (by rw[hj];omega)];rw[←H8 l n i k R az]
  congr 1;rw[hj];omega
def MD{P:Program}:∀(d:Nat) (t:TypeId) (l:List nq),leaves P d t=some l→∀D,d≤D→∀(xs cS:Array Value) (qi qj:Nat) (x y:Value),mn l xs qi→mn l cS qj→
  zd P t xs qi l.length x→zd P t cS qj l.length y→
   ∃r,(H7 D t x y).run P w=.ok r w∧(r=true↔∀k,k<l.length→xs[qi+k]?=cS[qj+k]?)
 |0,t,l,h=>by simp[leaves]at h
 |d+1,t,l,h=>by
  intro D lS xs cS qi qj x y al aZ jr kY;obtain⟨D,rfl⟩:∃ME,D=ME+1:=⟨D-1,R⟩;have n1:=Mz h;simp only[leaves]at h;cases hu:P.underlying t with
  |none=>simp[hu]at h
  |some u=>
   simp only[hu]at h;have single:ko P t=some false→l.length=1→(xs[qi]?=some x∧cS[qj]?=some y):=by
    intro aB an;rcases jr with⟨j,_⟩|⟨_,_,j⟩
    ·rw[aB]at j;cases j
    ·rcases kY with⟨J,_⟩|⟨_,_,J⟩
     ·rw[aB]at J;cases J
     ·exact⟨j,J⟩
   cases u<;>simp at h
   case bool=>subst h;obtain⟨xm,xn⟩:=single (by simp[ko,hu]) rfl;obtain⟨lT,j,a,rfl⟩:=al 0 .bool rfl;obtain⟨xo,J,b,rfl⟩:=aZ 0 .bool rfl;simp only[fc]at j J;rw[xm]at j;rw[xn]at J;cases j;cases J;refine⟨a==b,run_equalIn_bool' w D t a b hu,?_⟩;simp[xm,xn]
   case int k=>subst h;obtain⟨xm,xn⟩:=single (by simp[ko,hu]) rfl;obtain⟨lT,j,a,rfl⟩:=al 0 _ rfl;obtain⟨xo,J,b,rfl⟩:=aZ 0 _ rfl;simp only[fc]at j J;rw[xm]at j;rw[xn]at J;cases j;cases J;refine⟨a==b,run_equalIn_int w D t k k a b hu,?_⟩;simp[xm,xn]
   case string=>subst h;obtain⟨xm,xn⟩:=single (by simp[ko,hu]) rfl;obtain⟨lT,j,a,rfl⟩:=al 0 .str rfl;obtain⟨xo,J,b,rfl⟩:=aZ 0 .str rfl;simp only[fc]at j J;rw[xm]at j;rw[xn]at J;cases j;cases J;refine⟨a.toList==b.toList,run_equalIn_string w D t a b hu,?_⟩;rw[ByteArray.toList_eq,ByteArray.toList_eq];obtain⟨⟨a⟩⟩:=a;obtain⟨⟨b⟩⟩:=b;simp[xm,xn]
   case array n e=>
    split at h
    ·rename_i c7 z hY bg;split at h
     ·rename_i MF;subst MF;simp only[bj]at h;subst h;have hlen:(cy n c7).flatten.length=n*c7.length:=by simp
      rcases jr with⟨_,cs,rfl,eX⟩|⟨j,_⟩
      case inr=>simp[ko,hu]at j
      rcases kY with⟨_,cI,rfl,lU⟩|⟨j,_⟩
      case inr=>simp[ko,hu]at j
      obtain⟨i,aA,ajs⟩:=(gJ bg w).2;have EL:P.cellsOf e=c7.length:=by simp[Program.cellsOf,aA,ajs]
      rw[hlen]at eX lU;have fQ:∀(fR:Array Value) (es:Array Value) (aj:Nat),mn (cy n c7).flatten fR aj→(∀k,k<n*c7.length→es[k]?=fR[aj+k]?)→∀i,i<n→mn c7 es (i*c7.length):=by
       intro fR es aj az he i aA k f aK;have mX:=(bF.1 aK).1;have bf:i*c7.length+k<n*c7.length:=by have:(i+1)*c7.length≤n*c7.length:=j5 _ aA;rw[hj]at this;omega
       obtain⟨x,j,J⟩:=az (i*c7.length+k) f (by rw[H8 c7 n i k aA mX];exact aK);exact⟨x,by rw[he _ bf];exact j,J⟩
      obtain⟨r,ai,EM⟩:=Tu (w:=w) hY bg EL (MD d e c7 hY D R) cs cI (hg n)
       (λ i mo=>⟨fQ xs cs qi al eX i (by simpa using mo),fQ cS cI qj aZ lU i (by simpa using mo)⟩)
      refine⟨r,by rw[run_equalIn_array w D cs cI hu aA];exact ai,?_⟩;rw[EM,hlen];constructor
      ·intro aS k az;have hS:0<c7.length:=(Nat.eq_zero_or_pos c7.length).elim (λ aV=>by rw[aV]at az;omega) id;have Tv:k/c7.length<n:=(H9 hS).2 az;have:=aS (k/c7.length) (by simpa using Tv) (k%c7.length) (EN _ hS);have MG:k/c7.length*c7.length+k%c7.length=k:=by rw[vi];exact zi _ _
       rw[MG,eX k az,lU k az]at this;exact this
      ·intro aS i mo k az;have bf:i*c7.length+k<n*c7.length:=by
        have hy:i<n:=by simpa using mo
        have:(i+1)*c7.length≤n*c7.length:=j5 _ hy;rw[hj]at this;omega
       rw[eX _ bf,lU _ bf];exact aS _ bf
     ·cases h
    ·cases h
   case struct eP=>
    obtain⟨gS,h⟩:=h;rcases jr with⟨_,cs,rfl,eX⟩|⟨j,_⟩
    case inr=>simp[ko,hu]at j
    rcases kY with⟨_,cI,rfl,lU⟩|⟨j,_⟩
    case inr=>simp[ko,hu]at j
    have fQ:∀(fR es:Array Value) (aj:Nat),mn l fR aj→(∀k,k<l.length→es[k]?=fR[aj+k]?)→mn l es 0:=by intro fR es aj az he k f aK;obtain⟨x,j,J⟩:=az k f aK;exact⟨x,by rw[cq,he _ (bF.1 aK).1];exact j,J⟩
    have xp:P.fieldsOf t=eP:=by simp[Program.fieldsOf,hu]
    obtain⟨r,ai,EM⟩:=Tt (w:=w) (D:=D) (λ t l an=>MD d t l an D R) eP.toList 0 l h cs cI (fQ _ _ _ al eX) (fQ _ _ _ aZ lU);refine⟨r,by rw[run_equalIn_struct w D t cs cI (by rw[xp];exact hu) gS,xp];exact ai,?_⟩;rw[EM];constructor
    ·intro aS k az;have:=aS k az;rw[cq,eX k az,lU k az]at this;exact this
    ·intro aS k az;rw[cq,eX k az,lU k az];exact aS k az
def Tw{l:List nq}:∀{bI:List U},oA l bI=true→bI.length=l.length∧∀(k:Nat) (f:nq),l[k]?=some f→∃a,bI[k]?=some a∧pg f a=true:=by
 induction l with
 |nil=>intro bI h;cases bI<;>simp_all [oA]
 |cons f l a8=>
  intro bI h;cases bI with
  |nil=>simp[oA]at h
  |cons a bI=>
   simp only[oA,cO]at h;obtain⟨j,J⟩:=a8 h.2;refine⟨by simp[j],λ k g aP=>?_⟩;cases k with
   |zero=>simp at aP;subst aP;exact⟨a,rfl,h.1⟩
   |succ k=>simpa using J k g (by simpa using aP)
def ajt{f:nq}{a:U}{x:Value}(h:pg f a=true)(r:a7 ad ac H a x):Ts f x:=by
 unfold pg at h;split at h
 ·rw[fz r];simp at h;subst h;exact⟨_,rfl⟩
 ·rw[fz r];exact⟨_,rfl⟩
 ·rw[qh r];exact⟨_,rfl⟩
 ·cases h
def aju{a b:U}{x y:Value}{r:Bool}(h:qP a b=some r)(ff:a7 ad ac H a x)(ib:a7 ad ac H b y):r=true↔x=y:=by
 unfold qP at h;split at h
 ·split at h
  ·cases h;rw[fz ff,fz ib];simp_all
  ·cases h
 ·cases h;rw[fz ff,fz ib];simp
 ·cases h;rw[qh ff,qh ib];simp
 ·cases h
def Tx:∀{bI mY:List U} {r:Bool},oz bI mY=some r→∀(xs cS:Nat→Value),(∀(k:Nat) (a:U),bI[k]?=some a→a7 ad ac H a (xs k))→(∀(k:Nat) (b:U),mY[k]?=some b→a7 ad ac H b (cS k))→
  (r=true↔∀k,k<bI.length→xs k=cS k)
 |[],[],r,h,xs,cS,_,_=>by simp[oz]at h;simp[←h]
 |[],_::_,r,h,xs,cS,_,_=>by simp[oz]at h
 |_::_,[],r,h,xs,cS,_,_=>by simp[oz]at h
 |a::bI,b::mY,r,h,xs,cS,aB,ak=>by
  simp only[oz]at h;split at h
  ·rename_i iJ tS j J;cases h;have ao:=aju j (aB 0 a rfl) (ak 0 b rfl);have aI:=Tx J (λ k=>xs (k+1)) (λ k=>cS (k+1)) (λ k c ah=>aB (k+1) c (by simpa using ah)) (λ k c ah=>ak (k+1) c (by simpa using ah));rw[cO,ao,aI];constructor
   ·rintro⟨aw,bb⟩ k az;cases k with
    |zero=>exact aw
    |succ k=>exact bb k (by simpa using az)
   ·intro aw;exact⟨aw 0 (by simp),λ k az=>aw (k+1) (by simpa using az)⟩
  ·cases h
def MH{P:Program}(d:Nat){t e:TypeId}(hu:P.underlying t=some (.pointer e))(a:Option Addr):
  (H7 (d+1) t (.pointer a) (.pointer none)).run P w=.ok a.isNone w:=by
 cases a<;>simp[H7,run_underlying hu]
def MI{P:Program}(op:BinOp)(t:TypeId)(aj p:Operand)(a b:Option Addr):(eqGuard op t aj p (.pointer a) (.pointer b)).run P w=.ok () w:=by cases op<;>simp[eqGuard]
def ajv{P:Program}(op:BinOp)(t:TypeId)(aj p:Operand)(k dv:IntKind)(a b:Int):(eqGuard op t aj p (.int k a) (.int dv b)).run P w=.ok () w:=by cases op<;>simp[eqGuard]
def ajw{P:Program}(op:BinOp)(t:TypeId)(aj p:Operand)(a b:ByteArray):(eqGuard op t aj p (.string a) (.string b)).run P w=.ok () w:=by cases op<;>simp[eqGuard]
def MJ{P:Program}{t:TypeId}{a b:U}{x y:Value}{r:Bool}(h:i6 P t a b=some r)(ff:a7 ad ac H a x)(ib:a7 ad ac H b y):
  (Op.equal t x y).run P w=.ok r w∧∀(op:BinOp) (aj p:Operand),(eqGuard op t aj p x y).run P w=.ok () w:=by
 unfold i6 at h;split at h
 ·rename_i bI mY;split at h
  ·cases h
  ·rename_i aP;split at h
   ·rename_i n1;split at h
    ·rename_i l an;split at h
     ·rename_i hz;obtain⟨cs,rfl,cg,xq⟩:=vh ff;obtain⟨cI,rfl,ft,Ty⟩:=vh ib;obtain⟨c7,bG⟩:=Tw hz.1;obtain⟨eS,bH⟩:=Tw hz.2;have mk:∀(fR:List U) (es:Array Value),es.size=fR.length→(∀(k:Nat) (a:U),fR[k]?=some a→a7 ad ac H a (es.getD k undef))→(∀(k:Nat) (f:nq),l[k]?=some f→∃a,fR[k]?=some a∧pg f a=true)→mn l es 0:=by intro fR es aS ai az k f aK;obtain⟨a,j,J⟩:=az k f aK;refine⟨es.getD k undef,?_,ajt J (ai k a j)⟩;rw[cq];exact getD_eq es k (by rw[aS];exact(bF.1 j).1)
      obtain⟨ht,xj,EM⟩:=MD (w:=w) 9 t l an 10000 R cs cI 0 0 (.agg cs) (.agg cI) (mk bI cs cg xq bG) (mk mY cI ft Ty bH)
       (.inl ⟨n1,cs,rfl,λ k _=>by simp⟩) (.inl ⟨n1,cI,rfl,λ k _=>by simp⟩)
      have e:=Tx h (λ k=>cs.getD k undef) (λ k=>cI.getD k undef) xq Ty;have:r=ht:=by
       rw[Bool.eq_iff_iff,e,EM,c7];constructor
       ·intro az k mX;rw[cq,getD_eq cs k R,getD_eq cI k R,az k mX]
       ·intro az k mX;have:=az k mX;rw[cq,getD_eq cs k R,getD_eq cI k R]at this;exact qf this
      rw[this];exact⟨xj,λ op aj p=>run_eqGuard_agg w op t aj p cs cI (by simpa[Mq]using aP)⟩
     ·cases h
    ·cases h
   ·cases h
 ·split at h
  ·rename_i hu;cases h;rw[fz ff,fz ib];exact⟨run_equalIn_bool' w 9999 t _ _ hu,λ op aj p=>by cases op<;>simp[eqGuard]⟩
  ·cases h
 ·split at h
  ·rename_i hu;cases h;rw[fz ib];cases ff with
   |ptr c g r k v ah ak aS aK aA av aP=>obtain⟨a,rfl⟩:=av;exact⟨MH 9999 hu (some a),λ op aj p=>MI ..⟩
  ·cases h
 ·split at h
  ·rename_i hu;cases h;rw[fz ib];cases iI ff with
   |gl=>exact⟨MH 9999 hu (some _),λ op aj p=>MI ..⟩
  ·cases h
 ·split at h
  ·rename_i hu;cases h;rw[fz ff,fz ib];exact⟨MH 9999 hu none,λ op aj p=>MI ..⟩
  ·cases h
 ·cases h
def Tz{P:Program}{t:TypeId}{a b:U}{x y:Value}{r:Bool}(h:i6 P t a b=some r)(ff:a7 ad ac H a x)(ib:a7 ad ac H b y):
  (binOp .eql t x y).run P w=.ok (.bool r) w∧(binOp .neq t x y).run P w=.ok (.bool (!r)) w:=by
 have j:=(MJ (w:=w) h ff ib).1;unfold i6 at h;split at h
 ·obtain⟨cs,rfl,_⟩:=vh ff;obtain⟨cI,rfl,_⟩:=vh ib;exact⟨by simp[binOp,j],by simp[binOp,j]⟩
 ·rw[fz ff,fz ib]at j⊢;exact⟨by simp[binOp,j],by simp[binOp,j]⟩
 ·rw[fz ib]at j⊢;cases ff with
  |ptr c g r k v ah ak aS aK aA av aP=>obtain⟨a,rfl⟩:=av;exact⟨by simp[binOp,j],by simp[binOp,j]⟩
 ·rw[fz ib]at j⊢;cases iI ff with
  |gl=>exact⟨by simp[binOp,j],by simp[binOp,j]⟩
 ·rw[fz ff,fz ib]at j⊢;exact⟨by simp[binOp,j],by simp[binOp,j]⟩
 ·cases h
def ajx{P:Program}{op:BinOp}{t:TypeId}{a b:U}{x y:Value}{v:U}(h:j1 P op t a b=some v)(ff:a7 ad ac H a x)(ib:a7 ad ac H b y)(aj p:Operand):
  ∃z,(do eqGuard op t aj p x y;binOp op t x y:Sem Value).run P w=.ok z w∧a7 ad ac H v z:=by
 unfold j1 at h;split at h
 ·rw[fz ff,fz ib];obtain⟨z,j,J⟩:=ajp (ad:=ad) (ac:=ac) (H:=H) (w:=w) h t P;refine⟨z,?_,J⟩;simp only[dU,ajv,ek,j]
 ·rw[qh ff,qh ib];obtain⟨z,j,J⟩:=ajr (ad:=ad) (ac:=ac) (H:=H) (w:=w) h t P;refine⟨z,?_,J⟩;simp only[dU,ajw,ek,j]
 ·split at h
  ·simp only[c0]at h;obtain⟨r,ai,rfl⟩:=h;exact⟨.bool r,by simp only[dU,(MJ ai ff ib).2,ek,(Tz ai ff ib).1],xh⟩
  ·simp only[c0]at h;obtain⟨r,ai,rfl⟩:=h;exact⟨.bool (!r),by simp only[dU,(MJ ai ff ib).2,ek,(Tz ai ff ib).2],xh⟩
  ·cases h
def ajy{P:Program}{op:UnOp}{a:U}{x:Value}{v:U}(h:yZ op a=some v)(ff:a7 ad ac H a x):
  ∃z,(Op.unary op x).run P w=.ok z w∧a7 ad ac H v z:=by
 unfold yZ at h;split at h
 ·cases h;rw[fz ff];exact⟨_,by simp[Op.unary,Op.intArith],mm⟩
 ·simp only[c0]at h;obtain⟨r,ai,rfl⟩:=h;rw[fz ff];exact⟨_,by simp only[Op.unary];exact Tr ai P,mm⟩
 ·cases h;rw[fz ff];exact⟨_,by simp[Op.unary],xh⟩
 ·cases h
end
section
variable{E:Env}{ad:cb}{ac:b9}{H:aa}{w:World}
def TA{n:Nat}{x v:U}{y:Value}(h:w3 n x=some v)(r:a7 ad ac H x y):∃a:Addr,y=.pointer (some a)∧a7 ad ac H v (.pointer (some (a.add n))):=by
 unfold w3 at h;split at h
 ·rename_i cells off;cases h;cases iI r with
  |gl cells aj b MK cs elem bl dB cd j J=>refine⟨_,rfl,?_⟩;rw[lk,tT];exact .i _ _ (.gl cells (off+n) b MK cs elem bl dB cd j J)
 ·rename_i c g ht k;cases h;cases r with
  |ptr c g r k v ah ak aS aK aA av aP=>
   obtain⟨a,rfl⟩:=av;refine⟨a,rfl,.ptr c g ht (k+n) _ ah ?_ ?_ ?_ ?_ ⟨_,rfl⟩ aP⟩
   ·intro cells aQ;obtain⟨b,m,j,J⟩:=ak _ aQ;cases J;exact⟨b,m,j,by rw[lk]⟩
   ·intro ay rows ex aQ;obtain⟨b,m,j,J⟩:=aS _ _ _ aQ;cases J;exact⟨b,m,j,by rw[lk,tT]⟩
   ·intro ay rows ex row aQ bZ;cases aK _ _ _ _ aQ bZ with
    |gl cells aj b MK cs elem bl dB cd j J=>rw[lk,tT];exact .gl row (k+n) b MK cs elem bl dB cd j J
   ·intro s p aQ;obtain⟨b,m,j,J⟩:=aA _ _ aQ;cases J;exact⟨b,m,j,by rw[lk]⟩
 ·rename_i c g s ht i k;cases h;cases r with
  |x k v h aK=>obtain⟨j,⟨a,rfl⟩,aw⟩:=h;refine⟨a,rfl,.x _ _ ⟨j,⟨_,rfl⟩,λ z aY dH rows aQ=>⟨(aw z aY dH rows aQ).1,λ ao aI bR ai aA=>?_⟩⟩ (.ne nofun)⟩;obtain⟨b,m,ch,cw⟩:=(aw z aY dH rows aQ).2 ao aI bR ai aA;cases cw;exact⟨b,m,ch,by rw[lk,tT]⟩
 ·cases h
def ajz{t f:Nat}{x v:U}{y:Value}{off ed z:Nat}(aK:Bh E.P t f=some (off,ed))(bg:fM E.P ed=some z)(av:0<z)
  (h:w3 off x=some v)(r:a7 ad ac H x y):∃u,(Instr.fieldAt t y f).run E.P w=.ok u w∧a7 ad ac H v u:=by
 obtain⟨eP,fd,hu,xr,rfl,rfl⟩:=Tm aK;obtain⟨a,rfl,ai⟩:=TA h r;refine⟨_,?_,ai⟩;have H_:¬z=0:=R;simp[Instr.fieldAt,run_underlying hu,xr,zc,fieldPlace,(gJ bg w).1,H_]
def TB{ay:Nat}{rows:List (List aD)}{ex:Bool}{y:Value}(h:ds ad (.ae ay rows ex) y){n:Nat}{row:List aD}(ai:rows[n]?=some row):
  ∃b off cap,y=.slice (some ⟨b,off,none⟩) rows.length cap∧ds ad (.gl row 0) (.pointer (some ⟨b,off+n*ay,none⟩)):=by
 cases h with
 |nil=>simp at ai
 |ae ay rows ex b off cap cs elem bl dB cd ah al an j J=>refine⟨b,off,cap,rfl,?_⟩;have:=ds.gl (ad:=ad) row 0 b (off+n*ay) cs elem bl (dB n) cd (λ k a aB=>j n row k a ai aB) (λ k a aB=>J n row k a ai aB);simpa using this
def ajA{t e:TypeId}{z:Nat}{n:Int}{q:cP}{k:IntKind}{v:U}{y:Value}(aS:e5 E.P t=some e)(bg:fM E.P e=some z)(h:u4 H z n q=some v)(aq:b6 E ad ac H w)(r:kX ac H q y):
  ∃u,(zj t y (.int k n)).run E.P w=.ok u w∧a7 ad ac H v u:=by
 cases q with
 |e=>cases h
 |p=>cases h
 |d c g off len=>
  obtain⟨ah,_,al⟩:=r;simp only[u4]at h;unfold HR at h;split at h
  ·rename_i db aY dH rows aQ;split at h
   ·rename_i aF;obtain⟨hA,oF,rfl,rfl⟩:=aF;cases h;obtain⟨hle,a,cap,rfl,fm⟩:=(al _ _ _ _ aQ).2 rfl;rcases fm with⟨he,_⟩|⟨b,m,he,_,_,aB⟩
    ·exfalso;rcases aq.b7 _ _ aQ with⟨_,bb⟩|⟨b,_,_,_,bb,_⟩
     ·subst bb;simp at hle;omega
     ·rw[he]at bb;cases bb
    ·rcases aB with rfl|⟨aV,_⟩
     ·refine⟨.pointer (some ⟨b,off+n.toNat*1,none⟩),by simp[zj,asIntOf,run_underlying (h' aS),hA,oF,(gJ bg w).1,lk],?_⟩;rw[H'];refine .x _ _ ⟨ah,⟨_,rfl⟩,λ z2 g2 s2 c9 oG=>?_⟩ (.ne nofun);rw[aQ]at oG;cases oG;exact⟨cQ _,λ _=>⟨b,m,he,rfl⟩⟩
     ·omega
   ·cases h
  ·cases h
 |h c g s r=>
  obtain⟨ah,_,al⟩:=r;simp only[u4]at h;unfold El at h;split at h
  ·rename_i db aY dH rows aQ;split at h
   ·rename_i aF;obtain⟨rfl,rfl,rfl,hA⟩:=aF;split at h
    ·rename_i bR ai;split at h
     ·rename_i bf;cases h;rcases(al _ _ _ _ aQ).2 rfl rfl _ ai with⟨rfl,_⟩|⟨b,m,he,cap,rfl,gL,fq⟩
      ·simp at bf
      ·refine⟨.pointer (some ⟨b,0+n.toNat*z,none⟩),by simp[zj,asIntOf,run_underlying (h' aS),hA,show n<bR.length by omega,(gJ bg w).1,lk],?_⟩;refine .x _ _ ⟨ah,⟨_,rfl⟩,λ z2 g2 s2 c9 oG=>?_⟩ (.ne nofun);rw[aQ]at oG;cases oG;refine⟨.inr ⟨rfl,cQ _⟩,λ _ _ aRb ia _=>?_⟩;exact⟨b,m,he,by rw[cq,fc]⟩
     ·cases h
    ·cases h
   ·cases h
  ·cases h
def ajB{t:TypeId}{x jB v:U}{y ab:Value}(h:Bi E H t x jB=some v)(aq:b6 E ad ac H w)(r:a7 ad ac H x y)(Ia:a7 ad ac H jB ab):
  ∃u,(zj t y ab).run E.P w=.ok u w∧a7 ad ac H v u:=by
 unfold Bi at h;split at h
 ·rename_i k n;rw[fz Ia];split at h
  ·rename_i len e _ aB;split at h
   ·rename_i z bg;split at h
    ·rename_i aF;obtain⟨a,rfl,ai⟩:=TA h r;refine⟨_,?_,ai⟩;simp[zj,asIntOf,run_underlying (H3 aB),zc,aF,(gJ bg w).1]
    ·cases h
   ·cases h
  ·rename_i e _ aS;split at h
   ·rename_i z ay rows ex bg;split at h
    ·rename_i aF;obtain⟨hA,rfl⟩:=aF;split at h
     ·rename_i row bZ;cases h;obtain⟨b,off,cap,rfl,av⟩:=TB (iI r) bZ;have bf:n<rows.length:=by have:=(bF.1 bZ).1;omega
      refine⟨_,?_,.i _ _ av⟩;simp[zj,asIntOf,run_underlying (h' aS),hA,bf,(gJ bg w).1,lk]
     ·cases h
    ·cases h
   ·rename_i z c g off len bg;split at h
    ·rename_i ay aY rows ex aQ;split at h
     ·rename_i aF;obtain⟨hA,oF,rfl,rfl⟩:=aF;cases h;cases r with
      |ref c g off len v ah po aK av aP=>
       obtain⟨hle,a,cap,rfl,fm⟩:=po _ _ _ aQ;rcases fm with⟨he,_⟩|⟨b,m,he,_,_,aB⟩
       ·exfalso;obtain⟨_,_,aw⟩:=aq.b7 _ _ aQ;rcases aw with⟨_,bb⟩|⟨b,_,_,_,bb,_⟩
        ·subst bb;simp at hle;omega
        ·rw[he]at bb;cases bb
       ·rcases aB with rfl|⟨aV,_⟩
        ·refine⟨.pointer (some ⟨b,off*ay+n.toNat*ay,none⟩),by simp[zj,asIntOf,run_underlying (h' aS),hA,oF,(gJ bg w).1,lk],?_⟩;refine .ptr c g (off+n.toNat) 0 _ ah ?_ ?_ ?_ ?_ ⟨_,rfl⟩ aP
         ·intro cells h;rw[aQ]at h;cases h
         ·intro h_ c9 hK h;rw[aQ]at h;cases h;exact⟨b,m,he,by rw[hj,fc]⟩
         ·intro _ _ _ _ h;rw[aQ]at h;cases h
         ·intro _ _ h;rw[aQ]at h;cases h
        ·omega
     ·cases h
    ·rename_i ay aY rows ex aQ;split at h
     ·rename_i aF;obtain⟨hA,oF,rfl,rfl⟩:=aF;cases h;cases r with
      |ref c g off len v ah po aK av aP=>
       obtain⟨hle,ajC⟩:=aK _ _ _ aQ;have bf:off+n.toNat<rows.length:=R;have bZ:((rows.drop off).take len)[n.toNat]?=some rows[off+n.toNat]:=by rw[nZ,if_pos R,q5,eT bf]
       obtain⟨b,aj,cap,rfl,BD⟩:=TB ajC bZ;have hlen:((rows.drop off).take len).length=len:=by simp;omega
       rw[hlen]at*;refine⟨.pointer (some ⟨b,aj+n.toNat*ay,none⟩),by simp[zj,asIntOf,run_underlying (h' aS),hA,oF,(gJ bg w).1,lk],?_⟩;refine .ptr c g (off+n.toNat) 0 _ ah ?_ ?_ ?_ ?_ ⟨_,rfl⟩ aP
       ·intro cells h;rw[aQ]at h;cases h
       ·intro h_ c9 hK h;rw[aQ]at h;cases h
       ·intro h_ c9 hK row h ai;rw[aQ]at h;cases h;rw[eT bf]at ai;cases ai;exact BD
       ·intro _ _ h;rw[aQ]at h;cases h
     ·cases h
    ·cases h
   ·rename_i z dv bg;cases r with
    |x k v ai aK=>exact ajA aS bg h aq ai
   ·cases h
  ·cases h
 ·cases h
def TC{cells m:List U}{cs:Array Value}{off z:Nat}(an:cs.size=cells.length)(ai:∀(k:Nat) (a:U),cells[k]?=some a→a7 ad ac H a (cs.getD k undef))
  (h:take cells off z=some m):a7 ad ac H (.agg m) (.agg (cs.extract off (off+z))):=by
 obtain⟨j,J⟩:=To h;have hle:off+z≤cells.length:=by
  unfold take at h;split at h
  ·assumption
  ·cases h
 refine .agg _ _ (by simp;omega) λ k a aB=>?_
 have az:k<z:=by rw[←j];exact(bF.1 aB).1
 obtain⟨bY,aw,bb⟩:=J k az;rw[aB]at aw;cases aw;have:=ai _ _ bb;have e:(cs.extract off (off+z)).getD k undef=cs.getD (off+k) undef:=by simp only[dp,Array.getElem?_extract];rw[if_pos R]
 rw[e];exact this
def ajD{t:TypeId}{x jB v:U}{y ab:Value}(h:Bj E t x jB=some v)(r:a7 ad ac H x y)(Ia:a7 ad ac H jB ab):
  ∃u,(Instr.index t y ab).run E.P w=.ok u w∧a7 ad ac H v u:=by
 unfold Bj at h;split at h
 ·rename_i l k n;rw[fz Ia,qh r];split at h
  ·rename_i aF;simp only[c0]at h;obtain⟨b,ak,rfl⟩:=h;refine⟨.int .u8 b.toNat,?_,mm⟩;have:(⟨⟨l⟩⟩:ByteArray)[n.toNat]?=some b:=by
    have bf:=(bF.1 ak).1;have bi:=(bF.1 ak).2;rw[getElem?_pos _ _ (by simpa[size_mk]using bf)]
    congr 1
   simp[Instr.index,asIntOf,run_underlying (se aF.2),aF.1,this]
  ·cases h
 ·rename_i cells k n;rw[fz Ia];obtain⟨cs,rfl,an,ai⟩:=vh r;split at h
  ·rename_i len e aB;split at h
   ·rename_i z bg n1;split at h
    ·rename_i aF;simp only[c0]at h;obtain⟨m,hm,rfl⟩:=h;refine⟨_,?_,TC an ai hm⟩;simp[Instr.index,asIntOf,run_underlying (H3 aB),aF,(gJ bg w).1,part,xi n1]
    ·cases h
   ·rename_i z bg n1;split at h
    ·rename_i aF;have bf:=(bF.1 h).1;refine⟨_,?_,ai _ _ h⟩;simp only[Instr.index,asIntOf,dU,eL,ek,run_underlying (H3 aB),aF,if_true,Sem.run_ite,(gJ bg w).1,part,xi n1,and_self];simp only[fK,if_false];rw[getD_eq cs _ R];simp
    ·cases h
   ·cases h
  ·cases h
 ·cases h
def ajE{t:TypeId}{f:Nat}{x v:U}{y:Value}(h:HS E t x f=some v)(r:a7 ad ac H x y):
  ∃u,(Instr.field t y f).run E.P w=.ok u w∧a7 ad ac H v u:=by
 unfold HS at h;split at h
 ·rename_i cells off ed aK;obtain⟨eP,fd,hu,xr,rfl,rfl⟩:=Tm aK;obtain⟨cs,rfl,an,ai⟩:=vh r;split at h
  ·rename_i z bg n1;simp only[c0]at h;obtain⟨m,hm,rfl⟩:=h;exact⟨_,by simp[Instr.field,run_underlying hu,xr,asAgg,part,xi n1,(gJ bg w).1],TC an ai hm⟩
  ·rename_i z bg n1;have bf:=(bF.1 h).1;refine⟨_,?_,ai _ _ h⟩;simp only[Instr.field,dU,run_underlying hu,ek,xr,asAgg,eL,part,xi n1,fK,if_false,Sem.run_ite];rw[getD_eq cs _ R];simp
  ·cases h
 ·cases h
end
section
variable{E:Env}{ad:cb}{ac:b9}{H:aa}{w:World}
inductive tU (ad:cb) (ac:b9) (H:aa):Option U→Option Value→Prop
 |none:tU ad ac H none none
 |some (a:U) (v:Value) (h:a7 ad ac H a v):tU ad ac H (some a) (some v)
def BH{I:Fr}{a:Act}(aq:b6 E ad ac H w)(aK:e1 ad ac H I a.tmps)(x:Option Operand):tU ad ac H (x.map (bo E I)) (x.map a.eval):=by
 cases x with
 |none=>exact .none
 |some x=>exact .some _ _ (eK aq aK x)
def vj{P:Program}{d l:Nat}{aj:U}{v:Value}(h:fV d (some aj)=some l)(r:a7 ad ac H aj v)(y:Nat)(code:BoundsCode)(an:l≤y):(Instr.sliceBound v y code).run P w=.ok l w:=by
 unfold fV at h;split at h
 ·rename_i h9;cases h9
 ·rename_i k n h9;cases h9;split at h
  ·rename_i aF;cases h;rw[fz r];have:n≤y:=R;simp[Instr.sliceBound,asIntOf,aF,this]
  ·cases h
 ·cases h
def EO{P:Program}{BI:Bool}{len cap l h:Nat}{bU aA:Option U}{xt mo:Option Value}(mq:fV 0 bU=some l)(mZ:fV len aA=some h)
  (d_:tU ad ac H bU xt)(q6:tU ad ac H aA mo)(EP:l≤h)(ah:h≤cap):
  (zk BI len cap xt mo none).run P w=.ok (l,h,cap) w:=by
 cases d_ with
 |none=>
  simp only[fV,bj]at mq;cases q6 with
  |none=>simp only[fV,bj]at mZ;simp[zk,mq,mZ]
  |some a v r=>simp[zk,mq,vj mZ r _ _ ah]
 |some b u s=>
  cases q6 with
  |none=>simp only[fV,bj]at mZ;subst mZ;simp[zk,vj mq s _ _ EP]
  |some a v r=>simp[zk,vj mZ r _ _ ah,vj mq s _ _ EP]
def ML{P:Program}{len cap l h:Nat}{bU aA:Option U}{m:U}{xt mo:Option Value}{b1:Value}(mq:fV 0 bU=some l)(mZ:fV len aA=some h)(hm:fV 0 (some m)=some h)
  (d_:tU ad ac H bU xt)(q6:tU ad ac H aA mo)(q7:a7 ad ac H m b1)(EP:l≤h)(ah:h≤cap)(aF:aA.isSome=true):
  (zk true len cap xt mo (some b1)).run P w=.ok (l,h,h) w:=by
 cases q6 with
 |none=>cases aF
 |some a v r=>
  cases d_ with
  |none=>simp only[fV,bj]at mq;simp[zk,mq,vj hm q7 _ _ ah,vj mZ r _ _ (cQ h)]
  |some b u s=>simp[zk,vj hm q7 _ _ ah,vj mZ r _ _ (cQ h),vj mq s _ _ EP]
def extract_mk(s:List UInt8)(l h:Nat):(⟨⟨s⟩⟩:ByteArray).extract l h=⟨⟨(s.drop l).take (h-l)⟩⟩:=by apply ByteArray.ext;simp only[ByteArray.data_extract];apply Array.ext';simp[List.extract_eq_take_drop]
def Ib{ay l h m:Nat}{rows:List (List aD)}{ex gd:Bool}{a:Option Addr}{n cap size:Nat}(r:ds ad (.ae ay rows ex) (.slice a n cap))(EP:l≤h)(aF:h≤rows.length)(hm:h≤m)(aRc:m≤cap)
  (ey:rows=[]∨size=ay)(hex:gd=true→m=h∨(ex=true∧h=rows.length∧m=cap)):
  ds ad (.ae ay ((rows.drop l).take (h-l)) gd) (.slice (if m=l then a else a.map (·.add (l*size))) (h-l) (m-l)):=by
 have TD:gd=true→m=h:=by
  intro he;rcases hex he with j|⟨j,J,aw⟩
  ·exact j
  ·cases r with
   |nil ay ex a cap al=>have:=al j;omega
   |ae ay rows ex b off cap cs elem bl dB cd ah al ai bb bu=>have:=al j;omega
 by_cases aO:h=l
 ·subst aO;have:(rows.drop h).take (h-h)=[]:=by simp
  rw[this,qk];exact .nil _ _ _ _ (λ he=>by have:=TD he;omega)
 ·have an:l<h:=R;have gp:m≠l:=R;have hlen:((rows.drop l).take (h-l)).length=h-l:=by simp;omega
  cases r with
  |nil=>simp at aF;omega
  |ae ay rows ex b off cap cs elem bl dB cd ah al ai j J=>
   have zl:size=ay:=ey.elim (λ e=>by subst e;simp at aF;omega) id;subst zl;rw[if_neg gp];have gt:∀(i:Nat) (r:List aD),((rows.drop l).take (h-l))[i]?=some r→rows[l+i]?=some r:=by
    intro i r aA;rw[nZ]at aA;split at aA
    ·rwa [q5]at aA
    ·cases aA
   have:=ds.ae (ad:=ad) size ((rows.drop l).take (h-l)) gd b (off+l*size) (m-l) cs elem bl (λ i k=>dB (l+i) k) cd R (λ he=>by have:=TD he;omega)
    (λ i r aA=>ai _ _ (gt i r aA))
    (λ i r k a aA aB=>by have:=j _ _ _ _ (gt i r aA) aB;rw[←this];congr 1;rw[hj];omega)
    (λ i r k a aA aB=>J _ _ _ _ (gt i r aA) aB)
   rw[hlen]at this;simpa[lk]using this
def TE{t:TypeId}{x v:U}{y:Value}{bU aA kQ:Option U}{xt mo TF:Option Value}(h:j2 E H t x bU aA kQ=some v)(aq:b6 E ad ac H w)(r:a7 ad ac H x y)
  (d_:tU ad ac H bU xt)(q6:tU ad ac H aA mo)(q7:tU ad ac H kQ TF):
  ∃u,(vk t y xt mo TF).run E.P w=.ok u w∧a7 ad ac H v u:=by
 unfold j2 at h;split at h
 ·cases h
 rename_i n hlen;split at h;rotate_left
 ·cases h
 rename_i l aO mq mZ;split at h;rotate_left
 ·cases h
 rename_i hle;obtain⟨hY,hx⟩:=hle;split at h
 ·rename_i s;split at h
  ·rename_i ah;cases h;rw[qh r];cases q7 with
   |some=>simp at ah
   |none=>simp only[ph,bj]at hlen;refine⟨.string ⟨⟨(s.drop l).take (aO-l)⟩⟩,?_,BB⟩;have hu:=se ah.2;have ak:=EO (P:=E.P) (w:=w) (BI:=false) (cap:=(⟨⟨s⟩⟩:ByteArray).size) mq (by rw[←hlen]at mZ;exact mZ) d_ q6 hY (by rw[size_mk];omega);simp only[vk,dU,run_underlying hu,ek,zm,Option.isSome_none,fK,if_false,eL];rw[show(⟨⟨s⟩⟩:ByteArray).size=s.length from rfl]at ak⊢;simp[ak,extract_mk]
  ·cases h
 ·rename_i ay rows ex;split at h
  ·rename_i e aS;have hu:=h' aS;simp only[ph,bj]at hlen;subst hlen;have lV:=iI r;have zn:∃a cap,y=.slice a rows.length cap∧rows.length≤cap:=by
    cases lV with
    |nil ay ex a cap al=>exact⟨a,cap,rfl,by simp⟩
    |ae ay rows ex b off cap cs elem bl dB cd ah al ai j J=>exact⟨_,cap,rfl,ah⟩
   obtain⟨a,cap,rfl,j7⟩:=zn;split at h;rotate_left
   ·cases h
   rename_i size bg;have Ic:=(gJ bg w).1;split at h
   ·rename_i Ie;split at h
    ·cases h;cases q7 with
     |none=>
      have ak:=EO (P:=E.P) (w:=w) (BI:=true) (cap:=cap) mq mZ d_ q6 hY R;refine⟨_,?_,.i _ _ (Ib (m:=cap) (size:=size) lV hY hx R (cQ _) Ie λ he=>?_)⟩
      ·simp[vk,run_underlying hu,zm,ak,Ic]
      ·simp only[cO,decide_eq_true_eq]at he;exact .inr ⟨he.1,he.2,rfl⟩
    ·rename_i m;split at h
     ·rename_i b1 hm;split at h
      ·rename_i gq;cases h;obtain rfl:=gq.1;cases q7 with
       |some bY hi ht=>have ak:=ML (P:=E.P) (w:=w) (cap:=cap) mq mZ hm d_ q6 ht hY R gq.2;refine⟨_,?_,.i _ _ (Ib (m:=aO) (size:=size) lV hY hx (cQ _) R Ie λ _=>.inl rfl)⟩;simp[vk,run_underlying hu,zm,ak,Ic]
      ·cases h
     ·cases h
   ·cases h
  ·cases h
 ·rename_i c g off len;simp only[ph,bj]at hlen;subst hlen;split at h
  ·rename_i e ay aY rows ex aS aQ;have hu:=h' aS;split at h
   ·rename_i ah;obtain⟨rfl,bg⟩:=ah;cases r with
    |ref c g off len v cg po aK av aP=>
     obtain⟨hle,a,cap,rfl,fm⟩:=po _ _ _ aQ;have j7:len≤cap:=by
      rcases fm with⟨he,gf⟩|⟨b,m,he,j,_,_⟩
      ·obtain⟨_,_,aw⟩:=aq.b7 _ _ aQ;rcases aw with⟨_,bb⟩|⟨b,_,_,_,bb,_⟩
       ·subst bb;simp at hle;omega
       ·rw[he]at bb;cases bb
      ·omega
     split at h
     ·cases h;cases q7 with
      |none=>
       have ak:=EO (P:=E.P) (w:=w) (BI:=true) (cap:=cap) mq mZ d_ q6 hY R;refine⟨.slice (if cap=l then a else a.map (·.add (l*ay))) (aO-l) (cap-l),by simp[vk,run_underlying hu,zm,ak,(gJ bg w).1],?_⟩;refine .ref c g (off+l) (aO-l) _ cg ?_ ?_ ⟨_,_,rfl⟩ aP
       ·intro h_ c9 hK h;rw[aQ]at h;cases h;refine⟨R,_,_,rfl,?_⟩;rcases fm with⟨he,gf⟩|⟨b,m,he,j,J,aw⟩
        ·exact .inl ⟨he,R⟩
        ·refine .inr ⟨b,m,he,R,by rw[show off+l+(cap-l)=off+cap by omega];exact J,?_⟩;by_cases xu:cap=l
         ·right;omega
         ·rw[if_neg xu];rcases aw with rfl|⟨bb,bu⟩
          ·left;simp[lk,hj]
          ·right;omega
       ·intro _ _ _ h;rw[aQ]at h;cases h
     ·rename_i aRd;split at h
      ·rename_i b1 hm;split at h
       ·rename_i gq;cases h;obtain rfl:=gq.1;cases q7 with
        |some bY hi ht=>
         have ak:=ML (P:=E.P) (w:=w) (cap:=cap) mq mZ hm d_ q6 ht hY R gq.2;refine⟨.slice (if aO=l then a else a.map (·.add (l*ay))) (aO-l) (aO-l),by simp[vk,run_underlying hu,zm,ak,(gJ bg w).1],?_⟩;refine .ref c g (off+l) (aO-l) _ cg ?_ ?_ ⟨_,_,rfl⟩ aP
         ·intro h_ c9 hK h;rw[aQ]at h;cases h;refine⟨R,_,_,rfl,?_⟩;rcases fm with⟨he,gf⟩|⟨b,m,he,j,J,aw⟩
          ·exact .inl ⟨he,R⟩
          ·refine .inr ⟨b,m,he,R,sd (j5 _ R) J,?_⟩;by_cases xu:aO=l
           ·right;omega
           ·rw[if_neg xu];rcases aw with rfl|⟨bb,bu⟩
            ·left;simp[lk,hj]
            ·right;omega
         ·intro _ _ _ h;rw[aQ]at h;cases h
       ·cases h
      ·cases h
   ·cases h
  ·rename_i e ay aY rows ex aS aQ;have hu:=h' aS;split at h
   ·rename_i ah;obtain⟨rfl,bg,aRe⟩:=ah;cases r with
    |ref c g off len v cg po aK av aP=>
     obtain⟨hle,lV⟩:=aK _ _ _ aQ;have BJ:((rows.drop off).take len).length=len:=by simp;omega
     have zn:∃a cap,y=.slice a len cap∧len≤cap:=by
      cases al:y with
      |slice a n cap=>
       rw[al]at lV;have:n=len∧len≤cap:=by
        generalize aRf:(rows.drop off).take len=fX at lV BJ;cases lV with
        |nil ay ex a cap al=>simp at BJ;omega
        |ae ay rows ex b off cap cs elem bl dB cd ah al ai j J=>omega
       exact⟨a,cap,by rw[this.1],this.2⟩
      |_=>obtain⟨a,m,aV⟩:=av;rw[al]at aV;cases aV
     obtain⟨a,cap,rfl,j7⟩:=zn;have aI:(((rows.drop off).take len).drop l).take (aO-l)=(rows.drop (off+l)).take (aO-l):=by
      rw[List.drop_take,List.take_take,If]
      congr 1;omega
     split at h
     ·cases h;cases q7 with
      |none=>
       have ak:=EO (P:=E.P) (w:=w) (BI:=true) (cap:=cap) mq mZ d_ q6 hY R;have av:=Ib (m:=cap) (size:=ay) (gd:=ex &&decide (off+aO=rows.length)) lV hY R R (cQ _) (.inr rfl) λ he=>by simp only[cO,decide_eq_true_eq]at he;refine .inr ⟨?_,R,rfl⟩;simp only[cO,decide_eq_true_eq];exact⟨he.1,R⟩
       rw[aI]at av;exact⟨_,by simp[vk,run_underlying hu,zm,ak,(gJ bg w).1],.i _ _ av⟩
     ·rename_i m;split at h
      ·rename_i b1 hm;split at h
       ·rename_i gq;cases h;obtain rfl:=gq.1;cases q7 with
        |some bY hi ht=>
         have ak:=ML (P:=E.P) (w:=w) (cap:=cap) mq mZ hm d_ q6 ht hY R gq.2;have av:=Ib (m:=aO) (size:=ay) (gd:=true) lV hY R (cQ _) R (.inr rfl) λ _=>.inl rfl
         rw[aI]at av;exact⟨_,by simp[vk,run_underlying hu,zm,ak,(gJ bg w).1],.i _ _ av⟩
       ·cases h
      ·cases h
   ·cases h
  ·cases h
 ·rename_i c g off len;simp only[ph,bj]at hlen;subst hlen;split at h;rotate_left
  ·cases h
  rename_i ajF;unfold Mr at h;split at h;rotate_left
  ·cases h
  rename_i z aY s rows ey aQ;split at h;rotate_left
  ·cases h
  rename_i aP;subst aP;cases h;cases q7 with
  |some=>simp at ajF
  |none=>
   simp only[BK]at ey;obtain⟨e,ajG,bg⟩:=ey;have hu:=h' ajG;cases r with
   |x k v ai aK=>
    obtain⟨cg,_,al⟩:=ai;obtain⟨hle,a,cap,rfl,fm⟩:=(al _ _ _ _ aQ).2 rfl;have j7:len≤cap:=by
     rcases fm with⟨he,gf⟩|⟨b,m,he,j,_,_⟩
     ·rcases aq.b7 _ _ aQ with⟨_,bb⟩|⟨b,_,_,_,bb,_⟩
      ·subst bb;simp at hle;omega
      ·rw[he]at bb;cases bb
     ·omega
    have ak:=EO (P:=E.P) (w:=w) (BI:=true) (cap:=cap) mq mZ d_ q6 hY R;refine⟨.slice (if cap=l then a else a.map (·.add (l*1))) (aO-l) (cap-l),by simp[vk,run_underlying hu,zm,ak,(gJ bg w).1],?_⟩;refine .x _ _ ⟨cg,⟨_,_,rfl⟩,λ z2 g2 s2 c9 oG=>?_⟩ (.ax aQ);rw[aQ]at oG;cases oG;refine⟨cQ _,λ _=>⟨R,_,_,rfl,?_⟩⟩;rcases fm with⟨he,gf⟩|⟨b,m,he,j,J,aw⟩
    ·exact .inl ⟨he,R⟩
    ·refine .inr ⟨b,m,he,R,R,?_⟩;by_cases xu:cap=l
     ·right;omega
     ·rw[if_neg xu];rcases aw with rfl|⟨bb,bu⟩
      ·left;simp[lk]
      ·right;omega
 ·cases h
def EQ{ay:Nat}{rows:List (List aD)}{ex:Bool}{y:Value}(h:ds ad (.ae ay rows ex) y):∃a cap,y=.slice a rows.length cap:=by
 cases h with
 |nil=>exact⟨_,_,rfl⟩
 |ae=>exact⟨_,_,rfl⟩
def MM{c g off len:Nat}{y:Value}(r:a7 ad ac H (.ref c g off len) y):∃a cap,y=.slice a len cap:=by cases r;assumption
def ajH{s d:TypeId}{x v:U}{y:Value}(h:mP E s d x=some v)(r:a7 ad ac H x y):∃u,(convert s d y).run E.P w=.ok u w∧a7 ad ac H v u:=by
 unfold mP at h;split at h
 ·rename_i k n;rw[fz r];split at h
  ·rename_i b dv ak az;cases h;have aS:∃cI,E.P.underlying s=some cI:=by simp only[ko,c0]at ak;obtain⟨cI,lU,_⟩:=ak;exact⟨cI,lU⟩
   obtain⟨cI,lU⟩:=aS;exact⟨_,by simp[convert,run_underlying lU,run_underlying (BC az),Conv.intToInt],mm⟩
  ·rename_i b ak az;split at h
   ·rename_i aM;cases h;have aS:∃cI,E.P.underlying s=some cI:=by simp only[ko,c0]at ak;obtain⟨cI,lU,_⟩:=ak;exact⟨cI,lU⟩
    obtain⟨cI,lU⟩:=aS;exact⟨.string (HT n),by simp[convert,run_underlying lU,run_underlying (se aM),Conv.intToString],by
     have:=BB (ad:=ad) (ac:=ac) (H:=H) (l:=(HT n).data.toList);exact this⟩
   ·cases h
  ·cases h
 ·split at h
  ·rename_i ah;cases h;rw[qh r];exact⟨_,by simp[convert,run_underlying (se ah.1),run_underlying (se ah.2)],BB⟩
  ·cases h
 ·cases h
def ajI{a b v:U}{x y:Value}(P:Program)(h:Em a b=some v)(ff:a7 ad ac H a x)(ib:a7 ad ac H b y):∃u,(Builtin.max2 x y).run P w=.ok u w∧a7 ad ac H v u:=by
 unfold Em at h;split at h
 ·rename_i k a dv b;cases h;rw[fz ff,fz ib];refine⟨.int k (max a b),?_,mm⟩;have:(if b>a then b else a)=max a b:=R;simp only[Builtin.max2,eL,this]
 ·cases h
def ajJ{a b v:U}{x y:Value}(P:Program)(h:En a b=some v)(ff:a7 ad ac H a x)(ib:a7 ad ac H b y):∃u,(Builtin.min2 x y).run P w=.ok u w∧a7 ad ac H v u:=by
 unfold En at h;split at h
 ·rename_i k a dv b;cases h;rw[fz ff,fz ib];refine⟨.int k (min a b),?_,mm⟩;have:(if b<a then b else a)=min a b:=R;simp only[Builtin.min2,eL,this]
 ·cases h
def TG(f:U→U→Option U):∀l:List U,l.foldl (λ acc x=>match acc with|some y=>f y x|none=>none) none=none
 |[]=>rfl
 |_::l=>TG f l
def TH(P:Program){f:U→U→Option U}{g:Value→Value→Sem Value}(Ig:∀{a b v:U} {x y:Value},f a b=some v→a7 ad ac H a x→a7 ad ac H b y→∃u,(g x y).run P w=.ok u w∧a7 ad ac H v u):
  ∀(l:List U) (m:List Value) (a v:U) (x:Value),l.length=m.length→(∀(k:Nat) (b:U) (y:Value),l[k]?=some b→m[k]?=some y→a7 ad ac H b y)→a7 ad ac H a x→
   l.foldl (λ acc x=>match acc with|some y=>f y x|none=>none) (some a)=some v→∃u,(m.foldlM g x).run P w=.ok u w∧a7 ad ac H v u
 |[],[],a,v,x,_,_,ff,h=>by simp at h;subst h;exact⟨x,by simp,ff⟩
 |[],_::_,_,_,_,h,_,_,_=>by simp at h
 |_::_,[],_,_,_,h,_,_,_=>by simp at h
 |b::l,y::m,a,v,x,an,ai,ff,h=>by
  simp only[zo]at h;cases aK:f a b with
  |none=>rw[aK,TG]at h;cases h
  |some c=>rw[aK]at h;obtain⟨u,hu,ajK⟩:=Ig aK ff (ai 0 b y rfl rfl);obtain⟨z,bg,ln⟩:=TH P Ig l m c v u (by simpa using an) (λ k b y j J=>ai (k+1) b y (by simpa using j) (by simpa using J)) ajK h;exact⟨z,by simp[List.foldlM_cons,hu,bg],ln⟩
def tV{a:U}{y:Value}(r:a7 ad ac H a y)(b':(cA a).all one=true):
  y.cells.size=(cA a).length∧(∀(k:Nat) (c:U),(cA a)[k]?=some c→a7 ad ac H c (y.cells.getD k undef))∧∀k,k<y.cells.size→(y.cells.getD k undef).oneCell'=true:=by
 have key:∀a,one a=true→a7 ad ac H a y→(y.cells.size=1∧(∀(k:Nat) (c:U),[a][k]?=some c→a7 ad ac H c (y.cells.getD k undef))∧∀k,k<y.cells.size→(y.cells.getD k undef).oneCell'=true):=by
  intro a j r;have aZ:=H2 r j;have:y.cells=#[y]:=by cases y<;>simp_all [sg,MN]
  rw[this];refine⟨rfl,λ k c ah=>?_,λ k az=>?_⟩
  ·cases k with
   |zero=>simp at ah;subst ah;simpa using r
   |succ k=>simp at ah
  ·simp at az;subst az;simpa using aZ
 cases a with
 |agg cells=>obtain⟨cs,rfl,j,J⟩:=vh r;refine⟨j,J,λ k az=>?_⟩;simp only[sg]at az;have bf:k<cells.length:=R;have aw:=J k cells[k] (by simp[bf]);simp only[cA,oH]at b';exact H2 aw (b' _ (mr bf))
 |dead=>simp[cA,one]at b'
 |be=>simp[cA,one]at b'
 |i x=>exact key _ (by simpa[cA]using b') r
 |ref=>exact key _ (by simpa[cA]using b') r
 |ptr=>exact key _ (by simpa[cA]using b') r
 |dA=>exact key _ (by simpa[cA]using b') r
 |x=>exact key _ (by simpa[cA]using b') r
 |aR=>exact key _ (by simpa[cA]using b') r
def tW(ad:cb)(ac:b9)(H:aa)(cells:List U)(cs:Array Value):Prop:=cs.size=cells.length∧∀(k:Nat) (a:U),cells[k]?=some a→a7 ad ac H a (cs.getD k undef)
def TI(off:Nat):∀(vs:List Value) (ab:Nat) (cs:Array Value),off+ab+vs.length≤cs.size→
  ((vs.zipIdx ab).foldl (λ cs (p:Value×Nat)=>cs.setIfInBounds (off+p.2) p.1) cs).size=cs.size∧
  ∀k,((vs.zipIdx ab).foldl (λ cs (p:Value×Nat)=>cs.setIfInBounds (off+p.2) p.1) cs)[k]?=if off+ab≤k∧k<off+ab+vs.length then vs[k-(off+ab)]? else cs[k]?
 |[],ab,cs,_=>by simp;intro k j J;omega
 |v::vs,ab,cs,h=>by
  simp only[cT]at h;simp only[List.zipIdx_cons,zo];obtain⟨j,J⟩:=TI off vs (ab+1) (cs.setIfInBounds (off+ab) v) (by rw[Array.size_setIfInBounds];omega);refine⟨by rw[j];simp,λ k=>?_⟩;rw[J];by_cases az:k=off+ab
  ·subst az;rw[if_neg R,if_pos (by constructor<;>simp)];have:off+ab<cs.size:=R;simp[this]
  ·by_cases ai:off+(ab+1)≤k∧k<off+(ab+1)+vs.length
   ·rw[if_pos ai,if_pos (by simp;omega)];rw[show k-(off+ab)=(k-(off+(ab+1)))+1 by omega];simp
   ·rw[if_neg ai,if_neg (by simp;omega)];rw[Array.getElem?_setIfInBounds_ne R]
def ajL(vs cs:Array Value)(off:Nat):vs.zipIdx.foldl (λ cs (c,ab)=>cs.setIfInBounds (off+ab) c) cs=(vs.toList.zipIdx 0).foldl (λ cs (p:Value×Nat)=>cs.setIfInBounds (off+p.2) p.1) cs:=by rw[←Array.foldl_toList,Array.toList_zipIdx]
def TJ{l new:List U}{k ab:Nat}(h:k+new.length≤l.length):(pi l k new)[ab]?=if k≤ab∧ab<k+new.length then new[ab-k]? else l[ab]?:=by
 unfold pi;by_cases j:ab<k
 ·rw[if_neg R,dV,en (by simp;omega),nZ,if_pos j]
 ·by_cases J:ab<k+new.length
  ·rw[if_pos R,dV,ha (by simp;omega),en (by simp;omega)]
   congr 1;simp;omega
  ·rw[if_neg R,dV,ha (by simp;omega),ha (by simp;omega),q5]
   congr 1;simp;omega
def MO{l new:List U}{k:Nat}(h:k+new.length≤l.length):(pi l k new).length=l.length:=by unfold pi;simp;omega
def TK{cells:List U}{cs:Array Value}(ah:tW ad ac H cells cs){a:U}{y:Value}(r:a7 ad ac H a y)(b':(cA a).all one=true){off:Nat}(hle:off+(cA a).length≤cells.length):
  tW ad ac H (pi cells off (cA a)) (y.cells.zipIdx.foldl (λ cs (c,ab)=>cs.setIfInBounds (off+ab) c) cs):=by
 obtain⟨j,J,_⟩:=tV r b';rw[ajL];obtain⟨aw,bb⟩:=TI off y.cells.toList 0 cs (by simp;rw[ah.1,j];omega);refine⟨by rw[aw,MO hle,ah.1],λ k b ak=>?_⟩;rw[TJ hle]at ak;rw[dp,bb];simp only[fc,vl,j];split at ak
 ·rename_i az;rw[if_pos az];have:=J _ _ ak;rwa [dp,←mW]at this
 ·rename_i az;rw[if_neg az];have:=ah.2 _ _ ak;rwa [dp]at this
def BL(ad:cb)(ac:b9)(H:aa)(bm:List (Nat×U))(jF:List (Nat×Value)):Prop:=bm.length=jF.length∧∀(k:Nat) (p:Nat×U) (q:Nat×Value),bm[k]?=some p→jF[k]?=some q→p.1=q.1∧a7 ad ac H p.2 q.2
def MP{z:Nat}:∀{bm:List (Nat×U)} {jF:List (Nat×Value)} {cells out:List U} {cs:Array Value},BL ad ac H bm jF→tW ad ac H cells cs→fW z cells bm=some out→
  ∃cI,Ih (λ i=>some (i*z,z)) cs jF=some cI∧tW ad ac H out cI
 |[],[],cells,out,cs,_,ah,h=>by simp[fW]at h;subst h;exact⟨cs,rfl,ah⟩
 |[],_::_,_,_,_,av,_,_=>by have:=av.1;simp at this
 |_::_,[],_,_,_,av,_,_=>by have:=av.1;simp at this
 |(i,a)::bm,(ab,y)::jF,cells,out,cs,av,ah,h=>by
  simp only[fW]at h;split at h
  ·rename_i az;obtain⟨BM,fY,vm⟩:=az;obtain⟨e,r⟩:=av.2 0 _ _ rfl rfl;simp only at e r;subst e;obtain⟨j,_,_⟩:=tV r vm;have MQ:=TK ah r vm (off:=i*z) R;obtain⟨cI,J,aw⟩:=MP (z:=z) ⟨by have:=av.1;simpa using this,λ k p q bb bu=>av.2 (k+1) p q (by simpa using bb) (by simpa using bu)⟩ MQ h;refine⟨cI,?_,aw⟩;simp only[Ih];rw[if_neg]
   ·exact J
   ·simp only[xv,decide_eq_true_eq,not_or,ne_eq];rw[ah.1,j];omega
  ·cases h
def TL{pl:List (Nat×Nat)}:∀{bm:List (Nat×U)} {jF:List (Nat×Value)} {cells out:List U} {cs:Array Value},BL ad ac H bm jF→tW ad ac H cells cs→jo pl cells bm=some out→
  ∃cI,Ih (pl[·]?) cs jF=some cI∧tW ad ac H out cI
 |[],[],cells,out,cs,_,ah,h=>by simp[jo]at h;subst h;exact⟨cs,rfl,ah⟩
 |[],_::_,_,_,_,av,_,_=>by have:=av.1;simp at this
 |_::_,[],_,_,_,av,_,_=>by have:=av.1;simp at this
 |(i,a)::bm,(ab,y)::jF,cells,out,cs,av,ah,h=>by
  simp only[jo]at h;split at h
  ·rename_i off z xw;split at h
   ·rename_i az;obtain⟨BM,fY,vm⟩:=az;obtain⟨e,r⟩:=av.2 0 _ _ rfl rfl;simp only at e r;subst e;obtain⟨j,_,_⟩:=tV r vm;have MQ:=TK ah r vm (off:=off) R;obtain⟨cI,J,aw⟩:=TL (pl:=pl) ⟨by have:=av.1;simpa using this,λ k p q bb bu=>av.2 (k+1) p q (by simpa using bb) (by simpa using bu)⟩ MQ h;refine⟨cI,?_,aw⟩;simp only[Ih,xw];rw[if_neg]
    ·exact J
    ·simp only[xv,decide_eq_true_eq,not_or,ne_eq];rw[ah.1,j];omega
   ·cases h
  ·cases h
def xx{P:Program}{t:TypeId}{z:U}(h:kO P t=some z)(w:World):∃v,(zeroValue t).run P w=.ok v w∧z=jZ v:=by simp only[kO,c0,BK]at h;obtain⟨v,⟨i,aA,bg⟩,rfl⟩:=h;exact⟨v,by simp[zeroValue,run_typeInfo w aA,bg],rfl⟩
def TM{P:Program}(w:World):∀{eP:List Field} {pl:List (Nat×Nat)},(eP.mapM λ f=>(fM P f.type).map λ z=>(f.offset,z))=some pl→
  (eP.mapM λ f=>(do pure (f.offset,←sizeOf f.type):Sem (Nat×Nat))).run P w=.ok pl w
 |[],pl,h=>by simp at h;subst h;simp
 |f::eP,pl,h=>by rw[MR]at h;simp only[bind,BK,c0,pure,bj]at h;obtain⟨p,⟨z,bg,rfl⟩,aRg,xw,rfl⟩:=h;have a8:=TM w xw;rw[MR];simp only[dU,(gJ bg w).1,ek,eL]at a8⊢;rw[a8];simp
def ajM{t:TypeId}{bm:List (Nat×U)}{jF:Array (Nat×Value)}{v:U}(h:jC E t bm=some v)(av:BL ad ac H bm jF.toList):∃u,(Instr.build t jF).run E.P w=.ok u w∧a7 ad ac H v u:=by
 unfold jC at h;split at h
 ·rename_i zero bg;obtain⟨dZ,xy,sZ⟩:=xx bg w;have Ii:a7 ad ac H (.agg zero) dZ:=by rw[sZ];exact sY dZ
  obtain⟨lo,rfl,j,J⟩:=vh Ii;have ah:tW ad ac H zero lo:=⟨j,J⟩;split at h
  ·rename_i n e aB;split at h
   ·rename_i z ey;simp only[c0]at h;obtain⟨out,MS,rfl⟩:=h;obtain⟨cI,aw,bb⟩:=MP av ah MS;refine⟨.agg cI,?_,.agg _ _ bb.1 bb.2⟩;simp[Instr.build,xy,run_underlying (H3 aB),(gJ ey w).1,sg,aw]
   ·cases h
  ·split at h
   ·rename_i pl xw;simp only[c0]at h;obtain⟨out,MS,rfl⟩:=h;obtain⟨cI,aw,bb⟩:=TL av ah MS;refine⟨.agg cI,?_,.agg _ _ bb.1 bb.2⟩;unfold HP at xw;split at xw
    ·rename_i eP hu;have hm:=TM w xw;have Ij:(eP.mapM λ f=>(do pure (f.offset,←sizeOf f.type):Sem (Nat×Nat))).run E.P w=.ok pl.toArray w:=by rw[←Array.toArray_toList (xs:=eP),List.mapM_toArray,Sem.run_map,hm];rfl
     simp only[Instr.build,dU,xy,ek,run_underlying hu,sg];rw[Ij];simp[aw]
    ·cases xw
   ·cases h
 ·cases h
end
section
variable{E:Env}{ad:cb}{ac:b9}{H:aa}{w:World}
def TN{α:Type}{a:Array α}{x:α}(h:a.toList=[x]):a=#[x]:=by cases a;simp_all
def Ik{α:Type}{a:Array α}{x y:α}(h:a.toList=[x,y]):a=#[x,y]:=by cases a;simp_all
def getD_map(f:Operand→Value)(l:Array Operand)(k:Nat)(h:k<l.size):(l.map f).getD k undef=f l[k]:=by simp[h]
def TO(P:Program){f:U→U→Option U}{g:Value→Value→Sem Value}(Ig:∀{a b v:U} {x y:Value},f a b=some v→a7 ad ac H a x→a7 ad ac H b y→∃u,(g x y).run P w=.ok u w∧a7 ad ac H v u)
  (l:List U)(m:List Value)(v:U)(an:l.length=m.length)(ai:∀(k:Nat) (b:U) (y:Value),l[k]?=some b→m[k]?=some y→a7 ad ac H b y)(e:Sem Value)(h:r3 f l=some v):
  ∃u,((match m with|[]=>e|x::rest=>rest.foldlM g x:Sem Value)).run P w=.ok u w∧a7 ad ac H v u:=by
 cases l with
 |nil=>simp[r3]at h
 |cons a l=>
  cases m with
  |nil=>simp at an
  |cons x m=>simp only[r3]at h;exact TH P Ig l m a v x (by simpa using an) (λ k b y j J=>ai (k+1) b y (by simpa using j) (by simpa using J)) (ai 0 a x rfl rfl) h
def oD.mono{aN:cb}{aC:b9}{ap:aa}{ar:World}{c:Nat}{x:Chunk}(h:oD ad ac H w c x)(pq:∀r,aC ⟨c,r⟩=ac ⟨c,r⟩)(cd:ad.le aN)(hm:fb ad ac H aN aC ap)
  (ql:∀r b n,ac ⟨c,r⟩=some (b,n)→ar.heap[b]?=w.heap[b]?):oD aN aC ap ar c x:=by
 have he:aC c=ac c:=pq 0;have hw:∀b n,ac c=some (b,n)→ar.heap[b]?=w.heap[b]?:=ql 0;cases x with
 |box cells=>obtain⟨b,cs,elem,bl,j,J,aw,bb,bu⟩:=h;exact⟨b,cs,elem,bl,by rw[he];exact j,by rw[hw _ _ j];exact J,aw,bb,λ k a aB=>hm _ _ (bu k a aB)⟩
 |ae ay g rows ex=>
  obtain⟨j,J,aw⟩:=h;refine⟨λ e=>he.trans (j e),J,?_⟩;rcases aw with⟨bb,bu⟩|⟨b,cs,elem,bl,bb,bu,dw,gx,gD,gy⟩
  ·exact .inl ⟨by rw[he];exact bb,bu⟩
  ·exact .inr ⟨b,cs,elem,bl,by rw[he];exact bb,by rw[hw _ _ bb];exact bu,dw,gx,gD,λ i r k a aA aB=>(gy i r k a aA aB).mono cd⟩
 |bl ay g rows ex=>exact(he.trans h:aC c=none)
 |iter s p=>obtain⟨b,j,J⟩:=h;exact⟨b,by rw[he];exact j,by rw[hw _ _ j];exact J⟩
 |map es=>obtain⟨b,hv,aL,j,J,aw⟩:=h;exact⟨b,hv,aL,by rw[he];exact j,by rw[hw _ _ j];exact J,aw.mono cd hm⟩
 |cZ t cells=>obtain⟨b,cs,j,J,bb,bu⟩:=h;exact⟨b,cs,by rw[he];exact j,by rw[hw _ _ j];exact J,bb,λ k a aB=>hm _ _ (bu k a aB)⟩
 |jA t l=>obtain⟨b,cs,j,J,aw⟩:=h;exact⟨b,cs,by rw[he];exact j,by rw[hw _ _ j];exact J,aw⟩
 |gone=>exact(he.trans h:aC c=none)
 |fd=>exact(he.trans h:aC c=none)
 |ax z g s rows=>
  rcases h with⟨j,J⟩|⟨b,cs,elem,bl,j,J,aw,bb,bu⟩
  ·exact .inl ⟨by rw[he];exact j,J⟩
  ·exact .inr ⟨b,cs,elem,bl,by rw[he];exact j,by rw[hw _ _ j];exact J,aw,bb,λ r y aZ=>(bu r y aZ).mono (pq _) cd (ql _)⟩
def cl(E:Env)(ad:cb)(ac:b9)(H:aa)(w:World)(ap:aa)(ar:World)(Q:cb→b9→Prop):Prop:=
 ∃aN aC,b6 E aN aC ap ar∧Trans ad ac w aN aC ar∧fb ad ac H aN aC ap∧Q aN aC
def cl.refl{Q:cb→b9→Prop}(aq:b6 E ad ac H w)(h:Q ad ac):cl E ad ac H w H w Q:=⟨ad,ac,aq,Trans.refl _ _ _,fb.refl _ _ _,h⟩
def cl.imp{ap:aa}{ar:World}{Q xz:cb→b9→Prop}(h:cl E ad ac H w ap ar Q)(bn:∀aN aC,ad.le aN→fb ad ac H aN aC ap→Q aN aC→xz aN aC):cl E ad ac H w ap ar xz:=by obtain⟨aN,aC,j,J,aw,bb⟩:=h;exact⟨aN,aC,j,J,aw,bn _ _ J.dT aw bb⟩
def Il{α:Type}{l:List α}{aj n i:Nat}{r:α}(h:((l.drop aj).take n)[i]?=some r):l[aj+i]?=some r∧i<n:=by
 rw[nZ]at h;split at h
 ·rename_i aA;rw[q5]at h;exact⟨h,aA⟩
 ·cases h
def MT{aN:cb}{ay:Nat}{rows:List (List aD)}{b:Nat}{cs:Array Value}{elem:TypeId}{bl:Nat×Nat}(cd:aN b=some (.cells cs elem bl))
  (ai:∀(i:Nat) (r:List aD),rows[i]?=some r→r.length=ay)(hle:rows.length*ay≤cs.size)
  (h:∀(i:Nat) (r:List aD) (k:Nat) (a:aD),rows[i]?=some r→r[k]?=some a→ds aN a (cs.getD (i*ay+k) undef)):
  (∀off len cap ex,off+len≤rows.length→len≤cap→(ex=true→cap=len)→ds aN (.ae ay ((rows.drop off).take len) ex) (.slice (some ⟨b,off*ay,none⟩) len cap))∧
  (∀r row k,rows[r]?=some row→ds aN (.gl row k) (.pointer (some ⟨b,r*ay+k,none⟩))):=by
 have bf:∀(i:Nat) (r:List aD) (k:Nat) (a:aD),rows[i]?=some r→r[k]?=some a→i*ay+k<cs.size:=by intro i r k a aA aB;have j:=ai _ _ aA;have J:=(bF.1 aA).1;have aw:=(bF.1 aB).1;have:(i+1)*ay≤rows.length*ay:=j5 _ J;rw[hj]at this;omega
 constructor
 ·intro off len cap ex b' ah al;have hlen:((rows.drop off).take len).length=len:=by simp;omega
  have:=ds.ae (ad:=aN) ay ((rows.drop off).take len) ex b (off*ay) cap cs elem bl (λ i k=>cs.getD ((off+i)*ay+k) undef) cd R (λ he=>by rw[al he,hlen])
   (λ i r aA=>ai _ _ (Il aA).1)
   (λ i r k a aA aB=>by
    have j:=(Il aA).1;rw[show off*ay+i*ay+k=(off+i)*ay+k by rw[hj]];exact getD_eq _ _ (bf _ _ _ _ j aB))
   (λ i r k a aA aB=>h _ _ _ _ (Il aA).1 aB)
  rwa [hlen]at this
 ·intro r row k bZ;exact .gl row k b (r*ay) cs elem bl (λ k=>cs.getD (r*ay+k) undef) cd (λ k a aB=>getD_eq _ _ (bf _ _ _ _ bZ aB)) (λ k a aB=>h _ _ _ _ bZ aB)
def fB{H:aa}{c:Nat}{x y:Chunk}{d:Nat}(h:(H.set c x)[d]?=some y):(d=c∧y=x)∨(d≠c∧H[d]?=some y):=by
 by_cases aM:d=c
 ·subst aM;rw[List.getElem?_set_self']at h;cases aQ:H[d]? with
  |none=>rw[aQ]at h;cases h
  |some z=>rw[aQ]at h;simp at h;exact .inl ⟨rfl,h.symm⟩
 ·rw[dC (ba aM)]at h;exact .inr ⟨aM,h⟩
def ajN{H:aa}{c:Nat}{x:Chunk}(h:H[c]?=some x):H.set c x=H:=by obtain⟨an,rfl⟩:=bF.1 h;exact BN an
def TP(aq:b6 E ad ac H w){c z g s r:Nat}{rows:List bS}{bR:List (List aD)}(aQ:H[c]?=some (.ax z g s rows))(ai:rows[r]?=some (.own bR)):
  cl E ad ac H w (H.set c (.ax z g s (rows.set r (.dG (.ae z bR false))))) w λ aN _=>∀v,ve ac z c r bR v→ds aN (.ae z bR false) v:=by
 have cg:c<H.length:=(bF.1 aQ).1;have fe:r<rows.length:=(bF.1 ai).1;have jd:∀(i:Nat) (y:bS),(rows.set r (.dG (.ae z bR false)))[i]?=some y→(i=r∧y=.dG (.ae z bR false))∨(i≠r∧rows[i]?=some y):=by
  intro i y aA;by_cases ny:i=r
  ·subst ny;rw[ks fe]at aA;cases aA;exact .inl ⟨rfl,rfl⟩
  ·rw[dC (ba ny)]at aA;exact .inr ⟨ny,aA⟩
 have kZ:=aq.b7 _ _ aQ;rcases kZ with⟨_,aV⟩|⟨cV,xA,c8,MU,Im,m_,MV,MW,BO⟩
 ·subst aV;simp at ai
 obtain⟨ajO,fm⟩:=BO _ _ ai;have fin:∀(aN:cb) (aC:b9),ad.le aN→(∀i,i≠⟨c,r+1⟩→aC i=ac i)→(∀i b n,aC i=some (b,n)→ac i=some (b,n))→(∀b aj,aN b=some aj→w.heap[b]?=some aj)→(∀i b n,aC i=some (b,n)→aN b=none)→
   (∀b,aN b≠none→ad b≠none∨∃(i:fj) (n:Nat),ac i=some (b,n))→(∀v,ve ac z c r bR v→ds aN (.ae z bR false) v)→cl E ad ac H w (H.set c (.ax z g s (rows.set r (.dG (.ae z bR false))))) w λ aN _=>∀v,ve ac z c r bR v→ds aN (.ae z bR false) v:=by
  intro aN aC hle cf lp ajP ajQ fC TQ;have hm:fb ad ac H aN aC (H.set c (.ax z g s (rows.set r (.dG (.ae z bR false))))):=by
   refine mV hle (by simp) λ d aM=>?_
   by_cases eM:d=c
   ·subst eM;intro y aZ;rcases fB aZ with⟨_,rfl⟩|⟨e,_⟩
    ·intro db aY dH eF ll;rcases fB ll with⟨_,e⟩|⟨e,_⟩
     ·cases e;refine .inl ⟨s,rows,aQ,cf _ (by simp),by simp,.inr ⟨rfl,λ i qd aA=>?_⟩⟩;rcases jd _ _ aA with⟨_,e⟩|⟨ao,aI⟩
      ·cases e
      ·exact⟨qd,aI,rfl,cf _ (by simp;exact ao)⟩
     ·exact absurd rfl e
    ·exact absurd rfl e
   ·exact jc.same (by rw[dC (ba eM)]) (λ ht=>cf _ (by simp[eM]))
  refine⟨aN,aC,⟨ajP,λ d x aM=>?_,λ i ab b n dO j J=>aq.inj _ _ _ _ _ (lp _ _ _ j) (lp _ _ _ J),λ i b n h=>?_,λ g cells aP=>(aq.e_ g cells aP).mono hle⟩,
   ⟨rfl,rfl,rfl,cQ _,λ _ _ _=>rfl,hle,λ b ak=>?_,λ i b n h=>.inr ⟨_,_,lp _ _ _ h⟩⟩,hm,TQ⟩
  ·rcases fB aM with⟨rfl,rfl⟩|⟨j,J⟩
   ·refine .inr ⟨cV,xA,c8,MU,by rw[←Im];exact cf _ (by simp),m_,MV,by simpa using MW,λ i y aA=>?_⟩;rcases jd _ _ aA with⟨rfl,rfl⟩|⟨ao,aI⟩
    ·exact TQ _ (BO _ _ ai).Tn
    ·exact(BO _ _ aI).mono (cf _ (by simp;exact ao)) hle (λ _ _ _=>rfl)
   ·exact(aq.b7 _ _ J).mono (λ ht=>cf _ (by simp[j])) hle hm (λ _ _ _ _=>rfl)
  ·have:=aq.sep _ _ _ (lp _ _ _ h);exact⟨ajQ _ _ _ h,this.2.1,by simpa using this.2.2⟩
  ·rcases fC b ak with j|j
   ·exact .inl j
   ·exact .inr (.inr j)
 rcases fm with⟨rfl,_⟩|⟨b,cs,elem,bl,cf,bi,hw,gK,bg,el⟩
 ·refine fin ad ac (λ _ _ h=>h) (λ _ _=>rfl) (λ _ _ _ h=>h) aq.dT (λ i b n h=>(aq.sep _ _ _ h).1) (λ b ak=>.inl ak) λ v bi=>?_
  rcases bi with⟨_,a,cap,rfl⟩|⟨b,n,_,cap,rfl,_⟩
  ·exact .nil _ _ _ _ (λ h=>by cases h)
  ·exact .nil _ _ _ _ (λ h=>by cases h)
 ·have ajR:=(aq.sep _ _ _ cf).1
  let aN:cb:=λ bV=>if bV=b then some (.cells cs elem bl)else ad bV
  let aC:b9:=λ i=>if i=⟨c,r+1⟩then none else ac i
  have tX:aN b=some (.cells cs elem bl):=by simp[aN]
  have hle:ad.le aN:=by
   intro bV aj ak;by_cases fg:bV=b
   ·subst fg;rw[ajR]at ak;cases ak
   ·simp[aN,fg,ak]
  have lp:∀i b n,aC i=some (b,n)→ac i=some (b,n):=by
   intro i b n h;simp only[aC]at h;split at h
   ·cases h
   ·exact h
  refine fin aN aC hle (λ i aA=>by simp[aC,aA]) lp (λ bV aj ak=>?_) (λ i bV n h=>?_) (λ bV ak=>?_) λ v bi=>?_
  ·by_cases fg:bV=b
   ·subst fg;rw[tX]at ak;cases ak;exact hw
   ·simp[aN,fg]at ak;exact aq.dT _ _ ak
  ·have j:=lp _ _ _ h;have fg:bV≠b:=by rintro rfl;have:=aq.inj _ _ _ _ _ j cf;subst this;simp[aC]at h
   simp[aN,fg,(aq.sep _ _ _ j).1]
  ·by_cases fg:bV=b
   ·exact .inr ⟨_,_,by rw[fg];exact cf⟩
   ·simp[aN,fg]at ak;exact .inl (by simpa using ak)
  ·rcases bi with⟨rfl,a,cap,rfl⟩|⟨dE,n,j,cap,rfl,J,aw⟩
   ·exact .nil _ _ _ _ (λ h=>by cases h)
   ·rw[cf]at j;cases j;have hlen:bR.length*z≤cs.size:=sd (j5 _ J) aw;have:=(MT (aN:=aN) tX ajO hlen (λ i row k a aA aB=>(el i row k a aA aB).mono hle)).1 0 bR.length cap false R J (λ h=>by cases h);simpa using this
def MX{z g s c:Nat}:∀(s3:List bS) (pre:List aD) {ad:cb} {ac:b9} {H:aa},b6 E ad ac H w→H[c]?=some (.ax z g s (pre.map bS.dG++s3))→∀xs,lJ z s3=some xs→
  cl E ad ac H w (H.set c (.ax z g s ((pre++xs).map bS.dG))) w λ _ _=>True
 |[],pre,ad,ac,H,aq,aQ,xs,h=>by simp only[lJ,bj]at h;subst h;rw[c_]at aQ⊢;rw[ajN aQ];exact cl.refl aq trivial
 |.own bR::s3,pre,ad,ac,H,aq,aQ,xs,h=>by
  simp only[lJ,c0]at h;obtain⟨cS,aZ,rfl⟩:=h;have cg:c<H.length:=(bF.1 aQ).1;have ai:(pre.map bS.dG++bS.own bR::s3)[pre.length]?=some (.own bR):=by simp
  obtain⟨ej,dY,dt,lW,hb,_⟩:=TP aq aQ ai;have e:(pre.map bS.dG++bS.own bR::s3).set pre.length (.dG (.ae z bR false))=(pre++[aD.ae z bR false]).map bS.dG++s3:=by rw[xB _ _ (by simp)];simp
  rw[e]at dt hb;obtain⟨e2,ez,tY,s4,gq,_⟩:=MX s3 (pre++[.ae z bR false]) dt (by rw[ks cg]) cS aZ;have aI:(H.set c (.ax z g s ((pre++[aD.ae z bR false]).map bS.dG++s3))).set c (.ax z g s ((pre++[aD.ae z bR false]++cS).map bS.dG))=H.set c (.ax z g s ((pre++aD.ae z bR false::cS).map bS.dG)):=by rw[vn];simp
  rw[aI]at tY gq;exact⟨e2,ez,tY,lW.trans s4,hb.trans gq,trivial⟩
 |.dG y::s3,pre,ad,ac,H,aq,aQ,xs,h=>by simp only[lJ,c0]at h;obtain⟨cS,aZ,rfl⟩:=h;have:=MX s3 (pre++[y]) aq (by simpa using aQ) cS aZ;simpa using this
 |.dead::s3,pre,ad,ac,H,aq,aQ,xs,h=>by simp[lJ]at h
def ajS(aq:b6 E ad ac H w){c g off len z s:Nat}{rows:List bS}{v:Value}(r:kX ac H (.d c g off len) v)(aQ:H[c]?=some (.ax z g s rows)){xs:List aD}(al:lJ z rows=some xs):
  cl E ad ac H w (H.set c (.fd g (xs.map λ y=>[y]))) w λ aN _=>ds aN (.ae 1 (((xs.map λ y=>[y]).drop off).take len) false) v:=by
 obtain⟨ej,dY,dt,lW,hb,_⟩:=MX rows [] aq (by simpa using aQ) xs al;simp only[gM]at dt hb;have iJ:kX dY (H.set c (.ax z g s (xs.map bS.dG))) (.d c g off len) v:=by
  cases hb _ _ (.x _ _ r (.ax aQ))with
  |x _ _ h=>exact h
 have cg:c<H.length:=(bF.1 aQ).1;have vo:(H.set c (.ax z g s (xs.map bS.dG)))[c]?=some (.ax z g s (xs.map bS.dG)):=by simp[cg]
 have ajT:(H.set c (.ax z g s (xs.map bS.dG))).set c (.fd g (xs.map λ y=>[y]))=H.set c (.fd g (xs.map λ y=>[y])):=vn ..
 suffices cl E ej dY (H.set c (.ax z g s (xs.map bS.dG))) w ((H.set c (.ax z g s (xs.map bS.dG))).set c (.fd g (xs.map λ y=>[y]))) w λ aN _=>ds aN (.ae 1 (((xs.map λ y=>[y]).drop off).take len) false) v by rw[ajT]at this;obtain⟨e2,ez,tY,s4,gq,bn⟩:=this;exact⟨e2,ez,tY,lW.trans s4,hb.trans gq,bn⟩
 generalize H.set c (.ax z g s (xs.map bS.dG))=H1 at*;have aRh:c<H1.length:=(bF.1 vo).1;have s5:∀(aN:cb) off len a cap,len=0→ds aN (.ae 1 (((xs.map λ y=>[y]).drop off).take len) false) (.slice a len cap):=by intro aN off len a cap aV;subst aV;simp;exact .nil _ _ _ _ (λ h=>by cases h)
 rcases dt.b7 _ _ vo with⟨aF,aV⟩|⟨b,cs,elem,bl,cf,hw,gK,ey,el⟩
 ·have key:∀off len v,kX dY H1 (.d c g off len) v→ds ej (.ae 1 (((xs.map λ y=>[y]).drop off).take len) false) v:=by intro off len v r;obtain⟨hle,a,cap,rfl,fm⟩:=(r.2.2 _ _ _ _ vo).2 rfl;refine s5 _ _ _ _ _ ?_;simp at aV;subst aV;simp at hle;omega
  have hm:fb ej dY H1 ej dY (H1.set c (.fd g (xs.map λ y=>[y]))):=by
   refine mV (λ _ _ h=>h) (by simp) λ d aM=>?_
   by_cases eM:d=c
   ·subst eM;intro y aZ;rcases fB aZ with⟨_,rfl⟩|⟨e,_⟩
    ·right;intro off len v ff;cases ff with
     |x _ _ h _=>exact key _ _ _ h
    ·exact absurd rfl e
   ·exact jc.same (by rw[dC (ba eM)]) (λ _=>rfl)
  refine⟨ej,dY,⟨dt.dT,λ d x aM=>?_,dt.inj,λ i b n h=>by have:=dt.sep _ _ _ h;simpa using this,dt.e_⟩,Trans.refl _ _ _,hm,key _ _ _ iJ⟩;rcases fB aM with⟨rfl,rfl⟩|⟨j,J⟩
  ·exact aF
  ·exact(dt.b7 _ _ J).mono (λ _=>rfl) (λ _ _ h=>h) hm (λ _ _ _ _=>rfl)
 ·let aN:cb:=λ bV=>if bV=b then some (.cells cs elem bl)else ej bV
  let aC:b9:=λ d=>if d=c then none else dY d
  have tX:aN b=some (.cells cs elem bl):=by simp[aN]
  have ER:ej.le aN:=by
   intro bV aj ak;by_cases fg:bV=b
   ·subst fg;have:=(dt.sep _ _ _ cf).1;rw[this]at ak;cases ak
   ·simp[aN,fg,ak]
  have lp:∀i b n,aC i=some (b,n)→i≠⟨c,0⟩∧dY i=some (b,n):=by
   intro i b n h;simp only[aC]at h;split at h
   ·cases h
   ·rename_i aA;exact⟨aA,h⟩
  have key:∀off len v,kX dY H1 (.d c g off len) v→ds aN (.ae 1 (((xs.map λ y=>[y]).drop off).take len) false) v:=by
   intro off len v r;obtain⟨hle,a,cap,rfl,fm⟩:=(r.2.2 _ _ _ _ vo).2 rfl;rcases fm with⟨he,gf⟩|⟨dE,gr,he,aw,bb,bu⟩
   ·rw[cf]at he;cases he
   ·rw[cf]at he;cases he;rcases bu with rfl|⟨aV,_⟩
    ·have an:(xs.map λ y=>[y]).length=(xs.map bS.dG).length:=by simp
     have key:=(MT (aN:=aN) (ay:=1) (rows:=xs.map λ y=>[y]) tX (λ i row aA=>by
      simp only[fA,c0]at aA;obtain⟨y,_,rfl⟩:=aA;rfl) (by rw[an];omega) (λ i row k a aA aB=>by
      simp only[fA,c0]at aA;obtain⟨y,aZ,rfl⟩:=aA;cases k with
      |succ k=>simp at aB
      |zero=>
       simp at aB;subst aB;rw[H',fc];exact ds.mono ER (el i (.dG y) (by simp[aZ])))).1 off len cap false (by rw[an];exact hle) R (λ h=>by cases h)
     rw[H']at key;exact key
    ·exact s5 _ _ _ _ _ aV
  have hm:fb ej dY H1 aN aC (H1.set c (.fd g (xs.map λ y=>[y]))):=by
   refine mV ER (by simp) λ d aM=>?_
   by_cases eM:d=c
   ·subst eM;intro y aZ;rcases fB aZ with⟨_,rfl⟩|⟨e,_⟩
    ·right;intro off len v ff;cases ff with
     |x _ _ h _=>exact key _ _ _ h
    ·exact absurd rfl e
   ·exact jc.same (by rw[dC (ba eM)]) (λ r=>by simp[aC,eM])
  refine⟨aN,aC,⟨λ bV aj ak=>?_,λ d x aM=>?_,λ i ab bV n dO j J=>dt.inj _ _ _ _ _ (lp _ _ _ j).2 (lp _ _ _ J).2,λ i bV n h=>?_,λ g cells aP=>(dt.e_ g cells aP).mono ER⟩,
   ⟨rfl,rfl,rfl,cQ _,λ _ _ _=>rfl,ER,λ bV ak=>?_,λ i bV n h=>.inr ⟨_,_,(lp _ _ _ h).2⟩⟩,hm,key _ _ _ iJ⟩
  ·by_cases fg:bV=b
   ·subst fg;rw[tX]at ak;cases ak;exact hw
   ·simp[aN,fg]at ak;exact dt.dT _ _ ak
  ·rcases fB aM with⟨rfl,rfl⟩|⟨j,J⟩
   ·show aC d=none;simp[aC]
   ·exact(dt.b7 _ _ J).mono (λ r=>by simp[aC,j]) ER hm (λ _ _ _ _=>rfl)
  ·obtain⟨j,J⟩:=lp _ _ _ h;have fg:bV≠b:=by rintro rfl;exact j (dt.inj _ _ _ _ _ J cf)
   have:=dt.sep _ _ _ J;exact⟨by simp[aN,fg,this.1],this.2.1,by simpa using this.2.2⟩
  ·by_cases fg:bV=b
   ·exact .inr (.inr ⟨c,_,by rw[fg];exact cf⟩)
   ·simp[aN,fg]at ak;exact .inl (by simpa using ak)
def zp(aq:b6 E ad ac H w){a:U}{y:Value}(r:a7 ad ac H a y){x:aD}{ap:aa}(h:freeze H a=some (x,ap)):cl E ad ac H w ap w λ aN aC=>ds aN x y:=by
 unfold freeze at h;split at h
 ·cases h;exact cl.refl aq (iI r)
 ·rename_i c g off len;split at h
  ·rename_i ay aY rows ex aQ;split at h
   ·rename_i aP;subst aP;simp only[bj,bA]at h;obtain⟨rfl,rfl⟩:=h;have cg:c<H.length:=(bF.1 aQ).1;obtain⟨bg,fe,fm⟩:=aq.b7 _ _ aQ;rcases fm with⟨aF,ajU⟩|⟨b,cs,elem,bl,cf,hw,gK,ey,sh,el⟩;rotate_left;have bg:0<ay:=Nat.pos_of_ne_zero λ e=>by rw[bg e]at cf;cases cf
    rotate_left
    ·subst ajU;have TR:∀(v:Value) off len,sX ac c ay [] off len v→ds ad (.ae ay ((([]:List (List aD)).drop off).take len) (ex &&decide (off+len=0))) v:=by
      intro v off len je;obtain⟨j,a,cap,rfl,J⟩:=je;simp at j;obtain⟨rfl,rfl⟩:=j;rcases J with⟨_,rfl⟩|⟨b,n,he,_⟩
      ·simp;exact .nil _ _ _ _ (λ _=>rfl)
      ·rw[aF]at he;cases he
     have hm:fb ad ac H ad ac (H.set c (.bl ay g [] ex)):=by
      refine mV (λ _ _ h=>h) (by simp) λ d aM=>?_
      by_cases eM:d=c
      ·subst eM;intro y aZ;rcases fB aZ with⟨_,rfl⟩|⟨j,_⟩
       ·right;intro a v aB ff;rcases aB with⟨off,len,rfl⟩|⟨r,k,rfl⟩
        ·cases ff with
         |ref c g off len v ah aS aK av aP=>
          refine .ref _ _ _ _ _ (by simpa using cg) (λ _ _ _ h=>by rcases fB h with⟨_,e⟩|⟨e,_⟩<;>simp_all) (λ h_ c9 hK h=>?_) av (λ _ _ _ _ h=>by rcases fB h with⟨_,e⟩|⟨e,_⟩<;>simp_all);rcases fB h with⟨_,e⟩|⟨e,_⟩
          ·cases e;have:=aS _ _ _ aQ;exact⟨this.1,TR _ _ _ this⟩
          ·exact absurd rfl e
        ·cases ff with
         |ptr c g r k v ah ak aS aK aA av aP=>obtain⟨b,n,he,_⟩:=aS _ _ _ aQ;rw[aF]at he;cases he
       ·exact absurd rfl j
      ·exact jc.same (by rw[dC (ba eM)]) (λ _=>rfl)
     refine⟨ad,ac,⟨aq.dT,λ d x aM=>?_,aq.inj,λ d b n aM=>by have:=aq.sep d b n aM;simpa using this,aq.e_⟩,Trans.refl _ _ _,hm,?_⟩
     ·rcases fB aM with⟨rfl,rfl⟩|⟨j,J⟩
      ·exact aF
      ·exact(aq.b7 _ _ J).mono (λ _=>rfl) (λ _ _ h=>h) hm (λ _ _ _ _=>rfl)
     ·cases r with
      |ref c g off len v ah aS aK av aP=>exact TR _ _ _ (aS _ _ _ aQ)
    ·let aN:cb:=λ bV=>if bV=b then some (.cells cs elem bl)else ad bV
     let aC:b9:=λ d=>if d=c then none else ac d
     have tX:aN b=some (.cells cs elem bl):=by simp[aN]
     have hle:ad.le aN:=by
      intro bV aj ak;by_cases fg:bV=b
      ·subst fg;have:=(aq.sep _ _ _ cf).1;rw[this]at ak;cases ak
      ·simp[aN,fg,ak]
     obtain⟨H5,BD⟩:=MT (aN:=aN) tX fe ey (λ i r k a aA aB=>(el i r k a aA aB).mono hle);have TS:∀(v:Value) off len,sX ac c ay rows off len v→ds aN (.ae ay ((rows.drop off).take len) (ex &&decide (off+len=rows.length))) v:=by
      intro v off len je;obtain⟨j,a,cap,rfl,J⟩:=je;rcases J with⟨he,_⟩|⟨dE,gr,he,aw,bb,bu⟩
      ·rw[cf]at he;cases he
      ·rw[cf]at he;cases he;have j7:len≤cap:=R;have ajV:(ex &&decide (off+len=rows.length))=true→cap=len:=by intro he;simp only[cO,decide_eq_true_eq]at he;rw[sh he.1]at bb;have:=Nat.le_of_mul_le_mul_right bb bg;omega
       rcases bu with rfl|⟨rfl,rfl⟩
       ·exact H5 off len cap _ j j7 ajV
       ·simp;exact .nil _ _ _ _ (λ _=>rfl)
     have hm:fb ad ac H aN aC (H.set c (.bl ay g rows ex)):=by
      refine mV hle (by simp) λ d aM=>?_
      by_cases eM:d=c
      ·subst eM;intro y aZ;rcases fB aZ with⟨_,rfl⟩|⟨j,_⟩
       ·right;intro a v aB ff;rcases aB with⟨off,len,rfl⟩|⟨r,k,rfl⟩
        ·cases ff with
         |ref c g off len v ah aS aK av aP=>
          refine .ref _ _ _ _ _ (by simpa using cg) (λ _ _ _ h=>by rcases fB h with⟨_,e⟩|⟨e,_⟩<;>simp_all) (λ h_ c9 hK h=>?_) av (λ _ _ _ _ h=>by rcases fB h with⟨_,e⟩|⟨e,_⟩<;>simp_all);rcases fB h with⟨_,e⟩|⟨e,_⟩
          ·cases e;have:=aS _ _ _ aQ;exact⟨this.1,TS _ _ _ this⟩
          ·exact absurd rfl e
        ·cases ff with
         |ptr c g r k v ah ak aS aK aA av aP=>
          refine .ptr _ _ _ _ _ (by simpa using cg) (λ _ h=>by rcases fB h with⟨_,e⟩|⟨e,_⟩<;>simp_all) (λ _ _ _ h=>by rcases fB h with⟨_,e⟩|⟨e,_⟩<;>simp_all) (λ h_ c9 hK row h bZ=>?_) (λ _ _ h=>by rcases fB h with⟨_,e⟩|⟨e,_⟩<;>simp_all) av (λ _ _ _ _ h=>by rcases fB h with⟨_,e⟩|⟨e,_⟩<;>simp_all);rcases fB h with⟨_,e⟩|⟨e,_⟩
          ·cases e;obtain⟨dE,gr,he,rfl⟩:=aS _ _ _ aQ;rw[cf]at he;cases he;exact BD _ _ _ bZ
          ·exact absurd rfl e
       ·exact absurd rfl j
      ·exact jc.same (by rw[dC (ba eM)]) (λ r=>by simp[aC,eM])
     refine⟨aN,aC,⟨λ bV aj ak=>?_,λ d x aM=>?_,λ d hR bV n dO j J=>?_,λ d bV n aM=>?_,λ g cells aP=>(aq.e_ g cells aP).mono hle⟩,
      ⟨rfl,rfl,rfl,cQ _,λ _ _ _=>rfl,hle,λ bV ak=>?_,λ d bV n aM=>?_⟩,hm,?_⟩
     ·by_cases fg:bV=b
      ·subst fg;rw[tX]at ak;cases ak;exact hw
      ·simp[aN,fg]at ak;exact aq.dT _ _ ak
     ·rcases fB aM with⟨rfl,rfl⟩|⟨j,J⟩
      ·show aC d=none;simp[aC]
      ·exact(aq.b7 _ _ J).mono (λ r=>by simp[aC,j]) hle hm (λ _ _ _ _=>rfl)
     ·by_cases aw:d=c
      ·simp[aC,aw]at j
      ·by_cases bb:hR=c
       ·simp[aC,bb]at J
       ·simp[aC,aw]at j;simp[aC,bb]at J;exact aq.inj _ _ _ _ _ j J
     ·by_cases aw:d=c
      ·simp[aC,aw]at aM
      ·simp[aC,aw]at aM;obtain⟨bb,bu,dw⟩:=aq.sep _ _ _ aM;have fg:bV≠b:=λ e=>aw (aq.inj _ _ _ _ _ (e▸aM) cf)
       exact⟨by simp[aN,fg,bb],bu,by simpa using dw⟩
     ·by_cases fg:bV=b
      ·exact .inr (.inr ⟨c,_,by rw[fg];exact cf⟩)
      ·simp[aN,fg]at ak;exact .inl (by simpa using ak)
     ·by_cases aw:d=c
      ·simp[aC,aw]at aM
      ·simp[aC,aw]at aM;exact .inr ⟨_,_,aM⟩
     ·cases r with
      |ref c g off len v ah aS aK av aP=>exact TS _ _ _ (aS _ _ _ aQ)
   ·cases h
  ·rename_i ay aY rows ex aQ;split at h
   ·rename_i aP;subst aP;simp only[bj,bA]at h;obtain⟨rfl,rfl⟩:=h;cases r with
    |ref c g off len v ah aS aK av aP=>exact cl.refl aq (aK _ _ _ aQ).2
   ·cases h
  ·cases h
 ·rename_i k;cases r with
  |x k v r xr=>
   cases k with
   |e=>cases h
   |p=>cases h
   |d c g off len=>
    simp only[pj]at h;unfold u6 at h;split at h
    ·rename_i z aY s rows aQ;split at h
     ·rename_i aP;subst aP;unfold Bn at h;split at h
      ·rename_i xs al;simp only[bj,bA]at h;obtain⟨rfl,rfl⟩:=h;exact ajS aq r aQ al
      ·cases h
     ·cases h
    ·rename_i aY rows aQ;split at h
     ·rename_i aP;subst aP;simp only[bj,bA]at h;obtain⟨rfl,rfl⟩:=h;exact cl.refl aq (xr _ _ _ _ _ rfl aQ)
     ·cases h
    ·cases h
   |h c g s q=>
    simp only[pj]at h;unfold u7 at h;split at h
    ·rename_i z aY dH rows aQ;split at h
     ·rename_i aP;obtain⟨rfl,rfl⟩:=aP;split at h
      ·rename_i bR ai;simp only[bj,bA]at h;obtain⟨rfl,rfl⟩:=h;exact(TP aq aQ ai).imp λ aN aC _ _ bn=>bn _ ((r.2.2 _ _ _ _ aQ).2 rfl rfl _ ai)
      ·cases h
     ·cases h
    ·cases h
 ·cases h
end
section
variable{E:Env}{ad:cb}{ac:b9}{H:aa}{w:World}
def ES{x:aD}{y:Value}(h:ds ad x y):y.oneCell'=true:=by
 cases h with
 |v _ h=>exact h
 |_=>rfl
def Flat(ay:Nat)(rows:List (List aD)):Prop:=∀(i:Nat) (r:List aD),rows[i]?=some r→r.length=ay
def Flat.cons{ay:Nat}{r:List aD}{rows:List (List aD)}(h:Flat ay (r::rows)):r.length=ay∧Flat ay rows:=⟨h 0 r rfl,λ i s aS=>h (i+1) s (by simpa using aS)⟩
def Flat.length{ay:Nat}:∀{rows:List (List aD)},Flat ay rows→rows.flatten.length=rows.length*ay
 |[],_=>by simp
 |r::rows,h=>by rw[s0,dd,h.cons.1,Flat.length h.cons.2,cT,hj];omega
def Flat.get{ay:Nat}:∀{rows:List (List aD)},Flat ay rows→∀{i:Nat} {r:List aD} {k:Nat} {a:aD},rows[i]?=some r→r[k]?=some a→rows.flatten[i*ay+k]?=some a
 |[],_,i,r,k,a,aA,_=>by simp at aA
 |s::rows,h,0,r,k,a,aA,aB=>by simp at aA;subst aA;rw[s0,Nat.zero_mul,cq,en (bF.1 aB).1];exact aB
 |s::rows,h,i+1,r,k,a,aA,aB=>by
  rw[s0,ha (by rw[h.cons.1,hj];omega),h.cons.1];rw[←Flat.get h.cons.2 (i:=i) (by simpa using aA) aB]
  congr 1;rw[hj];omega
def Flat.append{ay:Nat}{a b:List (List aD)}(aB:Flat ay a)(ak:Flat ay b):Flat ay (a++b):=by
 intro i r h;rw[tZ]at h;split at h
 ·exact aB _ _ h
 ·exact ak _ _ h
def Flat.take{ay n:Nat}{a:List (List aD)}(aB:Flat ay a):Flat ay (a.take n):=by
 intro i r h;rw[nZ]at h;split at h
 ·exact aB _ _ h
 ·cases h
def Flat.drop{ay n:Nat}{a:List (List aD)}(aB:Flat ay a):Flat ay (a.drop n):=by intro i r h;rw[q5]at h;exact aB _ _ h
def kt(ad:cb)(l:List aD)(cs:Array Value):Prop:=∀(ab:Nat) (v:aD),l[ab]?=some v→ds ad v (cs.getD ab undef)
def kt.rows{ay:Nat}{rows:List (List aD)}{cs:Array Value}(aK:Flat ay rows)(h:kt ad rows.flatten cs):
 ∀(i:Nat) (r:List aD) (k:Nat) (a:aD),rows[i]?=some r→r[k]?=some a→ds ad a (cs.getD (i*ay+k) undef):=λ i r k a aA aB=>h _ _ (aK.get aA aB)
def Io{ay:Nat}(bg:0<ay){rows:List (List aD)}(aK:Flat ay rows){ab:Nat}(a':ab<rows.length*ay):∃r a,rows[ab/ay]?=some r∧r[ab%ay]?=some a∧rows.flatten[ab]?=some a:=by
 have j:ab/ay<rows.length:=(H9 bg).2 a';have J:=aK _ _ (eT j);have aw:ab%ay<rows[ab/ay].length:=by rw[J];exact EN _ bg
 refine⟨_,_,eT j,eT aw,?_⟩;have:=aK.get (eT j) (eT aw);rwa [show ab/ay*ay+ab%ay=ab by rw[vi];exact zi _ _]at this
def TT{P:Program}{ay:Nat}{rows:List (List aD)}{b aj:Nat}(bg:0<ay)(aK:Flat ay rows)
  (h:∀(ab:Nat) (v:aD),rows.flatten[ab]?=some v→∃dB,w.cell? ⟨b,aj+ab,none⟩=some dB∧ds ad v dB):
  ∃cs:Array Value,(∀ar:World,ar.heap=w.heap→(loadCells ⟨b,aj,none⟩ (rows.length*ay)).run P ar=.ok cs ar)∧cs.size=rows.length*ay∧kt ad rows.flatten cs:=by
 refine⟨((hg (rows.length*ay)).map λ ab=>(w.cell? ⟨b,aj+ab,none⟩).getD undef).toArray,λ ar ql=>run_loadCells ar _ _ _ λ ab a'=>?_,by simp,λ ab v bi=>?_⟩
 ·obtain⟨r,a,_,_,aw⟩:=Io bg aK a';obtain⟨dB,bb,_⟩:=h _ _ aw;have e:ar.cell? ⟨b,aj+ab,none⟩=w.cell? ⟨b,aj+ab,none⟩:=by simp[sf,ql]
  rw[lk,e,bb];rfl
 ·have a':=(bF.1 bi).1;rw[aK.length]at a';obtain⟨dB,bb,bu⟩:=h _ _ bi;have:((hg (rows.length*ay)).map λ ab=>(w.cell? ⟨b,aj+ab,none⟩).getD undef).toArray.getD ab undef=dB:=by simp[dp,a',bb]
  rw[this];exact bu
def Ip{P:Program}(aA:∀b aj,ad b=some aj→w.heap[b]?=some aj){ay:Nat}{rows:List (List aD)}{ex:Bool}{y:Value}(bg:0<ay)(h:ds ad (.ae ay rows ex) y):
  ∃cs:Array Value,(∀ar:World,(q8 y).run P ar=.ok rows.length ar)∧(∀ar:World,ar.heap=w.heap→(iK ay rows.length y).run P ar=.ok cs ar)∧cs.size=rows.length*ay∧kt ad rows.flatten cs∧Flat ay rows:=by
 cases h with
 |nil ay ex a cap al=>refine⟨#[],by simp[q8],λ ar _=>?_,by simp,λ ab v h=>by simp at h,λ i r h=>by simp at h⟩;cases a<;>simp[iK,loadCells,loadCellsFrom]
 |ae ay rows ex b off cap cs elem bl dB cd ah al ai j J=>
  have aK:Flat ay rows:=ai;obtain⟨cI,aw,bb,bu⟩:=TT (P:=P) (w:=w) (ad:=ad) (b:=b) (aj:=off) bg aK (λ ab v bi=>by
   have a':=(bF.1 bi).1;rw[aK.length]at a';obtain⟨r,a,ao,aI,bE⟩:=Io bg aK a';rw[bi]at bE;cases bE;have:=j _ _ _ _ ao aI;rw[show off+ab/ay*ay+ab%ay=off+ab by rw[tT];congr 1;rw[vi];exact zi _ _]at this;exact⟨_,by rw[cell_of (aA _ _ cd)];exact this,J _ _ _ _ ao aI⟩)
  exact⟨cI,by simp[q8],aw,bb,bu,aK⟩
def TU{P:Program}{ay:Nat}{rows:List (List aD)}{b:Nat}{cs:Array Value}{elem:TypeId}{bl:Nat×Nat}(bg:0<ay)(aK:Flat ay rows)(hw:w.heap[b]?=some (.cells cs elem bl))
  (hle:rows.length*ay≤cs.size)(ah:∀(i:Nat) (r:List aD) (k:Nat) (a:aD),rows[i]?=some r→r[k]?=some a→ds ad a (cs.getD (i*ay+k) undef))(off len:Nat)(b':off+len≤rows.length):
  ∃cI:Array Value,(∀ar:World,ar.heap=w.heap→(loadCells ⟨b,off*ay,none⟩ (len*ay)).run P ar=.ok cI ar)∧cI.size=len*ay∧kt ad ((rows.drop off).take len).flatten cI:=by
 have BP:Flat ay ((rows.drop off).take len):=aK.drop.take;have hlen:((rows.drop off).take len).length=len:=by simp;omega
 have:=TT (P:=P) (w:=w) (ad:=ad) (b:=b) (aj:=off*ay) bg BP (λ ab v bi=>by
  have a':=(bF.1 bi).1;rw[BP.length,hlen]at a';obtain⟨r,a,ao,aI,bE⟩:=Io bg BP (by rw[hlen];exact a');rw[bi]at bE;cases bE;have c6:=(Il ao).1;have lq:(off+ab/ay)*ay+ab%ay=off*ay+ab:=by rw[hj,tT];congr 1;rw[vi];exact zi _ _
  have bf:off*ay+ab<cs.size:=by have:(off+len)*ay≤rows.length*ay:=j5 _ b';rw[hj]at this;omega
  have:=ah _ _ _ _ c6 aI;rw[lq]at this;exact⟨_,by rw[cell_of hw];exact getD_eq _ _ bf,this⟩)
 rwa [hlen]at this
def Iq{α β:Type}(f:α→β):∀l:List α,(l.map λ b=>[f b]).flatten=l.map f
 |[]=>rfl
 |b::l=>by simp only[fk,s0,List.singleton_append,Iq f l]
def MY{P:Program}(aq:b6 E ad ac H w){x:U}{y:Value}(r:a7 ad ac H x y){z:Nat}{rows:List (List aD)}{ex:Bool}(h:kU H x=some (z,rows,ex)){size:Nat}(aS:rows=[]∨z=size)(bg:0<size):
  ∃cs:Array Value,(∀ar:World,(q8 y).run P ar=.ok rows.length ar)∧(∀ar:World,ar.heap=w.heap→(iK size rows.length y).run P ar=.ok cs ar)∧cs.size=rows.length*size∧kt ad rows.flatten cs∧Flat size rows:=by
 have s5:∀(y:Value),rows=[]→(∃a cap,y=.slice a 0 cap)→∃cs:Array Value,(∀ar:World,(q8 y).run P ar=.ok rows.length ar)∧(∀ar:World,ar.heap=w.heap→(iK size rows.length y).run P ar=.ok cs ar)∧cs.size=rows.length*size∧kt ad rows.flatten cs∧Flat size rows:=by rintro y rfl ⟨a,cap,rfl⟩;refine⟨#[],by simp[q8],λ ar _=>?_,by simp,λ ab v h=>by simp at h,λ i r h=>by simp at h⟩;cases a<;>simp[iK,loadCells,loadCellsFrom]
 unfold kU at h;split at h
 ·rename_i l;cases h;rw[qh r];have ey:l=[]∨1=size:=by simpa using aS
  have hk:=Iq (λ b:UInt8=>aD.v (.int .u8 b.toNat)) l;refine⟨(l.map λ b=>j4 .u8 b.toNat).toArray,by simp[q8,size_mk],?_,?_,?_,?_⟩
  ·intro ar _;simp only[iK,eL,lX]
   congr 1
   rw[extract_mk];simp
  ·rcases ey with e|e
   ·subst e;simp
   ·subst e;simp
  ·rw[hk];intro ab v bi;simp only[fA,c0]at bi;obtain⟨b,ak,rfl⟩:=bi;have:((l.map λ b=>j4 .u8 b.toNat).toArray).getD ab undef=.int .u8 b.toNat:=by simp[dp,ak]
   rw[this];exact .v _ rfl
  ·intro i r aA;simp only[fA,c0]at aA;obtain⟨b,ak,rfl⟩:=aA;rcases ey with e|e
   ·subst e;simp at ak
   ·simpa using e
 ·unfold hP at h;split at h
  ·cases h;rcases aS with e|rfl
   ·refine s5 y e ?_;obtain⟨a,cap,rfl⟩:=EQ (iI r);exact⟨a,cap,by rw[e];rfl⟩
   ·exact Ip aq.dT bg (iI r)
  ·rename_i c g off len _;split at h
   ·rename_i ay aY eF gd aQ;split at h
    ·rename_i aP;subst aP;cases h;cases r with
     |ref c g off len v ah po BP av aP=>
      obtain⟨hle,a,cap,rfl,fm⟩:=po _ _ _ aQ;have hlen:((eF.drop off).take len).length=len:=by simp;omega
      rcases aS with e|rfl
      ·refine s5 _ e ⟨a,cap,?_⟩;rw[e]at hlen;simp at hlen;rw[←hlen]
      ·obtain⟨pr,hk,aw⟩:=aq.b7 _ _ aQ;rcases fm with⟨he,gf⟩|⟨b,m,he,j,J,bb⟩
       ·rcases aw with⟨_,bu⟩|⟨b,_,_,_,bu,_⟩
        ·subst bu;simp at hle;obtain⟨rfl,rfl⟩:=hle;exact s5 _ (by simp) ⟨_,_,rfl⟩
        ·rw[he]at bu;cases bu
       ·rcases aw with⟨bu,_⟩|⟨bV,cs,elem,bl,bu,dw,gx,gD,gy,si⟩
        ·rw[he]at bu;cases bu
        ·rw[he]at bu;cases bu;rcases bb with rfl|⟨rfl,rfl⟩
         ·obtain⟨cI,ao,aI,bE⟩:=TU (P:=P) (ad:=ad) bg hk dw gD si off len hle;refine⟨cI,by rw[hlen];simp[q8],λ ar ql=>by rw[hlen];exact ao ar ql,by rw[hlen];exact aI,bE,Flat.take (Flat.drop hk)⟩
         ·exact s5 _ (by simp) ⟨_,_,rfl⟩
    ·cases h
   ·rename_i ay aY eF gd aQ;split at h
    ·rename_i aP;subst aP;cases h;cases r with
     |ref c g off len v ah po BP av aP=>
      obtain⟨hle,lV⟩:=BP _ _ _ aQ;rcases aS with e|rfl
      ·refine s5 _ e ?_;obtain⟨a,cap,rfl⟩:=EQ lV;exact⟨a,cap,by rw[e];rfl⟩
      ·exact Ip aq.dT bg lV
    ·cases h
   ·cases h
  ·cases h
def fS(ac:b9)(c b n:Nat):b9:=λ d=>if d=c then some (b,n)else ac d
def Ir(aq:b6 E ad ac H w){ar:World}{cs:Array Value}{elem:TypeId}{bl:Nat×Nat}(hw:ar.heap=w.heap.push (.cells cs elem bl))(b':ar.os=w.os)(bq:ar.tape=w.tape)(hu:ar.output=w.output)(b7:Chunk)
  (kZ:fb ad ac H ad (fS ac H.length w.heap.size cs.size) (H++[b7])→oD ad (fS ac H.length w.heap.size cs.size) (H++[b7]) ar H.length b7){Q:cb→b9→Prop}
  (eY:fb ad ac H ad (fS ac H.length w.heap.size cs.size) (H++[b7])→Q ad (fS ac H.length w.heap.size cs.size)):cl E ad ac H w (H++[b7]) ar Q:=by
 have hold:∀b,b<w.heap.size→ar.heap[b]?=w.heap[b]?:=by intro b ak;rw[hw,Is,if_neg R]
 have hm:fb ad ac H ad (fS ac H.length w.heap.size cs.size) (H++[b7]):=by
  refine mV (λ _ _ h=>h) (by simp) λ c ah=>?_
  exact jc.same (by rw[en ah]) (λ r=>by simp[fS,show c≠H.length by omega])
 have hy:∀(c:fj) b n,fS ac H.length w.heap.size cs.size c=some (b,n)→(c=⟨H.length,0⟩∧b=w.heap.size∧n=cs.size)∨ac c=some (b,n):=by
  intro c b n h;unfold fS at h;split at h
  ·cases h;exact .inl ⟨by assumption,rfl,rfl⟩
  ·exact .inr h
 refine⟨ad,fS ac H.length w.heap.size cs.size,⟨λ b aj ak=>?_,λ c x al=>?_,λ c cp b n dO j J=>?_,λ c b n h=>?_,aq.e_⟩,⟨b',bq,hu,by rw[hw];simp,λ b ak _=>hold b ak,λ _ _ h=>h,λ b h=>.inl h,λ c b n h=>?_⟩,hm,eY hm⟩
 ·have:=aq.dT b aj ak;have bf:b<w.heap.size:=(j6.1 this).1;rw[hold b bf];exact this
 ·by_cases ah:c<H.length
  ·rw[en ah]at al;refine(aq.b7 c x al).mono (λ r=>by simp[fS,show c≠H.length by omega]) (λ _ _ h=>h) hm λ r b n h=>hold b (aq.sep _ _ _ h).2.1
  ·have:c=H.length:=by have:=(bF.1 al).1;simp at this;omega
   subst this;simp at al;subst al;exact kZ hm
 ·rcases hy _ _ _ j with⟨rfl,rfl,rfl⟩|ao
  ·rcases hy _ _ _ J with⟨e,_,_⟩|aI
   ·exact e.symm
   ·have:=(aq.sep _ _ _ aI).2.1;omega
  ·rcases hy _ _ _ J with⟨e,rfl,_⟩|aI
   ·have:=(aq.sep _ _ _ ao).2.1;omega
   ·exact aq.inj _ _ _ _ _ ao aI
 ·rcases hy _ _ _ h with⟨rfl,rfl,rfl⟩|ao
  ·refine⟨?_,by rw[hw];simp,by simp⟩;cases cd:ad w.heap.size with
   |none=>rfl
   |some aj=>have:=aq.dT _ _ cd;simp at this
  ·have:=aq.sep _ _ _ ao;exact⟨this.1,by rw[hw];simp;omega,by simp;omega⟩
 ·rcases hy _ _ _ h with⟨rfl,rfl,rfl⟩|ao
  ·exact .inl (cQ _)
  ·exact .inr ⟨_,_,ao⟩
def ps(n:Nat):vf (0,0) n:=λ k _ h=>by simp at h
def xC{w ar:World}{aj:Obj}(hw:ar.heap=w.heap.push aj):ar.heap[w.heap.size]?=some aj:=by rw[hw];simp
def TV(aq:b6 E ad ac H w){a:U}{y:Value}(r:a7 ad ac H a y)(b':(cA a).all one=true)(t:TypeId):
  ∃x ar,(Instr.box t y).run E.P w=.ok x ar∧cl E ad ac H w (H++[.box (cA a)]) ar λ aN aC=>a7 aN aC (H++[.box (cA a)]) (.ptr H.length 0 0 0) x:=by
 obtain⟨j,J,aw⟩:=tV r b';refine⟨.pointer (some ⟨w.heap.size,0,none⟩),{w with heap:=w.heap.push (.cells y.cells t)},by simp[Instr.box,newVar,newRow],?_⟩;refine Ir (ar:={w with heap:=w.heap.push (.cells y.cells t)}) aq rfl rfl rfl rfl _ (λ hm=>?_) (λ hm=>?_)
 ·exact⟨w.heap.size,y.cells,t,(0,0),by simp[fS],xC rfl,ps _,j,λ k c ah=>hm _ _ (J k c ah)⟩
 ·refine .ptr _ _ _ _ _ (by simp) (λ cells h=>⟨w.heap.size,y.cells.size,by simp[fS],rfl⟩) (λ _ _ _ h=>by simp at h) (λ _ _ _ _ h=>by simp at h) (λ _ _ h=>by simp at h) ⟨_,rfl⟩ (λ _ _ _ _ h=>by simp at h)
def ajW(aq:b6 E ad ac H w){cells:List U}{y:Value}(r:y.cells.size=cells.length∧∀(k:Nat) (a:U),cells[k]?=some a→∀aN aC ap,a7 aN aC ap a (y.cells.getD k undef))(t:TypeId):
  ∃x ar,(Instr.box t y).run E.P w=.ok x ar∧cl E ad ac H w (H++[.cZ t cells]) ar λ aN aC=>a7 aN aC (H++[.cZ t cells]) (.dA H.length) x:=by
 obtain⟨j,J⟩:=r;refine⟨.pointer (some ⟨w.heap.size,0,none⟩),{w with heap:=w.heap.push (.cells y.cells t)},by simp[Instr.box,newVar,newRow],?_⟩;refine Ir (ar:={w with heap:=w.heap.push (.cells y.cells t)}) aq rfl rfl rfl rfl _ (λ hm=>?_) (λ hm=>?_)
 ·exact⟨w.heap.size,y.cells,by simp[fS],xC rfl,j,λ k c ah=>J k c ah _ _ _⟩
 ·refine .dA _ _ (by simp) (λ _ h=>by simp at h) (λ _ _ h=>⟨w.heap.size,y.cells.size,by simp[fS],rfl⟩) (λ _ _ h=>by simp at h) rfl (λ _ _ _ _ h=>by simp at h)
def ajX{P:Program}{t:TypeId}{dZ:Value}(bg:(P.info? t).bind (·.zero)=some dZ)(h:Mp P t=true):dZ.cells.size=(HQ P t).length∧∀(k:Nat) (a:U),(HQ P t)[k]?=some a→∀ad ac H,a7 ad ac H a (dZ.cells.getD k undef):=by
 unfold Mp at h;unfold HQ;rw[bg]at h⊢;cases dZ with
 |agg cs=>
  simp only at h⊢;refine⟨by simp[sg],λ k a az ad ac H=>?_⟩;simp only[fA,c0]at az;obtain⟨x,al,rfl⟩:=az;have j:=oH.1 h x (jG al);have J:cs[k]?=some x:=by simpa using al
  have:(sg (.agg cs)).getD k undef=x:=by simp[sg,dp,J]
  rw[this];exact .i _ _ (.v _ j)
 |_=>simp at h
def zq(aq:b6 E ad ac H w){ar:World}{cs:Array Value}{elem:TypeId}{bl:Nat×Nat}(hw:ar.heap=w.heap.push (.cells cs elem bl))(b':ar.os=w.os)(bq:ar.tape=w.tape)(hu:ar.output=w.output)
  {ay:Nat}{rows:List (List aD)}{ex:Bool}(bg:0<ay)(aK:Flat ay rows)(ah:kt ad rows.flatten cs)(hle:rows.length*ay≤cs.size)(al:ex=true→cs.size=rows.length*ay)(gK:vf bl cs.size)
  {n cap:Nat}(aF:n≤rows.length)(j7:rows.length≤cap)(eX:cap*ay≤cs.size):
  cl E ad ac H w (H++[.ae ay 0 rows ex]) ar λ aN aC=>a7 aN aC (H++[.ae ay 0 rows ex]) (.ref H.length 0 0 n) (.slice (some ⟨w.heap.size,0,none⟩) n cap):=by
 refine Ir aq hw b' bq hu _ (λ hm=>?_) (λ hm=>?_)
 ·exact⟨λ e=>R,aK,.inr ⟨w.heap.size,cs,elem,bl,by simp[fS],xC hw,gK,hle,al,kt.rows aK ah⟩⟩
 ·refine .ref _ _ _ _ _ (by simp) (λ h_ c9 hK h=>?_) (λ _ _ _ h=>by simp at h) ⟨_,_,rfl⟩ (λ _ _ _ _ h=>R);simp at h;obtain⟨rfl,rfl,rfl⟩:=h;exact⟨R,_,_,rfl,.inr ⟨w.heap.size,cs.size,by simp[fS],R,by simpa using eX,.inl (by simp)⟩⟩
def cl.trans{ap nw:aa}{ar q3:World}{Q xz:cb→b9→Prop}(h:cl E ad ac H w ap ar Q)(k:∀aN aC,b6 E aN aC ap ar→ad.le aN→fb ad ac H aN aC ap→Q aN aC→cl E aN aC ap ar nw q3 xz):cl E ad ac H w nw q3 xz:=by obtain⟨aN,aC,j,J,aw,bb⟩:=h;obtain⟨sb,sc,bG,bH,cG,eZ⟩:=k aN aC j J.dT aw bb;exact⟨sb,sc,bG,J.trans bH,aw.trans cG,eZ⟩
def It:∀{ad:cb} {ac:b9} {H:aa} (aq:b6 E ad ac H w) {l:List U} (f:Nat→Value) (r:∀(k:Nat) (a:U),l[k]?=some a→a7 ad ac H a (f k)) {xs:List aD} {ap:aa} (h:fI H l=some (xs,ap)),
  cl E ad ac H w ap w λ aN aC=>xs.length=l.length∧∀(k:Nat) (x:aD),xs[k]?=some x→ds aN x (f k)
 |ad,ac,H,aq,[],f,r,xs,ap,h=>by simp only[fI,bj,bA]at h;obtain⟨rfl,rfl⟩:=h;exact cl.refl aq ⟨rfl,λ k x al=>by simp at al⟩
 |ad,ac,H,aq,a::l,f,r,xs,ap,h=>by
  simp only[fI]at h;split at h
  ·rename_i x H1 j;split at h
   ·rename_i cS bx J;simp only[bj,bA]at h;obtain⟨rfl,rfl⟩:=h;refine(zp aq (r 0 a rfl) j).trans λ ej dY dt _ hm al=>?_
    refine(It dt (λ k=>f (k+1)) (λ k b ak=>hm _ _ (r (k+1) b (by simpa using ak))) J).imp λ e2 ez cd _ aZ=>?_
    refine⟨by simp[aZ.1],λ k y az=>?_⟩;cases k with
    |zero=>simp at az;subst az;exact al.mono cd
    |succ k=>exact aZ.2 k y (by simpa using az)
   ·cases h
  ·cases h
def zr{ad:cb}{k:Option Nat}{x:aD}{v:Value}(r:ds ad x v):ds ad (h7 k x) v:=by
 cases k with
 |none=>cases x<;>exact r
 |some z=>
  cases x with
  |ae ay rows ex=>
   have MZ:∀M0,(rows=[]∨M0=ay)→ds ad (.ae M0 rows false) v:=by
    intro M0 aS;cases r with
    |nil _ _ a cap h=>exact .nil _ _ _ _ (λ h=>by cases h)
    |ae _ _ _ b off cap cs elem bl dB cd ah al ai j J=>
     rcases aS with aS|rfl
     ·subst aS;exact .nil _ _ _ _ (λ h=>by cases h)
     ·exact .ae _ _ _ b off cap cs elem bl dB cd ah (λ h=>by cases h) ai j J
   simp only[h7];split
   ·rename_i e;subst e;exact MZ _ (.inr rfl)
   ·split
    ·rename_i e;subst e;exact MZ _ (.inl rfl)
    ·exact MZ _ (.inr rfl)
  |_=>exact r
def Iu:∀(bs:List (Option Nat)) (l:List aD),(hW bs l).length=l.length
 |[],l=>rfl
 |k::bs,[]=>rfl
 |k::bs,x::l=>by simp[hW,Iu bs l]
def M1:∀(bs:List (Option Nat)) (l:List aD) (i:Nat) (y:aD),(hW bs l)[i]?=some y→∃k x,l[i]?=some x∧y=h7 k x
 |[],l,i,y,h=>⟨none,y,h,by cases y<;>rfl⟩
 |k::bs,[],i,y,h=>by simp[hW]at h
 |k::bs,x::l,0,y,h=>by simp[hW]at h;exact⟨k,x,rfl,h.symm⟩
 |k::bs,x::l,i+1,y,h=>by simpa using M1 bs l i y (by simpa[hW]using h)
def M2{ad:cb}{bs:List (Option Nat)}{xs:List aD}{n:Nat}{f:Nat→Value}(h:xs.length=n∧∀(k:Nat) (x:aD),xs[k]?=some x→ds ad x (f k)):(hW bs xs).length=n∧∀(k:Nat) (x:aD),(hW bs xs)[k]?=some x→ds ad x (f k):=
 ⟨by rw[Iu];exact h.1,λ k x al=>by obtain⟨aj,y,aZ,rfl⟩:=M1 _ _ _ _ al;exact zr (h.2 k y aZ)⟩
def TW(z:Nat):∀(n:Nat) (l:List aD),l.length=n*z→(pk z n l).length=n∧(pk z n l).flatten=l∧Flat z (pk z n l)
 |0,l,h=>by
  have:l=[]:=by simpa using h
  subst this;exact⟨rfl,rfl,λ i r aA=>by simp[pk]at aA⟩
 |n+1,l,h=>by
  obtain⟨j,J,aw⟩:=TW z n (l.drop z) (by simp[h,hj]);refine⟨by simp[pk,j],by simp[pk,J],λ i r aA=>?_⟩;cases i with
  |zero=>simp[pk]at aA;subst aA;simp;rw[h,hj];omega
  |succ i=>exact aw i r (by simpa[pk]using aA)
def ajY{l:List U}{cs:Array Value}(h:tW ad ac H l cs)(n:Nat)(bg:0<l.length):
  tW ad ac H (cy n l).flatten ((Iv (n*l.length)).map (cs[·%cs.size]!)):=by
 refine⟨by simp,λ k a aB=>?_⟩;have az:k<n*l.length:=by have:=(bF.1 aB).1;simpa using this
 have e:k/l.length*l.length+k%l.length=k:=by rw[vi];exact zi _ _
 have bf:k/l.length<n:=(H9 bg).2 az;rw[←e,H8 l n _ _ bf (EN _ bg)]at aB;have:=h.2 _ _ aB;have J:((Iv (n*l.length)).map (cs[·%cs.size]!)).getD k undef=cs.getD (k%l.length) undef:=by
  have hm:k%l.length<cs.size:=by rw[h.1];exact EN _ bg
  rw[dp,dp];simp[az,h.1];rw[getElem!_pos cs _ hm,q9 hm];rfl
 rw[J];exact this
def TX(aq:b6 E ad ac H w){t:TypeId}{n:Nat}{bm:List (Nat×U)}{jF:Array (Nat×Value)}{v:U}{ap:aa}(h:kT E H t n bm=some (v,ap))(av:BL ad ac H bm jF.toList):
  ∃x ar,(Iw t n jF).run E.P w=.ok x ar∧cl E ad ac H w ap ar λ aN aC=>a7 aN aC ap v x:=by
 unfold kT at h;split at h;rotate_left
 ·cases h
 rename_i e he;split at h;rotate_left
 ·cases h
 rename_i z zero bg hzero;split at h;rotate_left
 ·cases h
 rename_i ah;obtain⟨gL,fq,xD⟩:=ah;split at h;rotate_left
 ·cases h
 rename_i cells Ix;split at h;rotate_left
 ·cases h
 rename_i xs H1 gN;simp only[bj,bA]at h;obtain⟨rfl,rfl⟩:=h;obtain⟨Iy,pt⟩:=xD;obtain⟨dZ,xy,sZ⟩:=xx hzero w;have Ii:a7 ad ac H zero dZ:=by rw[sZ];exact sY dZ
 have M3:tW ad ac H (cA zero) dZ.cells:=⟨(tV Ii pt).1,(tV Ii pt).2.1⟩;have xE:=ajY M3 n (by rw[fq];exact Iy);rw[fq]at xE;obtain⟨cI,lU,eM⟩:=MP av xE Ix;have cg:cells.length=n*z:=by
  have:∀(bm:List (Nat×U)) (l out:List U),fW z l bm=some out→out.length=l.length:=by
   intro bm;induction bm with
   |nil=>intro l out h;simp[fW]at h;rw[h]
   |cons p bm a8=>
    intro l out h;obtain⟨i,a⟩:=p;simp only[fW]at h;split at h
    ·rename_i az;rw[a8 _ _ h,MO R]
    ·cases h
  rw[this _ _ _ Ix];simp[fq]
 have ajZ:cI.size=n*z:=by rw[eM.1,cg]
 refine⟨.slice (some ⟨w.heap.size,0,none⟩) n n,{w with heap:=w.heap.push (.cells cI e)},?_,?_⟩
 ·have aj0:¬(n*z>2^24):=R;by_cases aV:n*z=0
  ·have aF:n=0:=by
    rcases Nat.mul_eq_zero.1 aV with j|j
    ·exact j
    ·omega
   subst aF;have aj1:Ih (λ i=>some (i*z,z)) #[] jF.toList=some cI:=by rw[←lU];congr 1;simp
   simp only[Iw,dU,run_underlying (h' he),ek,(gJ bg w).1];have c8:∀f:Nat→Value,(Iv 0).map f=#[]:=λ f=>by simp
   simp only[aV,c8,if_true,eL,ek,aj1];simp[newRow]
  ·simp only[Iw,dU,run_underlying (h' he),ek,(gJ bg w).1,aj0,if_false,aV,xy,eL];rw[lU];simp[newRow]
 ·refine(It aq (λ k=>cI.getD k undef) eM.2 gN).trans λ ej dY dt TY hb al=>?_
  have al:=M2 (bs:=(cy n (E.kinds e)).flatten) al;obtain⟨ca,cc,c3⟩:=TW z n (hW (cy n (E.kinds e)).flatten xs) (by rw[al.1,cg]);have:=zq (ar:={w with heap:=w.heap.push (.cells cI e)}) dt rfl rfl rfl rfl (ex:=true) (n:=n) (cap:=n) Iy c3 (by rw[cc];exact al.2) (by rw[ca];omega) (λ _=>by rw[ca];exact ajZ) (ps _) R R R;exact this
def vp(P:Program)(b aj:Nat)(elem:TypeId)(bl:Nat×Nat):∀(vs:List Value) (i:Nat) (lY:Array Value) (w:World),w.heap[b]?=some (.cells lY elem bl)→vf bl lY.size→aj+i+vs.length≤lY.size→
  (∀v∈vs,v.oneCell'=true)→∃ar hL,(storeCells ⟨b,aj,none⟩ vs i).run P w=.ok () ar∧ar.heap[b]?=some (.cells hL elem bl)∧(∀bV,bV≠b→ar.heap[bV]?=w.heap[bV]?)∧ar.heap.size=w.heap.size∧
   ar.os=w.os∧ar.tape=w.tape∧ar.output=w.output∧hL.size=lY.size∧∀k,hL[k]?=if aj+i≤k∧k<aj+i+vs.length then vs[k-(aj+i)]? else lY[k]?
 |[],i,lY,w,hw,_,_,_=>⟨w,lY,by simp[storeCells],hw,λ _ _=>rfl,rfl,rfl,rfl,rfl,rfl,λ k=>by rw[if_neg (by simp only[dx];omega)]⟩
 |v::vs,i,lY,w,hw,gK,hle,pu=>by
  simp only[cT]at hle;have bf:aj+i<lY.size:=R;have el:w.cell? ⟨b,aj+i,none⟩=some lY[aj+i]:=by rw[cell_of hw];simp[bf]
  have gN:w.frozen? ⟨b,aj+i,none⟩=false:=by simp only[World.frozen?,hw];have:=gK (aj+i) bf;simpa using this
  let gg:World:=w.setCell ⟨b,aj+i,none⟩ v
  have xF:gg.heap[b]?=some (.cells (lY.setIfInBounds (aj+i) v) elem bl):=by simp[gg,World.setCell,Array.getElem?_modify,hw]
  have nz:∀bV,bV≠b→gg.heap[bV]?=w.heap[bV]?:=by intro bV ak;simp[gg,World.setCell,Array.getElem?_modify,ba ak]
  obtain⟨ar,hL,j,J,aw,bb,bu,dw,gx,gD,gy⟩:=vp P b aj elem bl vs (i+1) (lY.setIfInBounds (aj+i) v) gg xF (by simpa using gK) (by rw[Array.size_setIfInBounds];omega) (λ x al=>pu x (by simp[al]));refine⟨ar,hL,?_,J,λ bV ak=>by rw[aw bV ak,nz bV ak],by rw[bb];simp[gg,World.setCell],bu,dw,gx,by rw[gD];simp,λ k=>?_⟩
  ·simp only[storeCells,dU,lk];rw[run_store _ _ _ _ _ (pu v (by simp)),el,gN];exact j
  ·rw[gy];by_cases az:k=aj+i
   ·subst az;rw[if_neg R,if_pos (by constructor<;>simp)];simp[bf]
   ·by_cases ai:aj+(i+1)≤k∧k<aj+(i+1)+vs.length
    ·rw[if_pos ai,if_pos (by simp;omega)];rw[show k-(aj+i)=(k-(aj+(i+1)))+1 by omega];simp
    ·rw[if_neg ai,if_neg (by simp;omega)];rw[Array.getElem?_setIfInBounds_ne R]
def wrote(aq:b6 E ad ac H w){ar:World}{c b n:Nat}(cf:ac c=some (b,n)){b7 ET:Chunk}(aQ:H[c]?=some ET)(nz:∀bV,bV≠b→ar.heap[bV]?=w.heap[bV]?)(ey:ar.heap.size=w.heap.size)(b':ar.os=w.os)(bq:ar.tape=w.tape)(hu:ar.output=w.output)
  (gS:jc ad ac H ad ac (H.set c b7) c)(kZ:fb ad ac H ad ac (H.set c b7)→oD ad ac (H.set c b7) ar c b7){Q:cb→b9→Prop}(eY:fb ad ac H ad ac (H.set c b7)→Q ad ac):cl E ad ac H w (H.set c b7) ar Q:=by
 have cg:c<H.length:=(bF.1 aQ).1;have hm:fb ad ac H ad ac (H.set c b7):=by
  refine mV (λ _ _ h=>h) (by simp) λ d aM=>?_
  by_cases eM:d=c
  ·subst eM;exact gS
  ·exact jc.same (by rw[dC (ba eM)]) (λ _=>rfl)
 have tX:ad b=none:=(aq.sep _ _ _ cf).1;refine⟨ad,ac,⟨λ bV aj ak=>?_,λ d x aM=>?_,aq.inj,λ d bV dO aM=>?_,aq.e_⟩,⟨b',bq,hu,by rw[ey];exact cQ _,λ bV ak aF=>nz bV (λ e=>aF c n (e▸cf)),λ _ _ h=>h,λ _ h=>.inl h,λ _ _ _ h=>.inr ⟨_,_,h⟩⟩,hm,eY hm⟩
 ·have fg:bV≠b:=λ e=>by subst e;rw[tX]at ak;cases ak
  rw[nz _ fg];exact aq.dT _ _ ak
 ·rcases fB aM with⟨rfl,rfl⟩|⟨j,J⟩
  ·exact kZ hm
  ·exact(aq.b7 _ _ J).mono (λ _=>rfl) (λ _ _ h=>h) hm λ r bV dO aw=>nz _ λ e=>j (congrArg fj.c (aq.inj _ _ _ _ _ (e▸aw) cf))
 ·have:=aq.sep _ _ _ aM;exact⟨this.1,by rw[ey];exact this.2.1,by simpa using this.2.2⟩
def EU(aq:b6 E ad ac H w){ar:World}{ap:aa}{aC:b9}(gS:∀c,c<H.length→jc ad ac H ad aC ap c)(hlen:H.length≤ap.length)
  (kZ:fb ad ac H ad aC ap→∀c x,ap[c]?=some x→oD ad aC ap ar c x)(gN:∀b,b<w.heap.size→(∀(i:fj) n,ac i≠some (b,n))→ar.heap[b]?=w.heap[b]?)
  (ey:w.heap.size≤ar.heap.size)(b':ar.os=w.os)(bq:ar.tape=w.tape)(hu:ar.output=w.output)(ku:∀(i:fj) b n,aC i=some (b,n)→w.heap.size≤b∨∃(ab:fj) (m:Nat),ac ab=some (b,m))
  (bf:∀(i:fj) b n,aC i=some (b,n)→b<ar.heap.size∧i.c<ap.length)(EV:∀(i ab:fj) b n dO,aC i=some (b,n)→aC ab=some (b,dO)→i=ab)
  {Q:cb→b9→Prop}(eY:fb ad ac H ad aC ap→Q ad aC):cl E ad ac H w ap ar Q:=by
 have hm:=mV (λ _ _ h=>h) hlen gS;have cd:∀b aj,ad b=some aj→b<w.heap.size:=λ b aj h=>(j6.1 (aq.dT b aj h)).1
 refine⟨ad,aC,⟨λ b aj ak=>?_,kZ hm,EV,λ i b n h=>⟨?_,bf i b n h⟩,aq.e_⟩,⟨b',bq,hu,ey,gN,λ _ _ h=>h,λ b h=>.inl h,ku⟩,hm,eY hm⟩
 ·rw[gN b (cd b aj ak) λ i n h=>by rw[(aq.sep _ _ _ h).1]at ak;cases ak];exact aq.dT b aj ak
 ·rcases ku i b n h with j|⟨ab,m,j⟩
  ·cases ak:ad b with
   |none=>rfl
   |some aj=>have:=cd b aj ak;omega
  ·exact(aq.sep _ _ _ j).1
def TZ(aq:b6 E ad ac H w){t:TypeId}{c z g s r:Nat}{rows:List bS}(aQ:H[c]?=some (.ax z g s rows))(ai:r<rows.length)(Iz:fM E.P t=some 1){v:Value}(bi:v.oneCell'=true){p:Value}
  (av:∃b n,ac c=some (b,n)∧p=.pointer (some ⟨b,r,none⟩)){oI:aa}{aC:b9}{y:bS}(aV:oI.length=H.length)
  (nz:∀e,e≠c→(oI[e]?=H[e]?∧∀q,aC ⟨e,q⟩=ac ⟨e,q⟩)∨(oI[e]?=some .gone∧aC ⟨e,0⟩=none))(gf:aC ⟨c,0⟩=ac ⟨c,0⟩)(aj2:∀q,q≠r→aC ⟨c,q+1⟩=ac ⟨c,q+1⟩)
  (ku:∀(i:fj) b n,aC i=some (b,n)→(∃(ab:fj) (m:Nat),ac ab=some (b,m))∧i.c<H.length)(EV:∀(i ab:fj) b n dO,aC i=some (b,n)→aC ab=some (b,dO)→i=ab)
  (aZ:∀ar:World,(∀b,(∀n,ac c≠some (b,n))→ar.heap[b]?=w.heap[b]?)→mj ad aC ar z c r y v):
  ∃ar,(xG t p v).run E.P w=.ok () ar∧cl E ad ac H w (oI.set c (.ax z g (s+1) (rows.set r y))) ar λ _ _=>True:=by
 obtain⟨b,n,cf,rfl⟩:=av;have cg:c<H.length:=(bF.1 aQ).1;rcases aq.b7 _ _ aQ with⟨aF,_⟩|⟨bV,cs,elem,bl,g',hw,gK,hle,el⟩
 ·rw[cf]at aF;cases aF
 rw[cf]at g';cases g';have aj3:v.cells=#[v]:=by cases v<;>simp_all [sg,MN]
 obtain⟨ar,hL,j,J,aw,bb,bu,dw,gx,gD,gy⟩:=vp E.P b r elem bl [v] 0 cs w hw gK (by simp;omega) (λ x al=>by simp at al;subst al;exact bi);refine⟨ar,?_,?_⟩
 ·simp[xG,zc,storeVar,(gJ Iz w).1,aj3,j]
 have kv:∀ab,hL.getD ab undef=if ab=r then v else cs.getD ab undef:=by
  intro ab;rw[dp,gy];simp only[fc,cX,cq];by_cases a':ab=r
  ·subst a';simp
  ·rw[if_neg R,if_neg a',dp]
 have ak:∀dE,(∀n,ac c≠some (dE,n))→ar.heap[dE]?=w.heap[dE]?:=λ dE h=>aw dE λ e=>h _ (e▸cf)
 have IA:∀(i:Nat) (d:bS),(rows.set r y)[i]?=some d→(i=r∧d=y)∨(i≠r∧rows[i]?=some d):=by
  intro i d aA;by_cases ny:i=r
  ·subst ny;rw[ks ai]at aA;cases aA;exact .inl ⟨rfl,rfl⟩
  ·rw[dC (ba ny)]at aA;exact .inr ⟨ny,aA⟩
 refine EU aq (aC:=aC) (λ e he=>?_) (by simp[aV]) (λ hm e x al=>?_) (λ dE _ aF=>ak dE λ n=>aF c n) (by rw[bb];exact cQ _) bu dw gx (λ i dE n h=>.inr (ku i dE n h).1)
  (λ i dE n h=>?_) EV (λ _=>trivial)
 ·by_cases jH:e=c
  ·subst jH;intro x al;rcases fB al with⟨_,rfl⟩|⟨ao,_⟩
   ·intro db aY dH eF ll;rcases fB ll with⟨_,aI⟩|⟨aI,_⟩
    ·cases aI;exact .inl ⟨s,rows,aQ,gf,by simp,.inl R⟩
    ·exact absurd rfl aI
   ·exact absurd rfl ao
  ·rcases nz e jH with⟨ch,cw⟩|⟨ch,cw⟩
   ·exact jc.same (by rw[dC (ba jH)];exact ch) cw
   ·intro x al;rw[dC (ba jH),ch]at al;cases al;trivial
 ·rcases fB al with⟨rfl,rfl⟩|⟨jH,lR⟩
  ·refine .inr ⟨b,hL,elem,bl,by rw[gD,←cf];exact gf,J,by rw[gD];exact gK,by rw[gD];simpa using hle,λ i d aA=>?_⟩;rw[kv];rcases IA _ _ aA with⟨rfl,rfl⟩|⟨ny,EI⟩
   ·rw[if_pos rfl];exact aZ ar ak
   ·rw[if_neg ny];refine(el _ _ EI).mono (aj2 _ ny) (λ _ _ h=>h) λ dE n h=>aw dE ?_
    rintro rfl;have:=aq.inj _ _ _ _ _ h cf;simp at this
  ·rcases nz e jH with⟨ch,cw⟩|⟨ch,cw⟩
   ·rw[ch]at lR;refine(aq.b7 _ _ lR).mono cw (λ _ _ h=>h) hm λ q dE n h=>aw dE ?_
    rintro rfl;exact jH (congrArg fj.c (aq.inj _ _ _ _ _ h cf))
   ·rw[ch]at lR;cases lR;exact cw
 ·obtain⟨⟨ab,m,ch⟩,cw⟩:=ku i dE n h;exact⟨by rw[bb];exact(aq.sep _ _ _ ch).2.1,by simpa[aV]using cw⟩
def T0(aq:b6 E ad ac H w){d z g:Nat}{bR:List (List aD)}{ex:Bool}(aQ:H[d]?=some (.ae z g bR ex))(bg:0<z){v:Value}(bi:a7 ad ac H (.ref d g 0 bR.length) v){aC:b9}{c r:Nat}(he:aC ⟨c,r+1⟩=ac ⟨d,0⟩)
  {ar:World}(hw:∀b n,ac ⟨d,0⟩=some (b,n)→ar.heap[b]?=w.heap[b]?):mj ad aC ar z c r (.own bR) v:=by
 obtain⟨pr,hk,fm⟩:=aq.b7 _ _ aQ;refine⟨hk,?_⟩;cases bi with
 |ref _ _ _ _ _ ah aS aK av aP=>
  obtain⟨_,a,cap,rfl,J⟩:=aS _ _ _ aQ;rcases fm with⟨aF,aV⟩|⟨b,cs,elem,bl,cf,aj4,gK,hle,_,el⟩
  ·subst aV;exact .inl ⟨rfl,a,cap,rfl⟩
  ·rcases J with⟨pw,_⟩|⟨dE,gr,pw,ch,cw,fl⟩
   ·rw[cf]at pw;cases pw
   ·rw[cf]at pw;cases pw;rcases fl with rfl|⟨fl,_⟩
    ·refine .inr ⟨b,cs,elem,bl,by rw[he];exact cf,⟨cap,by simp,R,by simpa using cw⟩,by rw[hw _ _ cf];exact aj4,gK,bg,el⟩
    ·have:bR=[]:=qe.1 fl;subst this;exact .inl ⟨rfl,a,cap,rfl⟩
def T1(aq:b6 E ad ac H w){z:Nat}{v:U}{x:Value}(jf:a7 ad ac H v x){y:bS}{H1:aa}(h:tI z (freeze H v)=some (y,H1)):
  ∃q,y=.dG q∧cl E ad ac H w H1 w λ aN _=>ds aN q x:=by
 unfold tI at h;split at h
 ·rename_i q bx aK;simp only[bj,bA]at h;obtain⟨rfl,rfl⟩:=h;exact⟨_,rfl,(zp aq jf aK).imp λ _ _ _ _ bn=>zr bn⟩
 ·cases h
def T2(aq:b6 E ad ac H w){z:Nat}{v:U}{x:Value}(jf:a7 ad ac H v x){y:bS}{H1:aa}(h:p8 H z v=some (y,H1)):
  (∃q,y=.dG q∧cl E ad ac H w H1 w λ aN _=>ds aN q x)∨∃d g bR ex,v=.ref d g 0 bR.length∧H[d]?=some (.ae z g bR ex)∧0<z∧y=.own bR∧H1=H.set d .gone:=by
 unfold p8 at h;split at h
 ·rename_i d g len;unfold Bp at h;split at h
  ·rename_i db aY bR ex aQ;split at h
   ·rename_i ah;obtain⟨rfl,bg,rfl,rfl⟩:=ah;simp only[bj,bA]at h;obtain⟨rfl,rfl⟩:=h;exact .inr ⟨d,g,bR,ex,rfl,aQ,bg,rfl,rfl⟩
   ·cases h
  ·exact .inl (T1 aq jf h)
 ·exact .inl (T1 aq jf h)
def xH{k:cP}{v:Value}(h:a7 ad ac H (.x k) v):kX ac H k v:=by cases h;assumption
def aj5(aq:b6 E ad ac H w){t:TypeId}{c g r:Nat}{v:U}{y x:Value}{ap:aa}(Iz:fM E.P t=some 1)(pu:one v=true)(di:kX ac H (.e c g r) y)(jf:a7 ad ac H v x)(h:w5 H c g r v H[c]?=some ap):
  ∃ar,(xG t y x).run E.P w=.ok () ar∧cl E ad ac H w ap ar λ _ _=>True:=by
 unfold w5 at h;split at h;rotate_left
 ·cases h
 rename_i z g0 dn hh vq;unfold w4 at h;split at h;rotate_left
 ·cases h
 rename_i q H1 bZ;split at h;rotate_left
 ·cases h
 rename_i fr g1 s rows vo;split at h;rotate_left
 ·cases h
 rename_i ah;obtain⟨rfl,ai⟩:=ah;simp only[bj]at h;subst h;have lR:x.oneCell'=true:=H2 jf pu;rcases T2 aq jf bZ with⟨a,rfl,b0⟩|⟨d,g2,bR,ex,rfl,aM,bg,rfl,rfl⟩
 ·obtain⟨ej,dY,dt,lW,hb,aB⟩:=b0;have M4:=xH (hb _ _ (.x _ _ di (.ne nofun)));have av:=(M4.2.2 _ _ _ _ vo).2 rfl
  let aC:b9:=λ i=>if i=⟨c,r+1⟩then none else dY i
  have lp:∀i b n,aC i=some (b,n)→dY i=some (b,n):=by
   intro i b n h;simp only[aC]at h;split at h
   ·cases h
   ·exact h
  obtain⟨ar,bG,bH⟩:=TZ dt (t:=t) (aC:=aC) (y:=.dG a) (oI:=H1) vo ai Iz lR av rfl (λ e he=>.inl ⟨rfl,λ q=>by simp[aC,he]⟩) (by simp[aC]) (λ q bn=>by simp[aC,bn])
   (λ i b n h=>⟨⟨_,_,lp _ _ _ h⟩,(dt.sep _ _ _ (lp _ _ _ h)).2.2⟩) (λ i ab b n dO j J=>dt.inj _ _ _ _ _ (lp _ _ _ j) (lp _ _ _ J)) (λ _ _=>aB)
  obtain⟨e2,ez,tY,s4,gq,_⟩:=bH;exact⟨ar,bG,e2,ez,tY,lW.trans s4,hb.trans gq,trivial⟩
 ·have eM:d≠c:=by rintro rfl;rw[aM]at vq;cases vq
  have nA:H[c]?=some (.ax fr g s rows):=by rw[dC eM]at vo;exact vo
  have aj6:fr=z:=by rw[nA]at vq;cases vq;rfl
  subst aj6;have av:=(di.2.2 _ _ _ _ nA).2 rfl;have cg:c<H.length:=(bF.1 nA).1
  let aC:b9:=λ i=>if i=⟨c,r+1⟩then ac ⟨d,0⟩else if i=⟨d,0⟩then none else ac i
  have vr:∀i b n,aC i=some (b,n)→(i=⟨c,r+1⟩∧ac ⟨d,0⟩=some (b,n))∨(i≠⟨c,r+1⟩∧i≠⟨d,0⟩∧ac i=some (b,n)):=by
   intro i b n h;simp only[aC]at h;split at h
   ·rename_i aA;exact .inl ⟨aA,h⟩
   ·rename_i aA;split at h
    ·cases h
    ·rename_i zh;exact .inr ⟨aA,zh,h⟩
  refine TZ aq (t:=t) (aC:=aC) (y:=.own bR) (oI:=H.set d .gone) nA ai Iz lR av (by simp) (λ e he=>?_) (by simp[aC,ba eM]) (λ q bn=>by simp[aC,bn]) (λ i b n h=>?_) (λ i ab b n dO j J=>?_) (λ ar hw=>?_)
  ·by_cases px:e=d
   ·subst px;exact .inr ⟨by simp[(bF.1 aM).1],by simp[aC,eM]⟩
   ·exact .inl ⟨by rw[dC (ba px)],λ q=>by simp[aC,he,px]⟩
  ·rcases vr _ _ _ h with⟨rfl,j⟩|⟨_,_,j⟩
   ·exact⟨⟨_,_,j⟩,cg⟩
   ·exact⟨⟨_,_,j⟩,(aq.sep _ _ _ j).2.2⟩
  ·rcases vr _ _ _ j with⟨rfl,ao⟩|⟨ch,cw,ao⟩
   ·rcases vr _ _ _ J with⟨rfl,aI⟩|⟨fl,jb,aI⟩
    ·rfl
    ·exact absurd (aq.inj _ _ _ _ _ aI ao) jb
   ·rcases vr _ _ _ J with⟨rfl,aI⟩|⟨fl,jb,aI⟩
    ·exact absurd (aq.inj _ _ _ _ _ ao aI) cw
    ·exact aq.inj _ _ _ _ _ ao aI
  ·refine T0 aq aM bg jf (by simp[aC]) λ b n h=>hw b λ dO h9=>?_
   exact eM (aq.ajm h h9)
def T3:∀{l:List U} {xs:List aD},kS l=some xs→l=kP xs
 |[],xs,h=>by simp only[kS,bj]at h;subst h;rfl
 |a::l,xs,h=>by
  cases a with
  |i x=>simp only[kS,c0]at h;obtain⟨cS,aZ,rfl⟩:=h;rw[T3 aZ];rfl
  |_=>simp[kS]at h
def aj7(aq:b6 E ad ac H w){t:TypeId}{n c g s r i k:Nat}{v:U}{y x:Value}{ap:aa}(aF:fM E.P t=some n)(s6:(cA v).length=n)(pu:(cA v).all one=true)(di:kX ac H (.p c g s r i k) y)(jf:a7 ad ac H v x)
  (h:w6 E H t n c g s r i k v H[c]?=some ap):∃ar,(xG t y x).run E.P w=.ok () ar∧cl E ad ac H w ap ar λ _ _=>True:=by
 unfold w6 at h;split at h;rotate_left
 ·cases h
 rename_i z aY dH rows aQ;split at h;rotate_left
 ·cases h
 rename_i ah;obtain⟨rfl,rfl,az⟩:=ah;split at h;rotate_left
 ·cases h
 rename_i bR ai;split at h;rotate_left
 ·cases h
 rename_i row xs bZ M5;simp only[bj]at h;subst h;have cg:c<H.length:=(bF.1 aQ).1;have fe:r<rows.length:=(bF.1 ai).1;have zs:=(bF.1 bZ).1;obtain⟨fr,z2,z3⟩:=tV jf pu;obtain⟨b,m,cf,rfl⟩:=(di.2.2 _ _ _ _ aQ).2 rfl rfl _ ai zs;have qm:=T3 M5;have aj8:xs.length=n:=by rw[←s6,qm];simp[kP]
 have zt:xs.length=n∧∀(ab:Nat) (q:aD),xs[ab]?=some q→ds ad q (x.cells.getD ab undef):=⟨aj8,λ ab q bn=>iI (z2 ab (.i q) (by rw[qm];simp[kP,bn]))⟩;obtain⟨lR,ze⟩:=M2 (bs:=E.kinds t) zt;generalize hW (E.kinds t) xs=cS at*;rcases aq.b7 _ _ aQ with⟨_,aV⟩|⟨cV,xA,c8,MU,Im,m_,MV,MW,BO⟩
 ·subst aV;simp at ai
 obtain⟨hk,fm⟩:=BO _ _ ai;rcases fm with⟨rfl,_⟩|⟨bV,cs,elem,bl,g',bi,hw,gK,bg,el⟩
 ·simp at zs
 rw[cf]at g';cases g';have aj9:=hk _ _ bZ;have hy:i*z+z≤cs.size:=by obtain⟨cap,_,c7,eS⟩:=bi;have:(i+1)*z≤cap*z:=j5 _ R;rw[hj]at this;omega
 have sj:∀q∈x.cells.toList,q.oneCell'=true:=by intro q bn;obtain⟨ab,a',rfl⟩:=EW bn;have:=z3 ab (by simpa using a');simpa[dp,show ab<x.cells.size by simpa using a']using this
 have t_:x.cells.size=n:=by rw[fr,s6]
 obtain⟨ar,hL,j,J,aw,bb,bu,dw,gx,gD,gy⟩:=vp E.P b (i*z+k) elem bl x.cells.toList 0 cs w hw gK (by simp;omega) sj;refine⟨ar,by simp[xG,zc,storeVar,(gJ aF w).1,t_,j],?_⟩;have kv:∀ab,hL.getD ab undef=if i*z+k≤ab∧ab<i*z+k+n then x.cells.getD (ab-(i*z+k)) undef else cs.getD ab undef:=by
  intro ab;rw[dp,gy];simp only[fc,vl,t_];split
  ·rw[mW,dp]
  ·rw[dp]
 have IA:∀(ab:Nat) (d:bS),(rows.set r (.own (bR.set i (row.take k++cS++row.drop (k+n)))))[ab]?=some d→(ab=r∧d=.own (bR.set i (row.take k++cS++row.drop (k+n))))∨(ab≠r∧rows[ab]?=some d):=by
  intro ab d a';by_cases EX:ab=r
  ·subst EX;rw[ks fe]at a';cases a';exact .inl ⟨rfl,rfl⟩
  ·rw[dC (ba EX)]at a';exact .inr ⟨EX,a'⟩
 have fX:∀(ab:Nat) (ht:List aD),(bR.set i (row.take k++cS++row.drop (k+n)))[ab]?=some ht→(ab=i∧ht=row.take k++cS++row.drop (k+n))∨(ab≠i∧bR[ab]?=some ht):=by
  intro ab ht a';by_cases q_:ab=i
  ·subst q_;rw[ks zs]at a';cases a';exact .inl ⟨rfl,rfl⟩
  ·rw[dC (ba q_)]at a';exact .inr ⟨q_,a'⟩
 refine EU aq (aC:=ac) (λ e he=>?_) (by simp) (λ hm e q bn=>?_) (λ dE _ aF=>aw dE λ e=>aF _ _ (e▸cf)) (by rw[bb];exact cQ _) bu dw gx (λ i dE n h=>.inr ⟨_,_,h⟩)
  (λ i dE n h=>by have:=aq.sep _ _ _ h;exact⟨by rw[bb];exact this.2.1,by simpa using this.2.2⟩) aq.inj (λ _=>trivial)
 ·by_cases jH:e=c
  ·subst jH;intro q bn;rcases fB bn with⟨_,rfl⟩|⟨ao,_⟩
   ·intro db aY dH eF ll;rcases fB ll with⟨_,aI⟩|⟨aI,_⟩
    ·cases aI;refine .inl ⟨s,rows,aQ,rfl,by simp,.inr ⟨rfl,λ ab qd a'=>?_⟩⟩;rcases IA _ _ a' with⟨rfl,bE⟩|⟨_,EY⟩
     ·cases bE;exact⟨bR,ai,by simp,rfl⟩
     ·exact⟨qd,EY,rfl,rfl⟩
    ·exact absurd rfl aI
   ·exact absurd rfl ao
  ·exact jc.same (by rw[dC (ba jH)]) (λ _=>rfl)
 ·rcases fB bn with⟨rfl,rfl⟩|⟨jH,aj_⟩
  ·have fg:cV≠b:=by rintro rfl;have:=aq.inj _ _ _ _ _ cf Im;simp at this
   refine .inr ⟨cV,xA,c8,MU,Im,by rw[aw cV fg];exact m_,MV,by simpa using MW,λ ab d a'=>?_⟩;rcases IA _ _ a' with⟨rfl,rfl⟩|⟨EX,EY⟩
   ·refine⟨λ zu aj' mo=>?_,.inr ⟨b,hL,elem,bl,by rw[gD];exact cf,?_,J,by rw[gD];exact gK,bg,λ zu aj' fQ a mo aB=>?_⟩⟩
    ·rcases fX _ _ mo with⟨rfl,rfl⟩|⟨_,h⟩
     ·simp[lR,aj9];omega
     ·exact hk _ _ h
    ·rw[gD,jI];exact bi
    ·rcases fX _ _ mo with⟨rfl,rfl⟩|⟨ny,h⟩
     ·rw[kv];by_cases ao:fQ<k
      ·rw[if_neg R];rw[dV,en (by simp;omega),nZ,if_pos ao]at aB;exact el _ _ _ _ bZ aB
      ·by_cases aI:fQ<k+n
       ·rw[if_pos R,show zu*z+fQ-(zu*z+k)=fQ-k by omega];rw[dV,ha (by simp;omega),en (by simp;omega)]at aB;have bE:fQ-(eo k row).length=fQ-k:=by simp;omega
        rw[bE]at aB;exact ze _ _ aB
       ·rw[if_neg R];rw[dV,ha (by simp;omega),ha (by simp;omega),q5]at aB;have bE:k+n+(fQ-(eo k row).length-cS.length)=fQ:=by simp;omega
        rw[bE]at aB;exact el _ _ _ _ bZ aB
     ·rw[kv];have M6:fQ<z:=by have:=(bF.1 aB).1;rw[hk _ _ h]at this;exact this
      rw[if_neg]
      ·exact el _ _ _ _ h aB
      ·rcases Nat.lt_or_gt_of_ne ny with ao|ao
       ·have:(zu+1)*z≤i*z:=j5 _ ao;rw[hj]at this;omega
       ·have:(i+1)*z≤zu*z:=j5 _ ao;rw[hj]at this;omega
   ·refine(BO _ _ EY).mono rfl (λ _ _ h=>h) λ dE gr h=>aw dE ?_
    rintro rfl;have:=aq.inj _ _ _ _ _ h cf;simp at this;exact EX this
  ·refine(aq.b7 _ _ aj_).mono (λ _=>rfl) (λ _ _ h=>h) hm λ q dE n h=>aw dE ?_
   rintro rfl;exact jH (congrArg fj.c (aq.inj _ _ _ _ _ h cf))
def aka(aq:b6 E ad ac H w){t:TypeId}{n:Nat}{q:cP}{v:U}{y x:Value}{ap:aa}(aF:fM E.P t=some n)(s6:(cA v).length=n)(pu:(cA v).all one=true)(di:kX ac H q y)(jf:a7 ad ac H v x)
  (h:p9 E H t n v q=some ap):∃ar,(xG t y x).run E.P w=.ok () ar∧cl E ad ac H w ap ar λ _ _=>True:=by
 cases q with
 |d=>cases h
 |h=>cases h
 |p c g s r i k=>exact aj7 aq aF s6 pu di jf h
 |e c g r=>
  simp only[p9]at h;split at h
  ·rename_i j;subst j;have b':one v=true:=by
    cases v with
    |agg cells=>
     exfalso;unfold w5 at h;split at h
     ·unfold w4 p8 tI freeze at h;simp at h
     ·cases h
    |dead=>simp[cA,one]at pu
    |be=>simp[cA,one]at pu
    |_=>rfl
   exact aj5 aq aF b' di jf h
  ·cases h
def T4{bs:List (Option Nat)}:∀{hB:List Nat} {H H1:aa} {cs eG:List U},jp bs hB H cs=some (eG,H1)→eG.length=cs.length
 |[],H,H1,cs,eG,h=>by simp only[jp,bj,bA]at h;rw[h.1]
 |ab::r,H,H1,cs,eG,h=>by
  simp only[jp]at h;split at h
  ·split at h
   ·rw[T4 h];simp
   ·cases h
  ·cases h
def M7{bs:List (Option Nat)}:∀{hB:List Nat} {ad:cb} {ac:b9} {H H1:aa} {w:World} {cs eG:List U} {cS:Array Value},b6 E ad ac H w→a7 ad ac H (.agg cs) (.agg cS)→jp bs hB H cs=some (eG,H1)→
  cl E ad ac H w H1 w λ aN aC=>a7 aN aC H1 (.agg eG) (.agg cS)
 |[],ad,ac,H,H1,w,cs,eG,cS,aq,r,h=>by simp only[jp,bj,bA]at h;obtain⟨rfl,rfl⟩:=h;exact .refl aq r
 |ab::hB,ad,ac,H,H1,w,cs,eG,cS,aq,r,h=>by
  simp only[jp]at h;split at h
  ·rename_i a aB;split at h
   ·rename_i x bx aK;cases r with
    |agg _ _ an ai=>
     refine(zp aq (ai ab a aB) aK).trans λ ej dY dt _ hm al=>M7 dt (.agg _ _ (by simp[an]) λ k b az=>?_) h
     by_cases T5:ab=k
     ·subst T5;have bf:ab<cs.length:=(bF.1 aB).1;rw[ks bf]at az;cases az;exact .i _ _ (zr al)
     ·rw[dC T5]at az;exact hm _ _ (ai k b az)
   ·cases h
  ·cases h
def T6(aq:b6 E ad ac H w){t:TypeId}{v v1:U}{y:Value}{hB:List Nat}{H1:aa}(h:kq E t H v hB=some (v1,H1))(r:a7 ad ac H v y):cl E ad ac H w H1 w λ aN aC=>a7 aN aC H1 v1 y:=by
 cases hB with
 |nil=>simp only[kq,bj,bA]at h;obtain⟨rfl,rfl⟩:=h;exact .refl aq r
 |cons ab hB=>
  simp only[kq,vb]at h;split at h
  ·rename_i cs bx aK;simp only[bj,bA]at h;obtain⟨rfl,rfl⟩:=h;have one:∀a:U,cA a=[a]→jp (E.kinds t) (ab::hB) H (cA a)=some (cs,bx)→(∀l,w7 a l=l.headD a)→a7 ad ac H a y→cl E ad ac H w bx w λ aN aC=>a7 aN aC bx (w7 a cs) y:=by
    intro a aB aK M8 ff;rw[aB]at aK;have hlen:=T4 aK;refine(M7 (cS:=#[y]) aq (.agg _ _ rfl λ k b az=>?_) aK).imp λ aN aC _ _ ai=>?_
    ·cases k with
     |zero=>simp only[qn,bj]at az;subst az;exact ff
     |succ k=>simp at az
    ·match cs,hlen,ai with
     |[c],_,ai=>
      cases ai with
      |agg _ _ _ h=>rw[M8];exact h 0 c rfl
   cases v with
   |agg cells=>
    cases r with
    |agg _ cS an ai=>exact M7 aq (.agg _ _ an ai) aK
   |dead=>exact one _ rfl aK (λ _=>rfl) r
   |i x=>exact one _ rfl aK (λ _=>rfl) r
   |ref c g aj n=>exact one _ rfl aK (λ _=>rfl) r
   |ptr c g q k=>exact one _ rfl aK (λ _=>rfl) r
   |dA c=>exact one _ rfl aK (λ _=>rfl) r
   |x k=>exact one _ rfl aK (λ _=>rfl) r
   |aR fn a b=>exact one _ rfl aK (λ _=>rfl) r
   |be l=>exact one _ rfl aK (λ _=>rfl) r
  ·cases h
def akb(aq:b6 E ad ac H w){t:TypeId}{p v:U}{y z:Value}{ap:aa}(h:nU E H t p v=some ap)(di:a7 ad ac H p y)(jf:a7 ad ac H v z):
  ∃ar,(xG t y z).run E.P w=.ok () ar∧cl E ad ac H w ap ar λ _ _=>True:=by
 unfold nU at h;split at h;rotate_left
 ·cases h
 rename_i n aF;split at h;rotate_left
 ·cases h
 rename_i ah;obtain⟨gL,fq⟩:=ah;obtain⟨fr,z2,z3⟩:=tV jf fq;split at h
 ·rename_i k;exact aka aq aF gL fq (xH di) jf h
 rotate_left
 ·cases h
 rename_i c g r k;have sj:∀x∈z.cells.toList,x.oneCell'=true:=by intro x al;obtain⟨ab,a',rfl⟩:=EW al;have:=z3 ab (by simpa using a');simpa[dp,show ab<z.cells.size by simpa using a']using this
 have t_:z.cells.size=n:=by rw[fr,gL]
 have run:∀(a:Addr) (ar:World),(storeCells a z.cells.toList 0).run E.P w=.ok () ar→(xG t (.pointer (some a)) z).run E.P w=.ok () ar:=by intro a ar ai;simp[xG,zc,storeVar,(gJ aF w).1,t_,ai]
 split at h
 ·rename_i cells aQ;split at h
  ·rename_i az;simp only[bj]at h;subst h;cases di with
   |ptr c g r k hi k0 ak aS aK aA av aP=>
    obtain⟨b,m,cf,rfl⟩:=ak _ aQ;obtain⟨bV,cs,elem,bl,g',hw,gK,ey,el⟩:=aq.b7 _ _ aQ;rw[cf]at g';cases g';obtain⟨ar,hL,j,J,aw,bb,bu,dw,gx,gD,gy⟩:=vp E.P b k elem bl z.cells.toList 0 cs w hw gK (by simp;omega) sj;refine⟨ar,run _ _ j,wrote aq cf aQ aw bb bu dw gx ?_ (λ hm=>?_) (λ _=>trivial)⟩
    ·intro y aZ;rcases fB aZ with⟨_,rfl⟩|⟨e,_⟩
     ·exact .inl ⟨cells,aQ,rfl⟩
     ·exact absurd rfl e
    ·refine⟨b,hL,elem,bl,by rw[gD];exact cf,J,by rw[gD];exact gK,by rw[gD,ey,MO R],λ ab a aB=>hm _ _ ?_⟩;rw[TJ R]at aB;have kv:hL.getD ab undef=if k≤ab∧ab<k+n then z.cells.getD (ab-k) undef else cs.getD ab undef:=by
      rw[dp,gy];simp only[fc,vl,t_];split
      ·rw[mW,dp]
      ·rw[dp]
     rw[kv];rw[gL]at aB;split at aB
     ·rename_i a';rw[if_pos a'];exact z2 _ _ aB
     ·rename_i a';rw[if_neg a'];exact el _ _ aB
  ·cases h
 ·rename_i vq;split at h;rotate_left
  ·cases h
  rename_i xs H1 gN;split at h;rotate_left
  ·cases h
  rename_i ay aY rows ex aQ;split at h;rotate_left
  ·cases h
  rename_i aP;obtain⟨rfl,aRi⟩:=aP;split at h;rotate_left
  ·cases h
  rename_i row bZ;simp only[bj]at h;subst h;obtain⟨ej,dY,dt,lW,hb,akc⟩:=It aq (λ k=>z.cells.getD k undef) z2 gN;obtain⟨lR,ze⟩:=M2 (bs:=E.kinds t) akc;generalize hW (E.kinds t) xs=xs at*;have M4:=hb _ _ di;cases M4 with
  |ptr c g r k hi k0 ak aS aK aA av aP=>
   obtain⟨b,m,cf,rfl⟩:=aS _ _ _ aQ;obtain⟨bg,hk,aw⟩:=dt.b7 _ _ aQ;rcases aw with⟨bu,_⟩|⟨bV,cs,elem,bl,bu,hw,gK,hle,sh,el⟩
   ·rw[cf]at bu;cases bu
   ·rw[cf]at bu;cases bu;have ai:=(bF.1 bZ).1;have fe:=hk _ _ bZ;have hy:r*ay+ay≤cs.size:=by have:(r+1)*ay≤rows.length*ay:=j5 _ ai;rw[hj]at this;omega
    obtain⟨ar,hL,j,J,aw,bb,bu,dw,gx,gD,gy⟩:=vp E.P b (r*ay+k) elem bl z.cells.toList 0 cs w hw gK (by simp;omega) sj;refine⟨ar,run _ _ j,?_⟩;have kv:∀ab,hL.getD ab undef=if r*ay+k≤ab∧ab<r*ay+k+n then z.cells.getD (ab-(r*ay+k)) undef else cs.getD ab undef:=by
     intro ab;rw[dp,gy];simp only[fc,vl,t_];split
     ·rw[mW,dp]
     ·rw[dp]
    have akd:xs.length=n:=by rw[lR,gL]
    have key:cl E ej dY H1 w (H1.set c (.ae ay g (rows.set r (row.take k++xs++row.drop (k+n))) ex)) ar λ _ _=>True:=by
     refine wrote dt cf aQ aw bb bu dw gx ?_ (λ hm=>?_) (λ _=>trivial)
     ·intro y aZ;rcases fB aZ with⟨_,rfl⟩|⟨e,_⟩
      ·exact .inl ⟨rows,ex,aQ,rfl,by simp⟩
      ·exact absurd rfl e
     ·have fX:∀(i:Nat) (ht:List aD),(rows.set r (row.take k++xs++row.drop (k+n)))[i]?=some ht→(i=r∧ht=row.take k++xs++row.drop (k+n))∨(i≠r∧rows[i]?=some ht):=by
       intro i ht aA;by_cases ny:i=r
       ·subst ny;rw[ks R]at aA;cases aA;exact .inl ⟨rfl,rfl⟩
       ·rw[dC (ba ny)]at aA;exact .inr ⟨ny,aA⟩
      refine⟨bg,λ i ht aA=>?_,.inr ⟨b,hL,elem,bl,by rw[gD];exact cf,J,by rw[gD];exact gK,by rw[gD,jI];exact hle,λ he=>by rw[gD,jI];exact sh he,λ i ht fQ a aA aB=>?_⟩⟩
      ·rcases fX _ _ aA with⟨_,rfl⟩|⟨_,h⟩
       ·simp[akd,fe];omega
       ·exact hk _ _ h
      ·rcases fX _ _ aA with⟨rfl,rfl⟩|⟨ny,h⟩
       ·rw[kv];by_cases ao:fQ<k
        ·rw[if_neg R];rw[dV,en (by simp;omega),nZ,if_pos ao]at aB;exact el _ _ _ _ bZ aB
        ·by_cases aI:fQ<k+n
         ·rw[if_pos R,show i*ay+fQ-(i*ay+k)=fQ-k by omega];rw[dV,ha (by simp;omega),en (by simp;omega)]at aB;have bE:fQ-(eo k row).length=fQ-k:=by simp;omega
          rw[bE]at aB;exact ze _ _ aB
         ·rw[if_neg R];rw[dV,ha (by simp;omega),ha (by simp;omega),q5]at aB;have bE:k+n+(fQ-(eo k row).length-xs.length)=fQ:=by simp;omega
          rw[bE]at aB;exact el _ _ _ _ bZ aB
       ·rw[kv];have M6:fQ<ay:=by have:=(bF.1 aB).1;rw[hk _ _ h]at this;exact this
        rw[if_neg]
        ·exact el _ _ _ _ h aB
        ·rcases Nat.lt_or_gt_of_ne ny with ao|ao
         ·have:(i+1)*ay≤r*ay:=j5 _ ao;rw[hj]at this;omega
         ·have:(r+1)*ay≤i*ay:=j5 _ ao;rw[hj]at this;omega
    obtain⟨e2,ez,bG,bH,cG,_⟩:=key;exact⟨e2,ez,bG,lW.trans bH,hb.trans cG,trivial⟩
 ·cases h
end
section
variable{E:Env}{ad:cb}{ac:b9}{H:aa}{w:World}
def T7{P:Program}{t:TypeId}{b:Nat}(h:tF P t=some b)(w:World):∃i,(typeInfo t).run P w=.ok i w∧i.bytes=b:=by simp only[tF,c0]at h;obtain⟨i,aA,rfl⟩:=h;exact⟨i,run_typeInfo w aA,rfl⟩
def zeroV{P:Program}{t:TypeId}{n:Nat}(h:fM P t=some n){row:List aD}(bg:HU E t=some row)(lZ:E.P=P)(w:World):
  ∃v,(zeroValue t).run P w=.ok v w∧kt ad row v.cells∧v.cells.size=row.length:=by
 subst lZ;unfold HU at bg;split at bg
 ·rename_i cs pr;obtain⟨v,j,J⟩:=xx pr w;refine⟨v,j,?_⟩;have ai:a7 ad (λ _=>none) [] (.agg cs) v:=by rw[J];exact sY v
  obtain⟨cI,rfl,ao,aI⟩:=vh ai;have key:∀(cs:List U) (row:List aD),kS cs=some row→cs=row.map .i:=by
   intro cs;induction cs with
   |nil=>intro row h;simp[kS]at h;subst h;rfl
   |cons c cs a8=>intro row h;cases c<;>simp[kS]at h;obtain⟨r,ai,rfl⟩:=h;rw[a8 r ai];rfl
  have eX:=key _ _ bg;subst eX;refine⟨λ ab x al=>iI (aI ab (.i x) (by simp[al])),by simpa[sg]using ao⟩
 ·rename_i x pr;cases bg;obtain⟨v,j,J⟩:=xx pr w;have ai:a7 ad (λ _=>none) [] (.i x) v:=by rw[J];exact sY v
  have bi:=iI ai;have b':=ES bi;have ah:v.cells=#[v]:=by cases v<;>simp_all [sg,MN]
  refine⟨v,j,?_,by rw[ah];rfl⟩;intro ab y aZ;cases ab with
  |zero=>simp at aZ;subst aZ;rw[ah];exact bi
  |succ ab=>simp at aZ
 ·cases bg
def ake(n:Nat)(row:List aD):(cy n row).flatten.length=n*row.length:=by simp
def T8(aq:b6 E ad ac H w){t:TypeId}{l c v:U}{y z:Value}{ap:aa}(h:i' E H t l c=some (v,ap))(d_:a7 ad ac H l y)(IB:a7 ad ac H c z):
  ∃x ar,(IC t y z).run E.P w=.ok x ar∧cl E ad ac H w ap ar λ aN aC=>a7 aN aC ap v x:=by
 unfold i' at h;split at h;rotate_left
 ·cases h
 rename_i e k n dv m he;split at h;rotate_left
 ·cases h
 rename_i s row b aS bZ ak;split at h;rotate_left
 ·split at h
  ·rename_i ah;obtain⟨rfl,cc,c3,fD,c5,lr⟩:=ah;simp only[bj,bA]at h;obtain⟨rfl,rfl⟩:=h;rw[fz d_,fz IB];obtain⟨eH,ID,zv⟩:=T7 ak w;obtain⟨dZ,j8,kw,vt⟩:=zeroV (ad:=ad) (E:=E) aS bZ rfl w;have IE:n0.wrap m=m:=IntWalk.i64_in _ R;have akf:n0.wrap 0=0:=IntWalk.i64_in _ R
   let cs:Array Value:=(Iv (m.toNat*s)).map (dZ.cells[·%dZ.cells.size]!)
   have eX:cs.size=m.toNat*s:=by simp[cs]
   refine⟨.slice (some ⟨w.heap.size,0,none⟩) 0 m.toNat,{w with heap:=w.heap.push (.cells cs e)},?_,?_⟩
   ·have py:¬(281474976710656<(b:Int)*m):=by have j:(b:Int)*m≤65536*m:=Int.mul_le_mul_of_nonneg_right R R;omega
    have IF:¬m<0:=R;have aV:¬m.toNat*s=0:=Nat.ne_of_gt (Nat.mul_pos R c5);simp[IC,run_underlying (h' he),asInt,asIntOf,ID,zv,IE,akf,IF,py,(gJ aS w).1,newRow,aV,j8,cs]
   ·exact zq (ar:={w with heap:=w.heap.push (.cells cs e)}) (rows:=[]) (ex:=false) (n:=0) (cap:=m.toNat) aq rfl rfl rfl rfl c5 (λ i r h=>by simp at h) (λ i x h=>by simp at h) (by simp) (λ h=>by cases h) (ps _) (by simp) (by simp) (by rw[eX];exact cQ _)
  ·cases h
 rename_i ah;obtain⟨ca,rfl,c3,fD,c5,lr⟩:=ah;simp only[bj,bA]at h;obtain⟨rfl,rfl⟩:=h;rw[fz d_,fz IB];obtain⟨eH,ID,zv⟩:=T7 ak w;obtain⟨dZ,j8,kw,vt⟩:=zeroV (ad:=ad) (E:=E) aS bZ rfl w;have kw:kt ad (hW (E.kinds e) row) dZ.cells:=λ ab v bi=>by obtain⟨aj,y,aZ,rfl⟩:=M1 _ _ _ _ bi;exact zr (kw ab y aZ)
 have vt:=vt.trans (Iu (E.kinds e) row).symm;have fD:(hW (E.kinds e) row).length=s:=by rw[Iu];exact fD
 clear bZ;generalize hW (E.kinds e) row=row at*;have IE:n0.wrap n=n:=by exact IntWalk.i64_in _ R
 let cs:Array Value:=(Iv (n.toNat*s)).map (dZ.cells[·%dZ.cells.size]!)
 refine⟨.slice (some ⟨w.heap.size,0,none⟩) n.toNat n.toNat,{w with heap:=w.heap.push (.cells cs e)},?_,?_⟩
 ·have py:¬(281474976710656<(b:Int)*n):=by have j:(b:Int)*n≤65536*n:=Int.mul_le_mul_of_nonneg_right R ca;omega
  have IF:¬n<0:=R;by_cases aV:n.toNat*s=0
  ·have:cs=#[]:=by simp[cs,aV]
   rw[this];simp[IC,run_underlying (h' he),asInt,asIntOf,ID,zv,IE,IF,py,(gJ aS w).1,newRow,aV]
   congr
   exact zw (by simp)
  ·simp[IC,run_underlying (h' he),asInt,asIntOf,ID,zv,IE,IF,py,(gJ aS w).1,newRow,aV,j8,cs]
 ·have hk:Flat s (cy n.toNat row):=by intro i r aA;have hm:=jG aA;rw[List.eq_of_mem_replicate hm];exact fD
  have eX:cs.size=n.toNat*s:=by simp[cs]
  refine zq (ar:={w with heap:=w.heap.push (.cells cs e)}) (ex:=true) (n:=n.toNat) (cap:=n.toNat) aq rfl rfl rfl rfl c5 hk ?_ (by simp[eX]) (λ _=>by simp[eX]) (ps _) (by simp) (by simp) (by simp[eX]);intro ab x al;subst fD;have a':ab<n.toNat*row.length:=by have:=(bF.1 al).1;rw[ake]at this;exact this
  have ao:ab/row.length*row.length+ab%row.length=ab:=by rw[vi];exact zi _ _
  have aI:ab/row.length<n.toNat:=(H9 c5).2 a';have hm:ab%row.length<row.length:=EN _ c5;rw[←ao,H8 row n.toNat _ _ aI hm]at al;have J:cs.getD ab undef=dZ.cells.getD (ab%row.length) undef:=by
   have Ij:ab%row.length<dZ.cells.size:=by rw[vt];exact hm
   rw[dp,dp];simp[cs,a',vt];rw[getElem!_pos dZ.cells _ Ij,q9 Ij];rfl
  rw[J];exact kw _ _ al
def akg(aq:b6 E ad ac H w){s d e:TypeId}{l:List UInt8}(aS:hG E.P s=true)(aM:e5 E.P d=some e)(he:nS E.P e=some .u8)(an:l.length<1073741824):
  ∃x ar,(convert s d (.string ⟨⟨l⟩⟩)).run E.P w=.ok x ar∧cl E ad ac H w (H++[.ae 1 0 (l.map λ b=>[aD.v (.int .u8 b.toNat)]) false]) ar λ aN aC=>a7 aN aC (H++[.ae 1 0 (l.map λ b=>[aD.v (.int .u8 b.toNat)]) false]) (.ref H.length 0 0 l.length) x:=by
 let q:Question:=.appendCap l.length 0 e
 let cap:Nat:=q.cut (w.tape w.drawn q)
 have j7:l.length≤cap:=by simp only[cap,q,Question.cut];omega
 let cs:Array Value:=(l.map λ b=>j4 .u8 b.toNat).toArray++zx (cap-l.length) (.int .u8 0)
 have eX:cs.size=cap:=by simp[cs];omega
 let gg:World:={w with heap:=w.heap.push (.cells cs e),drawn:=w.drawn+1}
 let fN:World:={w with heap:=w.heap.push (.cells cs e (cap,cap+1)),drawn:=w.drawn+1}
 refine⟨.slice (some ⟨w.heap.size,0,none⟩) l.length cap,fN,?_,?_⟩
 ·have akh:(markStringish ⟨w.heap.size,0,none⟩).run E.P gg=.ok () fN:=by
   have zn:gg.shape? w.heap.size=some (e,cap):=by simp[World.shape?,gg,eX]
   simp only[markStringish,dU,run_shape,ek,zn,run_freeze]
   congr 1
   simp only[World.freeze,gg,fN];simp;apply Array.ext (by simp);intro i j J;simp only[Array.getElem_modify,Array.getElem_push];by_cases aA:i<w.heap.size
   ·simp[aA];intro aw;omega
   ·have:i=w.heap.size:=by simp at J;omega
    subst this;simp
  have bn:q.forced=false:=rfl;simp only[convert,dU,run_underlying (se aS),run_underlying (h' aM),ek,run_underlying (BC he),Conv.stringToBytes,run_choose,size_mk];show(Result.andThen (if q.forced then _ else _) _)=_;rw[bn];simp only[fK,if_false,ek,newRow,dU,run_newObj,eL];have xF:({heap:=w.heap.push (.cells (Array.map (λ(b:UInt8)=>j4 .u8 b.toNat) {toList:=l}++zx (q.cut (w.tape w.drawn q)-l.length) (.int .u8 0)) e),tape:=w.tape,drawn:=w.drawn+1,os:=w.os,output:=w.output}:World)=gg:=by simp only[gg,cs,cap];simp
  rw[xF,akh];rfl
 ·refine zq (ar:=fN) (ay:=1) (rows:=l.map λ b=>[aD.v (.int .u8 b.toNat)]) (ex:=false) (n:=l.length) (cap:=cap) aq rfl rfl rfl rfl R ?_ ?_ (by simp[eX];omega) (λ h=>by cases h) ?_ (by simp) (by simpa using j7) (by simp[eX])
  ·intro i r aA;simp only[fA,c0]at aA;obtain⟨b,_,rfl⟩:=aA;rfl
  ·rw[Iq];intro ab x al;simp only[fA,c0]at al;obtain⟨b,ak,rfl⟩:=al;have:cs.getD ab undef=.int .u8 b.toNat:=by have a':=(bF.1 ak).1;rw[dp];simp[cs,xI,a'];have:=(bF.1 ak).2;rw[this]
   rw[this];exact .v _ rfl
  ·intro k az h;rw[eX]at az;simp at h;omega
def T9(l:List UInt8):∀(n i:Nat) (acc:Array Value),M9 ⟨⟨l⟩⟩ n i acc=acc++((r8 l n i).map (j4 .i32)).toArray
 |0,i,acc=>by simp[M9,r8]
 |n+1,i,acc=>by
  unfold M9 r8;rw[size_mk];split
  ·simp only;rw[T9 l n];simp
  ·simp
def aki(aq:b6 E ad ac H w){s d e:TypeId}{l:List UInt8}(aS:hG E.P s=true)(aM:e5 E.P d=some e)(he:nS E.P e=some .i32)(an:(lL l).length<1073741824):
  ∃x ar,(convert s d (.string ⟨⟨l⟩⟩)).run E.P w=.ok x ar∧cl E ad ac H w (H++[.ae 1 0 (lL l) false]) ar λ aN aC=>a7 aN aC (H++[.ae 1 0 (lL l) false]) (.ref H.length 0 0 (lL l).length) x:=by
 let fX:=r8 l l.length 0
 have fe:(lL l).length=fX.length:=by simp[lL,fX]
 let q:Question:=.appendCap fX.length 0 e
 let cap:Nat:=q.cut (w.tape w.drawn q)
 have j7:fX.length≤cap:=by simp only[cap,q,Question.cut];omega
 let cs:Array Value:=(fX.map (j4 .i32)).toArray++zx (cap-fX.length) (.int .i32 0)
 have eX:cs.size=cap:=by simp[cs];omega
 let gg:World:={w with heap:=w.heap.push (.cells cs e),drawn:=w.drawn+1}
 refine⟨.slice (some ⟨w.heap.size,0,none⟩) (lL l).length cap,gg,?_,?_⟩
 ·have bn:q.forced=false:=rfl;have lQ:M9 ⟨⟨l⟩⟩ l.length 0 #[]=(fX.map (j4 .i32)).toArray:=by rw[T9];simp[fX]
  simp only[convert,dU,run_underlying (se aS),run_underlying (h' aM),ek,run_underlying (BC he),Conv.stringToRunes,run_choose,size_mk,lQ,IG,lX];show(Result.andThen (if q.forced then _ else _) _)=_;rw[bn];simp only[fK,if_false,ek,newRow,dU,run_newObj,eL];simp only[fe];rfl
 ·refine zq (ar:=gg) (ay:=1) (rows:=lL l) (ex:=false) (n:=(lL l).length) (cap:=cap) aq rfl rfl rfl rfl R ?_ ?_ (by simp[eX];omega) (λ h=>by cases h) ?_ (by simp) (by simpa[fe]using j7) (by simp[eX])
  ·intro i r aA;simp only[lL,fA,c0]at aA;obtain⟨b,_,rfl⟩:=aA;rfl
  ·unfold lL;rw[Iq];intro ab x al;simp only[fA,c0]at al;obtain⟨b,ak,rfl⟩:=al;have:cs.getD ab undef=.int .i32 b:=by have a':=(bF.1 ak).1;rw[dp];have lm:ab<fX.length:=a';simp[cs,xI,lm];exact(bF.1 ak).2
   rw[this];exact .v _ rfl
  ·intro k az h;simp at h
def akj(aq:b6 E ad ac H w){s d:TypeId}{l:List UInt8}{v:U}{ap:aa}(aS:hG E.P s=true)(an:l.length<1073741824)(h:y8 H l ((e5 E.P d).bind (nS E.P))=some (v,ap)):
  ∃x ar,(convert s d (.string ⟨⟨l⟩⟩)).run E.P w=.ok x ar∧cl E ad ac H w ap ar λ aN aC=>a7 aN aC ap v x:=by
 cases ak:(e5 E.P d).bind (nS E.P)with
 |none=>rw[ak]at h;cases h
 |some k=>
  rw[ak]at h;simp only[BK]at ak;obtain⟨e,he,az⟩:=ak;unfold y8 at h;split at h
  ·rename_i aO;cases aO;cases h;exact akg aq aS he az an
  ·rename_i aO;cases aO;cases h;refine aki aq aS he az (Nat.lt_of_le_of_lt ?_ an);have key:∀n i,(r8 l n i).length≤n:=by
    intro n;induction n with
    |zero=>intro i;simp[r8]
    |succ n a8=>
     intro i;unfold r8;split
     ·simpa using a8 _
     ·simp
   simpa[lL]using key l.length 0
  ·cases h
def akk(IH cap:Nat)(h:cap<IH)(aF:IH<1073741824):II IH cap≤4294967296:=by
 have grow:∀(r c:Nat),c≤2147483648→Builtin.growBy IH r c≤4294967296:=by
  intro r;induction r with
  |zero=>intro c ah;simp only[Builtin.growBy];omega
  |succ r a8=>
   intro c ah;simp only[Builtin.growBy];split
   ·omega
   ·exact a8 _ R
 unfold II;split
 ·omega
 ·split
  ·omega
  ·exact grow _ _ R
def T_(z:Array Value)(n:Nat):(EZ z n).size=n*z.size:=by simp[EZ]
def IJ(P:Program)(t:TypeId):Prop:=(∃e,P.underlying t=some (.slice e))∨P.underlying t=some .string
def T'{P:Program}{t:TypeId}(h:(e5 P t).isSome=true∨hG P t=true):IJ P t:=by
 rcases h with h|h
 ·obtain⟨e,he⟩:=M_.1 h;exact .inl ⟨_,h' he⟩
 ·exact .inr (se h)
def Ua{t t2 ed e:TypeId}{z b:Nat}{y:Value}{base:Option Addr}{ae cap:Nat}{rows new:List (List aD)}{gO eA:Array Value}(he:e5 E.P t=some e)(bg:fM E.P e=some z)(ak:tF E.P e=some b)
  {lo:Value}(hzero:∀w,(zeroValue e).run E.P w=.ok lo w)
  (n5:IJ E.P t2)(hlen:∀ar:World,ar.heap=w.heap→(q8 y).run E.P ar=.ok new.length ar)(j7:cap<ae+new.length)(py:ae+new.length<1073741824)(fg:b≤65536)
  (hold:∀ar:World,ar.heap=w.heap→(iK z ae (.slice base ae cap)).run E.P ar=.ok gO ar)(fC:∀ar:World,ar.heap=w.heap→(iK z new.length y).run E.P ar=.ok eA ar)(t_:lo.cells.size=z):
  ∃ar iL,(q' #[t,t2] ed #[.slice base ae cap,y]).run E.P w=.ok (.slice (some ⟨w.heap.size,0,none⟩) (ae+new.length) iL) ar∧ae+new.length≤iL∧
   ar.heap=w.heap.push (.cells (gO++eA++EZ lo.cells (iL-(ae+new.length))) e)∧ar.os=w.os∧ar.tape=w.tape∧ar.output=w.output:=by
 obtain⟨eH,Ub,zv⟩:∃i,(∀w,(typeInfo e).run E.P w=.ok i w)∧i.bytes=b:=by simp only[tF,c0]at ak;obtain⟨i,aA,rfl⟩:=ak;exact⟨i,λ w=>run_typeInfo w aA,rfl⟩
 let q:Question:=.appendCap (ae+new.length) cap e
 let iL:Nat:=q.cut (w.tape w.drawn q)
 have akl:ae+new.length≤iL:=by simp only[iL,q,Question.cut];omega
 let gg:World:={w with drawn:=w.drawn+1}
 have akm:=akk _ _ j7 py;have j:¬(ae+new.length≤cap):=R;have J:¬(II (ae+new.length) cap*b>2^48):=by have:II (ae+new.length) cap*b≤4294967296*65536:=Nat.mul_le_mul akm fg;omega
 have aw:¬(((ae+new.length:Nat):Int)>n0.max):=by
  have:n0.max=9223372036854775807:=by decide
  omega
 refine⟨w.drew.alloc (.cells (gO++eA++EZ lo.cells (iL-(ae+new.length))) e),iL,?_,akl,rfl,rfl,rfl,rfl⟩;have bn:q.forced=false:=rfl;have E0:¬(281474976710656<II (ae+new.length) cap*b):=J;have E1:¬(9223372036854775807<(ae:Int)+new.length):=R;have kZ:(choose (.appendCap (ae+new.length) cap e)).run E.P w=.ok iL w.drew:=by rw[run_choose];show(if q.forced=true then _ else _)=_;rw[bn];rfl
 rcases n5 with⟨aI,ms⟩|ms
 ·simp[q',run_underlying (h' he),(gJ bg w).1,run_underlying ms,hlen w rfl,j,E1,E0,Ub,zv,-run_choose,kZ,hold w.drew rfl,fC w.drew rfl,hzero,newRow]
 ·simp[q',run_underlying (h' he),(gJ bg w).1,run_underlying ms,hlen w rfl,j,E1,E0,Ub,zv,-run_choose,kZ,hold w.drew rfl,fC w.drew rfl,hzero,newRow]
def Uc{t t2 ed e:TypeId}{z:Nat}{y:Value}{b aj ae cap:Nat}{n:Nat}{eA:Array Value}(he:e5 E.P t=some e)(bg:fM E.P e=some z)
  (n5:IJ E.P t2)(hlen:(q8 y).run E.P w=.ok n w)(j7:ae+n≤cap)(fC:(iK z n y).run E.P w=.ok eA w)
  {ar:World}(gS:(storeCells ⟨b,aj+ae*z,none⟩ eA.toList).run E.P w=.ok () ar):
  (q' #[t,t2] ed #[.slice (some ⟨b,aj,none⟩) ae cap,y]).run E.P w=.ok (.slice (some ⟨b,aj,none⟩) (ae+n) cap) ar:=by
 rcases n5 with⟨aI,ms⟩|ms
 ·simp[q',run_underlying (h' he),(gJ bg w).1,run_underlying ms,hlen,j7,fC,lk,gS]
 ·simp[q',run_underlying (h' he),(gJ bg w).1,run_underlying ms,hlen,j7,fC,lk,gS]
def E2{t t2 ed e:TypeId}{z:Nat}{y:Value}{a:Option Addr}{ae cap:Nat}(he:e5 E.P t=some e)(bg:fM E.P e=some z)
  (n5:IJ E.P t2)(hlen:(q8 y).run E.P w=.ok 0 w)(j7:ae≤cap)(fC:(iK z 0 y).run E.P w=.ok #[] w):
  (q' #[t,t2] ed #[.slice a ae cap,y]).run E.P w=.ok (.slice a ae cap) w:=by
 rcases n5 with⟨aI,ms⟩|ms
 ·cases a<;>simp[q',run_underlying (h' he),(gJ bg w).1,run_underlying ms,hlen,j7,fC,storeCells]
 ·cases a<;>simp[q',run_underlying (h' he),(gJ bg w).1,run_underlying ms,hlen,j7,fC,storeCells]
end
section
variable{E:Env}{ad:cb}{ac:b9}{H:aa}{w:World}
def Ud:∀{rows:List (List aD)} {l:List Int},r2 rows=some l→rows.length=l.length∧rows.flatten=l.map λ n=>aD.v (.int .u8 n)
 |[],l,h=>by simp only[r2,bj]at h;subst h;simp
 |r::rows,l,h=>by
  unfold r2 at h;split at h
  ·rename_i e;cases e
  ·rename_i n ht e;simp only[BQ]at e;obtain⟨rfl,rfl⟩:=e;simp only[c0]at h;obtain⟨m,hm,rfl⟩:=h;obtain⟨j,J⟩:=Ud hm;simp[j,J]
  ·cases h
def akn(aq:b6 E ad ac H w){s d e:TypeId}{x v:U}{y:Value}(aS:e5 E.P s=some e)(h:Bk E H e d x=some v)(r:a7 ad ac H x y):∃u,(convert s d y).run E.P w=.ok u w∧a7 ad ac H v u:=by
 unfold Bk at h;split at h;rotate_left
 ·cases h
 rename_i ah;split at h;rotate_left
 ·cases h
 rename_i z rows ex bZ;split at h;rotate_left
 ·cases h
 rename_i bg;simp only[c0]at h;obtain⟨l,an,rfl⟩:=h;have pz:kU H x=some (z,rows,ex):=by
  cases x with
  |i u=>cases u with
   |str l=>simp[hP]at bZ
   |_=>exact bZ
  |_=>exact bZ
 obtain⟨cs,ca,cc,c3,fD,c5⟩:=MY (P:=E.P) aq r pz bg (Nat.lt_add_one 0);obtain⟨gh,gr⟩:=Ud an;have aZ:∃a cap,y=.slice a rows.length cap:=by
  cases x with
  |i u=>cases u with
   |ae ay eF gd=>simp only[hP,bj,bA]at bZ;obtain⟨rfl,rfl,rfl⟩:=bZ;exact EQ (iI r)
   |_=>simp[hP]at bZ
  |ref c g off len=>obtain⟨a,cap,rfl⟩:=MM r;have:=ca w;simp only[q8,eL,Result.ok.injEq]at this;exact⟨a,cap,by rw[this.1]⟩
  |_=>simp[hP]at bZ
 obtain⟨a,cap,rfl⟩:=aZ;have eX:cs=(l.map (j4 .u8)).toArray:=by
  apply Array.ext
  ·rw[c3];simp[gh]
  ·intro ab j J;have a':ab<l.length:=by simpa using J
   have aw:=fD ab (.v (.int .u8 l[ab])) (by rw[gr];simp[a']);rw[dp,q9 j,iM]at aw;generalize cs[ab]=q at aw⊢;cases aw;simp
 rw[run_convert_bytes_string w s d e a rows.length cap (h' aS) (BC ah.2) (se ah.1)];cases a with
 |none=>
  have hl:=cc w rfl;simp only[iK,eL,Result.ok.injEq,and_true]at hl;rw[eX]at hl;have:l=[]:=by
   cases l with
   |nil=>rfl
   |cons a l=>have:=congrArg Array.size hl;simp at this
  subst this;exact⟨_,rfl,BB⟩
 |some a=>
  have hl:=cc w rfl;simp only[iK,H']at hl;rw[eX]at hl;rw[run_bytesToString w a rows.length cap l hl,foldl_push_bytes];refine⟨_,rfl,?_⟩;have:=BB (ad:=ad) (ac:=ac) (H:=H) (l:=l.map λ n=>h6 n.toNat);have e:∀a:Array UInt8,ByteArray.empty.data++a=a:=λ a=>by have aV:ByteArray.empty.data=#[]:=rfl;rw[aV];simp
  rw[e];exact this
def Ue(n:Int)(zero:Option U):∀(l:List MapEntry) (es:List (Int×Nat)) (i:Nat),l.map (λ e=>(e.key,e.val))=es.map (λ p=>(j4 .i64 p.1,EB (.func p.2) #[] #[]))→
  (qo (.int .i64) (.int .i64 n) l i=some none∧sR zero n es=sR zero n [])∨∃ab f,qo (.int .i64) (.int .i64 n) l i=some (some (ab,.func (.func f) #[] #[]))∧sR zero n es=some (.be [.aR (.func f) [] [],.bool true])
 |[],[],i,h=>.inl ⟨rfl,rfl⟩
 |e::l,p::es,i,h=>by
  simp only[fk,BQ,bA]at h;obtain⟨⟨j,J⟩,aw⟩:=h;obtain⟨k,f⟩:=p;simp only at j J;unfold qo;rw[j];simp only[M',if_true];by_cases aF:n=k
  ·subst aF;refine .inr ⟨i,f,by simp[J],by rw[sR,if_pos rfl]⟩
  ·have ak:(n==k)=false:=by simp[aF]
   rw[ak];rw[sR,if_neg aF];exact Ue n zero l es (i+1) aw
def Na{P:Program}{t k e}(h:tH P t=some (k,e)):P.underlying t=some (.map k e):=by unfold tH at h;split at h<;>simp_all
def look_ok{t:TypeId}{x k v:U}{y z:Value}(aq:b6 E ad ac H w)(h:Eo E t x k=some v)(rx:a7 ad ac H x y)(iN:a7 ad ac H k z):
  ∃u,(zy t y z true).run E.P w=.ok u w∧a7 ad ac H v u:=by
 unfold Eo at h;split at h
 ·rename_i i7 e hm;split at h
  ·rename_i az;split at h
   ·rename_i es n;have hu:=Na hm;have ra:=BC az;obtain rfl:=fz iN;cases iI rx with
    |mp es b hv clock cd ako=>
     have aO:=aq.dT _ _ cd;have t':(getObj b).run E.P w=.ok (.map hv clock) w:=by simp[getObj,ua,aO]
     have nx:∀em:Bool,(Nb em 10000 i7 (.int .i64 n)).run E.P w=.ok () w:=λ em=>by unfold Nb;simp[run_underlying ra]
     rcases Ue n (kO E.P e) hv.toList es 0 ako with⟨f1,f2⟩|⟨ab,f,f1,f2⟩
     ·rw[f2]at h;simp only[sR]at h;split at h
      ·rename_i dZ bg;split at h
       ·cases h;obtain⟨zz,j8,rfl⟩:=xx bg w;refine⟨.tuple #[zz,.bool false],?_,?_⟩
        ·unfold zy;simp only[dU,run_underlying hu,ek,t',eL,nx,zA,run_underlying ra,f1,j8,if_true]
        ·exact .be _ _ (by simp) λ k a aB=>by
          match k,aB with
          |0,aB=>cases aB;exact sY zz
          |1,aB=>cases aB;exact .i _ _ (.v _ rfl)
          |k+2,aB=>simp at aB
       ·cases h
      ·cases h
     ·rw[f2]at h;cases h;refine⟨.tuple #[.func (.func f) #[] #[],.bool true],?_,?_⟩
      ·unfold zy;simp only[dU,run_underlying hu,ek,t',eL,nx,zA,run_underlying ra,f1,if_true]
      ·exact .be _ _ (by simp) λ k a aB=>by
        match k,aB with
        |0,aB=>cases aB;exact .aR _ _ _ _ _ rfl rfl (λ k a h=>by simp at h) (λ k a h=>by simp at h)
        |1,aB=>cases aB;exact .i _ _ (.v _ rfl)
        |k+2,aB=>simp at aB
   ·cases h
  ·cases h
 ·cases h
def oJ:aD→TypeDesc
 |.str _=>.string
 |.v (.int k _)=>.int k
 |_=>.int .i64
def Uf{P:Program}{i7:TypeId}{cu:aD}{z:Value}{ad:cb}(h:Bl P i7 cu=true)(r:ds ad cu z):P.underlying i7=some (oJ cu)∧((∃k n,oJ cu=.int k∧z=.int k n)∨∃s,oJ cu=.string∧z=.string s):=by
 unfold Bl at h;split at h
 ·cases r;exact⟨BC (of_decide_eq_true h),.inl ⟨_,_,rfl,rfl⟩⟩
 ·cases r;exact⟨se h,.inr ⟨_,rfl,rfl⟩⟩
 ·cases h
def Ug(a c:List UInt8):((⟨⟨a⟩⟩:ByteArray)==⟨⟨c⟩⟩)=decide (a=c):=by
 show ByteArray.beq _ _=_;unfold ByteArray.beq;by_cases h:a=c
 ·subst h;simp
 ·simp[h]
def IK{ad:cb}{cu ab:aD}{z e:Value}{b:Bool}(h:gm cu ab=some b)(ln:ds ad cu z)(Uh:ds ad ab e):M' (oJ cu) z e=some b∧(b=true→e=z∧IL 10000 e z=true):=by
 unfold gm at h;split at h
 ·rename_i k a dv c;split at h
  ·rename_i az;subst az;cases ln;cases Uh;cases h;refine⟨by simp[oJ,M'];rfl,λ ak=>?_⟩;have ak:=of_decide_eq_true ak;subst ak;exact⟨rfl,by simp[IL]⟩
  ·cases h
 ·rename_i a c;cases ln;cases Uh;cases h;refine⟨?_,λ ak=>?_⟩
  ·simp only[oJ,M',bj,Ug]
  ·have ak:=of_decide_eq_true ak;subst ak;exact⟨rfl,by simp[IL,Ug]⟩
 ·cases h
def Nc{ad:cb}{ac:b9}{H:aa}{cu:aD}{z:Value}(ln:ds ad cu z):∀(es:List (aD×U)) (q:List MapEntry) (i:Nat) {r:Option U},nv ad ac H es q→hH cu es=some r→
  (r=none∧qo (oJ cu) z q i=some none)∨∃u ab val,r=some u∧qo (oJ cu) z q i=some (some (ab,val))∧a7 ad ac H u val
 |[],[],i,r,_,h=>by cases h;exact .inl ⟨rfl,rfl⟩
 |(ab,v)::es,e::q,i,r,hm,h=>by
  obtain⟨m1,m2,m3⟩:=hm;simp only[hH]at h;split at h
  ·rename_i aS;obtain⟨s1,_⟩:=IK aS ln m1;cases h;exact .inr ⟨v,i,e.val,rfl,by simp[qo,s1],m2⟩
  ·rename_i aS;obtain⟨s1,_⟩:=IK aS ln m1;rcases Nc ln es q (i+1) m3 h with⟨j,J⟩|⟨u,k,val,j,J,aw⟩
   ·exact .inl ⟨j,by simp[qo,s1,J]⟩
   ·exact .inr ⟨u,k,val,j,by simp[qo,s1,J],aw⟩
  ·cases h
 |[],_::_,_,_,hm,_=>hm.elim
 |_::_,[],_,_,hm,_=>hm.elim
def akp{ad:cb}{ac:b9}{H:aa}{cu:aD}{z:Value}(ln:ds ad cu z)(es:List (aD×U))(q:List MapEntry)(i:Nat){r:Option U}(hm:mi ad ac H es q)(h:hH cu es=some r):
  (r=none∧qo (oJ cu) z q i=some none)∨∃u ab val,r=some u∧qo (oJ cu) z q i=some (some (ab,val))∧a7 ad ac H u val:=by
 obtain⟨hQ,j,J,aw⟩:=hm;exact Nc ln hQ q i J (Mv j aw h)
def Ui{ad:cb}{ac:b9}{H:aa}{k:aD}{x:U}{z y:Value}(ln:ds ad k z)(xJ:a7 ad ac H x y)(born:Nat):∀(es:List (aD×U)) (q:List MapEntry),nv ad ac H es q→nv ad ac H (es++[(k,x)]) (q++[{key:=z,val:=y,born:=born}])
 |[],[],_=>⟨ln,xJ,trivial⟩
 |_::es,_::q,h=>⟨h.1,h.2.1,Ui ln xJ born es q h.2.2⟩
 |[],_::_,h=>h.elim
 |_::_,[],h=>h.elim
def Uj{k:aD}{v:U}:∀{es:List (aD×U)},(∀p∈es,gm k p.1=some false)→j3 k v es=es
 |[],_=>rfl
 |p::r,h=>by
  have aV:=h p (by simp);have a8:=Uj (v:=v) λ q (bn:q∈r)=>h q (xK _ bn)
  simp only[j3,aV,bj,fK,if_false,a8]
def Uk{ad:cb}{ac:b9}{H:aa}{cu:aD}{vu:U}{z y:Value}(ln:ds ad cu z)(xJ:a7 ad ac H vu y):∀(es:List (aD×U)) (q:List MapEntry) (i:Nat) {u:U},nv ad ac H es q→(es.Pairwise λ p r=>gm p.1 r.1=some false)→hH cu es=some (some u)→
  ∃ab val,qo (oJ cu) z q i=some (some (i+ab,val))∧(∃e,q[ab]?=some e∧IL 10000 e.key z=true)∧nv ad ac H (j3 cu vu es) (q.modify ab λ e=>{e with key:=z,val:=y})
 |[],[],i,_,_,_,h=>by cases h
 |(ab,v)::es,e::q,i,u,hm,aM,h=>by
  obtain⟨m1,m2,m3⟩:=hm;obtain⟨d1,d2⟩:=vg.1 aM;simp only[hH]at h;split at h
  ·rename_i aS;obtain⟨s1,s2⟩:=IK aS ln m1;have:=By aS;subst this;refine⟨0,e.val,by simp[qo,s1],⟨e,rfl,(s2 rfl).2⟩,?_⟩;simp only[j3,aS,if_true,Uj d1];exact⟨ln,xJ,m3⟩
  ·rename_i aS;obtain⟨s1,_⟩:=IK aS ln m1;obtain⟨k,val,J,⟨aI,aw,bb⟩,bu⟩:=Uk ln xJ es q (i+1) m3 d2 h;refine⟨k+1,val,by simp[qo,s1,J];omega,⟨aI,by simpa using aw,bb⟩,?_⟩;simp only[j3,aS,bj,fK,if_false,List.modify_succ_cons];exact⟨m1,m2,bu⟩
  ·cases h
 |[],_::_,_,_,hm,_,_=>hm.elim
 |_::_,[],_,_,hm,_,_=>hm.elim
def akq{ad:cb}{ac:b9}{H:aa}{cu:aD}{vu:U}{z y:Value}(ln:ds ad cu z)(xJ:a7 ad ac H vu y)(es:List (aD×U))(q:List MapEntry)(i:Nat){hQ:List (aD×U)}(hm:mi ad ac H es q)(h:kp cu vu es=some hQ):
  (qo (oJ cu) z q i=some none∧∀born,mi ad ac H hQ (q++[{key:=z,val:=y,born:=born}]))∨
  ∃ab val,qo (oJ cu) z q i=some (some (i+ab,val))∧(∃e,q[ab]?=some e∧IL 10000 e.key z=true)∧mi ad ac H hQ (q.modify ab λ e=>{e with key:=z,val:=y}):=by
 obtain⟨E3,j,J,aw⟩:=hm;unfold kp at h;split at h
 ·rename_i aK;cases h;have zB:=Mv j aw aK;rcases Nc ln E3 q i J zB with⟨_,g⟩|⟨u,ab,val,g,_⟩
  ·refine .inl ⟨g,λ born=>⟨E3++[(cu,vu)],(Mw cu vu es).trans ((j.cons _).trans (List.perm_append_singleton _ _).symm),Ui ln xJ born E3 q J,?_⟩⟩;refine((Mw cu vu es).symm.pairwise_iff (λ{x y} EE=>by rw[ED];exact EE)).1 (vg.2 ⟨λ p av=>Mu.1 aK p av,aw⟩)
  ·cases g
 ·rename_i u aK;cases h;have zB:=Mv j aw aK;have E1:=(j.pairwise_iff (λ{x y} EE=>by rw[ED];exact EE)).1 aw;obtain⟨ab,val,g1,g2,g3⟩:=Uk ln xJ E3 q i J E1 zB;refine .inr ⟨ab,val,g1,g2,j3 cu vu E3,by rw[HZ,HZ];exact j.map _,g3,?_⟩;rw[HZ,List.pairwise_map];exact aw.imp λ{a b} cU=>by rw[Mx,Mx];exact cU
 ·cases h
def Ul{P:Program}{i7:TypeId}{cu:aD}{z:Value}(hu:P.underlying i7=some (oJ cu))(bg:(∃k n,oJ cu=.int k∧z=.int k n)∨∃s,oJ cu=.string∧z=.string s)(em:Bool)(w:World):(Nb em 10000 i7 z).run P w=.ok () w:=by unfold Nb;rcases bg with⟨k,n,az,rfl⟩|⟨s,az,rfl⟩<;>rw[az]at hu<;>simp[run_underlying hu]
def akr{t:TypeId}{x k v:U}{y z:Value}{ok:Bool}(aq:b6 E ad ac H w)(h:y0 E H t x k ok=some v)(rx:a7 ad ac H x y)(iN:a7 ad ac H k z):
  ∃u,(zy t y z ok).run E.P w=.ok u w∧a7 ad ac H v u:=by
 unfold y0 at h;split at h
 ·rename_i c;unfold Bm at h;split at h
  ·rename_i es aQ;split at h
   ·rename_i i7 e cu hm;split at h
    ·rename_i az;have iN:=iI iN;have hu:=Na hm;obtain⟨ra,bg⟩:=Uf az iN;cases rx with
     |dA _ _ ah Nd _ _ av _=>
      obtain⟨b,n,cf,rfl⟩:=Nd _ aQ;obtain⟨bV,hv,aL,g',hw,fh⟩:=aq.b7 _ _ aQ;rw[cf]at g';cases g';have t':(getObj b).run E.P w=.ok (.map hv aL) w:=by simp[getObj,ua,hw]
      have nx:=λ em:Bool=>Ul (w:=w) ra bg em
      cases aK:hH cu es with
      |none=>rw[aK]at h;cases h
      |some r=>
       rw[aK]at h;rcases akp iN es hv.toList 0 fh aK with⟨rfl,f2⟩|⟨u,ab,val,rfl,f2,f3⟩
       ·simp only[u5]at h;split at h
        ·rename_i dZ kw;split at h
         ·obtain⟨zz,j8,rfl⟩:=xx kw w;cases h;cases ok with
          |true=>
           refine⟨.tuple #[zz,.bool false],?_,?_⟩
           ·unfold zy;simp only[dU,run_underlying hu,ek,t',eL,nx,zA,run_underlying ra,f2,j8,if_true]
           ·exact .be _ _ (by simp) λ k a aB=>by
             match k,aB with
             |0,aB=>cases aB;exact sY zz
             |1,aB=>cases aB;exact .i _ _ (.v _ rfl)
             |k+2,aB=>simp at aB
          |false=>refine⟨zz,?_,by simpa using sY zz⟩;unfold zy;simp only[dU,run_underlying hu,ek,t',eL,nx,zA,run_underlying ra,f2,j8,fK,if_false]
         ·cases h
        ·cases h
       ·simp only[u5,bj]at h;cases h;cases ok with
        |true=>
         refine⟨.tuple #[val,.bool true],?_,?_⟩
         ·unfold zy;simp only[dU,run_underlying hu,ek,t',eL,nx,zA,run_underlying ra,f2,if_true]
         ·exact .be _ _ (by simp) λ k a aB=>by
           match k,aB with
           |0,aB=>cases aB;exact f3
           |1,aB=>cases aB;exact .i _ _ (.v _ rfl)
           |k+2,aB=>simp at aB
        |false=>refine⟨val,?_,by simpa using f3⟩;unfold zy;simp only[dU,run_underlying hu,ek,t',eL,nx,zA,run_underlying ra,f2,fK,if_false]
    ·cases h
   ·cases h
  ·cases h
 ·split at h
  ·rename_i hz;subst hz;exact look_ok aq h rx iN
  ·cases h
def Um{t:TypeId}{m k x v:U}{y z u:Value}{ap:aa}(aq:b6 E ad ac H w)(h:mQ E H t m k x=some (v,ap))(q7:a7 ad ac H m y)(iN:a7 ad ac H k z)(rx:a7 ad ac H x u):
  ∃ar,(IM t y z u).run E.P w=.ok () ar∧v=.dead∧cl E ad ac H w ap ar λ _ _=>True:=by
 unfold mQ at h;split at h
 ·rename_i c;unfold sS at h;split at h
  ·rename_i es aQ;split at h
   ·rename_i i7 e cu hm;split at h
    ·rename_i az;obtain⟨az,_⟩:=az;simp only[c0,bA]at h;obtain⟨hQ,av,rfl,rfl⟩:=h;have iN:=iI iN;have hu:=Na hm;obtain⟨ra,bg⟩:=Uf az iN;cases q7 with
     |dA _ _ ah Nd _ _ _ _=>
      obtain⟨b,n,cf,rfl⟩:=Nd _ aQ;obtain⟨bV,hv,aL,g',hw,fh⟩:=aq.b7 _ _ aQ;rw[cf]at g';cases g';have bf:b<w.heap.size:=(j6.1 hw).1;have t':(getObj b).run E.P w=.ok (.map hv aL) w:=by simp[getObj,ua,hw]
      have jd:∀aj:Obj,(setObj b aj).run E.P w=.ok () {w with heap:=w.heap.setIfInBounds b aj}:=λ aj=>by simp[setObj,ua,hw]
      have nx:=Ul (w:=w) ra bg false;have fin:∀(E4:Array MapEntry) (j9:Nat),mi ad ac H hQ E4.toList→(IM t (.map (some b)) z u).run E.P w=.ok () {w with heap:=w.heap.setIfInBounds b (.map E4 j9)}→
        ∃ar,(IM t (.map (some b)) z u).run E.P w=.ok () ar∧U.dead=.dead∧cl E ad ac H w (H.set c (.map hQ)) ar λ _ _=>True:=by
       intro E4 j9 aks lQ;refine⟨_,lQ,rfl,wrote (ar:={w with heap:=w.heap.setIfInBounds b (.map E4 j9)}) aq cf aQ (λ bV js=>by simp[Array.getElem?_setIfInBounds,ba js]) (by simp) rfl rfl rfl ?_ (λ hm=>?_) (λ _=>trivial)⟩
       ·intro q bn;rcases fB bn with⟨_,rfl⟩|⟨e,_⟩
        ·exact⟨es,aQ,rfl⟩
        ·exact absurd rfl e
       ·exact⟨b,E4,j9,cf,by simp[bf],aks.mono (λ _ _ h=>h) hm⟩
      rcases akq iN rx es hv.toList 0 fh av with⟨f1,f2⟩|⟨ab,val,f1,⟨aI,f3,f4⟩,f5⟩
      ·refine fin (hv.push {key:=z,val:=u,born:=aL}) (aL+1) (by rw[Array.toList_push];exact f2 aL) ?_;unfold IM;simp only[dU,run_underlying hu,ek,t',nx,zA,run_underlying ra,f1,eL,jd]
      ·have a':hv[ab]?=some aI:=by rw[←mW];exact f3
       refine fin (hv.modify ab λ e=>{e with key:=z,val:=u}) aL (by rw[Array.toList_modify];exact f5) ?_;unfold IM;simp only[dU,run_underlying hu,ek,t',nx,zA,run_underlying ra,f1,eL,cq,a',d',iM,Instr.keyThatStays,f4,if_true,jd]
    ·cases h
   ·cases h
  ·cases h
 ·cases h
def akt{I:Fr}{a:Act}{aj:Oper}{v:U}(h:ev E I H aj.op=some v)(aq:b6 E ad ac H w)(aK:e1 ad ac H I a.tmps):
  ∃x,(execOp a.eval aj).run E.P w=.ok (.value x) w∧a7 ad ac H v x:=by
 obtain⟨dst,op,ed,pos,after,guard⟩:=aj;simp only at h;cases op<;>(try(first|(simp only[ev]at h;done)|(simp only[ev]at h;cases h;done)))
 case move x=>simp only[ev,bj]at h;subst h;exact⟨_,by simp[execOp],eK aq aK x⟩
 case assign x=>simp only[ev,bj]at h;subst h;exact⟨_,by simp[execOp],eK aq aK x⟩
 case pick c x y=>
  simp only[ev]at h;split at h
  ·rename_i t ah;cases h;have qm:=eK aq aK c;rw[ah]at qm;refine⟨if t then a.eval x else a.eval y,by simp[execOp,fz qm,asBool],?_⟩;cases t
   ·exact eK aq aK y
   ·exact eK aq aK x
  ·cases h
 case build t parts=>
  simp only[ev]at h;obtain⟨u,j,J⟩:=ajM (w:=w) (jF:=parts.map λ p=>(p.1,a.eval p.2)) h ⟨by simp,λ k p q av bn=>by
   simp only[fA,c0,Nf]at av bn;obtain⟨kr,s7,rfl⟩:=av;obtain⟨mu,s8,rfl⟩:=bn;rw[s7]at s8;cases s8;exact⟨rfl,eK aq aK _⟩⟩
  exact⟨u,by simp only[execOp,dU];rw[j];simp,J⟩
 case load t x=>simp only[ev]at h;obtain⟨u,j,J⟩:=Tp aq (eK aq aK x) h;exact⟨u,by simp only[execOp,dU,j,ek,eL],J⟩
 case nilCheck x=>
  simp only[ev]at h;have al:=eK aq aK x;split at h
  ·rename_i ah;cases h;rw[ah]at al;have s9:=al;cases al with
   |ptr c g r k v fq ak aS BR aA av aP=>obtain⟨b,jJ⟩:=av;refine⟨a.eval x,?_,s9⟩;simp only[execOp,jJ,eL]
  ·rename_i ah;cases h;rw[ah]at al;have s9:=al;generalize aZ:a.eval x=y at al s9;cases iI al with
   |gl=>exact⟨_,by simp only[execOp,aZ,eL],s9⟩
  ·rename_i ah;cases h;rw[ah]at al;have s9:=al;generalize aZ:a.eval x=y at al s9;cases al with
   |aR=>exact⟨_,by simp only[execOp,aZ,eL],s9⟩
  ·rename_i ah;cases h;rw[ah]at al;obtain⟨_,⟨b,jJ⟩,_⟩:=xH al;exact⟨a.eval x,by simp only[execOp,jJ,eL],al⟩
  ·rename_i ah;cases h;rw[ah]at al;obtain⟨_,⟨b,jJ⟩,_⟩:=xH al;exact⟨a.eval x,by simp only[execOp,jJ,eL],al⟩
  ·cases h
 case binOp op t x y t2=>simp only[ev]at h;obtain⟨z,j,J⟩:=ajx (w:=w) h (eK aq aK x) (eK aq aK y) x y;exact⟨z,by simp only[execOp];rw[dU,j];simp,J⟩
 case unOp op t x=>simp only[ev]at h;obtain⟨z,j,J⟩:=ajy (w:=w) (P:=E.P) h (eK aq aK x);exact⟨z,by simp only[execOp,dU,j,ek,eL],J⟩
 case convert s d x=>
  simp only[ev]at h;split at h
  ·rename_i e he;obtain⟨z,j,J⟩:=akn (w:=w) aq he h (eK aq aK x);exact⟨z,by simp only[execOp,dU,j,ek,eL],J⟩
  ·obtain⟨z,j,J⟩:=ajH (w:=w) h (eK aq aK x);exact⟨z,by simp only[execOp,dU,j,ek,eL],J⟩
 case makeFunc fn first fy=>
  simp only[ev,bj]at h;subst h;have key:∀(l:Array Operand) (k:Nat) (b:U),(l.toList.map (bo E I))[k]?=some b→a7 ad ac H b ((l.map a.eval).getD k undef):=by intro l k b ak;simp only[fA,c0,mW]at ak;obtain⟨x,al,rfl⟩:=ak;have bf:=(j6.1 al).1;rw[getD_map _ _ _ bf,(j6.1 al).2];exact eK aq aK x
  exact⟨_,by simp only[execOp,Instr.makeFunc,dU,eL,ek],.aR _ _ _ _ _ (by simp) (by simp) (key first) (key fy)⟩
 case slice t x bU aA kQ=>simp only[ev]at h;obtain⟨u,j,J⟩:=TE h aq (eK aq aK x) (BH aq aK bU) (BH aq aK aA) (BH aq aK kQ);exact⟨u,by simp only[execOp,dU,j,ek,eL],J⟩
 case fieldAddr t x f=>
  simp only[ev]at h;split at h
  ·rename_i off ed xr;split at h
   ·rename_i z bg;split at h
    ·rename_i av;obtain⟨u,j,J⟩:=ajz (w:=w) xr bg av h (eK aq aK x);exact⟨u,by simp only[execOp,dU,j,ek,eL],J⟩
    ·cases h
   ·cases h
  ·cases h
 case field t x f=>simp only[ev]at h;obtain⟨u,j,J⟩:=ajE (w:=w) h (eK aq aK x);exact⟨u,by simp only[execOp,dU,j,ek,eL],J⟩
 case indexAddr t x jB=>simp only[ev]at h;obtain⟨u,j,J⟩:=ajB h aq (eK aq aK x) (eK aq aK jB);exact⟨u,by simp only[execOp,dU,j,ek,eL],J⟩
 case index t x jB=>simp only[ev]at h;obtain⟨u,j,J⟩:=ajD (w:=w) h (eK aq aK x) (eK aq aK jB);exact⟨u,by simp only[execOp,dU,j,ek,eL],J⟩
 case lookup t x k ok=>simp only[ev]at h;obtain⟨u,j,J⟩:=akr (w:=w) aq h (eK aq aK x) (eK aq aK k);exact⟨u,by simp only[execOp,dU,j,ek,eL],J⟩
 case extract x n=>
  simp only[ev]at h;split at h
  ·rename_i vs al;have r:=eK aq aK x;rw[al]at r;obtain⟨cs,e,j,J⟩:=Tk r;have bf:=(bF.1 h).1;refine⟨_,?_,J _ _ h⟩;simp only[execOp,e,Instr.extract];rw[getD_eq cs n R];simp
  ·cases h
 case call c=>
  obtain⟨callee,args,e6⟩:=c;cases callee with
  |value f=>simp[ev]at h
  |invoke r m=>simp[ev]at h
  |builtin b=>
   simp only[ev]at h;split at h
   ·rename_i x t al bq;have al:=TN al;have bq:=TN bq;subst al bq;have r:=eK aq aK x;split at h
    ·rename_i Ng;split at h
     ·rename_i l an;rw[an]at r;split at h
      ·rename_i aS;cases h;exact⟨_,by simp[execOp,resolve,invoke,builtin,Builtin.len_,run_underlying (se aS),qh r,goInt,size_mk],mm⟩
      ·cases h
     ·rename_i ay rows ex an;rw[an]at r;split at h
      ·cases h
      ·rename_i aS;cases h;rcases Ng with aV|aV
       ·exact absurd aV aS
       ·obtain⟨e,he⟩:=M_.1 aV;obtain⟨jg,cap,aZ⟩:=EQ (iI r);exact⟨_,by simp[execOp,resolve,invoke,builtin,Builtin.len_,run_underlying (h' he),aZ,goInt],mm⟩
     ·rename_i c g off len an;rw[an]at r;split at h
      ·cases h
      ·rename_i aS;cases h;rcases Ng with aV|aV
       ·exact absurd aV aS
       ·obtain⟨e,he⟩:=M_.1 aV;obtain⟨jg,cap,aZ⟩:=MM r;exact⟨_,by simp[execOp,resolve,invoke,builtin,Builtin.len_,run_underlying (h' he),aZ,goInt],mm⟩
     ·rename_i c g off len an;rw[an]at r;split at h
      ·cases h
      ·rename_i aS;cases h;rcases Ng with aV|aV
       ·exact absurd aV aS
       ·obtain⟨e,he⟩:=M_.1 aV;obtain⟨_,⟨jg,cap,aZ⟩,_⟩:=xH r;exact⟨_,by simp[execOp,resolve,invoke,builtin,Builtin.len_,run_underlying (h' he),aZ,goInt],mm⟩
     ·cases h
    ·cases h
   ·obtain⟨u,j,J⟩:=TO (w:=w) (g:=Builtin.max2) E.P (λ aO ff ib=>ajI E.P aO ff ib) (args.toList.map (bo E I)) (args.map a.eval).toList v (by simp)
     (λ k b y ak aZ=>by
      simp only[fA,c0,Nf]at ak aZ;obtain⟨kr,s7,rfl⟩:=ak;obtain⟨mu,s8,rfl⟩:=aZ;rw[s7]at s8;cases s8;exact eK aq aK _) (stuck "max: at least one argument expected") h
    have gz:(Builtin.max_ e6 ed (args.map a.eval)).run E.P w=.ok u w:=j;exact⟨u,by simp only[execOp,resolve,dU,eL,ek,invoke,builtin,gz],J⟩
   ·obtain⟨u,j,J⟩:=TO (w:=w) (g:=Builtin.min2) E.P (λ aO ff ib=>ajJ E.P aO ff ib) (args.toList.map (bo E I)) (args.map a.eval).toList v (by simp)
     (λ k b y ak aZ=>by
      simp only[fA,c0,Nf]at ak aZ;obtain⟨kr,s7,rfl⟩:=ak;obtain⟨mu,s8,rfl⟩:=aZ;rw[s7]at s8;cases s8;exact eK aq aK _) (stuck "min: at least one argument expected") h
    have gz:(Builtin.min_ e6 ed (args.map a.eval)).run E.P w=.ok u w:=j;exact⟨u,by simp only[execOp,resolve,dU,eL,ek,invoke,builtin,gz],J⟩
   ·cases h
def Un(aq:b6 E ad ac H w){ar:World}{aj:Obj}(hw:ar.heap=w.heap.push aj)(b':ar.os=w.os)(bq:ar.tape=w.tape)(hu:ar.output=w.output)(b7:Chunk)
  (kZ:fb ad ac H ad (fS ac H.length w.heap.size 0) (H++[b7])→oD ad (fS ac H.length w.heap.size 0) (H++[b7]) ar H.length b7){Q:cb→b9→Prop}
  (eY:fb ad ac H ad (fS ac H.length w.heap.size 0) (H++[b7])→Q ad (fS ac H.length w.heap.size 0)):cl E ad ac H w (H++[b7]) ar Q:=by
 have hold:∀b,b<w.heap.size→ar.heap[b]?=w.heap[b]?:=by intro b ak;rw[hw,Is,if_neg R]
 have hm:fb ad ac H ad (fS ac H.length w.heap.size 0) (H++[b7]):=by
  refine mV (λ _ _ h=>h) (by simp) λ c ah=>?_
  exact jc.same (by rw[en ah]) (λ r=>by simp[fS,show c≠H.length by omega])
 have hy:∀(c:fj) b n,fS ac H.length w.heap.size 0 c=some (b,n)→(c=⟨H.length,0⟩∧b=w.heap.size∧n=0)∨ac c=some (b,n):=by
  intro c b n h;unfold fS at h;split at h
  ·cases h;exact .inl ⟨by assumption,rfl,rfl⟩
  ·exact .inr h
 refine⟨ad,fS ac H.length w.heap.size 0,⟨λ b aj ak=>?_,λ c x al=>?_,λ c cp b n dO j J=>?_,λ c b n h=>?_,aq.e_⟩,⟨b',bq,hu,by rw[hw];simp,λ b ak _=>hold b ak,λ _ _ h=>h,λ b h=>.inl h,λ c b n h=>?_⟩,hm,eY hm⟩
 ·have:=aq.dT b aj ak;have bf:b<w.heap.size:=(j6.1 this).1;rw[hold b bf];exact this
 ·by_cases ah:c<H.length
  ·rw[en ah]at al;refine(aq.b7 c x al).mono (λ r=>by simp[fS,show c≠H.length by omega]) (λ _ _ h=>h) hm λ r b n h=>hold b (aq.sep _ _ _ h).2.1
  ·have:c=H.length:=by have:=(bF.1 al).1;simp at this;omega
   subst this;simp at al;subst al;exact kZ hm
 ·rcases hy _ _ _ j with⟨rfl,rfl,rfl⟩|ao
  ·rcases hy _ _ _ J with⟨e,_,_⟩|aI
   ·exact e.symm
   ·have:=(aq.sep _ _ _ aI).2.1;omega
  ·rcases hy _ _ _ J with⟨e,rfl,_⟩|aI
   ·have:=(aq.sep _ _ _ ao).2.1;omega
   ·exact aq.inj _ _ _ _ _ ao aI
 ·rcases hy _ _ _ h with⟨rfl,rfl,rfl⟩|ao
  ·refine⟨?_,by rw[hw];simp,by simp⟩;cases cd:ad w.heap.size with
   |none=>rfl
   |some aj=>have:=aq.dT _ _ cd;simp at this
  ·have:=aq.sep _ _ _ ao;exact⟨this.1,by rw[hw];simp;omega,by simp;omega⟩
 ·rcases hy _ _ _ h with⟨rfl,rfl,rfl⟩|ao
  ·exact .inl (cQ _)
  ·exact .inr ⟨_,_,ao⟩
def aku(aq:b6 E ad ac H w){t:TypeId}{l:List UInt8}(bq:hG E.P t=true):
  ∃x ar,(Instr.range t (.string ⟨⟨l⟩⟩)).run E.P w=.ok x ar∧cl E ad ac H w (H++[.iter l 0]) ar λ aN aC=>a7 aN aC (H++[.iter l 0]) (.ptr H.length 0 0 0) x:=by
 refine⟨_,_,run_range_string w t ⟨⟨l⟩⟩ (se bq),?_⟩;refine Un (ar:=w.iter ⟨⟨l⟩⟩ 0) (aj:=.stringIter ⟨⟨l⟩⟩ 0) aq rfl rfl rfl rfl _ (λ hm=>?_) (λ hm=>?_)
 ·exact⟨w.heap.size,by simp[fS],World.iter_heap w _ 0⟩
 ·exact .ptr _ _ _ _ _ (by simp) (λ _ h=>by simp at h) (λ _ _ _ h=>by simp at h) (λ _ _ _ _ h=>by simp at h) (λ s p h=>⟨w.heap.size,0,by simp[fS],rfl⟩) ⟨_,rfl⟩ (λ _ _ _ _ h=>by simp at h)
def akv:a7 ad ac H (.be [.bool false]) (.tuple #[.bool false]):=.be _ _ rfl (λ k a h=>by
 cases k with
 |zero=>simp at h;subst h;exact xh
 |succ k=>simp at h)
def akw{a:Bool}{n m:Int}:a7 ad ac H (.be [.bool a,.int .i64 n,.int .i32 m]) (.tuple #[.bool a,.int .i64 n,.int .i32 m]):=.be _ _ rfl (λ k x h=>by
 match k with
 |0=>simp at h;subst h;exact xh
 |1=>simp at h;subst h;exact mm
 |2=>simp at h;subst h;exact mm
 |k+3=>simp at h)
def akx(aq:b6 E ad ac H w){c g r:Nat}{y:Value}{s:List UInt8}{pos:Nat}(ed:TypeId)(ai:a7 ad ac H (.ptr c g r 0) y)(aQ:H[c]?=some (.iter s pos)):
  (pos<s.length→∃x ar,(Instr.next y true ed).run E.P w=.ok x ar∧cl E ad ac H w (H.set c (.iter s (pos+(mh ⟨⟨s⟩⟩ pos).2))) ar λ aN aC=>a7 aN aC (H.set c (.iter s (pos+(mh ⟨⟨s⟩⟩ pos).2))) (.be [.bool true,.int .i64 pos,.int .i32 (mh ⟨⟨s⟩⟩ pos).1]) x)∧
  (¬pos<s.length→∃x,(Instr.next y true ed).run E.P w=.ok x w∧a7 ad ac H (.be [.bool false]) x):=by
 cases ai with
 |ptr _ _ _ _ _ ah ak aS aK aA av aP=>
  obtain⟨b,n,cf,rfl⟩:=aA _ _ aQ;obtain⟨bV,g',hw⟩:=aq.b7 _ _ aQ;rw[cf]at g';cases g';have bf:b<w.heap.size:=(j6.1 hw).1;refine⟨λ hS=>?_,λ hS=>?_⟩
  ·have Nh:pos<(⟨⟨s⟩⟩:ByteArray).size:=hS
   let W:World:={w with heap:=w.heap.setIfInBounds b (.stringIter ⟨⟨s⟩⟩ (pos+(mh ⟨⟨s⟩⟩ pos).2))}
   refine⟨.tuple #[.bool true,.int .i64 pos,.int .i32 (mh ⟨⟨s⟩⟩ pos).1],W,?_,?_⟩
   ·simp[Instr.next,getObj,setObj,ua,hw,Nh,goInt,W]
   ·refine wrote (ar:=W) aq cf aQ (λ bV js=>by simp[W,Array.getElem?_setIfInBounds,ba js]) (by simp[W]) rfl rfl rfl ?_ (λ hm=>?_) (λ hm=>akw)
    ·intro z bg;rcases fB bg with⟨_,rfl⟩|⟨e,_⟩
     ·exact⟨s,pos,aQ,rfl⟩
     ·exact absurd rfl e
    ·exact⟨b,cf,by simp[W,bf]⟩
  ·have Nh:¬pos<(⟨⟨s⟩⟩:ByteArray).size:=hS;exact⟨.tuple #[.bool false],by simp[Instr.next,getObj,ua,hw,Nh],akv⟩
end
section
variable{E:Env}{ad:cb}{ac:b9}{H:aa}{w:World}
def aky{P:Program}{e:TypeId}{z:U}(h:kO P e=some z):∃v,(∀w,(zeroValue e).run P w=.ok v w)∧z=jZ v:=by simp only[kO,c0,BK]at h;obtain⟨v,⟨i,aA,bg⟩,rfl⟩:=h;exact⟨v,λ w=>by simp[zeroValue,run_typeInfo w aA,bg],rfl⟩
def akz(P:Program)(e:TypeId)(z:Nat):Prop:=∃v:Value,(∀w,(zeroValue e).run P w=.ok v w)∧v.cells.size=z
def Uo{z:Nat}{e:TypeId}{a:U}(h:kO E.P e=some a)(j:(cA a).length=z)(J:(cA a).all one=true):akz E.P e z:=by obtain⟨v,bi,rfl⟩:=aky h;exact⟨v,bi,by rw[←j];exact(tV (sY (ad:=λ _=>none) (ac:=λ _=>none) (H:=[]) v) J).1⟩
def BS{rows:List bS}{off n:Nat}(h:off+n≤rows.length):(e' rows off n).length=rows.length:=by simp only[e',dd,gE,mv,ic];omega
def akA{rows:List bS}{off n i:Nat}{y:bS}(h:off+n≤rows.length)(aA:(e' rows off n)[i]?=some y):(off≤i∧i<off+n∧y=.dead)∨(¬(off≤i∧i<off+n)∧rows[i]?=some y):=by
 unfold e' at aA;rw[tZ]at aA;have ao:(rows.take off).length=off:=by simp;omega
 rw[ao]at aA;split at aA
 ·rename_i bf;rw[nZ,if_pos bf]at aA;exact .inr ⟨R,aA⟩
 ·rename_i bf;rw[tZ,mv]at aA;split at aA
  ·rename_i J;rw[Ni,if_pos J]at aA;cases aA;exact .inl ⟨R,R,rfl⟩
  ·rename_i J;rw[q5,show off+n+(i-off-n)=i by omega]at aA;exact .inr ⟨R,aA⟩
def mj.one{z c r:Nat}{y:bS}{v:Value}(h:mj ad ac w z c r y v):v.oneCell'=true:=by
 cases y with
 |own bR=>obtain⟨a,m,rfl⟩:=h.slice;rfl
 |dG q=>exact ES h
 |dead=>exact h
def IN(P:Program)(aq:b6 E ad ac H w){z d:Nat}{x:U}{ls:Value}{new:List bS}{H1:aa}(rx:a7 ad ac H x ls)(h:lK z H x=some (d,new,H1)):
  ∃g off s rows,x=.x (.d d g off new.length)∧H[d]?=some (.ax z g s rows)∧off+new.length≤rows.length∧(∀i,i<new.length→new[i]?=rows[off+i]?)∧H1=H.set d (.ax z g (s+1) (e' rows off new.length))∧
   ∃(eA:Array Value) (a:Option Addr) (cap:Nat),ls=.slice a new.length cap∧(∀ar:World,ar.heap=w.heap→(iK 1 new.length ls).run P ar=.ok eA ar)∧eA.size=new.length∧
    (∀(i:Nat) (y:bS),new[i]?=some y→mj ad ac w z d (off+i) y (eA.getD i undef))∧∀i,i<new.length→∃jg:Addr,a=some jg∧w.cell? (jg.add i)=some (eA.getD i undef):=by
 unfold lK at h;split at h;rotate_left
 ·cases h
 rename_i c g off len;unfold u' at h;split at h;rotate_left
 ·cases h
 rename_i db aY s rows aQ;split at h;rotate_left
 ·cases h
 rename_i ah;obtain⟨rfl,rfl,hle⟩:=ah;simp only[bj,bA]at h;obtain⟨rfl,rfl,rfl⟩:=h;have an:((rows.drop off).take len).length=len:=by simp;omega
 rw[an];have qp:∀i,i<len→((rows.drop off).take len)[i]?=rows[off+i]?:=by intro i aA;rw[nZ,if_pos aA,q5]
 refine⟨g,off,s,rows,rfl,aQ,hle,qp,rfl,?_⟩;obtain⟨cg,_,al⟩:=xH rx;obtain⟨_,a,cap,rfl,fm⟩:=(al _ _ _ _ aQ).2 rfl;by_cases aV:len=0
 ·subst aV;refine⟨#[],a,cap,rfl,λ ar _=>?_,rfl,λ i y aA=>by simp at aA,λ i aA=>R⟩;cases a<;>simp[iK,loadCells,loadCellsFrom]
 ·rcases aq.b7 _ _ aQ with⟨_,bb⟩|⟨b,cs,elem,bl,cf,hw,gK,ey,el⟩
  ·subst bb;simp at hle;omega
  ·rcases fm with⟨he,_⟩|⟨dE,m,he,_,_,aB⟩
   ·rw[cf]at he;cases he
   ·rw[cf]at he;cases he;rcases aB with rfl|⟨bu,_⟩;rotate_left
    ·exact absurd bu aV
    refine⟨((hg len).map λ ab=>(w.cell? ⟨b,off+ab,none⟩).getD undef).toArray,_,cap,rfl,λ ar ql=>?_,by simp,λ i y aA=>?_,λ i aA=>⟨_,rfl,?_⟩⟩
    ·have ai:(loadCells ⟨b,off,none⟩ len).run P ar=.ok ((hg len).map λ ab=>(w.cell? ⟨b,off+ab,none⟩).getD undef).toArray ar:=by
      refine run_loadCells ar _ _ _ λ ab a'=>?_
      have:ar.cell? ⟨b,off+ab,none⟩=w.cell? ⟨b,off+ab,none⟩:=by simp[sf,ql]
      rw[lk,this,cell_of hw];have bf:off+ab<cs.size:=R;rw[getD_eq _ _ bf];rfl
     simp[iK,ai]
    ·have mo:i<len:=by have:=(bF.1 aA).1;rw[an]at this;exact this
     rw[qp i mo]at aA;have bf:off+i<cs.size:=by have:=(bF.1 aA).1;omega
     have e:((hg len).map λ ab=>(w.cell? ⟨b,off+ab,none⟩).getD undef).toArray.getD i undef=cs.getD (off+i) undef:=by simp[dp,mo,cell_of hw]
     rw[e];exact el _ _ aA
    ·have bf:off+i<cs.size:=R;have e:((hg len).map λ ab=>(w.cell? ⟨b,off+ab,none⟩).getD undef).toArray.getD i undef=cs.getD (off+i) undef:=by simp[dp,aA,cell_of hw]
     rw[e,lk,cell_of hw];exact getD_eq _ _ bf
def BT(aq:b6 E ad ac H w){ar:World}{ap:aa}{c d z g2 s2 off n p g1 s1 fo:Nat}{c9 rows eF:List bS}{cs iO:Array Value}{ao:TypeId}{vv:Nat×Nat}{eA:Array Value}(e7:c≠d)
  (m':H[d]?=some (.ax z g2 s2 c9))(b':off+n≤c9.length)(hlen:H.length≤ap.length)(k0:ap[c]?=some (.ax z g1 s1 eF))(vw:ap[d]?=some (.ax z g2 (s2+1) (e' c9 off n)))
  (nz:∀e,e≠c→e≠d→ap[e]?=H[e]?)(akB:c<H.length→∃z0 g s hh,H[c]?=some (.ax z0 g s hh)∧(g<g1∨(z0=z∧g=g1∧s<s1∧eF.length=hh.length∧ac ⟨c,0⟩=some (fo,iO.size))))
  (xF:ar.heap[fo]?=some (.cells iO ao vv))(akC:vf vv iO.size)(Ic:eF.length≤iO.size)(pA:ac ⟨c,0⟩=some (fo,iO.size)∨w.heap.size≤fo)
  (gN:∀b,b<w.heap.size→(∀m,ac ⟨c,0⟩≠some (b,m))→ar.heap[b]?=w.heap[b]?)(ey:w.heap.size≤ar.heap.size)(akD:ar.os=w.os)(akE:ar.tape=w.tape)(akF:ar.output=w.output)
  (pz:∀(i:Nat) (y:bS),i<n→c9[off+i]?=some y→mj ad ac w z d (off+i) y (eA.getD i undef))
  (hold:∀(ab:Nat) (y:bS),rows[ab]?=some y→mj ad ac w z c ab y (cs.getD ab undef))
  (bZ:∀(ab:Nat) (y:bS),eF[ab]?=some y→(∃i,i<n∧ab=p+i∧c9[off+i]?=some y∧iO.getD ab undef=eA.getD i undef)∨(¬(p≤ab∧ab<p+n)∧rows[ab]?=some y∧iO.getD ab undef=cs.getD ab undef))
  {Q:cb→b9→Prop}(eY:∀aC:b9,aC ⟨c,0⟩=some (fo,iO.size)→Q ad aC):cl E ad ac H w ap ar Q:=by
 let aC:b9:=λ i=>if i.c=c then(if i.r=0 then some (fo,iO.size)else if p<i.r∧i.r≤p+n then ac ⟨d,off+(i.r-p)⟩else ac i)else if i.c=d∧off<i.r∧i.r≤off+n then none else ac i
 have c8:aC ⟨c,0⟩=some (fo,iO.size):=by simp[aC]
 have Up:∀i,i<n→aC ⟨c,p+i+1⟩=ac ⟨d,off+i+1⟩:=by intro i aA;simp only[aC,if_true];rw[if_neg R,if_pos R,show off+(p+i+1-p)=off+i+1 by omega]
 have Uq:∀ab,¬(p≤ab∧ab<p+n)→aC ⟨c,ab+1⟩=ac ⟨c,ab+1⟩:=by intro ab a';simp only[aC,if_true];rw[if_neg R,if_neg R]
 have Ur:∀ab,¬(off≤ab∧ab<off+n)→aC ⟨d,ab+1⟩=ac ⟨d,ab+1⟩:=by intro ab a';simp only[aC];rw[if_neg (ba e7),if_neg R]
 have IP:aC ⟨d,0⟩=ac ⟨d,0⟩:=by simp only[aC];rw[if_neg (ba e7),if_neg R]
 have vx:∀e q,e≠c→e≠d→aC ⟨e,q⟩=ac ⟨e,q⟩:=by intro e q j J;simp only[aC];rw[if_neg j,if_neg (λ h=>J h.1)]
 have ft:d<H.length:=(bF.1 m').1;have xu:c<ap.length:=(bF.1 k0).1;have inv:∀(i:fj) b m,aC i=some (b,m)→(i=⟨c,0⟩∧b=fo)∨(∃q,i=⟨c,p+q+1⟩∧q<n∧ac ⟨d,off+q+1⟩=some (b,m))∨(i≠⟨c,0⟩∧(∀q,q<n→i≠⟨c,p+q+1⟩)∧(∀q,q<n→i≠⟨d,off+q+1⟩)∧ac i=some (b,m)):=by
  rintro⟨Us,BU⟩ b m h;by_cases j:Us=c
  ·subst j;by_cases J:BU=0
   ·subst J;rw[c8]at h;cases h;exact .inl ⟨rfl,rfl⟩
   ·obtain⟨ab,rfl⟩:∃ab,BU=ab+1:=⟨BU-1,R⟩;by_cases aw:p≤ab∧ab<p+n
    ·obtain⟨q,rfl⟩:∃q,ab=p+q:=⟨ab-p,R⟩;rw[Up q R]at h;exact .inr (.inl ⟨q,rfl,R,h⟩)
    ·rw[Uq ab aw]at h;exact .inr (.inr ⟨by simp,λ q bn=>by simp;omega,λ q bn=>by simp[e7],h⟩)
  ·by_cases J:Us=d
   ·subst J;by_cases aw:BU=0
    ·subst aw;rw[IP]at h;exact .inr (.inr ⟨by simp[ba e7],λ q bn=>by simp,λ q bn=>by simp,h⟩)
    ·obtain⟨ab,rfl⟩:∃ab,BU=ab+1:=⟨BU-1,R⟩;by_cases bb:off≤ab∧ab<off+n
     ·simp only[aC]at h;rw[if_neg j,if_pos (by first|exact⟨trivial,R,R⟩|exact⟨rfl,R,R⟩)]at h;cases h
     ·rw[Ur ab bb]at h;exact .inr (.inr ⟨by simp,λ q bn=>by simp[ba e7],λ q bn=>by simp;omega,h⟩)
   ·rw[vx _ _ j J]at h;exact .inr (.inr ⟨by simp[j],λ q bn=>by simp[j],λ q bn=>by simp[J],h⟩)
 have fC:∀i m,ac i=some (fo,m)→ac ⟨c,0⟩=some (fo,iO.size):=by
  intro i m h;rcases pA with j|j
  ·exact j
  ·have:=(aq.sep _ _ _ h).2.1;omega
 have stay:∀(i:fj) b m,ac i=some (b,m)→i≠⟨c,0⟩→ar.heap[b]?=w.heap[b]?:=by
  intro i b m h aA;exact gN b (aq.sep _ _ _ h).2.1 λ b1 h9=>aA (aq.inj _ _ _ _ _ h h9)
 refine EU aq (aC:=aC) (λ e he=>?_) hlen (λ hm e x al=>?_) (λ b ak aF=>gN b ak λ m=>aF _ m) ey akD akE akF (λ i b m h=>?_) (λ i b m h=>?_) (λ i ab b m b1 j J=>?_) (λ hm=>eY aC c8)
 ·by_cases jH:e=c
  ·subst jH;intro x al;rw[k0]at al;cases al;intro db aY dH qd ll;rw[k0]at ll;cases ll;obtain⟨z0,g,s,hh,ch,cw⟩:=akB he;rcases cw with cw|⟨rfl,rfl,fl,jb,ml⟩
   ·exact .inr ⟨_,_,_,_,ch,cw⟩
   ·exact .inl ⟨s,hh,ch,by rw[c8];exact ml.symm,jb,.inl fl⟩
  ·by_cases px:e=d
   ·subst px;intro x al;rw[vw]at al;cases al;intro db aY dH qd ll;rw[vw]at ll;cases ll;exact .inl ⟨s2,c9,m',IP,BS b',.inl R⟩
   ·exact jc.same (nz e jH px) λ q=>vx e q jH px
 ·by_cases jH:e=c
  ·subst jH;rw[k0]at al;cases al;refine .inr ⟨fo,iO,ao,vv,c8,xF,akC,Ic,λ ab y a'=>?_⟩;rcases bZ ab y a' with⟨i,aA,rfl,aZ,bi⟩|⟨Nj,aZ,bi⟩
   ·rw[bi];have:=pz i y aA aZ;cases y with
    |own bR=>
     obtain⟨bG,bH⟩:=this;refine⟨bG,?_⟩;rcases bH with bH|⟨b,xk,zC,bl,ch,cw,fl,jb,ml,xg⟩
     ·exact .inl bH
     ·exact .inr ⟨b,xk,zC,bl,by rw[Up i aA];exact ch,cw,by rw[stay _ _ _ ch (by simp[ba e7])];exact fl,jb,ml,xg⟩
    |dG q=>exact this
    |dead=>exact this
   ·rw[bi];exact(hold ab y aZ).mono (Uq ab Nj) (λ _ _ h=>h) λ b m h=>stay _ _ _ h (by simp)
  ·by_cases px:e=d
   ·subst px;rw[vw]at al;cases al;rcases aq.b7 _ _ m' with⟨ch,cw⟩|⟨b,xk,zC,bl,ch,cw,fl,jb,ml⟩
    ·refine .inl ⟨by rw[←ch];exact IP,?_⟩;subst cw;have:(e' [] off n).length=0:=BS b';exact qe.1 this
    ·refine .inr ⟨b,xk,zC,bl,by rw[←ch];exact IP,by rw[stay _ _ _ ch (by simp[ba e7])];exact cw,fl,by rw[BS b'];exact jb,λ ab y a'=>?_⟩;rcases akA b' a' with⟨j,J,rfl⟩|⟨j,J⟩
     ·have Nj:ab<c9.length:=R;have:=ml ab _ (eT Nj);exact this.one
     ·exact(ml ab y J).mono (Ur ab j) (λ _ _ h=>h) λ b m h=>stay _ _ _ h (by simp)
   ·rw[nz e jH px]at al;exact(aq.b7 _ _ al).mono (λ q=>vx e q jH px) (λ _ _ h=>h) hm λ q b m h=>stay _ _ _ h (by simp[jH])
 ·rcases inv i b m h with⟨rfl,rfl⟩|⟨q,rfl,_,j⟩|⟨_,_,_,j⟩
  ·rcases pA with j|j
   ·exact .inr ⟨_,_,j⟩
   ·exact .inl R
  ·exact .inr ⟨_,_,j⟩
  ·exact .inr ⟨_,_,j⟩
 ·rcases inv i b m h with⟨rfl,rfl⟩|⟨q,rfl,_,j⟩|⟨_,_,_,j⟩
  ·exact⟨(j6.1 xF).1,xu⟩
  ·exact⟨xf (aq.sep _ _ _ j).2.1 ey,xu⟩
  ·exact⟨xf (aq.sep _ _ _ j).2.1 ey,xf (aq.sep _ _ _ j).2.2 hlen⟩
 ·rcases inv i b m j with⟨rfl,rfl⟩|⟨q,rfl,bn,hC⟩|⟨akG,aRj,akH,hC⟩
  ·rcases inv ab b b1 J with⟨rfl,_⟩|⟨BV,rfl,Nk,a2⟩|⟨v1,v2,v3,a2⟩
   ·rfl
   ·have:=aq.inj _ _ _ _ _ a2 (fC _ _ a2);simp[ba e7]at this
   ·exact absurd (aq.inj _ _ _ _ _ a2 (fC _ _ a2)) v1
  ·rcases inv ab b b1 J with⟨rfl,rfl⟩|⟨BV,rfl,Nk,a2⟩|⟨v1,v2,v3,a2⟩
   ·have:=aq.inj _ _ _ _ _ hC (fC _ _ hC);simp[ba e7]at this
   ·have:=aq.inj _ _ _ _ _ hC a2;simp at this;rw[this]
   ·exact absurd (aq.inj _ _ _ _ _ a2 hC) (v3 q bn)
  ·rcases inv ab b b1 J with⟨rfl,rfl⟩|⟨BV,rfl,Nk,a2⟩|⟨v1,v2,v3,a2⟩
   ·exact absurd (aq.inj _ _ _ _ _ hC (fC _ _ hC)) akG
   ·exact absurd (aq.inj _ _ _ _ _ hC a2) (akH BV Nk)
   ·exact aq.inj _ _ _ _ _ hC a2
def l0{d:Nat}:∀{l:List U},d∈bz l↔∃(k:Nat) (a:U),l[k]?=some a∧d∈bd a
 |[]=>by simp[bz]
 |a::l=>by
  simp only[bz,fT,l0 (l:=l)];constructor
  ·rintro(h|⟨k,b,j,J⟩)
   ·exact⟨0,a,rfl,h⟩
   ·exact⟨k+1,b,by simpa using j,J⟩
  ·rintro⟨k,b,j,J⟩;cases k with
   |zero=>simp at j;subst j;exact .inl J
   |succ k=>exact .inr ⟨k,b,by simpa using j,J⟩
def rb{a:U}{v:Value}(r:a7 ad ac H a v):∀d∈bd a,d<H.length:=by
 induction r with
 |dead v=>intro d aM;simp[bd]at aM
 |i x v h=>intro d aM;simp[bd]at aM
 |agg cells cs an _ a8=>intro d aM;simp only[bd]at aM;obtain⟨k,b,j,J⟩:=l0.1 aM;exact a8 k b j d J
 |ref c g off len v ah aS aK av aP=>intro d aM;simp[bd]at aM;omega
 |ptr c g r k v ah ak aS aK aA av aP=>intro d aM;simp[bd]at aM;omega
 |dA c v ah hm bq hu av bg=>intro d aM;simp[bd]at aM;omega
 |x k v h aK=>intro d aM;simp[bd]at aM;subst aM;exact h.lt
 |aR fn first fy eP cs an hm _ _ nX nY=>
  intro d aM;simp only[bd,fT]at aM;rcases aM with aM|aM
  ·obtain⟨k,b,j,J⟩:=l0.1 aM;exact nX k b j d J
  ·obtain⟨k,b,j,J⟩:=l0.1 aM;exact nY k b j d J
 |be vs xs an _ a8=>intro d aM;simp only[bd]at aM;obtain⟨k,b,j,J⟩:=l0.1 aM;exact a8 k b j d J
def Ut{y:Chunk}{c:Nat}{cells:List U}(h:oD ad ac H w c y)(aZ:y=.box cells∨(∃t,y=.cZ t cells)):∀d∈bz cells,d<H.length:=by
 intro d aM;obtain⟨k,a,j,J⟩:=l0.1 aM;rcases aZ with rfl|⟨t,rfl⟩
 ·obtain⟨_,cs,_,_,_,_,_,_,bu⟩:=h;exact rb (bu k a j) d J
 ·obtain⟨_,cs,_,_,_,bu⟩:=h;exact rb (bu k a j) d J
def IQ{ET j_:Chunk}{a:U}{v:Value}(r:a7 ad ac (H++[ET]) a v):(∀d∈bd a,d<H.length)→a7 ad ac (H++[j_]) a v:=by
 have xL:∀d,d<H.length→(H++[j_])[d]?=(H++[ET])[d]?:=by intro d aM;rw[en aM,en aM]
 induction r with
 |dead v=>exact λ _=>.dead v
 |i x v h=>exact λ _=>.i x v h
 |agg cells cs an _ a8=>exact λ aM=>.agg cells cs an λ k a aB=>a8 k a aB λ d h=>aM d (by simp only[bd];exact l0.2 ⟨k,a,aB,h⟩)
 |aR fn first fy eP cs an hm _ _ nX nY=>exact λ aM=>.aR fn first fy eP cs an hm (λ k a aB=>nX k a aB λ d h=>aM d (by simp only[bd,fT];exact .inl (l0.2 ⟨k,a,aB,h⟩))) (λ k a aB=>nY k a aB λ d h=>aM d (by simp only[bd,fT];exact .inr (l0.2 ⟨k,a,aB,h⟩)))
 |be vs xs an _ a8=>exact λ aM=>.be vs xs an λ k a aB=>a8 k a aB λ d h=>aM d (by simp only[bd];exact l0.2 ⟨k,a,aB,h⟩)
 |ref d g off len v ah aS aK av aP=>intro aM;have e:=xL d (aM d (by simp[bd]));exact .ref _ _ _ _ _ (by simpa using ah) (λ ay rows ex h=>aS ay rows ex (by rw[←e];exact h)) (λ ay rows ex h=>aK ay rows ex (by rw[←e];exact h)) av (λ ay aY rows ex h=>aP ay aY rows ex (by rw[←e];exact h))
 |dA d v ah hm bq hu av bg=>intro aM;have e:=xL d (aM d (by simp[bd]));exact .dA _ _ (by simpa using ah) (λ es h=>hm es (by rw[←e];exact h)) (λ t cells h=>bq t cells (by rw[←e];exact h)) (λ t l h=>hu t l (by rw[←e];exact h)) av (λ ay g rows ex h=>bg _ _ _ _ (by rw[←e];exact h))
 |ptr d g r k v ah ak aS aK aA av aP=>intro aM;have e:=xL d (aM d (by simp[bd]));exact .ptr _ _ _ _ _ (by simpa using ah) (λ cells h=>ak cells (by rw[←e];exact h)) (λ ay rows ex h=>aS ay rows ex (by rw[←e];exact h)) (λ ay rows ex row h=>aK ay rows ex row (by rw[←e];exact h)) (λ s p h=>aA s p (by rw[←e];exact h)) av (λ ay aY rows ex h=>aP ay aY rows ex (by rw[←e];exact h))
 |x k v h aK=>intro aM;have e:=xL k.c (aM k.c (by simp[bd]));refine .x _ _ (h.step (by simp) ?_) (aK.to (λ _ _ h=>h) λ g rows aQ=>by rw[e]at aQ;exact aQ);intro z g s rows aQ;rw[e]at aQ;exact .inl ⟨s,rows,aQ,rfl,rfl,.inr ⟨rfl,λ r bR ai=>⟨bR,ai,rfl,rfl⟩⟩⟩
def Nl(aq:b6 E ad ac H w){ar:World}{rows:List (List aD)}{ex:Bool}{x:Value}{n z:Nat}
  (b0:cl E ad ac H w (H++[.ae 1 0 rows ex]) ar λ aN aC=>a7 aN aC (H++[.ae 1 0 rows ex]) (.ref H.length 0 0 n) x):
  cl E ad ac H w (H++[.ax z 0 0 (rows.map p_)]) ar λ aN aC=>a7 aN aC (H++[.ax z 0 0 (rows.map p_)]) (.x (.d H.length 0 0 n)) x:=by
 obtain⟨aN,aC,nB,cW,Nn,s_⟩:=b0;have last:(H++[Chunk.ae 1 0 rows ex])[H.length]?=some (.ae 1 0 rows ex):=by simp
 have key:∀a v,a7 ad ac H a v→a7 aN aC (H++[.ax z 0 0 (rows.map p_)]) a v:=λ a v r=>IQ (Nn a v r) (rb r)
 obtain⟨bg,hk,fm⟩:=nB.b7 _ _ last;have M5:∃a cap,x=.slice a n cap∧EC aC H.length rows.length 0 n (.slice a n cap):=by
  cases s_ with
  |ref c g off len v ah aS aK av aP=>
   obtain⟨ch,a,cap,rfl,cw⟩:=aS _ _ _ last;refine⟨a,cap,rfl,ch,a,cap,rfl,?_⟩;rcases cw with cw|⟨b,m,bG,bH,cG,eZ⟩
   ·exact .inl cw
   ·exact .inr ⟨b,m,bG,bH,by simpa using cG,by simpa using eZ⟩
 obtain⟨a,cap,rfl,akI⟩:=M5;refine⟨aN,aC,⟨nB.dT,λ c y aZ=>?_,nB.inj,λ i b m h=>by have:=nB.sep i b m h;simpa using this,nB.e_⟩,cW,key,?_⟩
 ·by_cases ah:c<H.length
  ·rw[en ah]at aZ;have E5:(H++[Chunk.ae 1 0 rows ex])[c]?=some y:=by rw[en ah];exact aZ
   have j:=nB.b7 _ _ E5;have aV:=aq.b7 _ _ aZ;cases y with
   |box cells=>have ai:=Ut aV (.inl rfl);obtain⟨b,cs,elem,bl,ch,cw,fl,jb,ml⟩:=j;exact⟨b,cs,elem,bl,ch,cw,fl,jb,λ k a aB=>IQ (ml k a aB) λ d aM=>ai d (l0.2 ⟨k,a,aB,aM⟩)⟩
   |cZ t cells=>have ai:=Ut aV (.inr ⟨t,rfl⟩);obtain⟨b,cs,ch,cw,jb,ml⟩:=j;exact⟨b,cs,ch,cw,jb,λ k a aB=>IQ (ml k a aB) λ d aM=>ai d (l0.2 ⟨k,a,aB,aM⟩)⟩
   |map es=>obtain⟨b,hv,aL,ch,cw,fl⟩:=j;obtain⟨_,_,_,_,_,cG⟩:=aV;exact⟨b,hv,aL,ch,cw,fl.of λ a v aB r=>IQ r (rb (cG.ex aB).choose_spec)⟩
   |ae=>exact j
   |bl=>exact j
   |iter=>exact j
   |jA=>exact j
   |gone=>exact j
   |fd=>exact j
   |ax=>exact j
  ·have:c=H.length:=by have:=(bF.1 aZ).1;simp at this;omega
   subst this;simp at aZ;subst aZ;rcases fm with⟨j,J⟩|⟨b,cs,elem,bl,j,J,aw,bb,_,bu⟩
   ·exact .inl ⟨j,by rw[J];rfl⟩
   ·refine .inr ⟨b,cs,elem,bl,j,J,aw,by simpa using bb,λ r y ai=>?_⟩;simp only[fA,c0]at ai;obtain⟨row,ai,rfl⟩:=ai;have an:=hk _ _ ai
    match row,an,ai with
    |[q],_,ai=>exact(by simpa using bu r [q] 0 q ai rfl:ds aN q (cs.getD r undef))
 ·refine .x _ _ ⟨by simp,⟨_,_,rfl⟩,λ db aY dH eF h=>?_⟩ (.d Uu);simp at h;obtain⟨rfl,rfl,rfl,rfl⟩:=h;refine⟨cQ _,λ _=>?_⟩;rw[lX];exact akI
def Uv{t:TypeId}{l c v:U}{ap:aa}(h:i' E H t l c=some (v,ap)):∃z n rows ex,v=.ref H.length 0 0 n∧ap=H++[.ae z 0 rows ex]:=by
 unfold i' at h
 repeat' split at h
 all_goals first|(cases h;exact⟨_,_,_,_,rfl,rfl⟩)|cases h
def akJ(aq:b6 E ad ac H w){t:TypeId}{z:Nat}{l c v:U}{y Uw:Value}{ap:aa}(h:tL z (i' E H t l c)=some (v,ap))(d_:a7 ad ac H l y)(IB:a7 ad ac H c Uw):
  ∃x ar,(IC t y Uw).run E.P w=.ok x ar∧cl E ad ac H w ap ar λ aN aC=>a7 aN aC ap v x:=by
 unfold tL at h;split at h
 ·rename_i cp n H1 hm;obtain⟨fr,gh,rows,ex,ao,rfl⟩:=Uv hm;cases ao;unfold Bt at h;split at h
  ·rename_i eF gd an;simp at an;obtain⟨rfl,rfl,rfl⟩:=an;simp only[bj,bA]at h;obtain⟨rfl,rfl⟩:=h;obtain⟨x,ar,j,J⟩:=T8 aq hm d_ IB;have e:(H++[Chunk.ae 1 0 rows ex]).set H.length (.ax z 0 0 (rows.map p_))=H++[.ax z 0 0 (rows.map p_)]:=by rw[xB _ _ (cQ _)];simp
   rw[e];exact⟨x,ar,j,Nl aq J⟩
  ·cases h
 ·cases h
def IR{t t2:TypeId}(h:r7 E t t2=true):∃e b dZ,e5 E.P t=some e∧fM E.P e=some 1∧tF E.P e=some b∧kO E.P e=some dZ∧b≤65536∧(e5 E.P t2).isSome=true∧(cA dZ).length=1∧(cA dZ).all one=true:=by
 unfold r7 at h;split at h
 ·rename_i e he;split at h
  ·rename_i z b dZ j J aw;simp only[cO,decide_eq_true_eq]at h;obtain⟨⟨rfl,ch,cw,fl⟩,jb⟩:=h;exact⟨e,b,dZ,he,j,J,aw,ch,cw,fl,jb⟩
  ·cases h
 ·cases h
def Ux(aq:b6 E ad ac H w){t:TypeId}{z:Nat}{eQ:Value}(hz:r7 E t t=true)(lR:eQ.oneCell'=true):
  ∃x ar,(Iw t 1 #[(0,eQ)]).run E.P w=.ok x ar∧cl E ad ac H w (H++[.ax z 0 0 [.dG (.v eQ)]]) ar λ aN aC=>a7 aN aC (H++[.ax z 0 0 [.dG (.v eQ)]]) (.x (.d H.length 0 0 1)) x:=by
 obtain⟨e,b,dZ,he,bg,ak,hzero,_,_,pt,zD⟩:=IR hz;have akK:kT E H t 1 [(0,.i (.v eQ))]=some (.ref H.length 0 0 1,H++[.ae 1 0 [[.v eQ]] true]):=by
  unfold kT;rw[he];simp only[bg,hzero];rw[if_pos ⟨R,pt,R,zD⟩];obtain⟨a0,No⟩:∃a0,cA dZ=[a0]:=by
   match bn:cA dZ,pt with
   |[a0],_=>exact⟨a0,rfl⟩
  have ao:fW 1 (cy 1 (cA dZ)).flatten [(0,U.i (.v eQ))]=some [U.i (.v eQ)]:=by rw[No];simp[fW,cA,one,pi]
  simp only[ao,fI,freeze,pk];have aI:hW (cy 1 (E.kinds e)).flatten [aD.v eQ]=[aD.v eQ]:=by
   cases az:(cy 1 (E.kinds e)).flatten with
   |nil=>rfl
   |cons k bs=>cases k<;>cases bs<;>rfl
  rw[aI];rfl
 obtain⟨x,ar,bG,bH⟩:=TX (jF:=#[(0,eQ)]) aq akK ⟨rfl,λ k p q av bn=>by
  cases k with
  |zero=>simp at av bn;subst av bn;exact⟨rfl,.i _ _ (.v _ lR)⟩
  |succ k=>simp at av⟩
 exact⟨x,ar,bG,Nl (z:=z) aq bH⟩
def Uy{N z:Nat}{eQ:Value}(an:H.length=N)(aq:b6 E ad ac (H++[.ax z 0 0 [.dG (.v eQ)]]) w){oI:aa}{aC:b9}{y:bS}{u:Value}(r:a7 ad ac (H++[.ax z 0 0 [.dG (.v eQ)]]) (.x (.d N 0 0 1)) u)(aV:oI.length=N)
  (nz:∀e,e<N→(oI[e]?=H[e]?∧∀q,aC ⟨e,q⟩=ac ⟨e,q⟩)∨(oI[e]?=some .gone∧aC ⟨e,0⟩=none))(kx:aC ⟨N,0⟩=ac ⟨N,0⟩)
  (ku:∀(i:fj) b n,aC i=some (b,n)→(∃(ab:fj) (m:Nat),ac ab=some (b,m))∧i.c≤N)(EV:∀(i ab:fj) b n dO,aC i=some (b,n)→aC ab=some (b,dO)→i=ab)(aZ:mj ad aC w z N 0 y eQ):
  cl E ad ac (H++[.ax z 0 0 [.dG (.v eQ)]]) w (oI++[.ax z 0 1 [y]]) w λ aN aC=>a7 aN aC (oI++[.ax z 0 1 [y]]) (.x (.d N 0 0 1)) u:=by
 have last:(H++[Chunk.ax z 0 0 [.dG (.v eQ)]])[N]?=some (.ax z 0 0 [.dG (.v eQ)]):=by subst an;simp
 have Np:(oI++[Chunk.ax z 0 1 [y]])[N]?=some (.ax z 0 1 [y]):=by subst aV;simp
 have bK:∀c,c<(H++[Chunk.ax z 0 0 [.dG (.v eQ)]]).length→jc ad ac (H++[Chunk.ax z 0 0 [.dG (.v eQ)]]) ad aC (oI++[Chunk.ax z 0 1 [y]]) c:=by
  intro c ah;simp at ah;by_cases Nq:c=N
  ·subst Nq;intro q bn;rw[Np]at bn;cases bn;intro db aY dH eF ll;rw[Np]at ll;cases ll;exact .inl ⟨0,_,last,kx,rfl,.inl R⟩
  ·have bf:c<N:=R;rcases nz c bf with⟨ch,cw⟩|⟨ch,cw⟩
   ·exact jc.same (by rw[en R,en R];exact ch) cw
   ·intro q bn;rw[en R,ch]at bn;cases bn;trivial
 refine EU aq (aC:=aC) bK (by simp[an,aV]) (λ hm c q bn=>?_) (λ _ _ _=>rfl) (cQ _) rfl rfl rfl (λ i b n h=>.inr (ku i b n h).1) (λ i b n h=>?_) EV (λ hm=>hm _ _ r)
 ·by_cases Nq:c=N
  ·subst Nq;rw[Np]at bn;cases bn;rcases aq.b7 _ _ last with⟨_,J⟩|⟨b,cs,elem,bl,j,J,aw,bb,bu⟩
   ·cases J
   ·refine .inr ⟨b,cs,elem,bl,by rw[←j];exact kx,J,aw,by simpa using bb,λ r d ai=>?_⟩;cases r with
    |succ r=>simp at ai
    |zero=>
     simp at ai;subst ai;have dw:ds ad (.v eQ) (cs.getD 0 undef):=bu 0 _ rfl;have gx:cs.getD 0 undef=eQ:=by generalize cs.getD 0 undef=q at dw;cases dw;rfl
     rw[gx];exact aZ
  ·have bf:c<N:=by have:=(bF.1 bn).1;simp at this;omega
   rw[en R]at bn;rcases nz c bf with⟨ch,cw⟩|⟨ch,cw⟩
   ·rw[ch]at bn;exact(aq.b7 c q (by rw[en R];exact bn)).mono cw (λ _ _ h=>h) hm (λ _ _ _ _=>rfl)
   ·rw[ch]at bn;cases bn;exact cw
 ·obtain⟨⟨ab,m,ch⟩,cw⟩:=ku i b n h;exact⟨(aq.sep _ _ _ ch).2.1,by simp[aV];omega⟩
def akL(aq:b6 E ad ac H w){t:TypeId}{z n:Nat}{bm:List (Nat×U)}{jF:Array (Nat×Value)}{v:U}{ap:aa}(h:tJ E H t z n bm=some (v,ap))(av:BL ad ac H bm jF.toList):
  ∃x ar,(Iw t n jF).run E.P w=.ok x ar∧cl E ad ac H w ap ar λ aN aC=>a7 aN aC ap v x:=by
 unfold tJ at h;split at h;rotate_left
 ·cases h
 rename_i v0;split at h;rotate_left
 ·cases h
 rename_i ah;obtain⟨rfl,pu,hz⟩:=ah;obtain⟨eQ,bn,rx⟩:∃eQ,jF=#[(0,eQ)]∧a7 ad ac H v0 eQ:=by
  obtain⟨an,ai⟩:=av;obtain⟨akM⟩:=jF
  match akM,an with
  |[q],_=>obtain⟨ch,cw⟩:=ai 0 _ _ rfl rfl;exact⟨q.2,by rw[show q=(q.1,q.2)from rfl,←ch],cw⟩
 subst bn;have lR:=H2 rx pu;unfold Bq at h;split at h;rotate_left
 ·cases h
 rename_i y H1 bZ;simp only[bj,bA]at h;obtain⟨rfl,rfl⟩:=h;rcases T2 aq rx bZ with⟨q,rfl,b0⟩|⟨d,g2,bR,ex,rfl,aM,bg,rfl,rfl⟩
 ·obtain⟨ej,dY,oK,gP,na,bn⟩:=b0;obtain⟨x,ar,bG,bH⟩:=Ux (z:=z) oK hz lR;refine⟨x,ar,bG,?_⟩;obtain⟨e2,ez,ie,gT,j',pB⟩:=bH
  let aC:b9:=λ i=>if i=⟨H1.length,1⟩then none else ez i
  have lp:∀i b n,aC i=some (b,n)→ez i=some (b,n):=by
    intro i b n h;simp only[aC]at h;split at h
    · cases h
    · exact h
  obtain⟨jK,jL,E6,xM,BW,E7⟩:=Uy (aC:=ez) (oI:=H1) (y:=.dG q) rfl ie pB rfl (λ e he=>.inl ⟨rfl,λ _=>rfl⟩) rfl (λ i b n h=>⟨⟨_,_,h⟩,by have:=(ie.sep _ _ _ h).2.2;simp at this;omega⟩) ie.inj (bn.mono gT.dT);exact⟨jK,jL,E6,gP.trans (gT.trans xM),na.trans (j'.trans BW),E7⟩
 ·obtain⟨x,ar,bG,bH⟩:=Ux (z:=z) aq hz lR;refine⟨x,ar,bG,?_⟩;obtain⟨e2,ez,ie,gT,j',pB⟩:=bH;have ft:d<H.length:=(bF.1 aM).1;have ms:(H++[Chunk.ax z 0 0 [.dG (.v eQ)]])[d]?=some (.ae z g2 bR ex):=by rw[en ft];exact aM
  let aC:b9:=λ i=>if i=⟨H.length,1⟩then ez ⟨d,0⟩else if i=⟨d,0⟩then none else ez i
  have vr:∀i b n,aC i=some (b,n)→(i=⟨H.length,1⟩∧ez ⟨d,0⟩=some (b,n))∨(i≠⟨H.length,1⟩∧i≠⟨d,0⟩∧ez i=some (b,n)):=by
    intro i b n h;simp only[aC]at h;split at h
    · rename_i aA;exact .inl ⟨aA,h⟩
    · rename_i aA;split at h
      · cases h
      · rename_i zh;exact .inr ⟨aA,zh,h⟩
  have key:cl E e2 ez (H++[.ax z 0 0 [.dG (.v eQ)]]) ar (H.set d .gone++[.ax z 0 1 [.own bR]]) ar λ aN aC=>a7 aN aC (H.set d .gone++[.ax z 0 1 [.own bR]]) (.x (.d H.length 0 0 1)) x:=by
   refine Uy (aC:=aC) (oI:=H.set d .gone) (y:=.own bR) rfl ie pB (by simp) (λ e he=>?_) (by simp[aC,show H.length≠d by omega]) (λ i b n h=>?_) (λ i ab b n dO j J=>?_)
    (T0 ie ms bg (j' _ _ rx) (by simp[aC]) (λ _ _ _=>rfl))
   · by_cases px:e=d
     · subst px;exact .inr ⟨by simp[ft],by simp[aC,show e≠H.length by omega]⟩
     · exact .inl ⟨by rw[dC (ba px)],λ q=>by simp[aC,px,show e≠H.length by omega]⟩
   · rcases vr _ _ _ h with⟨rfl,j⟩|⟨_,_,j⟩
     · exact⟨⟨_,_,j⟩,cQ _⟩
     · exact⟨⟨_,_,j⟩,by have:=(ie.sep _ _ _ j).2.2;simp at this;omega⟩
   · rcases vr _ _ _ j with⟨rfl,ao⟩|⟨ch,cw,ao⟩
     · rcases vr _ _ _ J with⟨rfl,aI⟩|⟨fl,jb,aI⟩
       · rfl
       · exact absurd (ie.inj _ _ _ _ _ aI ao) jb
     · rcases vr _ _ _ J with⟨rfl,aI⟩|⟨fl,jb,aI⟩
       · exact absurd (ie.inj _ _ _ _ _ ao aI) cw
       · exact ie.inj _ _ _ _ _ ao aI
  obtain⟨jK,jL,E6,xM,BW,E7⟩:=key;have e:(H.set d Chunk.gone).length=H.length:=by simp
  rw[e];exact⟨jK,jL,E6,gT.trans xM,j'.trans BW,E7⟩
def BX(aq:b6 E ad ac H w){c z g s g1 s1:Nat}{rows ub:List bS}(aQ:H[c]?=some (.ax z g s rows))(bf:g<g1∨(g=g1∧s<s1∧ub.length=rows.length))(an:ub.length≤rows.length)
  (ai:∀(i:Nat) (y:bS),ub[i]?=some y→rows[i]?=some y):cl E ad ac H w (H.set c (.ax z g1 s1 ub)) w λ aN aC=>aC=ac∧aN=ad:=by
 have cg:c<H.length:=(bF.1 aQ).1;refine EU aq (aC:=ac) (λ e he=>?_) (by simp) (λ hm e x al=>?_) (λ _ _ _=>rfl) (cQ _) rfl rfl rfl (λ i b n h=>.inr ⟨_,_,h⟩) (λ i b n h=>by have:=aq.sep _ _ _ h;exact⟨this.2.1,by simpa using this.2.2⟩) aq.inj (λ _=>⟨rfl,rfl⟩)
 ·by_cases jH:e=c
  ·subst jH;intro x al;rcases fB al with⟨_,rfl⟩|⟨ao,_⟩
   ·intro db aY dH eF ll;rcases fB ll with⟨_,aI⟩|⟨aI,_⟩
    ·cases aI;rcases bf with h|⟨rfl,j,J⟩
     ·exact .inr ⟨_,_,_,_,aQ,h⟩
     ·exact .inl ⟨_,_,aQ,rfl,J,.inl j⟩
    ·exact absurd rfl aI
   ·exact absurd rfl ao
  ·exact jc.same (by rw[dC (ba jH)]) (λ _=>rfl)
 ·rcases fB al with⟨rfl,rfl⟩|⟨j,J⟩
  ·rcases aq.b7 _ _ aQ with⟨ch,cw⟩|⟨b,cs,elem,bl,ch,cw,fl,jb,ml⟩
   ·subst cw;exact .inl ⟨ch,qe.1 (by simpa using an)⟩
   ·exact .inr ⟨b,cs,elem,bl,ch,cw,fl,R,λ r y aZ=>ml r y (ai r y aZ)⟩
  ·exact(aq.b7 _ _ J).mono (λ _=>rfl) (λ _ _ h=>h) hm (λ _ _ _ _=>rfl)
def sk(rows:List bS)(off:Nat):e' rows off 0=rows:=by simp[e']
def Nr(aq:b6 E ad ac H w)(z:Nat)(a:Option Addr):cl E ad ac H w (H++[.ax z 0 0 []]) w λ aN aC=>a7 aN aC (H++[.ax z 0 0 []]) (.x (.d H.length 0 0 0)) (.slice a 0 0):=by
 have fC:ac (⟨H.length,0⟩:fj)=none:=by
  cases h:ac (⟨H.length,0⟩:fj)with
  |none=>rfl
  |some p=>have:=aq.Bz (c:=H.length) (b:=p.1) (n:=p.2) h;omega
 have hm:fb ad ac H ad ac (H++[.ax z 0 0 []]):=mV (λ _ _ h=>h) (by simp) λ c ah=>jc.same (by rw[en ah]) (λ _=>rfl)
 refine⟨ad,ac,⟨aq.dT,λ c x al=>?_,aq.inj,λ c b n h=>by have:=aq.sep c b n h;exact⟨this.1,this.2.1,by simp;omega⟩,aq.e_⟩,Trans.refl _ _ _,hm,?_⟩
 ·by_cases ah:c<H.length
  ·rw[en ah]at al;exact(aq.b7 c x al).mono (λ _=>rfl) (λ _ _ h=>h) hm (λ _ _ _ _=>rfl)
  ·have:c=H.length:=by have:=(bF.1 al).1;simp at this;omega
   subst this;simp at al;subst al;exact .inl ⟨fC,rfl⟩
 ·refine .x _ _ ⟨by simp,⟨_,_,rfl⟩,λ db aY dH eF h=>?_⟩ (.d Uu);simp at h;obtain⟨rfl,rfl,rfl,rfl⟩:=h;exact⟨cQ _,λ _=>⟨by simp,_,_,rfl,.inl ⟨fC,rfl⟩⟩⟩
def BY{P:Program}{a:Option Addr}{n cap:Nat}(ar:World):(q8 (.slice a n cap)).run P ar=.ok n ar:=by simp[q8]
end
end Go.VI
