import Derived.Orders
import Derived.Laws.Sem
import Derived.Laws.Cells
import Derived.ChangeKeysEq
import Derived.Laws.StructEq
import Derived.Laws.Strings
import Derived.IntWalk
import Derived.Laws.BytesArg
import Derived.Laws.RangeString
open Array renaming getElem?_toList→nM,getD_eq_getD_getElem?→dM,getElem?_eq_some_iff→kg,length_toList→wG,getElem?_push→J9,range→Ka,getElem?_eq_getElem→r9,eq_empty_of_size_eq_zero→AQ,replicate→AR,getElem?_append_left→yD,toList_map→O5,size_append→Pj,getElem?_append_right→Wn
open BitVec renaming ofInt→rO
open Bool renaming false_eq_true→gk,and_eq_true→c',or_eq_true→yq,true→ah,false→J
open Go.Builtin renaming lenOf→r8,firstCells→jx,nextslicecap→Kl,zeroCells→GJ,append_→sa
open Go.Conv renaming runesFrom→OY
open Go.Instr renaming sureAddr→Av,indexAt→AB,sliceBounds→AC,sliceAt→wF,slice→AE,fill→JZ,buildSlice→Kb,storeAt→yA,makeSlice→Kh,findNow→re,sameNow→O0,lookup→AS,checkKey→O2,findKey→AU,sameBits→Ko,mapUpdate→Kp
open Go.IntKind renaming i64→ni
open Go.Op renaming intCmp→Gs,equalIn→JN
open Go.Region renaming before→q2
open Go.Result renaming andThen_ok→eM
open Go.Sem renaming run_bind→ep,run_pure→e8,run→ud
open Go.Utf8 renaming encode→JA,decode→na
open Go.Value renaming int→kE,func→Gm,cells→s_,oneCell'→OC
open Go.World renaming cell?→q9
open List renaming replicate→cH,range→hB,range'→ms,length_eq_zero_iff→pq,map_cons→fC,mem_cons→mx,pairwise_cons→wz,getElem?_map→fQ,getElem?_eq_some_iff→bQ,getElem?_take→oQ,getElem?_drop→s8,getElem?_append_left→eO,getElem?_append_right→hK,getElem?_eq_getElem→eC,length_append→dK,replicate_succ→Gv,flatten_cons→tZ,drop_drop→JX,foldl_cons→vd,all_eq_true→py,getElem_mem→oi,length_cons→da,append_assoc→eo,mapM_cons→OG,getElem?_set_ne→dW,set_getElem_self→Dm,getElem?_set_self→k9,append_nil→dC,set_append_right→AG,set_set→wI,nil_append→hb,getElem?_append→vi,length_map→mE,mem_of_getElem?→jP,length_nil→dS,getElem_of_mem→GH,length_set→kl,take→eP,getElem?_cons_zero→rc,size_toArray→Dq,mem_cons_of_mem→vk,length_take→hV,length_replicate→mG,length_drop→j6,getElem?_replicate→O8,mem_append→gA,getElem?_concat_length→Pb,getElem?_eq_none→sd
open List.cons renaming injEq→Dr
open Nat renaming lt_of_lt_of_le→wx,le_refl→cS,le_trans→s6,add_zero→fr,mul_le_mul_right→kF,add_mul→hT,zero_add→cJ,div_lt_iff_lt_mul→JP,mod_lt→Df,mul_comm→wD,div_add_mod→AA,add_assoc→vb,mul_one→JS,sub_self→r7
open Ne renaming symm→bi
open Option renaming map_eq_some_iff→dp,bind_eq_some_iff→Dj,isSome_iff_exists→OZ,getD_some→jQ,map_some→eH,some→j,none→o
open Option.some renaming inj→q6,injEq→br
open Prod.mk renaming injEq→bM
open UInt8 renaming ofNat→iR
namespace Go.VI
set_option maxRecDepth 100000
set_option maxHeartbeats 40000000
set_option linter.unusedVariables false
set_option linter.unusedSimpArgs false
set_option linter.defProp false
theorem aa{P:Prop}(h:P:=by omega):P:=h
theorem aK{P:Prop}(h:P:=by kernel_rfl):P:=h
theorem aC{P Q:Prop}(h:P)(q:Q):P∧Q:=⟨h,q⟩
theorem bq{a b c d:Prop}(h:a)(i:b)(ac:c)(k:d):a∧b∧c∧d:=⟨h,i,ac,k⟩
theorem gl{a b c d e f g k l m n al I q r s:Prop}(p:a)(U:b)(az:c)(bh:d)(bF:e)(dN:f)(g':g)(hC:k)(ha:l)(cV:m)(i2:n)(i3:al)(i4:I)(i5:q)(am':r)(KA:s):a∧b∧c∧d∧e∧f∧g∧k∧l∧m∧n∧al∧I∧q∧r∧s:=⟨p,U,az,bh,bF,dN,g',hC,ha,cV,i2,i3,i4,i5,am',KA⟩
theorem aX{P:Prop}(h:P:=by simp):P:=h
theorem bU{P:Prop}(h:P:=by decide):P:=h
theorem be{α:Sort _}{I:α→Prop}{a:α}(h:I a:=by exact rfl):∃x,I x:=⟨a,h⟩
abbrev dI:=List (Option Nat)
abbrev iI:=List (Nat×Nat)
abbrev qD:=List (Int×Int)
abbrev lZ:=List (List Nat)
abbrev pr:=List MapEntry
abbrev bm:=List UInt8
abbrev cu:=Option Nat
abbrev k8:=List Value
abbrev eh:=List Oper
abbrev lh:=List Bool
abbrev bX:=List Int
abbrev cq:=List Nat
def boP:=aC @decide_true (aC @decide_false (aC @Bool.true_and (aC @Bool.and_true (aC @Bool.false_and (aC @Bool.and_false (aC @Bool.not_true (aC @Bool.not_false (aC @Bool.or_true (aC @Bool.true_or (aC @Bool.or_false (aC @Bool.false_or (aC @List.isEmpty_nil.{0} (@List.isEmpty_cons.{0})))))))))))))
def db:=aC @List.length_cons.{0} (@List.length_nil.{0})
def cC:=aC @List.cons_append.{0} (@List.nil_append.{0})
inductive bx where
 |v (x:Value)
 |str (l:List UInt8)
 |af (aD:Nat) (rows:List (List bx)) (ex:Bool)
 |gR (cells:List bx) (off:Nat)
 |mp (es:List (Int×Nat))
 deriving Inhabited
abbrev cb:=List (List bx)
abbrev cZ:=List bx
inductive de where
 |d (c g off len:Nat)
 |e (c g r:Nat)
 |h (c g s r:Nat)
 |I (c g s r i k:Nat)
 deriving DecidableEq,Inhabited
def de.c:de→Nat
 |.d c _ _ _=>c
 |.e c _ _=>c
 |.h c _ _ _=>c
 |.I c _ _ _ _ _=>c
def de.to(n:Nat):de→de
 |.d _ g al l=>.d n g al l
 |.e _ g r=>.e n g r
 |.h _ g s r=>.h n g s r
 |.I _ g s r i k=>.I n g s r i k
inductive er where
 |own (rows:List (List bx))
 |ek (x:bx)
 |dead
 deriving Inhabited
abbrev c0:=List er
inductive ay where
 |dead
 |i (x:bx)
 |agg (cells:List ay)
 |ref (c g off len:Nat)
 |ptr (c g r k:Nat)
 |dV (c:Nat)
 |x (k:de)
 |aS (fn:Fn) (first fZ:List ay)
 |bl (vs:List ay)
 deriving Inhabited
abbrev mZ:=Option (List ay)
abbrev eu:=List (Nat×ay)
abbrev fa:=List (bx×ay)
abbrev dX:=Option ay
abbrev aZ:=List ay
inductive Chunk where
 |box (cells:List ay)
 |af (aD g:Nat) (rows:List (List bx)) (ex:Bool)
 |bs (aD g:Nat) (rows:List (List bx)) (ex:Bool)
 |iter (s:List UInt8) (pos:Nat)
 |map (es:List (bx×ay))
 |dm (t:Nat) (cells:List ay)
 |kc (t:Nat) (l:List UInt8)
 |gone
 |aE (z g s:Nat) (rows:List er)
 |fd (g:Nat) (rows:List (List bx))
 deriving Inhabited
abbrev gS:=Option Chunk
abbrev ab:=List Chunk
abbrev m_:=Option (List ay×ab)
abbrev dE:=Option (ay×ab)
abbrev Fr:=List (Nat×ay)
def get(k:Nat):Fr→ay
 |[]=>.dead
 |(ac,v)::r=>if k=ac then v else get k r
def ay.int(k:IntKind)(n:Int):ay:=.i (.v (.int k n))
def ay.bool(b:Bool):ay:=.i (.v (.bool b))
def ay.str(l:bm):ay:=.i (.str l)
structure Env where
 P:Program
 k0:FuncId→Nat→List Nat
 head:FuncId→Nat→List Nat
 fv:Nat→Option (List bx)
 eg:FuncId→Nat→List (Nat×Nat)
 Ai:FuncId→Bool
 rN:FuncId→Nat→Bool
 ext:FuncId→Option (List ay→List Chunk→Option (ay×List Chunk))
 kinds:TypeId→List (Option Nat)
 gH:FuncId→List (List (Option Nat))
 mm:FuncId→List (List (Option Nat))
 own:FuncId→Bool
 xW:FuncId→Nat→List (Nat×Nat)
 xX:FuncId→Nat→List (Nat×Nat×Nat)
 xY:FuncId→Nat→List (Nat×Nat)
 seq:FuncId→Option (List (List bx)→Option (List ay))
 U4:TypeId→Bool:=λ _=>J
 pj:FuncId→Option FuncId:=λ _=>o
 tL:FuncId→Bool:=λ _=>J
 U5:TypeId→Option Nat:=λ _=>o
 tM:TypeId→List Nat:=λ _=>[]
def gp(P:Program)(t:TypeId):cu:=(P.info? t).map (·.size)
def k1(P:Program)(t:TypeId):Option Bool:=(P.underlying t).map λ|.struct _|.array _ _=>ah|_=>J
def fw(P:Program)(t:TypeId):Option TypeId:=match P.underlying t with|some (.slice e)=>j e|_=>o
def wg(P:Program)(t:TypeId):Option (Nat×TypeId):=match P.underlying t with|some (.array n e)=>j (n,e)|_=>o
def CT(P:Program)(t:TypeId)(f:Nat):Option (Nat×TypeId):=match P.underlying t with|some (.struct fb)=>(fb[f]?).map λ x=>(x.offset,x.type)|_=>o
def u0(P:Program)(t:TypeId):cu:=(P.info? t).map (·.bytes)
def Jw(P:Program)(t:TypeId):Option iI:=match P.underlying t with
 |some (.struct fb)=>fb.toList.mapM λ f=>(gp P f.type).map λ z=>(f.offset,z)
 |_=>o
def ij(P:Program)(t:TypeId):Bool:=match P.underlying t with|some .string=>ah|_=>J
def oI(P:Program)(t:TypeId):Option IntKind:=match P.underlying t with|some (.int k)=>j k|_=>o
def cellOf:Value→ay
 |.string b=>.i (.str b.data.toList)
 |.slice o 0 0=>.i (.af 0 [] ah)
 |.tuple _=>.dead
 |.agg _=>.dead
 |x=>.i (.v x)
def kz:Value→ay
 |.agg cs=>.agg (cs.toList.map cellOf)
 |x=>cellOf x
def ls(P:Program)(t:TypeId):dX:=((P.info? t).bind (·.zero)).map kz
def Jx(P:Program)(t:TypeId):aZ:=match(P.info? t).bind (·.zero)with
 |some (.agg cs)=>cs.toList.map λ x=>.i (.v x)
 |_=>[]
def Oa(P:Program)(t:TypeId):Bool:=match(P.info? t).bind (·.zero)with
 |some (.agg cs)=>cs.toList.all (·.oneCell')
 |_=>J
def bw(E:Env)(R:Fr):Operand→ay
 |.tmp t=>get t R
 |.const v=>kz v
 |.func f=>.aS (.func f) [] []
 |.global g=>match E.fv g with
  |some cells=>.i (.gR cells 0)
  |none=>.dead
def cU:ay→aZ
 |.agg cs=>cs
 |a=>[a]
def one:ay→Bool
 |.i _=>ah
 |.ref ..=>ah
 |.ptr ..=>ah
 |.dV _=>ah
 |.x _=>ah
 |.aS ..=>ah
 |_=>J
def kA(op:BinOp)(k:IntKind)(a b:Int):Option Int:=
 let x:=rO k.bits a
 let y:=rO k.bits b
 match op with
 |.and=>j (k.wrap (x &&&y).toNat)
 |.or=>j (k.wrap (x|||y).toNat)
 |.xor=>j (k.wrap (x^^^y).toNat)
 |.andNot=>j (k.wrap (x &&&~~~y).toNat)
 |_=>o
def mn(op:BinOp)(k:IntKind)(a:Int)(dr:IntKind)(b:Int):dX:=
 match op with
 |.shl=>if 0≤b then j (.int k (k.wrap (a*2^min b.toNat k.bits)))else o
 |.shr=>if 0≤b then j (.int k (a.fdiv (2^min b.toNat k.bits)))else o
 |_=>if k=dr then match op with
  |.add=>j (.int k (k.wrap (a+b)))
  |.sub=>j (.int k (k.wrap (a-b)))
  |.mul=>j (.int k (k.wrap (a*b)))
  |.quo=>if b=0 then o else j (.int k (k.wrap (a.tdiv b)))
  |.rem=>if b=0 then o else j (.int k (a.tmod b))
  |.eql=>j (.bool (decide (a=b)))
  |.neq=>j (.bool (!decide (a=b)))
  |.lss=>j (.bool (decide (a<b)))
  |.leq=>j (.bool (decide (a≤b)))
  |.gtr=>j (.bool (decide (b<a)))
  |.geq=>j (.bool (decide (b≤a)))
  |.and=>(kA .and k a b).map (.int k ·)
  |.or=>(kA .or k a b).map (.int k ·)
  |.xor=>(kA .xor k a b).map (.int k ·)
  |.andNot=>(kA .andNot k a b).map (.int k ·)
  |_=>o
  else o
def tN(op:BinOp)(a b:bm):dX:=
 match op with
 |.add=>if a.length+b.length≤9223372036854775807 then j (.str (a++b))else o
 |.eql=>j (.bool (a==b))
 |.neq=>j (.bool (!(a==b)))
 |.lss=>j (.bool (Op.bytesLess a b))
 |.leq=>j (.bool (Op.bytesLess a b||a==b))
 |.gtr=>j (.bool (!(Op.bytesLess a b||a==b)))
 |.geq=>j (.bool (!Op.bytesLess a b))
 |_=>o
def sT:ay→ay→Option Bool
 |.i (.v (.int k a)),.i (.v (.int dr b))=>if k=dr then j (decide (a=b))else o
 |.i (.v (.bool a)),.i (.v (.bool b))=>j (a==b)
 |.i (.str a),.i (.str b)=>j (a==b)
 |_,_=>o
def p8:aZ→aZ→Option Bool
 |[],[]=>j ah
 |a::r,b::t=>match sT a b,p8 r t with
  |some x,j y=>j (x &&y)
  |_,_=>o
 |_,_=>o
inductive ob where
 |int (k:IntKind)|bool|str
 deriving DecidableEq
def F6(P:Program)(U6:TypeId→Option (List ob)):Nat→List Field→Option (List ob)
 |_,[]=>j []
 |al,f::r=>match U6 f.type,gp P f.type with
  |some l,j z=>if f.offset=al∧l.length=z∧f.name≠ "_" then(F6 P U6 (al+z) r).map (l++·)else o
  |_,_=>o
def leaves(P:Program):Nat→TypeId→Option (List ob)
 |0,_=>o
 |d+1,t=>match P.underlying t with
  |some .bool=>j [.bool]
  |some (.int k)=>j [.int k]
  |some .string=>j [.str]
  |some (.array n e)=>match leaves P d e,gp P e with
   |some l,j z=>if l.length=z then j (cH n l).flatten else o
   |_,_=>o
  |some (.struct fb)=>if P.stoodInHeld t then o else F6 P (leaves P d) 0 fb.toList
  |_=>o
def qX:ob→ay→Bool
 |.int k,.i (.v (.int dr _))=>decide (k=dr)
 |.bool,.i (.v (.bool _))=>ah
 |.str,.i (.str _)=>ah
 |_,_=>J
def p9:List ob→aZ→Bool
 |[],[]=>ah
 |l::r,a::t=>qX l a &&p9 r t
 |_,_=>J
def Ob(P:Program)(t:TypeId):Bool:=P.eqGuardType P.depth t
def j0(P:Program)(t:TypeId)(x y:ay):Option Bool:=
 match x,y with
 |.agg a,.agg b=>if Ob P t=ah then o else match k1 P t with
  |some ah=>match leaves P 9 t with
   |some l=>if p9 l a=ah∧p9 l b=ah then p8 a b else o
   |none=>o
  |_=>o
 |.i (.v (.bool a)),.i (.v (.bool b))=>match P.underlying t with
  |some .bool=>j (a==b)
  |_=>o
 |.ptr _ _ _ _,.i (.v (.pointer o))=>match P.underlying t with
  |some (.pointer _)=>j J
  |_=>o
 |.i (.gR _ _),.i (.v (.pointer o))=>match P.underlying t with
  |some (.pointer _)=>j J
  |_=>o
 |.i (.v (.pointer o)),.i (.v (.pointer o))=>match P.underlying t with
  |some (.pointer _)=>j ah
  |_=>o
 |_,_=>o
def k2(P:Program)(op:BinOp)(t:TypeId)(x y:ay):dX:=
 match x,y with
 |.i (.v (.int k a)),.i (.v (.int dr b))=>mn op k a dr b
 |.i (.str a),.i (.str b)=>tN op a b
 |x,y=>match op with
  |.eql=>(j0 P t x y).map .bool
  |.neq=>(j0 P t x y).map λ b=>.bool (!b)
  |_=>o
def Aj(op:UnOp)(x:ay):dX:=
 match op,x with
 |.neg,.i (.v (.int k n))=>j (.int k (k.wrap (0-n)))
 |.xor,.i (.v (.int k n))=>(kA .xor k (if k.signed then-1 else k.max) n).map (.int k ·)
 |.not,.i (.v (.bool b))=>j (.bool (!b))
 |_,_=>o
def lu(l:cZ):aZ:=l.map .i
def take(l:aZ)(k n:Nat):mZ:=
 if k+n≤l.length then j ((l.drop k).take n)else o
def F7(c g r:Nat):gS→Option (aZ×Nat)
 |some (.aE _ a6 s rows)=>if g=a6 then match rows[r]? with
  |some (.own _)=>j ([.x (.h c g s r)],0)
  |some (.ek y)=>j ([.i y],0)
  |_=>o
  else o
 |_=>o
def F8(g s r i k:Nat):gS→Option (aZ×Nat)
 |some (.aE _ a6 dB rows)=>if g=a6∧s=dB then match rows[r]? with
  |some (.own b4)=>match b4[i]? with
   |some row=>j (lu row,k)
   |none=>o
  |_=>o
  else o
 |_=>o
def wh(H:ab):de→Option (aZ×Nat)
 |.e c g r=>F7 c g r H[c]?
 |.I c g s r i k=>F8 g s r i k H[c]?
 |_=>o
def behind(H:ab):ay→Option (aZ×Nat)
 |.i (.gR cells off)=>j (lu cells,off)
 |.ptr c g r k=>match H[c]? with
  |some (.box cells)=>j (cells,k)
  |some (.af _ a6 rows _)=>if g=a6 then match rows[r]? with
   |some row=>j (lu row,k)
   |none=>o
   else o
  |some (.bs _ a6 rows _)=>if g=a6 then match rows[r]? with
   |some row=>j (lu row,k)
   |none=>o
   else o
  |_=>o
 |.x k=>wh H k
 |_=>o
def u1(E:Env)(H:ab)(t:TypeId)(x:ay):dX:=
 match behind H x,k1 E.P t,gp E.P t with
 |some (cells,k),j ah,j n=>(take cells k n).map .agg
 |some (cells,k),j J,j _=>cells[k]?
 |_,_,_=>o
def h6(H:ab):ay→Option (Nat×cb×Bool)
 |.i (.af aD rows ex)=>j (aD,rows,ex)
 |.ref c g off len=>match H[c]? with
  |some (.af aD a6 rows ex)=>if g=a6 then j (aD,(rows.drop off).take len,ex &&decide (off+len=rows.length))else o
  |some (.bs aD a6 rows ex)=>if g=a6 then j (aD,(rows.drop off).take len,ex &&decide (off+len=rows.length))else o
  |_=>o
 |_=>o
def p_:ay→cu
 |.i (.af _ rows _)=>j rows.length
 |.i (.str l)=>j l.length
 |.ref _ _ _ len=>j len
 |.x (.d _ _ _ len)=>j len
 |_=>o
def xZ(n:Nat):ay→dX
 |.i (.gR cells off)=>j (.i (.gR cells (off+n)))
 |.ptr c g r k=>j (.ptr c g r (k+n))
 |.x (.I c g s r i k)=>j (.x (.I c g s r i (k+n)))
 |_=>o
def Jy(z c g off len:Nat)(n:Int):gS→dX
 |some (.aE _ a6 _ _)=>if 0≤n∧n<len∧z=1∧g=a6 then j (.x (.e c g (off+n.toNat)))else o
 |_=>o
def F9(z c g s r:Nat)(n:Int):gS→dX
 |some (.aE ds a6 dB rows)=>if g=a6∧s=dB∧z=ds∧0≤n then match rows[r]? with
  |some (.own b4)=>if n.toNat<b4.length then j (.x (.I c g s r n.toNat 0))else o
  |_=>o
  else o
 |_=>o
def wi(H:ab)(z:Nat)(n:Int):de→dX
 |.d c g off len=>Jy z c g off len n H[c]?
 |.h c g s r=>F9 z c g s r n H[c]?
 |_=>o
def CU(E:Env)(H:ab)(t:TypeId)(x kd:ay):dX:=
 match kd with
 |.i (.v (.int _ n))=>match wg E.P t,fw E.P t with
  |some (len,e),_=>match gp E.P e with
   |some z=>if 0≤n∧n<len then xZ (n.toNat*z) x else o
   |none=>o
  |none,j e=>match gp E.P e,x with
   |some z,.i (.af aD rows _)=>if 0≤n∧aD=z then match rows[n.toNat]? with
    |some row=>j (.i (.gR row 0))
    |none=>o
    else o
   |some z,.ref c g off len=>match H[c]? with
    |some (.af aD a6 _ _)=>if 0≤n∧n<len∧aD=z∧g=a6 then j (.ptr c g (off+n.toNat) 0)else o
    |some (.bs aD a6 _ _)=>if 0≤n∧n<len∧aD=z∧g=a6 then j (.ptr c g (off+n.toNat) 0)else o
    |_=>o
   |some z,.x k=>wi H z n k
   |_,_=>o
  |_,_=>o
 |_=>o
def CV(E:Env)(t:TypeId)(x kd:ay):dX:=
 match x,kd with
 |.i (.str l),.i (.v (.int _ n))=>if 0≤n∧ij E.P t=ah then(l[n.toNat]?).map λ b=>.int .u8 b.toNat else o
 |.agg cells,.i (.v (.int _ n))=>match wg E.P t with
  |some (len,e)=>match gp E.P e,k1 E.P e with
   |some z,j ah=>if 0≤n∧n<len then(take cells (n.toNat*z) z).map .agg else o
   |some z,j J=>if 0≤n∧n<len then cells[n.toNat*z]? else o
   |_,_=>o
  |none=>o
 |_,_=>o
def Jz(E:Env)(t:TypeId)(x:ay)(f:Nat):dX:=
 match x,CT E.P t f with
 |.agg cells,j (off,eG)=>match gp E.P eG,k1 E.P eG with
  |some z,j ah=>(take cells off z).map .agg
  |some _,j J=>cells[off]?
  |_,_=>o
 |_,_=>o
def gz(d:Nat):dX→cu
 |none=>j d
 |some (.i (.v (.int _ n)))=>if 0≤n then j n.toNat else o
 |_=>o
def Oc(c g off l h:Nat):cu→gS→dX
 |some 1,j (.aE _ a6 _ _)=>if g=a6 then j (.x (.d c g (off+l) (h-l)))else o
 |_,_=>o
def j1(E:Env)(H:ab)(t:TypeId)(x:ay)(b5 aB lv:dX):dX:=
 match p_ x with
 |none=>o
 |some n=>match gz 0 b5,gz n aB with
  |some l,j h=>if l≤h∧h≤n then match x with
   |.i (.str s)=>if lv.isNone∧ij E.P t=ah then j (.str ((s.drop l).take (h-l)))else o
   |.i (.af aD rows ex)=>match fw E.P t with
    |some e=>match gp E.P e with
     |some z=>if rows=[]∨z=aD then match lv with
      |none=>j (.i (.af aD ((rows.drop l).take (h-l)) (ex &&decide (h=n))))
      |some m=>match gz 0 (j m)with
       |some b6=>if h=b6∧aB.isSome=ah then j (.i (.af aD ((rows.drop l).take (h-l)) ah))else o
       |none=>o
      else o
     |none=>o
    |none=>o
   |.ref c g off _=>match fw E.P t,H[c]? with
    |some e,j (.af aD a6 _ _)=>if g=a6∧gp E.P e=j aD then match lv with
     |none=>j (.ref c g (off+l) (h-l))
     |some m=>match gz 0 (j m)with
      |some b6=>if h=b6∧aB.isSome=ah then j (.ref c g (off+l) (h-l))else o
      |none=>o
     else o
    |some e,j (.bs aD a6 rows ex)=>if g=a6∧gp E.P e=j aD∧off+n≤rows.length then match lv with
     |none=>j (.i (.af aD ((rows.drop (off+l)).take (h-l)) (ex &&decide (off+h=rows.length))))
     |some m=>match gz 0 (j m)with
      |some b6=>if h=b6∧aB.isSome=ah then j (.i (.af aD ((rows.drop (off+l)).take (h-l)) ah))else o
      |none=>o
     else o
    |_,_=>o
   |.x (.d c g off _)=>if lv.isNone then Oc c g off l h ((fw E.P t).bind (gp E.P)) H[c]? else o
   |_=>o
   else o
  |_,_=>o
def nJ(E:Env)(src dst:TypeId)(x:ay):dX:=
 match x with
 |.i (.v (.int _ n))=>match k1 E.P src,oI E.P dst with
  |some _,j k=>j (.int k (k.wrap n))
  |some _,o=>if ij E.P dst=ah then j (.str (JA n).data.toList)else o
  |none,_=>o
 |.i (.str l)=>if ij E.P dst=ah∧ij E.P src=ah then j (.str l)else o
 |_=>o
def sU:cb→Option bX
 |[]=>j []
 |[.v (.int .u8 n)]::r=>(sU r).map (n::·)
 |_=>o
def CW(E:Env)(H:ab)(e d:TypeId)(x:ay):dX:=
 if ij E.P d=ah∧oI E.P e=j .u8 then match h6 H x with
  |some (z,rows,_)=>if rows=[]∨z=1 then(sU rows).map λ l=>.str (l.map λ n=>iR n.toNat)else o
  |none=>o
 else o
def F_:ay→ay→dX
 |.i (.v (.int k a)),.i (.v (.int _ b))=>j (.int k (max a b))
 |_,_=>o
def F':ay→ay→dX
 |.i (.v (.int k a)),.i (.v (.int _ b))=>j (.int k (min a b))
 |_,_=>o
def p'(f:ay→ay→dX):aZ→dX
 |[]=>o
 |a::r=>r.foldl (λ acc x=>match acc with|some y=>f y x|none=>o) (j a)
def qa(l:aZ)(k:Nat)(new:aZ):aZ:=l.take k++new++l.drop (k+new.length)
def jr(pl:iI):aZ→eu→mZ
 |cells,[]=>j cells
 |cells,(i,v)::r=>match pl[i]? with
  |some (off,z)=>if(cU v).length=z∧off+z≤cells.length∧(cU v).all one=ah then jr pl (qa cells off (cU v)) r else o
  |none=>o
def f_(z:Nat):aZ→eu→mZ
 |cells,[]=>j cells
 |cells,(i,v)::r=>if(cU v).length=z∧i*z+z≤cells.length∧(cU v).all one=ah then f_ z (qa cells (i*z) (cU v)) r else o
def jJ(E:Env)(t:TypeId)(parts:eu):dX:=
 match ls E.P t with
 |some (.agg zero)=>match wg E.P t with
  |some (_,e)=>match gp E.P e with
   |some z=>(f_ z zero parts).map .agg
   |none=>o
  |none=>match Jw E.P t with
   |some pl=>(jr pl zero parts).map .agg
   |none=>o
 |_=>o
def u2(P:Program)(t:TypeId):Option (TypeId×TypeId):=match P.underlying t with
 |some (.map k e)=>j (k,e)
 |_=>o
def tO(zero:dX)(n:Int):List (Int×Nat)→dX
 |[]=>match zero with
  |some z=>if one z=ah then j (.bl [z,.bool J])else o
  |none=>o
 |(k,f)::r=>if n=k then j (.bl [.aS (.func f) [] [],.bool ah])else tO zero n r
def Ga(E:Env)(t:TypeId)(x k:ay):dX:=match u2 E.P t with
 |some (jK,e)=>if oI E.P jK=j .i64 then match x,k with
  |.i (.mp es),.i (.v (.int .i64 n))=>tO (ls E.P e) n es
  |_,_=>o
  else o
 |none=>o
def gT:bx→bx→Option Bool
 |.v (.int k a),.v (.int dr b)=>if k=dr then j (decide (a=b))else o
 |.str a,.str b=>j (decide (a=b))
 |_,_=>o
def ik(k:bx):fa→Option dX
 |[]=>j o
 |(ac,v)::r=>match gT k ac with
  |some ah=>j (j v)
  |some J=>ik k r
  |none=>o
def rP:bm→bm→Bool
 |[],[]=>J
 |[],_::_=>ah
 |_::_,[]=>J
 |a::r,b::t=>if a.toNat<b.toNat then ah else if a.toNat=b.toNat then rP r t else J
def oc:bx→bx→Bool
 |.v (.int _ a),.v (.int _ b)=>decide (a<b)
 |.str a,.str b=>rP a b
 |_,_=>J
def lx(k:bx)(v:ay):fa→fa
 |[]=>[(k,v)]
 |I::r=>if oc k I.1=ah then(k,v)::I::r else I::lx k v r
def kB(k:bx)(v:ay):fa→fa
 |[]=>[]
 |I::r=>(if gT k I.1=j ah then(k,v)else I)::kB k v r
def k3(k:bx)(v:ay)(es:fa):Option fa:=
 match ik k es with
 |some o=>j (lx k v es)
 |some (j _)=>j (kB k v es)
 |none=>o
def CX(P:Program)(jK:TypeId):bx→Bool
 |.v (.int k _)=>decide (oI P jK=j k)
 |.str _=>ij P jK
 |_=>J
def wj(ok:Bool)(zero:dX):Option dX→dX
 |some (j v)=>j (if ok=ah then .bl [v,.bool ah]else v)
 |some o=>match zero with
  |some z=>if one z=ah then j (if ok=ah then .bl [z,.bool J]else z)else o
  |none=>o
 |none=>o
def CY(E:Env)(t:TypeId)(k:ay)(ok:Bool):gS→dX
 |some (.map es)=>match u2 E.P t,k with
  |some (jK,e),.i cI=>if CX E.P jK cI=ah then wj ok (ls E.P e) (ik cI es)else o
  |_,_=>o
 |_=>o
def Ak(E:Env)(H:ab)(t:TypeId)(x k:ay)(ok:Bool):dX:=match x with
 |.dV c=>CY E t k ok H[c]?
 |x=>if ok=ah then Ga E t x k else o
def tP(E:Env)(H:ab)(c:Nat)(t:TypeId)(k x:ay):gS→dE
 |some (.map es)=>match u2 E.P t,k with
  |some (jK,_),.i cI=>if CX E.P jK cI=ah∧one x=ah then(k3 cI x es).map λ ix=>(.dead,H.set c (.map ix))else o
  |_,_=>o
 |_=>o
def nK(E:Env)(H:ab)(t:TypeId)(m k x:ay):dE:=match m with
 |.dV c=>tP E H c t k x H[c]?
 |_=>o
def eV(E:Env)(R:Fr)(H:ab):Op→dX
 |.move x=>j (bw E R x)
 |.assign x=>j (bw E R x)
 |.pick c a b=>match bw E R c with
  |.i (.v (.bool t))=>j (bif t then bw E R a else bw E R b)
  |_=>o
 |.build t parts=>jJ E t (parts.toList.map λ I=>(I.1,bw E R I.2))
 |.load t a=>u1 E H t (bw E R a)
 |.nilCheck x=>match bw E R x with
  |.ptr c g r k=>j (.ptr c g r k)
  |.i (.gR c al)=>j (.i (.gR c al))
  |.aS (.func f) a b=>j (.aS (.func f) a b)
  |.x (.e c g r)=>j (.x (.e c g r))
  |.x (.I c g s r i k)=>j (.x (.I c g s r i k))
  |_=>o
 |.binOp op t x y _=>k2 E.P op t (bw E R x) (bw E R y)
 |.unOp op _ x=>Aj op (bw E R x)
 |.convert s d x=>match fw E.P s with
  |some e=>CW E H e d (bw E R x)
  |none=>nJ E s d (bw E R x)
 |.makeFunc fn first fZ=>j (.aS fn (first.toList.map (bw E R)) (fZ.toList.map (bw E R)))
 |.slice t x b5 aB lv=>j1 E H t (bw E R x) (b5.map (bw E R)) (aB.map (bw E R)) (lv.map (bw E R))
 |.fieldAddr s x f=>match CT E.P s f with
  |some (off,eG)=>match gp E.P eG with
   |some z=>if 0<z then xZ off (bw E R x)else o
   |none=>o
  |none=>o
 |.field t x f=>Jz E t (bw E R x) f
 |.indexAddr t x kd=>CU E H t (bw E R x) (bw E R kd)
 |.index t x kd=>CV E t (bw E R x) (bw E R kd)
 |.lookup t x k ok=>Ak E H t (bw E R x) (bw E R k) ok
 |.extract x n=>match bw E R x with
  |.bl vs=>vs[n]?
  |_=>o
 |.call ⟨.builtin b,args,fx⟩=>match b,args.toList,fx.toList with
  |.len,[x],[t]=>if ij E.P t=ah∨(fw E.P t).isSome=ah then match bw E R x with
   |.i (.str l)=>if ij E.P t=ah then j (.int .i64 l.length)else o
   |.i (.af _ rows _)=>if ij E.P t=ah then o else j (.int .i64 rows.length)
   |.ref _ _ _ len=>if ij E.P t=ah then o else j (.int .i64 len)
   |.x (.d _ _ _ len)=>if ij E.P t=ah then o else j (.int .i64 len)
   |_=>o
   else o
  |.max,l,_=>p' F_ (l.map (bw E R))
  |.min,l,_=>p' F' (l.map (bw E R))
  |_,_,_=>o
 |_=>o
def rQ(z:Nat):c0→Option cZ
 |[]=>j []
 |.own b4::l=>(rQ z l).map (.af z b4 J::·)
 |.ek y::l=>(rQ z l).map (y::·)
 |.dead::_=>o
def CZ(c g off len:Nat)(H:ab):Option cZ→Option (bx×ab)
 |some xs=>j (.af 1 (((xs.map λ y=>[y]).drop off).take len) J,H.set c (.fd g (xs.map λ y=>[y])))
 |none=>o
def wk(c g off len:Nat)(H:ab):gS→Option (bx×ab)
 |some (.aE z a6 _ rows)=>if g=a6 then CZ c g off len H (rQ z rows)else o
 |some (.fd a6 rows)=>if g=a6 then j (.af 1 ((rows.drop off).take len) J,H)else o
 |_=>o
def wl(c g s r:Nat)(H:ab):gS→Option (bx×ab)
 |some (.aE z a6 dB rows)=>if g=a6∧s=dB then match rows[r]? with
  |some (.own b4)=>j (.af z b4 J,H.set c (.aE z g s (rows.set r (.ek (.af z b4 J)))))
  |_=>o
  else o
 |_=>o
def pk(H:ab):de→Option (bx×ab)
 |.d c g off len=>wk c g off len H H[c]?
 |.h c g s r=>wl c g s r H H[c]?
 |_=>o
def freeze(H:ab):ay→Option (bx×ab)
 |.i x=>j (x,H)
 |.ref c g off len=>match H[c]? with
  |some (.af aD a6 rows ex)=>if g=a6 then
   j (.af aD ((rows.drop off).take len) (ex &&decide (off+len=rows.length)),H.set c (.bs aD g rows ex))else o
  |some (.bs aD a6 rows ex)=>if g=a6 then j (.af aD ((rows.drop off).take len) (ex &&decide (off+len=rows.length)),H)else o
  |_=>o
 |.x k=>pk H k
 |_=>o
def f'(H:ab):aZ→Option (cZ×ab)
 |[]=>j ([],H)
 |a::r=>match freeze H a with
  |some (x,H1)=>match f' H1 r with
   |some (xs,bG)=>j (x::xs,bG)
   |none=>o
  |none=>o
def iS:cu→bx→bx
 |some z,.af aD rows _=>if aD=z then .af z rows J else if rows=[]then .af z [] J else .af aD rows J
 |_,x=>x
def iJ:dI→cZ→cZ
 |k::bB,x::r=>iS k x::iJ bB r
 |_,l=>l
def ke:dI→aZ→aZ
 |k::bB,.i x::r=>.i (iS k x)::ke bB r
 |_::bB,a::r=>a::ke bB r
 |_,l=>l
def sV(bB:dI):ay→ay
 |.i x=>.i (iS (bB.headD o) x)
 |.agg cells=>.agg (ke bB cells)
 |a=>a
def oJ:List dI→aZ→aZ
 |k::bB,a::r=>sV k a::oJ bB r
 |_,l=>l
def Al(H:ab)(z:Nat):Bool→ay×ab
 |true=>(.ref H.length 0 0 0,H++[.af z 0 [] J])
 |false=>(.x (.d H.length 0 0 0),H++[.aE (z-1000) 0 0 []])
def jL(z:Nat)(H:ab):ay→ay×ab
 |.i (.af _ [] ah)=>Al H z (decide (z<1000))
 |a=>(a,H)
def lW:dI→ab→ay→ay×ab
 |[j z],H,a=>jL z H a
 |_,H,a=>(a,H)
def e6:List dI→aZ→ab→aZ×ab
 |k::bB,a::r,H=>((lW k H a).1::(e6 bB r (lW k H a).2).1,(e6 bB r (lW k H a).2).2)
 |_,l,H=>(l,H)
def sW:iI→Fr→ab→Fr×ab
 |[],R,H=>(R,H)
 |(k,z)::r,R,H=>sW r ((k,(jL z H (get k R)).1)::R) (jL z H (get k R)).2
def C0(ac z c:Nat)(H:ab):gS→ab
 |some (.box cells)=>match cells[ac]? with
  |some a=>(jL z H a).2.set c (.box (cells.set ac (jL z H a).1))
  |none=>H
 |_=>H
def Gb(ac z:Nat)(H:ab):ay→ab
 |.ptr c _ _ _=>C0 ac z c H H[c]?
 |_=>H
def wm:List (Nat×Nat×Nat)→Fr→ab→ab
 |[],_,H=>H
 |(k,ac,z)::r,R,H=>wm r R (Gb ac z H (get k R))
def Am(k z:Nat)(R:Fr)(H:ab):Option (bx×ab)→Fr×ab
 |some (x,H1)=>((k,.i (iS (j z) x))::R,H1)
 |none=>(R,H)
def rR:iI→Fr→ab→Fr×ab
 |[],R,H=>(R,H)
 |(k,z)::r,R,H=>rR r (Am k z R H (freeze H (get k R))).1 (Am k z R H (freeze H (get k R))).2
def Gc(c g al n:Nat):gS→ay
 |some (.af _ a6 _ _)=>if g=a6 then .ref c 0 al n else .dead
 |some (.bs aD a6 rows ex)=>if g=a6 then .i (.af aD ((rows.drop al).take n) (ex &&decide (al+n=rows.length)))else .dead
 |_=>.dead
def tQ(c g r k:Nat):gS→ay
 |some (.af _ a6 _ _)=>if g=a6 then .ptr c 0 r k else .dead
 |some _=>.ptr c g r k
 |none=>.dead
def rS(k:de):gS→ay
 |some (.aE _ a6 dB _)=>match k with
  |.d c g al n=>if g=a6 then .x (.d c 0 al n)else .dead
  |.e c g r=>if g=a6 then .x (.e c 0 r)else .dead
  |.h c g s r=>if g=a6∧s=dB then .x (.h c 0 0 r)else .dead
  |.I c g s r i ac=>if g=a6∧s=dB then .x (.I c 0 0 r i ac)else .dead
 |some (.fd a6 rows)=>match k with
  |.d _ g al n=>if g=a6 then .i (.af 1 ((rows.drop al).take n) J)else .dead
  |_=>.dead
 |_=>.dead
mutual
def eL (B:Nat) (H:ab):ay→ay
 |.dead=>.dead
 |.i x=>.i x
 |.agg l=>.agg (ff B H l)
 |.ref c g al n=>if c<B then .ref c g al n else Gc c g al n H[c]?
 |.ptr c g r k=>if c<B then .ptr c g r k else tQ c g r k H[c]?
 |.dV c=>.dV c
 |.x k=>if k.c<B then .x k else rS k H[k.c]?
 |.aS f a b=>.aS f (ff B H a) (ff B H b)
 |.bl l=>.bl (ff B H l)
def ff (B:Nat) (H:ab):List ay→List ay
 |[]=>[]
 |a::r=>eL B H a::ff B H r
end
def wo(B:Nat)(H:ab):fa→fa
 |[]=>[]
 |I::r=>(I.1,eL B H I.2)::wo B H r
def el(B:Nat)(H:ab)(c:Nat):Chunk→Chunk
 |.box cells=>.box (ff B H cells)
 |.map es=>.map (wo B H es)
 |.dm t cells=>.dm t (ff B H cells)
 |.af aD g rows ex=>if c<B then .af aD g rows ex else .af aD 0 rows J
 |.aE z g s rows=>if c<B then .aE z g s rows else .aE z 0 0 rows
 |x=>x
def e0(B:Nat)(H:ab):Nat→ab→ab
 |_,[]=>[]
 |c,x::r=>el B H c x::e0 B H (c+1) r
def od(B:Nat)(H:ab):Fr→Fr
 |[]=>[]
 |(k,a)::r=>(k,eL B H a)::od B H r
def qb(z:Nat):Nat→cZ→cb
 |0,_=>[]
 |n+1,l=>l.take z::qb z n (l.drop z)
def ly:aZ→Option cZ
 |[]=>j []
 |.i x::r=>(ly r).map (x::·)
 |_=>o
def JB(E:Env)(e:TypeId):Option cZ:=
 match ls E.P e with
 |some (.agg cs)=>ly cs
 |some (.i x)=>j [x]
 |_=>o
def kC(E:Env)(H:ab)(t:TypeId)(n:Nat)(parts:eu):dE:=
 match fw E.P t with
 |some e=>match gp E.P e,ls E.P e with
  |some z,j zero=>if n*z≤16777216∧(cU zero).length=z∧0<z∧(cU zero).all one=ah then
    match f_ z (cH n (cU zero)).flatten parts with
    |some cells=>match f' H cells with
     |some (xs,H1)=>j (.ref H1.length 0 0 n,H1++[.af z 0 (qb z n (iJ (cH n (E.kinds e)).flatten xs)) ah])
     |none=>o
    |none=>o
   else o
  |_,_=>o
 |none=>o
def u3(z:Nat):Option (bx×ab)→Option (er×ab)
 |some (y,H1)=>j (.ek (iS (j z) y),H1)
 |none=>o
def C1(H:ab)(z d g len:Nat):gS→Option (er×ab)
 |some (.af ds a6 b4 ex)=>if ds=z∧0<z∧g=a6∧len=b4.length then j (.own b4,H.set d .gone)else o
 |_=>u3 z (freeze H (.ref d g 0 len))
def qY(H:ab)(z:Nat):ay→Option (er×ab)
 |.ref d g 0 len=>C1 H z d g len H[d]?
 |v=>u3 z (freeze H v)
def x0(c g r:Nat):Option (er×ab)→Option ab
 |some (y,H1)=>match H1[c]? with
  |some (.aE z a6 s rows)=>if g=a6∧r<rows.length then j (H1.set c (.aE z g (s+1) (rows.set r y)))else o
  |_=>o
 |none=>o
def x1(H:ab)(c g r:Nat)(v:ay):gS→Option ab
 |some (.aE z _ _ _)=>x0 c g r (qY H z v)
 |_=>o
def x2(E:Env)(H:ab)(t:TypeId)(n c g s r i k:Nat)(v:ay):gS→Option ab
 |some (.aE z a6 dB rows)=>if g=a6∧s=dB∧k+n≤z then match rows[r]? with
  |some (.own b4)=>match b4[i]?,ly (cU v)with
   |some row,j xs=>j (H.set c (.aE z g s (rows.set r (.own (b4.set i (row.take k++iJ (E.kinds t) xs++row.drop (k+n)))))))
   |_,_=>o
  |_=>o
  else o
 |_=>o
def qZ(E:Env)(H:ab)(t:TypeId)(n:Nat)(v:ay):de→Option ab
 |.e c g r=>if n=1 then x1 H c g r v H[c]? else o
 |.I c g s r i k=>x2 E H t n c g s r i k v H[c]?
 |_=>o
def sX(E:Env)(t t2:TypeId):Bool:=
 match fw E.P t with
 |some e=>match gp E.P e,u0 E.P e,ls E.P e with
  |some z,j b,j eB=>decide (z=1∧b≤65536∧(fw E.P t2).isSome=ah∧(cU eB).length=1) &&(cU eB).all one
  |_,_,_=>J
 |none=>J
def C2(z:Nat):Option (er×ab)→dE
 |some (y,H1)=>j (.x (.d H1.length 0 0 1),H1++[.aE z 0 1 [y]])
 |none=>o
def u4(E:Env)(H:ab)(t:TypeId)(z n:Nat)(parts:eu):dE:=
 match parts with
 |[(0,v)]=>if n=1∧one v=ah∧sX E t t=ah then C2 z (qY H z v)else o
 |_=>o
def fB(rows:c0)(off len:Nat):c0:=rows.take off++(cH len er.dead++rows.drop (off+len))
def wq(z d g off len:Nat)(H:ab):gS→Option (Nat×c0×ab)
 |some (.aE ds a6 s rows)=>if z=ds∧g=a6∧off+len≤rows.length then j (d,(rows.drop off).take len,H.set d (.aE z g (s+1) (fB rows off len)))else o
 |_=>o
def mo(z:Nat)(H:ab):ay→Option (Nat×c0×ab)
 |.x (.d c g off len)=>wq z c g off len H H[c]?
 |_=>o
def C3(z d c g len:Nat)(new:c0)(H:ab):gS→dE
 |some (.aE ds a6 _ rows)=>if z=ds∧g=a6∧c≠d∧len≤rows.length∧len+new.length<1073741824 then
  j (.x (.d c (g+1) 0 (len+new.length)),H.set c (.aE z (g+1) 0 (rows.take len++new)))else o
 |_=>o
def wt(z:Nat)(s:ay):Option (Nat×c0×ab)→dE
 |some (d,new,H1)=>match s with
  |.i (.af _ [] ah)=>if new.length<1073741824 then j (.x (.d H1.length 0 0 new.length),H1++[.aE z 0 0 new])else o
  |.x (.d c g 0 len)=>C3 z d c g len new H1 H1[c]?
  |_=>o
 |none=>o
def u5(E:Env)(H:ab)(t t2:TypeId)(z:Nat)(s x:ay):dE:=
 if sX E t t2=ah then wt z s (mo z H x)else o
def C4(z d c g off len:Nat)(new:c0)(H:ab):gS→dE
 |some (.aE ds a6 s rows)=>if z=ds∧g=a6∧c≠d∧off+len≤rows.length∧new.length≤len then
  j (.int .i64 new.length,H.set c (.aE z g (s+1) (rows.take off++(new++rows.drop (off+new.length)))))else o
 |_=>o
def An(z:Nat)(x:ay):Option (Nat×c0×ab)→dE
 |some (d,new,H1)=>match x with
  |.x (.d c g off len)=>C4 z d c g off len new H1 H1[c]?
  |_=>o
 |none=>o
def rT(E:Env)(H:ab)(t:TypeId)(z:Nat)(x y:ay):dE:=
 if sX E t t=ah then An z x (mo z H y)else o
def tR(E:Env)(t:TypeId):cu:=(fw E.P t).bind E.U5
def q0:cZ→er
 |[y]=>.ek y
 |_=>.dead
def C5(z c n:Nat)(H:ab):gS→dE
 |some (.af 1 0 rows _)=>j (.x (.d c 0 0 n),H.set c (.aE z 0 0 (rows.map q0)))
 |_=>o
def u6(z:Nat):dE→dE
 |some (.ref c 0 0 n,H)=>C5 z c n H H[c]?
 |_=>o
def oK(E:Env)(H:ab)(t:TypeId)(I v:ay):Option ab:=
 match gp E.P t with
 |some n=>if(cU v).length=n∧(cU v).all one=ah then match I with
  |.x k=>qZ E H t n v k
  |.ptr c g r k=>match H[c]? with
   |some (.box cells)=>if k+n≤cells.length then j (H.set c (.box (qa cells k (cU v))))else o
   |some (.af ..)=>match f' H (cU v)with
    |some (xs,H1)=>match H1[c]? with
     |some (.af aD a6 rows ex)=>if g=a6∧k+n≤aD then match rows[r]? with
      |some row=>j (H1.set c (.af aD a6 (rows.set r (row.take k++iJ (E.kinds t) xs++row.drop (k+n))) ex))
      |none=>o
      else o
     |_=>o
    |none=>o
   |_=>o
  |_=>o
  else o
 |none=>o
def kD(H:ab):ay→Option (Nat×cb×Bool)
 |.i (.str l)=>j (1,l.map λ b=>[bx.v (.int .u8 b.toNat)],ah)
 |x=>h6 H x
def hR(E:Env)(H:ab)(t t2:TypeId)(s x:ay):dE:=
 match fw E.P t with
 |some e=>match gp E.P e,u0 E.P e,ls E.P e,kD H x with
  |some z,j b,j eB,j (ds,new,_)=>
   if(new=[]∨ds=z)∧0<z∧b≤65536∧((fw E.P t2).isSome=ah∨ij E.P t2=ah)∧(cU eB).length=z∧(cU eB).all one=ah then match s with
   |.i (.af aD rows ex)=>if ex=ah∧(rows=[]∨(aD=z∧new≠[]))∧rows.length+new.length<1073741824 then
     j (.ref H.length 0 0 (rows.length+new.length),H++[.af z 0 (rows++new) (rows.isEmpty &&new.isEmpty)])else o
   |.ref c g off len=>match H[c]? with
    |some (.af aD a6 rows ex)=>if g=a6∧off=0∧aD=z∧len+new.length<1073741824 then
      j (.ref c (g+1) 0 (len+new.length),H.set c (.af z (g+1) (rows.take len++new) (ex &&rows.isEmpty &&new.isEmpty)))else o
    |some (.bs aD a6 rows ex)=>if g=a6∧off=0∧aD=z∧ex=ah∧len=rows.length∧new≠[]∧len+new.length<1073741824 then
      j (.ref H.length 0 0 (len+new.length),H++[.af z 0 (rows++new) J])else o
    |_=>o
   |_=>o
   else o
  |_,_,_,_=>o
 |none=>o
def rU(E:Env)(H:ab)(t t2:TypeId)(z:Nat)(s:ay):ay→dE
 |.i y=>hR E H t t2 s (.i y)
 |x=>u5 E H t t2 z s x
def Ao(z g off len:Nat)(new:cb)(H:ab)(c:Nat):gS→dE
 |some (.af aD a6 rows ex)=>if g=a6∧aD=z then
  j (.int .i64 (min new.length len:Nat),H.set c (.af z a6 (rows.take off++(new.take len++rows.drop (off+min new.length len))) ex))else o
 |_=>o
def m'(E:Env)(H:ab)(t:TypeId)(d x:ay):dE:=
 match fw E.P t with
 |some e=>match gp E.P e,d,h6 H x with
  |some z,.ref c g off len,j (ds,new,_)=>if(new=[]∨ds=z)∧0<z then Ao z g off len new H c H[c]? else o
  |_,_,_=>o
 |none=>o
def jf(E:Env)(H:ab)(t:TypeId)(l c:ay):dE:=
 match fw E.P t,l,c with
 |some e,.i (.v (.int _ n)),.i (.v (.int _ m))=>match gp E.P e,JB E e,u0 E.P e with
  |some z,j row,j b=>if 0≤n∧n=m∧n<1073741824∧row.length=z∧0<z∧b≤65536 then
    j (.ref H.length 0 0 n.toNat,H++[.af z 0 (cH n.toNat (iJ (E.kinds e) row)) ah])
   else if n=0∧0<m∧m<1073741824∧row.length=z∧0<z∧b≤65536 then j (.ref H.length 0 0 0,H++[.af z 0 [] J])else o
  |_,_,_=>o
 |_,_,_=>o
def sY(l:bm):Nat→Nat→bX
 |0,_=>[]
 |n+1,i=>if i<l.length then((na ⟨⟨l⟩⟩ i).1:Int)::sY l n (i+(na ⟨⟨l⟩⟩ i).2)else[]
def mq(l:bm):cb:=(sY l l.length 0).map λ r=>[bx.v (.int .i32 r)]
def Ap(H:ab)(l:bm):Option IntKind→dE
 |some .u8=>j (.ref H.length 0 0 l.length,H++[.af 1 0 (l.map λ b=>[bx.v (.int .u8 b.toNat)]) J])
 |some .i32=>j (.ref H.length 0 0 (mq l).length,H++[.af 1 0 (mq l) J])
 |_=>o
def j2(bB:dI):cq→ab→aZ→m_
 |[],H,cs=>j (cs,H)
 |ac::r,H,cs=>match cs[ac]? with
  |some a=>match freeze H a with
   |some (x,H1)=>j2 bB r H1 (cs.set ac (.i (iS (bB.getD ac o) x)))
   |none=>o
  |none=>o
def x3:ay→aZ→ay
 |.agg _,cs=>.agg cs
 |a,cs=>cs.headD a
def wu(v:ay):m_→dE
 |some (cs,H1)=>j (x3 v cs,H1)
 |none=>o
def k4(E:Env)(t:TypeId)(H:ab)(v:ay):cq→dE
 |[]=>j (v,H)
 |ac::r=>wu v (j2 (E.kinds t) (ac::r) H (cU v))
def Aq:dE→dE
 |some (v,H1)=>if(cU v).all one then j (.ptr H1.length 0 0 0,H1++[.box (cU v)])else o
 |none=>o
def x4(E:Env)(t:TypeId)(I:ay):dE→dE
 |some (v,H1)=>(oK E H1 t I v).map λ aq=>(.dead,aq)
 |none=>o
def JC(E:Env)(t:TypeId)(n:Nat):cu:=if n=1 then tR E t else o
def dF(E:Env)(R:Fr)(H:ab):Op→dE
 |.alloc e=>match ls E.P e with
  |some v=>if(cU v).all one then(if E.U4 e then(if Oa E.P e=ah then j (.dV H.length,H++[.dm e (Jx E.P e)])else o)else j (.ptr H.length 0 0 0,H++[.box (cU v)]))else o
  |none=>o
 |.box t x=>Aq (k4 E t H (bw E R x) (E.tM t))
 |.buildSlice t n parts=>match JC E t n with
  |none=>kC E H t n (parts.toList.map λ I=>(I.1,bw E R I.2))
  |some z=>u4 E H t z n (parts.toList.map λ I=>(I.1,bw E R I.2))
 |.store t a x=>x4 E t (bw E R a) (k4 E t H (bw E R x) (E.tM t))
 |.makeSlice t l c=>match tR E t with
  |none=>jf E H t (bw E R l) (bw E R c)
  |some z=>u6 z (jf E H t (bw E R l) (bw E R c))
 |.convert s d x=>match bw E R x with
  |.i (.str l)=>if ij E.P s=ah∧l.length<1073741824 then Ap H l ((fw E.P d).bind (oI E.P))else o
  |_=>o
 |.slice t x b5 aB (j m)=>match freeze H (bw E R x)with
  |some (y,H1)=>(j1 E H1 t (.i y) (b5.map (bw E R)) (aB.map (bw E R)) (j (bw E R m))).map λ v=>(v,H1)
  |none=>o
 |.range t x=>match bw E R x with
  |.i (.str l)=>if ij E.P t=ah then j (.ptr H.length 0 0 0,H++[.iter l 0])else o
  |_=>o
 |.makeMap t o=>match u2 E.P t with
  |some _=>j (.dV H.length,H++[.map []])
  |none=>o
 |.mapUpdate t m k x=>nK E H t (bw E R m) (bw E R k) (bw E R x)
 |.insert t m k x=>nK E H t (bw E R m) (bw E R k) (bw E R x)
 |.next it b=>match b,bw E R it with
  |true,.ptr c _ _ 0=>match H[c]? with
   |some (.iter s pos)=>if pos<s.length then
    j (.bl [.bool ah,.int .i64 pos,.int .i32 (na ⟨⟨s⟩⟩ pos).1],H.set c (.iter s (pos+(na ⟨⟨s⟩⟩ pos).2)))else j (.bl [.bool J],H)
   |_=>o
  |_,_=>o
 |.call ⟨.builtin b,args,fx⟩=>match b,args.toList,fx.toList with
  |.append,[s,x],[t,t2]=>match tR E t with
   |none=>hR E H t t2 (bw E R s) (bw E R x)
   |some z=>rU E H t t2 z (bw E R s) (bw E R x)
  |.copy,[d,x],[t,_]=>match tR E t with
   |none=>m' E H t (bw E R d) (bw E R x)
   |some z=>rT E H t z (bw E R d) (bw E R x)
  |_,_,_=>o
 |_=>o
def e1(E:Env):Op→Bool
 |.alloc _|.box ..|.buildSlice ..|.store ..|.makeSlice ..|.range ..|.next ..|.makeMap ..|.mapUpdate ..|.insert ..=>ah
 |.convert _ d _=>(fw E.P d).isSome
 |.call ⟨.builtin b,_,_⟩=>match b with
  |.append=>ah
  |.copy=>ah
  |_=>J
 |.call ⟨.value _,_,_⟩=>ah
 |_=>J
mutual
def cB (aY:Nat→Option Nat):ay→ay
 |.dead=>.dead
 |.i x=>.i x
 |.agg l=>.agg (cP aY l)
 |.ref c g al n=>match aY c with|some cv=>.ref cv g al n|none=>.dead
 |.ptr c g r k=>match aY c with|some cv=>.ptr cv g r k|none=>.dead
 |.dV c=>match aY c with|some cv=>.dV cv|none=>.dead
 |.x k=>match aY k.c with|some cv=>.x (k.to cv)|none=>.dead
 |.aS f a b=>.aS f (cP aY a) (cP aY b)
 |.bl l=>.bl (cP aY l)
def cP (aY:Nat→Option Nat):List ay→List ay
 |[]=>[]
 |a::r=>cB aY a::cP aY r
end
mutual
def bj:ay→List Nat
 |.dead=>[]
 |.i _=>[]
 |.agg l=>bI l
 |.ref c _ _ _=>[c]
 |.ptr c _ _ _=>[c]
 |.dV c=>[c]
 |.x k=>[k.c]
 |.aS _ a b=>bI a++bI b
 |.bl l=>bI l
def bI:List ay→List Nat
 |[]=>[]
 |a::r=>bj a++bI r
end
def Ar(aY:Nat→cu):fa→fa
 |[]=>[]
 |I::r=>(I.1,cB aY I.2)::Ar aY r
def x5:fa→cq
 |[]=>[]
 |I::r=>bj I.2++x5 r
def Chunk.c2(aY:Nat→cu):Chunk→Chunk
 |.box cells=>.box (cP aY cells)
 |.map es=>.map (Ar aY es)
 |.dm t cells=>.dm t (cP aY cells)
 |c=>c
def Chunk.refs:Chunk→cq
 |.box cells=>bI cells
 |.map es=>x5 es
 |.dm _ cells=>bI cells
 |_=>[]
def reach(H:ab):Nat→cq→cq→cq
 |0,_,seen=>seen
 |_+1,[],seen=>seen
 |n+1,c::r,seen=>if c∈seen∨H.length≤c then reach H n r seen
  else reach H n (((H[c]?).map Chunk.refs).getD []++r) (seen++[c])
def bD:cq→Nat→cu
 |[],_=>o
 |c::r,k=>if k=c then j 0 else(bD r k).map (·+1)
def rV:Nat→aZ→Fr
 |_,[]=>[]
 |k,a::r=>(k,a)::rV (k+1) r
inductive lz where
 |normal|exit (id:Nat)|ret
 deriving DecidableEq
abbrev hj:=Option (lz×Fr×ab)
def As(E:Env)(R:Fr)(H:ab):ResultVar→dX
 |.tmp t=>j (get t R)
 |.cell a t=>u1 E H t (get a R)
def rW(E:Env)(R:Fr)(H:ab):List ResultVar→mZ
 |[]=>j []
 |r::l=>match As E R H r,rW E R H l with
  |some a,j bW=>j (a::bW)
  |_,_=>o
def x6(E:Env)(R:Fr)(H:ab)(l:List ResultVar):dX:=
 match rW E R H l with
 |some [a]=>j a
 |some bW=>j (.bl bW)
 |none=>o
abbrev Gd:=Nat→FuncId→Code→Fr→ab→Option (lz×Fr×ab)
abbrev dY:=FuncId→List ay→ab→Option (ay×ab)
def dP(H:ab):aZ→m_
 |[]=>j ([],H)
 |a::r=>match a with
  |.ref ..=>match freeze H a with
   |some (x,H1)=>match dP H1 r with
    |some (bW,bG)=>j (.i x::bW,bG)
    |none=>o
   |none=>o
  |.x _=>match freeze H a with
   |some (x,H1)=>match dP H1 r with
    |some (bW,bG)=>j (.i x::bW,bG)
    |none=>o
   |none=>o
  |.agg l=>match f' H l with
   |some (xs,H1)=>match dP H1 r with
    |some (bW,bG)=>j (.agg (lu xs)::bW,bG)
    |none=>o
   |none=>match dP H r with
    |some (bW,bG)=>j (.agg l::bW,bG)
    |none=>o
  |a=>match dP H r with
   |some (bW,bG)=>j (a::bW,bG)
   |none=>o
def js(E:Env)(f:FuncId)(H:ab)(args:aZ):m_:=
 match E.Ai f with
 |true=>j (e6 (E.gH f) args H)
 |false=>match dP H args with
  |some (bW,H1)=>j (oJ (E.gH f) bW,H1)
  |none=>o
def ev(H:ab):cq→List Chunk→ab
 |c::r,x::t=>ev (H.set c x) r t
 |_,_=>H
def dG(a1:cq)(n:Nat)(K:cq):Nat→cu:=λ i=>
 match a1[i]? with
 |some c=>j c
 |none=>(bD K i).map (·+n)
def fg(E:Env)(aO:dY):dY:=λ f args H=>
 match E.ext f with
 |some h=>h args H
 |none=>aO f args H
def lX(E:Env)(aO:dY):dY:=λ f args H=>
 match js E f H args with
 |none=>o
 |some (il,H1)=>
  let a1:=reach H1 64 (bI il) []
  let Ge:=bD a1
  match fg E aO f (cP Ge il) (a1.map λ c=>((H1[c]?).map (Chunk.c2 Ge)).getD (.iter [] 0))with
  |none=>o
  |some (r,L)=>if L.length<a1.length then o else
   let K:=(reach L 64 (bj r++(L.take a1.length).flatMap Chunk.refs) []).filter λ i=>decide (a1.length≤i)
   let back:=dG a1 H1.length K
   j (cB back r,ev H1 a1 ((L.take a1.length).map (Chunk.c2 back))++K.map λ i=>((L[i]?).map (Chunk.c2 back)).getD (.iter [] 0))
noncomputable def Gf(x y:Value):Bool:=match x with
 |.int k a=>match y with|.int dr b=>decide (k=dr) &&decide (a=b)|_=>J
 |.bool a=>match y with|.bool b=>a==b|_=>J
 |.pointer o=>match y with|.pointer o=>ah|_=>J
 |.nilFunc=>match y with|.nilFunc=>ah|_=>J
 |.map o=>match y with|.map o=>ah|_=>J
 |x=>@decide (x=y) (Classical.propDecidable _)
mutual
noncomputable def mr:bx→bx→Bool
 |.v x,.v y=>Gf x y
 |.str a,.str b=>a==b
 |.af z r e,.af ds hq lY=>z==ds &&(sZ r hq &&e==lY)
 |.gR c al,.gR cv pn=>wv c cv &&al==pn
 |.mp a,.mp b=>decide (a=b)
 |_,_=>J
noncomputable def wv:List bx→List bx→Bool
 |[],[]=>ah
 |a::r,b::t=>mr a b &&wv r t
 |_,_=>J
noncomputable def sZ:List (List bx)→List (List bx)→Bool
 |[],[]=>ah
 |a::r,b::t=>wv a b &&sZ r t
 |_,_=>J
end
noncomputable def JD(x y:Fn):Bool:=decide (x=y)
mutual
noncomputable def jt:ay→ay→Bool
 |.dead,.dead=>ah
 |.i x,.i y=>mr x y
 |.agg a,.agg b=>rX a b
 |.ref a b c d,.ref b_ b0 cv im=>a==b_ &&(b==b0 &&(c==cv &&d==im))
 |.ptr a b c d,.ptr b_ b0 cv im=>a==b_ &&(b==b0 &&(c==cv &&d==im))
 |.dV a,.dV b=>a==b
 |.x a,.x b=>decide (a=b)
 |.aS f a b,.aS JE b_ b0=>JD f JE &&(rX a b_ &&rX b b0)
 |.bl a,.bl b=>rX a b
 |_,_=>J
noncomputable def rX:List ay→List ay→Bool
 |[],[]=>ah
 |a::r,b::t=>jt a b &&rX r t
 |_,_=>J
end
noncomputable def Gg:er→er→Bool
 |.own a,.own b=>sZ a b
 |.ek a,.ek b=>mr a b
 |.dead,.dead=>ah
 |_,_=>J
noncomputable def x7:c0→c0→Bool
 |[],[]=>ah
 |a::r,b::t=>Gg a b &&x7 r t
 |_,_=>J
noncomputable def x8:fa→fa→Bool
 |[],[]=>ah
 |a::r,b::t=>(mr a.1 b.1 &&jt a.2 b.2) &&x8 r t
 |_,_=>J
noncomputable def Gh:Chunk→Chunk→Bool
 |.box a,.box b=>rX a b
 |.af a b c d,.af b_ b0 cv im=>a==b_ &&(b==b0 &&(sZ c cv &&d==im))
 |.bs a b c d,.bs b_ b0 cv im=>a==b_ &&(b==b0 &&(sZ c cv &&d==im))
 |.iter a b,.iter b_ b0=>a==b_ &&b==b0
 |.map a,.map b=>x8 a b
 |.dm a b,.dm b_ b0=>a==b_ &&rX b b0
 |.kc a b,.kc b_ b0=>a==b_ &&b==b0
 |.gone,.gone=>ah
 |.fd a b,.fd b_ b0=>a==b_ &&sZ b b0
 |.aE a b c d,.aE b_ b0 cv im=>a==b_ &&(b==b0 &&(c==cv &&x7 d im))
 |_,_=>J
noncomputable def x9:ab→ab→Bool
 |[],[]=>ah
 |a::r,b::t=>Gh a b &&x9 r t
 |_,_=>J
noncomputable def x_(H:ab):dE→dE
 |some (v,aq)=>if x9 H aq=ah then j (v,H)else o
 |none=>o
def lA:Nat:=1000000
def x'(H:ab)(fn:FuncId):aZ→dE
 |[a]=>if one a=ah then j (.aS (.func fn) [] [.ptr H.length 0 0 0],H++[.box [a]])else o
 |_=>o
noncomputable def gI(E:Env)(aO:dY):dY:=λ f args H=>
 match E.pj f with
 |some fn=>x' H fn args
 |none=>match E.tL f with
  |true=>x_ H (lX E aO f args H)
  |false=>lX E aO f args H
def ee(dst:cu)(v:ay)(R:Fr):Fr:=
 match dst with
 |some d=>(d,v)::R
 |none=>R
def ya(E:Env)(R:Fr)(f:Operand)(args:List Operand):Option (FuncId×aZ):=
 match bw E R f with
 |.aS (.func g) first fZ=>j (g,first++args.map (bw E R)++fZ)
 |_=>o
def lB(E:Env)(g:FuncId):Bool:=
 match E.P.funcs[g]? with
 |some fn=>fn.body.isSome &&!(fn.name== "runtime.NumGoroutine")
 |none=>J
noncomputable def cw(E:Env)(aO:dY)(al:Op)(R:Fr)(H:ab):dE:=
 match al with
 |.call ⟨.value f,args,_⟩=>match ya E R f args.toList with
  |some (g,bW)=>if lB E g=ah then gI E aO g bW H else o
  |none=>o
 |al=>if e1 E al then dF E R H al else(eV E R H al).map λ v=>(v,H)
def gZ(ops:eh)(R:Fr)(al:Oper):Option Bool:=
 match al.guard with
 |none=>j ah
 |some (ac,want)=>match(ops[ac]?).bind (·.dst)with
  |some d=>match get d R with
   |.i (.v (.bool b))=>j (b==want)
   |.bl []=>j J
   |_=>o
  |none=>o
noncomputable def jg(E:Env)(aO:dY)(ops:eh):eh→Fr→ab→Option (Fr×ab)
 |[],R,H=>j (R,H)
 |al::r,R,H=>match gZ ops R al with
  |some ah=>match cw E aO al.op R H with
   |some (v,aq)=>jg E aO ops r (ee al.dst v R) aq
   |none=>o
  |some J=>jg E aO ops r (ee al.dst (.bl []) R) H
  |none=>o
def rY(E:Env)(f:FuncId)(args:aZ)(H:ab):cq:=
 match js E f H args with
 |some (il,H1)=>bI args++reach H1 64 (bI il) []
 |none=>[]
def jM(E:Env)(f:FuncId)(args:aZ)(H:ab):cq:=
 match E.pj f with
 |some _=>[]
 |none=>match E.tL f with
  |true=>(rY E f args H).map (·+lA)
  |false=>rY E f args H
def nb(E:Env)(t:TypeId)(n:Nat)(parts:eu):cq:=
 match fw E.P t with
 |some e=>match gp E.P e,ls E.P e with
  |some z,j zero=>match f_ z (cH n (cU zero)).flatten parts with
   |some cells=>bI cells
   |none=>[]
  |_,_=>[]
 |none=>[]
def df(E:Env)(R:Fr)(H:ab):Op→cq
 |.call ⟨.value f,args,_⟩=>match ya E R f args.toList with
  |some (g,bW)=>jM E g bW H
  |none=>[]
 |.call ⟨.builtin _,args,_⟩=>bI (args.toList.map (bw E R))
 |.load _ x=>bj (bw E R x)
 |.indexAddr _ x _=>bj (bw E R x)
 |.slice _ x _ _ _=>bj (bw E R x)
 |.convert _ _ x=>bj (bw E R x)
 |.next it _=>bj (bw E R it)
 |.lookup _ x _ _=>bj (bw E R x)
 |.mapUpdate _ m _ _=>bj (bw E R m)++(bj (bw E R m)).map (·+lA)
 |.insert _ m _ _=>bj (bw E R m)++(bj (bw E R m)).map (·+lA)
 |.store _ a x=>bj (bw E R a)++bj (bw E R x)
 |.box t x=>match E.tM t with
  |[]=>[]
  |_::_=>bj (bw E R x)
 |.buildSlice t n parts=>nb E t n (parts.toList.map λ I=>(I.1,bw E R I.2))
 |_=>[]
def lC:Op→Bool
 |.load ..|.indexAddr ..|.slice ..|.convert ..|.lookup ..=>ah
 |_=>J
def q1(b:Array Nat)(i ac:Nat):Bool:=(b.getD ac 0).testBit i
def Gi(E:Env)(ops:Array Oper):iI:=
 let b:=q2 ops
 (hB ops.size).flatMap λ ac=>(hB ac).filterMap λ i=>
  match ops[i]?,ops[ac]? with
  |some x,j y=>if !q1 b i ac &&((e1 E x.op &&lC y.op)||(e1 E y.op &&lC x.op))then j (i,ac)else o
  |_,_=>o
def C6(E:Env)(ops:Array Oper):Bool:=
 let b:=q2 ops
 (ops.toList.all λ al=>!(al.op matches .select ..)) &&
 ((hB ops.size).all λ ac=>match ops[ac]? with
  |some y=>y.after.all λ e=>!Region.binds .any e||decide (e.on<ac)
  |none=>J) &&
 (hB ops.size).all λ ac=>(hB ac).all λ i=>
  match ops[i]?,ops[ac]? with
  |some x,j y=>q1 b i ac||(x.apart ops y &&!(e1 E x.op &&e1 E y.op))
  |_,_=>J
noncomputable def q3(E:Env)(aO:dY)(ops:eh)(al:Oper)(R:Fr)(H:ab):Option (Fr×ab×cq):=
 match gZ ops R al with
 |some ah=>match cw E aO al.op R H with
  |some (v,aq)=>j (ee al.dst v R,aq,df E R H al.op++ms H.length (aq.length-H.length))
  |none=>o
 |some J=>j (ee al.dst (.bl []) R,H,[])
 |none=>o
noncomputable def iK(E:Env)(aO:dY)(ops:eh):eh→Fr→ab→Option (Fr×ab×lZ)
 |[],R,H=>j (R,H,[])
 |al::r,R,H=>match q3 E aO ops al R H with
  |some (k5,H1,t)=>match iK E aO ops r k5 H1 with
   |some (d',bG,dh)=>j (d',bG,t::dh)
   |none=>o
  |none=>o
def rZ(a b:cq):Bool:=a.all λ c=>!b.contains c
def tS(e2:lZ)(I:Nat×Nat):Bool:=rZ (e2.getD I.1 []) (e2.getD I.2 [])
def nL:Chunk:=.af 0 0 [] ah
def en:Op→Bool
 |.alloc _|.box ..|.buildSlice ..|.makeSlice ..=>ah
 |.makeMap _ o=>ah
 |_=>J
def iT:dE→Option (Option cu×Chunk)
 |some (.ref _ _ _ n,[.af z _ rows ex])=>j (j (j n),.af z 1 rows ex)
 |some (.ptr _ _ _ _,[.box cells])=>j (o,.box cells)
 |some (.dV _,[.map []])=>j (j o,.map [])
 |_=>o
def u7(c:Nat):Option cu→ay
 |none=>.ptr c 0 0 0
 |some (j n)=>.ref c 1 0 n
 |some o=>.dV c
def Gj(c:Nat)(H:ab)(r:Option (Option cu×Chunk)):gS→dE
 |some (.af 0 0 [] ah)=>match r with
  |some (k,ch)=>j (u7 c k,H.set c ch)
  |none=>o
 |_=>o
noncomputable def kf(E:Env)(aO:dY)(c:Nat)(al:Op)(R:Fr)(H:ab):dE:=
 match en al with
 |true=>Gj c H (iT (dF E R [] al)) H[c]?
 |false=>cw E aO al R H
def tT(E:Env)(c:Nat)(R:Fr)(H:ab)(al:Op):cq:=
 match en al with
 |true=>[c,c+lA]
 |false=>df E R H al
def oe(c:Nat)(al:Op):Nat:=match en al with|true=>c+1|false=>c
def qc(l:eh):Nat:=l.foldl (λ c al=>oe c al.op) 0
noncomputable def ju(E:Env)(aO:dY)(ops:eh):Nat→eh→Fr→ab→Option (Fr×ab×lZ)
 |_,[],R,H=>j (R,H,[])
 |c,al::r,R,H=>match gZ ops R al with
  |some ah=>match kf E aO c al.op R H with
   |some (v,aq)=>match ju E aO ops (oe c al.op) r (ee al.dst v R) aq with
    |some (d',bG,dh)=>j (d',bG,(tT E c R H al.op++ms H.length (aq.length-H.length))::dh)
    |none=>o
   |none=>o
  |some J=>match ju E aO ops (oe c al.op) r (ee al.dst (.bl []) R) H with
   |some (d',bG,dh)=>j (d',bG,[]::dh)
   |none=>o
  |none=>o
def C7:Op→Bool
 |.insert ..|.mapUpdate ..=>ah
 |_=>J
def s0:Op→Op→Bool
 |.insert _ _ (.const (.int k a)) _,.insert _ _ (.const (.int dr b)) _=>decide (k=dr) &&!decide (a=b)
 |_,_=>J
def Gk(x y:Op):Bool:=(C7 x &&!C7 y)||(C7 y &&!C7 x)||s0 x y
def Gl(E:Env)(ops:Array Oper):iI:=
 let b:=q2 ops
 (hB ops.size).flatMap λ ac=>(hB ac).filterMap λ i=>
  match ops[i]?,ops[ac]? with
  |some x,j y=>if !q1 b i ac &&!s0 x.op y.op &&((e1 E x.op &&(lC y.op||e1 E y.op))||(e1 E y.op &&(lC x.op||e1 E x.op)))then j (i,ac)else o
  |_,_=>o
def C8(E:Env)(ops:Array Oper):Bool:=
 let b:=q2 ops
 (ops.toList.all λ al=>!(al.op matches .select ..)) &&
 ((hB ops.size).all λ ac=>match ops[ac]? with
  |some y=>y.after.all λ e=>!Region.binds .any e||decide (e.on<ac)
  |none=>J) &&
 (hB ops.size).all λ ac=>(hB ac).all λ i=>
  match ops[i]?,ops[ac]? with
  |some x,j y=>q1 b i ac||(x.apart ops y &&(!(e1 E x.op &&e1 E y.op)||en x.op||en y.op||Gk x.op y.op))
  |_,_=>J
def mu:Code→Bool
 |.seq a b=>mu a &&mu b
 |.cond _ a b=>mu a &&mu b
 |.block _ c=>mu c
 |.loop c=>mu c
 |.scope _=>J
 |.rangeFunc ..=>J
 |_=>ah
def codeOk(E:Env)(f:FuncId)(tU:Nat):Code→Bool
 |.region id ops draw=>(ops.toList.all λ al=>match al.dst with|some d=>decide (d<tU)|none=>ah) &&
  (!draw||(match E.rN f id with
   |false=>C6 E ops &&(Gi E ops).all λ I=>(E.eg f id).contains I
   |true=>C8 E ops &&(Gl E ops).all λ I=>(E.eg f id).contains I))
 |.seq a b=>codeOk E f tU a &&codeOk E f tU b
 |.cond _ a b=>codeOk E f tU a &&codeOk E f tU b
 |.block _ c=>codeOk E f tU c
 |.loop c=>codeOk E f tU c
 |.scope c=>codeOk E f tU c
 |.rangeFunc _ bn a b=>bn.toList.all (λ I=>decide (I<tU)) &&(mu a &&mu b) &&(codeOk E f tU a &&codeOk E f tU b)
 |.goto _=>J
 |_=>ah
def At(E:Env)(f:FuncId):Bool:=
 match E.P.funcs[f]? with
 |some fn=>match fn.body with
  |some c=>codeOk E f fn.ntmps c &&E.P.follows .mixedOrders
  |none=>J
 |none=>J
def q4(E:Env)(f:FuncId)(B:Nat)(H:ab)(vs:aZ):m_:=
 match E.own f with
 |true=>j (ff B (e6 (E.mm f) vs H).2 (e6 (E.mm f) vs H).1,e0 B (e6 (E.mm f) vs H).2 0 (e6 (E.mm f) vs H).2)
 |false=>match dP H vs with
  |some (bW,H1)=>j (ff B H1 (oJ (E.mm f) bW),e0 B H1 0 H1)
  |none=>o
def u9:m_→dE
 |some ([a],H)=>j (a,H)
 |_=>o
def JF:m_→dE
 |some (bW,H)=>j (.bl bW,H)
 |none=>o
def r0(E:Env)(f:FuncId)(B:Nat)(H:ab):ay→dE
 |.bl vs=>JF (q4 E f B H vs)
 |a=>u9 (q4 E f B H [a])
def jv(E:Env)(ex:Gd):dY:=λ f args H=>
 match E.P.funcs[f]? with
 |some fn=>match fn.body with
  |some c=>if At E f=ah∧args.length≤fn.ntmps then match ex H.length f c (rV 0 args) H with
   |some (.exit _,_,_)=>o
   |some (_,R,aq)=>match x6 E R aq fn.results.toList with
    |some r=>r0 E f H.length aq r
    |none=>o
   |none=>o
   else o
  |none=>o
 |none=>o
def norm(l:cq)(R:Fr):Fr:=l.map λ k=>(k,get k R)
def gj:Code→cu
 |.region id _ _=>j id
 |.seq a b=>match gj a with|some i=>j i|none=>gj b
 |.cond _ a b=>match gj a with|some i=>j i|none=>gj b
 |.block _ c=>gj c
 |.loop c=>gj c
 |.scope c=>gj c
 |.rangeFunc _ _ a b=>match gj a with|some i=>j i|none=>gj b
 |_=>o
def oL(B:Nat)(R:Fr)(H:ab):cq:=
 hB B++(reach H 64 (bI (R.map (·.2))++(H.take B).flatMap Chunk.refs) []).filter λ i=>decide (B≤i)
def yb(a1:cq)(R:Fr)(H:ab):Fr×ab:=
 (R.map λ x=>(x.1,cB (bD a1) x.2),a1.map λ c=>((H[c]?).map (Chunk.c2 (bD a1))).getD (.iter [] 0))
def gc(B:Nat)(R:Fr)(H:ab):Fr×ab:=if B≤H.length then yb (oL B R H) R H else(R,H)
def oM(B:Nat)(R:Fr)(H:ab):Fr×ab:=gc B (od B H R) (e0 B H 0 H)
def po(E:Env)(B:Nat)(f:FuncId)(id:Nat)(R:Fr)(H:ab):Fr×ab:=
 let I:=sW (E.xW f id) R H
 let bG:=wm (E.xX f id) I.1 I.2
 let q:=rR (E.xY f id) I.1 bG
 oM B (norm (E.head f id) q.1) q.2
def s3(H:ab):aZ→Option cb
 |[]=>j []
 |.ptr c _ 0 0::r=>match H[c]? with
  |some (.box cells)=>match ly cells,s3 H r with
   |some a,j b=>j (a::b)
   |_,_=>o
  |_=>o
 |_=>o
def tV(E:Env)(H:ab):ay→mZ
 |.aS (.func g) [] fZ=>match E.seq g,s3 H fZ with
  |some L,j mv=>L mv
  |_,_=>o
 |_=>o
def mw(ex:Nat→Code→Fr→ab→hj)(oN body:Code)(R:Fr)(H:ab):Option (lz×ab):=
 match ex H.length oN R H with
 |some (.normal,k5,H1)=>match ex H.length body k5 H1 with
  |some (e,_,bG)=>j (e,bG)
  |none=>o
 |_=>o
def k6(rd:Fr→ab→Option (lz×ab))(I:Nat)(R:Fr):aZ→ab→hj
 |[],H=>j (.normal,R,H)
 |x::xs,H=>match rd ((I,x)::R) H with
  |some (.normal,H1)=>k6 rd I R xs H1
  |some (e,H1)=>j (e,R,H1)
  |none=>o
noncomputable def exec(E:Env):Nat→Gd
 |0,_,_,_,_,_=>o
 |n+1,B,f,c,R,H=>match c with
  |.skip=>j (.normal,R,H)
  |.label _=>j (.normal,R,H)
  |.ret=>j (.ret,R,H)
  |.exit id=>j (.exit id,R,H)
  |.region id ops draw=>
   match draw with
   |false=>match jg E (jv E (exec E n)) ops.toList ops.toList R H with
    |some (bY,aq)=>j (.normal,norm (E.k0 f id) bY,aq)
    |none=>o
   |true=>match E.rN f id with
    |false=>match iK E (jv E (exec E n)) ops.toList ops.toList R H with
     |some (bY,aq,e2)=>if(E.eg f id).all (tS e2)=ah then j (.normal,norm (E.k0 f id) bY,aq)else o
     |none=>o
    |true=>match ju E (jv E (exec E n)) ops.toList H.length ops.toList R (H++cH (qc ops.toList) nL)with
     |some (bY,aq,e2)=>if(E.eg f id).all (tS e2)=ah then j (.normal,norm (E.k0 f id) bY,aq)else o
     |none=>o
  |.seq a b=>match exec E n B f a R H with
   |some (.normal,bY,aq)=>exec E n B f b bY aq
   |r=>r
  |.cond c a b=>match bw E R c with
   |.i (.v (.bool ah))=>exec E n B f a R H
   |.i (.v (.bool J))=>exec E n B f b R H
   |_=>o
  |.block id c=>match exec E n B f c R H with
   |some (.exit ac,bY,aq)=>if ac=id then j (.normal,bY,aq)else j (.exit ac,bY,aq)
   |r=>r
  |.loop c=>match exec E n B f c (po E B f ((gj c).getD 0) R H).1 (po E B f ((gj c).getD 0) R H).2 with
   |some (.normal,bY,aq)=>exec E n B f (.loop c) bY aq
   |r=>r
  |.scope c=>exec E n B f c R H
  |.rangeFunc g bn a b=>match bn.toList,tV E H (bw E R g)with
   |[I],j xs=>k6 (mw (λ dQ c R H=>exec E n dQ f c R H) a b) I R xs H
   |_,_=>o
  |_=>o
noncomputable def call(E:Env)(n:Nat):dY:=jv E (exec E n)
abbrev cn:=Nat→Option Obj
structure fK where
 c:Nat
 r:Nat
 deriving DecidableEq
instance:Coe Nat fK:=⟨λ c=>⟨c,0⟩⟩
abbrev cj:=fK→Option (Nat×Nat)
inductive dH (ad:cn):bx→Value→Prop
 |v (x:Value) (h:x.oneCell'=ah):dH ad (.v x) x
 |str (l:List UInt8):dH ad (.str l) (.string ⟨⟨l⟩⟩)
 |nil (aD:Nat) (ex:Bool) (a:Option Addr) (cap:Nat) (h:ex=ah→cap=0):dH ad (.af aD [] ex) (.slice a 0 cap)
 |af (aD:Nat) (rows:List (List bx)) (ex:Bool) (b off cap:Nat) (cs:Array Value) (elem:TypeId) (bs:Nat×Nat) (dn:Nat→Nat→Value)
  (cr:ad b=j (.cells cs elem bs)) (aj:rows.length≤cap) (ap:ex=ah→cap=rows.length)
  (ak:∀(i:Nat) (r:List bx),rows[i]?=j r→r.length=aD)
  (p:∀(i:Nat) (r:List bx) (k:Nat) (a:bx),rows[i]?=j r→r[k]?=j a→cs[off+i*aD+k]?=j (dn i k))
  (U:∀(i:Nat) (r:List bx) (k:Nat) (a:bx),rows[i]?=j r→r[k]?=j a→dH ad a (dn i k)):
  dH ad (.af aD rows ex) (.slice (j ⟨b,off,o⟩) rows.length cap)
 |gR (cells:List bx) (al b off:Nat) (cs:Array Value) (elem:TypeId) (bs:Nat×Nat) (dn:Nat→Value)
  (cr:ad b=j (.cells cs elem bs))
  (p:∀(k:Nat) (a:bx),cells[k]?=j a→cs[off+k]?=j (dn k))
  (U:∀(k:Nat) (a:bx),cells[k]?=j a→dH ad a (dn k)):
  dH ad (.gR cells al) (.pointer (j ⟨b,off+al,o⟩))
 |mp (es:List (Int×Nat)) (b:Nat) (h7:Array MapEntry) (clock:Nat) (cr:ad b=j (.map h7 clock))
  (h:h7.toList.map (λ e=>(e.key,e.val))=es.map λ I=>(kE .i64 I.1,Gm (.func I.2) #[] #[])):dH ad (.mp es) (.map (j b))
def cn.le(ad aQ:cn):Prop:=∀b al,ad b=j al→aQ b=j al
def dH.mono{ad aQ:cn}(h:ad.le aQ){x:bx}{v:Value}(r:dH ad x v):dH aQ x v:=by
 induction r with
 |v x h=>exact .v x h
 |str l=>exact .str l
 |nil aD ex a cap ap=>exact .nil aD ex a cap ap
 |af aD rows ex b off cap cs elem bs dn cr aj ap ak p _ a'=>exact .af aD rows ex b off cap cs elem bs dn (h _ _ cr) aj ap ak p a'
 |gR cells al b off cs elem bs dn cr p _ a'=>exact .gR cells al b off cs elem bs dn (h _ _ cr) p a'
 |mp es b h7 clock cr p=>exact .mp es b h7 clock (h _ _ cr) p
def tW(ae:cj)(c aD:Nat)(rows:cb)(off len:Nat)(v:Value):Prop:=
 off+len≤rows.length∧∃a cap,v=.slice a len cap∧
  ((ae c=o∧cap=0)∨
   ∃b n,ae c=j (b,n)∧len≤cap∧(off+cap)*aD≤n∧(a=j ⟨b,off*aD,o⟩∨(len=0∧cap=0)))
def Gn(ae:cj)(c n off len:Nat)(v:Value):Prop:=
 off+len≤n∧∃a cap,v=.slice a len cap∧((ae c=o∧cap=0)∨∃b m,ae c=j (b,m)∧len≤cap∧off+cap≤m∧(a=j ⟨b,off,o⟩∨(len=0∧cap=0)))
def U7(z b len n:Nat)(v:Value):Prop:=∃cap,v=.slice (j ⟨b,0,o⟩) len cap∧len≤cap∧cap*z≤n
def ww(ae:cj)(z c r:Nat)(b4:cb)(v:Value):Prop:=(b4=[]∧∃a cap,v=.slice a 0 cap)∨∃b n,ae ⟨c,r+1⟩=j (b,n)∧U7 z b b4.length n v
def lD(ae:cj)(H:ab):de→Value→Prop
 |.d c g off len,v=>c<H.length∧(∃a m,v=.slice a len m)∧∀z a6 s rows,H[c]?=j (.aE z a6 s rows)→g≤a6∧(g=a6→Gn ae c rows.length off len v)
 |.e c g r,v=>c<H.length∧(∃a,v=.pointer (j a))∧∀z a6 s rows,H[c]?=j (.aE z a6 s rows)→g≤a6∧(g=a6→∃b n,ae c=j (b,n)∧v=.pointer (j ⟨b,r,o⟩))
 |.h c g s r,v=>c<H.length∧(∃a l m,v=.slice a l m)∧∀z a6 dB rows,H[c]?=j (.aE z a6 dB rows)→(g<a6∨(g=a6∧s≤dB))∧(g=a6→s=dB→∀b4,rows[r]?=j (.own b4)→ww ae z c r b4 v)
 |.I c g s r i k,v=>c<H.length∧(∃a,v=.pointer (j a))∧∀z a6 dB rows,H[c]?=j (.aE z a6 dB rows)→(g<a6∨(g=a6∧s≤dB))∧(g=a6→s=dB→∀b4,rows[r]?=j (.own b4)→i<b4.length→∃b n,ae ⟨c,r+1⟩=j (b,n)∧v=.pointer (j ⟨b,i*z+k,o⟩))
def lD.lt{ae:cj}{H:ab}{k:de}{v:Value}(h:lD ae H k v):k.c<H.length:=by cases k<;>exact h.1
def lD.one{ae:cj}{H:ab}{k:de}{v:Value}(h:lD ae H k v):v.oneCell'=ah:=by
 cases k with
 |d=>obtain⟨_,⟨_,_,rfl⟩,_⟩:=h;rfl
 |e=>obtain⟨_,⟨_,rfl⟩,_⟩:=h;rfl
 |h=>obtain⟨_,⟨_,_,_,rfl⟩,_⟩:=h;rfl
 |I=>obtain⟨_,⟨_,rfl⟩,_⟩:=h;rfl
def Od(ae:cj)(H:ab)(aG:cj)(aq:ab)(c:Nat):Prop:=
 ∀z g s e3,aq[c]?=j (.aE z g s e3)→
  (∃dJ rows,H[c]?=j (.aE z g dJ rows)∧aG c=ae c∧e3.length=rows.length∧(dJ<s∨(dJ=s∧∀(r:Nat) q5,e3[r]?=j (.own q5)→∃b4,rows[r]?=j (.own b4)∧b4.length=q5.length∧aG ⟨c,r+1⟩=ae ⟨c,r+1⟩)))
  ∨∃z0 g0 dJ hS,H[c]?=j (.aE z0 g0 dJ hS)∧g0<g
def ww.step{ae aG:cj}{z c r:Nat}{b4 q5:cb}{v:Value}(ao:b4.length=q5.length)(he:aG ⟨c,r+1⟩=ae ⟨c,r+1⟩)(h:ww ae z c r b4 v):ww aG z c r q5 v:=by
 rcases h with⟨rfl,U⟩|⟨b,n,p,U⟩
 ·exact .inl ⟨pq.1 (by rw[←ao];rfl),U⟩
 ·exact .inr ⟨b,n,by rw[he];exact p,by rw[←ao];exact U⟩
def lD.U8{ae aG:cj}{H aq:ab}{k:de}{v:Value}(ao:k.c<aq.length)(h:Od ae H aG aq k.c)(r:lD ae H k v):lD aG aq k v:=by
 cases k with
 |d c g off len=>
  obtain⟨p,U,az⟩:=r;refine⟨ao,U,λ z a6 s rows aT=>?_⟩;rcases h z a6 s rows aT with⟨dJ,hS,ar,aM,bZ,_⟩|⟨z0,g0,dJ,hS,ar,aM⟩
  ·obtain⟨cy,cN⟩:=az _ _ _ _ ar;refine⟨cy,λ e=>?_⟩;have Oe:aG ⟨c,0⟩=ae ⟨c,0⟩:=aM;have:=cN e;unfold Gn at*;rw[bZ,Oe];exact this
  ·obtain⟨cy,_⟩:=az _ _ _ _ ar;exact⟨aa,λ e=>aa⟩
 |e c g r=>
  obtain⟨p,U,az⟩:=r;refine⟨ao,U,λ z a6 s rows aT=>?_⟩;rcases h z a6 s rows aT with⟨dJ,hS,ar,aM,bZ,_⟩|⟨z0,g0,dJ,hS,ar,aM⟩
  ·obtain⟨cy,cN⟩:=az _ _ _ _ ar;refine⟨cy,λ e=>?_⟩;have Oe:aG ⟨c,0⟩=ae ⟨c,0⟩:=aM;rw[Oe];exact cN e
  ·obtain⟨cy,_⟩:=az _ _ _ _ ar;exact⟨aa,λ e=>aa⟩
 |h c g s r=>
  obtain⟨p,U,az⟩:=r;refine⟨ao,U,λ z a6 dB rows aT=>?_⟩;rcases h z a6 dB rows aT with⟨dJ,hS,ar,aM,bZ,dx⟩|⟨z0,g0,dJ,hS,ar,aM⟩
  ·obtain⟨cy,cN⟩:=az _ _ _ _ ar;rcases dx with dx|⟨rfl,dx⟩
   ·exact⟨aa,λ e lY=>aa⟩
   ·refine⟨cy,λ e lY q5 ak=>?_⟩;obtain⟨b4,f1,f2,f3⟩:=dx _ _ ak;exact(cN e lY b4 f1).step f2 f3
  ·obtain⟨cy,_⟩:=az _ _ _ _ ar;exact⟨aa,λ e=>aa⟩
 |I c g s r i k=>
  obtain⟨p,U,az⟩:=r;refine⟨ao,U,λ z a6 dB rows aT=>?_⟩;rcases h z a6 dB rows aT with⟨dJ,hS,ar,aM,bZ,dx⟩|⟨z0,g0,dJ,hS,ar,aM⟩
  ·obtain⟨cy,cN⟩:=az _ _ _ _ ar;rcases dx with dx|⟨rfl,dx⟩
   ·exact⟨aa,λ e lY=>aa⟩
   ·refine⟨cy,λ e lY q5 ak aB=>?_⟩;obtain⟨b4,f1,f2,f3⟩:=dx _ _ ak;have alE:aG ⟨c,r+1⟩=ae ⟨c,r+1⟩:=f3;rw[alE];exact cN e lY b4 f1 aa
  ·obtain⟨cy,_⟩:=az _ _ _ _ ar;exact⟨aa,λ e=>aa⟩
def lD.step{ae aG:cj}{H aq:ab}{k:de}{v:Value}(ao:H.length≤aq.length)(h:Od ae H aG aq k.c)(r:lD ae H k v):lD aG aq k v:=r.U8 (wx r.lt ao) h
def r1(ad:cn)(H:ab)(k:de)(v:Value):Prop:=∀g c off len rows,k=.d c g off len→H[c]?=j (.fd g rows)→dH ad (.af 1 ((rows.drop off).take len) J) v
def r1.ne{ad:cn}{H:ab}{k:de}{v:Value}(h:∀c g al n,k≠.d c g al n):r1 ad H k v:=λ g c al n _ e=>absurd e (h c g al n)
def r1.aE{ad:cn}{H:ab}{k:de}{v:Value}{z g s:Nat}{rows:c0}(h:H[k.c]?=j (.aE z g s rows)):r1 ad H k v:=λ a6 c al n e3 e aT=>by subst e;have h:H[c]?=_:=h;rw[h]at aT;cases aT
def r1.d{ad:cn}{H:ab}{c g al n:Nat}{v:Value}{z a6 s:Nat}{rows:c0}(h:H[c]?=j (.aE z a6 s rows)):r1 ad H (.d c g al n) v:=r1.aE (k:=.d c g al n) h
def r1.to{ad aQ:cn}{H aq:ab}{k:de}{v:Value}(cr:ad.le aQ)(he:∀g rows,aq[k.c]?=j (.fd g rows)→H[k.c]?=j (.fd g rows))(h:r1 ad H k v):r1 aQ aq k v:=λ g c al n rows e aT=>by subst e;exact(h g c al n rows rfl (he g rows aT)).mono cr
inductive bf (ad:cn) (ae:cj) (H:ab):ay→Value→Prop
 |dead (v:Value):bf ad ae H .dead v
 |i (x:bx) (v:Value) (h:dH ad x v):bf ad ae H (.i x) v
 |agg (cells:List ay) (cs:Array Value) (ao:cs.size=cells.length)
  (h:∀(k:Nat) (a:ay),cells[k]?=j a→bf ad ae H a (cs.getD k undef)):bf ad ae H (.agg cells) (.agg cs)
 |ref (c g off len:Nat) (v:Value) (aj:c<H.length)
  (aU:∀aD rows ex,H[c]?=j (.af aD g rows ex)→tW ae c aD rows off len v)
  (aN:∀aD rows ex,H[c]?=j (.bs aD g rows ex)→off+len≤rows.length∧
   dH ad (.af aD ((rows.drop off).take len) (ex &&decide (off+len=rows.length))) v)
  (ax:∃a m,v=.slice a len m) (aR:∀aD a6 rows ex,H[c]?=j (.af aD a6 rows ex)→g≤a6):bf ad ae H (.ref c g off len) v
 |ptr (c g r k:Nat) (v:Value) (aj:c<H.length)
  (an:∀cells,H[c]?=j (.box cells)→∃b n,ae c=j (b,n)∧v=.pointer (j ⟨b,k,o⟩))
  (aU:∀aD rows ex,H[c]?=j (.af aD g rows ex)→∃b n,ae c=j (b,n)∧v=.pointer (j ⟨b,r*aD+k,o⟩))
  (aN:∀aD rows ex row,H[c]?=j (.bs aD g rows ex)→rows[r]?=j row→dH ad (.gR row k) v)
  (aB:∀s I,H[c]?=j (.iter s I)→∃b n,ae c=j (b,n)∧v=.pointer (j ⟨b,k,o⟩))
  (ax:∃a:Addr,v=.pointer (j a)) (aR:∀aD a6 rows ex,H[c]?=j (.af aD a6 rows ex)→g≤a6):bf ad ae H (.ptr c g r k) v
 |dV (c:Nat) (v:Value) (aj:c<H.length) (hm:∀es,H[c]?=j (.map es)→∃b n,ae c=j (b,n)∧v=.map (j b))
  (bA:∀t cells,H[c]?=j (.dm t cells)→∃b n,ae c=j (b,n)∧v=.pointer (j ⟨b,0,o⟩))
  (hu:∀t l,H[c]?=j (.kc t l)→∃b n,ae c=j (b,n)∧v=.slice (j ⟨b,0,o⟩) l.length n)
  (ax:v.oneCell'=ah) (bp:∀aD g rows ex,H[c]?≠j (.af aD g rows ex)):bf ad ae H (.dV c) v
 |x (k:de) (v:Value) (h:lD ae H k v) (aN:r1 ad H k v):bf ad ae H (.x k) v
 |aS (fn:Fn) (first fZ:List ay) (fb cs:Array Value) (ao:fb.size=first.length) (hm:cs.size=fZ.length)
  (p:∀(k:Nat) (a:ay),first[k]?=j a→bf ad ae H a (fb.getD k undef))
  (U:∀(k:Nat) (a:ay),fZ[k]?=j a→bf ad ae H a (cs.getD k undef)):bf ad ae H (.aS fn first fZ) (.func fn fb cs)
 |bl (vs:List ay) (xs:Array Value) (ao:xs.size=vs.length)
  (h:∀(k:Nat) (a:ay),vs[k]?=j a→bf ad ae H a (xs.getD k undef)):bf ad ae H (.bl vs) (.tuple xs)
def wy(bs:Nat×Nat)(n:Nat):Prop:=∀k,k<n→¬(bs.1≤k∧k<bs.2)
def og(ad:cn)(ae:cj)(H:ab):fa→pr→Prop
 |[],[]=>True
 |I::r,e::q=>dH ad I.1 e.key∧bf ad ae H I.2 e.val∧og ad ae H r q
 |_,_=>False
def og.mono{ad aQ:cn}{ae aG:cj}{H aq:ab}(h:ad.le aQ)(hm:∀a v,bf ad ae H a v→bf aQ aG aq a v):∀{es:fa} {q:pr},og ad ae H es q→og aQ aG aq es q
 |[],[],_=>trivial
 |_::_,_::_,g=>⟨g.1.mono h,hm _ _ g.2.1,g.2.2.mono h hm⟩
def og.to{ad:cn}{ae aG:cj}{H aq:ab}{g:ay→ay}(hm:∀a v,bf ad ae H a v→bf ad aG aq (g a) v):∀{es:fa} {q:pr},og ad ae H es q→og ad aG aq (es.map λ I=>(I.1,g I.2)) q
 |[],[],_=>trivial
 |_::_,_::_,h=>⟨h.1,hm _ _ h.2.1,h.2.2.to hm⟩
def og.ex{ad:cn}{ae:cj}{H:ab}{a:ay}:∀{es:fa} {q:pr},og ad ae H es q→a∈es.map (·.2)→∃v,bf ad ae H a v
 |[],[],_,aF=>by simp at aF
 |I::r,e::q,h,aF=>by
  simp only[fC,mx]at aF;rcases aF with rfl|aF
  ·exact⟨_,h.2.1⟩
  ·exact h.2.2.ex aF
def og.of{ad:cn}{ae aG:cj}{H aq:ab}:∀{es:fa} {q:pr},(∀a v,a∈es.map (·.2)→bf ad ae H a v→bf ad aG aq a v)→og ad ae H es q→og ad aG aq es q
 |[],[],_,_=>trivial
 |_::_,_::_,hm,h=>⟨h.1,hm _ _ aX h.2.1,h.2.2.of λ a v aF=>hm a v (by simp at aF⊢;exact .inr aF)⟩
def nc(ad:cn)(ae:cj)(H:ab)(es:fa)(q:pr):Prop:=
 ∃ix,es.Perm ix∧og ad ae H ix q∧es.Pairwise λ I r=>gT I.1 r.1=j J
def nc.nil{ad:cn}{ae:cj}{H:ab}:nc ad ae H [] []:=⟨[],.refl _,trivial,.nil⟩
def nc.mono{ad aQ:cn}{ae aG:cj}{H aq:ab}(h:ad.le aQ)(hm:∀a v,bf ad ae H a v→bf aQ aG aq a v){es:fa}{q:pr}(g:nc ad ae H es q):nc aQ aG aq es q:=by obtain⟨ix,p,U,az⟩:=g;exact⟨ix,p,U.mono h hm,az⟩
def nc.to{ad:cn}{ae aG:cj}{H aq:ab}{g:ay→ay}(hm:∀a v,bf ad ae H a v→bf ad aG aq (g a) v){es:fa}{q:pr}(h:nc ad ae H es q):nc ad aG aq (es.map λ I=>(I.1,g I.2)) q:=by obtain⟨ix,p,U,az⟩:=h;exact⟨_,p.map _,U.to hm,List.pairwise_map.2 az⟩
def nc.ex{ad:cn}{ae:cj}{H:ab}{a:ay}{es:fa}{q:pr}(h:nc ad ae H es q)(aF:a∈es.map (·.2)):∃v,bf ad ae H a v:=by obtain⟨ix,p,U,az⟩:=h;exact U.ex ((p.map _).mem_iff.1 aF)
def nc.of{ad:cn}{ae aG:cj}{H aq:ab}{es:fa}{q:pr}(hm:∀a v,a∈es.map (·.2)→bf ad ae H a v→bf ad aG aq a v)(h:nc ad ae H es q):nc ad aG aq es q:=by obtain⟨ix,p,U,az⟩:=h;exact⟨ix,p,U.of λ a v aF=>hm a v ((p.map _).mem_iff.2 aF),az⟩
def C9{k ac:bx}(h:gT k ac=j ah):k=ac:=by
 unfold gT at h;split at h
 ·split at h
  next aA=>subst aA;cases of_decide_eq_true (q6 h);rfl
  ·cases h
 ·cases of_decide_eq_true (q6 h);rfl
 ·cases h
def Gp(k ac:bx):gT k ac=gT ac k:=by
 cases k with
 |v x=>
  cases ac with
  |v y=>
   cases x<;>cases y<;>try rfl
   rename_i bK a bJ b;simp only[gT];by_cases h:bK=bJ
   ·subst h;simp[eq_comm]
   ·simp[h,bi h]
  |_=>cases x<;>rfl
 |str a=>
  cases ac with
  |str b=>simp[gT,eq_comm]
  |v y=>cases y<;>rfl
  |_=>rfl
 |_=>cases ac<;>first|rfl|(rename_i y;cases y<;>rfl)
def Of{k:bx}:∀{es:fa},ik k es=j o↔∀I∈es,gT k I.1=j J
 |[]=>by simp[ik]
 |I::r=>by
  obtain⟨ac,v⟩:=I;simp only[ik,mx,forall_eq_or_imp];cases h:gT k ac with
  |none=>simp
  |some b=>cases b<;>simp[Of]
def Og{k:bx}{es ix:fa}(h:es.Perm ix)(aP:es.Pairwise λ I r=>gT I.1 r.1=j J){r:dX}(aN:ik k es=j r):ik k ix=j r:=by
 induction h with
 |nil=>exact aN
 |cons I _ a'=>
  obtain⟨ac,v⟩:=I;simp only[ik]at aN⊢;cases h:gT k ac with
  |none=>rw[h]at aN;cases aN
  |some b=>
   rw[h]at aN;cases b with
   |true=>exact aN
   |false=>exact a' (wz.1 aP).2 aN
 |swap I l0 l=>
  obtain⟨ac,v⟩:=I;obtain⟨U9,gJ⟩:=l0;have alF:gT U9 ac=j J:=(wz.1 aP).1 (ac,v) aX;simp only[ik]at aN⊢;cases iy:gT k U9 with
  |none=>rw[iy]at aN;cases aN
  |some b0=>
   rw[iy]at aN;cases b0 with
   |true=>have:=C9 iy;subst this;rw[alF];exact aN
   |false=>exact aN
 |trans p U oO oP=>exact oP ((p.pairwise_iff (λ{x y} Gq=>by rw[Gp];exact Gq)).1 aP) (oO aP aN)
def Oh(k:bx)(v:ay):∀es,(lx k v es).Perm ((k,v)::es)
 |[]=>.refl _
 |I::r=>by
  simp only[lx];split
  ·exact .refl _
  ·exact((Oh k v r).cons I).trans (.swap _ _ _)
def JG(k:bx)(v:ay):∀es,kB k v es=es.map λ I=>if gT k I.1=j ah then(k,v)else I
 |[]=>rfl
 |I::r=>by simp only[kB,fC,JG k v r]
def Oi(k:bx)(v:ay)(I:bx×ay):(if gT k I.1=j ah then(k,v)else I).1=I.1:=by
 split
 next h=>exact C9 h
 ·rfl
def nd(ad:cn)(ae:cj)(w:World)(z c r:Nat):er→Value→Prop
 |.own b4,v=>(∀(i:Nat) (row:cZ),b4[i]?=j row→row.length=z)∧((b4=[]∧∃a cap,v=.slice a 0 cap)∨∃b cs elem bs,ae ⟨c,r+1⟩=j (b,cs.size)∧U7 z b b4.length cs.size v∧
  w.heap[b]?=j (.cells cs elem bs)∧wy bs cs.size∧0<z∧∀(i:Nat) (row:cZ) (k:Nat) (a:bx),b4[i]?=j row→row[k]?=j a→dH ad a (cs.getD (i*z+k) undef))
 |.ek y,v=>dH ad y v
 |.dead,v=>v.oneCell'=ah
def nd.mono{ad aQ:cn}{ae aG:cj}{w av:World}{z c r:Nat}{y:er}{v:Value}(h:nd ad ae w z c r y v)(he:aG ⟨c,r+1⟩=ae ⟨c,r+1⟩)(cr:ad.le aQ)
  (hw:∀b n,ae ⟨c,r+1⟩=j (b,n)→av.heap[b]?=w.heap[b]?):nd aQ aG av z c r y v:=by
 cases y with
 |own b4=>
  obtain⟨p,U⟩:=h;refine⟨p,?_⟩;rcases U with U|⟨b,cs,elem,bs,cy,cN,fy,jN,nf,yc⟩
  ·exact .inl U
  ·exact .inr ⟨b,cs,elem,bs,by rw[he];exact cy,cN,by rw[hw _ _ cy];exact fy,jN,nf,λ i row k a aB aF=>(yc i row k a aB aF).mono cr⟩
 |ek y=>exact dH.mono cr h
 |dead=>exact h
def nd.slice{ad:cn}{ae:cj}{w:World}{z c r:Nat}{b4:cb}{v:Value}(h:nd ad ae w z c r (.own b4) v):∃a m,v=.slice a b4.length m:=by
 rcases h.2 with⟨rfl,a,cap,rfl⟩|⟨b,cs,elem,bs,_,⟨cap,rfl,_⟩,_⟩
 ·exact⟨a,cap,rfl⟩
 ·exact⟨_,_,rfl⟩
def ps(ad:cn)(ae:cj)(H:ab)(w:World)(c:Nat):Chunk→Prop
 |.box cells=>∃b cs elem bs,ae c=j (b,cs.size)∧w.heap[b]?=j (.cells cs elem bs)∧wy bs cs.size∧cs.size=cells.length∧
  ∀(k:Nat) (a:ay),cells[k]?=j a→bf ad ae H a (cs.getD k undef)
 |.af aD _ rows ex=>(aD=0→ae c=o)∧(∀(i:Nat) (r:cZ),rows[i]?=j r→r.length=aD)∧
  ((ae c=o∧rows=[])∨∃b cs elem bs,ae c=j (b,cs.size)∧w.heap[b]?=j (.cells cs elem bs)∧wy bs cs.size∧
   rows.length*aD≤cs.size∧(ex=ah→cs.size=rows.length*aD)∧
   ∀(i:Nat) (r:cZ) (k:Nat) (a:bx),rows[i]?=j r→r[k]?=j a→dH ad a (cs.getD (i*aD+k) undef))
 |.bs ..=>ae c=o
 |.iter s pos=>∃b,ae c=j (b,0)∧w.heap[b]?=j (.stringIter ⟨⟨s⟩⟩ pos)
 |.map es=>∃b h7 clock,ae c=j (b,0)∧w.heap[b]?=j (.map h7 clock)∧nc ad ae H es h7.toList
 |.dm t cells=>∃b cs,ae c=j (b,cs.size)∧w.heap[b]?=j (.cells cs t (0,0))∧cs.size=cells.length∧
  ∀(k:Nat) (a:ay),cells[k]?=j a→bf ad ae H a (cs.getD k undef)
 |.kc t l=>∃b cs,ae c=j (b,cs.size)∧w.heap[b]?=j (.cells cs t (0,0))∧l.length≤cs.size∧cs.size≤maxLen∧
  ∀(k:Nat) (x:UInt8),l[k]?=j x→cs[k]?=j (.int .u8 x.toNat)
 |.gone=>ae c=o
 |.fd ..=>ae c=o
 |.aE z _ _ rows=>(ae c=o∧rows=[])∨∃b cs elem bs,ae c=j (b,cs.size)∧w.heap[b]?=j (.cells cs elem bs)∧wy bs cs.size∧rows.length≤cs.size∧
  ∀(r:Nat) (y:er),rows[r]?=j y→nd ad ae w z c r y (cs.getD r undef)
def u_(ad:cn)(g:Nat)(cells:cZ):Prop:=dH ad (.gR cells 0) (.pointer (j ⟨g,0,o⟩))∧∃cs e bs,ad g=j (.cells cs e bs)∧cs.size=cells.length
def u_.mono{ad aQ:cn}(h:ad.le aQ){g:Nat}{cells:cZ}(k:u_ ad g cells):u_ aQ g cells:=by obtain⟨bK,cs,e,bs,bJ,cL⟩:=k;exact⟨bK.mono h,cs,e,bs,h _ _ bJ,cL⟩
structure cf (E:Env) (ad:cn) (ae:cj) (H:ab) (w:World):Prop where
 ei:∀b al,ad b=j al→w.heap[b]?=j al
 ch:∀c x,H[c]?=j x→ps ad ae H w c x
 inj:∀(c cv:fK) b n dT,ae c=j (b,n)→ae cv=j (b,dT)→c=cv
 sep:∀(c:fK) b n,ae c=j (b,n)→ad b=o∧b<w.heap.size∧c.c<H.length
 fv:∀g cells,E.fv g=j cells→u_ ad g cells
def cf.alG{E:Env}{ad:cn}{ae:cj}{H:ab}{w:World}(au:cf E ad ae H w){c cv b n dT:Nat}(p:ae c=j (b,n))(U:ae cv=j (b,dT)):c=cv:=congrArg fK.c (au.inj _ _ _ _ _ p U)
def cf.C_{E:Env}{ad:cn}{ae:cj}{H:ab}{w:World}(au:cf E ad ae H w){c b n:Nat}(p:ae c=j (b,n)):c<H.length:=(au.sep _ _ _ p).2.2
structure Trans (ad:cn) (ae:cj) (w:World) (aQ:cn) (aG:cj) (av:World):Prop where
 os:av.os=w.os
 tape:av.tape=w.tape
 output:av.output=w.output
 size:w.heap.size≤av.heap.size
 frame:∀b,b<w.heap.size→(∀(c:fK) n,ae c≠j (b,n))→av.heap[b]?=w.heap[b]?
 ei:ad.le aQ
 r2:∀b,aQ b≠o→ad b≠o∨w.heap.size≤b∨∃(c:fK) (n:Nat),ae c=j (b,n)
 own:∀(c:fK) b n,aG c=j (b,n)→w.heap.size≤b∨∃(cv:fK) (dT:Nat),ae cv=j (b,dT)
def Trans.refl(ad:cn)(ae:cj)(w:World):Trans ad ae w ad ae w:=
 ⟨rfl,rfl,rfl,cS _,λ _ _ _=>rfl,λ _ _ h=>h,λ _ h=>.inl h,λ _ _ _ h=>.inr ⟨_,_,h⟩⟩
def Trans.trans{ad ae w aQ aG av s4 s5 r3}(h:Trans ad ae w aQ aG av)(k:Trans aQ aG av s4 s5 r3):Trans ad ae w s4 s5 r3 where
 os:=k.os.trans h.os
 tape:=k.tape.trans h.tape
 output:=k.output.trans h.output
 size:=s6 h.size k.size
 frame b an aI:=by
  rw[k.frame b (wx an h.size) ?_,h.frame b an aI];intro c n aj;rcases h.own c b n aj with p|⟨cv,dT,p⟩
  ·omega
  ·exact aI _ _ p
 ei b al an:=k.ei _ _ (h.ei _ _ an)
 r2 b an:=by
  rcases k.r2 b an with p|p|⟨c,n,p⟩
  ·exact h.r2 b p
  ·exact .inr (.inl (s6 h.size p))
  ·rcases h.own c b n p with U|U
   ·exact .inr (.inl U)
   ·exact .inr (.inr U)
 own c b n aj:=by
  rcases k.own c b n aj with p|⟨cv,dT,p⟩
  ·exact .inl (s6 h.size p)
  ·exact h.own _ _ _ p
def fz(ad:cn)(ae:cj)(H:ab)(aQ:cn)(aG:cj)(aq:ab):Prop:=∀a v,bf ad ae H a v→bf aQ aG aq a v
def fz.refl(ad ae H):fz ad ae H ad ae H:=λ _ _ h=>h
def fz.trans{ad ae H aQ aG aq s4 s5 oh}(h:fz ad ae H aQ aG aq)(k:fz aQ aG aq s4 s5 oh):fz ad ae H s4 s5 oh:=
 λ a v r=>k a v (h a v r)
def jw(ad:cn)(ae:cj)(H:ab)(aQ:cn)(aG:cj)(aq:ab)(c:Nat):Prop:=
 ∀y,aq[c]?=j y→match y with
  |.box U_=>(∃cells,H[c]?=j (.box cells)∧aG c=ae c)∨(∃rows ex,H[c]?=j (.af 0 0 rows ex)∧ae c=o)
  |.iter _ _=>∃s I,H[c]?=j (.iter s I)∧aG c=ae c
  |.map _=>∃es,H[c]?=j (.map es)∧aG c=ae c
  |.dm _ _=>∃t cells,H[c]?=j (.dm t cells)∧aG c=ae c
  |.kc _ fP=>∃t l,H[c]?=j (.kc t l)∧aG c=ae c∧fP.length=l.length
  |.gone=>True
  |.fd g rows=>(H[c]?=j (.fd g rows))∨(∀off len v,bf ad ae H (.x (.d c g off len)) v→dH aQ (.af 1 ((rows.drop off).take len) J) v)
  |.aE _ _ _ _=>Od ae H aG aq c
  |.af aD g e3 gK=>(∃rows ex,H[c]?=j (.af aD g rows ex)∧aG c=ae c∧e3.length=rows.length)∨(∃r4 g0 hS jh,H[c]?=j (.af r4 g0 hS jh)∧g0<g)
  |.bs aD g rows ex=>(H[c]?=j (.bs aD g rows ex))∨(∀a v,(∃off len,a=.ref c g off len)∨(∃r k,a=.ptr c g r k)→bf ad ae H a v→bf aQ aG aq a v)
def tW.step{ae aG:cj}{c aD:Nat}{rows e3:cb}{off len:Nat}{v:Value}(he:aG c=ae c)(ao:e3.length=rows.length)
  (h:tW ae c aD rows off len v):tW aG c aD e3 off len v:=by
 unfold tW at*;rw[he,ao];exact h
def ng{ad ae H aQ aG aq}(cr:ad.le aQ)(hlen:H.length≤aq.length)(aj:∀c,c<H.length→jw ad ae H aQ aG aq c):fz ad ae H aQ aG aq:=by
 intro a v r;induction r with
 |dead v=>exact .dead v
 |i x v h=>exact .i x v (h.mono cr)
 |agg cells cs ao _ a'=>exact .agg cells cs ao a'
 |aS fn first fZ fb cs ao hm _ _ oO oP=>exact .aS fn first fZ fb cs ao hm oO oP
 |bl vs xs ao _ a'=>exact .bl vs xs ao a'
 |x k v h aN=>
  refine .x k v (h.step hlen ?_) ?_
  ·intro z g s e3 aT;have:=aj k.c h.lt _ aT;exact this z g s e3 aT
  ·intro g c off len rows e aT;subst e;rcases aj c h.lt _ aT with p|p
   ·exact(aN g c off len rows rfl p).mono cr
   ·exact p off len v (.x _ _ h aN)
 |dV c v cD hm bA hu ax bp=>
  refine .dV c v aa (λ es h=>?_) (λ t cells h=>?_) (λ t l h=>?_) ax (λ aD g rows ex h=>?_)
  ·obtain⟨Au,p,U⟩:=aj c cD _ h;rw[U];exact hm _ p
  ·obtain⟨t0,q7,p,U⟩:=aj c cD _ h;rw[U];exact bA _ _ p
  ·obtain⟨t0,pt,p,U,az⟩:=aj c cD _ h;rw[U,az];exact hu _ _ p
  ·rcases aj c cD _ h with⟨_,_,p,_⟩|⟨_,_,_,_,p,_⟩
   ·exact bp _ _ _ _ p
   ·exact bp _ _ _ _ p
 |ref c g off len v cD aU aN ax aR=>
  have fp:=aj c cD;by_cases hex:∃y,aq[c]?=j y
  ·obtain⟨y,bb⟩:=hex;have hI:=fp y bb;cases y with
   |box cells=>exact .ref c g off len v aa (λ aD rows ex h=>by rw[bb]at h;cases h) (λ aD rows ex h=>by rw[bb]at h;cases h) ax (λ _ _ _ _ h=>by rw[bb]at h;cases h)
   |iter s I=>exact .ref c g off len v aa (λ aD rows ex h=>by rw[bb]at h;cases h) (λ aD rows ex h=>by rw[bb]at h;cases h) ax (λ _ _ _ _ h=>by rw[bb]at h;cases h)
   |map|dm|kc|gone|aE|fd=>exact .ref c g off len v aa (λ aD rows ex h=>by rw[bb]at h;cases h) (λ aD rows ex h=>by rw[bb]at h;cases h) ax (λ _ _ _ _ h=>by rw[bb]at h;cases h)
   |af aD a6 e3 gK=>
    rcases hI with⟨rows,ex,p,U,az⟩|⟨r4,g0,hS,jh,p,U⟩
    ·refine .ref c g off len v aa (λ iU dv io h=>?_) (λ iU dv io h=>by rw[bb]at h;cases h) ax (λ _ _ _ _ h=>by rw[bb]at h;cases h;exact aR _ _ _ _ p);rw[bb]at h;cases h;exact(aU _ _ _ p).step U az
    ·have hle:=aR _ _ _ _ p;exact .ref c g off len v aa (λ iU dv io h=>by rw[bb]at h;cases h;omega) (λ iU dv io h=>by rw[bb]at h;cases h) ax (λ _ _ _ _ h=>by rw[bb]at h;cases h;omega)
   |bs aD a6 e3 gK=>
    rcases hI with p|p
    ·refine .ref c g off len v aa (λ iU dv io h=>by rw[bb]at h;cases h) (λ iU dv io h=>?_) ax (λ _ _ _ _ h=>by rw[bb]at h;cases h);rw[bb]at h;cases h;exact⟨(aN _ _ _ p).1,(aN _ _ _ p).2.mono cr⟩
    ·by_cases C':a6=g
     ·subst C';exact p _ _ (.inl ⟨off,len,rfl⟩) (.ref c a6 off len v cD aU aN ax aR)
     ·exact .ref c g off len v aa (λ iU dv io h=>by rw[bb]at h;cases h) (λ iU dv io h=>by rw[bb]at h;cases h;exact absurd rfl C') ax (λ _ _ _ _ h=>by rw[bb]at h;cases h)
  ·have aI:aq[c]?=o:=by cases h:aq[c]? with|none=>rfl|some y=>exact absurd ⟨y,h⟩ hex
   exact .ref c g off len v aa (λ aD rows ex h=>by rw[aI]at h;cases h) (λ aD rows ex h=>by rw[aI]at h;cases h) ax (λ _ _ _ _ h=>by rw[aI]at h;cases h)
 |ptr c g r k v cD an aU aN aB ax aR=>
  have fp:=aj c cD;by_cases hex:∃y,aq[c]?=j y
  ·obtain⟨y,bb⟩:=hex;have hI:=fp y bb;cases y with
   |box U_=>
    rcases hI with⟨cells,p,U⟩|⟨rows,ex,p,U⟩
    ·refine .ptr c g r k v aa (λ x h=>?_) (λ _ _ _ h=>by rw[bb]at h;cases h) (λ _ _ _ _ h=>by rw[bb]at h;cases h) (λ _ _ h=>by rw[bb]at h;cases h) ax (λ _ _ _ _ h=>by rw[bb]at h;cases h);rw[U];exact an _ p
    ·exfalso;have az:=aR _ _ _ _ p;obtain rfl:g=0:=aa;obtain⟨b,n,bh,_⟩:=aU _ _ _ p;rw[U]at bh;cases bh
   |iter s I=>obtain⟨dJ,k7,p,U⟩:=hI;refine .ptr c g r k v aa (λ _ h=>by rw[bb]at h;cases h) (λ _ _ _ h=>by rw[bb]at h;cases h) (λ _ _ _ _ h=>by rw[bb]at h;cases h) (λ _ _ h=>?_) ax (λ _ _ _ _ h=>by rw[bb]at h;cases h);rw[U];exact aB _ _ p
   |map|dm|kc|gone|aE|fd=>exact .ptr c g r k v aa (λ _ h=>by rw[bb]at h;cases h) (λ _ _ _ h=>by rw[bb]at h;cases h) (λ _ _ _ _ h=>by rw[bb]at h;cases h) (λ _ _ h=>by rw[bb]at h;cases h) ax (λ _ _ _ _ h=>by rw[bb]at h;cases h)
   |af aD a6 e3 gK=>
    rcases hI with⟨rows,ex,p,U,az⟩|⟨r4,g0,hS,jh,p,U⟩
    ·refine .ptr c g r k v aa (λ _ h=>by rw[bb]at h;cases h) (λ iU dv io h=>?_) (λ _ _ _ _ h=>by rw[bb]at h;cases h) (λ _ _ h=>by rw[bb]at h;cases h) ax (λ _ _ _ _ h=>by rw[bb]at h;cases h;exact aR _ _ _ _ p);rw[bb]at h;cases h;rw[U];exact aU _ _ _ p
    ·have hle:=aR _ _ _ _ p;exact .ptr c g r k v aa (λ _ h=>by rw[bb]at h;cases h) (λ iU dv io h=>by rw[bb]at h;cases h;omega) (λ _ _ _ _ h=>by rw[bb]at h;cases h) (λ _ _ h=>by rw[bb]at h;cases h) ax (λ _ _ _ _ h=>by rw[bb]at h;cases h;omega)
   |bs aD a6 e3 gK=>
    rcases hI with p|p
    ·refine .ptr c g r k v aa (λ _ h=>by rw[bb]at h;cases h) (λ _ _ _ h=>by rw[bb]at h;cases h) (λ iU dv io row h iy=>?_) (λ _ _ h=>by rw[bb]at h;cases h) ax (λ _ _ _ _ h=>by rw[bb]at h;cases h);rw[bb]at h;cases h;exact(aN _ _ _ _ p iy).mono cr
    ·by_cases C':a6=g
     ·subst C';exact p _ _ (.inr ⟨r,k,rfl⟩) (.ptr c a6 r k v cD an aU aN aB ax aR)
     ·exact .ptr c g r k v aa (λ _ h=>by rw[bb]at h;cases h) (λ _ _ _ h=>by rw[bb]at h;cases h) (λ iU dv io row h=>by rw[bb]at h;cases h;exact absurd rfl C') (λ _ _ h=>by rw[bb]at h;cases h) ax (λ _ _ _ _ h=>by rw[bb]at h;cases h)
  ·have aI:aq[c]?=o:=by cases h:aq[c]? with|none=>rfl|some y=>exact absurd ⟨y,h⟩ hex
   exact .ptr c g r k v aa (λ _ h=>by rw[aI]at h;cases h) (λ _ _ _ h=>by rw[aI]at h;cases h) (λ _ _ _ _ h=>by rw[aI]at h;cases h) (λ _ _ h=>by rw[aI]at h;cases h) ax (λ _ _ _ _ h=>by rw[aI]at h;cases h)
def jw.same{ad:cn}{ae:cj}{H:ab}{aQ:cn}{aG:cj}{aq:ab}{c:Nat}(p:aq[c]?=H[c]?)(az:∀r,aG ⟨c,r⟩=ae ⟨c,r⟩):jw ad ae H aQ aG aq c:=by
 have U:=az 0;intro y bb;rw[p]at bb;cases y with
 |box cells=>exact .inl ⟨cells,bb,U⟩
 |iter s I=>exact⟨s,I,bb,U⟩
 |map es=>exact⟨es,bb,U⟩
 |dm t cells=>exact⟨t,cells,bb,U⟩
 |kc t l=>exact⟨t,l,bb,U,rfl⟩
 |gone=>trivial
 |fd g rows=>exact .inl bb
 |aE z g s rows=>intro ds a6 dB e3 aT;rw[p]at aT;exact .inl ⟨dB,e3,aT,U,rfl,.inr ⟨rfl,λ r b4 ak=>⟨b4,ak,rfl,az _⟩⟩⟩
 |af aD g rows ex=>exact .inl ⟨rows,ex,bb,U,rfl⟩
 |bs aD g rows ex=>exact .inl bb
def fq(ad:cn)(ae:cj)(H:ab)(R:Fr)(tmps:Array Value):Prop:=∀k,bf ad ae H (get k R) (tmps.getD k undef)
def fq.mono{ad ae H aQ aG aq R tmps}(h:fq ad ae H R tmps)(m:fz ad ae H aQ aG aq):fq aQ aG aq R tmps:=λ k=>m _ _ (h k)
def fq.put{ad ae H R}{a:Act}(h:fq ad ae H R a.tmps){v:ay}{x:Value}(r:bf ad ae H v x)(d:cu)(aP:∀k,d=j k→k<a.tmps.size):
  fq ad ae H (ee d v R) (a.put d x).tmps:=by
 cases d with
 |none=>exact h
 |some d=>
  intro k;have bg:=aP d rfl;by_cases aA:k=d
  ·subst aA;simp only[ee,get,Act.put,if_true];simpa[bg]using r
  ·simp only[ee,get,Act.put,aA,if_false];have:=h k;simpa[bi aA]using this
def fq.JH{ad ae H R tmps}(h:fq ad ae H R tmps)(l:cq):fq ad ae H (norm l R) tmps:=by
 intro k;have key:∀l:cq,get k (norm l R)=get k R∨get k (norm l R)=.dead:=by
  intro l;induction l with
  |nil=>exact .inr rfl
  |cons x l a'=>
   simp only[VI.norm,fC,get];by_cases ap:k=x
   ·subst ap;simp
   ·simp only[ap,if_false];exact a'
 rcases key l with e|e<;>rw[e]
 ·exact h k
 ·exact .dead _
def Oj(ad ae H):bf ad ae H (.bl []) undef:=.bl [] #[] rfl (λ k a h=>by simp at h)
section
variable{E:Env}{ad:cn}{ae:cj}{H:ab}{w:World}
def ji{x:bx}{y:Value}(h:bf ad ae H (.i x) y):dH ad x y:=by cases h;assumption
def ga{x y:Value}(h:bf ad ae H (.i (.v x)) y):y=x:=by cases ji h;rfl
def q8{l:bm}{y:Value}(h:bf ad ae H (.i (.str l)) y):y=.string ⟨⟨l⟩⟩:=by cases ji h;rfl
def nh{k:IntKind}{n:Int}:bf ad ae H (.int k n) (.int k n):=.i _ _ (.v _ rfl)
def yd{b:Bool}:bf ad ae H (.bool b) (.bool b):=.i _ _ (.v _ rfl)
def Da{l:bm}:bf ad ae H (.str l) (.string ⟨⟨l⟩⟩):=.i _ _ (.str _)
def wA{cells:aZ}{y:Value}(h:bf ad ae H (.agg cells) y):
  ∃cs:Array Value,y=.agg cs∧cs.size=cells.length∧∀(k:Nat) (a:ay),cells[k]?=j a→bf ad ae H a (cs.getD k undef):=by
 cases h;rename_i cs ao h;exact⟨cs,rfl,ao,h⟩
def U'{cells:aZ}{y:Value}(h:bf ad ae H (.bl cells) y):
  ∃cs:Array Value,y=.tuple cs∧cs.size=cells.length∧∀(k:Nat) (a:ay),cells[k]?=j a→bf ad ae H a (cs.getD k undef):=by
 cases h;rename_i cs ao h;exact⟨cs,rfl,ao,h⟩
def JI{a:ay}{y:Value}(h:bf ad ae H a y)(ci:one a=ah):y.oneCell'=ah:=by
 cases h with
 |dead=>simp[one]at ci
 |i x v h=>cases h with
  |v _ h=>exact h
  |_=>rfl
 |agg=>simp[one]at ci
 |ref c g off len v aj aU aN ax aR=>obtain⟨a,m,rfl⟩:=ax;rfl
 |ptr c g r k v aj an aU aN aB ax aR=>obtain⟨a,rfl⟩:=ax;rfl
 |dV c v aj hm bA hu ax bp=>exact ax
 |x k v h aN=>exact h.one
 |aS=>rfl
 |bl=>simp[one]at ci
def Va(v:Value):bf ad ae H (cellOf v) v:=by
 unfold cellOf;split
 next b=>obtain⟨⟨l⟩⟩:=b;exact .i _ _ (.str l)
 ·exact .i _ _ (.nil 0 ah o 0 (λ _=>rfl))
 ·exact .dead _
 ·exact .dead _
 next p U=>refine .i _ _ (.v _ ?_);cases v<;>first|rfl|exact absurd rfl (p _)|exact absurd rfl (U _)
def getD_eq(cs:Array Value)(k:Nat)(h:k<cs.size):cs[k]?=j (cs.getD k undef):=by simp[h]
def tX(v:Value):bf ad ae H (kz v) v:=by
 unfold kz;split
 next cs=>
  refine .agg _ _ aX λ k a h=>?_
  simp only[fQ,nM,dp]at h;obtain⟨x,ap,rfl⟩:=h;have:cs.getD k undef=x:=by simp[dM,ap]
  rw[this];exact Va x
 ·exact Va _
def e7{R:Fr}{a:Act}(au:cf E ad ae H w)(aN:fq ad ae H R a.tmps)(x:Operand):bf ad ae H (bw E R x) (a.eval x):=by
 cases x with
 |tmp t=>exact aN t
 |const v=>exact tX v
 |func f=>exact .aS _ _ _ #[] #[] rfl rfl (λ k a h=>by simp at h) (λ k a h=>by simp at h)
 |global g=>
  simp only[bw,Act.eval];cases h:E.fv g with
  |none=>exact .dead _
  |some cells=>exact .i _ _ (au.fv _ _ h).1
def hr{P:Program}{t n}(h:gp P t=j n)(w:World):(sizeOf t).run P w=.ok n w∧∃i,P.info? t=j i∧i.size=n:=by simp only[gp,dp]at h;obtain⟨i,aB,rfl⟩:=h;exact⟨by rw[run_sizeOf (i:=i) w aB];simp[Program.cellsOf,aB],i,aB,rfl⟩
def ye{P:Program}{t b}(h:k1 P t=j b)(w:World):(isAgg t).run P w=.ok b w:=by simp only[k1,dp]at h;obtain⟨d,aP,rfl⟩:=h;simp only[isAgg,ep,run_underlying aP,eM];cases d<;>rfl
def iV{P:Program}{t e}(h:fw P t=j e):P.underlying t=j (.slice e):=by unfold fw at h;split at h<;>simp_all
def JJ{P:Program}{t n e}(h:wg P t=j (n,e)):P.underlying t=j (.array n e):=by unfold wg at h;split at h<;>simp_all
def s7{P:Program}{t}(h:ij P t=ah):P.underlying t=j .string:=by unfold ij at h;split at h<;>simp_all
def Db{P:Program}{t k}(h:oI P t=j k):P.underlying t=j (.int k):=by unfold oI at h;split at h<;>simp_all
def Vb{P:Program}{t f off eG}(h:CT P t f=j (off,eG)):∃fb x,P.underlying t=j (.struct fb)∧fb[f]?=j x∧x.offset=off∧x.type=eG:=by
 unfold CT at h;split at h
 next fb hu=>simp only[dp,bM]at h;obtain⟨x,ap,p,U⟩:=h;exact⟨fb,x,hu,ap,p,U⟩
 ·cases h
def l1(b al n:Nat):(⟨b,al,o⟩:Addr).add n=⟨b,al+n,o⟩:=by unfold Addr.add;split<;>simp_all
def cell_of{b:Nat}{cs:Array Value}{e:TypeId}{bs:Nat×Nat}(h:w.heap[b]?=j (.cells cs e bs))(al:Nat):w.cell? ⟨b,al,o⟩=cs[al]?:=by simp[q9,h]
def nd.Vc{z c r:Nat}{b4:cb}{v:Value}(h:nd ad ae w z c r (.own b4) v):ww ae z c r b4 v:=by
 rcases h.2 with p|⟨b,cs,elem,bs,p,U,_⟩
 ·exact .inl p
 ·exact .inr ⟨b,cs.size,p,U⟩
def alH(au:cf E ad ae H w){q:de}{y:Value}(h:lD ae H q y){cells:aZ}{k:Nat}(an:wh H q=j (cells,k)):
  ∃b base,y=.pointer (j ⟨b,base+k,o⟩)∧∀(ac:Nat) (c:ay),cells[ac]?=j c→∃dn,w.cell? ⟨b,base+ac,o⟩=j dn∧bf ad ae H c dn:=by
 cases q with
 |d=>cases an
 |h=>cases an
 |e c g r=>
  obtain⟨aj,⟨a,aF⟩,ap⟩:=h;simp only[wh]at an;unfold F7 at an;split at an
  next z a6 s rows aT=>
   split at an
   next aR=>
    subst aR;obtain⟨b,n,ct,rfl⟩:=(ap _ _ _ _ aT).2 rfl;have pu:=au.ch _ _ aT;rcases pu with⟨aI,_⟩|⟨b0,cs,elem,bs,hJ,hw,hs,hle,eN⟩
    ·rw[ct]at aI;cases aI
    ·rw[ct]at hJ;cases hJ;split at an
     next b4 ak=>
      cases an;have bg:r<cs.size:=by have:=(bQ.1 ak).1;omega
      refine⟨b,r,aX,λ ac x bc=>?_⟩;cases ac with
      |succ ac=>simp at bc
      |zero=>
       simp at bc;subst bc;refine⟨cs.getD r undef,by rw[cell_of hw,fr];exact getD_eq _ _ bg,.x _ _ ⟨aj,?_,λ ds aUX dB e3 l2=>?_⟩ (.ne nofun)⟩
       ·obtain⟨a,m,e⟩:=(eN _ _ ak).slice;exact⟨a,_,m,e⟩
       ·rw[aT]at l2;cases l2;refine⟨.inr ⟨rfl,cS _⟩,λ _ _ q5 yf=>?_⟩;rw[ak]at yf;cases yf;exact(eN _ _ ak).Vc
     next x ak=>
      cases an;have bg:r<cs.size:=by have:=(bQ.1 ak).1;omega
      refine⟨b,r,aX,λ ac y bc=>?_⟩;cases ac with
      |succ ac=>simp at bc
      |zero=>simp at bc;subst bc;exact⟨cs.getD r undef,by rw[cell_of hw,fr];exact getD_eq _ _ bg,.i _ _ (eN _ _ ak)⟩
     ·cases an
   ·cases an
  ·cases an
 |I c g s r i dr=>
  obtain⟨aj,⟨a,aF⟩,ap⟩:=h;simp only[wh]at an;unfold F8 at an;split at an
  next z a6 dB rows aT=>
   split at an
   next aR=>
    obtain⟨rfl,rfl⟩:=aR;split at an
    next b4 ak=>
     split at an
     next row b2=>
      cases an;have aB:=(bQ.1 b2).1;obtain⟨b,n,ct,rfl⟩:=(ap _ _ _ _ aT).2 rfl rfl _ ak aB;rcases au.ch _ _ aT with⟨aI,a8⟩|⟨b0,cs,elem,bs,hJ,hw,hs,hle,eN⟩
      ·subst a8;simp at ak
      ·obtain⟨p,U⟩:=eN _ _ ak;rcases U with⟨rfl,_⟩|⟨dZ,yg,aM,aUY,cy,cN,fy,jN,nf,yc⟩
       ·simp at aB
       ·rw[ct]at cy;cases cy;refine⟨b,i*z,rfl,λ ac x bc=>?_⟩;simp only[lu,fQ,dp]at bc;obtain⟨a,aF,rfl⟩:=bc;have bg:i*z+ac<yg.size:=by obtain⟨cap,_,dt,fh⟩:=cN;have l3:=(bQ.1 aF).1;rw[p _ _ b2]at l3;have:(i+1)*z≤cap*z:=kF _ aa;rw[hT]at this;omega
        exact⟨yg.getD (i*z+ac) undef,by rw[cell_of fy];exact getD_eq _ _ bg,.i _ _ (yc _ _ _ _ b2 aF)⟩
     ·cases an
    ·cases an
   ·cases an
  ·cases an
def JK(au:cf E ad ae H w){I:ay}{y:Value}(h:bf ad ae H I y){cells:aZ}{k:Nat}(an:behind H I=j (cells,k)):
  ∃b base,y=.pointer (j ⟨b,base+k,o⟩)∧∀(ac:Nat) (c:ay),cells[ac]?=j c→∃dn,w.cell? ⟨b,base+ac,o⟩=j dn∧bf ad ae H c dn:=by
 have Dc:∀(aO:cZ) (al:Nat),dH ad (.gR aO al) y→∃b base,y=.pointer (j ⟨b,base+al,o⟩)∧∀(ac:Nat) (c:ay),(lu aO)[ac]?=j c→∃dn,w.cell? ⟨b,base+ac,o⟩=j dn∧bf ad ae H c dn:=by
  intro aO al ak;cases ak with
  |gR cells al b off cs elem bs dn cr p U=>refine⟨b,off,rfl,λ ac c bc=>?_⟩;simp only[lu,fQ,dp]at bc;obtain⟨a,aF,rfl⟩:=bc;exact⟨dn ac,by rw[cell_of (au.ei _ _ cr)];exact p _ _ aF,.i _ _ (U _ _ aF)⟩
 unfold behind at an;split at an
 ·cases an;exact Dc _ _ (ji h)
 next c g r dr=>
  cases h with
  |ptr c g r k v aj alI JL Ok hit ax=>
   split at an
   next U_ aT=>
    cases an;obtain⟨b,n,ct,rfl⟩:=alI _ aT;obtain⟨b0,cs,elem,bs,hJ,hw,_,eQ,eN⟩:=au.ch _ _ aT;rw[ct]at hJ;cases hJ;refine⟨b,0,aX,λ ac c bc=>?_⟩;have bg:ac<cs.size:=by rw[eQ];exact(bQ.1 bc).1
    exact⟨cs.getD ac undef,by rw[cell_of hw,cJ];exact getD_eq cs ac bg,eN _ _ bc⟩
   next aD a6 rows ex aT=>
    split at an
    next aR=>
     subst aR;split at an
     next row b2=>
      cases an;obtain⟨b,n,ct,rfl⟩:=JL _ _ _ aT;obtain⟨bp,hlen,fR⟩:=au.ch _ _ aT;rcases fR with⟨aI,_⟩|⟨b0,cs,elem,bs,hJ,hw,_,eQ,_,eN⟩
      ·rw[ct]at aI;cases aI
      ·rw[ct]at hJ;cases hJ;refine⟨b,r*aD,rfl,λ ac c bc=>?_⟩;simp only[lu,fQ,dp]at bc;obtain⟨a,aF,rfl⟩:=bc;have fM:=hlen _ _ b2;have l3:=(bQ.1 aF).1;have yf:=(bQ.1 b2).1;have bg:r*aD+ac<cs.size:=by have:(r+1)*aD≤rows.length*aD:=kF _ yf;rw[hT]at this;omega
       exact⟨cs.getD (r*aD+ac) undef,by rw[cell_of hw];exact getD_eq _ _ bg,.i _ _ (eN _ _ _ _ b2 aF)⟩
     ·cases an
    ·cases an
   next aD a6 rows ex aT=>
    split at an
    next aR=>
     subst aR;split at an
     next row b2=>cases an;exact Dc _ _ (Ok _ _ _ _ aT b2)
     ·cases an
    ·cases an
   ·cases an
 ·cases h with
  |x k v h aN=>exact alH au h an
 ·cases an
def Vd{l m:aZ}{k n:Nat}(h:take l k n=j m):m.length=n∧∀ac,ac<n→∃a,m[ac]?=j a∧l[k+ac]?=j a:=by
 unfold take at h;split at h
 next hle=>cases h;refine⟨by simp;omega,λ ac bc=>?_⟩;have bg:k+ac<l.length:=aa;exact⟨l[k+ac],by simp[oQ,bc,s8,bg],by simp[bg]⟩
 ·cases h
def Ve(au:cf E ad ae H w){I:ay}{y:Value}(h:bf ad ae H I y){t:TypeId}{v:ay}(ao:u1 E H t I=j v):
  ∃x,(Instr.loadAt t y).run E.P w=.ok x w∧bf ad ae H v x:=by
 unfold u1 at ao;split at ao
 next cells k n an aF aU=>
  obtain⟨b,base,rfl,eN⟩:=JK au h an;simp only[dp]at ao;obtain⟨m,hm,rfl⟩:=ao;obtain⟨Dd,Vf⟩:=Vd hm;have my:(loadCells ⟨b,base+k,o⟩ n).run E.P w=.ok ((hB n).map λ ac=>(w.cell? ⟨b,base+k+ac,o⟩).getD undef).toArray w:=by
   refine run_loadCells w _ n _ λ ac bc=>?_
   obtain⟨a,_,U⟩:=Vf ac bc;obtain⟨dn,az,_⟩:=eN _ _ U;rw[l1,show base+k+ac=base+(k+ac)by omega,az];rfl
  refine⟨.agg ((hB n).map λ ac=>(w.cell? ⟨b,base+k+ac,o⟩).getD undef).toArray,?_,?_⟩
  ·simp only[Instr.loadAt,Av,loadVar,ep,e8,eM,ye aF,if_true,(hr aU w).1,my,Sem.run_ite]
  ·refine .agg _ _ (by simp[Dd]) λ ac a bc=>?_
   have De:ac<n:=by rw[←Dd];exact(bQ.1 bc).1
   obtain⟨b_,p,U⟩:=Vf ac De;rw[bc]at p;cases p;obtain⟨dn,az,bh⟩:=eN _ _ U;have:((hB n).map λ ac=>(w.cell? ⟨b,base+k+ac,o⟩).getD undef).toArray.getD ac undef=dn:=by simp[dM,De,show base+k+ac=base+(k+ac)by omega,az]
   rw[this];exact bh
 next cells k n an aF aU=>obtain⟨b,base,rfl,eN⟩:=JK au h an;obtain⟨dn,az,bh⟩:=eN _ _ ao;refine⟨dn,?_,bh⟩;simp[Instr.loadAt,Av,loadVar,ye aF,az]
 ·cases ao
def Gr(I:Prop) [Decidable I](b:Bool)(h:b=decide I):bf ad ae H (.bool (decide I)) (.bool b):=by rw[h];exact yd
def Vg{op:BinOp}{k:IntKind}{a b r:Int}(h:kA op k a b=j r)(P:Program):(Op.intBits op k a b).run P w=.ok (.int k r) w:=by cases op<;>simp_all [kA,Op.intBits]
def alJ{op:BinOp}{k dr:IntKind}{a b:Int}{v:ay}(h:mn op k a dr b=j v)(t:TypeId)(P:Program):
  ∃x,(binOp op t (.int k a) (.int dr b)).run P w=.ok x w∧bf ad ae H v x:=by
 unfold mn at h;split at h
 ·split at h
  next an=>cases h;exact⟨_,by simp[binOp,Op.shift,show¬b<0 by omega],nh⟩
  ·cases h
 ·split at h
  next an=>cases h;exact⟨_,by simp[binOp,Op.shift,show¬b<0 by omega],nh⟩
  ·cases h
 ·split at h
  next aA=>
   subst aA;split at h
   ·cases h;exact⟨_,by simp[binOp,Op.intArith],nh⟩
   ·cases h;exact⟨_,by simp[binOp,Op.intArith],nh⟩
   ·cases h;exact⟨_,by simp[binOp,Op.intArith],nh⟩
   ·split at h
    ·cases h
    next an=>cases h;exact⟨_,by simp[binOp,Op.intDiv,an],nh⟩
   ·split at h
    ·cases h
    next an=>cases h;exact⟨_,by simp[binOp,Op.intDiv,an],nh⟩
   ·cases h;exact⟨_,by simp[binOp,Gs];rfl,Gr _ _ rfl⟩
   ·cases h;exact⟨.bool (a !=b),by simp[binOp,Gs],by
     have:(!decide (a=b))=(a !=b):=rfl;rw[this];exact yd⟩
   ·cases h;exact⟨_,by simp[binOp,Gs];rfl,Gr _ _ (by rfl)⟩
   ·cases h;exact⟨_,by simp[binOp,Gs];rfl,Gr _ _ (by rfl)⟩
   ·cases h;exact⟨_,by simp[binOp,Gs];rfl,Gr _ _ (by rfl)⟩
   ·cases h;exact⟨_,by simp[binOp,Gs];rfl,Gr _ _ (by rfl)⟩
   all_goals first
    |(simp only[dp]at h;obtain⟨r,ak,rfl⟩:=h;exact⟨_,by simp[binOp];exact Vg ak P,nh⟩)
    |cases h
  ·cases h
def toList_mk(l:bm):(⟨⟨l⟩⟩:ByteArray).toList=l:=by rw[ByteArray.toList_eq]
def size_mk(l:bm):(⟨⟨l⟩⟩:ByteArray).size=l.length:=rfl
def alK(a b:bm):(⟨⟨a⟩⟩:ByteArray)++⟨⟨b⟩⟩=⟨⟨a++b⟩⟩:=by apply ByteArray.ext;simp
def alL{op:BinOp}{a b:bm}{v:ay}(h:tN op a b=j v)(t:TypeId)(P:Program):
  ∃x,(binOp op t (.string ⟨⟨a⟩⟩) (.string ⟨⟨b⟩⟩)).run P w=.ok x w∧bf ad ae H v x:=by
 unfold tN at h;split at h
 ·split at h
  next ao=>
   cases h;refine⟨.string ⟨⟨a++b⟩⟩,?_,Da⟩;have:¬((a.length:Int)+b.length>ni.max):=by have:ni.max=9223372036854775807:=bU;omega
   simp[binOp,Op.stringOp,size_mk,alK];omega
  ·cases h
 all_goals first
  |(simp only[br]at h;subst h;exact⟨.bool _,by simp[binOp,Op.stringOp,toList_mk],yd⟩)
  |exact absurd h aX
def Vh:ob→Value→Prop
 |.int k,x=>∃n,x=.int k n
 |.bool,x=>∃b,x=.bool b
 |.str,x=>∃s,x=.string s
def nj(l:List ob)(xs:Array Value)(off:Nat):Prop:=∀(k:Nat) (f:ob),l[k]?=j f→∃x,xs[off+k]?=j x∧Vh f x
def u'(xs di:Array Value)(off n:Nat):Prop:=∀k,k<n→xs[off+k]?=di[off+k]?
def u'.split{xs di:Array Value}{off n m:Nat}:u' xs di off (n+m)↔u' xs di off n∧u' xs di (off+n) m:=by
 constructor
 ·intro h;exact⟨λ k aA=>h k aa,λ k aA=>by have:=h (n+k) aa;rwa [show off+(n+k)=off+n+k by omega]at this⟩
 ·rintro⟨p,U⟩ k aA;by_cases aI:k<n
  ·exact p k aI
  ·have:=U (k-n) aa;rwa [show off+n+(k-n)=off+k by omega]at this
def nj.split{l m:List ob}{xs:Array Value}{off:Nat}(h:nj (l++m) xs off):nj l xs off∧nj m xs (off+l.length):=by
 constructor
 ·intro k f aN;exact h k f (by rw[eO (bQ.1 aN).1];exact aN)
 ·intro k f aN;have:=h (l.length+k) f (by rw[hK aa];simpa using aN);rwa [show off+(l.length+k)=off+l.length+k by omega]at this
def Aw(P:Program)(t:TypeId)(xs:Array Value)(off n:Nat)(x:Value):Prop:=
 (k1 P t=j ah∧∃cs:Array Value,x=.agg cs∧∀k,k<n→cs[k]?=xs[off+k]?)∨(k1 P t=j J∧n=1∧xs[off]?=j x)
def JM{P:Program}{t:TypeId}{l:List ob}{xs:Array Value}{off:Nat}{yh:Bool}(aF:k1 P t=j yh)(bp:gp P t=j l.length)
  (p:yh=J→l.length=1)(aA:nj l xs off):∃x,(part t xs off).run P w=.ok x w∧Aw P t xs off l.length x:=by
 cases yh with
 |true=>refine⟨.agg (xs.extract off (off+l.length)),by simp[part,ye aF,(hr bp w).1],.inl ⟨aF,_,rfl,λ k va=>?_⟩⟩;obtain⟨x,ap,_⟩:=aA k _ (eC va);have bg:=(kg.1 ap).1;rw[Array.getElem?_extract];simp;omega
 |false=>have ao:=p rfl;obtain⟨x,ap,_⟩:=aA 0 _ (eC aa);exact⟨x,by simp only[part,ep,ye aF,eM];simp at ap;simp[ap],.inr ⟨aF,ao,by simpa using ap⟩⟩
def Ol{P:Program}{d:Nat}{t:TypeId}{l:List ob}(h:leaves P d t=j l):∃yh,k1 P t=j yh∧(yh=J→l.length=1):=by
 cases d with
 |zero=>simp[leaves]at h
 |succ d=>
  simp only[leaves]at h;cases hu:P.underlying t with
  |none=>simp[hu]at h
  |some u=>
   simp only[hu]at h;cases u<;>simp at h
   all_goals first
    |(subst h;exact⟨J,by simp[k1,hu],λ _=>rfl⟩)
    |exact⟨ah,by simp[k1,hu],λ h=>by cases h⟩
def Vi{P:Program}{d D:Nat}(a':∀t l,leaves P d t=j l→∀(xs di:Array Value) (q_ q':Nat) (x y:Value),nj l xs q_→nj l di q'→
   Aw P t xs q_ l.length x→Aw P t di q' l.length y→∃r,(JN D t x y).run P w=.ok r w∧(r=ah↔∀k,k<l.length→xs[q_+k]?=di[q'+k]?)):
  ∀(fb:List Field) (al:Nat) (l:List ob),F6 P (leaves P d) al fb=j l→∀xs di:Array Value,nj l xs al→nj l di al→
   ∃r,(Op.eqFields D xs di fb).run P w=.ok r w∧(r=ah↔u' xs di al l.length)
 |[],al,l,h,xs,di,_,_=>by simp only[F6,br]at h;subst h;exact⟨ah,by simp[Op.eqFields],by simp[u']⟩
 |f::fb,al,l,h,xs,di,ap,bb=>by
  simp only[F6]at h;split at h
  next dt z iL bp=>
   split at h
   next aj=>
    obtain⟨p,U,az⟩:=aj;simp only[dp]at h;obtain⟨fh,iz,rfl⟩:=h;subst p U;obtain⟨mz,Ax⟩:=ap.split;obtain⟨wB,yi⟩:=bb.split;obtain⟨yh,aF,oR⟩:=Ol iL;obtain⟨x,Om,Ay⟩:=JM (w:=w) aF bp oR mz;obtain⟨y,On,Oo⟩:=JM (w:=w) aF bp oR wB;obtain⟨g_,pw,Gt⟩:=a' _ _ iL xs di _ _ x y mz wB Ay Oo;obtain⟨qd,iW,Az⟩:=Vi a' fb _ fh iz xs di Ax yi;have Gu:g_=ah↔u' xs di f.offset dt.length:=Gt;simp only[Op.eqFields,az,ne_eq,not_false_eq_true,if_true,ep,Om,On,pw,eM,dK,u'.split];cases g_ with
    |true=>exact⟨qd,by simp[iW],by rw[Az];simp[Gu.1 rfl]⟩
    |false=>exact⟨J,aX,by simp only[gk,false_iff];exact λ h=>by simpa using Gu.2 h.1⟩
   ·cases h
  ·cases h
def Vj{P:Program}{d D:Nat}{e:TypeId}{l:List ob}(ao:leaves P d e=j l)(bp:gp P e=j l.length)(tY:P.cellsOf e=l.length)
  (a':∀(xs di:Array Value) (q_ q':Nat) (x y:Value),nj l xs q_→nj l di q'→
   Aw P e xs q_ l.length x→Aw P e di q' l.length y→∃r,(JN D e x y).run P w=.ok r w∧(r=ah↔∀k,k<l.length→xs[q_+k]?=di[q'+k]?))(xs di:Array Value):
  ∀is:cq,(∀i∈is,nj l xs (i*l.length)∧nj l di (i*l.length))→
   ∃r,(Op.eqItems D e (P.cellsOf e) xs di is).run P w=.ok r w∧(r=ah↔∀i∈is,u' xs di (i*l.length) l.length)
 |[],_=>⟨ah,by simp[Op.eqItems],aX⟩
 |i::is,h=>by
  obtain⟨ap,bb⟩:=h i aX;obtain⟨yh,aF,oR⟩:=Ol ao;obtain⟨x,Om,Ay⟩:=JM (w:=w) aF bp oR ap;obtain⟨y,On,Oo⟩:=JM (w:=w) aF bp oR bb;obtain⟨g_,pw,Gt⟩:=a' xs di _ _ x y ap bb Ay Oo;obtain⟨qd,iW,Az⟩:=Vj ao bp tY a' xs di is (λ ac bc=>h ac (by simp[bc]));have Gu:g_=ah↔u' xs di (i*l.length) l.length:=Gt;simp only[tY]at iW;simp only[Op.eqItems,tY,ep,Om,On,pw,eM,List.forall_mem_cons];cases g_ with
  |true=>exact⟨qd,by simp[iW],by rw[Az];simp[Gu.1 rfl]⟩
  |false=>exact⟨J,aX,by simp only[gk,false_iff];exact λ h=>by simpa using Gu.2 h.1⟩
def JO{α:Type}(l:List α):∀(n i k:Nat),i<n→k<l.length→(cH n l).flatten[i*l.length+k]?=l[k]?
 |0,_,_,h,_=>aa
 |n+1,0,k,_,aA=>by simp[Gv,eO aA]
 |n+1,i+1,k,h,aA=>by
  rw[Gv,tZ,hK (by rw[hT];omega)];rw[←JO l n i k aa aA]
  congr 1;rw[hT];omega
def Oq{P:Program}:∀(d:Nat) (t:TypeId) (l:List ob),leaves P d t=j l→∀D,d≤D→∀(xs di:Array Value) (q_ q':Nat) (x y:Value),nj l xs q_→nj l di q'→
  Aw P t xs q_ l.length x→Aw P t di q' l.length y→
   ∃r,(JN D t x y).run P w=.ok r w∧(r=ah↔∀k,k<l.length→xs[q_+k]?=di[q'+k]?)
 |0,t,l,h=>by simp[leaves]at h
 |d+1,t,l,h=>by
  intro D mA xs di q_ q' x y ap bb j3 lE;obtain⟨D,rfl⟩:∃Ot,D=Ot+1:=⟨D-1,aa⟩;have oR:=Ol h;simp only[leaves]at h;cases hu:P.underlying t with
  |none=>simp[hu]at h
  |some u=>
   simp only[hu]at h;have single:k1 P t=j J→l.length=1→(xs[q_]?=j x∧di[q']?=j y):=by
    intro aF ao;rcases j3 with⟨p,_⟩|⟨_,_,p⟩
    ·rw[aF]at p;cases p
    ·rcases lE with⟨U,_⟩|⟨_,_,U⟩
     ·rw[aF]at U;cases U
     ·exact⟨p,U⟩
   cases u<;>simp at h
   case bool=>subst h;obtain⟨yj,yk⟩:=single (by simp[k1,hu]) rfl;obtain⟨nN,p,a,rfl⟩:=ap 0 .bool rfl;obtain⟨wC,U,b,rfl⟩:=bb 0 .bool rfl;simp only[fr]at p U;rw[yj]at p;rw[yk]at U;cases p;cases U;refine⟨a==b,run_equalIn_bool' w D t a b hu,?_⟩;simp[yj,yk]
   case int k=>subst h;obtain⟨yj,yk⟩:=single (by simp[k1,hu]) rfl;obtain⟨nN,p,a,rfl⟩:=ap 0 _ rfl;obtain⟨wC,U,b,rfl⟩:=bb 0 _ rfl;simp only[fr]at p U;rw[yj]at p;rw[yk]at U;cases p;cases U;refine⟨a==b,run_equalIn_int w D t k k a b hu,?_⟩;simp[yj,yk]
   case string=>subst h;obtain⟨yj,yk⟩:=single (by simp[k1,hu]) rfl;obtain⟨nN,p,a,rfl⟩:=ap 0 .str rfl;obtain⟨wC,U,b,rfl⟩:=bb 0 .str rfl;simp only[fr]at p U;rw[yj]at p;rw[yk]at U;cases p;cases U;refine⟨a.toList==b.toList,run_equalIn_string w D t a b hu,?_⟩;rw[ByteArray.toList_eq,ByteArray.toList_eq];obtain⟨⟨a⟩⟩:=a;obtain⟨⟨b⟩⟩:=b;simp[yj,yk]
   case array n e=>
    split at h
    next dt z iL bp=>
     split at h
     next Ou=>
      subst Ou;simp only[br]at h;subst h;have hlen:(cH n dt).flatten.length=n*dt.length:=aX;rcases j3 with⟨_,cs,rfl,fp⟩|⟨p,_⟩
      case inr=>simp[k1,hu]at p
      rcases lE with⟨_,c4,rfl,mB⟩|⟨p,_⟩
      case inr=>simp[k1,hu]at p
      obtain⟨i,aB,alM⟩:=(hr bp w).2;have Gw:P.cellsOf e=dt.length:=by simp[Program.cellsOf,aB,alM]
      rw[hlen]at fp mB;have gr:∀(fD:Array Value) (es:Array Value) (al:Nat),nj (cH n dt).flatten fD al→(∀k,k<n*dt.length→es[k]?=fD[al+k]?)→∀i,i<n→nj dt es (i*dt.length):=by
       intro fD es al aA he i aB k f aN;have nk:=(bQ.1 aN).1;have bg:i*dt.length+k<n*dt.length:=by have:(i+1)*dt.length≤n*dt.length:=kF _ aB;rw[hT]at this;omega
       obtain⟨x,p,U⟩:=aA (i*dt.length+k) f (by rw[JO dt n i k aB nk];exact aN);exact⟨x,by rw[he _ bg];exact p,U⟩
      obtain⟨r,ak,Gx⟩:=Vj (w:=w) iL bp Gw (Oq d e dt iL D aa) cs c4 (hB n)
       (λ i nl=>⟨gr xs cs q_ ap fp i (by simpa using nl),gr di c4 q' bb mB i (by simpa using nl)⟩)
      refine⟨r,by rw[run_equalIn_array w D cs c4 hu aB];exact ak,?_⟩;rw[Gx,hlen];constructor
      ·intro aU k aA;have iA:0<dt.length:=(Nat.eq_zero_or_pos dt.length).elim (λ a8=>by rw[a8]at aA;omega) id;have Vk:k/dt.length<n:=(JP iA).2 aA;have:=aU (k/dt.length) (by simpa using Vk) (k%dt.length) (Df _ iA);have Ov:k/dt.length*dt.length+k%dt.length=k:=by rw[wD];exact AA _ _
       rw[Ov,fp k aA,mB k aA]at this;exact this
      ·intro aU i nl k aA;have bg:i*dt.length+k<n*dt.length:=by
        have h8:i<n:=by simpa using nl
        have:(i+1)*dt.length≤n*dt.length:=kF _ h8;rw[hT]at this;omega
       rw[fp _ bg,mB _ bg];exact aU _ bg
     ·cases h
    ·cases h
   case struct fb=>
    obtain⟨hI,h⟩:=h;rcases j3 with⟨_,cs,rfl,fp⟩|⟨p,_⟩
    case inr=>simp[k1,hu]at p
    rcases lE with⟨_,c4,rfl,mB⟩|⟨p,_⟩
    case inr=>simp[k1,hu]at p
    have gr:∀(fD es:Array Value) (al:Nat),nj l fD al→(∀k,k<l.length→es[k]?=fD[al+k]?)→nj l es 0:=by intro fD es al aA he k f aN;obtain⟨x,p,U⟩:=aA k f aN;exact⟨x,by rw[cJ,he _ (bQ.1 aN).1];exact p,U⟩
    have yl:P.fieldsOf t=fb:=by simp[Program.fieldsOf,hu]
    obtain⟨r,ak,Gx⟩:=Vi (w:=w) (D:=D) (λ t l ao=>Oq d t l ao D aa) fb.toList 0 l h cs c4 (gr _ _ _ ap fp) (gr _ _ _ bb mB);refine⟨r,by rw[run_equalIn_struct w D t cs c4 (by rw[yl];exact hu) hI,yl];exact ak,?_⟩;rw[Gx];constructor
    ·intro aU k aA;have:=aU k aA;rw[cJ,fp k aA,mB k aA]at this;exact this
    ·intro aU k aA;rw[cJ,fp k aA,mB k aA];exact aU k aA
def Vl{l:List ob}:∀{bW:aZ},p9 l bW=ah→bW.length=l.length∧∀(k:Nat) (f:ob),l[k]?=j f→∃a,bW[k]?=j a∧qX f a=ah:=by
 induction l with
 |nil=>intro bW h;cases bW<;>simp_all [p9]
 |cons f l a'=>
  intro bW h;cases bW with
  |nil=>simp[p9]at h
  |cons a bW=>
   simp only[p9,c']at h;obtain⟨p,U⟩:=a' h.2;refine⟨by simp[p],λ k g aR=>?_⟩;cases k with
   |zero=>simp at aR;subst aR;exact⟨a,rfl,h.1⟩
   |succ k=>simpa using U k g (by simpa using aR)
def alN{f:ob}{a:ay}{x:Value}(h:qX f a=ah)(r:bf ad ae H a x):Vh f x:=by
 unfold qX at h;split at h
 ·rw[ga r];simp at h;subst h;exact⟨_,rfl⟩
 ·rw[ga r];exact⟨_,rfl⟩
 ·rw[q8 r];exact⟨_,rfl⟩
 ·cases h
def alO{a b:ay}{x y:Value}{r:Bool}(h:sT a b=j r)(fE:bf ad ae H a x)(iX:bf ad ae H b y):r=ah↔x=y:=by
 unfold sT at h;split at h
 ·split at h
  ·cases h;rw[ga fE,ga iX];simp_all
  ·cases h
 ·cases h;rw[ga fE,ga iX];simp
 ·cases h;rw[q8 fE,q8 iX];simp
 ·cases h
def Vm:∀{bW kG:aZ} {r:Bool},p8 bW kG=j r→∀(xs di:Nat→Value),(∀(k:Nat) (a:ay),bW[k]?=j a→bf ad ae H a (xs k))→(∀(k:Nat) (b:ay),kG[k]?=j b→bf ad ae H b (di k))→
  (r=ah↔∀k,k<bW.length→xs k=di k)
 |[],[],r,h,xs,di,_,_=>by simp[p8]at h;simp[←h]
 |[],_::_,r,h,xs,di,_,_=>by simp[p8]at h
 |_::_,[],r,h,xs,di,_,_=>by simp[p8]at h
 |a::bW,b::kG,r,h,xs,di,aF,an=>by
  simp only[p8]at h;split at h
  next g_ qd p U=>
   cases h;have ar:=alO p (aF 0 a rfl) (an 0 b rfl);have aM:=Vm U (λ k=>xs (k+1)) (λ k=>di (k+1)) (λ k c aj=>aF (k+1) c (by simpa using aj)) (λ k c aj=>an (k+1) c (by simpa using aj));rw[c',ar,aM];constructor
   ·rintro⟨az,bh⟩ k aA;cases k with
    |zero=>exact az
    |succ k=>exact bh k (by simpa using aA)
   ·intro az;exact⟨az 0 aX,λ k aA=>az (k+1) (by simpa using aA)⟩
  ·cases h
def Ow{P:Program}(d:Nat){t e:TypeId}(hu:P.underlying t=j (.pointer e))(a:Option Addr):
  (JN (d+1) t (.pointer a) (.pointer o)).run P w=.ok a.isNone w:=by
 cases a<;>simp[JN,run_underlying hu]
def Ox{P:Program}(op:BinOp)(t:TypeId)(al I:Operand)(a b:Option Addr):(eqGuard op t al I (.pointer a) (.pointer b)).run P w=.ok () w:=by cases op<;>simp[eqGuard]
def alP{P:Program}(op:BinOp)(t:TypeId)(al I:Operand)(k dr:IntKind)(a b:Int):(eqGuard op t al I (.int k a) (.int dr b)).run P w=.ok () w:=by cases op<;>simp[eqGuard]
def alQ{P:Program}(op:BinOp)(t:TypeId)(al I:Operand)(a b:ByteArray):(eqGuard op t al I (.string a) (.string b)).run P w=.ok () w:=by cases op<;>simp[eqGuard]
def Oy{P:Program}{t:TypeId}{a b:ay}{x y:Value}{r:Bool}(h:j0 P t a b=j r)(fE:bf ad ae H a x)(iX:bf ad ae H b y):
  (Op.equal t x y).run P w=.ok r w∧∀(op:BinOp) (al I:Operand),(eqGuard op t al I x y).run P w=.ok () w:=by
 unfold j0 at h;split at h
 next bW kG=>
  split at h
  ·cases h
  next aR=>
   split at h
   next oR=>
    split at h
    next l ao=>
     split at h
     next h9=>
      obtain⟨cs,rfl,cD,ym⟩:=wA fE;obtain⟨c4,rfl,fS,JQ⟩:=wA iX;obtain⟨dt,bK⟩:=Vl h9.1;obtain⟨fh,bJ⟩:=Vl h9.2;have mk:∀(fD:aZ) (es:Array Value),es.size=fD.length→(∀(k:Nat) (a:ay),fD[k]?=j a→bf ad ae H a (es.getD k undef))→(∀(k:Nat) (f:ob),l[k]?=j f→∃a,fD[k]?=j a∧qX f a=ah)→nj l es 0:=by intro fD es aU ak aA k f aN;obtain⟨a,p,U⟩:=aA k f aN;refine⟨es.getD k undef,?_,alN U (ak k a p)⟩;rw[cJ];exact getD_eq es k (by rw[aU];exact(bQ.1 p).1)
      obtain⟨hq,yf,Gx⟩:=Oq (w:=w) 9 t l ao 10000 aa cs c4 0 0 (.agg cs) (.agg c4) (mk bW cs cD ym bK) (mk kG c4 fS JQ bJ)
       (.inl ⟨oR,cs,rfl,λ k _=>aX⟩) (.inl ⟨oR,c4,rfl,λ k _=>aX⟩)
      have e:=Vm h (λ k=>cs.getD k undef) (λ k=>c4.getD k undef) ym JQ;have:r=hq:=by
       rw[Bool.eq_iff_iff,e,Gx,dt];constructor
       ·intro aA k nk;rw[cJ,getD_eq cs k aa,getD_eq c4 k aa,aA k nk]
       ·intro aA k nk;have:=aA k nk;rw[cJ,getD_eq cs k aa,getD_eq c4 k aa]at this;exact q6 this
      rw[this];exact⟨yf,λ op al I=>run_eqGuard_agg w op t al I cs c4 (by simpa[Ob]using aR)⟩
     ·cases h
    ·cases h
   ·cases h
 ·split at h
  next hu=>cases h;rw[ga fE,ga iX];exact⟨run_equalIn_bool' w 9999 t _ _ hu,λ op al I=>by cases op<;>simp[eqGuard]⟩
  ·cases h
 ·split at h
  next hu=>
   cases h;rw[ga iX];cases fE with
   |ptr c g r k v aj an aU aN aB ax aR=>obtain⟨a,rfl⟩:=ax;exact⟨Ow 9999 hu (j a),λ op al I=>Ox ..⟩
  ·cases h
 ·split at h
  next hu=>
   cases h;rw[ga iX];cases ji fE with
   |gR=>exact⟨Ow 9999 hu (j _),λ op al I=>Ox ..⟩
  ·cases h
 ·split at h
  next hu=>cases h;rw[ga fE,ga iX];exact⟨Ow 9999 hu o,λ op al I=>Ox ..⟩
  ·cases h
 ·cases h
def Vn{P:Program}{t:TypeId}{a b:ay}{x y:Value}{r:Bool}(h:j0 P t a b=j r)(fE:bf ad ae H a x)(iX:bf ad ae H b y):
  (binOp .eql t x y).run P w=.ok (.bool r) w∧(binOp .neq t x y).run P w=.ok (.bool (!r)) w:=by
 have p:=(Oy (w:=w) h fE iX).1;unfold j0 at h;split at h
 ·obtain⟨cs,rfl,_⟩:=wA fE;obtain⟨c4,rfl,_⟩:=wA iX;exact⟨by simp[binOp,p],by simp[binOp,p]⟩
 ·rw[ga fE,ga iX]at p⊢;exact⟨by simp[binOp,p],by simp[binOp,p]⟩
 ·rw[ga iX]at p⊢;cases fE with
  |ptr c g r k v aj an aU aN aB ax aR=>obtain⟨a,rfl⟩:=ax;exact⟨by simp[binOp,p],by simp[binOp,p]⟩
 ·rw[ga iX]at p⊢;cases ji fE with
  |gR=>exact⟨by simp[binOp,p],by simp[binOp,p]⟩
 ·rw[ga fE,ga iX]at p⊢;exact⟨by simp[binOp,p],by simp[binOp,p]⟩
 ·cases h
def alR{P:Program}{op:BinOp}{t:TypeId}{a b:ay}{x y:Value}{v:ay}(h:k2 P op t a b=j v)(fE:bf ad ae H a x)(iX:bf ad ae H b y)(al I:Operand):
  ∃z,(do eqGuard op t al I x y;binOp op t x y:Sem Value).run P w=.ok z w∧bf ad ae H v z:=by
 unfold k2 at h;split at h
 ·rw[ga fE,ga iX];obtain⟨z,p,U⟩:=alJ (ad:=ad) (ae:=ae) (H:=H) (w:=w) h t P;refine⟨z,?_,U⟩;simp only[ep,alP,eM,p]
 ·rw[q8 fE,q8 iX];obtain⟨z,p,U⟩:=alL (ad:=ad) (ae:=ae) (H:=H) (w:=w) h t P;refine⟨z,?_,U⟩;simp only[ep,alQ,eM,p]
 ·split at h
  ·simp only[dp]at h;obtain⟨r,ak,rfl⟩:=h;exact⟨.bool r,by simp only[ep,(Oy ak fE iX).2,eM,(Vn ak fE iX).1],yd⟩
  ·simp only[dp]at h;obtain⟨r,ak,rfl⟩:=h;exact⟨.bool (!r),by simp only[ep,(Oy ak fE iX).2,eM,(Vn ak fE iX).2],yd⟩
  ·cases h
def alS{P:Program}{op:UnOp}{a:ay}{x:Value}{v:ay}(h:Aj op a=j v)(fE:bf ad ae H a x):
  ∃z,(Op.unary op x).run P w=.ok z w∧bf ad ae H v z:=by
 unfold Aj at h;split at h
 ·cases h;rw[ga fE];exact⟨_,by simp[Op.unary,Op.intArith],nh⟩
 ·simp only[dp]at h;obtain⟨r,ak,rfl⟩:=h;rw[ga fE];exact⟨_,by simp only[Op.unary];exact Vg ak P,nh⟩
 ·cases h;rw[ga fE];exact⟨_,by simp[Op.unary],yd⟩
 ·cases h
end
section
variable{E:Env}{ad:cn}{ae:cj}{H:ab}{w:World}
def Vo{n:Nat}{x v:ay}{y:Value}(h:xZ n x=j v)(r:bf ad ae H x y):∃a:Addr,y=.pointer (j a)∧bf ad ae H v (.pointer (j (a.add n))):=by
 unfold xZ at h;split at h
 next cells off=>
  cases h;cases ji r with
  |gR cells al b Oz cs elem bs dn cr p U=>refine⟨_,rfl,?_⟩;rw[l1,vb];exact .i _ _ (.gR cells (off+n) b Oz cs elem bs dn cr p U)
 next c g hq k=>
  cases h;cases r with
  |ptr c g r k v aj an aU aN aB ax aR=>
   obtain⟨a,rfl⟩:=ax;refine⟨a,rfl,.ptr c g hq (k+n) _ aj ?_ ?_ ?_ ?_ ⟨_,rfl⟩ aR⟩
   ·intro cells aT;obtain⟨b,m,p,U⟩:=an _ aT;cases U;exact⟨b,m,p,by rw[l1]⟩
   ·intro aD rows ex aT;obtain⟨b,m,p,U⟩:=aU _ _ _ aT;cases U;exact⟨b,m,p,by rw[l1,vb]⟩
   ·intro aD rows ex row aT b2;cases aN _ _ _ _ aT b2 with
    |gR cells al b Oz cs elem bs dn cr p U=>rw[l1,vb];exact .gR row (k+n) b Oz cs elem bs dn cr p U
   ·intro s I aT;obtain⟨b,m,p,U⟩:=aB _ _ aT;cases U;exact⟨b,m,p,by rw[l1]⟩
 next c g s hq i k=>
  cases h;cases r with
  |x k v h aN=>obtain⟨p,⟨a,rfl⟩,az⟩:=h;refine⟨a,rfl,.x _ _ ⟨p,⟨_,rfl⟩,λ z a6 dB rows aT=>⟨(az z a6 dB rows aT).1,λ ar aM b4 ak aB=>?_⟩⟩ (.ne nofun)⟩;obtain⟨b,m,cy,cN⟩:=(az z a6 dB rows aT).2 ar aM b4 ak aB;cases cN;exact⟨b,m,cy,by rw[l1,vb]⟩
 ·cases h
def alT{t f:Nat}{x v:ay}{y:Value}{off eG z:Nat}(aN:CT E.P t f=j (off,eG))(bp:gp E.P eG=j z)(ax:0<z)
  (h:xZ off x=j v)(r:bf ad ae H x y):∃u,(Instr.fieldAt t y f).run E.P w=.ok u w∧bf ad ae H v u:=by
 obtain⟨fb,fd,hu,yn,rfl,rfl⟩:=Vb aN;obtain⟨a,rfl,ak⟩:=Vo h r;refine⟨_,?_,ak⟩;have JR:¬z=0:=aa;simp[Instr.fieldAt,run_underlying hu,yn,Av,fieldPlace,(hr bp w).1,JR]
def Vp{aD:Nat}{rows:cb}{ex:Bool}{y:Value}(h:dH ad (.af aD rows ex) y){n:Nat}{row:cZ}(ak:rows[n]?=j row):
  ∃b off cap,y=.slice (j ⟨b,off,o⟩) rows.length cap∧dH ad (.gR row 0) (.pointer (j ⟨b,off+n*aD,o⟩)):=by
 cases h with
 |nil=>simp at ak
 |af aD rows ex b off cap cs elem bs dn cr aj ap ao p U=>refine⟨b,off,cap,rfl,?_⟩;have:=dH.gR (ad:=ad) row 0 b (off+n*aD) cs elem bs (dn n) cr (λ k a aF=>p n row k a ak aF) (λ k a aF=>U n row k a ak aF);simpa using this
def alU{t e:TypeId}{z:Nat}{n:Int}{q:de}{k:IntKind}{v:ay}{y:Value}(aU:fw E.P t=j e)(bp:gp E.P e=j z)(h:wi H z n q=j v)(au:cf E ad ae H w)(r:lD ae H q y):
  ∃u,(AB t y (.int k n)).run E.P w=.ok u w∧bf ad ae H v u:=by
 cases q with
 |e=>cases h
 |I=>cases h
 |d c g off len=>
  obtain⟨aj,_,ap⟩:=r;simp only[wi]at h;unfold Jy at h;split at h
  next ds a6 dB rows aT=>
   split at h
   next aI=>
    obtain⟨hL,nO,rfl,rfl⟩:=aI;cases h;obtain⟨hle,a,cap,rfl,fR⟩:=(ap _ _ _ _ aT).2 rfl;rcases fR with⟨he,_⟩|⟨b,m,he,_,_,aF⟩
    ·exfalso;rcases au.ch _ _ aT with⟨_,bh⟩|⟨b,_,_,_,bh,_⟩
     ·subst bh;simp at hle;omega
     ·rw[he]at bh;cases bh
    ·rcases aF with rfl|⟨a8,_⟩
     ·refine⟨.pointer (j ⟨b,off+n.toNat*1,o⟩),by simp[AB,asIntOf,run_underlying (iV aU),hL,nO,(hr bp w).1,l1],?_⟩;rw[JS];refine .x _ _ ⟨aj,⟨_,rfl⟩,λ z2 g2 s2 dv px=>?_⟩ (.ne nofun);rw[aT]at px;cases px;exact⟨cS _,λ _=>⟨b,m,he,rfl⟩⟩
     ·omega
   ·cases h
  ·cases h
 |h c g s r=>
  obtain⟨aj,_,ap⟩:=r;simp only[wi]at h;unfold F9 at h;split at h
  next ds a6 dB rows aT=>
   split at h
   next aI=>
    obtain⟨rfl,rfl,rfl,hL⟩:=aI;split at h
    next b4 ak=>
     split at h
     next bg=>
      cases h;rcases(ap _ _ _ _ aT).2 rfl rfl _ ak with⟨rfl,_⟩|⟨b,m,he,cap,rfl,ht,fF⟩
      ·simp at bg
      ·refine⟨.pointer (j ⟨b,0+n.toNat*z,o⟩),by simp[AB,asIntOf,run_underlying (iV aU),hL,show n<b4.length by omega,(hr bp w).1,l1],?_⟩;refine .x _ _ ⟨aj,⟨_,rfl⟩,λ z2 g2 s2 dv px=>?_⟩ (.ne nofun);rw[aT]at px;cases px;refine⟨.inr ⟨rfl,cS _⟩,λ _ _ aUZ iW _=>?_⟩;exact⟨b,m,he,by rw[cJ,fr]⟩
     ·cases h
    ·cases h
   ·cases h
  ·cases h
def alV{t:TypeId}{x kd v:ay}{y ac:Value}(h:CU E H t x kd=j v)(au:cf E ad ae H w)(r:bf ad ae H x y)(JT:bf ad ae H kd ac):
  ∃u,(AB t y ac).run E.P w=.ok u w∧bf ad ae H v u:=by
 unfold CU at h;split at h
 next k n=>
  rw[ga JT];split at h
  next len e _ aF=>
   split at h
   next z bp=>
    split at h
    next aI=>obtain⟨a,rfl,ak⟩:=Vo h r;refine⟨_,?_,ak⟩;simp[AB,asIntOf,run_underlying (JJ aF),Av,aI,(hr bp w).1]
    ·cases h
   ·cases h
  next e _ aU=>
   split at h
   next z aD rows ex bp=>
    split at h
    next aI=>
     obtain⟨hL,rfl⟩:=aI;split at h
     next row b2=>
      cases h;obtain⟨b,off,cap,rfl,ax⟩:=Vp (ji r) b2;have bg:n<rows.length:=by have:=(bQ.1 b2).1;omega
      refine⟨_,?_,.i _ _ ax⟩;simp[AB,asIntOf,run_underlying (iV aU),hL,bg,(hr bp w).1,l1]
     ·cases h
    ·cases h
   next z c g off len bp=>
    split at h
    next aD a6 rows ex aT=>
     split at h
     next aI=>
      obtain⟨hL,nO,rfl,rfl⟩:=aI;cases h;cases r with
      |ref c g off len v aj s9 aN ax aR=>
       obtain⟨hle,a,cap,rfl,fR⟩:=s9 _ _ _ aT;rcases fR with⟨he,_⟩|⟨b,m,he,_,_,aF⟩
       ·exfalso;obtain⟨_,_,az⟩:=au.ch _ _ aT;rcases az with⟨_,bh⟩|⟨b,_,_,_,bh,_⟩
        ·subst bh;simp at hle;omega
        ·rw[he]at bh;cases bh
       ·rcases aF with rfl|⟨a8,_⟩
        ·refine⟨.pointer (j ⟨b,off*aD+n.toNat*aD,o⟩),by simp[AB,asIntOf,run_underlying (iV aU),hL,nO,(hr bp w).1,l1],?_⟩;refine .ptr c g (off+n.toNat) 0 _ aj ?_ ?_ ?_ ?_ ⟨_,rfl⟩ aR
         ·intro cells h;rw[aT]at h;cases h
         ·intro iU dv io h;rw[aT]at h;cases h;exact⟨b,m,he,by rw[hT,fr]⟩
         ·intro _ _ _ _ h;rw[aT]at h;cases h
         ·intro _ _ h;rw[aT]at h;cases h
        ·omega
     ·cases h
    next aD a6 rows ex aT=>
     split at h
     next aI=>
      obtain⟨hL,nO,rfl,rfl⟩:=aI;cases h;cases r with
      |ref c g off len v aj s9 aN ax aR=>
       obtain⟨hle,alW⟩:=aN _ _ _ aT;have bg:off+n.toNat<rows.length:=aa;have b2:((rows.drop off).take len)[n.toNat]?=j rows[off+n.toNat]:=by rw[oQ,if_pos aa,s8,eC bg]
       obtain⟨b,al,cap,rfl,Dc⟩:=Vp alW b2;have hlen:((rows.drop off).take len).length=len:=by simp;omega
       rw[hlen]at*;refine⟨.pointer (j ⟨b,al+n.toNat*aD,o⟩),by simp[AB,asIntOf,run_underlying (iV aU),hL,nO,(hr bp w).1,l1],?_⟩;refine .ptr c g (off+n.toNat) 0 _ aj ?_ ?_ ?_ ?_ ⟨_,rfl⟩ aR
       ·intro cells h;rw[aT]at h;cases h
       ·intro iU dv io h;rw[aT]at h;cases h
       ·intro iU dv io row h ak;rw[aT]at h;cases h;rw[eC bg]at ak;cases ak;exact Dc
       ·intro _ _ h;rw[aT]at h;cases h
     ·cases h
    ·cases h
   next z dr bp=>
    cases r with
    |x k v ak aN=>exact alU aU bp h au ak
   ·cases h
  ·cases h
 ·cases h
def Vq{cells m:aZ}{cs:Array Value}{off z:Nat}(ao:cs.size=cells.length)(ak:∀(k:Nat) (a:ay),cells[k]?=j a→bf ad ae H a (cs.getD k undef))
  (h:take cells off z=j m):bf ad ae H (.agg m) (.agg (cs.extract off (off+z))):=by
 obtain⟨p,U⟩:=Vd h;have hle:off+z≤cells.length:=by
  unfold take at h;split at h
  ·assumption
  ·cases h
 refine .agg _ _ (by simp;omega) λ k a aF=>?_
 have aA:k<z:=by rw[←p];exact(bQ.1 aF).1
 obtain⟨b_,az,bh⟩:=U k aA;rw[aF]at az;cases az;have:=ak _ _ bh;have e:(cs.extract off (off+z)).getD k undef=cs.getD (off+k) undef:=by simp only[dM,Array.getElem?_extract];rw[if_pos aa]
 rw[e];exact this
def alX{t:TypeId}{x kd v:ay}{y ac:Value}(h:CV E t x kd=j v)(r:bf ad ae H x y)(JT:bf ad ae H kd ac):
  ∃u,(Instr.index t y ac).run E.P w=.ok u w∧bf ad ae H v u:=by
 unfold CV at h;split at h
 next l k n=>
  rw[ga JT,q8 r];split at h
  next aI=>
   simp only[dp]at h;obtain⟨b,an,rfl⟩:=h;refine⟨.int .u8 b.toNat,?_,nh⟩;have:(⟨⟨l⟩⟩:ByteArray)[n.toNat]?=j b:=by
    have bg:=(bQ.1 an).1;have bo:=(bQ.1 an).2;rw[getElem?_pos _ _ (by simpa[size_mk]using bg)]
    congr 1
   simp[Instr.index,asIntOf,run_underlying (s7 aI.2),aI.1,this]
  ·cases h
 next cells k n=>
  rw[ga JT];obtain⟨cs,rfl,ao,ak⟩:=wA r;split at h
  next len e aF=>
   split at h
   next z bp oR=>
    split at h
    next aI=>simp only[dp]at h;obtain⟨m,hm,rfl⟩:=h;refine⟨_,?_,Vq ao ak hm⟩;simp[Instr.index,asIntOf,run_underlying (JJ aF),aI,(hr bp w).1,part,ye oR]
    ·cases h
   next z bp oR=>
    split at h
    next aI=>have bg:=(bQ.1 h).1;refine⟨_,?_,ak _ _ h⟩;simp only[Instr.index,asIntOf,ep,e8,eM,run_underlying (JJ aF),aI,if_true,Sem.run_ite,(hr bp w).1,part,ye oR,and_self];simp only[gk,if_false];rw[getD_eq cs _ aa];simp
    ·cases h
   ·cases h
  ·cases h
 ·cases h
def alY{t:TypeId}{f:Nat}{x v:ay}{y:Value}(h:Jz E t x f=j v)(r:bf ad ae H x y):
  ∃u,(Instr.field t y f).run E.P w=.ok u w∧bf ad ae H v u:=by
 unfold Jz at h;split at h
 next cells off eG aN=>
  obtain⟨fb,fd,hu,yn,rfl,rfl⟩:=Vb aN;obtain⟨cs,rfl,ao,ak⟩:=wA r;split at h
  next z bp oR=>simp only[dp]at h;obtain⟨m,hm,rfl⟩:=h;exact⟨_,by simp[Instr.field,run_underlying hu,yn,asAgg,part,ye oR,(hr bp w).1],Vq ao ak hm⟩
  next z bp oR=>have bg:=(bQ.1 h).1;refine⟨_,?_,ak _ _ h⟩;simp only[Instr.field,ep,run_underlying hu,eM,yn,asAgg,e8,part,ye oR,gk,if_false,Sem.run_ite];rw[getD_eq cs _ aa];simp
  ·cases h
 ·cases h
end
section
variable{E:Env}{ad:cn}{ae:cj}{H:ab}{w:World}
inductive vc (ad:cn) (ae:cj) (H:ab):Option ay→Option Value→Prop
 |none:vc ad ae H o o
 |some (a:ay) (v:Value) (h:bf ad ae H a v):vc ad ae H (j a) (j v)
def Dg{R:Fr}{a:Act}(au:cf E ad ae H w)(aN:fq ad ae H R a.tmps)(x:Option Operand):vc ad ae H (x.map (bw E R)) (x.map a.eval):=by
 cases x with
 |none=>exact .none
 |some x=>exact .some _ _ (e7 au aN x)
def wE{P:Program}{d l:Nat}{al:ay}{v:Value}(h:gz d (j al)=j l)(r:bf ad ae H al v)(y:Nat)(code:BoundsCode)(ao:l≤y):(Instr.sliceBound v y code).run P w=.ok l w:=by
 unfold gz at h;split at h
 next iy=>cases iy
 next k n iy=>
  cases iy;split at h
  next aI=>cases h;rw[ga r];have:n≤y:=aa;simp[Instr.sliceBound,asIntOf,aI,this]
  ·cases h
 ·cases h
def Gy{P:Program}{Dh:Bool}{len cap l h:Nat}{b5 aB:dX}{yo nl:Option Value}(nm:gz 0 b5=j l)(nP:gz len aB=j h)
  (ew:vc ad ae H b5 yo)(r5:vc ad ae H aB nl)(Gz:l≤h)(aj:h≤cap):
  (AC Dh len cap yo nl o).run P w=.ok (l,h,cap) w:=by
 cases ew with
 |none=>
  simp only[gz,br]at nm;cases r5 with
  |none=>simp only[gz,br]at nP;simp[AC,nm,nP]
  |some a v r=>simp[AC,nm,wE nP r _ _ aj]
 |some b u s=>
  cases r5 with
  |none=>simp only[gz,br]at nP;subst nP;simp[AC,wE nm s _ _ Gz]
  |some a v r=>simp[AC,wE nP r _ _ aj,wE nm s _ _ Gz]
def OA{P:Program}{len cap l h:Nat}{b5 aB:dX}{m:ay}{yo nl:Option Value}{b6:Value}(nm:gz 0 b5=j l)(nP:gz len aB=j h)(hm:gz 0 (j m)=j h)
  (ew:vc ad ae H b5 yo)(r5:vc ad ae H aB nl)(r6:bf ad ae H m b6)(Gz:l≤h)(aj:h≤cap)(aI:aB.isSome=ah):
  (AC ah len cap yo nl (j b6)).run P w=.ok (l,h,h) w:=by
 cases r5 with
 |none=>cases aI
 |some a v r=>
  cases ew with
  |none=>simp only[gz,br]at nm;simp[AC,nm,wE hm r6 _ _ aj,wE nP r _ _ (cS h)]
  |some b u s=>simp[AC,wE hm r6 _ _ aj,wE nP r _ _ (cS h),wE nm s _ _ Gz]
def extract_mk(s:bm)(l h:Nat):(⟨⟨s⟩⟩:ByteArray).extract l h=⟨⟨(s.drop l).take (h-l)⟩⟩:=by apply ByteArray.ext;simp only[ByteArray.data_extract];apply Array.ext';simp[List.extract_eq_take_drop]
def JU{aD l h m:Nat}{rows:cb}{ex gK:Bool}{a:Option Addr}{n cap size:Nat}(r:dH ad (.af aD rows ex) (.slice a n cap))(Gz:l≤h)(aI:h≤rows.length)(hm:h≤m)(aU0:m≤cap)
  (eQ:rows=[]∨size=aD)(hex:gK=ah→m=h∨(ex=ah∧h=rows.length∧m=cap)):
  dH ad (.af aD ((rows.drop l).take (h-l)) gK) (.slice (if m=l then a else a.map (·.add (l*size))) (h-l) (m-l)):=by
 have Vr:gK=ah→m=h:=by
  intro he;rcases hex he with p|⟨p,U,az⟩
  ·exact p
  ·cases r with
   |nil aD ex a cap ap=>have:=ap p;omega
   |af aD rows ex b off cap cs elem bs dn cr aj ap ak bh bF=>have:=ap p;omega
 by_cases aV:h=l
 ·subst aV;have:(rows.drop h).take (h-h)=[]:=aX;rw[this,r7];exact .nil _ _ _ _ (λ he=>by have:=Vr he;omega)
 ·have ao:l<h:=aa;have gE:m≠l:=aa;have hlen:((rows.drop l).take (h-l)).length=h-l:=by simp;omega
  cases r with
  |nil=>simp at aI;omega
  |af aD rows ex b off cap cs elem bs dn cr aj ap ak p U=>
   have AD:size=aD:=eQ.elim (λ e=>by subst e;simp at aI;omega) id;subst AD;rw[if_neg gE];have gt:∀(i:Nat) (r:cZ),((rows.drop l).take (h-l))[i]?=j r→rows[l+i]?=j r:=by
    intro i r aB;rw[oQ]at aB;split at aB
    ·rwa [s8]at aB
    ·cases aB
   have:=dH.af (ad:=ad) size ((rows.drop l).take (h-l)) gK b (off+l*size) (m-l) cs elem bs (λ i k=>dn (l+i) k) cr aa (λ he=>by have:=Vr he;omega)
    (λ i r aB=>ak _ _ (gt i r aB))
    (λ i r k a aB aF=>by have:=p _ _ _ _ (gt i r aB) aF;rw[←this];congr 1;rw[hT];omega)
    (λ i r k a aB aF=>U _ _ _ _ (gt i r aB) aF)
   rw[hlen]at this;simpa[l1]using this
def Vs{t:TypeId}{x v:ay}{y:Value}{b5 aB lv:dX}{yo nl Vt:Option Value}(h:j1 E H t x b5 aB lv=j v)(au:cf E ad ae H w)(r:bf ad ae H x y)
  (ew:vc ad ae H b5 yo)(r5:vc ad ae H aB nl)(r6:vc ad ae H lv Vt):
  ∃u,(wF t y yo nl Vt).run E.P w=.ok u w∧bf ad ae H v u:=by
 unfold j1 at h;split at h
 ·cases h
 rename_i n hlen;split at h;rotate_left
 ·cases h
 rename_i l aV nm nP;split at h;rotate_left
 ·cases h
 rename_i hle;obtain⟨iL,iz⟩:=hle;split at h
 next s=>
  split at h
  next aj=>
   cases h;rw[q8 r];cases r6 with
   |some=>simp at aj
   |none=>simp only[p_,br]at hlen;refine⟨.string ⟨⟨(s.drop l).take (aV-l)⟩⟩,?_,Da⟩;have hu:=s7 aj.2;have an:=Gy (P:=E.P) (w:=w) (Dh:=false) (cap:=(⟨⟨s⟩⟩:ByteArray).size) nm (by rw[←hlen]at nP;exact nP) ew r5 iL (by rw[size_mk];omega);simp only[wF,ep,run_underlying hu,eM,AE,Option.isSome_none,gk,if_false,e8];rw[show(⟨⟨s⟩⟩:ByteArray).size=s.length from rfl]at an⊢;simp[an,extract_mk]
  ·cases h
 next aD rows ex=>
  split at h
  next e aU=>
   have hu:=iV aU;simp only[p_,br]at hlen;subst hlen;have mC:=ji r;have AF:∃a cap,y=.slice a rows.length cap∧rows.length≤cap:=by
    cases mC with
    |nil aD ex a cap ap=>exact⟨a,cap,rfl,aX⟩
    |af aD rows ex b off cap cs elem bs dn cr aj ap ak p U=>exact⟨_,cap,rfl,aj⟩
   obtain⟨a,cap,rfl,j4⟩:=AF;split at h;rotate_left
   ·cases h
   rename_i size bp;have JV:=(hr bp w).1;split at h
   next JW=>
    split at h
    ·cases h;cases r6 with
     |none=>
      have an:=Gy (P:=E.P) (w:=w) (Dh:=true) (cap:=cap) nm nP ew r5 iL aa;refine⟨_,?_,.i _ _ (JU (m:=cap) (size:=size) mC iL iz aa (cS _) JW λ he=>?_)⟩
      ·simp[wF,run_underlying hu,AE,an,JV]
      ·simp only[c',decide_eq_true_eq]at he;exact .inr ⟨he.1,he.2,rfl⟩
    next m=>
     split at h
     next b6 hm=>
      split at h
      next hk=>
       cases h;obtain rfl:=hk.1;cases r6 with
       |some b_ gJ hq=>have an:=OA (P:=E.P) (w:=w) (cap:=cap) nm nP hm ew r5 hq iL aa hk.2;refine⟨_,?_,.i _ _ (JU (m:=aV) (size:=size) mC iL iz (cS _) aa JW λ _=>.inl rfl)⟩;simp[wF,run_underlying hu,AE,an,JV]
      ·cases h
     ·cases h
   ·cases h
  ·cases h
 next c g off len=>
  simp only[p_,br]at hlen;subst hlen;split at h
  next e aD a6 rows ex aU aT=>
   have hu:=iV aU;split at h
   next aj=>
    obtain⟨rfl,bp⟩:=aj;cases r with
    |ref c g off len v cD s9 aN ax aR=>
     obtain⟨hle,a,cap,rfl,fR⟩:=s9 _ _ _ aT;have j4:len≤cap:=by
      rcases fR with⟨he,gL⟩|⟨b,m,he,p,_,_⟩
      ·obtain⟨_,_,az⟩:=au.ch _ _ aT;rcases az with⟨_,bh⟩|⟨b,_,_,_,bh,_⟩
       ·subst bh;simp at hle;omega
       ·rw[he]at bh;cases bh
      ·omega
     split at h
     ·cases h;cases r6 with
      |none=>
       have an:=Gy (P:=E.P) (w:=w) (Dh:=true) (cap:=cap) nm nP ew r5 iL aa;refine⟨.slice (if cap=l then a else a.map (·.add (l*aD))) (aV-l) (cap-l),by simp[wF,run_underlying hu,AE,an,(hr bp w).1],?_⟩;refine .ref c g (off+l) (aV-l) _ cD ?_ ?_ ⟨_,_,rfl⟩ aR
       ·intro iU dv io h;rw[aT]at h;cases h;refine⟨aa,_,_,rfl,?_⟩;rcases fR with⟨he,gL⟩|⟨b,m,he,p,U,az⟩
        ·exact .inl ⟨he,aa⟩
        ·refine .inr ⟨b,m,he,aa,by rw[show off+l+(cap-l)=off+cap by omega];exact U,?_⟩;by_cases yp:cap=l
         ·right;omega
         ·rw[if_neg yp];rcases az with rfl|⟨bh,bF⟩
          ·left;simp[l1,hT]
          ·right;omega
       ·intro _ _ _ h;rw[aT]at h;cases h
     next aU1=>
      split at h
      next b6 hm=>
       split at h
       next hk=>
        cases h;obtain rfl:=hk.1;cases r6 with
        |some b_ gJ hq=>
         have an:=OA (P:=E.P) (w:=w) (cap:=cap) nm nP hm ew r5 hq iL aa hk.2;refine⟨.slice (if aV=l then a else a.map (·.add (l*aD))) (aV-l) (aV-l),by simp[wF,run_underlying hu,AE,an,(hr bp w).1],?_⟩;refine .ref c g (off+l) (aV-l) _ cD ?_ ?_ ⟨_,_,rfl⟩ aR
         ·intro iU dv io h;rw[aT]at h;cases h;refine⟨aa,_,_,rfl,?_⟩;rcases fR with⟨he,gL⟩|⟨b,m,he,p,U,az⟩
          ·exact .inl ⟨he,aa⟩
          ·refine .inr ⟨b,m,he,aa,s6 (kF _ aa) U,?_⟩;by_cases yp:aV=l
           ·right;omega
           ·rw[if_neg yp];rcases az with rfl|⟨bh,bF⟩
            ·left;simp[l1,hT]
            ·right;omega
         ·intro _ _ _ h;rw[aT]at h;cases h
       ·cases h
      ·cases h
   ·cases h
  next e aD a6 rows ex aU aT=>
   have hu:=iV aU;split at h
   next aj=>
    obtain⟨rfl,bp,aU2⟩:=aj;cases r with
    |ref c g off len v cD s9 aN ax aR=>
     obtain⟨hle,mC⟩:=aN _ _ _ aT;have Di:((rows.drop off).take len).length=len:=by simp;omega
     have AF:∃a cap,y=.slice a len cap∧len≤cap:=by
      cases ap:y with
      |slice a n cap=>
       rw[ap]at mC;have:n=len∧len≤cap:=by
        generalize aU3:(rows.drop off).take len=gu at mC Di;cases mC with
        |nil aD ex a cap ap=>simp at Di;omega
        |af aD rows ex b off cap cs elem bs dn cr aj ap ak p U=>omega
       exact⟨a,cap,by rw[this.1],this.2⟩
      |_=>obtain⟨a,m,a8⟩:=ax;rw[ap]at a8;cases a8
     obtain⟨a,cap,rfl,j4⟩:=AF;have aM:(((rows.drop off).take len).drop l).take (aV-l)=(rows.drop (off+l)).take (aV-l):=by
      rw[List.drop_take,List.take_take,JX]
      congr 1;omega
     split at h
     ·cases h;cases r6 with
      |none=>
       have an:=Gy (P:=E.P) (w:=w) (Dh:=true) (cap:=cap) nm nP ew r5 iL aa;have ax:=JU (m:=cap) (size:=aD) (gK:=ex &&decide (off+aV=rows.length)) mC iL aa aa (cS _) (.inr rfl) λ he=>by simp only[c',decide_eq_true_eq]at he;refine .inr ⟨?_,aa,rfl⟩;simp only[c',decide_eq_true_eq];exact⟨he.1,aa⟩
       rw[aM]at ax;exact⟨_,by simp[wF,run_underlying hu,AE,an,(hr bp w).1],.i _ _ ax⟩
     next m=>
      split at h
      next b6 hm=>
       split at h
       next hk=>
        cases h;obtain rfl:=hk.1;cases r6 with
        |some b_ gJ hq=>
         have an:=OA (P:=E.P) (w:=w) (cap:=cap) nm nP hm ew r5 hq iL aa hk.2;have ax:=JU (m:=aV) (size:=aD) (gK:=true) mC iL aa (cS _) aa (.inr rfl) λ _=>.inl rfl
         rw[aM]at ax;exact⟨_,by simp[wF,run_underlying hu,AE,an,(hr bp w).1],.i _ _ ax⟩
       ·cases h
      ·cases h
   ·cases h
  ·cases h
 next c g off len=>
  simp only[p_,br]at hlen;subst hlen;split at h;rotate_left
  ·cases h
  rename_i Vu;unfold Oc at h;split at h;rotate_left
  ·cases h
  rename_i z a6 s rows eQ aT;split at h;rotate_left
  ·cases h
  rename_i aR;subst aR;cases h;cases r6 with
  |some=>simp at Vu
  |none=>
   simp only[Dj]at eQ;obtain⟨e,alZ,bp⟩:=eQ;have hu:=iV alZ;cases r with
   |x k v ak aN=>
    obtain⟨cD,_,ap⟩:=ak;obtain⟨hle,a,cap,rfl,fR⟩:=(ap _ _ _ _ aT).2 rfl;have j4:len≤cap:=by
     rcases fR with⟨he,gL⟩|⟨b,m,he,p,_,_⟩
     ·rcases au.ch _ _ aT with⟨_,bh⟩|⟨b,_,_,_,bh,_⟩
      ·subst bh;simp at hle;omega
      ·rw[he]at bh;cases bh
     ·omega
    have an:=Gy (P:=E.P) (w:=w) (Dh:=true) (cap:=cap) nm nP ew r5 iL aa;refine⟨.slice (if cap=l then a else a.map (·.add (l*1))) (aV-l) (cap-l),by simp[wF,run_underlying hu,AE,an,(hr bp w).1],?_⟩;refine .x _ _ ⟨cD,⟨_,_,rfl⟩,λ z2 g2 s2 dv px=>?_⟩ (.aE aT);rw[aT]at px;cases px;refine⟨cS _,λ _=>⟨aa,_,_,rfl,?_⟩⟩;rcases fR with⟨he,gL⟩|⟨b,m,he,p,U,az⟩
    ·exact .inl ⟨he,aa⟩
    ·refine .inr ⟨b,m,he,aa,aa,?_⟩;by_cases yp:cap=l
     ·right;omega
     ·rw[if_neg yp];rcases az with rfl|⟨bh,bF⟩
      ·left;simp[l1]
      ·right;omega
 ·cases h
def GA{aD:Nat}{rows:cb}{ex:Bool}{y:Value}(h:dH ad (.af aD rows ex) y):∃a cap,y=.slice a rows.length cap:=by
 cases h with
 |nil=>exact⟨_,_,rfl⟩
 |af=>exact⟨_,_,rfl⟩
def OB{c g off len:Nat}{y:Value}(r:bf ad ae H (.ref c g off len) y):∃a cap,y=.slice a len cap:=by cases r;assumption
def al0{s d:TypeId}{x v:ay}{y:Value}(h:nJ E s d x=j v)(r:bf ad ae H x y):∃u,(convert s d y).run E.P w=.ok u w∧bf ad ae H v u:=by
 unfold nJ at h;split at h
 next k n=>
  rw[ga r];split at h
  next b dr an aA=>
   cases h;have aU:∃c4,E.P.underlying s=j c4:=by simp only[k1,dp]at an;obtain⟨c4,mB,_⟩:=an;exact⟨c4,mB⟩
   obtain⟨c4,mB⟩:=aU;exact⟨_,by simp[convert,run_underlying mB,run_underlying (Db aA),Conv.intToInt],nh⟩
  next b an aA=>
   split at h
   next aP=>
    cases h;have aU:∃c4,E.P.underlying s=j c4:=by simp only[k1,dp]at an;obtain⟨c4,mB,_⟩:=an;exact⟨c4,mB⟩
    obtain⟨c4,mB⟩:=aU;exact⟨.string (JA n),by simp[convert,run_underlying mB,run_underlying (s7 aP),Conv.intToString],by
     have:=Da (ad:=ad) (ae:=ae) (H:=H) (l:=(JA n).data.toList);exact this⟩
   ·cases h
  ·cases h
 ·split at h
  next aj=>cases h;rw[q8 r];exact⟨_,by simp[convert,run_underlying (s7 aj.1),run_underlying (s7 aj.2)],Da⟩
  ·cases h
 ·cases h
def al1{a b v:ay}{x y:Value}(P:Program)(h:F_ a b=j v)(fE:bf ad ae H a x)(iX:bf ad ae H b y):∃u,(Builtin.max2 x y).run P w=.ok u w∧bf ad ae H v u:=by
 unfold F_ at h;split at h
 next k a dr b=>cases h;rw[ga fE,ga iX];refine⟨.int k (max a b),?_,nh⟩;have:(if b>a then b else a)=max a b:=aa;simp only[Builtin.max2,e8,this]
 ·cases h
def al2{a b v:ay}{x y:Value}(P:Program)(h:F' a b=j v)(fE:bf ad ae H a x)(iX:bf ad ae H b y):∃u,(Builtin.min2 x y).run P w=.ok u w∧bf ad ae H v u:=by
 unfold F' at h;split at h
 next k a dr b=>cases h;rw[ga fE,ga iX];refine⟨.int k (min a b),?_,nh⟩;have:(if b<a then b else a)=min a b:=aa;simp only[Builtin.min2,e8,this]
 ·cases h
def Vv(f:ay→ay→dX):∀l:aZ,l.foldl (λ acc x=>match acc with|some y=>f y x|none=>o) o=o
 |[]=>rfl
 |_::l=>Vv f l
def Vw(P:Program){f:ay→ay→dX}{g:Value→Value→Sem Value}(JY:∀{a b v:ay} {x y:Value},f a b=j v→bf ad ae H a x→bf ad ae H b y→∃u,(g x y).run P w=.ok u w∧bf ad ae H v u):
  ∀(l:aZ) (m:k8) (a v:ay) (x:Value),l.length=m.length→(∀(k:Nat) (b:ay) (y:Value),l[k]?=j b→m[k]?=j y→bf ad ae H b y)→bf ad ae H a x→
   l.foldl (λ acc x=>match acc with|some y=>f y x|none=>o) (j a)=j v→∃u,(m.foldlM g x).run P w=.ok u w∧bf ad ae H v u
 |[],[],a,v,x,_,_,fE,h=>by simp at h;subst h;exact⟨x,aX,fE⟩
 |[],_::_,_,_,_,h,_,_,_=>by simp at h
 |_::_,[],_,_,_,h,_,_,_=>by simp at h
 |b::l,y::m,a,v,x,ao,ak,fE,h=>by
  simp only[vd]at h;cases aN:f a b with
  |none=>rw[aN,Vv]at h;cases h
  |some c=>rw[aN]at h;obtain⟨u,hu,al3⟩:=JY aN fE (ak 0 b y rfl rfl);obtain⟨z,bp,l4⟩:=Vw P JY l m c v u (by simpa using ao) (λ k b y p U=>ak (k+1) b y (by simpa using p) (by simpa using U)) al3 h;exact⟨z,by simp[List.foldlM_cons,hu,bp],l4⟩
def ve{a:ay}{y:Value}(r:bf ad ae H a y)(ci:(cU a).all one=ah):
  y.cells.size=(cU a).length∧(∀(k:Nat) (c:ay),(cU a)[k]?=j c→bf ad ae H c (y.cells.getD k undef))∧∀k,k<y.cells.size→(y.cells.getD k undef).oneCell'=ah:=by
 have key:∀a,one a=ah→bf ad ae H a y→(y.cells.size=1∧(∀(k:Nat) (c:ay),[a][k]?=j c→bf ad ae H c (y.cells.getD k undef))∧∀k,k<y.cells.size→(y.cells.getD k undef).oneCell'=ah):=by
  intro a p r;have bb:=JI r p;have:y.cells=#[y]:=by cases y<;>simp_all [s_,OC]
  rw[this];refine⟨rfl,λ k c aj=>?_,λ k aA=>?_⟩
  ·cases k with
   |zero=>simp at aj;subst aj;simpa using r
   |succ k=>simp at aj
  ·simp at aA;subst aA;simpa using bb
 cases a with
 |agg cells=>obtain⟨cs,rfl,p,U⟩:=wA r;refine⟨p,U,λ k aA=>?_⟩;simp only[s_]at aA;have bg:k<cells.length:=aa;have az:=U k cells[k] (by simp[bg]);simp only[cU,py]at ci;exact JI az (ci _ (oi bg))
 |dead=>simp[cU,one]at ci
 |bl=>simp[cU,one]at ci
 |i x=>exact key _ (by simpa[cU]using ci) r
 |ref=>exact key _ (by simpa[cU]using ci) r
 |ptr=>exact key _ (by simpa[cU]using ci) r
 |dV=>exact key _ (by simpa[cU]using ci) r
 |x=>exact key _ (by simpa[cU]using ci) r
 |aS=>exact key _ (by simpa[cU]using ci) r
def vf(ad:cn)(ae:cj)(H:ab)(cells:aZ)(cs:Array Value):Prop:=cs.size=cells.length∧∀(k:Nat) (a:ay),cells[k]?=j a→bf ad ae H a (cs.getD k undef)
def Vx(off:Nat):∀(vs:k8) (ac:Nat) (cs:Array Value),off+ac+vs.length≤cs.size→
  ((vs.zipIdx ac).foldl (λ cs (I:Value×Nat)=>cs.setIfInBounds (off+I.2) I.1) cs).size=cs.size∧
  ∀k,((vs.zipIdx ac).foldl (λ cs (I:Value×Nat)=>cs.setIfInBounds (off+I.2) I.1) cs)[k]?=if off+ac≤k∧k<off+ac+vs.length then vs[k-(off+ac)]? else cs[k]?
 |[],ac,cs,_=>by simp;intro k p U;omega
 |v::vs,ac,cs,h=>by
  simp only[da]at h;simp only[List.zipIdx_cons,vd];obtain⟨p,U⟩:=Vx off vs (ac+1) (cs.setIfInBounds (off+ac) v) (by rw[Array.size_setIfInBounds];omega);refine⟨by rw[p];simp,λ k=>?_⟩;rw[U];by_cases aA:k=off+ac
  ·subst aA;rw[if_neg aa,if_pos (by constructor<;>simp)];have:off+ac<cs.size:=aa;simp[this]
  ·by_cases ak:off+(ac+1)≤k∧k<off+(ac+1)+vs.length
   ·rw[if_pos ak,if_pos (by simp;omega)];rw[show k-(off+ac)=(k-(off+(ac+1)))+1 by omega];simp
   ·rw[if_neg ak,if_neg (by simp;omega)];rw[Array.getElem?_setIfInBounds_ne aa]
def al4(vs cs:Array Value)(off:Nat):vs.zipIdx.foldl (λ cs (c,ac)=>cs.setIfInBounds (off+ac) c) cs=(vs.toList.zipIdx 0).foldl (λ cs (I:Value×Nat)=>cs.setIfInBounds (off+I.2) I.1) cs:=by rw[←Array.foldl_toList,Array.toList_zipIdx]
def Vy{l new:aZ}{k ac:Nat}(h:k+new.length≤l.length):(qa l k new)[ac]?=if k≤ac∧ac<k+new.length then new[ac-k]? else l[ac]?:=by
 unfold qa;by_cases p:ac<k
 ·rw[if_neg aa,eo,eO (by simp;omega),oQ,if_pos p]
 ·by_cases U:ac<k+new.length
  ·rw[if_pos aa,eo,hK (by simp;omega),eO (by simp;omega)]
   congr 1;simp;omega
  ·rw[if_neg aa,eo,hK (by simp;omega),hK (by simp;omega),s8]
   congr 1;simp;omega
def OD{l new:aZ}{k:Nat}(h:k+new.length≤l.length):(qa l k new).length=l.length:=by unfold qa;simp;omega
def Vz{cells:aZ}{cs:Array Value}(aj:vf ad ae H cells cs){a:ay}{y:Value}(r:bf ad ae H a y)(ci:(cU a).all one=ah){off:Nat}(hle:off+(cU a).length≤cells.length):
  vf ad ae H (qa cells off (cU a)) (y.cells.zipIdx.foldl (λ cs (c,ac)=>cs.setIfInBounds (off+ac) c) cs):=by
 obtain⟨p,U,_⟩:=ve r ci;rw[al4];obtain⟨az,bh⟩:=Vx off y.cells.toList 0 cs (by simp;rw[aj.1,p];omega);refine⟨by rw[az,OD hle,aj.1],λ k b an=>?_⟩;rw[Vy hle]at an;rw[dM,bh];simp only[fr,wG,p];split at an
 next aA=>rw[if_pos aA];have:=U _ _ an;rwa [dM,←nM]at this
 next aA=>rw[if_neg aA];have:=aj.2 _ _ an;rwa [dM]at this
def Dk(ad:cn)(ae:cj)(H:ab)(bn:eu)(kh:List (Nat×Value)):Prop:=bn.length=kh.length∧∀(k:Nat) (I:Nat×ay) (q:Nat×Value),bn[k]?=j I→kh[k]?=j q→I.1=q.1∧bf ad ae H I.2 q.2
def OE{z:Nat}:∀{bn:eu} {kh:List (Nat×Value)} {cells out:aZ} {cs:Array Value},Dk ad ae H bn kh→vf ad ae H cells cs→f_ z cells bn=j out→
  ∃c4,JZ (λ i=>j (i*z,z)) cs kh=j c4∧vf ad ae H out c4
 |[],[],cells,out,cs,_,aj,h=>by simp[f_]at h;subst h;exact⟨cs,rfl,aj⟩
 |[],_::_,_,_,_,ax,_,_=>by have:=ax.1;simp at this
 |_::_,[],_,_,_,ax,_,_=>by have:=ax.1;simp at this
 |(i,a)::bn,(ac,y)::kh,cells,out,cs,ax,aj,h=>by
  simp only[f_]at h;split at h
  next aA=>
   obtain⟨Dl,hU,wH⟩:=aA;obtain⟨e,r⟩:=ax.2 0 _ _ rfl rfl;simp only at e r;subst e;obtain⟨p,_,_⟩:=ve r wH;have OF:=Vz aj r wH (off:=i*z) aa;obtain⟨c4,U,az⟩:=OE (z:=z) ⟨by have:=ax.1;simpa using this,λ k I q bh bF=>ax.2 (k+1) I q (by simpa using bh) (by simpa using bF)⟩ OF h;refine⟨c4,?_,az⟩;simp only[JZ];rw[if_neg]
   ·exact U
   ·simp only[yq,decide_eq_true_eq,not_or,ne_eq];rw[aj.1,p];omega
  ·cases h
def VA{pl:iI}:∀{bn:eu} {kh:List (Nat×Value)} {cells out:aZ} {cs:Array Value},Dk ad ae H bn kh→vf ad ae H cells cs→jr pl cells bn=j out→
  ∃c4,JZ (pl[·]?) cs kh=j c4∧vf ad ae H out c4
 |[],[],cells,out,cs,_,aj,h=>by simp[jr]at h;subst h;exact⟨cs,rfl,aj⟩
 |[],_::_,_,_,_,ax,_,_=>by have:=ax.1;simp at this
 |_::_,[],_,_,_,ax,_,_=>by have:=ax.1;simp at this
 |(i,a)::bn,(ac,y)::kh,cells,out,cs,ax,aj,h=>by
  simp only[jr]at h;split at h
  next off z yr=>
   split at h
   next aA=>
    obtain⟨Dl,hU,wH⟩:=aA;obtain⟨e,r⟩:=ax.2 0 _ _ rfl rfl;simp only at e r;subst e;obtain⟨p,_,_⟩:=ve r wH;have OF:=Vz aj r wH (off:=off) aa;obtain⟨c4,U,az⟩:=VA (pl:=pl) ⟨by have:=ax.1;simpa using this,λ k I q bh bF=>ax.2 (k+1) I q (by simpa using bh) (by simpa using bF)⟩ OF h;refine⟨c4,?_,az⟩;simp only[JZ,yr];rw[if_neg]
    ·exact U
    ·simp only[yq,decide_eq_true_eq,not_or,ne_eq];rw[aj.1,p];omega
   ·cases h
  ·cases h
def ys{P:Program}{t:TypeId}{z:ay}(h:ls P t=j z)(w:World):∃v,(zeroValue t).run P w=.ok v w∧z=kz v:=by simp only[ls,dp,Dj]at h;obtain⟨v,⟨i,aB,bp⟩,rfl⟩:=h;exact⟨v,by simp[zeroValue,run_typeInfo w aB,bp],rfl⟩
def VB{P:Program}(w:World):∀{fb:List Field} {pl:iI},(fb.mapM λ f=>(gp P f.type).map λ z=>(f.offset,z))=j pl→
  (fb.mapM λ f=>(do pure (f.offset,←sizeOf f.type):Sem (Nat×Nat))).run P w=.ok pl w
 |[],pl,h=>by simp at h;subst h;simp
 |f::fb,pl,h=>by rw[OG]at h;simp only[bind,Dj,dp,pure,br]at h;obtain⟨I,⟨z,bp,rfl⟩,aU4,yr,rfl⟩:=h;have a':=VB w yr;rw[OG];simp only[ep,(hr bp w).1,eM,e8]at a'⊢;rw[a'];simp
def al5{t:TypeId}{bn:eu}{kh:Array (Nat×Value)}{v:ay}(h:jJ E t bn=j v)(ax:Dk ad ae H bn kh.toList):∃u,(Instr.build t kh).run E.P w=.ok u w∧bf ad ae H v u:=by
 unfold jJ at h;split at h
 next zero bp=>
  obtain⟨eB,yt,tY⟩:=ys bp w;have J0:bf ad ae H (.agg zero) eB:=by rw[tY];exact tX eB
  obtain⟨l5,rfl,p,U⟩:=wA J0;have aj:vf ad ae H zero l5:=⟨p,U⟩;split at h
  next n e aF=>
   split at h
   next z eQ=>simp only[dp]at h;obtain⟨out,OH,rfl⟩:=h;obtain⟨c4,az,bh⟩:=OE ax aj OH;refine⟨.agg c4,?_,.agg _ _ bh.1 bh.2⟩;simp[Instr.build,yt,run_underlying (JJ aF),(hr eQ w).1,s_,az]
   ·cases h
  ·split at h
   next pl yr=>
    simp only[dp]at h;obtain⟨out,OH,rfl⟩:=h;obtain⟨c4,az,bh⟩:=VA ax aj OH;refine⟨.agg c4,?_,.agg _ _ bh.1 bh.2⟩;unfold Jw at yr;split at yr
    next fb hu=>
     have hm:=VB w yr;have J1:(fb.mapM λ f=>(do pure (f.offset,←sizeOf f.type):Sem (Nat×Nat))).run E.P w=.ok pl.toArray w:=by rw[←Array.toArray_toList (xs:=fb),List.mapM_toArray,Sem.run_map,hm];rfl
     simp only[Instr.build,ep,yt,eM,run_underlying hu,s_];rw[J1];simp[az]
    ·cases yr
   ·cases h
 ·cases h
end
section
variable{E:Env}{ad:cn}{ae:cj}{H:ab}{w:World}
def VC{α:Type}{a:Array α}{x:α}(h:a.toList=[x]):a=#[x]:=by cases a;simp_all
def J2{α:Type}{a:Array α}{x y:α}(h:a.toList=[x,y]):a=#[x,y]:=by cases a;simp_all
def getD_map(f:Operand→Value)(l:Array Operand)(k:Nat)(h:k<l.size):(l.map f).getD k undef=f l[k]:=by simp[h]
def VD(P:Program){f:ay→ay→dX}{g:Value→Value→Sem Value}(JY:∀{a b v:ay} {x y:Value},f a b=j v→bf ad ae H a x→bf ad ae H b y→∃u,(g x y).run P w=.ok u w∧bf ad ae H v u)
  (l:aZ)(m:k8)(v:ay)(ao:l.length=m.length)(ak:∀(k:Nat) (b:ay) (y:Value),l[k]?=j b→m[k]?=j y→bf ad ae H b y)(e:Sem Value)(h:p' f l=j v):
  ∃u,((match m with|[]=>e|x::rest=>rest.foldlM g x:Sem Value)).run P w=.ok u w∧bf ad ae H v u:=by
 cases l with
 |nil=>simp[p']at h
 |cons a l=>
  cases m with
  |nil=>simp at ao
  |cons x m=>simp only[p']at h;exact Vw P JY l m a v x (by simpa using ao) (λ k b y p U=>ak (k+1) b y (by simpa using p) (by simpa using U)) (ak 0 a x rfl rfl) h
def ps.mono{aQ:cn}{aG:cj}{aq:ab}{av:World}{c:Nat}{x:Chunk}(h:ps ad ae H w c x)(qe:∀r,aG ⟨c,r⟩=ae ⟨c,r⟩)(cr:ad.le aQ)(hm:fz ad ae H aQ aG aq)
  (ra:∀r b n,ae ⟨c,r⟩=j (b,n)→av.heap[b]?=w.heap[b]?):ps aQ aG aq av c x:=by
 have he:aG c=ae c:=qe 0;have hw:∀b n,ae c=j (b,n)→av.heap[b]?=w.heap[b]?:=ra 0;cases x with
 |box cells=>obtain⟨b,cs,elem,bs,p,U,az,bh,bF⟩:=h;exact⟨b,cs,elem,bs,by rw[he];exact p,by rw[hw _ _ p];exact U,az,bh,λ k a aF=>hm _ _ (bF k a aF)⟩
 |af aD g rows ex=>
  obtain⟨p,U,az⟩:=h;refine⟨λ e=>he.trans (p e),U,?_⟩;rcases az with⟨bh,bF⟩|⟨b,cs,elem,bs,bh,bF,dN,g',hC,ha⟩
  ·exact .inl ⟨by rw[he];exact bh,bF⟩
  ·exact .inr ⟨b,cs,elem,bs,by rw[he];exact bh,by rw[hw _ _ bh];exact bF,dN,g',hC,λ i r k a aB aF=>(ha i r k a aB aF).mono cr⟩
 |bs aD g rows ex=>exact(he.trans h:aG c=o)
 |iter s I=>obtain⟨b,p,U⟩:=h;exact⟨b,by rw[he];exact p,by rw[hw _ _ p];exact U⟩
 |map es=>obtain⟨b,h7,aO,p,U,az⟩:=h;exact⟨b,h7,aO,by rw[he];exact p,by rw[hw _ _ p];exact U,az.mono cr hm⟩
 |dm t cells=>obtain⟨b,cs,p,U,bh,bF⟩:=h;exact⟨b,cs,by rw[he];exact p,by rw[hw _ _ p];exact U,bh,λ k a aF=>hm _ _ (bF k a aF)⟩
 |kc t l=>obtain⟨b,cs,p,U,az⟩:=h;exact⟨b,cs,by rw[he];exact p,by rw[hw _ _ p];exact U,az⟩
 |gone=>exact(he.trans h:aG c=o)
 |fd=>exact(he.trans h:aG c=o)
 |aE z g s rows=>
  rcases h with⟨p,U⟩|⟨b,cs,elem,bs,p,U,az,bh,bF⟩
  ·exact .inl ⟨by rw[he];exact p,U⟩
  ·exact .inr ⟨b,cs,elem,bs,by rw[he];exact p,by rw[hw _ _ p];exact U,az,bh,λ r y bb=>(bF r y bb).mono (qe _) cr (ra _)⟩
def cz(E:Env)(ad:cn)(ae:cj)(H:ab)(w:World)(aq:ab)(av:World)(Q:cn→cj→Prop):Prop:=
 ∃aQ aG,cf E aQ aG aq av∧Trans ad ae w aQ aG av∧fz ad ae H aQ aG aq∧Q aQ aG
def cz.refl{Q:cn→cj→Prop}(au:cf E ad ae H w)(h:Q ad ae):cz E ad ae H w H w Q:=⟨ad,ae,au,Trans.refl _ _ _,fz.refl _ _ _,h⟩
def cz.imp{aq:ab}{av:World}{Q yu:cn→cj→Prop}(h:cz E ad ae H w aq av Q)(bu:∀aQ aG,ad.le aQ→fz ad ae H aQ aG aq→Q aQ aG→yu aQ aG):cz E ad ae H w aq av yu:=by obtain⟨aQ,aG,p,U,az,bh⟩:=h;exact⟨aQ,aG,p,U,az,bu _ _ U.ei az bh⟩
def J3{α:Type}{l:List α}{al n i:Nat}{r:α}(h:((l.drop al).take n)[i]?=j r):l[al+i]?=j r∧i<n:=by
 rw[oQ]at h;split at h
 next aB=>rw[s8]at h;exact⟨h,aB⟩
 ·cases h
def OI{aQ:cn}{aD:Nat}{rows:cb}{b:Nat}{cs:Array Value}{elem:TypeId}{bs:Nat×Nat}(cr:aQ b=j (.cells cs elem bs))
  (ak:∀(i:Nat) (r:cZ),rows[i]?=j r→r.length=aD)(hle:rows.length*aD≤cs.size)
  (h:∀(i:Nat) (r:cZ) (k:Nat) (a:bx),rows[i]?=j r→r[k]?=j a→dH aQ a (cs.getD (i*aD+k) undef)):
  (∀off len cap ex,off+len≤rows.length→len≤cap→(ex=ah→cap=len)→dH aQ (.af aD ((rows.drop off).take len) ex) (.slice (j ⟨b,off*aD,o⟩) len cap))∧
  (∀r row k,rows[r]?=j row→dH aQ (.gR row k) (.pointer (j ⟨b,r*aD+k,o⟩))):=by
 have bg:∀(i:Nat) (r:cZ) (k:Nat) (a:bx),rows[i]?=j r→r[k]?=j a→i*aD+k<cs.size:=by intro i r k a aB aF;have p:=ak _ _ aB;have U:=(bQ.1 aB).1;have az:=(bQ.1 aF).1;have:(i+1)*aD≤rows.length*aD:=kF _ U;rw[hT]at this;omega
 constructor
 ·intro off len cap ex ci aj ap;have hlen:((rows.drop off).take len).length=len:=by simp;omega
  have:=dH.af (ad:=aQ) aD ((rows.drop off).take len) ex b (off*aD) cap cs elem bs (λ i k=>cs.getD ((off+i)*aD+k) undef) cr aa (λ he=>by rw[ap he,hlen])
   (λ i r aB=>ak _ _ (J3 aB).1)
   (λ i r k a aB aF=>by
    have p:=(J3 aB).1;rw[show off*aD+i*aD+k=(off+i)*aD+k by rw[hT]];exact getD_eq _ _ (bg _ _ _ _ p aF))
   (λ i r k a aB aF=>h _ _ _ _ (J3 aB).1 aF)
  rwa [hlen]at this
 ·intro r row k b2;exact .gR row k b (r*aD) cs elem bs (λ k=>cs.getD (r*aD+k) undef) cr (λ k a aF=>getD_eq _ _ (bg _ _ _ _ b2 aF)) (λ k a aF=>h _ _ _ _ b2 aF)
def gb{H:ab}{c:Nat}{x y:Chunk}{d:Nat}(h:(H.set c x)[d]?=j y):(d=c∧y=x)∨(d≠c∧H[d]?=j y):=by
 by_cases aP:d=c
 ·subst aP;rw[List.getElem?_set_self']at h;cases aT:H[d]? with
  |none=>rw[aT]at h;cases h
  |some z=>rw[aT]at h;simp at h;exact .inl ⟨rfl,h.symm⟩
 ·rw[dW (bi aP)]at h;exact .inr ⟨aP,h⟩
def al6{H:ab}{c:Nat}{x:Chunk}(h:H[c]?=j x):H.set c x=H:=by obtain⟨ao,rfl⟩:=bQ.1 h;exact Dm ao
def VE(au:cf E ad ae H w){c z g s r:Nat}{rows:c0}{b4:cb}(aT:H[c]?=j (.aE z g s rows))(ak:rows[r]?=j (.own b4)):
  cz E ad ae H w (H.set c (.aE z g s (rows.set r (.ek (.af z b4 J))))) w λ aQ _=>∀v,ww ae z c r b4 v→dH aQ (.af z b4 J) v:=by
 have cD:c<H.length:=(bQ.1 aT).1;have fM:r<rows.length:=(bQ.1 ak).1;have ki:∀(i:Nat) (y:er),(rows.set r (.ek (.af z b4 J)))[i]?=j y→(i=r∧y=.ek (.af z b4 J))∨(i≠r∧rows[i]?=j y):=by
  intro i y aB;by_cases oj:i=r
  ·subst oj;rw[k9 fM]at aB;cases aB;exact .inl ⟨rfl,rfl⟩
  ·rw[dW (bi oj)]at aB;exact .inr ⟨oj,aB⟩
 have lF:=au.ch _ _ aT;rcases lF with⟨_,a8⟩|⟨dj,yv,du,OJ,J4,t_,OK,OL,Dn⟩
 ·subst a8;simp at ak
 obtain⟨al7,fR⟩:=Dn _ _ ak;have fin:∀(aQ:cn) (aG:cj),ad.le aQ→(∀i,i≠⟨c,r+1⟩→aG i=ae i)→(∀i b n,aG i=j (b,n)→ae i=j (b,n))→(∀b al,aQ b=j al→w.heap[b]?=j al)→(∀i b n,aG i=j (b,n)→aQ b=o)→
   (∀b,aQ b≠o→ad b≠o∨∃(i:fK) (n:Nat),ae i=j (b,n))→(∀v,ww ae z c r b4 v→dH aQ (.af z b4 J) v)→cz E ad ae H w (H.set c (.aE z g s (rows.set r (.ek (.af z b4 J))))) w λ aQ _=>∀v,ww ae z c r b4 v→dH aQ (.af z b4 J) v:=by
  intro aQ aG hle ct l6 al8 al9 gd hrel;have hm:fz ad ae H aQ aG (H.set c (.aE z g s (rows.set r (.ek (.af z b4 J))))):=by
   refine ng hle aX λ d aP=>?_
   by_cases e9:d=c
   ·subst e9;intro y bb;rcases gb bb with⟨_,rfl⟩|⟨e,_⟩
    ·intro ds a6 dB e3 l2;rcases gb l2 with⟨_,e⟩|⟨e,_⟩
     ·cases e;refine .inl ⟨s,rows,aT,ct _ aX,aX,.inr ⟨rfl,λ i q5 aB=>?_⟩⟩;rcases ki _ _ aB with⟨_,e⟩|⟨ar,aM⟩
      ·cases e
      ·exact⟨q5,aM,rfl,ct _ (by simp;exact ar)⟩
     ·exact absurd rfl e
    ·exact absurd rfl e
   ·exact jw.same (by rw[dW (bi e9)]) (λ hq=>ct _ (by simp[e9]))
  refine⟨aQ,aG,⟨al8,λ d x aP=>?_,λ i ac b n dT p U=>au.inj _ _ _ _ _ (l6 _ _ _ p) (l6 _ _ _ U),λ i b n h=>?_,λ g cells aR=>(au.fv g cells aR).mono hle⟩,
   ⟨rfl,rfl,rfl,cS _,λ _ _ _=>rfl,hle,λ b an=>?_,λ i b n h=>.inr ⟨_,_,l6 _ _ _ h⟩⟩,hm,hrel⟩
  ·rcases gb aP with⟨rfl,rfl⟩|⟨p,U⟩
   ·refine .inr ⟨dj,yv,du,OJ,by rw[←J4];exact ct _ aX,t_,OK,by simpa using OL,λ i y aB=>?_⟩;rcases ki _ _ aB with⟨rfl,rfl⟩|⟨ar,aM⟩
    ·exact hrel _ (Dn _ _ ak).Vc
    ·exact(Dn _ _ aM).mono (ct _ (by simp;exact ar)) hle (λ _ _ _=>rfl)
   ·exact(au.ch _ _ U).mono (λ hq=>ct _ (by simp[p])) hle hm (λ _ _ _ _=>rfl)
  ·have:=au.sep _ _ _ (l6 _ _ _ h);exact⟨al9 _ _ _ h,this.2.1,by simpa using this.2.2⟩
  ·rcases gd b an with p|p
   ·exact .inl p
   ·exact .inr (.inr p)
 rcases fR with⟨rfl,_⟩|⟨b,cs,elem,bs,ct,bo,hw,hs,bp,eN⟩
 ·refine fin ad ae (λ _ _ h=>h) (λ _ _=>rfl) (λ _ _ _ h=>h) au.ei (λ i b n h=>(au.sep _ _ _ h).1) (λ b an=>.inl an) λ v bo=>?_
  rcases bo with⟨_,a,cap,rfl⟩|⟨b,n,_,cap,rfl,_⟩
  ·exact .nil _ _ _ _ (λ h=>by cases h)
  ·exact .nil _ _ _ _ (λ h=>by cases h)
 ·have al_:=(au.sep _ _ _ ct).1
  let aQ:cn:=λ b0=>if b0=b then j (.cells cs elem bs)else ad b0
  let aG:cj:=λ i=>if i=⟨c,r+1⟩then o else ae i
  have vg:aQ b=j (.cells cs elem bs):=by simp[aQ]
  have hle:ad.le aQ:=by
   intro b0 al an;by_cases fG:b0=b
   ·subst fG;rw[al_]at an;cases an
   ·simp[aQ,fG,an]
  have l6:∀i b n,aG i=j (b,n)→ae i=j (b,n):=by
   intro i b n h;simp only[aG]at h;split at h
   ·cases h
   ·exact h
  refine fin aQ aG hle (λ i aB=>by simp[aG,aB]) l6 (λ b0 al an=>?_) (λ i b0 n h=>?_) (λ b0 an=>?_) λ v bo=>?_
  ·by_cases fG:b0=b
   ·subst fG;rw[vg]at an;cases an;exact hw
   ·simp[aQ,fG]at an;exact au.ei _ _ an
  ·have p:=l6 _ _ _ h;have fG:b0≠b:=by rintro rfl;have:=au.inj _ _ _ _ _ p ct;subst this;simp[aG]at h
   simp[aQ,fG,(au.sep _ _ _ p).1]
  ·by_cases fG:b0=b
   ·exact .inr ⟨_,_,by rw[fG];exact ct⟩
   ·simp[aQ,fG]at an;exact .inl (by simpa using an)
  ·rcases bo with⟨rfl,a,cap,rfl⟩|⟨dZ,n,p,cap,rfl,U,az⟩
   ·exact .nil _ _ _ _ (λ h=>by cases h)
   ·rw[ct]at p;cases p;have hlen:b4.length*z≤cs.size:=s6 (kF _ U) az;have:=(OI (aQ:=aQ) vg al7 hlen (λ i row k a aB aF=>(eN i row k a aB aF).mono hle)).1 0 b4.length cap J aa U (λ h=>by cases h);simpa using this
def OM{z g s c:Nat}:∀(t':c0) (pre:cZ) {ad:cn} {ae:cj} {H:ab},cf E ad ae H w→H[c]?=j (.aE z g s (pre.map er.ek++t'))→∀xs,rQ z t'=j xs→
  cz E ad ae H w (H.set c (.aE z g s ((pre++xs).map er.ek))) w λ _ _=>True
 |[],pre,ad,ae,H,au,aT,xs,h=>by simp only[rQ,br]at h;subst h;rw[dC]at aT⊢;rw[al6 aT];exact cz.refl au trivial
 |.own b4::t',pre,ad,ae,H,au,aT,xs,h=>by
  simp only[rQ,dp]at h;obtain⟨di,bb,rfl⟩:=h;have cD:c<H.length:=(bQ.1 aT).1;have ak:(pre.map er.ek++er.own b4::t')[pre.length]?=j (.own b4):=aX;obtain⟨eI,ey,dR,mD,hM,_⟩:=VE au aT ak;have e:(pre.map er.ek++er.own b4::t').set pre.length (.ek (.af z b4 J))=(pre++[bx.af z b4 J]).map er.ek++t':=by rw[AG _ _ aX];simp
  rw[e]at dR hM;obtain⟨fs,eW,vh,ua,hk,_⟩:=OM t' (pre++[.af z b4 J]) dR (by rw[k9 cD]) di bb;have aM:(H.set c (.aE z g s ((pre++[bx.af z b4 J]).map er.ek++t'))).set c (.aE z g s ((pre++[bx.af z b4 J]++di).map er.ek))=H.set c (.aE z g s ((pre++bx.af z b4 J::di).map er.ek)):=by rw[wI];simp
  rw[aM]at vh hk;exact⟨fs,eW,vh,mD.trans ua,hM.trans hk,trivial⟩
 |.ek y::t',pre,ad,ae,H,au,aT,xs,h=>by simp only[rQ,dp]at h;obtain⟨di,bb,rfl⟩:=h;have:=OM t' (pre++[y]) au (by simpa using aT) di bb;simpa using this
 |.dead::t',pre,ad,ae,H,au,aT,xs,h=>by simp[rQ]at h
def al'(au:cf E ad ae H w){c g off len z s:Nat}{rows:c0}{v:Value}(r:lD ae H (.d c g off len) v)(aT:H[c]?=j (.aE z g s rows)){xs:cZ}(ap:rQ z rows=j xs):
  cz E ad ae H w (H.set c (.fd g (xs.map λ y=>[y]))) w λ aQ _=>dH aQ (.af 1 (((xs.map λ y=>[y]).drop off).take len) J) v:=by
 obtain⟨eI,ey,dR,mD,hM,_⟩:=OM rows [] au (by simpa using aT) xs ap;simp only[hb]at dR hM;have g_:lD ey (H.set c (.aE z g s (xs.map er.ek))) (.d c g off len) v:=by
  cases hM _ _ (.x _ _ r (.aE aT))with
  |x _ _ h=>exact h
 have cD:c<H.length:=(bQ.1 aT).1;have wJ:(H.set c (.aE z g s (xs.map er.ek)))[c]?=j (.aE z g s (xs.map er.ek)):=by simp[cD]
 have ama:(H.set c (.aE z g s (xs.map er.ek))).set c (.fd g (xs.map λ y=>[y]))=H.set c (.fd g (xs.map λ y=>[y])):=wI ..
 suffices cz E eI ey (H.set c (.aE z g s (xs.map er.ek))) w ((H.set c (.aE z g s (xs.map er.ek))).set c (.fd g (xs.map λ y=>[y]))) w λ aQ _=>dH aQ (.af 1 (((xs.map λ y=>[y]).drop off).take len) J) v by rw[ama]at this;obtain⟨fs,eW,vh,ua,hk,bu⟩:=this;exact⟨fs,eW,vh,mD.trans ua,hM.trans hk,bu⟩
 generalize H.set c (.aE z g s (xs.map er.ek))=H1 at*;have aU5:c<H1.length:=(bQ.1 wJ).1;have ub:∀(aQ:cn) off len a cap,len=0→dH aQ (.af 1 (((xs.map λ y=>[y]).drop off).take len) J) (.slice a len cap):=by intro aQ off len a cap a8;subst a8;simp;exact .nil _ _ _ _ (λ h=>by cases h)
 rcases dR.ch _ _ wJ with⟨aI,a8⟩|⟨b,cs,elem,bs,ct,hw,hs,eQ,eN⟩
 ·have key:∀off len v,lD ey H1 (.d c g off len) v→dH eI (.af 1 (((xs.map λ y=>[y]).drop off).take len) J) v:=by intro off len v r;obtain⟨hle,a,cap,rfl,fR⟩:=(r.2.2 _ _ _ _ wJ).2 rfl;refine ub _ _ _ _ _ ?_;simp at a8;subst a8;simp at hle;omega
  have hm:fz eI ey H1 eI ey (H1.set c (.fd g (xs.map λ y=>[y]))):=by
   refine ng (λ _ _ h=>h) aX λ d aP=>?_
   by_cases e9:d=c
   ·subst e9;intro y bb;rcases gb bb with⟨_,rfl⟩|⟨e,_⟩
    ·right;intro off len v fE;cases fE with
     |x _ _ h _=>exact key _ _ _ h
    ·exact absurd rfl e
   ·exact jw.same (by rw[dW (bi e9)]) (λ _=>rfl)
  refine⟨eI,ey,⟨dR.ei,λ d x aP=>?_,dR.inj,λ i b n h=>by have:=dR.sep _ _ _ h;simpa using this,dR.fv⟩,Trans.refl _ _ _,hm,key _ _ _ g_⟩;rcases gb aP with⟨rfl,rfl⟩|⟨p,U⟩
  ·exact aI
  ·exact(dR.ch _ _ U).mono (λ _=>rfl) (λ _ _ h=>h) hm (λ _ _ _ _=>rfl)
 ·let aQ:cn:=λ b0=>if b0=b then j (.cells cs elem bs)else eI b0
  let aG:cj:=λ d=>if d=c then o else ey d
  have vg:aQ b=j (.cells cs elem bs):=by simp[aQ]
  have GB:eI.le aQ:=by
   intro b0 al an;by_cases fG:b0=b
   ·subst fG;have:=(dR.sep _ _ _ ct).1;rw[this]at an;cases an
   ·simp[aQ,fG,an]
  have l6:∀i b n,aG i=j (b,n)→i≠⟨c,0⟩∧ey i=j (b,n):=by
   intro i b n h;simp only[aG]at h;split at h
   ·cases h
   next aB=>exact⟨aB,h⟩
  have key:∀off len v,lD ey H1 (.d c g off len) v→dH aQ (.af 1 (((xs.map λ y=>[y]).drop off).take len) J) v:=by
   intro off len v r;obtain⟨hle,a,cap,rfl,fR⟩:=(r.2.2 _ _ _ _ wJ).2 rfl;rcases fR with⟨he,gL⟩|⟨dZ,gU,he,az,bh,bF⟩
   ·rw[ct]at he;cases he
   ·rw[ct]at he;cases he;rcases bF with rfl|⟨a8,_⟩
    ·have ao:(xs.map λ y=>[y]).length=(xs.map er.ek).length:=aX;have key:=(OI (aQ:=aQ) (aD:=1) (rows:=xs.map λ y=>[y]) vg (λ i row aB=>by
      simp only[fQ,dp]at aB;obtain⟨y,_,rfl⟩:=aB;rfl) (by rw[ao];omega) (λ i row k a aB aF=>by
      simp only[fQ,dp]at aB;obtain⟨y,bb,rfl⟩:=aB;cases k with
      |succ k=>simp at aF
      |zero=>
       simp at aF;subst aF;rw[JS,fr];exact dH.mono GB (eN i (.ek y) (by simp[bb])))).1 off len cap J (by rw[ao];exact hle) aa (λ h=>by cases h)
     rw[JS]at key;exact key
    ·exact ub _ _ _ _ _ a8
  have hm:fz eI ey H1 aQ aG (H1.set c (.fd g (xs.map λ y=>[y]))):=by
   refine ng GB aX λ d aP=>?_
   by_cases e9:d=c
   ·subst e9;intro y bb;rcases gb bb with⟨_,rfl⟩|⟨e,_⟩
    ·right;intro off len v fE;cases fE with
     |x _ _ h _=>exact key _ _ _ h
    ·exact absurd rfl e
   ·exact jw.same (by rw[dW (bi e9)]) (λ r=>by simp[aG,e9])
  refine⟨aQ,aG,⟨λ b0 al an=>?_,λ d x aP=>?_,λ i ac b0 n dT p U=>dR.inj _ _ _ _ _ (l6 _ _ _ p).2 (l6 _ _ _ U).2,λ i b0 n h=>?_,λ g cells aR=>(dR.fv g cells aR).mono GB⟩,
   ⟨rfl,rfl,rfl,cS _,λ _ _ _=>rfl,GB,λ b0 an=>?_,λ i b0 n h=>.inr ⟨_,_,(l6 _ _ _ h).2⟩⟩,hm,key _ _ _ g_⟩
  ·by_cases fG:b0=b
   ·subst fG;rw[vg]at an;cases an;exact hw
   ·simp[aQ,fG]at an;exact dR.ei _ _ an
  ·rcases gb aP with⟨rfl,rfl⟩|⟨p,U⟩
   ·show aG d=o;simp[aG]
   ·exact(dR.ch _ _ U).mono (λ r=>by simp[aG,p]) GB hm (λ _ _ _ _=>rfl)
  ·obtain⟨p,U⟩:=l6 _ _ _ h;have fG:b0≠b:=by rintro rfl;exact p (dR.inj _ _ _ _ _ U ct)
   have:=dR.sep _ _ _ U;exact⟨by simp[aQ,fG,this.1],this.2.1,by simpa using this.2.2⟩
  ·by_cases fG:b0=b
   ·exact .inr (.inr ⟨c,_,by rw[fG];exact ct⟩)
   ·simp[aQ,fG]at an;exact .inl (by simpa using an)
def AH(au:cf E ad ae H w){a:ay}{y:Value}(r:bf ad ae H a y){x:bx}{aq:ab}(h:freeze H a=j (x,aq)):cz E ad ae H w aq w λ aQ aG=>dH aQ x y:=by
 unfold freeze at h;split at h
 ·cases h;exact cz.refl au (ji r)
 next c g off len=>
  split at h
  next aD a6 rows ex aT=>
   split at h
   next aR=>
    subst aR;simp only[br,bM]at h;obtain⟨rfl,rfl⟩:=h;have cD:c<H.length:=(bQ.1 aT).1;obtain⟨bp,fM,fR⟩:=au.ch _ _ aT;rcases fR with⟨aI,amb⟩|⟨b,cs,elem,bs,ct,hw,hs,eQ,s',eN⟩;rotate_left;have bp:0<aD:=Nat.pos_of_ne_zero λ e=>by rw[bp e]at ct;cases ct
    rotate_left
    ·subst amb;have VF:∀(v:Value) off len,tW ae c aD [] off len v→dH ad (.af aD ((([]:cb).drop off).take len) (ex &&decide (off+len=0))) v:=by
      intro v off len jO;obtain⟨p,a,cap,rfl,U⟩:=jO;simp at p;obtain⟨rfl,rfl⟩:=p;rcases U with⟨_,rfl⟩|⟨b,n,he,_⟩
      ·simp;exact .nil _ _ _ _ (λ _=>rfl)
      ·rw[aI]at he;cases he
     have hm:fz ad ae H ad ae (H.set c (.bs aD g [] ex)):=by
      refine ng (λ _ _ h=>h) aX λ d aP=>?_
      by_cases e9:d=c
      ·subst e9;intro y bb;rcases gb bb with⟨_,rfl⟩|⟨p,_⟩
       ·right;intro a v aF fE;rcases aF with⟨off,len,rfl⟩|⟨r,k,rfl⟩
        ·cases fE with
         |ref c g off len v aj aU aN ax aR=>
          refine .ref _ _ _ _ _ (by simpa using cD) (λ _ _ _ h=>by rcases gb h with⟨_,e⟩|⟨e,_⟩<;>simp_all) (λ iU dv io h=>?_) ax (λ _ _ _ _ h=>by rcases gb h with⟨_,e⟩|⟨e,_⟩<;>simp_all);rcases gb h with⟨_,e⟩|⟨e,_⟩
          ·cases e;have:=aU _ _ _ aT;exact⟨this.1,VF _ _ _ this⟩
          ·exact absurd rfl e
        ·cases fE with
         |ptr c g r k v aj an aU aN aB ax aR=>obtain⟨b,n,he,_⟩:=aU _ _ _ aT;rw[aI]at he;cases he
       ·exact absurd rfl p
      ·exact jw.same (by rw[dW (bi e9)]) (λ _=>rfl)
     refine⟨ad,ae,⟨au.ei,λ d x aP=>?_,au.inj,λ d b n aP=>by have:=au.sep d b n aP;simpa using this,au.fv⟩,Trans.refl _ _ _,hm,?_⟩
     ·rcases gb aP with⟨rfl,rfl⟩|⟨p,U⟩
      ·exact aI
      ·exact(au.ch _ _ U).mono (λ _=>rfl) (λ _ _ h=>h) hm (λ _ _ _ _=>rfl)
     ·cases r with
      |ref c g off len v aj aU aN ax aR=>exact VF _ _ _ (aU _ _ _ aT)
    ·let aQ:cn:=λ b0=>if b0=b then j (.cells cs elem bs)else ad b0
     let aG:cj:=λ d=>if d=c then o else ae d
     have vg:aQ b=j (.cells cs elem bs):=by simp[aQ]
     have hle:ad.le aQ:=by
      intro b0 al an;by_cases fG:b0=b
      ·subst fG;have:=(au.sep _ _ _ ct).1;rw[this]at an;cases an
      ·simp[aQ,fG,an]
     obtain⟨JL,Dc⟩:=OI (aQ:=aQ) vg fM eQ (λ i r k a aB aF=>(eN i r k a aB aF).mono hle);have VG:∀(v:Value) off len,tW ae c aD rows off len v→dH aQ (.af aD ((rows.drop off).take len) (ex &&decide (off+len=rows.length))) v:=by
      intro v off len jO;obtain⟨p,a,cap,rfl,U⟩:=jO;rcases U with⟨he,_⟩|⟨dZ,gU,he,az,bh,bF⟩
      ·rw[ct]at he;cases he
      ·rw[ct]at he;cases he;have j4:len≤cap:=aa;have amc:(ex &&decide (off+len=rows.length))=ah→cap=len:=by intro he;simp only[c',decide_eq_true_eq]at he;rw[s' he.1]at bh;have:=Nat.le_of_mul_le_mul_right bh bp;omega
       rcases bF with rfl|⟨rfl,rfl⟩
       ·exact JL off len cap _ p j4 amc
       ·simp;exact .nil _ _ _ _ (λ _=>rfl)
     have hm:fz ad ae H aQ aG (H.set c (.bs aD g rows ex)):=by
      refine ng hle aX λ d aP=>?_
      by_cases e9:d=c
      ·subst e9;intro y bb;rcases gb bb with⟨_,rfl⟩|⟨p,_⟩
       ·right;intro a v aF fE;rcases aF with⟨off,len,rfl⟩|⟨r,k,rfl⟩
        ·cases fE with
         |ref c g off len v aj aU aN ax aR=>
          refine .ref _ _ _ _ _ (by simpa using cD) (λ _ _ _ h=>by rcases gb h with⟨_,e⟩|⟨e,_⟩<;>simp_all) (λ iU dv io h=>?_) ax (λ _ _ _ _ h=>by rcases gb h with⟨_,e⟩|⟨e,_⟩<;>simp_all);rcases gb h with⟨_,e⟩|⟨e,_⟩
          ·cases e;have:=aU _ _ _ aT;exact⟨this.1,VG _ _ _ this⟩
          ·exact absurd rfl e
        ·cases fE with
         |ptr c g r k v aj an aU aN aB ax aR=>
          refine .ptr _ _ _ _ _ (by simpa using cD) (λ _ h=>by rcases gb h with⟨_,e⟩|⟨e,_⟩<;>simp_all) (λ _ _ _ h=>by rcases gb h with⟨_,e⟩|⟨e,_⟩<;>simp_all) (λ iU dv io row h b2=>?_) (λ _ _ h=>by rcases gb h with⟨_,e⟩|⟨e,_⟩<;>simp_all) ax (λ _ _ _ _ h=>by rcases gb h with⟨_,e⟩|⟨e,_⟩<;>simp_all);rcases gb h with⟨_,e⟩|⟨e,_⟩
          ·cases e;obtain⟨dZ,gU,he,rfl⟩:=aU _ _ _ aT;rw[ct]at he;cases he;exact Dc _ _ _ b2
          ·exact absurd rfl e
       ·exact absurd rfl p
      ·exact jw.same (by rw[dW (bi e9)]) (λ r=>by simp[aG,e9])
     refine⟨aQ,aG,⟨λ b0 al an=>?_,λ d x aP=>?_,λ d im b0 n dT p U=>?_,λ d b0 n aP=>?_,λ g cells aR=>(au.fv g cells aR).mono hle⟩,
      ⟨rfl,rfl,rfl,cS _,λ _ _ _=>rfl,hle,λ b0 an=>?_,λ d b0 n aP=>?_⟩,hm,?_⟩
     ·by_cases fG:b0=b
      ·subst fG;rw[vg]at an;cases an;exact hw
      ·simp[aQ,fG]at an;exact au.ei _ _ an
     ·rcases gb aP with⟨rfl,rfl⟩|⟨p,U⟩
      ·show aG d=o;simp[aG]
      ·exact(au.ch _ _ U).mono (λ r=>by simp[aG,p]) hle hm (λ _ _ _ _=>rfl)
     ·by_cases az:d=c
      ·simp[aG,az]at p
      ·by_cases bh:im=c
       ·simp[aG,bh]at U
       ·simp[aG,az]at p;simp[aG,bh]at U;exact au.inj _ _ _ _ _ p U
     ·by_cases az:d=c
      ·simp[aG,az]at aP
      ·simp[aG,az]at aP;obtain⟨bh,bF,dN⟩:=au.sep _ _ _ aP;have fG:b0≠b:=λ e=>az (au.inj _ _ _ _ _ (e▸aP) ct)
       exact⟨by simp[aQ,fG,bh],bF,by simpa using dN⟩
     ·by_cases fG:b0=b
      ·exact .inr (.inr ⟨c,_,by rw[fG];exact ct⟩)
      ·simp[aQ,fG]at an;exact .inl (by simpa using an)
     ·by_cases az:d=c
      ·simp[aG,az]at aP
      ·simp[aG,az]at aP;exact .inr ⟨_,_,aP⟩
     ·cases r with
      |ref c g off len v aj aU aN ax aR=>exact VG _ _ _ (aU _ _ _ aT)
   ·cases h
  next aD a6 rows ex aT=>
   split at h
   next aR=>
    subst aR;simp only[br,bM]at h;obtain⟨rfl,rfl⟩:=h;cases r with
    |ref c g off len v aj aU aN ax aR=>exact cz.refl au (aN _ _ _ aT).2
   ·cases h
  ·cases h
 next k=>
  cases r with
  |x k v r yn=>
   cases k with
   |e=>cases h
   |I=>cases h
   |d c g off len=>
    simp only[pk]at h;unfold wk at h;split at h
    next z a6 s rows aT=>
     split at h
     next aR=>
      subst aR;unfold CZ at h;split at h
      next xs ap=>simp only[br,bM]at h;obtain⟨rfl,rfl⟩:=h;exact al' au r aT ap
      ·cases h
     ·cases h
    next a6 rows aT=>
     split at h
     next aR=>subst aR;simp only[br,bM]at h;obtain⟨rfl,rfl⟩:=h;exact cz.refl au (yn _ _ _ _ _ rfl aT)
     ·cases h
    ·cases h
   |h c g s q=>
    simp only[pk]at h;unfold wl at h;split at h
    next z a6 dB rows aT=>
     split at h
     next aR=>
      obtain⟨rfl,rfl⟩:=aR;split at h
      next b4 ak=>simp only[br,bM]at h;obtain⟨rfl,rfl⟩:=h;exact(VE au aT ak).imp λ aQ aG _ _ bu=>bu _ ((r.2.2 _ _ _ _ aT).2 rfl rfl _ ak)
      ·cases h
     ·cases h
    ·cases h
 ·cases h
end
section
variable{E:Env}{ad:cn}{ae:cj}{H:ab}{w:World}
def GC{x:bx}{y:Value}(h:dH ad x y):y.oneCell'=ah:=by
 cases h with
 |v _ h=>exact h
 |_=>rfl
def Flat(aD:Nat)(rows:cb):Prop:=∀(i:Nat) (r:cZ),rows[i]?=j r→r.length=aD
def Flat.cons{aD:Nat}{r:cZ}{rows:cb}(h:Flat aD (r::rows)):r.length=aD∧Flat aD rows:=⟨h 0 r rfl,λ i s aU=>h (i+1) s (by simpa using aU)⟩
def Flat.length{aD:Nat}:∀{rows:cb},Flat aD rows→rows.flatten.length=rows.length*aD
 |[],_=>aX
 |r::rows,h=>by rw[tZ,dK,h.cons.1,Flat.length h.cons.2,da,hT];omega
def Flat.get{aD:Nat}:∀{rows:cb},Flat aD rows→∀{i:Nat} {r:cZ} {k:Nat} {a:bx},rows[i]?=j r→r[k]?=j a→rows.flatten[i*aD+k]?=j a
 |[],_,i,r,k,a,aB,_=>by simp at aB
 |s::rows,h,0,r,k,a,aB,aF=>by simp at aB;subst aB;rw[tZ,Nat.zero_mul,cJ,eO (bQ.1 aF).1];exact aF
 |s::rows,h,i+1,r,k,a,aB,aF=>by
  rw[tZ,hK (by rw[h.cons.1,hT];omega),h.cons.1];rw[←Flat.get h.cons.2 (i:=i) (by simpa using aB) aF]
  congr 1;rw[hT];omega
def Flat.append{aD:Nat}{a b:cb}(aF:Flat aD a)(an:Flat aD b):Flat aD (a++b):=by
 intro i r h;rw[vi]at h;split at h
 ·exact aF _ _ h
 ·exact an _ _ h
def Flat.take{aD n:Nat}{a:cb}(aF:Flat aD a):Flat aD (a.take n):=by
 intro i r h;rw[oQ]at h;split at h
 ·exact aF _ _ h
 ·cases h
def Flat.drop{aD n:Nat}{a:cb}(aF:Flat aD a):Flat aD (a.drop n):=by intro i r h;rw[s8]at h;exact aF _ _ h
def k_(ad:cn)(l:cZ)(cs:Array Value):Prop:=∀(ac:Nat) (v:bx),l[ac]?=j v→dH ad v (cs.getD ac undef)
def k_.rows{aD:Nat}{rows:cb}{cs:Array Value}(aN:Flat aD rows)(h:k_ ad rows.flatten cs):
 ∀(i:Nat) (r:cZ) (k:Nat) (a:bx),rows[i]?=j r→r[k]?=j a→dH ad a (cs.getD (i*aD+k) undef):=λ i r k a aB aF=>h _ _ (aN.get aB aF)
def J5{aD:Nat}(bp:0<aD){rows:cb}(aN:Flat aD rows){ac:Nat}(bc:ac<rows.length*aD):∃r a,rows[ac/aD]?=j r∧r[ac%aD]?=j a∧rows.flatten[ac]?=j a:=by
 have p:ac/aD<rows.length:=(JP bp).2 bc;have U:=aN _ _ (eC p);have az:ac%aD<rows[ac/aD].length:=by rw[U];exact Df _ bp
 refine⟨_,_,eC p,eC az,?_⟩;have:=aN.get (eC p) (eC az);rwa [show ac/aD*aD+ac%aD=ac by rw[wD];exact AA _ _]at this
def VH{P:Program}{aD:Nat}{rows:cb}{b al:Nat}(bp:0<aD)(aN:Flat aD rows)
  (h:∀(ac:Nat) (v:bx),rows.flatten[ac]?=j v→∃dn,w.cell? ⟨b,al+ac,o⟩=j dn∧dH ad v dn):
  ∃cs:Array Value,(∀av:World,av.heap=w.heap→(loadCells ⟨b,al,o⟩ (rows.length*aD)).run P av=.ok cs av)∧cs.size=rows.length*aD∧k_ ad rows.flatten cs:=by
 refine⟨((hB (rows.length*aD)).map λ ac=>(w.cell? ⟨b,al+ac,o⟩).getD undef).toArray,λ av ra=>run_loadCells av _ _ _ λ ac bc=>?_,aX,λ ac v bo=>?_⟩
 ·obtain⟨r,a,_,_,az⟩:=J5 bp aN bc;obtain⟨dn,bh,_⟩:=h _ _ az;have e:av.cell? ⟨b,al+ac,o⟩=w.cell? ⟨b,al+ac,o⟩:=by simp[q9,ra]
  rw[l1,e,bh];rfl
 ·have bc:=(bQ.1 bo).1;rw[aN.length]at bc;obtain⟨dn,bh,bF⟩:=h _ _ bo;have:((hB (rows.length*aD)).map λ ac=>(w.cell? ⟨b,al+ac,o⟩).getD undef).toArray.getD ac undef=dn:=by simp[dM,bc,bh]
  rw[this];exact bF
def J6{P:Program}(aB:∀b al,ad b=j al→w.heap[b]?=j al){aD:Nat}{rows:cb}{ex:Bool}{y:Value}(bp:0<aD)(h:dH ad (.af aD rows ex) y):
  ∃cs:Array Value,(∀av:World,(r8 y).run P av=.ok rows.length av)∧(∀av:World,av.heap=w.heap→(jx aD rows.length y).run P av=.ok cs av)∧cs.size=rows.length*aD∧k_ ad rows.flatten cs∧Flat aD rows:=by
 cases h with
 |nil aD ex a cap ap=>refine⟨#[],by simp[r8],λ av _=>?_,aX,λ ac v h=>by simp at h,λ i r h=>by simp at h⟩;cases a<;>simp[jx,loadCells,loadCellsFrom]
 |af aD rows ex b off cap cs elem bs dn cr aj ap ak p U=>
  have aN:Flat aD rows:=ak;obtain⟨c4,az,bh,bF⟩:=VH (P:=P) (w:=w) (ad:=ad) (b:=b) (al:=off) bp aN (λ ac v bo=>by
   have bc:=(bQ.1 bo).1;rw[aN.length]at bc;obtain⟨r,a,ar,aM,bZ⟩:=J5 bp aN bc;rw[bo]at bZ;cases bZ;have:=p _ _ _ _ ar aM;rw[show off+ac/aD*aD+ac%aD=off+ac by rw[vb];congr 1;rw[wD];exact AA _ _]at this;exact⟨_,by rw[cell_of (aB _ _ cr)];exact this,U _ _ _ _ ar aM⟩)
  exact⟨c4,by simp[r8],az,bh,bF,aN⟩
def VJ{P:Program}{aD:Nat}{rows:cb}{b:Nat}{cs:Array Value}{elem:TypeId}{bs:Nat×Nat}(bp:0<aD)(aN:Flat aD rows)(hw:w.heap[b]?=j (.cells cs elem bs))
  (hle:rows.length*aD≤cs.size)(aj:∀(i:Nat) (r:cZ) (k:Nat) (a:bx),rows[i]?=j r→r[k]?=j a→dH ad a (cs.getD (i*aD+k) undef))(off len:Nat)(ci:off+len≤rows.length):
  ∃c4:Array Value,(∀av:World,av.heap=w.heap→(loadCells ⟨b,off*aD,o⟩ (len*aD)).run P av=.ok c4 av)∧c4.size=len*aD∧k_ ad ((rows.drop off).take len).flatten c4:=by
 have Dp:Flat aD ((rows.drop off).take len):=aN.drop.take;have hlen:((rows.drop off).take len).length=len:=by simp;omega
 have:=VH (P:=P) (w:=w) (ad:=ad) (b:=b) (al:=off*aD) bp Dp (λ ac v bo=>by
  have bc:=(bQ.1 bo).1;rw[Dp.length,hlen]at bc;obtain⟨r,a,ar,aM,bZ⟩:=J5 bp Dp (by rw[hlen];exact bc);rw[bo]at bZ;cases bZ;have dx:=(J3 ar).1;have pz:(off+ac/aD)*aD+ac%aD=off*aD+ac:=by rw[hT,vb];congr 1;rw[wD];exact AA _ _
  have bg:off*aD+ac<cs.size:=by have:(off+len)*aD≤rows.length*aD:=kF _ ci;rw[hT]at this;omega
  have:=aj _ _ _ _ dx aM;rw[pz]at this;exact⟨_,by rw[cell_of hw];exact getD_eq _ _ bg,this⟩)
 rwa [hlen]at this
def J7{α β:Type}(f:α→β):∀l:List α,(l.map λ b=>[f b]).flatten=l.map f
 |[]=>rfl
 |b::l=>by simp only[fC,tZ,List.singleton_append,J7 f l]
def ON{P:Program}(au:cf E ad ae H w){x:ay}{y:Value}(r:bf ad ae H x y){z:Nat}{rows:cb}{ex:Bool}(h:kD H x=j (z,rows,ex)){size:Nat}(aU:rows=[]∨z=size)(bp:0<size):
  ∃cs:Array Value,(∀av:World,(r8 y).run P av=.ok rows.length av)∧(∀av:World,av.heap=w.heap→(jx size rows.length y).run P av=.ok cs av)∧cs.size=rows.length*size∧k_ ad rows.flatten cs∧Flat size rows:=by
 have ub:∀(y:Value),rows=[]→(∃a cap,y=.slice a 0 cap)→∃cs:Array Value,(∀av:World,(r8 y).run P av=.ok rows.length av)∧(∀av:World,av.heap=w.heap→(jx size rows.length y).run P av=.ok cs av)∧cs.size=rows.length*size∧k_ ad rows.flatten cs∧Flat size rows:=by rintro y rfl ⟨a,cap,rfl⟩;refine⟨#[],by simp[r8],λ av _=>?_,aX,λ ac v h=>by simp at h,λ i r h=>by simp at h⟩;cases a<;>simp[jx,loadCells,loadCellsFrom]
 unfold kD at h;split at h
 next l=>
  cases h;rw[q8 r];have eQ:l=[]∨1=size:=by simpa using aU
  have h_:=J7 (λ b:UInt8=>bx.v (.int .u8 b.toNat)) l;refine⟨(l.map λ b=>kE .u8 b.toNat).toArray,by simp[r8,size_mk],?_,?_,?_,?_⟩
  ·intro av _;simp only[jx,e8,mE]
   congr 1
   rw[extract_mk];simp
  ·rcases eQ with e|e
   ·subst e;simp
   ·subst e;simp
  ·rw[h_];intro ac v bo;simp only[fQ,dp]at bo;obtain⟨b,an,rfl⟩:=bo;have:((l.map λ b=>kE .u8 b.toNat).toArray).getD ac undef=.int .u8 b.toNat:=by simp[dM,an]
   rw[this];exact .v _ rfl
  ·intro i r aB;simp only[fQ,dp]at aB;obtain⟨b,an,rfl⟩:=aB;rcases eQ with e|e
   ·subst e;simp at an
   ·simpa using e
 ·unfold h6 at h;split at h
  ·cases h;rcases aU with e|rfl
   ·refine ub y e ?_;obtain⟨a,cap,rfl⟩:=GA (ji r);exact⟨a,cap,by rw[e];rfl⟩
   ·exact J6 au.ei bp (ji r)
  next c g off len _=>
   split at h
   next aD a6 e3 gK aT=>
    split at h
    next aR=>
     subst aR;cases h;cases r with
     |ref c g off len v aj s9 Dp ax aR=>
      obtain⟨hle,a,cap,rfl,fR⟩:=s9 _ _ _ aT;have hlen:((e3.drop off).take len).length=len:=by simp;omega
      rcases aU with e|rfl
      ·refine ub _ e ⟨a,cap,?_⟩;rw[e]at hlen;simp at hlen;rw[←hlen]
      ·obtain⟨oS,h_,az⟩:=au.ch _ _ aT;rcases fR with⟨he,gL⟩|⟨b,m,he,p,U,bh⟩
       ·rcases az with⟨_,bF⟩|⟨b,_,_,_,bF,_⟩
        ·subst bF;simp at hle;obtain⟨rfl,rfl⟩:=hle;exact ub _ aX ⟨_,_,rfl⟩
        ·rw[he]at bF;cases bF
       ·rcases az with⟨bF,_⟩|⟨b0,cs,elem,bs,bF,dN,g',hC,ha,ta⟩
        ·rw[he]at bF;cases bF
        ·rw[he]at bF;cases bF;rcases bh with rfl|⟨rfl,rfl⟩
         ·obtain⟨c4,ar,aM,bZ⟩:=VJ (P:=P) (ad:=ad) bp h_ dN hC ta off len hle;refine⟨c4,by rw[hlen];simp[r8],λ av ra=>by rw[hlen];exact ar av ra,by rw[hlen];exact aM,bZ,Flat.take (Flat.drop h_)⟩
         ·exact ub _ aX ⟨_,_,rfl⟩
    ·cases h
   next aD a6 e3 gK aT=>
    split at h
    next aR=>
     subst aR;cases h;cases r with
     |ref c g off len v aj s9 Dp ax aR=>
      obtain⟨hle,mC⟩:=Dp _ _ _ aT;rcases aU with e|rfl
      ·refine ub _ e ?_;obtain⟨a,cap,rfl⟩:=GA mC;exact⟨a,cap,by rw[e];rfl⟩
      ·exact J6 au.ei bp mC
    ·cases h
   ·cases h
  ·cases h
def gv(ae:cj)(c b n:Nat):cj:=λ d=>if d=c then j (b,n)else ae d
def J8(au:cf E ad ae H w){av:World}{cs:Array Value}{elem:TypeId}{bs:Nat×Nat}(hw:av.heap=w.heap.push (.cells cs elem bs))(ci:av.os=w.os)(bA:av.tape=w.tape)(hu:av.output=w.output)(ch:Chunk)
  (lF:fz ad ae H ad (gv ae H.length w.heap.size cs.size) (H++[ch])→ps ad (gv ae H.length w.heap.size cs.size) (H++[ch]) av H.length ch){Q:cn→cj→Prop}
  (fk:fz ad ae H ad (gv ae H.length w.heap.size cs.size) (H++[ch])→Q ad (gv ae H.length w.heap.size cs.size)):cz E ad ae H w (H++[ch]) av Q:=by
 have hold:∀b,b<w.heap.size→av.heap[b]?=w.heap[b]?:=by intro b an;rw[hw,J9,if_neg aa]
 have hm:fz ad ae H ad (gv ae H.length w.heap.size cs.size) (H++[ch]):=by
  refine ng (λ _ _ h=>h) aX λ c aj=>?_
  exact jw.same (by rw[eO aj]) (λ r=>by simp[gv,show c≠H.length by omega])
 have h8:∀(c:fK) b n,gv ae H.length w.heap.size cs.size c=j (b,n)→(c=⟨H.length,0⟩∧b=w.heap.size∧n=cs.size)∨ae c=j (b,n):=by
  intro c b n h;unfold gv at h;split at h
  ·cases h;exact .inl ⟨by assumption,rfl,rfl⟩
  ·exact .inr h
 refine⟨ad,gv ae H.length w.heap.size cs.size,⟨λ b al an=>?_,λ c x ap=>?_,λ c cv b n dT p U=>?_,λ c b n h=>?_,au.fv⟩,⟨ci,bA,hu,by rw[hw];simp,λ b an _=>hold b an,λ _ _ h=>h,λ b h=>.inl h,λ c b n h=>?_⟩,hm,fk hm⟩
 ·have:=au.ei b al an;have bg:b<w.heap.size:=(kg.1 this).1;rw[hold b bg];exact this
 ·by_cases aj:c<H.length
  ·rw[eO aj]at ap;refine(au.ch c x ap).mono (λ r=>by simp[gv,show c≠H.length by omega]) (λ _ _ h=>h) hm λ r b n h=>hold b (au.sep _ _ _ h).2.1
  ·have:c=H.length:=by have:=(bQ.1 ap).1;simp at this;omega
   subst this;simp at ap;subst ap;exact lF hm
 ·rcases h8 _ _ _ p with⟨rfl,rfl,rfl⟩|ar
  ·rcases h8 _ _ _ U with⟨e,_,_⟩|aM
   ·exact e.symm
   ·have:=(au.sep _ _ _ aM).2.1;omega
  ·rcases h8 _ _ _ U with⟨e,rfl,_⟩|aM
   ·have:=(au.sep _ _ _ ar).2.1;omega
   ·exact au.inj _ _ _ _ _ ar aM
 ·rcases h8 _ _ _ h with⟨rfl,rfl,rfl⟩|ar
  ·refine⟨?_,by rw[hw];simp,aX⟩;cases cr:ad w.heap.size with
   |none=>rfl
   |some al=>have:=au.ei _ _ cr;simp at this
  ·have:=au.sep _ _ _ ar;exact⟨this.1,by rw[hw];simp;omega,by simp;omega⟩
 ·rcases h8 _ _ _ h with⟨rfl,rfl,rfl⟩|ar
  ·exact .inl (cS _)
  ·exact .inr ⟨_,_,ar⟩
def qf(n:Nat):wy (0,0) n:=λ k _ h=>by simp at h
def yw{w av:World}{al:Obj}(hw:av.heap=w.heap.push al):av.heap[w.heap.size]?=j al:=by rw[hw];simp
def VK(au:cf E ad ae H w){a:ay}{y:Value}(r:bf ad ae H a y)(ci:(cU a).all one=ah)(t:TypeId):
  ∃x av,(Instr.box t y).run E.P w=.ok x av∧cz E ad ae H w (H++[.box (cU a)]) av λ aQ aG=>bf aQ aG (H++[.box (cU a)]) (.ptr H.length 0 0 0) x:=by
 obtain⟨p,U,az⟩:=ve r ci;refine⟨.pointer (j ⟨w.heap.size,0,o⟩),{w with heap:=w.heap.push (.cells y.cells t)},by simp[Instr.box,newVar,newRow],?_⟩;refine J8 (av:={w with heap:=w.heap.push (.cells y.cells t)}) au rfl rfl rfl rfl _ (λ hm=>?_) (λ hm=>?_)
 ·exact⟨w.heap.size,y.cells,t,(0,0),by simp[gv],yw rfl,qf _,p,λ k c aj=>hm _ _ (U k c aj)⟩
 ·refine .ptr _ _ _ _ _ aX (λ cells h=>⟨w.heap.size,y.cells.size,by simp[gv],rfl⟩) (λ _ _ _ h=>by simp at h) (λ _ _ _ _ h=>by simp at h) (λ _ _ h=>by simp at h) ⟨_,rfl⟩ (λ _ _ _ _ h=>by simp at h)
def amd(au:cf E ad ae H w){cells:aZ}{y:Value}(r:y.cells.size=cells.length∧∀(k:Nat) (a:ay),cells[k]?=j a→∀aQ aG aq,bf aQ aG aq a (y.cells.getD k undef))(t:TypeId):
  ∃x av,(Instr.box t y).run E.P w=.ok x av∧cz E ad ae H w (H++[.dm t cells]) av λ aQ aG=>bf aQ aG (H++[.dm t cells]) (.dV H.length) x:=by
 obtain⟨p,U⟩:=r;refine⟨.pointer (j ⟨w.heap.size,0,o⟩),{w with heap:=w.heap.push (.cells y.cells t)},by simp[Instr.box,newVar,newRow],?_⟩;refine J8 (av:={w with heap:=w.heap.push (.cells y.cells t)}) au rfl rfl rfl rfl _ (λ hm=>?_) (λ hm=>?_)
 ·exact⟨w.heap.size,y.cells,by simp[gv],yw rfl,p,λ k c aj=>U k c aj _ _ _⟩
 ·refine .dV _ _ aX (λ _ h=>by simp at h) (λ _ _ h=>⟨w.heap.size,y.cells.size,by simp[gv],rfl⟩) (λ _ _ h=>by simp at h) rfl (λ _ _ _ _ h=>by simp at h)
def ame{P:Program}{t:TypeId}{eB:Value}(bp:(P.info? t).bind (·.zero)=j eB)(h:Oa P t=ah):eB.cells.size=(Jx P t).length∧∀(k:Nat) (a:ay),(Jx P t)[k]?=j a→∀ad ae H,bf ad ae H a (eB.cells.getD k undef):=by
 unfold Oa at h;unfold Jx;rw[bp]at h⊢;cases eB with
 |agg cs=>
  simp only at h⊢;refine⟨by simp[s_],λ k a aA ad ae H=>?_⟩;simp only[fQ,dp]at aA;obtain⟨x,ap,rfl⟩:=aA;have p:=py.1 h x (jP ap);have U:cs[k]?=j x:=by simpa using ap
  have:(s_ (.agg cs)).getD k undef=x:=by simp[s_,dM,U]
  rw[this];exact .i _ _ (.v _ p)
 |_=>simp at h
def AL(au:cf E ad ae H w){av:World}{cs:Array Value}{elem:TypeId}{bs:Nat×Nat}(hw:av.heap=w.heap.push (.cells cs elem bs))(ci:av.os=w.os)(bA:av.tape=w.tape)(hu:av.output=w.output)
  {aD:Nat}{rows:cb}{ex:Bool}(bp:0<aD)(aN:Flat aD rows)(aj:k_ ad rows.flatten cs)(hle:rows.length*aD≤cs.size)(ap:ex=ah→cs.size=rows.length*aD)(hs:wy bs cs.size)
  {n cap:Nat}(aI:n≤rows.length)(j4:rows.length≤cap)(fp:cap*aD≤cs.size):
  cz E ad ae H w (H++[.af aD 0 rows ex]) av λ aQ aG=>bf aQ aG (H++[.af aD 0 rows ex]) (.ref H.length 0 0 n) (.slice (j ⟨w.heap.size,0,o⟩) n cap):=by
 refine J8 au hw ci bA hu _ (λ hm=>?_) (λ hm=>?_)
 ·exact⟨λ e=>aa,aN,.inr ⟨w.heap.size,cs,elem,bs,by simp[gv],yw hw,hs,hle,ap,k_.rows aN aj⟩⟩
 ·refine .ref _ _ _ _ _ aX (λ iU dv io h=>?_) (λ _ _ _ h=>by simp at h) ⟨_,_,rfl⟩ (λ _ _ _ _ h=>aa);simp at h;obtain⟨rfl,rfl,rfl⟩:=h;exact⟨aa,_,_,rfl,.inr ⟨w.heap.size,cs.size,by simp[gv],aa,by simpa using fp,.inl aX⟩⟩
def cz.trans{aq oh:ab}{av r3:World}{Q yu:cn→cj→Prop}(h:cz E ad ae H w aq av Q)(k:∀aQ aG,cf E aQ aG aq av→ad.le aQ→fz ad ae H aQ aG aq→Q aQ aG→cz E aQ aG aq av oh r3 yu):cz E ad ae H w oh r3 yu:=by obtain⟨aQ,aG,p,U,az,bh⟩:=h;obtain⟨s4,s5,bK,bJ,cL,e4⟩:=k aQ aG p U.ei az bh;exact⟨s4,s5,bK,U.trans bJ,az.trans cL,e4⟩
def J_:∀{ad:cn} {ae:cj} {H:ab} (au:cf E ad ae H w) {l:aZ} (f:Nat→Value) (r:∀(k:Nat) (a:ay),l[k]?=j a→bf ad ae H a (f k)) {xs:cZ} {aq:ab} (h:f' H l=j (xs,aq)),
  cz E ad ae H w aq w λ aQ aG=>xs.length=l.length∧∀(k:Nat) (x:bx),xs[k]?=j x→dH aQ x (f k)
 |ad,ae,H,au,[],f,r,xs,aq,h=>by simp only[f',br,bM]at h;obtain⟨rfl,rfl⟩:=h;exact cz.refl au ⟨rfl,λ k x ap=>by simp at ap⟩
 |ad,ae,H,au,a::l,f,r,xs,aq,h=>by
  simp only[f']at h;split at h
  next x H1 p=>
   split at h
   next di bG U=>
    simp only[br,bM]at h;obtain⟨rfl,rfl⟩:=h;refine(AH au (r 0 a rfl) p).trans λ eI ey dR _ hm ap=>?_
    refine(J_ dR (λ k=>f (k+1)) (λ k b an=>hm _ _ (r (k+1) b (by simpa using an))) U).imp λ fs eW cr _ bb=>?_
    refine⟨by simp[bb.1],λ k y aA=>?_⟩;cases k with
    |zero=>simp at aA;subst aA;exact ap.mono cr
    |succ k=>exact bb.2 k y (by simpa using aA)
   ·cases h
  ·cases h
def AM{ad:cn}{k:cu}{x:bx}{v:Value}(r:dH ad x v):dH ad (iS k x) v:=by
 cases k with
 |none=>cases x<;>exact r
 |some z=>
  cases x with
  |af aD rows ex=>
   have OO:∀OP,(rows=[]∨OP=aD)→dH ad (.af OP rows J) v:=by
    intro OP aU;cases r with
    |nil _ _ a cap h=>exact .nil _ _ _ _ (λ h=>by cases h)
    |af _ _ _ b off cap cs elem bs dn cr aj ap ak p U=>
     rcases aU with aU|rfl
     ·subst aU;exact .nil _ _ _ _ (λ h=>by cases h)
     ·exact .af _ _ _ b off cap cs elem bs dn cr aj (λ h=>by cases h) ak p U
   simp only[iS];split
   next e=>subst e;exact OO _ (.inr rfl)
   ·split
    next e=>subst e;exact OO _ (.inl rfl)
    ·exact OO _ (.inr rfl)
  |_=>exact r
def J':∀(bB:dI) (l:cZ),(iJ bB l).length=l.length
 |[],l=>rfl
 |k::bB,[]=>rfl
 |k::bB,x::l=>by simp[iJ,J' bB l]
def OQ:∀(bB:dI) (l:cZ) (i:Nat) (y:bx),(iJ bB l)[i]?=j y→∃k x,l[i]?=j x∧y=iS k x
 |[],l,i,y,h=>⟨o,y,h,by cases y<;>rfl⟩
 |k::bB,[],i,y,h=>by simp[iJ]at h
 |k::bB,x::l,0,y,h=>by simp[iJ]at h;exact⟨k,x,rfl,h.symm⟩
 |k::bB,x::l,i+1,y,h=>by simpa using OQ bB l i y (by simpa[iJ]using h)
def OR{ad:cn}{bB:dI}{xs:cZ}{n:Nat}{f:Nat→Value}(h:xs.length=n∧∀(k:Nat) (x:bx),xs[k]?=j x→dH ad x (f k)):(iJ bB xs).length=n∧∀(k:Nat) (x:bx),(iJ bB xs)[k]?=j x→dH ad x (f k):=
 ⟨by rw[J'];exact h.1,λ k x ap=>by obtain⟨al,y,bb,rfl⟩:=OQ _ _ _ _ ap;exact AM (h.2 k y bb)⟩
def VL(z:Nat):∀(n:Nat) (l:cZ),l.length=n*z→(qb z n l).length=n∧(qb z n l).flatten=l∧Flat z (qb z n l)
 |0,l,h=>by
  have:l=[]:=by simpa using h
  subst this;exact⟨rfl,rfl,λ i r aB=>by simp[qb]at aB⟩
 |n+1,l,h=>by
  obtain⟨p,U,az⟩:=VL z n (l.drop z) (by simp[h,hT]);refine⟨by simp[qb,p],by simp[qb,U],λ i r aB=>?_⟩;cases i with
  |zero=>simp[qb]at aB;subst aB;simp;rw[h,hT];omega
  |succ i=>exact az i r (by simpa[qb]using aB)
def amf{l:aZ}{cs:Array Value}(h:vf ad ae H l cs)(n:Nat)(bp:0<l.length):
  vf ad ae H (cH n l).flatten ((Ka (n*l.length)).map (cs[·%cs.size]!)):=by
 refine⟨aX,λ k a aF=>?_⟩;have aA:k<n*l.length:=by have:=(bQ.1 aF).1;simpa using this
 have e:k/l.length*l.length+k%l.length=k:=by rw[wD];exact AA _ _
 have bg:k/l.length<n:=(JP bp).2 aA;rw[←e,JO l n _ _ bg (Df _ bp)]at aF;have:=h.2 _ _ aF;have U:((Ka (n*l.length)).map (cs[·%cs.size]!)).getD k undef=cs.getD (k%l.length) undef:=by
  have hm:k%l.length<cs.size:=by rw[h.1];exact Df _ bp
  rw[dM,dM];simp[aA,h.1];rw[getElem!_pos cs _ hm,r9 hm];rfl
 rw[U];exact this
def VM(au:cf E ad ae H w){t:TypeId}{n:Nat}{bn:eu}{kh:Array (Nat×Value)}{v:ay}{aq:ab}(h:kC E H t n bn=j (v,aq))(ax:Dk ad ae H bn kh.toList):
  ∃x av,(Kb t n kh).run E.P w=.ok x av∧cz E ad ae H w aq av λ aQ aG=>bf aQ aG aq v x:=by
 unfold kC at h;split at h;rotate_left
 ·cases h
 rename_i e he;split at h;rotate_left
 ·cases h
 rename_i z zero bp hzero;split at h;rotate_left
 ·cases h
 rename_i aj;obtain⟨ht,fF,yx⟩:=aj;split at h;rotate_left
 ·cases h
 rename_i cells Kc;split at h;rotate_left
 ·cases h
 rename_i xs H1 hv;simp only[br,bM]at h;obtain⟨rfl,rfl⟩:=h;obtain⟨Kd,qg⟩:=yx;obtain⟨eB,yt,tY⟩:=ys hzero w;have J0:bf ad ae H zero eB:=by rw[tY];exact tX eB
 have OS:vf ad ae H (cU zero) eB.cells:=⟨(ve J0 qg).1,(ve J0 qg).2.1⟩;have yy:=amf OS n (by rw[fF];exact Kd);rw[fF]at yy;obtain⟨c4,mB,e9⟩:=OE ax yy Kc;have cD:cells.length=n*z:=by
  have:∀(bn:eu) (l out:aZ),f_ z l bn=j out→out.length=l.length:=by
   intro bn;induction bn with
   |nil=>intro l out h;simp[f_]at h;rw[h]
   |cons I bn a'=>
    intro l out h;obtain⟨i,a⟩:=I;simp only[f_]at h;split at h
    next aA=>rw[a' _ _ h,OD aa]
    ·cases h
  rw[this _ _ _ Kc];simp[fF]
 have amg:c4.size=n*z:=by rw[e9.1,cD]
 refine⟨.slice (j ⟨w.heap.size,0,o⟩) n n,{w with heap:=w.heap.push (.cells c4 e)},?_,?_⟩
 ·have amh:¬(n*z>2^24):=aa;by_cases a8:n*z=0
  ·have aI:n=0:=by
    rcases Nat.mul_eq_zero.1 a8 with p|p
    ·exact p
    ·omega
   subst aI;have ami:JZ (λ i=>j (i*z,z)) #[] kh.toList=j c4:=by rw[←mB];congr 1;simp
   simp only[Kb,ep,run_underlying (iV he),eM,(hr bp w).1];have du:∀f:Nat→Value,(Ka 0).map f=#[]:=λ f=>aX
   simp only[a8,du,if_true,e8,eM,ami];simp[newRow]
  ·simp only[Kb,ep,run_underlying (iV he),eM,(hr bp w).1,amh,if_false,a8,yt,e8];rw[mB];simp[newRow]
 ·refine(J_ au (λ k=>c4.getD k undef) e9.2 hv).trans λ eI ey dR VN hM ap=>?_
  have ap:=OR (bB:=(cH n (E.kinds e)).flatten) ap;obtain⟨cm,cp,c3⟩:=VL z n (iJ (cH n (E.kinds e)).flatten xs) (by rw[ap.1,cD]);have:=AL (av:={w with heap:=w.heap.push (.cells c4 e)}) dR rfl rfl rfl rfl (ex:=true) (n:=n) (cap:=n) Kd c3 (by rw[cp];exact ap.2) (by rw[cm];omega) (λ _=>by rw[cm];exact amg) (qf _) aa aa aa;exact this
def wK(P:Program)(b al:Nat)(elem:TypeId)(bs:Nat×Nat):∀(vs:k8) (i:Nat) (kH:Array Value) (w:World),w.heap[b]?=j (.cells kH elem bs)→wy bs kH.size→al+i+vs.length≤kH.size→
  (∀v∈vs,v.oneCell'=ah)→∃av iq,(storeCells ⟨b,al,o⟩ vs i).run P w=.ok () av∧av.heap[b]?=j (.cells iq elem bs)∧(∀b0,b0≠b→av.heap[b0]?=w.heap[b0]?)∧av.heap.size=w.heap.size∧
   av.os=w.os∧av.tape=w.tape∧av.output=w.output∧iq.size=kH.size∧∀k,iq[k]?=if al+i≤k∧k<al+i+vs.length then vs[k-(al+i)]? else kH[k]?
 |[],i,kH,w,hw,_,_,_=>⟨w,kH,by simp[storeCells],hw,λ _ _=>rfl,rfl,rfl,rfl,rfl,rfl,λ k=>by rw[if_neg (by simp only[dS];omega)]⟩
 |v::vs,i,kH,w,hw,hs,hle,qh=>by
  simp only[da]at hle;have bg:al+i<kH.size:=aa;have eN:w.cell? ⟨b,al+i,o⟩=j kH[al+i]:=by rw[cell_of hw];simp[bg]
  have hv:w.frozen? ⟨b,al+i,o⟩=J:=by simp only[World.frozen?,hw];have:=hs (al+i) bg;simpa using this
  let gf:World:=w.setCell ⟨b,al+i,o⟩ v
  have yz:gf.heap[b]?=j (.cells (kH.setIfInBounds (al+i) v) elem bs):=by simp[gf,World.setCell,Array.getElem?_modify,hw]
  have ol:∀b0,b0≠b→gf.heap[b0]?=w.heap[b0]?:=by intro b0 an;simp[gf,World.setCell,Array.getElem?_modify,bi an]
  obtain⟨av,iq,p,U,az,bh,bF,dN,g',hC,ha⟩:=wK P b al elem bs vs (i+1) (kH.setIfInBounds (al+i) v) gf yz (by simpa using hs) (by rw[Array.size_setIfInBounds];omega) (λ x ap=>qh x (by simp[ap]));refine⟨av,iq,?_,U,λ b0 an=>by rw[az b0 an,ol b0 an],by rw[bh];simp[gf,World.setCell],bF,dN,g',by rw[hC];simp,λ k=>?_⟩
  ·simp only[storeCells,ep,l1];rw[run_store _ _ _ _ _ (qh v aX),eN,hv];exact p
  ·rw[ha];by_cases aA:k=al+i
   ·subst aA;rw[if_neg aa,if_pos (by constructor<;>simp)];simp[bg]
   ·by_cases ak:al+(i+1)≤k∧k<al+(i+1)+vs.length
    ·rw[if_pos ak,if_pos (by simp;omega)];rw[show k-(al+i)=(k-(al+(i+1)))+1 by omega];simp
    ·rw[if_neg ak,if_neg (by simp;omega)];rw[Array.getElem?_setIfInBounds_ne aa]
def wrote(au:cf E ad ae H w){av:World}{c b n:Nat}(ct:ae c=j (b,n)){ch GD:Chunk}(aT:H[c]?=j GD)(ol:∀b0,b0≠b→av.heap[b0]?=w.heap[b0]?)(eQ:av.heap.size=w.heap.size)(ci:av.os=w.os)(bA:av.tape=w.tape)(hu:av.output=w.output)
  (hI:jw ad ae H ad ae (H.set c ch) c)(lF:fz ad ae H ad ae (H.set c ch)→ps ad ae (H.set c ch) av c ch){Q:cn→cj→Prop}(fk:fz ad ae H ad ae (H.set c ch)→Q ad ae):cz E ad ae H w (H.set c ch) av Q:=by
 have cD:c<H.length:=(bQ.1 aT).1;have hm:fz ad ae H ad ae (H.set c ch):=by
  refine ng (λ _ _ h=>h) aX λ d aP=>?_
  by_cases e9:d=c
  ·subst e9;exact hI
  ·exact jw.same (by rw[dW (bi e9)]) (λ _=>rfl)
 have vg:ad b=o:=(au.sep _ _ _ ct).1;refine⟨ad,ae,⟨λ b0 al an=>?_,λ d x aP=>?_,au.inj,λ d b0 dT aP=>?_,au.fv⟩,⟨ci,bA,hu,by rw[eQ];exact cS _,λ b0 an aI=>ol b0 (λ e=>aI c n (e▸ct)),λ _ _ h=>h,λ _ h=>.inl h,λ _ _ _ h=>.inr ⟨_,_,h⟩⟩,hm,fk hm⟩
 ·have fG:b0≠b:=λ e=>by subst e;rw[vg]at an;cases an
  rw[ol _ fG];exact au.ei _ _ an
 ·rcases gb aP with⟨rfl,rfl⟩|⟨p,U⟩
  ·exact lF hm
  ·exact(au.ch _ _ U).mono (λ _=>rfl) (λ _ _ h=>h) hm λ r b0 dT az=>ol _ λ e=>p (congrArg fK.c (au.inj _ _ _ _ _ (e▸az) ct))
 ·have:=au.sep _ _ _ aP;exact⟨this.1,by rw[eQ];exact this.2.1,by simpa using this.2.2⟩
def GF(au:cf E ad ae H w){av:World}{aq:ab}{aG:cj}(hI:∀c,c<H.length→jw ad ae H ad aG aq c)(hlen:H.length≤aq.length)
  (lF:fz ad ae H ad aG aq→∀c x,aq[c]?=j x→ps ad aG aq av c x)(hv:∀b,b<w.heap.size→(∀(i:fK) n,ae i≠j (b,n))→av.heap[b]?=w.heap[b]?)
  (eQ:w.heap.size≤av.heap.size)(ci:av.os=w.os)(bA:av.tape=w.tape)(hu:av.output=w.output)(jj:∀(i:fK) b n,aG i=j (b,n)→w.heap.size≤b∨∃(ac:fK) (m:Nat),ae ac=j (b,m))
  (bg:∀(i:fK) b n,aG i=j (b,n)→b<av.heap.size∧i.c<aq.length)(GG:∀(i ac:fK) b n dT,aG i=j (b,n)→aG ac=j (b,dT)→i=ac)
  {Q:cn→cj→Prop}(fk:fz ad ae H ad aG aq→Q ad aG):cz E ad ae H w aq av Q:=by
 have hm:=ng (λ _ _ h=>h) hlen hI;have cr:∀b al,ad b=j al→b<w.heap.size:=λ b al h=>(kg.1 (au.ei b al h)).1
 refine⟨ad,aG,⟨λ b al an=>?_,lF hm,GG,λ i b n h=>⟨?_,bg i b n h⟩,au.fv⟩,⟨ci,bA,hu,eQ,hv,λ _ _ h=>h,λ b h=>.inl h,jj⟩,hm,fk hm⟩
 ·rw[hv b (cr b al an) λ i n h=>by rw[(au.sep _ _ _ h).1]at an;cases an];exact au.ei b al an
 ·rcases jj i b n h with p|⟨ac,m,p⟩
  ·cases an:ad b with
   |none=>rfl
   |some al=>have:=cr b al an;omega
  ·exact(au.sep _ _ _ p).1
def VO(au:cf E ad ae H w){t:TypeId}{c z g s r:Nat}{rows:c0}(aT:H[c]?=j (.aE z g s rows))(ak:r<rows.length)(Ke:gp E.P t=j 1){v:Value}(bo:v.oneCell'=ah){I:Value}
  (ax:∃b n,ae c=j (b,n)∧I=.pointer (j ⟨b,r,o⟩)){pA:ab}{aG:cj}{y:er}(a8:pA.length=H.length)
  (ol:∀e,e≠c→(pA[e]?=H[e]?∧∀q,aG ⟨e,q⟩=ae ⟨e,q⟩)∨(pA[e]?=j .gone∧aG ⟨e,0⟩=o))(gL:aG ⟨c,0⟩=ae ⟨c,0⟩)(amj:∀q,q≠r→aG ⟨c,q+1⟩=ae ⟨c,q+1⟩)
  (jj:∀(i:fK) b n,aG i=j (b,n)→(∃(ac:fK) (m:Nat),ae ac=j (b,m))∧i.c<H.length)(GG:∀(i ac:fK) b n dT,aG i=j (b,n)→aG ac=j (b,dT)→i=ac)
  (bb:∀av:World,(∀b,(∀n,ae c≠j (b,n))→av.heap[b]?=w.heap[b]?)→nd ad aG av z c r y v):
  ∃av,(yA t I v).run E.P w=.ok () av∧cz E ad ae H w (pA.set c (.aE z g (s+1) (rows.set r y))) av λ _ _=>True:=by
 obtain⟨b,n,ct,rfl⟩:=ax;have cD:c<H.length:=(bQ.1 aT).1;rcases au.ch _ _ aT with⟨aI,_⟩|⟨b0,cs,elem,bs,hJ,hw,hs,hle,eN⟩
 ·rw[ct]at aI;cases aI
 rw[ct]at hJ;cases hJ;have amk:v.cells=#[v]:=by cases v<;>simp_all [s_,OC]
 obtain⟨av,iq,p,U,az,bh,bF,dN,g',hC,ha⟩:=wK E.P b r elem bs [v] 0 cs w hw hs (by simp;omega) (λ x ap=>by simp at ap;subst ap;exact bo);refine⟨av,?_,?_⟩
 ·simp[yA,Av,storeVar,(hr Ke w).1,amk,p]
 have kj:∀ac,iq.getD ac undef=if ac=r then v else cs.getD ac undef:=by
  intro ac;rw[dM,ha];simp only[fr,db,cJ];by_cases bc:ac=r
  ·subst bc;simp
  ·rw[if_neg aa,if_neg bc,dM]
 have an:∀dZ,(∀n,ae c≠j (dZ,n))→av.heap[dZ]?=w.heap[dZ]?:=λ dZ h=>az dZ λ e=>h _ (e▸ct)
 have Kf:∀(i:Nat) (d:er),(rows.set r y)[i]?=j d→(i=r∧d=y)∨(i≠r∧rows[i]?=j d):=by
  intro i d aB;by_cases oj:i=r
  ·subst oj;rw[k9 ak]at aB;cases aB;exact .inl ⟨rfl,rfl⟩
  ·rw[dW (bi oj)]at aB;exact .inr ⟨oj,aB⟩
 refine GF au (aG:=aG) (λ e he=>?_) (by simp[a8]) (λ hm e x ap=>?_) (λ dZ _ aI=>an dZ λ n=>aI c n) (by rw[bh];exact cS _) bF dN g' (λ i dZ n h=>.inr (jj i dZ n h).1)
  (λ i dZ n h=>?_) GG (λ _=>trivial)
 ·by_cases kk:e=c
  ·subst kk;intro x ap;rcases gb ap with⟨_,rfl⟩|⟨ar,_⟩
   ·intro ds a6 dB e3 l2;rcases gb l2 with⟨_,aM⟩|⟨aM,_⟩
    ·cases aM;exact .inl ⟨s,rows,aT,gL,aX,.inl aa⟩
    ·exact absurd rfl aM
   ·exact absurd rfl ar
  ·rcases ol e kk with⟨cy,cN⟩|⟨cy,cN⟩
   ·exact jw.same (by rw[dW (bi kk)];exact cy) cN
   ·intro x ap;rw[dW (bi kk),cy]at ap;cases ap;trivial
 ·rcases gb ap with⟨rfl,rfl⟩|⟨kk,mz⟩
  ·refine .inr ⟨b,iq,elem,bs,by rw[hC,←ct];exact gL,U,by rw[hC];exact hs,by rw[hC];simpa using hle,λ i d aB=>?_⟩;rw[kj];rcases Kf _ _ aB with⟨rfl,rfl⟩|⟨oj,Gt⟩
   ·rw[if_pos rfl];exact bb av an
   ·rw[if_neg oj];refine(eN _ _ Gt).mono (amj _ oj) (λ _ _ h=>h) λ dZ n h=>az dZ ?_
    rintro rfl;have:=au.inj _ _ _ _ _ h ct;simp at this
  ·rcases ol e kk with⟨cy,cN⟩|⟨cy,cN⟩
   ·rw[cy]at mz;refine(au.ch _ _ mz).mono cN (λ _ _ h=>h) hm λ q dZ n h=>az dZ ?_
    rintro rfl;exact kk (congrArg fK.c (au.inj _ _ _ _ _ h ct))
   ·rw[cy]at mz;cases mz;exact cN
 ·obtain⟨⟨ac,m,cy⟩,cN⟩:=jj i dZ n h;exact⟨by rw[bh];exact(au.sep _ _ _ cy).2.1,by simpa[a8]using cN⟩
def VP(au:cf E ad ae H w){d z g:Nat}{b4:cb}{ex:Bool}(aT:H[d]?=j (.af z g b4 ex))(bp:0<z){v:Value}(bo:bf ad ae H (.ref d g 0 b4.length) v){aG:cj}{c r:Nat}(he:aG ⟨c,r+1⟩=ae ⟨d,0⟩)
  {av:World}(hw:∀b n,ae ⟨d,0⟩=j (b,n)→av.heap[b]?=w.heap[b]?):nd ad aG av z c r (.own b4) v:=by
 obtain⟨oS,h_,fR⟩:=au.ch _ _ aT;refine⟨h_,?_⟩;cases bo with
 |ref _ _ _ _ _ aj aU aN ax aR=>
  obtain⟨_,a,cap,rfl,U⟩:=aU _ _ _ aT;rcases fR with⟨aI,a8⟩|⟨b,cs,elem,bs,ct,aml,hs,hle,_,eN⟩
  ·subst a8;exact .inl ⟨rfl,a,cap,rfl⟩
  ·rcases U with⟨qi,_⟩|⟨dZ,gU,qi,cy,cN,fy⟩
   ·rw[ct]at qi;cases qi
   ·rw[ct]at qi;cases qi;rcases fy with rfl|⟨fy,_⟩
    ·refine .inr ⟨b,cs,elem,bs,by rw[he];exact ct,⟨cap,aX,aa,by simpa using cN⟩,by rw[hw _ _ ct];exact aml,hs,bp,eN⟩
    ·have:b4=[]:=pq.1 fy;subst this;exact .inl ⟨rfl,a,cap,rfl⟩
def VQ(au:cf E ad ae H w){z:Nat}{v:ay}{x:Value}(iY:bf ad ae H v x){y:er}{H1:ab}(h:u3 z (freeze H v)=j (y,H1)):
  ∃q,y=.ek q∧cz E ad ae H w H1 w λ aQ _=>dH aQ q x:=by
 unfold u3 at h;split at h
 next q bG aN=>simp only[br,bM]at h;obtain⟨rfl,rfl⟩:=h;exact⟨_,rfl,(AH au iY aN).imp λ _ _ _ _ bu=>AM bu⟩
 ·cases h
def VR(au:cf E ad ae H w){z:Nat}{v:ay}{x:Value}(iY:bf ad ae H v x){y:er}{H1:ab}(h:qY H z v=j (y,H1)):
  (∃q,y=.ek q∧cz E ad ae H w H1 w λ aQ _=>dH aQ q x)∨∃d g b4 ex,v=.ref d g 0 b4.length∧H[d]?=j (.af z g b4 ex)∧0<z∧y=.own b4∧H1=H.set d .gone:=by
 unfold qY at h;split at h
 next d g len=>
  unfold C1 at h;split at h
  next ds a6 b4 ex aT=>
   split at h
   next aj=>obtain⟨rfl,bp,rfl,rfl⟩:=aj;simp only[br,bM]at h;obtain⟨rfl,rfl⟩:=h;exact .inr ⟨d,g,b4,ex,rfl,aT,bp,rfl,rfl⟩
   ·cases h
  ·exact .inl (VQ au iY h)
 ·exact .inl (VQ au iY h)
def yB{k:de}{v:Value}(h:bf ad ae H (.x k) v):lD ae H k v:=by cases h;assumption
def amm(au:cf E ad ae H w){t:TypeId}{c g r:Nat}{v:ay}{y x:Value}{aq:ab}(Ke:gp E.P t=j 1)(qh:one v=ah)(dL:lD ae H (.e c g r) y)(iY:bf ad ae H v x)(h:x1 H c g r v H[c]?=j aq):
  ∃av,(yA t y x).run E.P w=.ok () av∧cz E ad ae H w aq av λ _ _=>True:=by
 unfold x1 at h;split at h;rotate_left
 ·cases h
 rename_i z g0 dJ hS wL;unfold x0 at h;split at h;rotate_left
 ·cases h
 rename_i q H1 b2;split at h;rotate_left
 ·cases h
 rename_i fT g1 s rows wJ;split at h;rotate_left
 ·cases h
 rename_i aj;obtain⟨rfl,ak⟩:=aj;simp only[br]at h;subst h;have mz:x.oneCell'=ah:=JI iY qh;rcases VR au iY b2 with⟨a,rfl,b9⟩|⟨d,g2,b4,ex,rfl,aP,bp,rfl,rfl⟩
 ·obtain⟨eI,ey,dR,mD,hM,aF⟩:=b9;have OT:=yB (hM _ _ (.x _ _ dL (.ne nofun)));have ax:=(OT.2.2 _ _ _ _ wJ).2 rfl
  let aG:cj:=λ i=>if i=⟨c,r+1⟩then o else ey i
  have l6:∀i b n,aG i=j (b,n)→ey i=j (b,n):=by
   intro i b n h;simp only[aG]at h;split at h
   ·cases h
   ·exact h
  obtain⟨av,bK,bJ⟩:=VO dR (t:=t) (aG:=aG) (y:=.ek a) (pA:=H1) wJ ak Ke mz ax rfl (λ e he=>.inl ⟨rfl,λ q=>by simp[aG,he]⟩) (by simp[aG]) (λ q bu=>by simp[aG,bu])
   (λ i b n h=>⟨⟨_,_,l6 _ _ _ h⟩,(dR.sep _ _ _ (l6 _ _ _ h)).2.2⟩) (λ i ac b n dT p U=>dR.inj _ _ _ _ _ (l6 _ _ _ p) (l6 _ _ _ U)) (λ _ _=>aF)
  obtain⟨fs,eW,vh,ua,hk,_⟩:=bJ;exact⟨av,bK,fs,eW,vh,mD.trans ua,hM.trans hk,trivial⟩
 ·have e9:d≠c:=by rintro rfl;rw[aP]at wL;cases wL
  have om:H[c]?=j (.aE fT g s rows):=by rw[dW e9]at wJ;exact wJ
  have amn:fT=z:=by rw[om]at wL;cases wL;rfl
  subst amn;have ax:=(dL.2.2 _ _ _ _ om).2 rfl;have cD:c<H.length:=(bQ.1 om).1
  let aG:cj:=λ i=>if i=⟨c,r+1⟩then ae ⟨d,0⟩else if i=⟨d,0⟩then o else ae i
  have wM:∀i b n,aG i=j (b,n)→(i=⟨c,r+1⟩∧ae ⟨d,0⟩=j (b,n))∨(i≠⟨c,r+1⟩∧i≠⟨d,0⟩∧ae i=j (b,n)):=by
   intro i b n h;simp only[aG]at h;split at h
   next aB=>exact .inl ⟨aB,h⟩
   next aB=>
    split at h
    ·cases h
    next Az=>exact .inr ⟨aB,Az,h⟩
  refine VO au (t:=t) (aG:=aG) (y:=.own b4) (pA:=H.set d .gone) om ak Ke mz ax aX (λ e he=>?_) (by simp[aG,bi e9]) (λ q bu=>by simp[aG,bu]) (λ i b n h=>?_) (λ i ac b n dT p U=>?_) (λ av hw=>?_)
  ·by_cases qj:e=d
   ·subst qj;exact .inr ⟨by simp[(bQ.1 aP).1],by simp[aG,e9]⟩
   ·exact .inl ⟨by rw[dW (bi qj)],λ q=>by simp[aG,he,qj]⟩
  ·rcases wM _ _ _ h with⟨rfl,p⟩|⟨_,_,p⟩
   ·exact⟨⟨_,_,p⟩,cD⟩
   ·exact⟨⟨_,_,p⟩,(au.sep _ _ _ p).2.2⟩
  ·rcases wM _ _ _ p with⟨rfl,ar⟩|⟨cy,cN,ar⟩
   ·rcases wM _ _ _ U with⟨rfl,aM⟩|⟨fy,jN,aM⟩
    ·rfl
    ·exact absurd (au.inj _ _ _ _ _ aM ar) jN
   ·rcases wM _ _ _ U with⟨rfl,aM⟩|⟨fy,jN,aM⟩
    ·exact absurd (au.inj _ _ _ _ _ ar aM) cN
    ·exact au.inj _ _ _ _ _ ar aM
  ·refine VP au aP bp iY (by simp[aG]) λ b n h=>hw b λ dT iy=>?_
   exact e9 (au.alG h iy)
def VS:∀{l:aZ} {xs:cZ},ly l=j xs→l=lu xs
 |[],xs,h=>by simp only[ly,br]at h;subst h;rfl
 |a::l,xs,h=>by
  cases a with
  |i x=>simp only[ly,dp]at h;obtain⟨di,bb,rfl⟩:=h;rw[VS bb];rfl
  |_=>simp[ly]at h
def amo(au:cf E ad ae H w){t:TypeId}{n c g s r i k:Nat}{v:ay}{y x:Value}{aq:ab}(aI:gp E.P t=j n)(nQ:(cU v).length=n)(qh:(cU v).all one=ah)(dL:lD ae H (.I c g s r i k) y)(iY:bf ad ae H v x)
  (h:x2 E H t n c g s r i k v H[c]?=j aq):∃av,(yA t y x).run E.P w=.ok () av∧cz E ad ae H w aq av λ _ _=>True:=by
 unfold x2 at h;split at h;rotate_left
 ·cases h
 rename_i z a6 dB rows aT;split at h;rotate_left
 ·cases h
 rename_i aj;obtain⟨rfl,rfl,aA⟩:=aj;split at h;rotate_left
 ·cases h
 rename_i b4 ak;split at h;rotate_left
 ·cases h
 rename_i row xs b2 OU;simp only[br]at h;subst h;have cD:c<H.length:=(bQ.1 aT).1;have fM:r<rows.length:=(bQ.1 ak).1;have yC:=(bQ.1 b2).1;obtain⟨fT,z2,z3⟩:=ve iY qh;obtain⟨b,m,ct,rfl⟩:=(dL.2.2 _ _ _ _ aT).2 rfl rfl _ ak yC;have rb:=VS OU;have amp:xs.length=n:=by rw[←nQ,rb];simp[lu]
 have AN:xs.length=n∧∀(ac:Nat) (q:bx),xs[ac]?=j q→dH ad q (x.cells.getD ac undef):=⟨amp,λ ac q bu=>ji (z2 ac (.i q) (by rw[rb];simp[lu,bu]))⟩;obtain⟨mz,Ax⟩:=OR (bB:=E.kinds t) AN;generalize iJ (E.kinds t) xs=di at*;rcases au.ch _ _ aT with⟨_,a8⟩|⟨dj,yv,du,OJ,J4,t_,OK,OL,Dn⟩
 ·subst a8;simp at ak
 obtain⟨h_,fR⟩:=Dn _ _ ak;rcases fR with⟨rfl,_⟩|⟨b0,cs,elem,bs,hJ,bo,hw,hs,bp,eN⟩
 ·simp at yC
 rw[ct]at hJ;cases hJ;have amq:=h_ _ _ b2;have h8:i*z+z≤cs.size:=by obtain⟨cap,_,dt,fh⟩:=bo;have:(i+1)*z≤cap*z:=kF _ aa;rw[hT]at this;omega
 have tb:∀q∈x.cells.toList,q.oneCell'=ah:=by intro q bu;obtain⟨ac,bc,rfl⟩:=GH bu;have:=z3 ac (by simpa using bc);simpa[dM,show ac<x.cells.size by simpa using bc]using this
 have r_:x.cells.size=n:=by rw[fT,nQ]
 obtain⟨av,iq,p,U,az,bh,bF,dN,g',hC,ha⟩:=wK E.P b (i*z+k) elem bs x.cells.toList 0 cs w hw hs (by simp;omega) tb;refine⟨av,by simp[yA,Av,storeVar,(hr aI w).1,r_,p],?_⟩;have kj:∀ac,iq.getD ac undef=if i*z+k≤ac∧ac<i*z+k+n then x.cells.getD (ac-(i*z+k)) undef else cs.getD ac undef:=by
  intro ac;rw[dM,ha];simp only[fr,wG,r_];split
  ·rw[nM,dM]
  ·rw[dM]
 have Kf:∀(ac:Nat) (d:er),(rows.set r (.own (b4.set i (row.take k++di++row.drop (k+n)))))[ac]?=j d→(ac=r∧d=.own (b4.set i (row.take k++di++row.drop (k+n))))∨(ac≠r∧rows[ac]?=j d):=by
  intro ac d bc;by_cases GI:ac=r
  ·subst GI;rw[k9 fM]at bc;cases bc;exact .inl ⟨rfl,rfl⟩
  ·rw[dW (bi GI)]at bc;exact .inr ⟨GI,bc⟩
 have gu:∀(ac:Nat) (hq:cZ),(b4.set i (row.take k++di++row.drop (k+n)))[ac]?=j hq→(ac=i∧hq=row.take k++di++row.drop (k+n))∨(ac≠i∧b4[ac]?=j hq):=by
  intro ac hq bc;by_cases r':ac=i
  ·subst r';rw[k9 yC]at bc;cases bc;exact .inl ⟨rfl,rfl⟩
  ·rw[dW (bi r')]at bc;exact .inr ⟨r',bc⟩
 refine GF au (aG:=ae) (λ e he=>?_) aX (λ hm e q bu=>?_) (λ dZ _ aI=>az dZ λ e=>aI _ _ (e▸ct)) (by rw[bh];exact cS _) bF dN g' (λ i dZ n h=>.inr ⟨_,_,h⟩)
  (λ i dZ n h=>by have:=au.sep _ _ _ h;exact⟨by rw[bh];exact this.2.1,by simpa using this.2.2⟩) au.inj (λ _=>trivial)
 ·by_cases kk:e=c
  ·subst kk;intro q bu;rcases gb bu with⟨_,rfl⟩|⟨ar,_⟩
   ·intro ds a6 dB e3 l2;rcases gb l2 with⟨_,aM⟩|⟨aM,_⟩
    ·cases aM;refine .inl ⟨s,rows,aT,rfl,aX,.inr ⟨rfl,λ ac q5 bc=>?_⟩⟩;rcases Kf _ _ bc with⟨rfl,bZ⟩|⟨_,OV⟩
     ·cases bZ;exact⟨b4,ak,aX,rfl⟩
     ·exact⟨q5,OV,rfl,rfl⟩
    ·exact absurd rfl aM
   ·exact absurd rfl ar
  ·exact jw.same (by rw[dW (bi kk)]) (λ _=>rfl)
 ·rcases gb bu with⟨rfl,rfl⟩|⟨kk,amr⟩
  ·have fG:dj≠b:=by rintro rfl;have:=au.inj _ _ _ _ _ ct J4;simp at this
   refine .inr ⟨dj,yv,du,OJ,J4,by rw[az dj fG];exact t_,OK,by simpa using OL,λ ac d bc=>?_⟩;rcases Kf _ _ bc with⟨rfl,rfl⟩|⟨GI,OV⟩
   ·refine⟨λ AO ams nl=>?_,.inr ⟨b,iq,elem,bs,by rw[hC];exact ct,?_,U,by rw[hC];exact hs,bp,λ AO ams gr a nl aF=>?_⟩⟩
    ·rcases gu _ _ nl with⟨rfl,rfl⟩|⟨_,h⟩
     ·simp[mz,amq];omega
     ·exact h_ _ _ h
    ·rw[hC,kl];exact bo
    ·rcases gu _ _ nl with⟨rfl,rfl⟩|⟨oj,h⟩
     ·rw[kj];by_cases ar:gr<k
      ·rw[if_neg aa];rw[eo,eO (by simp;omega),oQ,if_pos ar]at aF;exact eN _ _ _ _ b2 aF
      ·by_cases aM:gr<k+n
       ·rw[if_pos aa,show AO*z+gr-(AO*z+k)=gr-k by omega];rw[eo,hK (by simp;omega),eO (by simp;omega)]at aF;have bZ:gr-(eP k row).length=gr-k:=by simp;omega
        rw[bZ]at aF;exact Ax _ _ aF
       ·rw[if_neg aa];rw[eo,hK (by simp;omega),hK (by simp;omega),s8]at aF;have bZ:k+n+(gr-(eP k row).length-di.length)=gr:=by simp;omega
        rw[bZ]at aF;exact eN _ _ _ _ b2 aF
     ·rw[kj];have wN:gr<z:=by have:=(bQ.1 aF).1;rw[h_ _ _ h]at this;exact this
      rw[if_neg]
      ·exact eN _ _ _ _ h aF
      ·rcases Nat.lt_or_gt_of_ne oj with ar|ar
       ·have:(AO+1)*z≤i*z:=kF _ ar;rw[hT]at this;omega
       ·have:(i+1)*z≤AO*z:=kF _ ar;rw[hT]at this;omega
   ·refine(Dn _ _ OV).mono rfl (λ _ _ h=>h) λ dZ gU h=>az dZ ?_
    rintro rfl;have:=au.inj _ _ _ _ _ h ct;simp at this;exact GI this
  ·refine(au.ch _ _ amr).mono (λ _=>rfl) (λ _ _ h=>h) hm λ q dZ n h=>az dZ ?_
   rintro rfl;exact kk (congrArg fK.c (au.inj _ _ _ _ _ h ct))
def amt(au:cf E ad ae H w){t:TypeId}{n:Nat}{q:de}{v:ay}{y x:Value}{aq:ab}(aI:gp E.P t=j n)(nQ:(cU v).length=n)(qh:(cU v).all one=ah)(dL:lD ae H q y)(iY:bf ad ae H v x)
  (h:qZ E H t n v q=j aq):∃av,(yA t y x).run E.P w=.ok () av∧cz E ad ae H w aq av λ _ _=>True:=by
 cases q with
 |d=>cases h
 |h=>cases h
 |I c g s r i k=>exact amo au aI nQ qh dL iY h
 |e c g r=>
  simp only[qZ]at h;split at h
  next p=>
   subst p;have ci:one v=ah:=by
    cases v with
    |agg cells=>
     exfalso;unfold x1 at h;split at h
     ·unfold x0 qY u3 freeze at h;simp at h
     ·cases h
    |dead=>simp[cU,one]at qh
    |bl=>simp[cU,one]at qh
    |_=>rfl
   exact amm au aI ci dL iY h
  ·cases h
def VT{bB:dI}:∀{h':cq} {H H1:ab} {cs e5:aZ},j2 bB h' H cs=j (e5,H1)→e5.length=cs.length
 |[],H,H1,cs,e5,h=>by simp only[j2,br,bM]at h;rw[h.1]
 |ac::r,H,H1,cs,e5,h=>by
  simp only[j2]at h;split at h
  ·split at h
   ·rw[VT h];simp
   ·cases h
  ·cases h
def OW{bB:dI}:∀{h':cq} {ad:cn} {ae:cj} {H H1:ab} {w:World} {cs e5:aZ} {di:Array Value},cf E ad ae H w→bf ad ae H (.agg cs) (.agg di)→j2 bB h' H cs=j (e5,H1)→
  cz E ad ae H w H1 w λ aQ aG=>bf aQ aG H1 (.agg e5) (.agg di)
 |[],ad,ae,H,H1,w,cs,e5,di,au,r,h=>by simp only[j2,br,bM]at h;obtain⟨rfl,rfl⟩:=h;exact .refl au r
 |ac::h',ad,ae,H,H1,w,cs,e5,di,au,r,h=>by
  simp only[j2]at h;split at h
  next a aF=>
   split at h
   next x bG aN=>
    cases r with
    |agg _ _ ao ak=>
     refine(AH au (ak ac a aF) aN).trans λ eI ey dR _ hm ap=>OW dR (.agg _ _ (by simp[ao]) λ k b aA=>?_) h
     by_cases VU:ac=k
     ·subst VU;have bg:ac<cs.length:=(bQ.1 aF).1;rw[k9 bg]at aA;cases aA;exact .i _ _ (AM ap)
     ·rw[dW VU]at aA;exact hm _ _ (ak k b aA)
   ·cases h
  ·cases h
def VV(au:cf E ad ae H w){t:TypeId}{v v1:ay}{y:Value}{h':cq}{H1:ab}(h:k4 E t H v h'=j (v1,H1))(r:bf ad ae H v y):cz E ad ae H w H1 w λ aQ aG=>bf aQ aG H1 v1 y:=by
 cases h' with
 |nil=>simp only[k4,br,bM]at h;obtain⟨rfl,rfl⟩:=h;exact .refl au r
 |cons ac h'=>
  simp only[k4,wu]at h;split at h
  next cs bG aN=>
   simp only[br,bM]at h;obtain⟨rfl,rfl⟩:=h;have one:∀a:ay,cU a=[a]→j2 (E.kinds t) (ac::h') H (cU a)=j (cs,bG)→(∀l,x3 a l=l.headD a)→bf ad ae H a y→cz E ad ae H w bG w λ aQ aG=>bf aQ aG bG (x3 a cs) y:=by
    intro a aF aN OX fE;rw[aF]at aN;have hlen:=VT aN;refine(OW (di:=#[y]) au (.agg _ _ rfl λ k b aA=>?_) aN).imp λ aQ aG _ _ ak=>?_
    ·cases k with
     |zero=>simp only[rc,br]at aA;subst aA;exact fE
     |succ k=>simp at aA
    ·match cs,hlen,ak with
     |[c],_,ak=>
      cases ak with
      |agg _ _ _ h=>rw[OX];exact h 0 c rfl
   cases v with
   |agg cells=>
    cases r with
    |agg _ di ao ak=>exact OW au (.agg _ _ ao ak) aN
   |dead=>exact one _ rfl aN (λ _=>rfl) r
   |i x=>exact one _ rfl aN (λ _=>rfl) r
   |ref c g al n=>exact one _ rfl aN (λ _=>rfl) r
   |ptr c g q k=>exact one _ rfl aN (λ _=>rfl) r
   |dV c=>exact one _ rfl aN (λ _=>rfl) r
   |x k=>exact one _ rfl aN (λ _=>rfl) r
   |aS fn a b=>exact one _ rfl aN (λ _=>rfl) r
   |bl l=>exact one _ rfl aN (λ _=>rfl) r
  ·cases h
def amu(au:cf E ad ae H w){t:TypeId}{I v:ay}{y z:Value}{aq:ab}(h:oK E H t I v=j aq)(dL:bf ad ae H I y)(iY:bf ad ae H v z):
  ∃av,(yA t y z).run E.P w=.ok () av∧cz E ad ae H w aq av λ _ _=>True:=by
 unfold oK at h;split at h;rotate_left
 ·cases h
 rename_i n aI;split at h;rotate_left
 ·cases h
 rename_i aj;obtain⟨ht,fF⟩:=aj;obtain⟨fT,z2,z3⟩:=ve iY fF;split at h
 next k=>exact amt au aI ht fF (yB dL) iY h
 rotate_left
 ·cases h
 rename_i c g r k;have tb:∀x∈z.cells.toList,x.oneCell'=ah:=by intro x ap;obtain⟨ac,bc,rfl⟩:=GH ap;have:=z3 ac (by simpa using bc);simpa[dM,show ac<z.cells.size by simpa using bc]using this
 have r_:z.cells.size=n:=by rw[fT,ht]
 have run:∀(a:Addr) (av:World),(storeCells a z.cells.toList 0).run E.P w=.ok () av→(yA t (.pointer (j a)) z).run E.P w=.ok () av:=by intro a av ak;simp[yA,Av,storeVar,(hr aI w).1,r_,ak]
 split at h
 next cells aT=>
  split at h
  next aA=>
   simp only[br]at h;subst h;cases dL with
   |ptr c g r k gJ np an aU aN aB ax aR=>
    obtain⟨b,m,ct,rfl⟩:=an _ aT;obtain⟨b0,cs,elem,bs,hJ,hw,hs,eQ,eN⟩:=au.ch _ _ aT;rw[ct]at hJ;cases hJ;obtain⟨av,iq,p,U,az,bh,bF,dN,g',hC,ha⟩:=wK E.P b k elem bs z.cells.toList 0 cs w hw hs (by simp;omega) tb;refine⟨av,run _ _ p,wrote au ct aT az bh bF dN g' ?_ (λ hm=>?_) (λ _=>trivial)⟩
    ·intro y bb;rcases gb bb with⟨_,rfl⟩|⟨e,_⟩
     ·exact .inl ⟨cells,aT,rfl⟩
     ·exact absurd rfl e
    ·refine⟨b,iq,elem,bs,by rw[hC];exact ct,U,by rw[hC];exact hs,by rw[hC,eQ,OD aa],λ ac a aF=>hm _ _ ?_⟩;rw[Vy aa]at aF;have kj:iq.getD ac undef=if k≤ac∧ac<k+n then z.cells.getD (ac-k) undef else cs.getD ac undef:=by
      rw[dM,ha];simp only[fr,wG,r_];split
      ·rw[nM,dM]
      ·rw[dM]
     rw[kj];rw[ht]at aF;split at aF
     next bc=>rw[if_pos bc];exact z2 _ _ aF
     next bc=>rw[if_neg bc];exact eN _ _ aF
  ·cases h
 next wL=>
  split at h;rotate_left
  ·cases h
  rename_i xs H1 hv;split at h;rotate_left
  ·cases h
  rename_i aD a6 rows ex aT;split at h;rotate_left
  ·cases h
  rename_i aR;obtain⟨rfl,aU6⟩:=aR;split at h;rotate_left
  ·cases h
  rename_i row b2;simp only[br]at h;subst h;obtain⟨eI,ey,dR,mD,hM,amv⟩:=J_ au (λ k=>z.cells.getD k undef) z2 hv;obtain⟨mz,Ax⟩:=OR (bB:=E.kinds t) amv;generalize iJ (E.kinds t) xs=xs at*;have OT:=hM _ _ dL;cases OT with
  |ptr c g r k gJ np an aU aN aB ax aR=>
   obtain⟨b,m,ct,rfl⟩:=aU _ _ _ aT;obtain⟨bp,h_,az⟩:=dR.ch _ _ aT;rcases az with⟨bF,_⟩|⟨b0,cs,elem,bs,bF,hw,hs,hle,s',eN⟩
   ·rw[ct]at bF;cases bF
   ·rw[ct]at bF;cases bF;have ak:=(bQ.1 b2).1;have fM:=h_ _ _ b2;have h8:r*aD+aD≤cs.size:=by have:(r+1)*aD≤rows.length*aD:=kF _ ak;rw[hT]at this;omega
    obtain⟨av,iq,p,U,az,bh,bF,dN,g',hC,ha⟩:=wK E.P b (r*aD+k) elem bs z.cells.toList 0 cs w hw hs (by simp;omega) tb;refine⟨av,run _ _ p,?_⟩;have kj:∀ac,iq.getD ac undef=if r*aD+k≤ac∧ac<r*aD+k+n then z.cells.getD (ac-(r*aD+k)) undef else cs.getD ac undef:=by
     intro ac;rw[dM,ha];simp only[fr,wG,r_];split
     ·rw[nM,dM]
     ·rw[dM]
    have amw:xs.length=n:=by rw[mz,ht]
    have key:cz E eI ey H1 w (H1.set c (.af aD g (rows.set r (row.take k++xs++row.drop (k+n))) ex)) av λ _ _=>True:=by
     refine wrote dR ct aT az bh bF dN g' ?_ (λ hm=>?_) (λ _=>trivial)
     ·intro y bb;rcases gb bb with⟨_,rfl⟩|⟨e,_⟩
      ·exact .inl ⟨rows,ex,aT,rfl,aX⟩
      ·exact absurd rfl e
     ·have gu:∀(i:Nat) (hq:cZ),(rows.set r (row.take k++xs++row.drop (k+n)))[i]?=j hq→(i=r∧hq=row.take k++xs++row.drop (k+n))∨(i≠r∧rows[i]?=j hq):=by
       intro i hq aB;by_cases oj:i=r
       ·subst oj;rw[k9 aa]at aB;cases aB;exact .inl ⟨rfl,rfl⟩
       ·rw[dW (bi oj)]at aB;exact .inr ⟨oj,aB⟩
      refine⟨bp,λ i hq aB=>?_,.inr ⟨b,iq,elem,bs,by rw[hC];exact ct,U,by rw[hC];exact hs,by rw[hC,kl];exact hle,λ he=>by rw[hC,kl];exact s' he,λ i hq gr a aB aF=>?_⟩⟩
      ·rcases gu _ _ aB with⟨_,rfl⟩|⟨_,h⟩
       ·simp[amw,fM];omega
       ·exact h_ _ _ h
      ·rcases gu _ _ aB with⟨rfl,rfl⟩|⟨oj,h⟩
       ·rw[kj];by_cases ar:gr<k
        ·rw[if_neg aa];rw[eo,eO (by simp;omega),oQ,if_pos ar]at aF;exact eN _ _ _ _ b2 aF
        ·by_cases aM:gr<k+n
         ·rw[if_pos aa,show i*aD+gr-(i*aD+k)=gr-k by omega];rw[eo,hK (by simp;omega),eO (by simp;omega)]at aF;have bZ:gr-(eP k row).length=gr-k:=by simp;omega
          rw[bZ]at aF;exact Ax _ _ aF
         ·rw[if_neg aa];rw[eo,hK (by simp;omega),hK (by simp;omega),s8]at aF;have bZ:k+n+(gr-(eP k row).length-xs.length)=gr:=by simp;omega
          rw[bZ]at aF;exact eN _ _ _ _ b2 aF
       ·rw[kj];have wN:gr<aD:=by have:=(bQ.1 aF).1;rw[h_ _ _ h]at this;exact this
        rw[if_neg]
        ·exact eN _ _ _ _ h aF
        ·rcases Nat.lt_or_gt_of_ne oj with ar|ar
         ·have:(i+1)*aD≤r*aD:=kF _ ar;rw[hT]at this;omega
         ·have:(r+1)*aD≤i*aD:=kF _ ar;rw[hT]at this;omega
    obtain⟨fs,eW,bK,bJ,cL,_⟩:=key;exact⟨fs,eW,bK,mD.trans bJ,hM.trans cL,trivial⟩
 ·cases h
end
section
variable{E:Env}{ad:cn}{ae:cj}{H:ab}{w:World}
def VW{P:Program}{t:TypeId}{b:Nat}(h:u0 P t=j b)(w:World):∃i,(typeInfo t).run P w=.ok i w∧i.bytes=b:=by simp only[u0,dp]at h;obtain⟨i,aB,rfl⟩:=h;exact⟨i,run_typeInfo w aB,rfl⟩
def zeroV{P:Program}{t:TypeId}{n:Nat}(h:gp P t=j n){row:cZ}(bp:JB E t=j row)(mF:E.P=P)(w:World):
  ∃v,(zeroValue t).run P w=.ok v w∧k_ ad row v.cells∧v.cells.size=row.length:=by
 subst mF;unfold JB at bp;split at bp
 next cs oS=>
  obtain⟨v,p,U⟩:=ys oS w;refine⟨v,p,?_⟩;have ak:bf ad (λ _=>o) [] (.agg cs) v:=by rw[U];exact tX v
  obtain⟨c4,rfl,ar,aM⟩:=wA ak;have key:∀(cs:aZ) (row:cZ),ly cs=j row→cs=row.map .i:=by
   intro cs;induction cs with
   |nil=>intro row h;simp[ly]at h;subst h;rfl
   |cons c cs a'=>intro row h;cases c<;>simp[ly]at h;obtain⟨r,ak,rfl⟩:=h;rw[a' r ak];rfl
  have fp:=key _ _ bp;subst fp;refine⟨λ ac x ap=>ji (aM ac (.i x) (by simp[ap])),by simpa[s_]using ar⟩
 next x oS=>
  cases bp;obtain⟨v,p,U⟩:=ys oS w;have ak:bf ad (λ _=>o) [] (.i x) v:=by rw[U];exact tX v
  have bo:=ji ak;have ci:=GC bo;have aj:v.cells=#[v]:=by cases v<;>simp_all [s_,OC]
  refine⟨v,p,?_,by rw[aj];rfl⟩;intro ac y bb;cases ac with
  |zero=>simp at bb;subst bb;rw[aj];exact bo
  |succ ac=>simp at bb
 ·cases bp
def amx(n:Nat)(row:cZ):(cH n row).flatten.length=n*row.length:=aX
def VX(au:cf E ad ae H w){t:TypeId}{l c v:ay}{y z:Value}{aq:ab}(h:jf E H t l c=j (v,aq))(ew:bf ad ae H l y)(Kg:bf ad ae H c z):
  ∃x av,(Kh t y z).run E.P w=.ok x av∧cz E ad ae H w aq av λ aQ aG=>bf aQ aG aq v x:=by
 unfold jf at h;split at h;rotate_left
 ·cases h
 rename_i e k n dr m he;split at h;rotate_left
 ·cases h
 rename_i s row b aU b2 an;split at h;rotate_left
 ·split at h
  next aj=>
   obtain⟨rfl,cp,c3,fU,c5,l7⟩:=aj;simp only[br,bM]at h;obtain⟨rfl,rfl⟩:=h;rw[ga ew,ga Kg];obtain⟨eX,wO,AP⟩:=VW an w;obtain⟨eB,j5,km,uc⟩:=zeroV (ad:=ad) (E:=E) aU b2 rfl w;have Ki:ni.wrap m=m:=IntWalk.i64_in _ aa;have amy:ni.wrap 0=0:=IntWalk.i64_in _ aa
   let cs:Array Value:=(Ka (m.toNat*s)).map (eB.cells[·%eB.cells.size]!)
   have fp:cs.size=m.toNat*s:=by simp[cs]
   refine⟨.slice (j ⟨w.heap.size,0,o⟩) 0 m.toNat,{w with heap:=w.heap.push (.cells cs e)},?_,?_⟩
   ·have pB:¬(281474976710656<(b:Int)*m):=by have p:(b:Int)*m≤65536*m:=Int.mul_le_mul_of_nonneg_right aa aa;omega
    have Kj:¬m<0:=aa;have a8:¬m.toNat*s=0:=Nat.ne_of_gt (Nat.mul_pos aa c5);simp[Kh,run_underlying (iV he),asInt,asIntOf,wO,AP,Ki,amy,Kj,pB,(hr aU w).1,newRow,a8,j5,cs]
   ·exact AL (av:={w with heap:=w.heap.push (.cells cs e)}) (rows:=[]) (ex:=false) (n:=0) (cap:=m.toNat) au rfl rfl rfl rfl c5 (λ i r h=>by simp at h) (λ i x h=>by simp at h) aX (λ h=>by cases h) (qf _) aX aX (by rw[fp];exact cS _)
  ·cases h
 rename_i aj;obtain⟨cm,rfl,c3,fU,c5,l7⟩:=aj;simp only[br,bM]at h;obtain⟨rfl,rfl⟩:=h;rw[ga ew,ga Kg];obtain⟨eX,wO,AP⟩:=VW an w;obtain⟨eB,j5,km,uc⟩:=zeroV (ad:=ad) (E:=E) aU b2 rfl w;have km:k_ ad (iJ (E.kinds e) row) eB.cells:=λ ac v bo=>by obtain⟨al,y,bb,rfl⟩:=OQ _ _ _ _ bo;exact AM (km ac y bb)
 have uc:=uc.trans (J' (E.kinds e) row).symm;have fU:(iJ (E.kinds e) row).length=s:=by rw[J'];exact fU
 clear b2;generalize iJ (E.kinds e) row=row at*;have Ki:ni.wrap n=n:=by exact IntWalk.i64_in _ aa
 let cs:Array Value:=(Ka (n.toNat*s)).map (eB.cells[·%eB.cells.size]!)
 refine⟨.slice (j ⟨w.heap.size,0,o⟩) n.toNat n.toNat,{w with heap:=w.heap.push (.cells cs e)},?_,?_⟩
 ·have pB:¬(281474976710656<(b:Int)*n):=by have p:(b:Int)*n≤65536*n:=Int.mul_le_mul_of_nonneg_right aa cm;omega
  have Kj:¬n<0:=aa;by_cases a8:n.toNat*s=0
  ·have:cs=#[]:=by simp[cs,a8]
   rw[this];simp[Kh,run_underlying (iV he),asInt,asIntOf,wO,AP,Ki,Kj,pB,(hr aU w).1,newRow,a8]
   congr
   exact AQ aX
  ·simp[Kh,run_underlying (iV he),asInt,asIntOf,wO,AP,Ki,Kj,pB,(hr aU w).1,newRow,a8,j5,cs]
 ·have h_:Flat s (cH n.toNat row):=by intro i r aB;have hm:=jP aB;rw[List.eq_of_mem_replicate hm];exact fU
  have fp:cs.size=n.toNat*s:=by simp[cs]
  refine AL (av:={w with heap:=w.heap.push (.cells cs e)}) (ex:=true) (n:=n.toNat) (cap:=n.toNat) au rfl rfl rfl rfl c5 h_ ?_ (by simp[fp]) (λ _=>by simp[fp]) (qf _) aX aX (by simp[fp]);intro ac x ap;subst fU;have bc:ac<n.toNat*row.length:=by have:=(bQ.1 ap).1;rw[amx]at this;exact this
  have ar:ac/row.length*row.length+ac%row.length=ac:=by rw[wD];exact AA _ _
  have aM:ac/row.length<n.toNat:=(JP c5).2 bc;have hm:ac%row.length<row.length:=Df _ c5;rw[←ar,JO row n.toNat _ _ aM hm]at ap;have U:cs.getD ac undef=eB.cells.getD (ac%row.length) undef:=by
   have J1:ac%row.length<eB.cells.size:=by rw[uc];exact hm
   rw[dM,dM];simp[cs,bc,uc];rw[getElem!_pos eB.cells _ J1,r9 J1];rfl
  rw[U];exact km _ _ ap
def amz(au:cf E ad ae H w){s d e:TypeId}{l:bm}(aU:ij E.P s=ah)(aP:fw E.P d=j e)(he:oI E.P e=j .u8)(ao:l.length<1073741824):
  ∃x av,(convert s d (.string ⟨⟨l⟩⟩)).run E.P w=.ok x av∧cz E ad ae H w (H++[.af 1 0 (l.map λ b=>[bx.v (.int .u8 b.toNat)]) J]) av λ aQ aG=>bf aQ aG (H++[.af 1 0 (l.map λ b=>[bx.v (.int .u8 b.toNat)]) J]) (.ref H.length 0 0 l.length) x:=by
 let q:Question:=.appendCap l.length 0 e
 let cap:Nat:=q.cut (w.tape w.drawn q)
 have j4:l.length≤cap:=by simp only[cap,q,Question.cut];omega
 let cs:Array Value:=(l.map λ b=>kE .u8 b.toNat).toArray++AR (cap-l.length) (.int .u8 0)
 have fp:cs.size=cap:=by simp[cs];omega
 let gf:World:={w with heap:=w.heap.push (.cells cs e),drawn:=w.drawn+1}
 let ft:World:={w with heap:=w.heap.push (.cells cs e (cap,cap+1)),drawn:=w.drawn+1}
 refine⟨.slice (j ⟨w.heap.size,0,o⟩) l.length cap,ft,?_,?_⟩
 ·have amA:(markStringish ⟨w.heap.size,0,o⟩).run E.P gf=.ok () ft:=by
   have AF:gf.shape? w.heap.size=j (e,cap):=by simp[World.shape?,gf,fp]
   simp only[markStringish,ep,run_shape,eM,AF,run_freeze]
   congr 1
   simp only[World.freeze,gf,ft];simp;apply Array.ext aX;intro i p U;simp only[Array.getElem_modify,Array.getElem_push];by_cases aB:i<w.heap.size
   ·simp[aB];intro az;omega
   ·have:i=w.heap.size:=by simp at U;omega
    subst this;simp
  have bu:q.forced=J:=rfl;simp only[convert,ep,run_underlying (s7 aU),run_underlying (iV aP),eM,run_underlying (Db he),Conv.stringToBytes,run_choose,size_mk];show(Result.andThen (if q.forced then _ else _) _)=_;rw[bu];simp only[gk,if_false,eM,newRow,ep,run_newObj,e8];have yz:({heap:=w.heap.push (.cells (Array.map (λ(b:UInt8)=>kE .u8 b.toNat) {toList:=l}++AR (q.cut (w.tape w.drawn q)-l.length) (.int .u8 0)) e),tape:=w.tape,drawn:=w.drawn+1,os:=w.os,output:=w.output}:World)=gf:=by simp only[gf,cs,cap];simp
  rw[yz,amA];rfl
 ·refine AL (av:=ft) (aD:=1) (rows:=l.map λ b=>[bx.v (.int .u8 b.toNat)]) (ex:=false) (n:=l.length) (cap:=cap) au rfl rfl rfl rfl aa ?_ ?_ (by simp[fp];omega) (λ h=>by cases h) ?_ aX (by simpa using j4) (by simp[fp])
  ·intro i r aB;simp only[fQ,dp]at aB;obtain⟨b,_,rfl⟩:=aB;rfl
  ·rw[J7];intro ac x ap;simp only[fQ,dp]at ap;obtain⟨b,an,rfl⟩:=ap;have:cs.getD ac undef=.int .u8 b.toNat:=by have bc:=(bQ.1 an).1;rw[dM];simp[cs,yD,bc];have:=(bQ.1 an).2;rw[this]
   rw[this];exact .v _ rfl
  ·intro k aA h;rw[fp]at aA;simp at h;omega
def VY(l:bm):∀(n i:Nat) (acc:Array Value),OY ⟨⟨l⟩⟩ n i acc=acc++((sY l n i).map (kE .i32)).toArray
 |0,i,acc=>by simp[OY,sY]
 |n+1,i,acc=>by
  unfold OY sY;rw[size_mk];split
  ·simp only;rw[VY l n];simp
  ·simp
def amB(au:cf E ad ae H w){s d e:TypeId}{l:bm}(aU:ij E.P s=ah)(aP:fw E.P d=j e)(he:oI E.P e=j .i32)(ao:(mq l).length<1073741824):
  ∃x av,(convert s d (.string ⟨⟨l⟩⟩)).run E.P w=.ok x av∧cz E ad ae H w (H++[.af 1 0 (mq l) J]) av λ aQ aG=>bf aQ aG (H++[.af 1 0 (mq l) J]) (.ref H.length 0 0 (mq l).length) x:=by
 let gu:=sY l l.length 0
 have fM:(mq l).length=gu.length:=by simp[mq,gu]
 let q:Question:=.appendCap gu.length 0 e
 let cap:Nat:=q.cut (w.tape w.drawn q)
 have j4:gu.length≤cap:=by simp only[cap,q,Question.cut];omega
 let cs:Array Value:=(gu.map (kE .i32)).toArray++AR (cap-gu.length) (.int .i32 0)
 have fp:cs.size=cap:=by simp[cs];omega
 let gf:World:={w with heap:=w.heap.push (.cells cs e),drawn:=w.drawn+1}
 refine⟨.slice (j ⟨w.heap.size,0,o⟩) (mq l).length cap,gf,?_,?_⟩
 ·have bu:q.forced=J:=rfl;have my:OY ⟨⟨l⟩⟩ l.length 0 #[]=(gu.map (kE .i32)).toArray:=by rw[VY];simp[gu]
  simp only[convert,ep,run_underlying (s7 aU),run_underlying (iV aP),eM,run_underlying (Db he),Conv.stringToRunes,run_choose,size_mk,my,Dq,mE];show(Result.andThen (if q.forced then _ else _) _)=_;rw[bu];simp only[gk,if_false,eM,newRow,ep,run_newObj,e8];simp only[fM];rfl
 ·refine AL (av:=gf) (aD:=1) (rows:=mq l) (ex:=false) (n:=(mq l).length) (cap:=cap) au rfl rfl rfl rfl aa ?_ ?_ (by simp[fp];omega) (λ h=>by cases h) ?_ aX (by simpa[fM]using j4) (by simp[fp])
  ·intro i r aB;simp only[mq,fQ,dp]at aB;obtain⟨b,_,rfl⟩:=aB;rfl
  ·unfold mq;rw[J7];intro ac x ap;simp only[fQ,dp]at ap;obtain⟨b,an,rfl⟩:=ap;have:cs.getD ac undef=.int .i32 b:=by have bc:=(bQ.1 an).1;rw[dM];have l3:ac<gu.length:=bc;simp[cs,yD,l3];exact(bQ.1 an).2
   rw[this];exact .v _ rfl
  ·intro k aA h;simp at h
def amC(au:cf E ad ae H w){s d:TypeId}{l:bm}{v:ay}{aq:ab}(aU:ij E.P s=ah)(ao:l.length<1073741824)(h:Ap H l ((fw E.P d).bind (oI E.P))=j (v,aq)):
  ∃x av,(convert s d (.string ⟨⟨l⟩⟩)).run E.P w=.ok x av∧cz E ad ae H w aq av λ aQ aG=>bf aQ aG aq v x:=by
 cases an:(fw E.P d).bind (oI E.P)with
 |none=>rw[an]at h;cases h
 |some k=>
  rw[an]at h;simp only[Dj]at an;obtain⟨e,he,aA⟩:=an;unfold Ap at h;split at h
  next aV=>cases aV;cases h;exact amz au aU he aA ao
  next aV=>
   cases aV;cases h;refine amB au aU he aA (Nat.lt_of_le_of_lt ?_ ao);have key:∀n i,(sY l n i).length≤n:=by
    intro n;induction n with
    |zero=>intro i;simp[sY]
    |succ n a'=>
     intro i;unfold sY;split
     ·simpa using a' _
     ·simp
   simpa[mq]using key l.length 0
  ·cases h
def amD(Kk cap:Nat)(h:cap<Kk)(aI:Kk<1073741824):Kl Kk cap≤4294967296:=by
 have grow:∀(r c:Nat),c≤2147483648→Builtin.growBy Kk r c≤4294967296:=by
  intro r;induction r with
  |zero=>intro c aj;simp only[Builtin.growBy];omega
  |succ r a'=>
   intro c aj;simp only[Builtin.growBy];split
   ·omega
   ·exact a' _ aa
 unfold Kl;split
 ·omega
 ·split
  ·omega
  ·exact grow _ _ aa
def VZ(z:Array Value)(n:Nat):(GJ z n).size=n*z.size:=by simp[GJ]
def Km(P:Program)(t:TypeId):Prop:=(∃e,P.underlying t=j (.slice e))∨P.underlying t=j .string
def V0{P:Program}{t:TypeId}(h:(fw P t).isSome=ah∨ij P t=ah):Km P t:=by
 rcases h with h|h
 ·obtain⟨e,he⟩:=OZ.1 h;exact .inl ⟨_,iV he⟩
 ·exact .inr (s7 h)
def V1{t t2 eG e:TypeId}{z b:Nat}{y:Value}{base:Option Addr}{af cap:Nat}{rows new:cb}{hx eY:Array Value}(he:fw E.P t=j e)(bp:gp E.P e=j z)(an:u0 E.P e=j b)
  {l5:Value}(hzero:∀w,(zeroValue e).run E.P w=.ok l5 w)
  (oT:Km E.P t2)(hlen:∀av:World,av.heap=w.heap→(r8 y).run E.P av=.ok new.length av)(j4:cap<af+new.length)(pB:af+new.length<1073741824)(fG:b≤65536)
  (hold:∀av:World,av.heap=w.heap→(jx z af (.slice base af cap)).run E.P av=.ok hx av)(gd:∀av:World,av.heap=w.heap→(jx z new.length y).run E.P av=.ok eY av)(r_:l5.cells.size=z):
  ∃av jy,(sa #[t,t2] eG #[.slice base af cap,y]).run E.P w=.ok (.slice (j ⟨w.heap.size,0,o⟩) (af+new.length) jy) av∧af+new.length≤jy∧
   av.heap=w.heap.push (.cells (hx++eY++GJ l5.cells (jy-(af+new.length))) e)∧av.os=w.os∧av.tape=w.tape∧av.output=w.output:=by
 obtain⟨eX,V2,AP⟩:∃i,(∀w,(typeInfo e).run E.P w=.ok i w)∧i.bytes=b:=by simp only[u0,dp]at an;obtain⟨i,aB,rfl⟩:=an;exact⟨i,λ w=>run_typeInfo w aB,rfl⟩
 let q:Question:=.appendCap (af+new.length) cap e
 let jy:Nat:=q.cut (w.tape w.drawn q)
 have amE:af+new.length≤jy:=by simp only[jy,q,Question.cut];omega
 let gf:World:={w with drawn:=w.drawn+1}
 have amF:=amD _ _ j4 pB;have p:¬(af+new.length≤cap):=aa;have U:¬(Kl (af+new.length) cap*b>2^48):=by have:Kl (af+new.length) cap*b≤4294967296*65536:=Nat.mul_le_mul amF fG;omega
 have az:¬(((af+new.length:Nat):Int)>ni.max):=by have:ni.max=9223372036854775807:=bU;omega
 refine⟨w.drew.alloc (.cells (hx++eY++GJ l5.cells (jy-(af+new.length))) e),jy,?_,amE,rfl,rfl,rfl,rfl⟩;have bu:q.forced=J:=rfl;have yE:¬(281474976710656<Kl (af+new.length) cap*b):=U;have GK:¬(9223372036854775807<(af:Int)+new.length):=aa;have lF:(choose (.appendCap (af+new.length) cap e)).run E.P w=.ok jy w.drew:=by rw[run_choose];show(if q.forced=ah then _ else _)=_;rw[bu];rfl
 rcases oT with⟨aM,nq⟩|nq
 ·simp[sa,run_underlying (iV he),(hr bp w).1,run_underlying nq,hlen w rfl,p,GK,yE,V2,AP,-run_choose,lF,hold w.drew rfl,gd w.drew rfl,hzero,newRow]
 ·simp[sa,run_underlying (iV he),(hr bp w).1,run_underlying nq,hlen w rfl,p,GK,yE,V2,AP,-run_choose,lF,hold w.drew rfl,gd w.drew rfl,hzero,newRow]
def V3{t t2 eG e:TypeId}{z:Nat}{y:Value}{b al af cap:Nat}{n:Nat}{eY:Array Value}(he:fw E.P t=j e)(bp:gp E.P e=j z)
  (oT:Km E.P t2)(hlen:(r8 y).run E.P w=.ok n w)(j4:af+n≤cap)(gd:(jx z n y).run E.P w=.ok eY w)
  {av:World}(hI:(storeCells ⟨b,al+af*z,o⟩ eY.toList).run E.P w=.ok () av):
  (sa #[t,t2] eG #[.slice (j ⟨b,al,o⟩) af cap,y]).run E.P w=.ok (.slice (j ⟨b,al,o⟩) (af+n) cap) av:=by
 rcases oT with⟨aM,nq⟩|nq
 ·simp[sa,run_underlying (iV he),(hr bp w).1,run_underlying nq,hlen,j4,gd,l1,hI]
 ·simp[sa,run_underlying (iV he),(hr bp w).1,run_underlying nq,hlen,j4,gd,l1,hI]
def GL{t t2 eG e:TypeId}{z:Nat}{y:Value}{a:Option Addr}{af cap:Nat}(he:fw E.P t=j e)(bp:gp E.P e=j z)
  (oT:Km E.P t2)(hlen:(r8 y).run E.P w=.ok 0 w)(j4:af≤cap)(gd:(jx z 0 y).run E.P w=.ok #[] w):
  (sa #[t,t2] eG #[.slice a af cap,y]).run E.P w=.ok (.slice a af cap) w:=by
 rcases oT with⟨aM,nq⟩|nq
 ·cases a<;>simp[sa,run_underlying (iV he),(hr bp w).1,run_underlying nq,hlen,j4,gd,storeCells]
 ·cases a<;>simp[sa,run_underlying (iV he),(hr bp w).1,run_underlying nq,hlen,j4,gd,storeCells]
end
section
variable{E:Env}{ad:cn}{ae:cj}{H:ab}{w:World}
def V4:∀{rows:cb} {l:bX},sU rows=j l→rows.length=l.length∧rows.flatten=l.map λ n=>bx.v (.int .u8 n)
 |[],l,h=>by simp only[sU,br]at h;subst h;simp
 |r::rows,l,h=>by
  unfold sU at h;split at h
  next e=>cases e
  next n hq e=>simp only[Dr]at e;obtain⟨rfl,rfl⟩:=e;simp only[dp]at h;obtain⟨m,hm,rfl⟩:=h;obtain⟨p,U⟩:=V4 hm;simp[p,U]
  ·cases h
def amG(au:cf E ad ae H w){s d e:TypeId}{x v:ay}{y:Value}(aU:fw E.P s=j e)(h:CW E H e d x=j v)(r:bf ad ae H x y):∃u,(convert s d y).run E.P w=.ok u w∧bf ad ae H v u:=by
 unfold CW at h;split at h;rotate_left
 ·cases h
 rename_i aj;split at h;rotate_left
 ·cases h
 rename_i z rows ex b2;split at h;rotate_left
 ·cases h
 rename_i bp;simp only[dp]at h;obtain⟨l,ao,rfl⟩:=h;have qk:kD H x=j (z,rows,ex):=by
  cases x with
  |i u=>cases u with
   |str l=>simp[h6]at b2
   |_=>exact b2
  |_=>exact b2
 obtain⟨cs,cm,cp,c3,fU,c5⟩:=ON (P:=E.P) au r qk bp (Nat.lt_add_one 0);obtain⟨gM,gU⟩:=V4 ao;have bb:∃a cap,y=.slice a rows.length cap:=by
  cases x with
  |i u=>cases u with
   |af aD e3 gK=>simp only[h6,br,bM]at b2;obtain⟨rfl,rfl,rfl⟩:=b2;exact GA (ji r)
   |_=>simp[h6]at b2
  |ref c g off len=>obtain⟨a,cap,rfl⟩:=OB r;have:=cm w;simp only[r8,e8,Result.ok.injEq]at this;exact⟨a,cap,by rw[this.1]⟩
  |_=>simp[h6]at b2
 obtain⟨a,cap,rfl⟩:=bb;have fp:cs=(l.map (kE .u8)).toArray:=by
  apply Array.ext
  ·rw[c3];simp[gM]
  ·intro ac p U;have bc:ac<l.length:=by simpa using U
   have az:=fU ac (.v (.int .u8 l[ac])) (by rw[gU];simp[bc]);rw[dM,r9 p,jQ]at az;generalize cs[ac]=q at az⊢;cases az;simp
 rw[run_convert_bytes_string w s d e a rows.length cap (iV aU) (Db aj.2) (s7 aj.1)];cases a with
 |none=>
  have ir:=cp w rfl;simp only[jx,e8,Result.ok.injEq,and_true]at ir;rw[fp]at ir;have:l=[]:=by
   cases l with
   |nil=>rfl
   |cons a l=>have:=congrArg Array.size ir;simp at this
  subst this;exact⟨_,rfl,Da⟩
 |some a=>
  have ir:=cp w rfl;simp only[jx,JS]at ir;rw[fp]at ir;rw[run_bytesToString w a rows.length cap l ir,foldl_push_bytes];refine⟨_,rfl,?_⟩;have:=Da (ad:=ad) (ae:=ae) (H:=H) (l:=l.map λ n=>iR n.toNat);have e:∀a:Array UInt8,ByteArray.empty.data++a=a:=λ a=>by have a8:ByteArray.empty.data=#[]:=rfl;rw[a8];simp
  rw[e];exact this
def V5(n:Int)(zero:dX):∀(l:pr) (es:List (Int×Nat)) (i:Nat),l.map (λ e=>(e.key,e.val))=es.map (λ I=>(kE .i64 I.1,Gm (.func I.2) #[] #[]))→
  (re (.int .i64) (.int .i64 n) l i=j o∧tO zero n es=tO zero n [])∨∃ac f,re (.int .i64) (.int .i64 n) l i=j (j (ac,.func (.func f) #[] #[]))∧tO zero n es=j (.bl [.aS (.func f) [] [],.bool ah])
 |[],[],i,h=>.inl ⟨rfl,rfl⟩
 |e::l,I::es,i,h=>by
  simp only[fC,Dr,bM]at h;obtain⟨⟨p,U⟩,az⟩:=h;obtain⟨k,f⟩:=I;simp only at p U;unfold re;rw[p];simp only[O0,if_true];by_cases aI:n=k
  ·subst aI;refine .inr ⟨i,f,by simp[U],by rw[tO,if_pos rfl]⟩
  ·have an:(n==k)=J:=by simp[aI]
   rw[an];rw[tO,if_neg aI];exact V5 n zero l es (i+1) az
def O1{P:Program}{t k e}(h:u2 P t=j (k,e)):P.underlying t=j (.map k e):=by unfold u2 at h;split at h<;>simp_all
def look_ok{t:TypeId}{x k v:ay}{y z:Value}(au:cf E ad ae H w)(h:Ga E t x k=j v)(rx:bf ad ae H x y)(jz:bf ad ae H k z):
  ∃u,(AS t y z ah).run E.P w=.ok u w∧bf ad ae H v u:=by
 unfold Ga at h;split at h
 next jK e hm=>
  split at h
  next aA=>
   split at h
   next es n=>
    have hu:=O1 hm;have sb:=Db aA;obtain rfl:=ga jz;cases ji rx with
    |mp es b h7 clock cr amH=>
     have aV:=au.ei _ _ cr;have vj:(getObj b).run E.P w=.ok (.map h7 clock) w:=by simp[getObj,ud,aV]
     have pu:∀em:Bool,(O2 em 10000 jK (.int .i64 n)).run E.P w=.ok () w:=λ em=>by unfold O2;simp[run_underlying sb]
     rcases V5 n (ls E.P e) h7.toList es 0 amH with⟨f1,f2⟩|⟨ac,f,f1,f2⟩
     ·rw[f2]at h;simp only[tO]at h;split at h
      next eB bp=>
       split at h
       ·cases h;obtain⟨AT,j5,rfl⟩:=ys bp w;refine⟨.tuple #[AT,.bool J],?_,?_⟩
        ·unfold AS;simp only[ep,run_underlying hu,eM,vj,e8,pu,AU,run_underlying sb,f1,j5,if_true]
        ·exact .bl _ _ aX λ k a aF=>by
          match k,aF with
          |0,aF=>cases aF;exact tX AT
          |1,aF=>cases aF;exact .i _ _ (.v _ rfl)
          |k+2,aF=>simp at aF
       ·cases h
      ·cases h
     ·rw[f2]at h;cases h;refine⟨.tuple #[.func (.func f) #[] #[],.bool ah],?_,?_⟩
      ·unfold AS;simp only[ep,run_underlying hu,eM,vj,e8,pu,AU,run_underlying sb,f1,if_true]
      ·exact .bl _ _ aX λ k a aF=>by
        match k,aF with
        |0,aF=>cases aF;exact .aS _ _ _ _ _ rfl rfl (λ k a h=>by simp at h) (λ k a h=>by simp at h)
        |1,aF=>cases aF;exact .i _ _ (.v _ rfl)
        |k+2,aF=>simp at aF
   ·cases h
  ·cases h
 ·cases h
def pC:bx→TypeDesc
 |.str _=>.string
 |.v (.int k _)=>.int k
 |_=>.int .i64
def V6{P:Program}{jK:TypeId}{cI:bx}{z:Value}{ad:cn}(h:CX P jK cI=ah)(r:dH ad cI z):P.underlying jK=j (pC cI)∧((∃k n,pC cI=.int k∧z=.int k n)∨∃s,pC cI=.string∧z=.string s):=by
 unfold CX at h;split at h
 ·cases r;exact⟨Db (of_decide_eq_true h),.inl ⟨_,_,rfl,rfl⟩⟩
 ·cases r;exact⟨s7 h,.inr ⟨_,rfl,rfl⟩⟩
 ·cases h
def V7(a c:bm):((⟨⟨a⟩⟩:ByteArray)==⟨⟨c⟩⟩)=decide (a=c):=by
 show ByteArray.beq _ _=_;unfold ByteArray.beq;by_cases h:a=c
 ·subst h;simp
 ·simp[h]
def Kn{ad:cn}{cI ac:bx}{z e:Value}{b:Bool}(h:gT cI ac=j b)(l4:dH ad cI z)(V8:dH ad ac e):O0 (pC cI) z e=j b∧(b=ah→e=z∧Ko 10000 e z=ah):=by
 unfold gT at h;split at h
 next k a dr c=>
  split at h
  next aA=>subst aA;cases l4;cases V8;cases h;refine⟨by simp[pC,O0];rfl,λ an=>?_⟩;have an:=of_decide_eq_true an;subst an;exact⟨rfl,by simp[Ko]⟩
  ·cases h
 next a c=>
  cases l4;cases V8;cases h;refine⟨?_,λ an=>?_⟩
  ·simp only[pC,O0,br,V7]
  ·have an:=of_decide_eq_true an;subst an;exact⟨rfl,by simp[Ko,V7]⟩
 ·cases h
def O3{ad:cn}{ae:cj}{H:ab}{cI:bx}{z:Value}(l4:dH ad cI z):∀(es:fa) (q:pr) (i:Nat) {r:dX},og ad ae H es q→ik cI es=j r→
  (r=o∧re (pC cI) z q i=j o)∨∃u ac val,r=j u∧re (pC cI) z q i=j (j (ac,val))∧bf ad ae H u val
 |[],[],i,r,_,h=>by cases h;exact .inl ⟨rfl,rfl⟩
 |(ac,v)::es,e::q,i,r,hm,h=>by
  obtain⟨m1,m2,m3⟩:=hm;simp only[ik]at h;split at h
  next aU=>obtain⟨s1,_⟩:=Kn aU l4 m1;cases h;exact .inr ⟨v,i,e.val,rfl,by simp[re,s1],m2⟩
  next aU=>
   obtain⟨s1,_⟩:=Kn aU l4 m1;rcases O3 l4 es q (i+1) m3 h with⟨p,U⟩|⟨u,k,val,p,U,az⟩
   ·exact .inl ⟨p,by simp[re,s1,U]⟩
   ·exact .inr ⟨u,k,val,p,by simp[re,s1,U],az⟩
  ·cases h
 |[],_::_,_,_,hm,_=>hm.elim
 |_::_,[],_,_,hm,_=>hm.elim
def amI{ad:cn}{ae:cj}{H:ab}{cI:bx}{z:Value}(l4:dH ad cI z)(es:fa)(q:pr)(i:Nat){r:dX}(hm:nc ad ae H es q)(h:ik cI es=j r):
  (r=o∧re (pC cI) z q i=j o)∨∃u ac val,r=j u∧re (pC cI) z q i=j (j (ac,val))∧bf ad ae H u val:=by
 obtain⟨ix,p,U,az⟩:=hm;exact O3 l4 ix q i U (Og p az h)
def V9{ad:cn}{ae:cj}{H:ab}{k:bx}{x:ay}{z y:Value}(l4:dH ad k z)(yF:bf ad ae H x y)(born:Nat):∀(es:fa) (q:pr),og ad ae H es q→og ad ae H (es++[(k,x)]) (q++[{key:=z,val:=y,born:=born}])
 |[],[],_=>⟨l4,yF,trivial⟩
 |_::es,_::q,h=>⟨h.1,h.2.1,V9 l4 yF born es q h.2.2⟩
 |[],_::_,h=>h.elim
 |_::_,[],h=>h.elim
def V_{k:bx}{v:ay}:∀{es:fa},(∀I∈es,gT k I.1=j J)→kB k v es=es
 |[],_=>rfl
 |I::r,h=>by
  have a8:=h I aX;have a':=V_ (v:=v) λ q (bu:q∈r)=>h q (vk _ bu)
  simp only[kB,a8,br,gk,if_false,a']
def V'{ad:cn}{ae:cj}{H:ab}{cI:bx}{wP:ay}{z y:Value}(l4:dH ad cI z)(yF:bf ad ae H wP y):∀(es:fa) (q:pr) (i:Nat) {u:ay},og ad ae H es q→(es.Pairwise λ I r=>gT I.1 r.1=j J)→ik cI es=j (j u)→
  ∃ac val,re (pC cI) z q i=j (j (i+ac,val))∧(∃e,q[ac]?=j e∧Ko 10000 e.key z=ah)∧og ad ae H (kB cI wP es) (q.modify ac λ e=>{e with key:=z,val:=y})
 |[],[],i,_,_,_,h=>by cases h
 |(ac,v)::es,e::q,i,u,hm,aP,h=>by
  obtain⟨m1,m2,m3⟩:=hm;obtain⟨d1,d2⟩:=wz.1 aP;simp only[ik]at h;split at h
  next aU=>obtain⟨s1,s2⟩:=Kn aU l4 m1;have:=C9 aU;subst this;refine⟨0,e.val,by simp[re,s1],⟨e,rfl,(s2 rfl).2⟩,?_⟩;simp only[kB,aU,if_true,V_ d1];exact⟨l4,yF,m3⟩
  next aU=>obtain⟨s1,_⟩:=Kn aU l4 m1;obtain⟨k,val,U,⟨aM,az,bh⟩,bF⟩:=V' l4 yF es q (i+1) m3 d2 h;refine⟨k+1,val,by simp[re,s1,U];omega,⟨aM,by simpa using az,bh⟩,?_⟩;simp only[kB,aU,br,gk,if_false,List.modify_succ_cons];exact⟨m1,m2,bF⟩
  ·cases h
 |[],_::_,_,_,hm,_,_=>hm.elim
 |_::_,[],_,_,hm,_,_=>hm.elim
def amJ{ad:cn}{ae:cj}{H:ab}{cI:bx}{wP:ay}{z y:Value}(l4:dH ad cI z)(yF:bf ad ae H wP y)(es:fa)(q:pr)(i:Nat){ix:fa}(hm:nc ad ae H es q)(h:k3 cI wP es=j ix):
  (re (pC cI) z q i=j o∧∀born,nc ad ae H ix (q++[{key:=z,val:=y,born:=born}]))∨
  ∃ac val,re (pC cI) z q i=j (j (i+ac,val))∧(∃e,q[ac]?=j e∧Ko 10000 e.key z=ah)∧nc ad ae H ix (q.modify ac λ e=>{e with key:=z,val:=y}):=by
 obtain⟨GM,p,U,az⟩:=hm;unfold k3 at h;split at h
 next aN=>
  cases h;have AV:=Og p az aN;rcases O3 l4 GM q i U AV with⟨_,g⟩|⟨u,ac,val,g,_⟩
  ·refine .inl ⟨g,λ born=>⟨GM++[(cI,wP)],(Oh cI wP es).trans ((p.cons _).trans (List.perm_append_singleton _ _).symm),V9 l4 yF born GM q U,?_⟩⟩;refine((Oh cI wP es).symm.pairwise_iff (λ{x y} Gq=>by rw[Gp];exact Gq)).1 (wz.2 ⟨λ I ax=>Of.1 aN I ax,az⟩)
  ·cases g
 next u aN=>cases h;have AV:=Og p az aN;have GK:=(p.pairwise_iff (λ{x y} Gq=>by rw[Gp];exact Gq)).1 az;obtain⟨ac,val,g1,g2,g3⟩:=V' l4 yF GM q i U GK AV;refine .inr ⟨ac,val,g1,g2,kB cI wP GM,by rw[JG,JG];exact p.map _,g3,?_⟩;rw[JG,List.pairwise_map];exact az.imp λ{a b} dc=>by rw[Oi,Oi];exact dc
 ·cases h
def Wa{P:Program}{jK:TypeId}{cI:bx}{z:Value}(hu:P.underlying jK=j (pC cI))(bp:(∃k n,pC cI=.int k∧z=.int k n)∨∃s,pC cI=.string∧z=.string s)(em:Bool)(w:World):(O2 em 10000 jK z).run P w=.ok () w:=by unfold O2;rcases bp with⟨k,n,aA,rfl⟩|⟨s,aA,rfl⟩<;>rw[aA]at hu<;>simp[run_underlying hu]
def amK{t:TypeId}{x k v:ay}{y z:Value}{ok:Bool}(au:cf E ad ae H w)(h:Ak E H t x k ok=j v)(rx:bf ad ae H x y)(jz:bf ad ae H k z):
  ∃u,(AS t y z ok).run E.P w=.ok u w∧bf ad ae H v u:=by
 unfold Ak at h;split at h
 next c=>
  unfold CY at h;split at h
  next es aT=>
   split at h
   next jK e cI hm=>
    split at h
    next aA=>
     have jz:=ji jz;have hu:=O1 hm;obtain⟨sb,bp⟩:=V6 aA jz;cases rx with
     |dV _ _ aj O4 _ _ ax _=>
      obtain⟨b,n,ct,rfl⟩:=O4 _ aT;obtain⟨b0,h7,aO,hJ,hw,fl⟩:=au.ch _ _ aT;rw[ct]at hJ;cases hJ;have vj:(getObj b).run E.P w=.ok (.map h7 aO) w:=by simp[getObj,ud,hw]
      have pu:=λ em:Bool=>Wa (w:=w) sb bp em
      cases aN:ik cI es with
      |none=>rw[aN]at h;cases h
      |some r=>
       rw[aN]at h;rcases amI jz es h7.toList 0 fl aN with⟨rfl,f2⟩|⟨u,ac,val,rfl,f2,f3⟩
       ·simp only[wj]at h;split at h
        next eB km=>
         split at h
         ·obtain⟨AT,j5,rfl⟩:=ys km w;cases h;cases ok with
          |true=>
           refine⟨.tuple #[AT,.bool J],?_,?_⟩
           ·unfold AS;simp only[ep,run_underlying hu,eM,vj,e8,pu,AU,run_underlying sb,f2,j5,if_true]
           ·exact .bl _ _ aX λ k a aF=>by
             match k,aF with
             |0,aF=>cases aF;exact tX AT
             |1,aF=>cases aF;exact .i _ _ (.v _ rfl)
             |k+2,aF=>simp at aF
          |false=>refine⟨AT,?_,by simpa using tX AT⟩;unfold AS;simp only[ep,run_underlying hu,eM,vj,e8,pu,AU,run_underlying sb,f2,j5,gk,if_false]
         ·cases h
        ·cases h
       ·simp only[wj,br]at h;cases h;cases ok with
        |true=>
         refine⟨.tuple #[val,.bool ah],?_,?_⟩
         ·unfold AS;simp only[ep,run_underlying hu,eM,vj,e8,pu,AU,run_underlying sb,f2,if_true]
         ·exact .bl _ _ aX λ k a aF=>by
           match k,aF with
           |0,aF=>cases aF;exact f3
           |1,aF=>cases aF;exact .i _ _ (.v _ rfl)
           |k+2,aF=>simp at aF
        |false=>refine⟨val,?_,by simpa using f3⟩;unfold AS;simp only[ep,run_underlying hu,eM,vj,e8,pu,AU,run_underlying sb,f2,gk,if_false]
    ·cases h
   ·cases h
  ·cases h
 ·split at h
  next h9=>subst h9;exact look_ok au h rx jz
  ·cases h
def Wb{t:TypeId}{m k x v:ay}{y z u:Value}{aq:ab}(au:cf E ad ae H w)(h:nK E H t m k x=j (v,aq))(r6:bf ad ae H m y)(jz:bf ad ae H k z)(rx:bf ad ae H x u):
  ∃av,(Kp t y z u).run E.P w=.ok () av∧v=.dead∧cz E ad ae H w aq av λ _ _=>True:=by
 unfold nK at h;split at h
 next c=>
  unfold tP at h;split at h
  next es aT=>
   split at h
   next jK e cI hm=>
    split at h
    next aA=>
     obtain⟨aA,_⟩:=aA;simp only[dp,bM]at h;obtain⟨ix,ax,rfl,rfl⟩:=h;have jz:=ji jz;have hu:=O1 hm;obtain⟨sb,bp⟩:=V6 aA jz;cases r6 with
     |dV _ _ aj O4 _ _ _ _=>
      obtain⟨b,n,ct,rfl⟩:=O4 _ aT;obtain⟨b0,h7,aO,hJ,hw,fl⟩:=au.ch _ _ aT;rw[ct]at hJ;cases hJ;have bg:b<w.heap.size:=(kg.1 hw).1;have vj:(getObj b).run E.P w=.ok (.map h7 aO) w:=by simp[getObj,ud,hw]
      have ki:∀al:Obj,(setObj b al).run E.P w=.ok () {w with heap:=w.heap.setIfInBounds b al}:=λ al=>by simp[setObj,ud,hw]
      have pu:=Wa (w:=w) sb bp J;have fin:∀(GN:Array MapEntry) (kI:Nat),nc ad ae H ix GN.toList→(Kp t (.map (j b)) z u).run E.P w=.ok () {w with heap:=w.heap.setIfInBounds b (.map GN kI)}→
        ∃av,(Kp t (.map (j b)) z u).run E.P w=.ok () av∧ay.dead=.dead∧cz E ad ae H w (H.set c (.map ix)) av λ _ _=>True:=by
       intro GN kI amL my;refine⟨_,my,rfl,wrote (av:={w with heap:=w.heap.setIfInBounds b (.map GN kI)}) au ct aT (λ b0 iZ=>by simp[Array.getElem?_setIfInBounds,bi iZ]) aX rfl rfl rfl ?_ (λ hm=>?_) (λ _=>trivial)⟩
       ·intro q bu;rcases gb bu with⟨_,rfl⟩|⟨e,_⟩
        ·exact⟨es,aT,rfl⟩
        ·exact absurd rfl e
       ·exact⟨b,GN,kI,ct,by simp[bg],amL.mono (λ _ _ h=>h) hm⟩
      rcases amJ jz rx es h7.toList 0 fl ax with⟨f1,f2⟩|⟨ac,val,f1,⟨aM,f3,f4⟩,f5⟩
      ·refine fin (h7.push {key:=z,val:=u,born:=aO}) (aO+1) (by rw[Array.toList_push];exact f2 aO) ?_;unfold Kp;simp only[ep,run_underlying hu,eM,vj,pu,AU,run_underlying sb,f1,e8,ki]
      ·have bc:h7[ac]?=j aM:=by rw[←nM];exact f3
       refine fin (h7.modify ac λ e=>{e with key:=z,val:=u}) aO (by rw[Array.toList_modify];exact f5) ?_;unfold Kp;simp only[ep,run_underlying hu,eM,vj,pu,AU,run_underlying sb,f1,e8,cJ,bc,eH,jQ,Instr.keyThatStays,f4,if_true,ki]
    ·cases h
   ·cases h
  ·cases h
 ·cases h
def amM{R:Fr}{a:Act}{al:Oper}{v:ay}(h:eV E R H al.op=j v)(au:cf E ad ae H w)(aN:fq ad ae H R a.tmps):
  ∃x,(execOp a.eval al).run E.P w=.ok (.value x) w∧bf ad ae H v x:=by
 obtain⟨dst,op,eG,pos,after,guard⟩:=al;simp only at h;cases op<;>(try(first|(simp only[eV]at h;done)|(simp only[eV]at h;cases h;done)))
 case move x=>simp only[eV,br]at h;subst h;exact⟨_,by simp[execOp],e7 au aN x⟩
 case assign x=>simp only[eV,br]at h;subst h;exact⟨_,by simp[execOp],e7 au aN x⟩
 case pick c x y=>
  simp only[eV]at h;split at h
  next t aj=>
   cases h;have rb:=e7 au aN c;rw[aj]at rb;refine⟨if t then a.eval x else a.eval y,by simp[execOp,ga rb,asBool],?_⟩;cases t
   ·exact e7 au aN y
   ·exact e7 au aN x
  ·cases h
 case build t parts=>
  simp only[eV]at h;obtain⟨u,p,U⟩:=al5 (w:=w) (kh:=parts.map λ I=>(I.1,a.eval I.2)) h ⟨aX,λ k I q ax bu=>by
   simp only[fQ,dp,O5]at ax bu;obtain⟨k7,ue,rfl⟩:=ax;obtain⟨nr,uf,rfl⟩:=bu;rw[ue]at uf;cases uf;exact⟨rfl,e7 au aN _⟩⟩
  exact⟨u,by simp only[execOp,ep];rw[p];simp,U⟩
 case load t x=>simp only[eV]at h;obtain⟨u,p,U⟩:=Ve au (e7 au aN x) h;exact⟨u,by simp only[execOp,ep,p,eM,e8],U⟩
 case nilCheck x=>
  simp only[eV]at h;have ap:=e7 au aN x;split at h
  next aj=>
   cases h;rw[aj]at ap;have ug:=ap;cases ap with
   |ptr c g r k v fF an aU Ds aB ax aR=>obtain⟨b,k'⟩:=ax;refine⟨a.eval x,?_,ug⟩;simp only[execOp,k',e8]
  next aj=>
   cases h;rw[aj]at ap;have ug:=ap;generalize bb:a.eval x=y at ap ug;cases ji ap with
   |gR=>exact⟨_,by simp only[execOp,bb,e8],ug⟩
  next aj=>
   cases h;rw[aj]at ap;have ug:=ap;generalize bb:a.eval x=y at ap ug;cases ap with
   |aS=>exact⟨_,by simp only[execOp,bb,e8],ug⟩
  next aj=>cases h;rw[aj]at ap;obtain⟨_,⟨b,k'⟩,_⟩:=yB ap;exact⟨a.eval x,by simp only[execOp,k',e8],ap⟩
  next aj=>cases h;rw[aj]at ap;obtain⟨_,⟨b,k'⟩,_⟩:=yB ap;exact⟨a.eval x,by simp only[execOp,k',e8],ap⟩
  ·cases h
 case binOp op t x y t2=>simp only[eV]at h;obtain⟨z,p,U⟩:=alR (w:=w) h (e7 au aN x) (e7 au aN y) x y;exact⟨z,by simp only[execOp];rw[ep,p];simp,U⟩
 case unOp op t x=>simp only[eV]at h;obtain⟨z,p,U⟩:=alS (w:=w) (P:=E.P) h (e7 au aN x);exact⟨z,by simp only[execOp,ep,p,eM,e8],U⟩
 case convert s d x=>
  simp only[eV]at h;split at h
  next e he=>obtain⟨z,p,U⟩:=amG (w:=w) au he h (e7 au aN x);exact⟨z,by simp only[execOp,ep,p,eM,e8],U⟩
  ·obtain⟨z,p,U⟩:=al0 (w:=w) h (e7 au aN x);exact⟨z,by simp only[execOp,ep,p,eM,e8],U⟩
 case makeFunc fn first fZ=>
  simp only[eV,br]at h;subst h;have key:∀(l:Array Operand) (k:Nat) (b:ay),(l.toList.map (bw E R))[k]?=j b→bf ad ae H b ((l.map a.eval).getD k undef):=by intro l k b an;simp only[fQ,dp,nM]at an;obtain⟨x,ap,rfl⟩:=an;have bg:=(kg.1 ap).1;rw[getD_map _ _ _ bg,(kg.1 ap).2];exact e7 au aN x
  exact⟨_,by simp only[execOp,Instr.makeFunc,ep,e8,eM],.aS _ _ _ _ _ aX aX (key first) (key fZ)⟩
 case slice t x b5 aB lv=>simp only[eV]at h;obtain⟨u,p,U⟩:=Vs h au (e7 au aN x) (Dg au aN b5) (Dg au aN aB) (Dg au aN lv);exact⟨u,by simp only[execOp,ep,p,eM,e8],U⟩
 case fieldAddr t x f=>
  simp only[eV]at h;split at h
  next off eG yn=>
   split at h
   next z bp=>
    split at h
    next ax=>obtain⟨u,p,U⟩:=alT (w:=w) yn bp ax h (e7 au aN x);exact⟨u,by simp only[execOp,ep,p,eM,e8],U⟩
    ·cases h
   ·cases h
  ·cases h
 case field t x f=>simp only[eV]at h;obtain⟨u,p,U⟩:=alY (w:=w) h (e7 au aN x);exact⟨u,by simp only[execOp,ep,p,eM,e8],U⟩
 case indexAddr t x kd=>simp only[eV]at h;obtain⟨u,p,U⟩:=alV h au (e7 au aN x) (e7 au aN kd);exact⟨u,by simp only[execOp,ep,p,eM,e8],U⟩
 case index t x kd=>simp only[eV]at h;obtain⟨u,p,U⟩:=alX (w:=w) h (e7 au aN x) (e7 au aN kd);exact⟨u,by simp only[execOp,ep,p,eM,e8],U⟩
 case lookup t x k ok=>simp only[eV]at h;obtain⟨u,p,U⟩:=amK (w:=w) au h (e7 au aN x) (e7 au aN k);exact⟨u,by simp only[execOp,ep,p,eM,e8],U⟩
 case extract x n=>
  simp only[eV]at h;split at h
  next vs ap=>have r:=e7 au aN x;rw[ap]at r;obtain⟨cs,e,p,U⟩:=U' r;have bg:=(bQ.1 h).1;refine⟨_,?_,U _ _ h⟩;simp only[execOp,e,Instr.extract];rw[getD_eq cs n aa];simp
  ·cases h
 case call c=>
  obtain⟨callee,args,fx⟩:=c;cases callee with
  |value f=>simp[eV]at h
  |invoke r m=>simp[eV]at h
  |builtin b=>
   simp only[eV]at h;split at h
   next x t ap bA=>
    have ap:=VC ap;have bA:=VC bA;subst ap bA;have r:=e7 au aN x;split at h
    next O6=>
     split at h
     next l ao=>
      rw[ao]at r;split at h
      next aU=>cases h;exact⟨_,by simp[execOp,resolve,invoke,builtin,Builtin.len_,run_underlying (s7 aU),q8 r,goInt,size_mk],nh⟩
      ·cases h
     next aD rows ex ao=>
      rw[ao]at r;split at h
      ·cases h
      next aU=>
       cases h;rcases O6 with a8|a8
       ·exact absurd a8 aU
       ·obtain⟨e,he⟩:=OZ.1 a8;obtain⟨ia,cap,bb⟩:=GA (ji r);exact⟨_,by simp[execOp,resolve,invoke,builtin,Builtin.len_,run_underlying (iV he),bb,goInt],nh⟩
     next c g off len ao=>
      rw[ao]at r;split at h
      ·cases h
      next aU=>
       cases h;rcases O6 with a8|a8
       ·exact absurd a8 aU
       ·obtain⟨e,he⟩:=OZ.1 a8;obtain⟨ia,cap,bb⟩:=OB r;exact⟨_,by simp[execOp,resolve,invoke,builtin,Builtin.len_,run_underlying (iV he),bb,goInt],nh⟩
     next c g off len ao=>
      rw[ao]at r;split at h
      ·cases h
      next aU=>
       cases h;rcases O6 with a8|a8
       ·exact absurd a8 aU
       ·obtain⟨e,he⟩:=OZ.1 a8;obtain⟨_,⟨ia,cap,bb⟩,_⟩:=yB r;exact⟨_,by simp[execOp,resolve,invoke,builtin,Builtin.len_,run_underlying (iV he),bb,goInt],nh⟩
     ·cases h
    ·cases h
   ·obtain⟨u,p,U⟩:=VD (w:=w) (g:=Builtin.max2) E.P (λ aV fE iX=>al1 E.P aV fE iX) (args.toList.map (bw E R)) (args.map a.eval).toList v aX
     (λ k b y an bb=>by
      simp only[fQ,dp,O5]at an bb;obtain⟨k7,ue,rfl⟩:=an;obtain⟨nr,uf,rfl⟩:=bb;rw[ue]at uf;cases uf;exact e7 au aN _) (stuck "max: at least one argument expected") h
    have gw:(Builtin.max_ fx eG (args.map a.eval)).run E.P w=.ok u w:=p;exact⟨u,by simp only[execOp,resolve,ep,e8,eM,invoke,builtin,gw],U⟩
   ·obtain⟨u,p,U⟩:=VD (w:=w) (g:=Builtin.min2) E.P (λ aV fE iX=>al2 E.P aV fE iX) (args.toList.map (bw E R)) (args.map a.eval).toList v aX
     (λ k b y an bb=>by
      simp only[fQ,dp,O5]at an bb;obtain⟨k7,ue,rfl⟩:=an;obtain⟨nr,uf,rfl⟩:=bb;rw[ue]at uf;cases uf;exact e7 au aN _) (stuck "min: at least one argument expected") h
    have gw:(Builtin.min_ fx eG (args.map a.eval)).run E.P w=.ok u w:=p;exact⟨u,by simp only[execOp,resolve,ep,e8,eM,invoke,builtin,gw],U⟩
   ·cases h
def Wc(au:cf E ad ae H w){av:World}{al:Obj}(hw:av.heap=w.heap.push al)(ci:av.os=w.os)(bA:av.tape=w.tape)(hu:av.output=w.output)(ch:Chunk)
  (lF:fz ad ae H ad (gv ae H.length w.heap.size 0) (H++[ch])→ps ad (gv ae H.length w.heap.size 0) (H++[ch]) av H.length ch){Q:cn→cj→Prop}
  (fk:fz ad ae H ad (gv ae H.length w.heap.size 0) (H++[ch])→Q ad (gv ae H.length w.heap.size 0)):cz E ad ae H w (H++[ch]) av Q:=by
 have hold:∀b,b<w.heap.size→av.heap[b]?=w.heap[b]?:=by intro b an;rw[hw,J9,if_neg aa]
 have hm:fz ad ae H ad (gv ae H.length w.heap.size 0) (H++[ch]):=by
  refine ng (λ _ _ h=>h) aX λ c aj=>?_
  exact jw.same (by rw[eO aj]) (λ r=>by simp[gv,show c≠H.length by omega])
 have h8:∀(c:fK) b n,gv ae H.length w.heap.size 0 c=j (b,n)→(c=⟨H.length,0⟩∧b=w.heap.size∧n=0)∨ae c=j (b,n):=by
  intro c b n h;unfold gv at h;split at h
  ·cases h;exact .inl ⟨by assumption,rfl,rfl⟩
  ·exact .inr h
 refine⟨ad,gv ae H.length w.heap.size 0,⟨λ b al an=>?_,λ c x ap=>?_,λ c cv b n dT p U=>?_,λ c b n h=>?_,au.fv⟩,⟨ci,bA,hu,by rw[hw];simp,λ b an _=>hold b an,λ _ _ h=>h,λ b h=>.inl h,λ c b n h=>?_⟩,hm,fk hm⟩
 ·have:=au.ei b al an;have bg:b<w.heap.size:=(kg.1 this).1;rw[hold b bg];exact this
 ·by_cases aj:c<H.length
  ·rw[eO aj]at ap;refine(au.ch c x ap).mono (λ r=>by simp[gv,show c≠H.length by omega]) (λ _ _ h=>h) hm λ r b n h=>hold b (au.sep _ _ _ h).2.1
  ·have:c=H.length:=by have:=(bQ.1 ap).1;simp at this;omega
   subst this;simp at ap;subst ap;exact lF hm
 ·rcases h8 _ _ _ p with⟨rfl,rfl,rfl⟩|ar
  ·rcases h8 _ _ _ U with⟨e,_,_⟩|aM
   ·exact e.symm
   ·have:=(au.sep _ _ _ aM).2.1;omega
  ·rcases h8 _ _ _ U with⟨e,rfl,_⟩|aM
   ·have:=(au.sep _ _ _ ar).2.1;omega
   ·exact au.inj _ _ _ _ _ ar aM
 ·rcases h8 _ _ _ h with⟨rfl,rfl,rfl⟩|ar
  ·refine⟨?_,by rw[hw];simp,aX⟩;cases cr:ad w.heap.size with
   |none=>rfl
   |some al=>have:=au.ei _ _ cr;simp at this
  ·have:=au.sep _ _ _ ar;exact⟨this.1,by rw[hw];simp;omega,by simp;omega⟩
 ·rcases h8 _ _ _ h with⟨rfl,rfl,rfl⟩|ar
  ·exact .inl (cS _)
  ·exact .inr ⟨_,_,ar⟩
def amN(au:cf E ad ae H w){t:TypeId}{l:bm}(bA:ij E.P t=ah):
  ∃x av,(Instr.range t (.string ⟨⟨l⟩⟩)).run E.P w=.ok x av∧cz E ad ae H w (H++[.iter l 0]) av λ aQ aG=>bf aQ aG (H++[.iter l 0]) (.ptr H.length 0 0 0) x:=by
 refine⟨_,_,run_range_string w t ⟨⟨l⟩⟩ (s7 bA),?_⟩;refine Wc (av:=w.iter ⟨⟨l⟩⟩ 0) (al:=.stringIter ⟨⟨l⟩⟩ 0) au rfl rfl rfl rfl _ (λ hm=>?_) (λ hm=>?_)
 ·exact⟨w.heap.size,by simp[gv],World.iter_heap w _ 0⟩
 ·exact .ptr _ _ _ _ _ aX (λ _ h=>by simp at h) (λ _ _ _ h=>by simp at h) (λ _ _ _ _ h=>by simp at h) (λ s I h=>⟨w.heap.size,0,by simp[gv],rfl⟩) ⟨_,rfl⟩ (λ _ _ _ _ h=>by simp at h)
def amO:bf ad ae H (.bl [.bool J]) (.tuple #[.bool J]):=.bl _ _ rfl (λ k a h=>by
 cases k with
 |zero=>simp at h;subst h;exact yd
 |succ k=>simp at h)
def amP{a:Bool}{n m:Int}:bf ad ae H (.bl [.bool a,.int .i64 n,.int .i32 m]) (.tuple #[.bool a,.int .i64 n,.int .i32 m]):=.bl _ _ rfl (λ k x h=>by
 match k with
 |0=>simp at h;subst h;exact yd
 |1=>simp at h;subst h;exact nh
 |2=>simp at h;subst h;exact nh
 |k+3=>simp at h)
def amQ(au:cf E ad ae H w){c g r:Nat}{y:Value}{s:bm}{pos:Nat}(eG:TypeId)(ak:bf ad ae H (.ptr c g r 0) y)(aT:H[c]?=j (.iter s pos)):
  (pos<s.length→∃x av,(Instr.next y ah eG).run E.P w=.ok x av∧cz E ad ae H w (H.set c (.iter s (pos+(na ⟨⟨s⟩⟩ pos).2))) av λ aQ aG=>bf aQ aG (H.set c (.iter s (pos+(na ⟨⟨s⟩⟩ pos).2))) (.bl [.bool ah,.int .i64 pos,.int .i32 (na ⟨⟨s⟩⟩ pos).1]) x)∧
  (¬pos<s.length→∃x,(Instr.next y ah eG).run E.P w=.ok x w∧bf ad ae H (.bl [.bool J]) x):=by
 cases ak with
 |ptr _ _ _ _ _ aj an aU aN aB ax aR=>
  obtain⟨b,n,ct,rfl⟩:=aB _ _ aT;obtain⟨b0,hJ,hw⟩:=au.ch _ _ aT;rw[ct]at hJ;cases hJ;have bg:b<w.heap.size:=(kg.1 hw).1;refine⟨λ iA=>?_,λ iA=>?_⟩
  ·have O7:pos<(⟨⟨s⟩⟩:ByteArray).size:=iA
   let W:World:={w with heap:=w.heap.setIfInBounds b (.stringIter ⟨⟨s⟩⟩ (pos+(na ⟨⟨s⟩⟩ pos).2))}
   refine⟨.tuple #[.bool ah,.int .i64 pos,.int .i32 (na ⟨⟨s⟩⟩ pos).1],W,?_,?_⟩
   ·simp[Instr.next,getObj,setObj,ud,hw,O7,goInt,W]
   ·refine wrote (av:=W) au ct aT (λ b0 iZ=>by simp[W,Array.getElem?_setIfInBounds,bi iZ]) (by simp[W]) rfl rfl rfl ?_ (λ hm=>?_) (λ hm=>amP)
    ·intro z bp;rcases gb bp with⟨_,rfl⟩|⟨e,_⟩
     ·exact⟨s,pos,aT,rfl⟩
     ·exact absurd rfl e
    ·exact⟨b,ct,by simp[W,bg]⟩
  ·have O7:¬pos<(⟨⟨s⟩⟩:ByteArray).size:=iA;exact⟨.tuple #[.bool J],by simp[Instr.next,getObj,ud,hw,O7],amO⟩
end
section
variable{E:Env}{ad:cn}{ae:cj}{H:ab}{w:World}
def amR{P:Program}{e:TypeId}{z:ay}(h:ls P e=j z):∃v,(∀w,(zeroValue e).run P w=.ok v w)∧z=kz v:=by simp only[ls,dp,Dj]at h;obtain⟨v,⟨i,aB,bp⟩,rfl⟩:=h;exact⟨v,λ w=>by simp[zeroValue,run_typeInfo w aB,bp],rfl⟩
def amS(P:Program)(e:TypeId)(z:Nat):Prop:=∃v:Value,(∀w,(zeroValue e).run P w=.ok v w)∧v.cells.size=z
def Wd{z:Nat}{e:TypeId}{a:ay}(h:ls E.P e=j a)(p:(cU a).length=z)(U:(cU a).all one=ah):amS E.P e z:=by obtain⟨v,bo,rfl⟩:=amR h;exact⟨v,bo,by rw[←p];exact(ve (tX (ad:=λ _=>o) (ae:=λ _=>o) (H:=[]) v) U).1⟩
def Dt{rows:c0}{off n:Nat}(h:off+n≤rows.length):(fB rows off n).length=rows.length:=by simp only[fB,dK,hV,mG,j6];omega
def amT{rows:c0}{off n i:Nat}{y:er}(h:off+n≤rows.length)(aB:(fB rows off n)[i]?=j y):(off≤i∧i<off+n∧y=.dead)∨(¬(off≤i∧i<off+n)∧rows[i]?=j y):=by
 unfold fB at aB;rw[vi]at aB;have ar:(rows.take off).length=off:=by simp;omega
 rw[ar]at aB;split at aB
 next bg=>rw[oQ,if_pos bg]at aB;exact .inr ⟨aa,aB⟩
 next bg=>
  rw[vi,mG]at aB;split at aB
  next U=>rw[O8,if_pos U]at aB;cases aB;exact .inl ⟨aa,aa,rfl⟩
  next U=>rw[s8,show off+n+(i-off-n)=i by omega]at aB;exact .inr ⟨aa,aB⟩
def nd.one{z c r:Nat}{y:er}{v:Value}(h:nd ad ae w z c r y v):v.oneCell'=ah:=by
 cases y with
 |own b4=>obtain⟨a,m,rfl⟩:=h.slice;rfl
 |ek q=>exact GC h
 |dead=>exact h
def Kq(P:Program)(au:cf E ad ae H w){z d:Nat}{x:ay}{l8:Value}{new:c0}{H1:ab}(rx:bf ad ae H x l8)(h:mo z H x=j (d,new,H1)):
  ∃g off s rows,x=.x (.d d g off new.length)∧H[d]?=j (.aE z g s rows)∧off+new.length≤rows.length∧(∀i,i<new.length→new[i]?=rows[off+i]?)∧H1=H.set d (.aE z g (s+1) (fB rows off new.length))∧
   ∃(eY:Array Value) (a:Option Addr) (cap:Nat),l8=.slice a new.length cap∧(∀av:World,av.heap=w.heap→(jx 1 new.length l8).run P av=.ok eY av)∧eY.size=new.length∧
    (∀(i:Nat) (y:er),new[i]?=j y→nd ad ae w z d (off+i) y (eY.getD i undef))∧∀i,i<new.length→∃ia:Addr,a=j ia∧w.cell? (ia.add i)=j (eY.getD i undef):=by
 unfold mo at h;split at h;rotate_left
 ·cases h
 rename_i c g off len;unfold wq at h;split at h;rotate_left
 ·cases h
 rename_i ds a6 s rows aT;split at h;rotate_left
 ·cases h
 rename_i aj;obtain⟨rfl,rfl,hle⟩:=aj;simp only[br,bM]at h;obtain⟨rfl,rfl,rfl⟩:=h;have ao:((rows.drop off).take len).length=len:=by simp;omega
 rw[ao];have oo:∀i,i<len→((rows.drop off).take len)[i]?=rows[off+i]?:=by intro i aB;rw[oQ,if_pos aB,s8]
 refine⟨g,off,s,rows,rfl,aT,hle,oo,rfl,?_⟩;obtain⟨cD,_,ap⟩:=yB rx;obtain⟨_,a,cap,rfl,fR⟩:=(ap _ _ _ _ aT).2 rfl;by_cases a8:len=0
 ·subst a8;refine⟨#[],a,cap,rfl,λ av _=>?_,rfl,λ i y aB=>by simp at aB,λ i aB=>aa⟩;cases a<;>simp[jx,loadCells,loadCellsFrom]
 ·rcases au.ch _ _ aT with⟨_,bh⟩|⟨b,cs,elem,bs,ct,hw,hs,eQ,eN⟩
  ·subst bh;simp at hle;omega
  ·rcases fR with⟨he,_⟩|⟨dZ,m,he,_,_,aF⟩
   ·rw[ct]at he;cases he
   ·rw[ct]at he;cases he;rcases aF with rfl|⟨bF,_⟩;rotate_left
    ·exact absurd bF a8
    refine⟨((hB len).map λ ac=>(w.cell? ⟨b,off+ac,o⟩).getD undef).toArray,_,cap,rfl,λ av ra=>?_,aX,λ i y aB=>?_,λ i aB=>⟨_,rfl,?_⟩⟩
    ·have ak:(loadCells ⟨b,off,o⟩ len).run P av=.ok ((hB len).map λ ac=>(w.cell? ⟨b,off+ac,o⟩).getD undef).toArray av:=by
      refine run_loadCells av _ _ _ λ ac bc=>?_
      have:av.cell? ⟨b,off+ac,o⟩=w.cell? ⟨b,off+ac,o⟩:=by simp[q9,ra]
      rw[l1,this,cell_of hw];have bg:off+ac<cs.size:=aa;rw[getD_eq _ _ bg];rfl
     simp[jx,ak]
    ·have nl:i<len:=by have:=(bQ.1 aB).1;rw[ao]at this;exact this
     rw[oo i nl]at aB;have bg:off+i<cs.size:=by have:=(bQ.1 aB).1;omega
     have e:((hB len).map λ ac=>(w.cell? ⟨b,off+ac,o⟩).getD undef).toArray.getD i undef=cs.getD (off+i) undef:=by simp[dM,nl,cell_of hw]
     rw[e];exact eN _ _ aB
    ·have bg:off+i<cs.size:=aa;have e:((hB len).map λ ac=>(w.cell? ⟨b,off+ac,o⟩).getD undef).toArray.getD i undef=cs.getD (off+i) undef:=by simp[dM,aB,cell_of hw]
     rw[e,l1,cell_of hw];exact getD_eq _ _ bg
def Du(au:cf E ad ae H w){av:World}{aq:ab}{c d z g2 s2 off n I g1 s1 fm:Nat}{dv rows e3:c0}{cs jA:Array Value}{ar:TypeId}{wQ:Nat×Nat}{eY:Array Value}(fV:c≠d)
  (nR:H[d]?=j (.aE z g2 s2 dv))(ci:off+n≤dv.length)(hlen:H.length≤aq.length)(np:aq[c]?=j (.aE z g1 s1 e3))(wR:aq[d]?=j (.aE z g2 (s2+1) (fB dv off n)))
  (ol:∀e,e≠c→e≠d→aq[e]?=H[e]?)(amU:c<H.length→∃z0 g s hS,H[c]?=j (.aE z0 g s hS)∧(g<g1∨(z0=z∧g=g1∧s<s1∧e3.length=hS.length∧ae ⟨c,0⟩=j (fm,jA.size))))
  (yz:av.heap[fm]?=j (.cells jA ar wQ))(amV:wy wQ jA.size)(JV:e3.length≤jA.size)(ql:ae ⟨c,0⟩=j (fm,jA.size)∨w.heap.size≤fm)
  (hv:∀b,b<w.heap.size→(∀m,ae ⟨c,0⟩≠j (b,m))→av.heap[b]?=w.heap[b]?)(eQ:w.heap.size≤av.heap.size)(amW:av.os=w.os)(amX:av.tape=w.tape)(amY:av.output=w.output)
  (qk:∀(i:Nat) (y:er),i<n→dv[off+i]?=j y→nd ad ae w z d (off+i) y (eY.getD i undef))
  (hold:∀(ac:Nat) (y:er),rows[ac]?=j y→nd ad ae w z c ac y (cs.getD ac undef))
  (b2:∀(ac:Nat) (y:er),e3[ac]?=j y→(∃i,i<n∧ac=I+i∧dv[off+i]?=j y∧jA.getD ac undef=eY.getD i undef)∨(¬(I≤ac∧ac<I+n)∧rows[ac]?=j y∧jA.getD ac undef=cs.getD ac undef))
  {Q:cn→cj→Prop}(fk:∀aG:cj,aG ⟨c,0⟩=j (fm,jA.size)→Q ad aG):cz E ad ae H w aq av Q:=by
 let aG:cj:=λ i=>if i.c=c then(if i.r=0 then j (fm,jA.size)else if I<i.r∧i.r≤I+n then ae ⟨d,off+(i.r-I)⟩else ae i)else if i.c=d∧off<i.r∧i.r≤off+n then o else ae i
 have du:aG ⟨c,0⟩=j (fm,jA.size):=by simp[aG]
 have We:∀i,i<n→aG ⟨c,I+i+1⟩=ae ⟨d,off+i+1⟩:=by intro i aB;simp only[aG,if_true];rw[if_neg aa,if_pos aa,show off+(I+i+1-I)=off+i+1 by omega]
 have Wf:∀ac,¬(I≤ac∧ac<I+n)→aG ⟨c,ac+1⟩=ae ⟨c,ac+1⟩:=by intro ac bc;simp only[aG,if_true];rw[if_neg aa,if_neg aa]
 have Wg:∀ac,¬(off≤ac∧ac<off+n)→aG ⟨d,ac+1⟩=ae ⟨d,ac+1⟩:=by intro ac bc;simp only[aG];rw[if_neg (bi fV),if_neg aa]
 have Kr:aG ⟨d,0⟩=ae ⟨d,0⟩:=by simp only[aG];rw[if_neg (bi fV),if_neg aa]
 have wS:∀e q,e≠c→e≠d→aG ⟨e,q⟩=ae ⟨e,q⟩:=by intro e q p U;simp only[aG];rw[if_neg p,if_neg (λ h=>U h.1)]
 have fS:d<H.length:=(bQ.1 nR).1;have yp:c<aq.length:=(bQ.1 np).1;have inv:∀(i:fK) b m,aG i=j (b,m)→(i=⟨c,0⟩∧b=fm)∨(∃q,i=⟨c,I+q+1⟩∧q<n∧ae ⟨d,off+q+1⟩=j (b,m))∨(i≠⟨c,0⟩∧(∀q,q<n→i≠⟨c,I+q+1⟩)∧(∀q,q<n→i≠⟨d,off+q+1⟩)∧ae i=j (b,m)):=by
  rintro⟨Wh,Dv⟩ b m h;by_cases p:Wh=c
  ·subst p;by_cases U:Dv=0
   ·subst U;rw[du]at h;cases h;exact .inl ⟨rfl,rfl⟩
   ·obtain⟨ac,rfl⟩:∃ac,Dv=ac+1:=⟨Dv-1,aa⟩;by_cases az:I≤ac∧ac<I+n
    ·obtain⟨q,rfl⟩:∃q,ac=I+q:=⟨ac-I,aa⟩;rw[We q aa]at h;exact .inr (.inl ⟨q,rfl,aa,h⟩)
    ·rw[Wf ac az]at h;exact .inr (.inr ⟨aX,λ q bu=>by simp;omega,λ q bu=>by simp[fV],h⟩)
  ·by_cases U:Wh=d
   ·subst U;by_cases az:Dv=0
    ·subst az;rw[Kr]at h;exact .inr (.inr ⟨by simp[bi fV],λ q bu=>aX,λ q bu=>aX,h⟩)
    ·obtain⟨ac,rfl⟩:∃ac,Dv=ac+1:=⟨Dv-1,aa⟩;by_cases bh:off≤ac∧ac<off+n
     ·simp only[aG]at h;rw[if_neg p,if_pos (by first|exact⟨trivial,aa,aa⟩|exact⟨rfl,aa,aa⟩)]at h;cases h
     ·rw[Wg ac bh]at h;exact .inr (.inr ⟨aX,λ q bu=>by simp[bi fV],λ q bu=>by simp;omega,h⟩)
   ·rw[wS _ _ p U]at h;exact .inr (.inr ⟨by simp[p],λ q bu=>by simp[p],λ q bu=>by simp[U],h⟩)
 have gd:∀i m,ae i=j (fm,m)→ae ⟨c,0⟩=j (fm,jA.size):=by
  intro i m h;rcases ql with p|p
  ·exact p
  ·have:=(au.sep _ _ _ h).2.1;omega
 have stay:∀(i:fK) b m,ae i=j (b,m)→i≠⟨c,0⟩→av.heap[b]?=w.heap[b]?:=by
  intro i b m h aB;exact hv b (au.sep _ _ _ h).2.1 λ b6 iy=>aB (au.inj _ _ _ _ _ h iy)
 refine GF au (aG:=aG) (λ e he=>?_) hlen (λ hm e x ap=>?_) (λ b an aI=>hv b an λ m=>aI _ m) eQ amW amX amY (λ i b m h=>?_) (λ i b m h=>?_) (λ i ac b m b6 p U=>?_) (λ hm=>fk aG du)
 ·by_cases kk:e=c
  ·subst kk;intro x ap;rw[np]at ap;cases ap;intro ds a6 dB q5 l2;rw[np]at l2;cases l2;obtain⟨z0,g,s,hS,cy,cN⟩:=amU he;rcases cN with cN|⟨rfl,rfl,fy,jN,nf⟩
   ·exact .inr ⟨_,_,_,_,cy,cN⟩
   ·exact .inl ⟨s,hS,cy,by rw[du];exact nf.symm,jN,.inl fy⟩
  ·by_cases qj:e=d
   ·subst qj;intro x ap;rw[wR]at ap;cases ap;intro ds a6 dB q5 l2;rw[wR]at l2;cases l2;exact .inl ⟨s2,dv,nR,Kr,Dt ci,.inl aa⟩
   ·exact jw.same (ol e kk qj) λ q=>wS e q kk qj
 ·by_cases kk:e=c
  ·subst kk;rw[np]at ap;cases ap;refine .inr ⟨fm,jA,ar,wQ,du,yz,amV,JV,λ ac y bc=>?_⟩;rcases b2 ac y bc with⟨i,aB,rfl,bb,bo⟩|⟨O9,bb,bo⟩
   ·rw[bo];have:=qk i y aB bb;cases y with
    |own b4=>
     obtain⟨bK,bJ⟩:=this;refine⟨bK,?_⟩;rcases bJ with bJ|⟨b,yg,AW,bs,cy,cN,fy,jN,nf,yc⟩
     ·exact .inl bJ
     ·exact .inr ⟨b,yg,AW,bs,by rw[We i aB];exact cy,cN,by rw[stay _ _ _ cy (by simp[bi fV])];exact fy,jN,nf,yc⟩
    |ek q=>exact this
    |dead=>exact this
   ·rw[bo];exact(hold ac y bb).mono (Wf ac O9) (λ _ _ h=>h) λ b m h=>stay _ _ _ h aX
  ·by_cases qj:e=d
   ·subst qj;rw[wR]at ap;cases ap;rcases au.ch _ _ nR with⟨cy,cN⟩|⟨b,yg,AW,bs,cy,cN,fy,jN,nf⟩
    ·refine .inl ⟨by rw[←cy];exact Kr,?_⟩;subst cN;have:(fB [] off n).length=0:=Dt ci;exact pq.1 this
    ·refine .inr ⟨b,yg,AW,bs,by rw[←cy];exact Kr,by rw[stay _ _ _ cy (by simp[bi fV])];exact cN,fy,by rw[Dt ci];exact jN,λ ac y bc=>?_⟩;rcases amT ci bc with⟨p,U,rfl⟩|⟨p,U⟩
     ·have O9:ac<dv.length:=aa;have:=nf ac _ (eC O9);exact this.one
     ·exact(nf ac y U).mono (Wg ac p) (λ _ _ h=>h) λ b m h=>stay _ _ _ h aX
   ·rw[ol e kk qj]at ap;exact(au.ch _ _ ap).mono (λ q=>wS e q kk qj) (λ _ _ h=>h) hm λ q b m h=>stay _ _ _ h (by simp[kk])
 ·rcases inv i b m h with⟨rfl,rfl⟩|⟨q,rfl,_,p⟩|⟨_,_,_,p⟩
  ·rcases ql with p|p
   ·exact .inr ⟨_,_,p⟩
   ·exact .inl aa
  ·exact .inr ⟨_,_,p⟩
  ·exact .inr ⟨_,_,p⟩
 ·rcases inv i b m h with⟨rfl,rfl⟩|⟨q,rfl,_,p⟩|⟨_,_,_,p⟩
  ·exact⟨(kg.1 yz).1,yp⟩
  ·exact⟨wx (au.sep _ _ _ p).2.1 eQ,yp⟩
  ·exact⟨wx (au.sep _ _ _ p).2.1 eQ,wx (au.sep _ _ _ p).2.2 hlen⟩
 ·rcases inv i b m p with⟨rfl,rfl⟩|⟨q,rfl,bu,hD⟩|⟨yG,hl,amZ,hD⟩
  ·rcases inv ac b b6 U with⟨rfl,_⟩|⟨Dw,rfl,O_,a2⟩|⟨v1,v2,v3,a2⟩
   ·rfl
   ·have:=au.inj _ _ _ _ _ a2 (gd _ _ a2);simp[bi fV]at this
   ·exact absurd (au.inj _ _ _ _ _ a2 (gd _ _ a2)) v1
  ·rcases inv ac b b6 U with⟨rfl,rfl⟩|⟨Dw,rfl,O_,a2⟩|⟨v1,v2,v3,a2⟩
   ·have:=au.inj _ _ _ _ _ hD (gd _ _ hD);simp[bi fV]at this
   ·have:=au.inj _ _ _ _ _ hD a2;simp at this;rw[this]
   ·exact absurd (au.inj _ _ _ _ _ a2 hD) (v3 q bu)
  ·rcases inv ac b b6 U with⟨rfl,rfl⟩|⟨Dw,rfl,O_,a2⟩|⟨v1,v2,v3,a2⟩
   ·exact absurd (au.inj _ _ _ _ _ hD (gd _ _ hD)) yG
   ·exact absurd (au.inj _ _ _ _ _ hD a2) (amZ Dw O_)
   ·exact au.inj _ _ _ _ _ hD a2
def mH{d:Nat}:∀{l:aZ},d∈bI l↔∃(k:Nat) (a:ay),l[k]?=j a∧d∈bj a
 |[]=>by simp[bI]
 |a::l=>by
  simp only[bI,gA,mH (l:=l)];constructor
  ·rintro(h|⟨k,b,p,U⟩)
   ·exact⟨0,a,rfl,h⟩
   ·exact⟨k+1,b,by simpa using p,U⟩
  ·rintro⟨k,b,p,U⟩;cases k with
   |zero=>simp at p;subst p;exact .inl U
   |succ k=>exact .inr ⟨k,b,by simpa using p,U⟩
def sc{a:ay}{v:Value}(r:bf ad ae H a v):∀d∈bj a,d<H.length:=by
 induction r with
 |dead v=>intro d aP;simp[bj]at aP
 |i x v h=>intro d aP;simp[bj]at aP
 |agg cells cs ao _ a'=>intro d aP;simp only[bj]at aP;obtain⟨k,b,p,U⟩:=mH.1 aP;exact a' k b p d U
 |ref c g off len v aj aU aN ax aR=>intro d aP;simp[bj]at aP;omega
 |ptr c g r k v aj an aU aN aB ax aR=>intro d aP;simp[bj]at aP;omega
 |dV c v aj hm bA hu ax bp=>intro d aP;simp[bj]at aP;omega
 |x k v h aN=>intro d aP;simp[bj]at aP;subst aP;exact h.lt
 |aS fn first fZ fb cs ao hm _ _ oO oP=>
  intro d aP;simp only[bj,gA]at aP;rcases aP with aP|aP
  ·obtain⟨k,b,p,U⟩:=mH.1 aP;exact oO k b p d U
  ·obtain⟨k,b,p,U⟩:=mH.1 aP;exact oP k b p d U
 |bl vs xs ao _ a'=>intro d aP;simp only[bj]at aP;obtain⟨k,b,p,U⟩:=mH.1 aP;exact a' k b p d U
def Wi{y:Chunk}{c:Nat}{cells:aZ}(h:ps ad ae H w c y)(bb:y=.box cells∨(∃t,y=.dm t cells)):∀d∈bI cells,d<H.length:=by
 intro d aP;obtain⟨k,a,p,U⟩:=mH.1 aP;rcases bb with rfl|⟨t,rfl⟩
 ·obtain⟨_,cs,_,_,_,_,_,_,bF⟩:=h;exact sc (bF k a p) d U
 ·obtain⟨_,cs,_,_,_,bF⟩:=h;exact sc (bF k a p) d U
def Ks{GD kJ:Chunk}{a:ay}{v:Value}(r:bf ad ae (H++[GD]) a v):(∀d∈bj a,d<H.length)→bf ad ae (H++[kJ]) a v:=by
 have yH:∀d,d<H.length→(H++[kJ])[d]?=(H++[GD])[d]?:=by intro d aP;rw[eO aP,eO aP]
 induction r with
 |dead v=>exact λ _=>.dead v
 |i x v h=>exact λ _=>.i x v h
 |agg cells cs ao _ a'=>exact λ aP=>.agg cells cs ao λ k a aF=>a' k a aF λ d h=>aP d (by simp only[bj];exact mH.2 ⟨k,a,aF,h⟩)
 |aS fn first fZ fb cs ao hm _ _ oO oP=>exact λ aP=>.aS fn first fZ fb cs ao hm (λ k a aF=>oO k a aF λ d h=>aP d (by simp only[bj,gA];exact .inl (mH.2 ⟨k,a,aF,h⟩))) (λ k a aF=>oP k a aF λ d h=>aP d (by simp only[bj,gA];exact .inr (mH.2 ⟨k,a,aF,h⟩)))
 |bl vs xs ao _ a'=>exact λ aP=>.bl vs xs ao λ k a aF=>a' k a aF λ d h=>aP d (by simp only[bj];exact mH.2 ⟨k,a,aF,h⟩)
 |ref d g off len v aj aU aN ax aR=>intro aP;have e:=yH d (aP d (by simp[bj]));exact .ref _ _ _ _ _ (by simpa using aj) (λ aD rows ex h=>aU aD rows ex (by rw[←e];exact h)) (λ aD rows ex h=>aN aD rows ex (by rw[←e];exact h)) ax (λ aD a6 rows ex h=>aR aD a6 rows ex (by rw[←e];exact h))
 |dV d v aj hm bA hu ax bp=>intro aP;have e:=yH d (aP d (by simp[bj]));exact .dV _ _ (by simpa using aj) (λ es h=>hm es (by rw[←e];exact h)) (λ t cells h=>bA t cells (by rw[←e];exact h)) (λ t l h=>hu t l (by rw[←e];exact h)) ax (λ aD g rows ex h=>bp _ _ _ _ (by rw[←e];exact h))
 |ptr d g r k v aj an aU aN aB ax aR=>intro aP;have e:=yH d (aP d (by simp[bj]));exact .ptr _ _ _ _ _ (by simpa using aj) (λ cells h=>an cells (by rw[←e];exact h)) (λ aD rows ex h=>aU aD rows ex (by rw[←e];exact h)) (λ aD rows ex row h=>aN aD rows ex row (by rw[←e];exact h)) (λ s I h=>aB s I (by rw[←e];exact h)) ax (λ aD a6 rows ex h=>aR aD a6 rows ex (by rw[←e];exact h))
 |x k v h aN=>intro aP;have e:=yH k.c (aP k.c (by simp[bj]));refine .x _ _ (h.step aX ?_) (aN.to (λ _ _ h=>h) λ g rows aT=>by rw[e]at aT;exact aT);intro z g s rows aT;rw[e]at aT;exact .inl ⟨s,rows,aT,rfl,rfl,.inr ⟨rfl,λ r b4 ak=>⟨b4,ak,rfl,rfl⟩⟩⟩
def O'(au:cf E ad ae H w){av:World}{rows:cb}{ex:Bool}{x:Value}{n z:Nat}
  (b9:cz E ad ae H w (H++[.af 1 0 rows ex]) av λ aQ aG=>bf aQ aG (H++[.af 1 0 rows ex]) (.ref H.length 0 0 n) x):
  cz E ad ae H w (H++[.aE z 0 0 (rows.map q0)]) av λ aQ aG=>bf aQ aG (H++[.aE z 0 0 (rows.map q0)]) (.x (.d H.length 0 0 n)) x:=by
 obtain⟨aQ,aG,oq,dk,Pa,uh⟩:=b9;have last:(H++[Chunk.af 1 0 rows ex])[H.length]?=j (.af 1 0 rows ex):=aX;have key:∀a v,bf ad ae H a v→bf aQ aG (H++[.aE z 0 0 (rows.map q0)]) a v:=λ a v r=>Ks (Pa a v r) (sc r)
 obtain⟨bp,h_,fR⟩:=oq.ch _ _ last;have OU:∃a cap,x=.slice a n cap∧Gn aG H.length rows.length 0 n (.slice a n cap):=by
  cases uh with
  |ref c g off len v aj aU aN ax aR=>
   obtain⟨cy,a,cap,rfl,cN⟩:=aU _ _ _ last;refine⟨a,cap,rfl,cy,a,cap,rfl,?_⟩;rcases cN with cN|⟨b,m,bK,bJ,cL,e4⟩
   ·exact .inl cN
   ·exact .inr ⟨b,m,bK,bJ,by simpa using cL,by simpa using e4⟩
 obtain⟨a,cap,rfl,am0⟩:=OU;refine⟨aQ,aG,⟨oq.ei,λ c y bb=>?_,oq.inj,λ i b m h=>by have:=oq.sep i b m h;simpa using this,oq.fv⟩,dk,key,?_⟩
 ·by_cases aj:c<H.length
  ·rw[eO aj]at bb;have GO:(H++[Chunk.af 1 0 rows ex])[c]?=j y:=by rw[eO aj];exact bb
   have p:=oq.ch _ _ GO;have a8:=au.ch _ _ bb;cases y with
   |box cells=>have ak:=Wi a8 (.inl rfl);obtain⟨b,cs,elem,bs,cy,cN,fy,jN,nf⟩:=p;exact⟨b,cs,elem,bs,cy,cN,fy,jN,λ k a aF=>Ks (nf k a aF) λ d aP=>ak d (mH.2 ⟨k,a,aF,aP⟩)⟩
   |dm t cells=>have ak:=Wi a8 (.inr ⟨t,rfl⟩);obtain⟨b,cs,cy,cN,jN,nf⟩:=p;exact⟨b,cs,cy,cN,jN,λ k a aF=>Ks (nf k a aF) λ d aP=>ak d (mH.2 ⟨k,a,aF,aP⟩)⟩
   |map es=>obtain⟨b,h7,aO,cy,cN,fy⟩:=p;obtain⟨_,_,_,_,_,cL⟩:=a8;exact⟨b,h7,aO,cy,cN,fy.of λ a v aF r=>Ks r (sc (cL.ex aF).choose_spec)⟩
   |af=>exact p
   |bs=>exact p
   |iter=>exact p
   |kc=>exact p
   |gone=>exact p
   |fd=>exact p
   |aE=>exact p
  ·have:c=H.length:=by have:=(bQ.1 bb).1;simp at this;omega
   subst this;simp at bb;subst bb;rcases fR with⟨p,U⟩|⟨b,cs,elem,bs,p,U,az,bh,_,bF⟩
   ·exact .inl ⟨p,by rw[U];rfl⟩
   ·refine .inr ⟨b,cs,elem,bs,p,U,az,by simpa using bh,λ r y ak=>?_⟩;simp only[fQ,dp]at ak;obtain⟨row,ak,rfl⟩:=ak;have ao:=h_ _ _ ak
    match row,ao,ak with
    |[q],_,ak=>exact(by simpa using bF r [q] 0 q ak rfl:dH aQ q (cs.getD r undef))
 ·refine .x _ _ ⟨aX,⟨_,_,rfl⟩,λ ds a6 dB e3 h=>?_⟩ (.d Pb);simp at h;obtain⟨rfl,rfl,rfl,rfl⟩:=h;refine⟨cS _,λ _=>?_⟩;rw[mE];exact am0
def Wj{t:TypeId}{l c v:ay}{aq:ab}(h:jf E H t l c=j (v,aq)):∃z n rows ex,v=.ref H.length 0 0 n∧aq=H++[.af z 0 rows ex]:=by
 unfold jf at h
 repeat' split at h
 all_goals first|(cases h;exact⟨_,_,_,_,rfl,rfl⟩)|cases h
def am1(au:cf E ad ae H w){t:TypeId}{z:Nat}{l c v:ay}{y Wk:Value}{aq:ab}(h:u6 z (jf E H t l c)=j (v,aq))(ew:bf ad ae H l y)(Kg:bf ad ae H c Wk):
  ∃x av,(Kh t y Wk).run E.P w=.ok x av∧cz E ad ae H w aq av λ aQ aG=>bf aQ aG aq v x:=by
 unfold u6 at h;split at h
 next cv n H1 hm=>
  obtain⟨fT,gM,rows,ex,ar,rfl⟩:=Wj hm;cases ar;unfold C5 at h;split at h
  next e3 gK ao=>
   simp at ao;obtain⟨rfl,rfl,rfl⟩:=ao;simp only[br,bM]at h;obtain⟨rfl,rfl⟩:=h;obtain⟨x,av,p,U⟩:=VX au hm ew Kg;have e:(H++[Chunk.af 1 0 rows ex]).set H.length (.aE z 0 0 (rows.map q0))=H++[.aE z 0 0 (rows.map q0)]:=by rw[AG _ _ (cS _)];simp
   rw[e];exact⟨x,av,p,O' au U⟩
  ·cases h
 ·cases h
def Kt{t t2:TypeId}(h:sX E t t2=ah):∃e b eB,fw E.P t=j e∧gp E.P e=j 1∧u0 E.P e=j b∧ls E.P e=j eB∧b≤65536∧(fw E.P t2).isSome=ah∧(cU eB).length=1∧(cU eB).all one=ah:=by
 unfold sX at h;split at h
 next e he=>
  split at h
  next z b eB p U az=>simp only[c',decide_eq_true_eq]at h;obtain⟨⟨rfl,cy,cN,fy⟩,jN⟩:=h;exact⟨e,b,eB,he,p,U,az,cy,cN,fy,jN⟩
  ·cases h
 ·cases h
def Wl(au:cf E ad ae H w){t:TypeId}{z:Nat}{fc:Value}(h9:sX E t t=ah)(mz:fc.oneCell'=ah):
  ∃x av,(Kb t 1 #[(0,fc)]).run E.P w=.ok x av∧cz E ad ae H w (H++[.aE z 0 0 [.ek (.v fc)]]) av λ aQ aG=>bf aQ aG (H++[.aE z 0 0 [.ek (.v fc)]]) (.x (.d H.length 0 0 1)) x:=by
 obtain⟨e,b,eB,he,bp,an,hzero,_,_,qg,AX⟩:=Kt h9;have am2:kC E H t 1 [(0,.i (.v fc))]=j (.ref H.length 0 0 1,H++[.af 1 0 [[.v fc]] ah]):=by
  unfold kC;rw[he];simp only[bp,hzero];rw[if_pos ⟨aa,qg,aa,AX⟩];obtain⟨a0,Pc⟩:∃a0,cU eB=[a0]:=by
   match bu:cU eB,qg with
   |[a0],_=>exact⟨a0,rfl⟩
  have ar:f_ 1 (cH 1 (cU eB)).flatten [(0,ay.i (.v fc))]=j [ay.i (.v fc)]:=by rw[Pc];simp[f_,cU,one,qa]
  simp only[ar,f',freeze,qb];have aM:iJ (cH 1 (E.kinds e)).flatten [bx.v fc]=[bx.v fc]:=by
   cases aA:(cH 1 (E.kinds e)).flatten with
   |nil=>rfl
   |cons k bB=>cases k<;>cases bB<;>rfl
  rw[aM];rfl
 obtain⟨x,av,bK,bJ⟩:=VM (kh:=#[(0,fc)]) au am2 ⟨rfl,λ k I q ax bu=>by
  cases k with
  |zero=>simp at ax bu;subst ax bu;exact⟨rfl,.i _ _ (.v _ mz)⟩
  |succ k=>simp at ax⟩
 exact⟨x,av,bK,O' (z:=z) au bJ⟩
def Wm{N z:Nat}{fc:Value}(ao:H.length=N)(au:cf E ad ae (H++[.aE z 0 0 [.ek (.v fc)]]) w){pA:ab}{aG:cj}{y:er}{u:Value}(r:bf ad ae (H++[.aE z 0 0 [.ek (.v fc)]]) (.x (.d N 0 0 1)) u)(a8:pA.length=N)
  (ol:∀e,e<N→(pA[e]?=H[e]?∧∀q,aG ⟨e,q⟩=ae ⟨e,q⟩)∨(pA[e]?=j .gone∧aG ⟨e,0⟩=o))(ot:aG ⟨N,0⟩=ae ⟨N,0⟩)
  (jj:∀(i:fK) b n,aG i=j (b,n)→(∃(ac:fK) (m:Nat),ae ac=j (b,m))∧i.c≤N)(GG:∀(i ac:fK) b n dT,aG i=j (b,n)→aG ac=j (b,dT)→i=ac)(bb:nd ad aG w z N 0 y fc):
  cz E ad ae (H++[.aE z 0 0 [.ek (.v fc)]]) w (pA++[.aE z 0 1 [y]]) w λ aQ aG=>bf aQ aG (pA++[.aE z 0 1 [y]]) (.x (.d N 0 0 1)) u:=by
 have last:(H++[Chunk.aE z 0 0 [.ek (.v fc)]])[N]?=j (.aE z 0 0 [.ek (.v fc)]):=by subst ao;simp
 have Pd:(pA++[Chunk.aE z 0 1 [y]])[N]?=j (.aE z 0 1 [y]):=by subst a8;simp
 have bO:∀c,c<(H++[Chunk.aE z 0 0 [.ek (.v fc)]]).length→jw ad ae (H++[Chunk.aE z 0 0 [.ek (.v fc)]]) ad aG (pA++[Chunk.aE z 0 1 [y]]) c:=by
  intro c aj;simp at aj;by_cases Pe:c=N
  ·subst Pe;intro q bu;rw[Pd]at bu;cases bu;intro ds a6 dB e3 l2;rw[Pd]at l2;cases l2;exact .inl ⟨0,_,last,ot,rfl,.inl aa⟩
  ·have bg:c<N:=aa;rcases ol c bg with⟨cy,cN⟩|⟨cy,cN⟩
   ·exact jw.same (by rw[eO aa,eO aa];exact cy) cN
   ·intro q bu;rw[eO aa,cy]at bu;cases bu;trivial
 refine GF au (aG:=aG) bO (by simp[ao,a8]) (λ hm c q bu=>?_) (λ _ _ _=>rfl) (cS _) rfl rfl rfl (λ i b n h=>.inr (jj i b n h).1) (λ i b n h=>?_) GG (λ hm=>hm _ _ r)
 ·by_cases Pe:c=N
  ·subst Pe;rw[Pd]at bu;cases bu;rcases au.ch _ _ last with⟨_,U⟩|⟨b,cs,elem,bs,p,U,az,bh,bF⟩
   ·cases U
   ·refine .inr ⟨b,cs,elem,bs,by rw[←p];exact ot,U,az,by simpa using bh,λ r d ak=>?_⟩;cases r with
    |succ r=>simp at ak
    |zero=>
     simp at ak;subst ak;have dN:dH ad (.v fc) (cs.getD 0 undef):=bF 0 _ rfl;have g':cs.getD 0 undef=fc:=by generalize cs.getD 0 undef=q at dN;cases dN;rfl
     rw[g'];exact bb
  ·have bg:c<N:=by have:=(bQ.1 bu).1;simp at this;omega
   rw[eO aa]at bu;rcases ol c bg with⟨cy,cN⟩|⟨cy,cN⟩
   ·rw[cy]at bu;exact(au.ch c q (by rw[eO aa];exact bu)).mono cN (λ _ _ h=>h) hm (λ _ _ _ _=>rfl)
   ·rw[cy]at bu;cases bu;exact cN
 ·obtain⟨⟨ac,m,cy⟩,cN⟩:=jj i b n h;exact⟨(au.sep _ _ _ cy).2.1,by simp[a8];omega⟩
def am3(au:cf E ad ae H w){t:TypeId}{z n:Nat}{bn:eu}{kh:Array (Nat×Value)}{v:ay}{aq:ab}(h:u4 E H t z n bn=j (v,aq))(ax:Dk ad ae H bn kh.toList):
  ∃x av,(Kb t n kh).run E.P w=.ok x av∧cz E ad ae H w aq av λ aQ aG=>bf aQ aG aq v x:=by
 unfold u4 at h;split at h;rotate_left
 ·cases h
 rename_i v0;split at h;rotate_left
 ·cases h
 rename_i aj;obtain⟨rfl,qh,h9⟩:=aj;obtain⟨fc,bu,rx⟩:∃fc,kh=#[(0,fc)]∧bf ad ae H v0 fc:=by
  obtain⟨ao,ak⟩:=ax;obtain⟨am4⟩:=kh
  match am4,ao with
  |[q],_=>obtain⟨cy,cN⟩:=ak 0 _ _ rfl rfl;exact⟨q.2,by rw[show q=(q.1,q.2)from rfl,←cy],cN⟩
 subst bu;have mz:=JI rx qh;unfold C2 at h;split at h;rotate_left
 ·cases h
 rename_i y H1 b2;simp only[br,bM]at h;obtain⟨rfl,rfl⟩:=h;rcases VR au rx b2 with⟨q,rfl,b9⟩|⟨d,g2,b4,ex,rfl,aP,bp,rfl,rfl⟩
 ·obtain⟨eI,ey,pD,hc,nS,bu⟩:=b9;obtain⟨x,av,bK,bJ⟩:=Wl (z:=z) pD h9 mz;refine⟨x,av,bK,?_⟩;obtain⟨fs,eW,i1,hn,kK,qm⟩:=bJ
  let aG:cj:=λ i=>if i=⟨H1.length,1⟩then o else eW i
  have l6:∀i b n,aG i=j (b,n)→eW i=j (b,n):=by
    intro i b n h;simp only[aG]at h;split at h
    · cases h
    · exact h
  obtain⟨kn,ko,GP,yI,Dx,GQ⟩:=Wm (aG:=eW) (pA:=H1) (y:=.ek q) rfl i1 qm rfl (λ e he=>.inl ⟨rfl,λ _=>rfl⟩) rfl (λ i b n h=>⟨⟨_,_,h⟩,by have:=(i1.sep _ _ _ h).2.2;simp at this;omega⟩) i1.inj (bu.mono hn.ei);exact⟨kn,ko,GP,hc.trans (hn.trans yI),nS.trans (kK.trans Dx),GQ⟩
 ·obtain⟨x,av,bK,bJ⟩:=Wl (z:=z) au h9 mz;refine⟨x,av,bK,?_⟩;obtain⟨fs,eW,i1,hn,kK,qm⟩:=bJ;have fS:d<H.length:=(bQ.1 aP).1;have nq:(H++[Chunk.aE z 0 0 [.ek (.v fc)]])[d]?=j (.af z g2 b4 ex):=by rw[eO fS];exact aP
  let aG:cj:=λ i=>if i=⟨H.length,1⟩then eW ⟨d,0⟩else if i=⟨d,0⟩then o else eW i
  have wM:∀i b n,aG i=j (b,n)→(i=⟨H.length,1⟩∧eW ⟨d,0⟩=j (b,n))∨(i≠⟨H.length,1⟩∧i≠⟨d,0⟩∧eW i=j (b,n)):=by
    intro i b n h;simp only[aG]at h;split at h
    next aB=>exact .inl ⟨aB,h⟩
    next aB=>
      split at h
      · cases h
      next Az=>exact .inr ⟨aB,Az,h⟩
  have key:cz E fs eW (H++[.aE z 0 0 [.ek (.v fc)]]) av (H.set d .gone++[.aE z 0 1 [.own b4]]) av λ aQ aG=>bf aQ aG (H.set d .gone++[.aE z 0 1 [.own b4]]) (.x (.d H.length 0 0 1)) x:=by
   refine Wm (aG:=aG) (pA:=H.set d .gone) (y:=.own b4) rfl i1 qm aX (λ e he=>?_) (by simp[aG,show H.length≠d by omega]) (λ i b n h=>?_) (λ i ac b n dT p U=>?_)
    (VP i1 nq bp (kK _ _ rx) (by simp[aG]) (λ _ _ _=>rfl))
   · by_cases qj:e=d
     · subst qj;exact .inr ⟨by simp[fS],by simp[aG,show e≠H.length by omega]⟩
     · exact .inl ⟨by rw[dW (bi qj)],λ q=>by simp[aG,qj,show e≠H.length by omega]⟩
   · rcases wM _ _ _ h with⟨rfl,p⟩|⟨_,_,p⟩
     · exact⟨⟨_,_,p⟩,cS _⟩
     · exact⟨⟨_,_,p⟩,by have:=(i1.sep _ _ _ p).2.2;simp at this;omega⟩
   · rcases wM _ _ _ p with⟨rfl,ar⟩|⟨cy,cN,ar⟩
     · rcases wM _ _ _ U with⟨rfl,aM⟩|⟨fy,jN,aM⟩
       · rfl
       · exact absurd (i1.inj _ _ _ _ _ aM ar) jN
     · rcases wM _ _ _ U with⟨rfl,aM⟩|⟨fy,jN,aM⟩
       · exact absurd (i1.inj _ _ _ _ _ ar aM) cN
       · exact i1.inj _ _ _ _ _ ar aM
  obtain⟨kn,ko,GP,yI,Dx,GQ⟩:=key;have e:(H.set d Chunk.gone).length=H.length:=aX;rw[e];exact⟨kn,ko,GP,hn.trans yI,kK.trans Dx,GQ⟩
def Dy(au:cf E ad ae H w){c z g s g1 s1:Nat}{rows vl:c0}(aT:H[c]?=j (.aE z g s rows))(bg:g<g1∨(g=g1∧s<s1∧vl.length=rows.length))(ao:vl.length≤rows.length)
  (ak:∀(i:Nat) (y:er),vl[i]?=j y→rows[i]?=j y):cz E ad ae H w (H.set c (.aE z g1 s1 vl)) w λ aQ aG=>aG=ae∧aQ=ad:=by
 have cD:c<H.length:=(bQ.1 aT).1;refine GF au (aG:=ae) (λ e he=>?_) aX (λ hm e x ap=>?_) (λ _ _ _=>rfl) (cS _) rfl rfl rfl (λ i b n h=>.inr ⟨_,_,h⟩) (λ i b n h=>by have:=au.sep _ _ _ h;exact⟨this.2.1,by simpa using this.2.2⟩) au.inj (λ _=>⟨rfl,rfl⟩)
 ·by_cases kk:e=c
  ·subst kk;intro x ap;rcases gb ap with⟨_,rfl⟩|⟨ar,_⟩
   ·intro ds a6 dB e3 l2;rcases gb l2 with⟨_,aM⟩|⟨aM,_⟩
    ·cases aM;rcases bg with h|⟨rfl,p,U⟩
     ·exact .inr ⟨_,_,_,_,aT,h⟩
     ·exact .inl ⟨_,_,aT,rfl,U,.inl p⟩
    ·exact absurd rfl aM
   ·exact absurd rfl ar
  ·exact jw.same (by rw[dW (bi kk)]) (λ _=>rfl)
 ·rcases gb ap with⟨rfl,rfl⟩|⟨p,U⟩
  ·rcases au.ch _ _ aT with⟨cy,cN⟩|⟨b,cs,elem,bs,cy,cN,fy,jN,nf⟩
   ·subst cN;exact .inl ⟨cy,pq.1 (by simpa using ao)⟩
   ·exact .inr ⟨b,cs,elem,bs,cy,cN,fy,aa,λ r y bb=>nf r y (ak r y bb)⟩
  ·exact(au.ch _ _ U).mono (λ _=>rfl) (λ _ _ h=>h) hm (λ _ _ _ _=>rfl)
def tc(rows:c0)(off:Nat):fB rows off 0=rows:=by simp[fB]
def Pf(au:cf E ad ae H w)(z:Nat)(a:Option Addr):cz E ad ae H w (H++[.aE z 0 0 []]) w λ aQ aG=>bf aQ aG (H++[.aE z 0 0 []]) (.x (.d H.length 0 0 0)) (.slice a 0 0):=by
 have gd:ae (⟨H.length,0⟩:fK)=o:=by
  cases h:ae (⟨H.length,0⟩:fK)with
  |none=>rfl
  |some I=>have:=au.C_ (c:=H.length) (b:=I.1) (n:=I.2) h;omega
 have hm:fz ad ae H ad ae (H++[.aE z 0 0 []]):=ng (λ _ _ h=>h) aX λ c aj=>jw.same (by rw[eO aj]) (λ _=>rfl)
 refine⟨ad,ae,⟨au.ei,λ c x ap=>?_,au.inj,λ c b n h=>by have:=au.sep c b n h;exact⟨this.1,this.2.1,by simp;omega⟩,au.fv⟩,Trans.refl _ _ _,hm,?_⟩
 ·by_cases aj:c<H.length
  ·rw[eO aj]at ap;exact(au.ch c x ap).mono (λ _=>rfl) (λ _ _ h=>h) hm (λ _ _ _ _=>rfl)
  ·have:c=H.length:=by have:=(bQ.1 ap).1;simp at this;omega
   subst this;simp at ap;subst ap;exact .inl ⟨gd,rfl⟩
 ·refine .x _ _ ⟨aX,⟨_,_,rfl⟩,λ ds a6 dB e3 h=>?_⟩ (.d Pb);simp at h;obtain⟨rfl,rfl,rfl,rfl⟩:=h;exact⟨cS _,λ _=>⟨aX,_,_,rfl,.inl ⟨gd,rfl⟩⟩⟩
def Dz{P:Program}{a:Option Addr}{n cap:Nat}(av:World):(r8 (.slice a n cap)).run P av=.ok n av:=by simp[r8]
def am5(au:cf E ad ae H w){t t2 eG:TypeId}{z:Nat}{s x v:ay}{di l8:Value}{aq:ab}(h:u5 E H t t2 z s x=j (v,aq))(gu:bf ad ae H s di)(rx:bf ad ae H x l8):
  ∃u av,(sa #[t,t2] eG #[di,l8]).run E.P w=.ok u av∧cz E ad ae H w aq av λ aQ aG=>bf aQ aG aq v u:=by
 unfold u5 at h;split at h;rotate_left
 ·cases h
 rename_i h9;obtain⟨e,b,eB,he,bp,an,hzero,fG,oT,qg,AX⟩:=Kt h9;obtain⟨l5,Pg,GR⟩:=Wd hzero qg AX;have Ku:=V0 (P:=E.P) (t:=t2) (.inl oT);unfold wt at h;split at h;rotate_left
 ·cases h
 rename_i d new H1 yJ;obtain⟨g2,off,s2,dv,_,nR,ci,gd,rfl,eY,a2,Kv,rfl,ns,kL,qn,_⟩:=Kq E.P au rx yJ;have fS:d<H.length:=(bQ.1 nR).1;have qk:∀(i:Nat) (y:er),i<new.length→dv[off+i]?=j y→nd ad ae w z d (off+i) y (eY.getD i undef):=λ i y aB bb=>qn i y (by rw[gd i aB];exact bb)
 let Ph:cb:=cH new.length []
 have oU:Ph.length=new.length:=by simp[Ph]
 have grow:∀(base:Option Addr) (af cap:Nat) (hx:Array Value),(∀av:World,av.heap=w.heap→(jx 1 af (.slice base af cap)).run E.P av=.ok hx av)→hx.size=af→cap<af+new.length→af+new.length<1073741824→
   ∃av jy jA,(sa #[t,t2] eG #[.slice base af cap,.slice a2 new.length Kv]).run E.P w=.ok (.slice (j ⟨w.heap.size,0,o⟩) (af+new.length) jy) av∧af+new.length≤jy∧av.heap=w.heap.push (.cells jA e)∧av.os=w.os∧av.tape=w.tape∧av.output=w.output∧
    jy≤jA.size∧(∀ac,ac<af→jA.getD ac undef=hx.getD ac undef)∧(∀ac,ac<new.length→jA.getD (af+ac) undef=eY.getD ac undef):=by
  intro base af cap hx p U az bh;obtain⟨av,jy,g1,g2,g3,g4,g5,g6⟩:=V1 (w:=w) (eG:=eG) (t2:=t2) (rows:=([]:cb)) (new:=Ph) (y:=.slice a2 new.length Kv) he bp an Pg Ku (λ av _=>by rw[oU];exact Dz av) (by rw[oU];exact az) (by rw[oU];exact bh) fG p (by rw[oU];exact ns) GR;rw[oU]at g1 g2 g3;refine⟨av,jy,_,g1,g2,g3,g4,g5,g6,?_,λ ac bc=>?_,λ ac bc=>?_⟩
  ·simp only[Pj,U,kL,VZ,GR];omega
  ·simp[dM,Array.append_assoc,yD (show ac<hx.size by omega)]
  ·rw[dM,Array.append_assoc,Wn aa,U,show af+ac-af=ac by omega,yD aa,←dM]
 have DA:∀{av:World} {al:Obj},av.heap=w.heap.push al→∀b,b<w.heap.size→av.heap[b]?=w.heap[b]?:=by intro av al hw b an;rw[hw,J9,if_neg aa]
 split at h
 next aD=>
  split at h;rotate_left
  ·cases h
  rename_i hlen;simp only[br,bM]at h;obtain⟨rfl,rfl⟩:=h;obtain⟨a,rfl⟩:∃a,di=.slice a 0 0:=by
   cases ji gu with
   |nil aD ex a cap ap=>exact⟨a,by rw[ap rfl]⟩
   |af aD rows ex b off cap cs elem bs dn cr aj ap ak p U=>exact⟨_,by rw[ap rfl];rfl⟩
  have Pk:(H.set d (Chunk.aE z g2 (s2+1) (fB dv off new.length))).length=H.length:=aX;by_cases a8:new.length=0
  ·have wT:new=[]:=pq.1 a8;subst wT;have ui:eY=#[]:=AQ kL;refine⟨_,w,GL he bp Ku (Dz w) (cS _) (by rw[←ui];exact ns w rfl),?_⟩;obtain⟨eI,ey,pD,hc,nS,_⟩:=Dy au nR (g1:=g2) (s1:=s2+1) (vl:=fB dv off 0) (.inr ⟨rfl,aa,by rw[tc]⟩) (by rw[tc];exact cS _) (λ i y bb=>by rw[tc]at bb;exact bb);obtain⟨fs,eW,i1,hn,kK,qm⟩:=Pf pD z a;exact⟨fs,eW,i1,hc.trans hn,nS.trans kK,qm⟩
  ·obtain⟨av,jy,jA,bK,bJ,cL,e4,mI,wU,DB,_,wV⟩:=grow a 0 0 #[] (λ av _=>by cases a<;>simp[jx,loadCells,loadCellsFrom]) rfl aa aa;rw[cJ]at bK;refine⟨_,av,bK,?_⟩;rw[Pk];have gL:ae (⟨H.length,0⟩:fK)=o:=by
    cases h:ae (⟨H.length,0⟩:fK)with
    |none=>rfl
    |some I=>have:=au.C_ (c:=H.length) (b:=I.1) (n:=I.2) h;omega
   refine Du au (c:=H.length) (d:=d) (I:=0) (rows:=[]) (cs:=#[]) (eY:=eY) (fm:=w.heap.size) (jA:=jA) (ar:=e) (wQ:=(0,0)) (av:=av) (n:=new.length) (off:=off) (e3:=new) (g1:=0) (s1:=0) (z:=z) (g2:=g2) (s2:=s2) (dv:=dv)
     aa nR ci aX (by rw[hK aX];simp) (by rw[eO (by simpa using fS)];simp[fS]) (λ e p U=>?_) (λ h=>aa) (yw cL) (qf _) aa (.inr (cS _)) (λ b an _=>DA cL b an) (by rw[cL];simp) e4 mI wU
    qk (λ ac y bc=>by simp at bc) (λ ac y bc=>?_) (λ aG hJ=>?_)
   ·by_cases az:e<H.length
    · rw[eO (by simpa using az),dW (bi U)]
    · rw[sd (by simp;omega),sd aa]
   ·have l3:=(bQ.1 bc).1;exact .inl ⟨ac,l3,aa,by rw[←gd ac l3];exact bc,by have:=wV ac l3;rwa [cJ]at this⟩
   ·have nO:(H.set d (Chunk.aE z g2 (s2+1) (fB dv off new.length))++[Chunk.aE z 0 0 new])[H.length]?=j (.aE z 0 0 new):=by rw[hK aX];simp
    refine .x _ _ ⟨aX,⟨_,_,rfl⟩,λ ds a6 dB e3 h=>?_⟩ (.d nO);rw[hK aX]at h;simp at h;obtain⟨rfl,rfl,rfl,rfl⟩:=h;exact⟨cS _,λ _=>⟨aa,_,_,rfl,.inr ⟨_,_,hJ,aa,aa,.inl rfl⟩⟩⟩
 next c g len=>
  unfold C3 at h;split at h;rotate_left
  ·cases h
  rename_i ds a6 dB rows AY;split at h;rotate_left
  ·cases h
  rename_i Pl;obtain⟨rfl,rfl,fV,hlen,pB⟩:=Pl;simp only[br,bM]at h;obtain⟨rfl,rfl⟩:=h;have om:H[c]?=j (.aE z g dB rows):=by rw[dW (bi fV)]at AY;exact AY
  have cD:c<H.length:=(bQ.1 om).1;obtain⟨_,a,cap,rfl,fR⟩:=((yB gu).2.2 _ _ _ _ om).2 rfl;have GS:((H.set d (Chunk.aE z g2 (s2+1) (fB dv off new.length))).set c (.aE z (g+1) 0 (rows.take len++new)))[c]?=j (.aE z (g+1) 0 (rows.take len++new)):=by simp[cD]
  have GU:((H.set d (Chunk.aE z g2 (s2+1) (fB dv off new.length))).set c (.aE z (g+1) 0 (rows.take len++new)))[d]?=j (.aE z g2 (s2+1) (fB dv off new.length)):=by rw[dW fV];simp[fS]
  have qo:∀e,e≠c→e≠d→((H.set d (Chunk.aE z g2 (s2+1) (fB dv off new.length))).set c (.aE z (g+1) 0 (rows.take len++new)))[e]?=H[e]?:=λ e p U=>by rw[dW (bi p),dW (bi U)]
  have AZ:∀(aQ:cn) (aG:cj) (a:Option Addr) (cap:Nat),Gn aG c (len+new.length) 0 (len+new.length) (.slice a (len+new.length) cap)→bf aQ aG ((H.set d (Chunk.aE z g2 (s2+1) (fB dv off new.length))).set c (.aE z (g+1) 0 (rows.take len++new))) (.x (.d c (g+1) 0 (len+new.length))) (.slice a (len+new.length) cap):=by intro aQ aG a cap ak;refine .x _ _ ⟨by simpa using cD,⟨_,_,rfl⟩,λ ds a6 dB e3 h=>?_⟩ (.aE GS);rw[GS]at h;cases h;refine⟨cS _,λ _=>?_⟩;rw[show(rows.take len++new).length=len+new.length by simp;omega];exact ak
  have Pm:∀(ac:Nat) (y:er),(rows.take len++new)[ac]?=j y→(∃i,i<new.length∧ac=len+i∧new[i]?=j y)∨(ac<len∧rows[ac]?=j y):=by
   intro ac y bc;rw[vi]at bc;have ar:(rows.take len).length=len:=by simp;omega
   rw[ar]at bc;split at bc
   next bg=>rw[oQ,if_pos bg]at bc;exact .inr ⟨bg,bc⟩
   ·exact .inl ⟨ac-len,(bQ.1 bc).1,aa,bc⟩
  by_cases a8:new.length=0
  ·have wT:new=[]:=pq.1 a8;subst wT;have ui:eY=#[]:=AQ kL;have j4:len≤cap:=by
    rcases fR with⟨p,U⟩|⟨_,_,_,az,_⟩
    · rcases au.ch _ _ om with⟨_,cN⟩|⟨b,cs,elem,bs,cy,_⟩
      ·subst cN;simp at hlen;omega
      ·rw[p]at cy;cases cy
    · omega
   refine⟨_,w,GL he bp Ku (Dz w) j4 (by rw[←ui];exact ns w rfl),?_⟩;obtain⟨eI,ey,pD,hc,nS,ar,aM⟩:=Dy au nR (g1:=g2) (s1:=s2+1) (vl:=fB dv off 0) (.inr ⟨rfl,aa,by rw[tc]⟩) (by rw[tc];exact cS _) (λ i y bb=>by rw[tc]at bb;exact bb);subst ar aM;obtain⟨fs,eW,i1,hn,kK,bZ,dx⟩:=Dy pD AY (g1:=g+1) (s1:=0) (vl:=rows.take len++[]) (.inl aa) (by simp;omega) (λ i y bb=>by
    rw[dC,oQ]at bb;split at bb
    · exact bb
    · cases bb)
   subst bZ dx;refine⟨_,_,i1,hc.trans hn,nS.trans kK,AZ _ _ _ _ ⟨aX,_,_,rfl,?_⟩⟩;rcases fR with p|⟨b,m,p,U,az,bh⟩
   ·exact .inl p
   ·exact .inr ⟨b,m,p,by simp;omega,az,bh⟩
  ·rcases au.ch _ _ om with⟨cy,cN⟩|⟨dj,cs,elem,bs,ct,t_,hs,eQ,eN⟩
   ·subst cN;obtain rfl:len=0:=by simpa using hlen
    obtain rfl:cap=0:=by
      rcases fR with⟨_,U⟩|⟨_,_,p,_⟩
      ·exact U
      ·rw[cy]at p;cases p
    obtain⟨av,jy,jA,bK,bJ,cL,e4,mI,wU,DB,_,wV⟩:=grow a 0 0 #[] (λ av _=>by cases a<;>simp[jx,loadCells,loadCellsFrom]) rfl aa aa;refine⟨_,av,bK,?_⟩;refine Du au (c:=c) (d:=d) (I:=0) (rows:=[]) (cs:=#[]) (eY:=eY) (fm:=w.heap.size) (jA:=jA) (ar:=e) (wQ:=(0,0)) (av:=av) (n:=new.length) (off:=off) (e3:=eP 0 []++new) (g1:=g+1) (s1:=0) (z:=z) (g2:=g2) (s2:=s2) (dv:=dv)
      fV nR ci aX GS GU qo (λ _=>⟨_,_,_,_,om,.inl aa⟩) (yw cL) (qf _) (by simp;omega) (.inr (cS _)) (λ b an _=>DA cL b an) (by rw[cL];simp) e4 mI wU qk (λ ac y bc=>by simp at bc) (λ ac y bc=>?_) (λ aG hJ=>?_)
    · rcases Pm ac y bc with⟨i,aB,rfl,bb⟩|⟨p,_⟩
      ·exact .inl ⟨i,aB,rfl,by rw[←gd i aB];exact bb,wV i aB⟩
      ·omega
    · exact AZ _ _ _ _ ⟨aa,_,_,rfl,.inr ⟨_,_,hJ,aa,aa,.inl rfl⟩⟩
   ·rcases fR with⟨p,_⟩|⟨b0,m,p,ql,k',vm⟩
    · rw[ct]at p;cases p
    rw[ct]at p;cases p;by_cases Pn:len+new.length≤cap
    · rcases vm with rfl|⟨_,U⟩;rotate_left
      ·omega
      have tb:∀v∈eY.toList,v.oneCell'=ah:=by
       intro v bo;obtain⟨ac,bc,rfl⟩:=GH bo;have l3:ac<eY.size:=by simpa using bc
       have:=(qn ac _ (eC aa)).one;simpa[dM,l3]using this
      obtain⟨av,iq,bK,bJ,cL,e4,mI,wU,DB,uj,wV⟩:=wK E.P dj (0+len*1) elem bs eY.toList 0 cs w t_ hs (by simp;omega) tb;refine⟨_,av,V3 he bp Ku (Dz w) Pn (ns w rfl) bK,?_⟩;have kj:∀ac,iq.getD ac undef=if len≤ac∧ac<len+new.length then eY.getD (ac-len) undef else cs.getD ac undef:=by
       intro ac;rw[dM,wV];simp only[fr,wG,kL,cJ,JS];split
       ·rw[nM,dM]
       ·rw[dM]
      refine Du au (c:=c) (d:=d) (I:=len) (rows:=rows) (cs:=cs) (eY:=eY) (fm:=dj) (jA:=iq) (ar:=elem) (wQ:=bs) (av:=av) (n:=new.length) (off:=off) (e3:=rows.take len++new) (g1:=g+1) (s1:=0) (z:=z) (g2:=g2) (s2:=s2) (dv:=dv)
       fV nR ci aX GS GU qo (λ _=>⟨_,_,_,_,om,.inl aa⟩) bJ (by rw[uj];exact hs) (by rw[uj];simp;omega) (.inl (by rw[uj];exact ct)) (λ b an aI=>cL b λ e=>aI _ (e▸ct)) (by rw[e4];exact cS _) mI wU DB qk eN (λ ac y bc=>?_) (λ aG hJ=>?_)
      ·rcases Pm ac y bc with⟨i,aB,rfl,bb⟩|⟨p,U⟩
       ·exact .inl ⟨i,aB,rfl,by rw[←gd i aB];exact bb,by rw[kj,if_pos aa,show len+i-len=i by omega]⟩
       ·exact .inr ⟨aa,U,by rw[kj,if_neg aa]⟩
      ·exact AZ _ _ _ _ ⟨aa,_,_,rfl,.inr ⟨_,_,hJ,aa,by rw[uj];omega,.inl rfl⟩⟩
    · obtain⟨hx,cM,td,wW⟩:∃hx:Array Value,(∀av:World,av.heap=w.heap→(jx 1 len (.slice a len cap)).run E.P av=.ok hx av)∧hx.size=len∧∀(ac:Nat) (y:er),(rows.take len)[ac]?=j y→nd ad ae w z c ac y (hx.getD ac undef):=by
       have aU:mo z H (.x (.d c g 0 len))=j (c,(rows.drop 0).take len,H.set c (.aE z g (dB+1) (fB rows 0 len))):=by simp only[mo,wq,om];rw[if_pos ⟨trivial,trivial,aa⟩]
       obtain⟨g3,aU7,vn,aU8,nr,cy,cN,fy,jN,hx,a3,aU9,nf,yc,Wo,am6,_⟩:=Kq E.P au gu aU;have Kw:((rows.drop 0).take len).length=len:=by simp;omega
       simp only[ay.x.injEq,de.d.injEq]at nr;obtain⟨_,_,rfl,_⟩:=nr;rw[Kw]at yc Wo;refine⟨hx,yc,Wo,λ ac y bc=>?_⟩;have:=am6 ac y (by simpa using bc);rwa [cJ]at this
      obtain⟨av,jy,jA,bK,bJ,cL,e4,mI,wU,DB,uj,wV⟩:=grow a len cap hx cM td aa pB;refine⟨_,av,bK,?_⟩;refine Du au (c:=c) (d:=d) (I:=len) (rows:=rows.take len) (cs:=hx) (eY:=eY) (fm:=w.heap.size) (jA:=jA) (ar:=e) (wQ:=(0,0)) (av:=av) (n:=new.length) (off:=off) (e3:=rows.take len++new) (g1:=g+1) (s1:=0) (z:=z) (g2:=g2) (s2:=s2) (dv:=dv)
       fV nR ci aX GS GU qo (λ _=>⟨_,_,_,_,om,.inl aa⟩) (yw cL) (qf _) (by simp;omega) (.inr (cS _)) (λ b an _=>DA cL b an) (by rw[cL];simp) e4 mI wU qk wW (λ ac y bc=>?_) (λ aG hJ=>?_)
      ·rcases Pm ac y bc with⟨i,aB,rfl,bb⟩|⟨p,U⟩
       ·exact .inl ⟨i,aB,rfl,by rw[←gd i aB];exact bb,wV i aB⟩
       ·exact .inr ⟨aa,by rw[oQ,if_pos p];exact U,uj ac p⟩
      ·exact AZ _ _ _ _ ⟨aa,_,_,rfl,.inr ⟨_,_,hJ,aa,aa,.inl rfl⟩⟩
 ·cases h
end
end Go.VI
