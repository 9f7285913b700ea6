import Derived.Test.YtflnccklneafnaaGreatDoorZTCQ2
open And renaming intro→o
open Array renaming getD_eq_getD_getElem?→di
open Bool renaming false_eq_true→fF,and_eq_true→cR,or_false→xv,false_or→IR,true_and→jJ,false_and→lo,and_true→zQ,and_false→xI,not_true→JE,not_false→ra
open Go.DataW renaming trod→r5
open Go.IntKind renaming i64→nK,signed→r6,bits→r7,wrap→sZ,u8→t_,i32→sa,u32→Jr
open Go.Lib renaming indexByte→Js,pow10Tab→sb,decDigits→nq,itoa→zP
open Go.Utf8 renaming decode→l7
open Go.Value renaming int→jW,func→D9,complex→OZ,pointer→Cg,nilFunc→O0,nilIface→O1
open Go.World renaming cell?→rP
open Int renaming toNat_natCast→nV,cast_ofNat_Int→O6
open List renaming replicate→cB,range→g',range'→lF,map_cons→fh,mem_cons→ng,getElem?_map→fw,getElem?_eq_some_iff→bF,getElem?_eq_getElem→eX,length_append→dp,replicate_succ→Ef,flatten_cons→sF,drop_drop→HH,foldl_cons→yX,length_cons→cQ,mapM_cons→Me,append_nil→c8,nil_append→gJ,length_map→nM,length_nil→dr,length_set→jC,getElem?_cons_zero→p6,length_drop→iG,getElem?_concat_length→TI,getElem?_cons_succ→jF,map_congr_left→zn,getD_cons_zero→BW,map_nil→fm,take_zero→mQ,take_succ_cons→vk,drop_zero→il,getElem?_range→Jf,take_append_drop→Jg,append_eq_nil_iff→OA,flatMap_nil→r9,map_map→vH,flatMap_cons→O3,not_mem_nil→xG,replicate_zero→O4,all_cons→FF,cons_append→xH,getD_cons_succ→O5,set_cons_zero→FG,flatten_nil→Ch
open List.cons renaming injEq→Bu
open Nat renaming le_refl→cL,add_zero→e7,zero_add→cp,sub_self→rR,add_comm→qb,zero_le→jp,not_lt_zero→q8,le_max_left→B8,le_max_right→B9,sub_zero→sf
open Option renaming map_eq_some_iff→c0,bind_eq_some_iff→Bo,getD_some→i1,map_some→en,isNone_none→ON,bind_some→OO,isSome_some→OS
open Option.some renaming inj→pY,injEq→bg
open Prod.mk renaming injEq→bw
open UInt8 renaming ofNat→hI
namespace Go.VI
set_option maxRecDepth 100000
set_option maxHeartbeats 40000000
set_option linter.unusedVariables false
set_option linter.unusedSimpArgs false
set_option linter.defProp false
section
variable{E:Env}{aJ:dy}{ops:List Oper}{J:Fr}{H:aa}{f:FuncId}
def anq(c:Nat)(dst:Option Nat)(op:Op)(r:List Oper)(v:U)(an:aa):xA E aJ ops c dst op r J H (some (v,an))=mo (sA E c J H op++lF H.length (an.length-H.length)) (iy E aJ ops (nd c op) r (dH dst v J) an):=rfl
def anr(c:Nat)(dst:Option Nat)(op:Op)(r:List Oper):xB E aJ ops c dst op r J H (some true)=xA E aJ ops c dst op r J H (jy E aJ c op J H):=rfl
def ans(c:Nat)(dst:Option Nat)(op:Op)(r:List Oper):xB E aJ ops c dst op r J H (some false)=mo [] (iy E aJ ops (nd c op) r (dH dst (.bd []) J) H):=rfl
def V2(c:Nat)(dst:Option Nat)(op:Op)(r:List Oper)(p:Prop) [Decidable p]:xB E aJ ops c dst op r J H (some (decide p))=if p then xA E aJ ops c dst op r J H (jy E aJ c op J H)else mo [] (iy E aJ ops (nd c op) r (dH dst (.bd []) J) H):=by by_cases h:p<;>simp[h,xB]
def V3(c:Nat)(dst:Option Nat)(op:Op)(r:List Oper)(b:Bool):xB E aJ ops c dst op r J H (some b)=if b=true then xA E aJ ops c dst op r J H (jy E aJ c op J H)else mo [] (iy E aJ ops (nd c op) r (dH dst (.bd []) J) H):=by cases b<;>rfl
def ant(c:Nat):iy E aJ ops c [] J H=some (J,H,[]):=rfl
def anu(c:Nat)(dst:Option Nat)(op:Op)(d':TypeId)(pos:String)(q9:Array Edge)(r:List Oper):iy E aJ ops c (⟨dst,op,d',pos,q9,none⟩::r) J H=xA E aJ ops c dst op r J H (jy E aJ c op J H):=by
 simp only[iy,gm];cases jy E aJ c op J H with
 |none=>rfl
 |some x=>simp only[xA,mo];rfl
def anv(c:Nat)(dst:Option Nat)(op:Op)(d':TypeId)(pos:String)(q9:Array Edge)(ac:Nat)(w:Bool)(r:List Oper):iy E aJ ops c (⟨dst,op,d',pos,q9,some (ac,w)⟩::r) J H=xB E aJ ops c dst op r J H (vu ops J ac w):=by
 simp only[iy,Ol];cases vu ops J ac w with
 |none=>rfl
 |some b=>
  cases b with
  |false=>simp only[xB,mo];rfl
  |true=>
   simp only[xB];cases jy E aJ c op J H with
   |none=>rfl
   |some x=>simp only[xA,mo];rfl
def anw(c:Nat)(r:Option (Option (Option Nat)×Chunk)):D6 c H r (some (.sl 0 0 [] true))=match r with|some (k,b6)=>some (tu c k,H.set c b6)|none=>none:=rfl
def r3(args:List U):Option (List U×aa)→List Nat
 |some (bE,H1)=>bx args++reach H1 64 (bx bE) []
 |none=>[]
def anx(args bE:List U)(H1:aa):r3 args (some (bE,H1))=bx args++reach H1 64 (bx bE) []:=rfl
def vx{f:FuncId}(args:List U):qC E f args H=r3 args (iV E f H args):=by unfold qC r3;cases iV E f H args<;>rfl
def zI{f:FuncId}(h:E.oa f=none)(I:E.ss f=false)(args:List U):ji E f args H=qC E f args H:=by unfold ji;rw[h,I]
def V4{f:FuncId}(h:E.oa f=none)(I:E.ss f=true)(args:List U):ji E f args H=(qC E f args H).map (·+kM):=by unfold ji;rw[h,I]
def V5{f fn:FuncId}(h:E.oa f=some fn)(args:List U):ji E f args H=[]:=by unfold ji;rw[h]
def anz(n:Nat)(seen:List Nat):reach H n [] seen=seen:=by cases n<;>rfl
def Om(E:Env)(H:aa)(args:List U):U→List Nat
 |.aQ (.func g) first ft=>ji E g (first++args++ft) H
 |_=>[]
def anA(args:List U)(g:Nat)(first ft:List U):Om E H args (.aQ (.func g) first ft)=ji E g (first++args++ft) H:=rfl
def anB(x:Operand)(args:Array Operand)(e1:Array TypeId):cO E J H (.call ⟨.value x,args,e1⟩)=Om E H (args.toList.map (bn E J)) (bn E J x):=by
 simp only[cO,wN,Om];split
 ·rename_i g bE aP;split at aP
  ·rename_i aU first ft ak
   simp only[bg,bw]at aP;obtain⟨rfl,rfl⟩:=aP;rw[ak]
  ·cases aP
 ·rename_i aP;split at aP
  ·cases aP
  ·rename_i gh;split
   ·rename_i g first ft ak;exact absurd ak (gh _ _ _)
   ·rfl
def anC(b:Builtin)(args:Array Operand)(e1:Array TypeId):cO E J H (.call ⟨.builtin b,args,e1⟩)=bx (args.toList.map (bn E J)):=rfl
def anD(t:TypeId)(x:Operand):cO E J H (.load t x)=bc (bn E J x):=rfl
def anE(t:TypeId)(x i:Operand):cO E J H (.indexAddr t x i)=bc (bn E J x):=rfl
def anF(t:TypeId)(x:Operand)(bS ax kI:Option Operand):cO E J H (.slice t x bS ax kI)=bc (bn E J x):=rfl
def anG(t:TypeId)(a x:Operand):cO E J H (.store t a x)=bc (bn E J a)++bc (bn E J x):=rfl
def anH(t:TypeId)(n:Nat)(bk:Array (Nat×Operand)):cO E J H (.buildSlice t n bk)=nE E t n (bk.toList.map λ p=>(p.1,bn E J p.2)):=rfl
def anI(x:Operand):cO E J H (.move x)=[]:=rfl
def anJ(x:Operand):cO E J H (.assign x)=[]:=rfl
def anK(a b c:Operand):cO E J H (.pick a b c)=[]:=rfl
def anL(op:BinOp)(t u:TypeId)(x y:Operand):cO E J H (.binOp op t x y u)=[]:=rfl
def anM(op:UnOp)(t:TypeId)(x:Operand):cO E J H (.unOp op t x)=[]:=rfl
def anN(s d:TypeId)(x:Operand):cO E J H (.convert s d x)=bc (bn E J x):=rfl
def anO(t:TypeId)(x:Operand):cO E J H (.range t x)=[]:=rfl
def anP(it:Operand)(b:Bool):cO E J H (.next it b)=bc (bn E J it):=rfl
def anQ(fn:Fn)(a b:Array Operand):cO E J H (.makeFunc fn a b)=[]:=rfl
def anR(t:TypeId)(x:Operand)(k:Nat):cO E J H (.field t x k)=[]:=rfl
def anS(t:TypeId)(x:Operand)(k:Nat):cO E J H (.fieldAddr t x k)=[]:=rfl
def anT(t:TypeId)(x y:Operand):cO E J H (.index t x y)=[]:=rfl
def anU(x:Operand)(n:Nat):cO E J H (.extract x n)=[]:=rfl
def anV(x:Operand):cO E J H (.nilCheck x)=[]:=rfl
def anW(t:TypeId)(bk:Array (Nat×Operand)):cO E J H (.build t bk)=[]:=rfl
def anX(t:TypeId):cO E J H (.alloc t)=[]:=rfl
def On(a:U):List Nat→List Nat
 |[]=>[]
 |_::_=>bc a
def anY(a:U):On a []=[]:=rfl
def anZ(a:U)(ac:Nat)(r:List Nat):On a (ac::r)=bc a:=rfl
def an0(t:TypeId)(x:Operand):cO E J H (.box t x)=On (bn E J x) (E.st t):=by simp only[cO];cases E.st t<;>rfl
def an1(t:TypeId)(x y:Operand):cO E J H (.makeSlice t x y)=[]:=rfl
def an2(k:Fr→aa→Option (eC×Fr×aa))(bM:Fr)(an:aa):vp k (some (.normal,bM,an))=k bM an:=rfl
def an3(k:Fr→aa→Option (eC×Fr×aa))(id:Nat)(bM:Fr)(an:aa):vp k (some (.exit id,bM,an))=some (.exit id,bM,an):=rfl
def an4(k:Fr→aa→Option (eC×Fr×aa))(bM:Fr)(an:aa):vp k (some (.ret,bM,an))=some (.ret,bM,an):=rfl
def an5(id:Nat)(bM:Fr)(an:aa):Fu E f id (some (bM,an))=some (.normal,norm (E.kg f id) bM,an):=rfl
def an6(id:Nat)(bM:Fr)(an:aa)(eA:List (List Nat)):B' E f id (some (bM,an,eA))=if(E.dL f id).all (sz eA)=true then some (.normal,norm (E.kg f id) bM,an)else none:=rfl
def an7(a b:Option (eC×Fr×aa)):vq (.i (.v (.bool true))) a b=a:=rfl
def an8(a b:Option (eC×Fr×aa)):vq (.i (.v (.bool false))) a b=b:=rfl
def an9(id:Nat)(bM:Fr)(an:aa):I4 id (some (.normal,bM,an))=some (.normal,bM,an):=rfl
def an_(id:Nat)(bM:Fr)(an:aa):I4 id (some (.ret,bM,an))=some (.ret,bM,an):=rfl
def an'(id ac:Nat)(bM:Fr)(an:aa):I4 id (some (.exit ac,bM,an))=if ac=id then some (.normal,bM,an)else some (.exit ac,bM,an):=rfl
def Fv(E:Env)(f:FuncId)(B:Nat)(H:aa):Option U→Option (U×aa)
 |some r=>qE E f B H r
 |none=>none
def aoa(B:Nat)(r:U):Fv E f B H (some r)=qE E f B H r:=rfl
def aob(B:Nat)(fQ:List ResultVar)(bM:Fr)(an:aa):vr E f B fQ (some (.ret,bM,an))=Fv E f B an (wH E bM an fQ):=by simp only[vr,Fv]<;>rfl
def aoc(B:Nat)(fQ:List ResultVar)(bM:Fr)(an:aa):vr E f B fQ (some (.normal,bM,an))=Fv E f B an (wH E bM an fQ):=by simp only[vr,Fv]<;>rfl
def Fw(E:Env)(f:FuncId)(B:Nat)(H:aa)(vs:List U):Bool→Option (List U×aa)
 |true=>some (ey B (eR (E.lA f) vs H).2 (eR (E.lA f) vs H).1,eJ B (eR (E.lA f) vs H).2 0 (eR (E.lA f) vs H).2)
 |false=>match dk H vs with
  |some (bE,H1)=>some (ey B H1 (nC (E.lA f) bE),eJ B H1 0 H1)
  |none=>none
def Oo(E:Env)(f:FuncId)(B:Nat):Option (List U×aa)→Option (List U×aa)
 |some (bE,H1)=>some (ey B H1 (nC (E.lA f) bE),eJ B H1 0 H1)
 |none=>none
def aod(B:Nat)(vs:List U):pV E f B H vs=Fw E f B H vs (E.own f):=by unfold pV Fw;cases E.own f<;>rfl
def aoe(B:Nat)(vs:List U):Fw E f B H vs false=Oo E f B (dk H vs):=by unfold Fw Oo;rfl
def aof(B:Nat)(vs:List U):Fw E f B H vs true=some (ey B (eR (E.lA f) vs H).2 (eR (E.lA f) vs H).1,eJ B (eR (E.lA f) vs H).2 0 (eR (E.lA f) vs H).2):=rfl
def aog(B:Nat)(bE:List U)(H1:aa):Oo E f B (some (bE,H1))=some (ey B H1 (nC (E.lA f) bE),eJ B H1 0 H1):=rfl
def aoh(B:Nat)(vs:List U):qE E f B H (.bd vs)=Hq (pV E f B H vs):=rfl
def aoi(B:Nat)(x:aC):qE E f B H (.i x)=tv (pV E f B H [.i x]):=rfl
def aoj(B:Nat)(l:List U):qE E f B H (.agg l)=tv (pV E f B H [.agg l]):=rfl
def aok(B c g ai n:Nat):qE E f B H (.ref c g ai n)=tv (pV E f B H [.ref c g ai n]):=rfl
def aol(B c g r k:Nat):qE E f B H (.ptr c g r k)=tv (pV E f B H [.ptr c g r k]):=rfl
def aom(B:Nat)(fn:Fn)(a b:List U):qE E f B H (.aQ fn a b)=tv (pV E f B H [.aQ fn a b]):=rfl
def aon(a:U)(H1:aa):tv (some ([a],H1))=some (a,H1):=rfl
def aoo(bE:List U)(H1:aa):Hq (some (bE,H1))=some (.bd bE,H1):=rfl
def V6(x:aC):hZ none x=x:=by cases x<;>rfl
def aop(k:Option Nat)(x:Value):hZ k (.v x)=.v x:=by cases k<;>rfl
def aoq(k:Option Nat)(x:List UInt8):hZ k (.str x)=.str x:=by cases k<;>rfl
def aor(k:Option Nat)(x:List aC)(ai:Nat):hZ k (.gd x ai)=.gd x ai:=by cases k<;>rfl
def aos(z:Nat)(rows:List (List aC))(ex:Bool):hZ (some z) (.sl z rows ex)=.sl z rows false:=by simp[hZ]
def aot(z aw:Nat)(ex:Bool):hZ (some z) (.sl aw [] ex)=.sl z [] false:=by simp only[hZ];split<;>rfl
def aou(l:List aC):hO [] l=l:=by cases l<;>rfl
def aov(br:List (Option Nat)):hO br []=[]:=by cases br<;>rfl
def aow(k:Option Nat)(br:List (Option Nat))(x:aC)(r:List aC):hO (k::br) (x::r)=hZ k x::hO br r:=rfl
def aox(l:List U):jx [] l=l:=by cases l<;>rfl
def aoy(br:List (Option Nat)):jx br []=[]:=by cases br<;>rfl
def aoz(k:Option Nat)(br:List (Option Nat))(x:aC)(r:List U):jx (k::br) (.i x::r)=.i (hZ k x)::jx br r:=rfl
def aoA(k:Option Nat)(br:List (Option Nat))(c g ai n:Nat)(r:List U):jx (k::br) (.ref c g ai n::r)=.ref c g ai n::jx br r:=rfl
def aoB(k:Option Nat)(br:List (Option Nat))(c g ai n:Nat)(r:List U):jx (k::br) (.ptr c g ai n::r)=.ptr c g ai n::jx br r:=rfl
def aoC(k:Option Nat)(br:List (Option Nat))(f:Fn)(a b:List U)(r:List U):jx (k::br) (.aQ f a b::r)=.aQ f a b::jx br r:=rfl
def aoD(k:Option Nat)(br:List (Option Nat))(x:aC):rC (k::br) (.i x)=.i (hZ k x):=rfl
def aoE(x:aC):rC [] (.i x)=.i x:=by show U.i (hZ none x)=_;rw[V6]
def aoF(br:List (Option Nat))(l:List U):rC br (.agg l)=.agg (jx br l):=rfl
def aoG(br:List (Option Nat))(c g ai n:Nat):rC br (.ref c g ai n)=.ref c g ai n:=rfl
def aoH(br:List (Option Nat))(c g ai n:Nat):rC br (.ptr c g ai n)=.ptr c g ai n:=rfl
def aoI(br:List (Option Nat))(fn:Fn)(a b:List U):rC br (.aQ fn a b)=.aQ fn a b:=rfl
def aoJ(br:List (Option Nat))(l:List U):rC br (.bd l)=.bd l:=rfl
def aoK(l:List U):nC [] l=l:=by cases l<;>rfl
def aoL(br:List (List (Option Nat))):nC br []=[]:=by cases br<;>rfl
def aoM(k:List (Option Nat))(br:List (List (Option Nat)))(a:U)(r:List U):nC (k::br) (a::r)=rC k a::nC br r:=rfl
def aoN(z:Nat):yA H z true=(.ref H.length 0 0 0,H++[.sl z 0 [] false]):=rfl
def aoO(z:Nat):yA H z false=(.x (.d H.length 0 0 0),H++[.az (z-1000) 0 0 []]):=rfl
def aoP(z aw:Nat):iU z H (.i (.sl aw [] true))=yA H z (decide (z<1000)):=rfl
def aoQ(z:Nat)(k:cN):iU z H (.x k)=(.x k,H):=rfl
def aoR(z aw:Nat)(rows:List (List aC)):iU z H (.i (.sl aw rows false))=(.i (.sl aw rows false),H):=by cases rows<;>rfl
def aoS(z c g ai n:Nat):iU z H (.ref c g ai n)=(.ref c g ai n,H):=rfl
def aoT(z:Nat)(a:U):k7 [some z] H a=iU z H a:=rfl
def aoU(a:U):k7 [none] H a=(a,H):=rfl
def aoV(a:U):k7 [] H a=(a,H):=rfl
def aoW(k dx:Option Nat)(br:List (Option Nat))(a:U):k7 (k::dx::br) H a=(a,H):=by cases k<;>rfl
def aoX(l:List U):eR [] l H=(l,H):=by cases l<;>rfl
def aoY(br:List (List (Option Nat))):eR br [] H=([],H):=by cases br<;>rfl
def aoZ(k:List (Option Nat))(br:List (List (Option Nat)))(a:U)(r:List U):eR (k::br) (a::r) H=((k7 k H a).1::(eR br r (k7 k H a).2).1,(eR br r (k7 k H a).2).2):=rfl
def V7:rD [] J H=(J,H):=rfl
def ao0(k z:Nat)(r:List (Nat×Nat)):rD ((k,z)::r) J H=rD r ((k,(iU z H (get k J)).1)::J) (iU z H (get k J)).2:=rfl
def V8:uJ [] J H=H:=rfl
def ao1(k ac z:Nat)(r:List (Nat×Nat×Nat)):uJ ((k,ac,z)::r) J H=uJ r J (DY ac z H (get k J)):=rfl
def ao2(ac z c g r k:Nat):DY ac z H (.ptr c g r k)=A3 ac z c H H[c]?:=rfl
def Oq(ac z c:Nat)(H:aa)(cells:List U):Option U→aa
 |some a=>(iU z H a).2.set c (.box (cells.set ac (iU z H a).1))
 |none=>H
def ao3(ac z c:Nat)(cells:List U):A3 ac z c H (some (.box cells))=Oq ac z c H cells cells[ac]?:=by unfold A3 Oq;simp only;cases cells[ac]?<;>rfl
def ao4(ac z c:Nat)(cells:List U)(a:U):Oq ac z c H cells (some a)=(iU z H a).2.set c (.box (cells.set ac (iU z H a).1)):=rfl
def V9:qw [] J H=(J,H):=rfl
def ao5(k z:Nat)(r:List (Nat×Nat)):qw ((k,z)::r) J H=qw r (yB k z J H (freeze H (get k J))).1 (yB k z J H (freeze H (get k J))).2:=rfl
def ao6(k z:Nat)(x:aC)(H1:aa):yB k z J H (some (x,H1))=((k,.i (hZ (some z) x))::J,H1):=rfl
def ao7(B:Nat)(x:aC):el B H (.i x)=.i x:=by simp[el]
def ao8(B:Nat):el B H .dead=.dead:=by simp[el]
def ao9(B:Nat)(l:List U):el B H (.agg l)=.agg (ey B H l):=by simp[el]
def ao_(B:Nat)(l:List U):el B H (.bd l)=.bd (ey B H l):=by simp[el]
def ao'(B:Nat)(f:Fn)(a b:List U):el B H (.aQ f a b)=.aQ f (ey B H a) (ey B H b):=by simp[el]
def apa(B c g ai n:Nat):el B H (.ref c g ai n)=if c<B then .ref c g ai n else DZ c g ai n H[c]?:=by simp[el]
def apb(B c g r k:Nat):el B H (.ptr c g r k)=if c<B then .ptr c g r k else tp c g r k H[c]?:=by simp[el]
def apc(c g ai n aw aU:Nat)(rows:List (List aC))(ex:Bool):DZ c g ai n (some (.sl aw aU rows ex))=if g=aU then .ref c 0 ai n else .dead:=rfl
def apd(c g ai n aw aU:Nat)(rows:List (List aC))(ex:Bool):DZ c g ai n (some (.bj aw aU rows ex))=if g=aU then .i (.sl aw ((rows.drop ai).take n) (ex &&decide (ai+n=rows.length)))else .dead:=rfl
def ape(c g r k aw aU:Nat)(rows:List (List aC))(ex:Bool):tp c g r k (some (.sl aw aU rows ex))=if g=aU then .ptr c 0 r k else .dead:=rfl
def apf(c g r k aw aU:Nat)(rows:List (List aC))(ex:Bool):tp c g r k (some (.bj aw aU rows ex))=.ptr c g r k:=rfl
def apg(c g r k:Nat)(cells:List U):tp c g r k (some (.box cells))=.ptr c g r k:=rfl
def aph(c g r k:Nat)(s:List UInt8)(p:Nat):tp c g r k (some (.iter s p))=.ptr c g r k:=rfl
def api(B:Nat):ey B H []=[]:=by simp[ey]
def apj(B:Nat)(a:U)(r:List U):ey B H (a::r)=el B H a::ey B H r:=by simp[ey]
def apk(B c:Nat)(cells:List U):dO B H c (.box cells)=.box (ey B H cells):=rfl
def apl(B c aw g:Nat)(rows:List (List aC))(ex:Bool):dO B H c (.sl aw g rows ex)=if c<B then .sl aw g rows ex else .sl aw 0 rows false:=rfl
def apm(B c aw g:Nat)(rows:List (List aC))(ex:Bool):dO B H c (.bj aw g rows ex)=.bj aw g rows ex:=rfl
def apn(B c:Nat)(s:List UInt8)(p:Nat):dO B H c (.iter s p)=.iter s p:=rfl
def apo(B c:Nat):eJ B H c []=[]:=rfl
def app(B c:Nat)(x:Chunk)(r:aa):eJ B H c (x::r)=dO B H c x::eJ B H (c+1) r:=rfl
def apq(B:Nat):od B H []=[]:=rfl
def apr(B k:Nat)(a:U)(r:Fr):od B H ((k,a)::r)=(k,el B H a)::od B H r:=rfl
def I6(B:Nat):o8 B J H=gc B (od B H J) (eJ B H 0 H):=rfl
def sW(E:Env)(g:FuncId):Option (List U×aa)→Option (List U×aa)
 |some (bE,H1)=>some (nC (E.gF g) bE,H1)
 |none=>none
def aps(g:FuncId)(bE:List U)(H1:aa):sW E g (some (bE,H1))=some (nC (E.gF g) bE,H1):=rfl
def I7{g:FuncId}(aj:E.yx g=false)(args:List U):iV E g H args=sW E g (dk H args):=by unfold iV sW;rw[aj];rfl
def Cb{g:FuncId}(aj:E.yx g=true)(args:List U):iV E g H args=some (eR (E.gF g) args H):=by unfold iV;rw[aj]
def q_(a:U):Option (List U×aa)→Option (List U×aa)
 |some (bE,bu)=>some (a::bE,bu)
 |none=>none
def Fx(r:List U):Option (aC×aa)→Option (List U×aa)
 |some (x,H1)=>q_ (.i x) (dk H1 r)
 |none=>none
def I8(l r:List U)(H:aa):Option (List aC×aa)→Option (List U×aa)
 |some (xs,H1)=>q_ (.agg (kH xs)) (dk H1 r)
 |none=>q_ (.agg l) (dk H r)
def apt(a:U)(bE:List U)(bu:aa):q_ a (some (bE,bu))=some (a::bE,bu):=rfl
def apu(r:List U)(x:aC)(H1:aa):Fx r (some (x,H1))=q_ (.i x) (dk H1 r):=rfl
def apv(l r:List U)(xs:List aC)(H1:aa):I8 l r H (some (xs,H1))=q_ (.agg (kH xs)) (dk H1 r):=rfl
def apw(l r:List U):I8 l r H none=q_ (.agg l) (dk H r):=rfl
def apx:dk H []=some ([],H):=rfl
def apy(x:aC)(r:List U):dk H (.i x::r)=q_ (.i x) (dk H r):=by simp only[dk];cases dk H r<;>rfl
def apz(r:List U):dk H (.dead::r)=q_ .dead (dk H r):=by simp only[dk];cases dk H r<;>rfl
def apA(c g ai n:Nat)(r:List U):dk H (.ptr c g ai n::r)=q_ (.ptr c g ai n) (dk H r):=by simp only[dk];cases dk H r<;>rfl
def apB(f:Fn)(a b:List U)(r:List U):dk H (.aQ f a b::r)=q_ (.aQ f a b) (dk H r):=by simp only[dk];cases dk H r<;>rfl
def apC(l:List U)(r:List U):dk H (.bd l::r)=q_ (.bd l) (dk H r):=by simp only[dk];cases dk H r<;>rfl
def apD(c g ai n:Nat)(r:List U):dk H (.ref c g ai n::r)=Fx r (freeze H (.ref c g ai n)):=by
 simp only[dk,Fx];cases freeze H (.ref c g ai n)with
 |none=>rfl
 |some p=>simp only;cases dk p.2 r<;>rfl
def apE(l:List U)(r:List U):dk H (.agg l::r)=I8 l r H (fC H l):=by
 simp only[dk,I8];cases fC H l with
 |none=>simp only;cases dk H r<;>rfl
 |some p=>simp only;cases dk p.2 r<;>rfl
def I9(c g ai n:Nat)(H:aa):Option Chunk→Option (aC×aa)
 |some (.sl aw aU rows ex)=>if g=aU then some (.sl aw ((rows.drop ai).take n) (ex &&decide (ai+n=rows.length)),H.set c (.bj aw g rows ex))else none
 |some (.bj aw aU rows ex)=>if g=aU then some (.sl aw ((rows.drop ai).take n) (ex &&decide (ai+n=rows.length)),H)else none
 |_=>none
def V_(x:aC):freeze H (.i x)=some (x,H):=rfl
def apF(c g ai n:Nat):freeze H (.ref c g ai n)=I9 c g ai n H H[c]?:=by
 simp only[freeze,I9];cases H[c]? with
 |none=>rfl
 |some x=>cases x<;>rfl
def apG(c g ai n:Nat):freeze H (.ptr c g ai n)=none:=rfl
def apH(f:Fn)(a b:List U):freeze H (.aQ f a b)=none:=rfl
def apI(c g ai n aw aU:Nat)(rows:List (List aC))(ex:Bool):I9 c g ai n H (some (.sl aw aU rows ex))=if g=aU then some (.sl aw ((rows.drop ai).take n) (ex &&decide (ai+n=rows.length)),H.set c (.bj aw g rows ex))else none:=rfl
def apJ(c g ai n aw aU:Nat)(rows:List (List aC))(ex:Bool):I9 c g ai n H (some (.bj aw aU rows ex))=if g=aU then some (.sl aw ((rows.drop ai).take n) (ex &&decide (ai+n=rows.length)),H)else none:=rfl
def I_(x:aC):Option (List aC×aa)→Option (List aC×aa)
 |some (xs,bu)=>some (x::xs,bu)
 |none=>none
def I'(r:List U):Option (aC×aa)→Option (List aC×aa)
 |some (x,H1)=>I_ x (fC H1 r)
 |none=>none
def V'(x:aC)(xs:List aC)(bu:aa):I_ x (some (xs,bu))=some (x::xs,bu):=rfl
def apK(x:aC):I_ x none=none:=rfl
def Wa(r:List U)(x:aC)(H1:aa):I' r (some (x,H1))=I_ x (fC H1 r):=rfl
def apL(r:List U):I' r none=none:=rfl
def Wb:fC H []=some ([],H):=rfl
def Wc(a:U)(r:List U):fC H (a::r)=I' r (freeze H a):=by
 simp only[fC,I'];cases freeze H a with
 |none=>rfl
 |some p=>simp only;cases fC p.2 r<;>rfl
def Ot:∀(l:List aC),fC H (l.map .i)=some (l,H)
 |[]=>rfl
 |a::l=>by simp only[fh,Wc,V_,Wa,Ot l,V']
def gX(H:aa):Option U→Option (U×aa)
 |some v=>some (v,H)
 |none=>none
def apM(v:U):gX H (some v)=some (v,H):=rfl
def np(ai:Option U):(ai.map λ v=>(v,H))=gX H ai:=by cases ai<;>rfl
def apN(x:Operand):cd E aJ (.move x) J H=some (bn E J x,H):=rfl
def apO(x:Operand):cd E aJ (.assign x) J H=some (bn E J x,H):=rfl
def Ja(a b:U):U→Option U
 |.i (.v (.bool t))=>some (bif t then a else b)
 |_=>none
def apP(c a b:Operand):cd E aJ (.pick c a b) J H=gX H (Ja (bn E J a) (bn E J b) (bn E J c)):=by
 rw[←np];simp only[cd,ez,et,fF,if_false]
 congr 1
def apQ(t:TypeId)(a:Operand):cd E aJ (.load t a) J H=gX H (tm E H t (bn E J a)):=np _
def apR(op:BinOp)(t u:TypeId)(x y:Operand):cd E aJ (.binOp op t x y u) J H=gX H (jS E.P op t (bn E J x) (bn E J y)):=np _
def apS(op:UnOp)(t:TypeId)(x:Operand):cd E aJ (.unOp op t x) J H=gX H (yy op (bn E J x)):=np _
def apT(t:TypeId)(x:Operand)(bS ax:Option Operand):cd E aJ (.slice t x bS ax none) J H=gX H (jT E H t (bn E J x) (bS.map (bn E J)) (ax.map (bn E J)) none):=np _
def apU(t:TypeId)(x:Operand)(bS ax:Option Operand)(m:Operand):cd E aJ (.slice t x bS ax (some m)) J H=gX H (jT E H t (bn E J x) (bS.map (bn E J)) (ax.map (bn E J)) (some (bn E J m))):=np _
def apV(t:TypeId)(x jv:Operand):cd E aJ (.index t x jv) J H=gX H (AY E t (bn E J x) (bn E J jv)):=np _
def apW(t:TypeId)(x jv:Operand):cd E aJ (.indexAddr t x jv) J H=gX H (AX E H t (bn E J x) (bn E J jv)):=np _
def apX(t:TypeId)(x:Operand)(k:Nat):cd E aJ (.field t x k) J H=gX H (Hk E t (bn E J x) k):=np _
def apY(t:TypeId)(bk:Array (Nat×Operand)):cd E aJ (.build t bk) J H=gX H (jU E t (bk.toList.map λ p=>(p.1,bn E J p.2))):=np _
def apZ(fn:Fn)(first ft:Array Operand):cd E aJ (.makeFunc fn first ft) J H=some (.aQ fn (first.toList.map (bn E J)) (ft.toList.map (bn E J)),H):=rfl
def Wd(ai:Op)(h:ez E ai=false)(aE:∀f a t,ai≠.call ⟨.value f,a,t⟩):cd E aJ ai J H=gX H (et E J H ai):=by
 rw[←np];unfold cd;split
 ·exact absurd rfl (aE _ _ _)
 ·simp[h]
def We(ai:Op)(h:ez E ai=true)(aE:∀f a t,ai≠.call ⟨.value f,a,t⟩):cd E aJ ai J H=dc E J H ai:=by
 unfold cd;split
 ·exact absurd rfl (aE _ _ _)
 ·simp[h]
def ap0(x:Operand):cd E aJ (.nilCheck x) J H=gX H (et E J H (.nilCheck x)):=np _
def ap1(x:Operand)(n:Nat):cd E aJ (.extract x n) J H=gX H (et E J H (.extract x n)):=np _
def ap2(s:TypeId)(x:Operand)(k:Nat):cd E aJ (.fieldAddr s x k) J H=gX H (et E J H (.fieldAddr s x k)):=np _
def ap3(args:Array Operand)(e1:Array TypeId):cd E aJ (.call ⟨.builtin .len,args,e1⟩) J H=gX H (et E J H (.call ⟨.builtin .len,args,e1⟩)):=np _
def ap4(args:Array Operand)(e1:Array TypeId):cd E aJ (.call ⟨.builtin .max,args,e1⟩) J H=gX H (rB DV (args.toList.map (bn E J))):=np _
def ap5(args:Array Operand)(e1:Array TypeId):cd E aJ (.call ⟨.builtin .min,args,e1⟩) J H=gX H (rB DW (args.toList.map (bn E J))):=np _
def ap6(args:Array Operand)(e1:Array TypeId):cd E aJ (.call ⟨.builtin .append,args,e1⟩) J H=dc E J H (.call ⟨.builtin .append,args,e1⟩):=rfl
def ap7(args:Array Operand)(e1:Array TypeId):cd E aJ (.call ⟨.builtin .copy,args,e1⟩) J H=dc E J H (.call ⟨.builtin .copy,args,e1⟩):=rfl
def q'(s d:TypeId)(x:Operand)(h:e0 E.P d=none)(aR:e0 E.P s=none):cd E aJ (.convert s d x) J H=gX H (mD E s d (bn E J x)):=by rw[Wd _ (by simp[ez,h]) (by intro f a t e;cases e)];simp only[et,aR]
def ap8(s d e:TypeId)(x:Operand)(h:e0 E.P d=none)(aR:e0 E.P s=some e):cd E aJ (.convert s d x) J H=gX H (AZ E H e d (bn E J x)):=by rw[Wd _ (by simp[ez,h]) (by intro f a t e;cases e)];simp only[et,aR]
def ap9(t:TypeId)(x:Operand):cd E aJ (.range t x) J H=dc E J H (.range t x):=rfl
def ap_(it:Operand)(b:Bool):cd E aJ (.next it b) J H=dc E J H (.next it b):=rfl
def ap'(t:TypeId):cd E aJ (.alloc t) J H=dc E J H (.alloc t):=rfl
def aqa(t:TypeId)(x:Operand):cd E aJ (.box t x) J H=yF (kj E t H (bn E J x) (E.st t)):=rfl
def aqb(v:U)(H1:aa):yF (some (v,H1))=if(cw v).all one then some (.ptr H1.length 0 0 0,H1++[.box (cw v)])else none:=rfl
def aqc(t:TypeId)(v:U):kj E t H v []=some (v,H):=rfl
def aqd(t:TypeId)(v:U)(ac:Nat)(r:List Nat):kj E t H v (ac::r)=uN v (jh (E.kinds t) (ac::r) H (cw v)):=rfl
def aqe(v:U)(cs:List U)(H1:aa):uN v (some (cs,H1))=some (wE v cs,H1):=rfl
def aqf(br:List (Option Nat))(cs:List U):jh br [] H cs=some (cs,H):=rfl
def Jb(br:List (Option Nat))(ac:Nat)(r:List Nat)(cs:List U):Option (aC×aa)→Option (List U×aa)
 |some (x,H1)=>jh br r H1 (cs.set ac (.i (hZ (br.getD ac none) x)))
 |none=>none
def aqg(br:List (Option Nat))(ac:Nat)(r:List Nat)(cs:List U)(x:aC)(H1:aa):Jb br ac r cs (some (x,H1))=jh br r H1 (cs.set ac (.i (hZ (br.getD ac none) x))):=rfl
def Ou(br:List (Option Nat))(ac:Nat)(r:List Nat)(H:aa)(cs:List U):Option U→Option (List U×aa)
 |some a=>Jb br ac r cs (freeze H a)
 |none=>none
def aqh(br:List (Option Nat))(ac:Nat)(r:List Nat)(cs:List U)(a:U):Ou br ac r H cs (some a)=Jb br ac r cs (freeze H a):=rfl
def aqi(br:List (Option Nat))(ac:Nat)(r:List Nat)(cs:List U):jh br (ac::r) H cs=Ou br ac r H cs cs[ac]?:=by
 simp only[jh,Ou,Jb];cases cs[ac]? with
 |none=>rfl
 |some a=>simp only;cases freeze H a<;>rfl
def aqj(l cs:List U):wE (.agg l) cs=.agg cs:=rfl
def aqk(x:aC)(a:U)(r:List U):wE (.i x) (a::r)=a:=rfl
def aql(c g ai n:Nat)(a:U)(r:List U):wE (.ref c g ai n) (a::r)=a:=rfl
def aqm(k:cN)(a:U)(r:List U):wE (.x k) (a::r)=a:=rfl
def Jc(E:Env)(H:aa)(J:Fr)(t:TypeId)(n:Nat)(bk:Array (Nat×Operand)):Option Nat→Option (U×aa)
 |none=>k8 E H t n (bk.toList.map λ p=>(p.1,bn E J p.2))
 |some z=>tr E H t z n (bk.toList.map λ p=>(p.1,bn E J p.2))
def aqn(t:TypeId)(n:Nat)(bk:Array (Nat×Operand)):Jc E H J t n bk none=k8 E H t n (bk.toList.map λ p=>(p.1,bn E J p.2)):=rfl
def aqo(t:TypeId)(n z:Nat)(bk:Array (Nat×Operand)):Jc E H J t n bk (some z)=tr E H t z n (bk.toList.map λ p=>(p.1,bn E J p.2)):=rfl
def aqp(t:TypeId)(n:Nat)(bk:Array (Nat×Operand)):cd E aJ (.buildSlice t n bk) J H=Jc E H J t n bk (Hn E t n):=by show dc E J H (.buildSlice t n bk)=_;simp only[dc,Jc];cases Hn E t n<;>rfl
def Wf:Option aa→Option (U×aa)
 |some an=>some (.dead,an)
 |none=>none
def aqq(an:aa):Wf (some an)=some (.dead,an):=rfl
def aqr(t:TypeId)(p v:U)(H1:aa):wF E t p (some (v,H1))=Wf (nD E H1 t p v):=by show(nD E H1 t p v).map _=_;cases nD E H1 t p v<;>rfl
def aqs(t:TypeId)(a x:Operand):cd E aJ (.store t a x) J H=wF E t (bn E J a) (kj E t H (bn E J x) (E.st t)):=rfl
def Jd(E:Env)(H:aa)(t:TypeId)(l c:U):Option Nat→Option (U×aa)
 |none=>jg E H t l c
 |some z=>tt z (jg E H t l c)
def aqt(t:TypeId)(l c:U):Jd E H t l c none=jg E H t l c:=rfl
def aqu(t:TypeId)(l c:U)(z:Nat):Jd E H t l c (some z)=tt z (jg E H t l c):=rfl
def aqv(t:TypeId)(l c:Operand):cd E aJ (.makeSlice t l c) J H=Jd E H t (bn E J l) (bn E J c) (sy E t):=by show dc E J H (.makeSlice t l c)=_;simp only[dc,Jd];cases sy E t<;>rfl
def zJ{f:FuncId}(h:E.oa f=none)(I:E.ss f=false)(bE:List U):gg E aJ f bE H=k9 E aJ f bE H:=by unfold gg;rw[h,I]
def Wg{f:FuncId}(h:E.oa f=none)(I:E.ss f=true)(bE:List U):gg E aJ f bE H=wL H (k9 E aJ f bE H):=by unfold gg;rw[h,I]
def Wh{f fn:FuncId}(h:E.oa f=some fn)(bE:List U):gg E aJ f bE H=wM H fn bE:=by unfold gg;rw[h]
def aqw(fn:FuncId)(a:U):wM H fn [a]=if one a=true then some (.aQ (.func fn) [] [.ptr H.length 0 0 0],H++[.box [a]])else none:=rfl
noncomputable def Je(E:Env)(aJ:dy)(H:aa)(bE:List U)(g:Nat):Bool→Option (U×aa)
 |true=>gg E aJ g bE H
 |false=>none
def aqx(bE:List U)(g:Nat):Je E aJ H bE g true=gg E aJ g bE H:=rfl
noncomputable def Ov(E:Env)(aJ:dy)(H:aa)(args:List U):U→Option (U×aa)
 |.aQ (.func g) first ft=>Je E aJ H (first++args++ft) g (k' E g)
 |_=>none
def aqy(args:List U)(g:Nat)(first ft:List U):Ov E aJ H args (.aQ (.func g) first ft)=Je E aJ H (first++args++ft) g (k' E g):=rfl
def aqz(x:Operand)(args:Array Operand)(e1:Array TypeId):cd E aJ (.call ⟨.value x,args,e1⟩) J H=Ov E aJ H (args.toList.map (bn E J)) (bn E J x):=by
 simp only[cd,wN,Ov];split
 ·rename_i g bE aP;split at aP
  ·rename_i aU first ft ak
   simp only[bg,bw]at aP;obtain⟨rfl,rfl⟩:=aP;rw[ak];simp only[Je];cases k' E aU<;>simp
  ·cases aP
 ·rename_i aP;split at aP
  ·cases aP
  ·rename_i gh;split
   ·rename_i g first ft ak;exact absurd ak (gh _ _ _)
   ·rfl
def fU(aS:Nat→Option Nat):(∀a,bc a=[]→co aS a=a)∧(∀l,bx l=[]→cx aS l=l):=by
 refine⟨λ a=>?_,λ l=>?_⟩
 ·induction a using U.rec (motive_2:=λ l=>bx l=[]→cx aS l=l)<;>(try intro h)<;>simp_all [bc,bx,co,cx]
 ·induction l using U.rec_1 (motive_1:=λ a=>bc a=[]→co aS a=a)<;>(try intro h)<;>simp_all [bc,bx,co,cx]
def loops:Code→List Code
 |.seq a b=>loops a++loops b
 |.cond _ a b=>loops a++loops b
 |.block _ c=>loops c
 |.scope c=>loops c
 |.loop c=>.loop c::loops c
 |_=>[]
def fg(fn:Func)(k:Nat):Code:=((fn.body.map loops).getD []).getD k .skip
end
end Go.VI
namespace Go.VI
open Go.ChangeShapes
open Go.RowKit
open Go.WideShapes
set_option maxRecDepth 100000
set_option maxHeartbeats 40000000
set_option linter.unusedVariables false
set_option linter.unusedSimpArgs false
set_option linter.defProp false
section
variable{r4:Type}{enc:TypeId×Value→r4}{P:Program}{W:World}
end
inductive jI where
 |bool|int (k:IntKind)|str|sl (e:TypeId)
def j6(P:Program):Nat→TypeId→Option (List jI)
 |0,_=>none
 |d+1,t=>match P.underlying t with
  |some .bool=>some [.bool]
  |some (.int k)=>some [.int k]
  |some .string=>some [.str]
  |some (.slice e)=>match j6 P d e with
   |some (_::_)=>some [.sl e]
   |_=>none
  |some (.array n e)=>(j6 P d e).map λ l=>(cB n l).flatten
  |some (.struct eI)=>(eI.toList.mapM λ f=>j6 P d f.type).map List.flatten
  |_=>none
inductive mS (P:Program):jI→aC→Prop
 |bool (b:Bool):mS P .bool (.v (.bool b))
 |int (k:IntKind) (n:Int) (h:(Lit.int k n).wf=true):mS P (.int k) (.v (.int k n))
 |str (l:List UInt8) (h:l.length≤maxLen):mS P .str (.str l)
 |sl (e:TypeId) (d:Nat) (cs:List jI) (rows:List (List aC)) (ag:j6 P d e=some cs) (al:rows.length≤maxLen)
  (j:∀(i:Nat) (r:List aC),rows[i]?=some r→r.length=cs.length)
  (I:∀(i:Nat) (r:List aC) (k:Nat) (c:jI) (x:aC),rows[i]?=some r→cs[k]?=some c→r[k]?=some x→mS P c x):mS P (.sl e) (.sl (P.cellsOf e) rows false)
def kU(P:Program)(ad:b'):List Value→List jI→List aC→Prop
 |[],[],[]=>True
 |v::vs,c::cs,a::l=>dl ad a v∧mS P c a∧kU P ad vs cs l
 |_,_,_=>False
def kU.append{P:Program}{ad:b'}:∀{vs cs l Wi cs' fu},kU P ad vs cs l→kU P ad Wi cs' fu→kU P ad (vs++Wi) (cs++cs') (l++fu)
 |[],[],[],_,_,_,_,h1=>h1
 |v::vs,c::cs,a::l,_,_,_,h,h1=>⟨h.1,h.2.1,kU.append h.2.2 h1⟩
 |[],_::_,_,_,_,_,h,_=>h.elim
 |[],[],_::_,_,_,_,h,_=>h.elim
 |_::_,[],_,_,_,_,h,_=>h.elim
 |_::_,_::_,[],_,_,_,h,_=>h.elim
def kU.len{P:Program}{ad:b'}:∀{vs cs l},kU P ad vs cs l→vs.length=l.length∧cs.length=l.length
 |[],[],[],_=>⟨rfl,rfl⟩
 |v::vs,c::cs,a::l,h=>by have:=kU.len h.2.2;simp[this.1,this.2]
 |[],_::_,_,h=>h.elim
 |[],[],_::_,h=>h.elim
 |_::_,[],_,h=>h.elim
 |_::_,_::_,[],h=>h.elim
def kU.at{P:Program}{ad:b'}:∀{vs cs l},kU P ad vs cs l→∀(k:Nat) (a:aC),l[k]?=some a→∃v c,vs[k]?=some v∧cs[k]?=some c∧dl ad a v∧mS P c a
 |[],[],[],_,k,a,aA=>by simp at aA
 |v::vs,c::cs,b::l,h,0,a,aA=>by simp at aA;subst aA;exact⟨v,c,rfl,rfl,h.1,h.2.1⟩
 |v::vs,c::cs,b::l,h,k+1,a,aA=>kU.at h.2.2 k a (by simpa using aA)
 |[],_::_,_,h,_,_,_=>h.elim
 |[],[],_::_,h,_,_,_=>h.elim
 |_::_,[],_,h,_,_,_=>h.elim
 |_::_,_::_,[],h,_,_,_=>h.elim
def aqA{P:Program}:∀(d:Nat) (t:TypeId) (l:List jI),j6 P d t=some l→j6 P (d+1) t=some l:=by
 intro d;induction d with
 |zero=>intro t l h;cases h
 |succ d a8=>
  intro t l h;rw[j6]at h⊢;split at h
  ·exact h
  ·exact h
  ·exact h
  ·rename_i e _;split at h
   ·rename_i c r ag;rw[a8 _ _ ag];exact h
   ·cases h
  ·rename_i n e _;cases ag:j6 P d e with
   |none=>rw[ag]at h;cases h
   |some fu=>rw[ag]at h;rw[a8 _ _ ag];exact h
  ·rename_i eI _;cases ag:eI.toList.mapM (λ f=>j6 P d f.type)with
   |none=>rw[ag]at h;cases h
   |some fu=>rw[ag]at h;rw[mapM_carry ag (λ f y _ _ aY=>a8 _ _ aY)];exact h
  ·cases h
def Wj{P:Program}{d ig:Nat}(aM:d≤ig){t:TypeId}{l:List jI}(h:j6 P d t=some l):j6 P ig t=some l:=by
 induction aM with
 |refl=>exact h
 |step _ a8=>exact aqA _ _ _ a8
def aqB{P:Program}{d ig:Nat}{t:TypeId}{l fu:List jI}(h:j6 P d t=some l)(h1:j6 P ig t=some fu):l=fu:=by have j:=Wj (B8 d ig) h;have I:=Wj (B9 d ig) h1;exact pY (j.symm.trans I)
section
variable{r4:Type}{enc:TypeId×Value→r4}{P:Program}{W:World}{mn:Nat→Bool}{held:Bool}
def trod_array{t e:TypeId}{m oI:Nat}{cs:List Value}{x:DataW r4×List MemPlace}(bp:P.underlying t=some (.array m e))(h:r5 enc P W 0 mn held oI t cs=some x):
  ∃n,oI=n+1∧cs.length=P.cellsOf t∧∀i,i<m→∃y,r5 enc P W 0 mn held n e ((cs.drop (i*P.cellsOf e)).take (P.cellsOf e))=some y:=by
 cases oI with
 |zero=>simp[r5]at h
 |succ n=>unfold r5 at h;rw[bp]at h;split at h<;>simp_all;obtain⟨al,xs,au,aM⟩:=h;intro i ax;have j:=mapM_some_get au i i (by simp[Jf,ax]);have I:=mapM_some_length au;rw[List.length_range]at I;have av:i<xs.length:=R;rw[j,eX av];exact⟨xs[i].1,xs[i].2,rfl⟩
def zK{a:Addr}{n:Nat}{cs:List Value}(h:W.cells? 0 a n=some cs):cs.length=n∧∀i,i<n→W.cell? (a.add i)=cs[i]?:=by unfold World.cells? at h;rw[if_pos (jp _)]at h;have I:=mapM_some_length h;exact⟨by simpa using I,λ i ax=>mapM_some_get h i i (by simp[ax])⟩
def aqC{n:Nat}(rd:∀(d:Nat) (t:TypeId) (cs:List Value) (x:DataW r4×List MemPlace) (oJ:List jI),t<P.types.size→j6 P d t=some oJ→r5 enc P W 0 mn held n t cs=some x→∃l,kU P (nn W) cs oJ l)(d:Nat):
  ∀(cW:List Field) (aJ:List (List jI)) (cs:List Value),cW.mapM (λ f=>j6 P d f.type)=some aJ→(∀f∈cW,f.type<P.types.size)→cs.length=(cW.map λ f=>P.cellsOf f.type).sum→
   (∀(ac:Nat) f,cW[ac]?=some f→∃x,r5 enc P W 0 mn held n f.type ((cs.drop ((cW.take ac).map λ f=>P.cellsOf f.type).sum).take (P.cellsOf f.type))=some x)→
   ∃l,kU P (nn W) cs aJ.flatten l:=by
 intro cW;induction cW with
 |nil=>intro aJ cs h _ hlen _;simp at h hlen;subst h;obtain rfl:cs=[]:=hlen;exact⟨[],trivial⟩
 |cons f cW a8=>
  intro aJ cs h zp hlen ak;rw[Me]at h;cases j:j6 P d f.type with
  |none=>rw[j]at h;cases h
  |some b_=>
   cases I:cW.mapM (λ f=>j6 P d f.type)with
   |none=>rw[j,I]at h;cases h
   |some ca=>
    rw[j,I]at h;have h1:some (b_::ca)=some aJ:=h;cases h1;obtain⟨x,y5⟩:=ak 0 f rfl;simp only[mQ,fm,List.sum_nil,il]at y5;obtain⟨c4,g1⟩:=rd d f.type _ x b_ (zp f (by simp)) j y5;simp only[fh,List.sum_cons]at hlen;obtain⟨eN,g2⟩:=a8 ca (cs.drop (P.cellsOf f.type)) I (λ g aP=>zp g (by simp[aP])) (by rw[iG];omega) (λ ac g aP=>by
     obtain⟨y,aY⟩:=ak (ac+1) g (by simpa using aP);simp only[vk,fh,List.sum_cons]at aY;exact⟨y,by rw[HH];exact aY⟩)
    refine⟨c4++eN,?_⟩;have:=g1.append g2;rw[Jg]at this;simpa using this
def aqD{n:Nat}{e:TypeId}{b_:List jI}(rd:∀(cs:List Value) (x:DataW r4×List MemPlace),r5 enc P W 0 mn held n e cs=some x→∃l,kU P (nn W) cs b_ l):
  ∀(m:Nat) (cs:List Value),cs.length=m*P.cellsOf e→(∀i,i<m→∃y,r5 enc P W 0 mn held n e ((cs.drop (i*P.cellsOf e)).take (P.cellsOf e))=some y)→∃l,kU P (nn W) cs (cB m b_).flatten l:=by
 intro m;induction m with
 |zero=>
  intro cs hlen _;obtain rfl:cs=[]:=by simpa using hlen
  exact⟨[],trivial⟩
 |succ m a8=>
  intro cs hlen ak;obtain⟨x,y5⟩:=ak 0 R;simp only[Nat.zero_mul,il]at y5;obtain⟨c4,g1⟩:=rd _ x y5;rw[Nat.succ_mul]at hlen;obtain⟨eN,g2⟩:=a8 (cs.drop (P.cellsOf e)) (by rw[iG];omega) (λ i ax=>by
   obtain⟨y,aY⟩:=ak (i+1) R;rw[Nat.succ_mul,qb]at aY;exact⟨y,by rw[HH];exact aY⟩)
  refine⟨c4++eN,?_⟩;have:=g1.append g2;rw[Jg]at this;simpa[Ef]using this
def aqE(al:laidOutB P=true):∀(n d:Nat) (t:TypeId) (cs:List Value) (x:DataW r4×List MemPlace) (oJ:List jI),t<P.types.size→j6 P d t=some oJ→
  r5 enc P W 0 mn held n t cs=some x→∃l,kU P (nn W) cs oJ l:=by
 intro n;induction n with
 |zero=>intro d t cs x oJ _ _ h;simp[r5]at h
 |succ n a8=>
  intro d t cs x oJ bp ag h;cases d with
  |zero=>cases ag
  |succ d=>
   rw[j6]at ag;split at ag
   ·rename_i hu;cases ag;obtain⟨b,rfl,rfl⟩:=DataW.trod_bool hu h;exact⟨[.v (.bool b)],.v _ rfl,.bool b,trivial⟩
   ·rename_i k hu;cases ag;obtain⟨z,rfl,rfl,hw⟩:=DataW.trod_int hu h;exact⟨[.v (.int k z)],.v _ rfl,.int k z hw,trivial⟩
   ·rename_i hu;cases ag;obtain⟨s,rfl,rfl,hw⟩:=DataW.trod_string hu h;exact⟨[.str s.data.toList],.str _,.str _ (by simpa using hw),trivial⟩
   ·rename_i e hu;split at ag
    ·rename_i gr b_ he;cases ag;rcases DataW.trod_slice hu h with⟨rfl,_⟩|⟨a,len,cap,Wk,rest,dP,aE,rfl,_,_,ER,hm,Ow,px,_,_⟩
     ·exact⟨[.sl (P.cellsOf e) [] false],.nil _ _ _ _ (λ h=>by cases h),.sl e d _ [] he (jp _) (λ i r h=>by simp at h) (λ i r k c x h=>by simp at h),trivial⟩
     ·cases aE;have o_:e<P.types.size:=(kid_slice al bp hu);have hex:∀i,∃l,i<len→∃cs',W.cells? 0 (a.add (i*P.cellsOf e)) (P.cellsOf e)=some cs'∧kU P (nn W) cs' (gr::b_) l:=by
       intro i;by_cases ax:i<len
       ·have j:=px i ax;have I:Wk[i]?=some Wk[i]:=eX R;rw[I,Bo]at j;obtain⟨cs',av,ba⟩:=j;obtain⟨l,aP⟩:=a8 d e cs' _ _ o_ he ba;exact⟨l,λ _=>⟨cs',av,aP⟩⟩
       ·exact⟨[],λ h=>absurd h ax⟩
      obtain⟨f,aI⟩:=Classical.skolem.1 hex;have bX:∀i r,((g' len).map f)[i]?=some r→i<len∧r=f i:=by intro i r ah;simp only[fw,c0,Jf]at ah;obtain⟨ac,a_,rfl⟩:=ah;rw[bF]at a_;obtain⟨j,I⟩:=a_;simp at j I;subst I;exact⟨j,rfl⟩
      have yW:mS P (.sl e) (.sl (P.cellsOf e) ((g' len).map f) false):=by
       refine .sl e d _ _ he (by simp;omega) (λ i r ah=>?_) (λ i r k c y ah ag aY=>?_)
       ·obtain⟨ax,rfl⟩:=bX i r ah;obtain⟨cs',_,aP⟩:=aI i ax;exact aP.len.2.symm
       ·obtain⟨ax,rfl⟩:=bX i r ah;obtain⟨cs',_,aP⟩:=aI i ax;obtain⟨v,cl,_,I,_,ba⟩:=aP.at k y aY;rw[ag]at I;cases I;exact ba
      refine⟨[.sl (P.cellsOf e) ((g' len).map f) false],?_,yW,trivial⟩;by_cases aW:len=0
      ·subst aW;exact .nil _ _ _ cap (λ h=>by cases h)
      ·obtain⟨w7,fZ,NK⟩:=aI 0 R;have bf:0<P.cellsOf e:=by have:=(zK fZ).1;have I:=NK.len;simp at I;omega
       have eh:=(zK fZ).2 0 bf;have Wl:=(zK fZ).1;obtain⟨b,off,spot⟩:=a;have gh:w7[0]?=some w7[0]:=eX R;rw[gh]at eh;unfold rP at eh;split at eh
       ·rename_i cs zd bj fi;split at eh
        ·cases eh
        ·rename_i aqF;have aqG:spot=none:=by cases spot with|none=>rfl|some _=>simp[Addr.add]at aqF
         subst aqG;have aA:∀ai i,Addr.add ⟨b,ai,none⟩ i=⟨b,ai+i,none⟩:=by intro ai i;unfold Addr.add;split<;>simp_all
         simp only[aA]at fi;have p5:∀i,i<len→∀k,k<P.cellsOf e→∀cs',W.cells? 0 (Addr.add ⟨b,off,none⟩ (i*P.cellsOf e)) (P.cellsOf e)=some cs'→cs[off+i*P.cellsOf e+k]?=cs'[k]?:=by intro i ax k ay cs' kR;have:=(zK kR).2 k ay;simp only[aA]at this;unfold rP at this;simp only[fi]at this;simpa using this
         have key:=dl.sl (ad:=nn W) (P.cellsOf e) ((g' len).map f) false b off cap cs zd bj (λ i k=>(cs[off+i*P.cellsOf e+k]?).getD undef) fi (by simp;omega) (λ h=>by cases h)
          (λ i r ah=>by
           obtain⟨ax,rfl⟩:=bX i r ah;obtain⟨cs',j,aP⟩:=aI i ax;rw[←aP.len.1];exact(zK j).1)
          (λ i r k y ah aY=>by
           obtain⟨ax,rfl⟩:=bX i r ah;obtain⟨cs',j,aP⟩:=aI i ax;obtain⟨v,cl,I,_,_,_⟩:=aP.at k y aY;have ay:k<P.cellsOf e:=by rw[←(zK j).1];exact(bF.1 I).1
           rw[p5 i ax k ay cs' j,I];rfl)
          (λ i r k y ah aY=>by
           obtain⟨ax,rfl⟩:=bX i r ah;obtain⟨cs',j,aP⟩:=aI i ax;obtain⟨v,cl,I,_,av,_⟩:=aP.at k y aY;have ay:k<P.cellsOf e:=by rw[←(zK j).1];exact(bF.1 I).1
           rw[p5 i ax k ay cs' j,I];exact av)
         have Fy:((g' len).map f).length=len:=by simp
         rw[Fy]at key;exact key
       ·cases eh
    ·cases ag
   ·rename_i m e hu;cases gI:j6 P d e with
    |none=>rw[gI]at ag;cases ag
    |some b_=>rw[gI]at ag;have kR:some (cB m b_).flatten=some oJ:=ag;cases kR;obtain⟨dP,aE,hlen,ak⟩:=trod_array hu h;cases aE;obtain⟨bG,bC⟩:=kid_array al bp hu;exact aqD (λ cs x ak=>a8 d e cs x b_ bG gI ak) m cs (by rw[hlen,bC]) ak
   ·rename_i eI hu;cases gI:eI.toList.mapM (λ f=>j6 P d f.type)with
    |none=>rw[gI]at ag;cases ag
    |some b_=>
     rw[gI]at ag;have kR:some b_.flatten=some oJ:=ag;cases kR;obtain⟨xs,dP,aE,_,hlen,Ox,ak⟩:=DataW.trod_struct hu h;cases aE;obtain⟨bG,bC,cE⟩:=kid_struct al bp hu;refine aqC (λ d t cs x oJ=>a8 d t cs x oJ) d eI.toList b_ cs gI bG (by rw[hlen,bC]) (λ ac f aI=>?_);have j:=ak ac f (by simpa using aI);have a_:ac<xs.length:=by have:=(bF.1 aI).1;simp at this;omega
     rw[cE ac f aI,eX a_]at j;exact⟨_,j⟩
   ·cases ag
def aqH{ad:b'}{ab:b8}{H:aa}{cs:Array Value}{oJ:List jI}{l:List aC}(h:kU P ad cs.toList oJ l):a6 ad ab H (.agg (l.map .i)) (.agg cs):=by
 have al:=h.len.1;refine .agg _ cs (by simpa using al) (λ k a aA=>?_);simp only[fw,c0]at aA;obtain⟨x,ak,rfl⟩:=aA;obtain⟨v,c,j,_,av,_⟩:=h.at k x ak;have:cs[k]?=some v:=by simpa using j
 rw[di,this];exact .i _ _ av
def aqI(al:laidOutB P=true){t:TypeId}{v:Value}{d:DataW r4}{bk:List MemPlace}{oJ:List jI}(D:Nat)(bp:t<P.types.size)(ag:j6 P D t=some oJ)
  (aM:DataW.Trod enc P W 0 mn held t v d bk):∃l,kU P (nn W) v.cells.toList oJ l:=by
 obtain⟨n,aE⟩:=aM;exact aqE al n D t _ _ _ bp ag aE
def stays(al:laidOutB P=true){t:TypeId}{v:Value}{d:DataW r4}{bk:List MemPlace}{ln:World}(ah:P.readableRec t=true)(bp:t<P.types.size)
  (aM:DataW.Trod enc P W 0 (λ _=>true) true t v d bk)(b9:Ca W ln)(xz:∀p∈bk,p.block<W.heap.size)(Wm:Nat→Bool)(aR:∀p∈bk,Wm p.block=true):DataW.Trod enc P ln 0 Wm true t v d bk:=
 WideElems.Trod_stays al ah bp aM (λ p au=>by
  have:=b9.heap _ (xz p au);cases p with
  |cell b off=>simp only[World.sameAt,rP,MemPlace.block]at this⊢;rw[this]
  |map b=>exact this) aR
def kV(P:Program):List jI→List aC→Prop
 |[],[]=>True
 |c::cs,a::l=>mS P c a∧kV P cs l
 |_,_=>False
def kU.dI{P:Program}{ad:b'}:∀{vs cs l},kU P ad vs cs l→kV P cs l
 |[],[],[],_=>trivial
 |v::vs,c::cs,a::l,h=>⟨h.2.1,kU.dI h.2.2⟩
 |[],_::_,_,h=>h.elim
 |[],[],_::_,h=>h.elim
 |_::_,[],_,h=>h.elim
 |_::_,_::_,[],h=>h.elim
def kV.nil{l:List aC}(h:kV P [] l):l=[]:=by cases l with|nil=>rfl|cons a l=>exact h.elim
def kV.cons{c:jI}{cs:List jI}{l:List aC}(h:kV P (c::cs) l):∃a fu,l=a::fu∧mS P c a∧kV P cs fu:=by cases l with|nil=>exact h.elim|cons a l=>exact⟨a,l,rfl,h.1,h.2⟩
def mS.of_bool{a:aC}(h:mS P .bool a):∃b,a=.v (.bool b):=by cases h;exact⟨_,rfl⟩
def mS.of_int{a:aC}{k:IntKind}(h:mS P (.int k) a):∃n,a=.v (.int k n)∧(Lit.int k n).wf=true:=by cases h;exact⟨_,rfl,by assumption⟩
def mS.aqJ{a:aC}(h:mS P .str a):∃s,a=.str s∧s.length≤maxLen:=by cases h;exact⟨_,rfl,by assumption⟩
def Wn:∀{cs:List jI} {l:List aC},l.length=cs.length→(∀(k:Nat) (c:jI) (x:aC),cs[k]?=some c→l[k]?=some x→mS P c x)→kV P cs l
 |[],[],_,_=>trivial
 |c::cs,a::l,al,h=>⟨h 0 c a rfl rfl,Wn (by simpa using al) λ k c x ag ak=>h (k+1) c x (by simpa using ag) (by simpa using ak)⟩
 |[],_::_,al,_=>by simp at al
 |_::_,[],al,_=>by simp at al
def mS.aqK{a:aC}{e:TypeId}(h:mS P (.sl e) a){D:Nat}{cs:List jI}(ag:j6 P D e=some cs):∃rows,a=.sl (P.cellsOf e) rows false∧rows.length≤maxLen∧∀r∈rows,kV P cs r:=by
 cases h with
 |sl e d cs' rows kR al j I=>
  cases aqB ag kR;refine⟨rows,rfl,al,λ r ah=>?_⟩;obtain⟨i,ax⟩:=List.getElem?_of_mem ah;exact Wn (j i r ax) λ k c x ag ak=>I i r k c x ax ag ak
def kV.bool{cs:List jI}{l:List aC}(h:kV P (.bool::cs) l):∃b fu,l=.v (.bool b)::fu∧kV P cs fu:=by obtain⟨a,fu,rfl,j,I⟩:=h.cons;obtain⟨b,rfl⟩:=j.of_bool;exact⟨b,fu,rfl,I⟩
def kV.int{k:IntKind}{cs:List jI}{l:List aC}(h:kV P (.int k::cs) l):∃n fu,l=.v (.int k n)::fu∧(Lit.int k n).wf=true∧kV P cs fu:=by obtain⟨a,fu,rfl,j,I⟩:=h.cons;obtain⟨n,rfl,aE⟩:=j.of_int;exact⟨n,fu,rfl,aE,I⟩
def kV.str{cs:List jI}{l:List aC}(h:kV P (.str::cs) l):∃s fu,l=.str s::fu∧s.length≤maxLen∧kV P cs fu:=by obtain⟨a,fu,rfl,j,I⟩:=h.cons;obtain⟨s,rfl,aE⟩:=j.aqJ;exact⟨s,fu,rfl,aE,I⟩
def kV.sl{e:TypeId}{cs:List jI}{l:List aC}(h:kV P (.sl e::cs) l){D:Nat}{cs':List jI}(ag:j6 P D e=some cs'):
  ∃rows fu,l=.sl (P.cellsOf e) rows false::fu∧rows.length≤maxLen∧(∀r∈rows,kV P cs' r)∧kV P cs fu:=by
 obtain⟨a,fu,rfl,j,I⟩:=h.cons;obtain⟨rows,rfl,aE,ah⟩:=j.aqK ag;exact⟨rows,fu,rfl,aE,ah,I⟩
def rows_map{α:Type}(f:α→List aC)(p:α→Prop):∀{rows:List (List aC)},(∀r∈rows,∃a,r=f a∧p a)→∃l:List α,rows=l.map f∧∀a∈l,p a
 |[],_=>⟨[],rfl,λ a h=>by simp at h⟩
 |r::rows,h=>by
  obtain⟨a,rfl,aA⟩:=h r (by simp);obtain⟨l,rfl,al⟩:=rows_map f p (rows:=rows) λ r ah=>h r (by simp[ah])
  exact⟨a::l,rfl,by simpa using⟨aA,al⟩⟩
variable{r:Reach}{cT:Nat}{t:TypeId}{v:Value}{d:DataW r4}{bk:List MemPlace}
def read_agg(al:laidOutB P=true){D:Nat}{cs:List jI}(bp:t<P.types.size)(hu:(P.underlying t).map (λ|.struct _=>true|.array _ _=>true|_=>false)=some true)(ag:j6 P D t=some cs)(Jh:Value.okWide P W r cT t v)(aM:DataW.Trod enc P W 0 mn held t v d bk):
  ∃l:List aC,a6 (nn W) zG [] (.agg (l.map .i)) v∧kV P cs l:=by
 obtain⟨l,aP⟩:=aqI al D bp ag aM;have bh:∃cs,v=.agg cs:=by
  unfold Value.okWide at Jh;split at Jh
  ·obtain⟨cs,h,_⟩:=Jh;exact⟨cs,h⟩
  ·obtain⟨cs,h,_⟩:=Jh;exact⟨cs,h⟩
  ·rename_i j I;cases aN:P.underlying t with
   |none=>rw[aN]at hu;cases hu
   |some x=>
    rw[aN]at hu;cases x<;>simp at hu
    ·exact absurd aN (I _ _)
    ·exact absurd aN (j _)
 obtain⟨vs,rfl⟩:=bh;exact⟨l,aqH aP,aP.dI⟩
end
section
variable{r4:Type}{enc:TypeId×Value→r4}{P:Program}{W:World}{mn:Nat→Bool}{held:Bool}
end
def rng_u8{n:Int}(h:(Lit.int .u8 n).wf=true):0≤n∧n≤255:=by simp only[Lit.wf,cR,IntKind.min,IntKind.max,r6,r7]at h;simp at h;omega
end Go.VI
namespace Go.VI
set_option maxRecDepth 100000
set_option maxHeartbeats 40000000
set_option linter.unusedVariables false
set_option linter.unusedSimpArgs false
set_option linter.defProp false
section
variable{E:Env}{aJ:dy}{H:aa}
def dd(E:Env)(aJ:dy)(f:FuncId)(hA:List U)(H1:aa):Option (U×aa):=
 let aV:=reach H1 64 (bx hA) []
 let D1:=bt aV
 match eV E aJ f (cx D1 hA) (aV.map λ c=>((H1[c]?).map (Chunk.cI D1)).getD (.iter [] 0))with
 |none=>none
 |some (r,L)=>if L.length<aV.length then none else
  let K:=(reach L 64 (bc r++(L.take aV.length).flatMap Chunk.refs) []).filter λ i=>decide (aV.length≤i)
  let back:=df aV H1.length K
  some (co back r,ea H1 aV ((L.take aV.length).map (Chunk.cI back))++K.map λ i=>((L[i]?).map (Chunk.cI back)).getD (.iter [] 0))
def sX(E:Env)(aJ:dy)(f:FuncId):Option (List U×aa)→Option (U×aa)
 |some (bE,H1)=>dd E aJ f bE H1
 |none=>none
def aqL(f:FuncId)(bE:List U)(H1:aa):sX E aJ f (some (bE,H1))=dd E aJ f bE H1:=rfl
def vy{f:FuncId}(args:List U):k9 E aJ f args H=sX E aJ f (iV E f H args):=by
 unfold k9;cases iV E f H args with
 |none=>rfl
 |some x=>rfl
def gY{g:Nat}{bE:List U}{r:U}(he:E.ext g=none)(ah:bx bE=[])(ij:bc r=[])(ag:∃L,aJ g bE []=some (r,L)):dd E aJ g bE H=some (r,H):=by
 obtain⟨L,ag⟩:=ag;have j:=(fU (bt [])).2 bE ah;have I:∀aS,co aS r=r:=λ aS=>(fU aS).1 r ij
 unfold dd;simp[eV,he,ah,reach,j,ag,ij,I,ea]
def Fz{f:FuncId}{h:List U→List Chunk→Option (U×List Chunk)}(he:E.ext f=some h)(bE:List U):dd E aJ f bE H=dd {E with ext:=λ _=>none} (λ _=>h) f bE H:=by unfold dd eV;rw[he]
def Cc(H:aa)(aV:List Nat)(r:U)(L:aa)(K:List Nat):Option (U×aa):=
 some (co (df aV H.length K) r,ea H aV ((L.take aV.length).map (Chunk.cI (df aV H.length K)))++K.map λ i=>((L[i]?).map (Chunk.cI (df aV H.length K))).getD (.iter [] 0))
def Oy(H:aa)(aV:List Nat):Option (U×aa)→Option (U×aa)
 |none=>none
 |some (r,L)=>if L.length<aV.length then none else Cc H aV r L ((reach L 64 (bc r++(L.take aV.length).flatMap Chunk.refs) []).filter λ i=>decide (aV.length≤i))
def Cd(E:Env)(aJ:dy)(f:FuncId)(bE:List U)(H:aa)(aV:List Nat):Option (U×aa):=Oy H aV (aJ f (cx (bt aV) bE) (aV.map λ c=>((H[c]?).map (Chunk.cI (bt aV))).getD (.iter [] 0)))
def Ji{f:FuncId}(he:E.ext f=none)(bE:List U):dd E aJ f bE H=Cd E aJ f bE H (reach H 64 (bx bE) []):=by unfold dd Cd Oy;simp only[eV,he];generalize aJ f _ _=q;cases q<;>rfl
def Jj(aV:List Nat)(r:U)(L:aa):Oy H aV (some (r,L))=if L.length<aV.length then none else Cc H aV r L ((reach L 64 (bc r++(L.take aV.length).flatMap Chunk.refs) []).filter λ i=>decide (aV.length≤i)):=rfl
def Oz(aS:Nat→Option Nat):∀es:List (aC×U),wG es=[]→yG aS es=es
 |[],_=>rfl
 |p::r,h=>by simp only[wG,OA]at h;simp only[yG,(fU aS).1 p.2 h.1,Oz aS r h.2]
def r8{L:aa}{c:Nat}{x:Chunk}(h:L[c]?=some x)(ak:x.refs=[]):reach L 64 [c] []=[c]:=by
 have al:¬L.length≤c:=by have:=(bF.1 h).1;omega
 simp[reach,h,ak,al]
def vz{g:Nat}{bE:List U}{c nU ai n:Nat}{x:Chunk}(he:E.ext g=none)(ah:bx bE=[])(ak:x.refs=[])(ag:∃L,aJ g bE []=some (.ref c nU ai n,L)∧L[c]?=some x):
  dd E aJ g bE H=some (.ref H.length nU ai n,H++[x]):=by
 obtain⟨L,ag,e_⟩:=ag;have j:=(fU (bt [])).2 bE ah;have lV:∀aS,x.cI aS=x:=by
  intro aS;cases x with
  |box cells=>exact congrArg Chunk.box ((fU aS).2 cells ak)
  |cY t cells=>exact congrArg (Chunk.cY t) ((fU aS).2 cells ak)
  |map es=>exact congrArg Chunk.map (Oz aS es ak)
  |_=>rfl
 have dj:=r8 e_ ak;unfold dd;rw[ah];simp only[eV,he,reach,j,fm,ag,dr,q8,if_false,mQ,r9,c8,bc,dj];simp[co,df,bt,e_,lV,ea]
end
def Wo(E:Env)(t t2:TypeId):Option Nat:=
 match e0 E.P t with
 |some e=>match fG E.P e,tl E.P e,kG E.P e with
  |some z,some b,some dX=>if 0<z∧b≤65536∧((e0 E.P t2).isSome=true∨hx E.P t2=true)∧(cw dX).length=z∧(cw dX).all one=true then some z else none
  |_,_,_=>none
 |none=>none
def FA(z:Nat)(H:aa)(c g off len:Nat)(new:List (List aC)):Option Chunk→Option (U×aa)
 |some (.sl aw aU rows ex)=>if g=aU∧off=0∧aw=z∧len+new.length<1073741824 then
  some (.ref c (g+1) 0 (len+new.length),H.set c (.sl z (g+1) (rows.take len++new) (ex &&rows.isEmpty &&new.isEmpty)))else none
 |some (.bj aw aU rows ex)=>if g=aU∧off=0∧aw=z∧ex=true∧len=rows.length∧new≠[]∧len+new.length<1073741824 then
  some (.ref H.length 0 0 (len+new.length),H++[.sl z 0 (rows++new) false])else none
 |_=>none
def Ce(z:Nat)(H:aa)(new:List (List aC)):U→Option (U×aa)
 |.i (.sl aw rows ex)=>if ex=true∧(rows=[]∨(aw=z∧new≠[]))∧rows.length+new.length<1073741824 then
  some (.ref H.length 0 0 (rows.length+new.length),H++[.sl z 0 (rows++new) (rows.isEmpty &&new.isEmpty)])else none
 |.ref c g off len=>FA z H c g off len new H[c]?
 |_=>none
def sY(z:Nat)(H:aa)(s:U):Option (Nat×List (List aC)×Bool)→Option (U×aa)
 |some (c_,new,_)=>if new=[]∨c_=z then Ce z H new s else none
 |none=>none
def xC{E:Env}{t t2 z:Nat}(h:Wo E t t2=some z)(H:aa)(s x:U):hz E H t t2 s x=sY z H s (kL H x):=by
 unfold Wo at h;split at h
 ·rename_i e he;split at h
  ·rename_i fl b dX j I av;split at h
   ·rename_i ag;cases h;unfold hz;rw[he];simp only[j,I,av];cases ak:kL H x with
    |none=>rfl
    |some y=>
     obtain⟨c_,new,EM⟩:=y;simp only[sY];by_cases aE:new=[]∨c_=z
     ·rw[if_pos aE,if_pos ⟨aE,ag⟩];cases s with
      |i x=>cases x<;>rfl
      |ref c g off len=>
       simp only[Ce];cases H[c]? with
       |none=>rfl
       |some b6=>cases b6<;>rfl
      |_=>rfl
     ·rw[if_neg aE,if_neg (λ h=>aE h.1)]
   ·cases h
  ·cases h
 ·cases h
def tZ(z:Nat)(H:aa):U→Option (Nat×List (List aC)×Bool)→Option (U×aa)
 |.ref c g off len,some (c_,new,_)=>if new=[]∨c_=z then yD z g off len new H c H[c]? else none
 |_,_=>none
def zL{E:Env}{t e z:Nat}(j:e0 E.P t=some e)(I:fG E.P e=some z)(av:0<z)(H:aa)(d x:U):nc E H t d x=tZ z H d (hH H x):=by
 unfold nc tZ;rw[j];simp only[I];cases d<;>cases hH H x<;>first|rfl|simp only[av,and_true]
def aqM(z:Nat)(H:aa)(c g off len c_:Nat)(new:List (List aC))(ex:Bool):tZ z H (.ref c g off len) (some (c_,new,ex))=if new=[]∨c_=z then yD z g off len new H c H[c]? else none:=rfl
def aqN(z g off len:Nat)(new:List (List aC))(H:aa)(c aw aU:Nat)(rows:List (List aC))(ex:Bool):yD z g off len new H c (some (.sl aw aU rows ex))=if g=aU∧aw=z then
 some (.int .i64 (min new.length len:Nat),H.set c (.sl z aU (rows.take off++(new.take len++rows.drop (off+min new.length len))) ex))else none:=rfl
def Jk(E:Env)(t:TypeId):Option (Nat×List U×List (Option Nat)):=
 match e0 E.P t with
 |some e=>match fG E.P e,kG E.P e with
  |some z,some zero=>if(cw zero).length=z∧0<z∧(cw zero).all one=true then some (z,cw zero,E.kinds e)else none
  |_,_=>none
 |none=>none
def OB(br:List (Option Nat))(z n:Nat):Option (List aC×aa)→Option (U×aa)
 |some (xs,H1)=>some (.ref H1.length 0 0 n,H1++[.sl z 0 (o5 z n (hO (cB n br).flatten xs)) true])
 |none=>none
def r_(br:List (Option Nat))(z n:Nat)(H:aa):Option (List U)→Option (U×aa)
 |some cells=>OB br z n (fC H cells)
 |none=>none
def vA{E:Env}{t z:Nat}{lg:List U}{br:List (Option Nat)}(h:Jk E t=some (z,lg,br))(H:aa)(n:Nat)(aE:n*z≤16777216)(parts:List (Nat×U)):
  k8 E H t n parts=r_ br z n H (fX z (cB n lg).flatten parts):=by
 unfold Jk at h;split at h
 ·rename_i e he;split at h
  ·rename_i fl zero j I;split at h
   ·rename_i ag;cases h;unfold k8;rw[he];simp only[j,I];rw[if_pos ⟨aE,ag⟩];cases fX z (cB n (cw zero)).flatten parts with
    |none=>rfl
    |some cells=>
     simp only[r_];cases fC H cells with
     |none=>rfl
     |some y=>rfl
   ·cases h
  ·cases h
 ·cases h
def r':Option (List U)→List Nat
 |some c=>bx c
 |none=>[]
def aqO(c:List U):r' (some c)=bx c:=rfl
def vB{E:Env}{t z:Nat}{lg:List U}{br:List (Option Nat)}(h:Jk E t=some (z,lg,br))(n:Nat)(parts:List (Nat×U)):
  nE E t n parts=r' (fX z (cB n lg).flatten parts):=by
 unfold Jk at h;split at h
 ·rename_i e he;split at h
  ·rename_i fl zero j I;split at h
   ·rename_i ag;cases h;unfold nE r';rw[he];simp only[j,I];cases fX z (cB n (cw zero)).flatten parts<;>rfl
   ·cases h
  ·cases h
 ·cases h
def aqP(br:List (Option Nat))(z n:Nat)(H:aa)(cells:List U):r_ br z n H (some cells)=OB br z n (fC H cells):=rfl
def aqQ(br:List (Option Nat))(z n:Nat)(xs:List aC)(H1:aa):OB br z n (some (xs,H1))=some (.ref H1.length 0 0 n,H1++[.sl z 0 (o5 z n (hO (cB n br).flatten xs)) true]):=rfl
def aqR(z c_:Nat)(H:aa)(s:U)(new:List (List aC))(e:Bool):sY z H s (some (c_,new,e))=if new=[]∨c_=z then Ce z H new s else none:=rfl
def aqS(z:Nat)(H:aa)(new:List (List aC))(c g off len:Nat):Ce z H new (.ref c g off len)=FA z H c g off len new H[c]?:=rfl
def aqT(z:Nat)(H:aa)(new:List (List aC))(aw:Nat)(rows:List (List aC))(ex:Bool):Ce z H new (.i (.sl aw rows ex))=if ex=true∧(rows=[]∨(aw=z∧new≠[]))∧rows.length+new.length<1073741824 then
 some (.ref H.length 0 0 (rows.length+new.length),H++[.sl z 0 (rows++new) (rows.isEmpty &&new.isEmpty)])else none:=rfl
def aqU(z:Nat)(H:aa)(c g off len:Nat)(new:List (List aC))(aw aU:Nat)(rows:List (List aC))(ex:Bool):FA z H c g off len new (some (.sl aw aU rows ex))=if g=aU∧off=0∧aw=z∧len+new.length<1073741824 then
 some (.ref c (g+1) 0 (len+new.length),H.set c (.sl z (g+1) (rows.take len++new) (ex &&rows.isEmpty &&new.isEmpty)))else none:=rfl
def aqV(z:Nat)(H:aa)(c g off len:Nat)(new:List (List aC))(aw aU:Nat)(rows:List (List aC))(ex:Bool):FA z H c g off len new (some (.bj aw aU rows ex))=if g=aU∧off=0∧aw=z∧ex=true∧len=rows.length∧new≠[]∧len+new.length<1073741824 then
 some (.ref H.length 0 0 (len+new.length),H++[.sl z 0 (rows++new) false])else none:=rfl
def aqW(H:aa)(l:List UInt8):kL H (.i (.str l))=some (1,l.map λ b=>[aC.v (.int .u8 b.toNat)],true):=rfl
def aqX(H:aa)(aw:Nat)(rows:List (List aC))(ex:Bool):kL H (.i (.sl aw rows ex))=some (aw,rows,ex):=rfl
def Jl(g off len:Nat):Option Chunk→Option (Nat×List (List aC)×Bool)
 |some (.sl aw aU rows ex)=>if g=aU then some (aw,(rows.drop off).take len,ex &&decide (off+len=rows.length))else none
 |some (.bj aw aU rows ex)=>if g=aU then some (aw,(rows.drop off).take len,ex &&decide (off+len=rows.length))else none
 |_=>none
def aqY(H:aa)(c g off len:Nat):kL H (.ref c g off len)=Jl g off len H[c]?:=by
 simp only[kL,hH];cases H[c]? with
 |none=>rfl
 |some x=>cases x<;>rfl
def aqZ(g off len aw aU:Nat)(rows:List (List aC))(ex:Bool):Jl g off len (some (.sl aw aU rows ex))=if g=aU then some (aw,(rows.drop off).take len,ex &&decide (off+len=rows.length))else none:=rfl
def aq0(g off len aw aU:Nat)(rows:List (List aC))(ex:Bool):Jl g off len (some (.bj aw aU rows ex))=if g=aU then some (aw,(rows.drop off).take len,ex &&decide (off+len=rows.length))else none:=rfl
def Wp:Option U→Option (List U)→Option (List U)
 |some a,some bE=>some (a::bE)
 |_,_=>none
def Jm:Option (List U)→Option U
 |some [a]=>some a
 |some bE=>some (.bd bE)
 |none=>none
def aq1(a:U)(bE:List U):Wp (some a) (some bE)=some (a::bE):=rfl
def aq2:Jm (some [])=some (.bd []):=rfl
def aq3(a:U):Jm (some [a])=some a:=rfl
def aq4(a b:U)(l:List U):Jm (some (a::b::l))=some (.bd (a::b::l)):=rfl
section
variable{E:Env}{J:Fr}{H:aa}
def aq5(l:List ResultVar):wH E J H l=Jm (qA E J H l):=by
 unfold wH;cases qA E J H l with
 |none=>rfl
 |some bE=>cases bE with
  |nil=>rfl
  |cons a bE=>cases bE<;>rfl
def aq6:qA E J H []=some []:=rfl
def aq7(r:ResultVar)(l:List ResultVar):qA E J H (r::l)=Wp (yH E J H r) (qA E J H l):=by simp only[qA];cases yH E J H r<;>cases qA E J H l<;>rfl
def aq8(t:Nat):yH E J H (.tmp t)=some (get t J):=rfl
def aq9(a t:Nat):yH E J H (.cell a t)=tm E H t (get a J):=rfl
end
def Wq(E:Env)(t:TypeId):Option (Nat×List aC):=
 match e0 E.P t with
 |some e=>match fG E.P e,Hm E e,tl E.P e with
  |some z,some row,some b=>if row.length=z∧0<z∧b≤65536 then some (z,hO (E.kinds e) row)else none
  |_,_,_=>none
 |none=>none
def vC{E:Env}{t z:Nat}{row:List aC}(h:Wq E t=some (z,row))(H:aa)(k dx:IntKind)(n m:Int):
  jg E H t (.i (.v (.int k n))) (.i (.v (.int dx m)))=if 0≤n∧n=m∧n<1073741824 then some (.ref H.length 0 0 n.toNat,H++[.sl z 0 (cB n.toNat row) true])else if n=0∧0<m∧m<1073741824 then some (.ref H.length 0 0 0,H++[.sl z 0 [] false])else none:=by
 unfold Wq at h;split at h
 ·rename_i e he;split at h
  ·rename_i z0 aQG b j I av;split at h
   ·rename_i ag;cases h;unfold jg;simp only[he,j,I,av];obtain⟨b_,ca,c3⟩:=ag;by_cases aE:0≤n∧n=m∧n<1073741824
    ·rw[if_pos aE,if_pos ⟨aE.1,aE.2.1,aE.2.2,b_,ca,c3⟩]
    ·rw[if_neg aE,if_neg (λ h=>aE ⟨h.1,h.2.1,h.2.2.1⟩)];by_cases aE:n=0∧0<m∧m<1073741824
     ·rw[if_pos aE,if_pos ⟨aE.1,aE.2.1,aE.2.2,b_,ca,c3⟩]
     ·rw[if_neg aE,if_neg (λ h=>aE ⟨h.1,h.2.1,h.2.2.1⟩)]
   ·cases h
  ·cases h
 ·cases h
def mq:Option (List U)→Option U
 |some c=>some (.agg c)
 |none=>none
def aq_(c:List U):mq (some c)=some (.agg c):=rfl
def OC{E:Env}{t n e z:Nat}{lg:List U}(aW:kG E.P t=some (.agg lg))(j:uD E.P t=some (n,e))(I:fG E.P e=some z)(parts:List (Nat×U)):jU E t parts=mq (fX z lg parts):=by unfold jU;rw[aW];simp only[j,I];cases fX z lg parts<;>rfl
def qc{E:Env}{t:Nat}{lg:List U}{pl:List (Nat×Nat)}(aW:kG E.P t=some (.agg lg))(j:uD E.P t=none)(I:Hh E.P t=some pl)(parts:List (Nat×U)):jU E t parts=mq (jw pl lg parts):=by unfold jU;rw[aW];simp only[j,I];cases jw pl lg parts<;>rfl
def Wr(pl:List (Nat×Nat))(cells:List U)(v:U)(r:List (Nat×U)):Option (Nat×Nat)→Option (List U)
 |some (off,z)=>if(cw v).length=z∧off+z≤cells.length∧(cw v).all one=true then jw pl (o3 cells off (cw v)) r else none
 |none=>none
def aq'(pl:List (Nat×Nat))(cells:List U):jw pl cells []=some cells:=rfl
def ara(pl:List (Nat×Nat))(cells:List U)(i:Nat)(v:U)(r:List (Nat×U)):jw pl cells ((i,v)::r)=Wr pl cells v r pl[i]?:=by simp only[jw];cases pl[i]?<;>rfl
def arb(pl:List (Nat×Nat))(cells:List U)(v:U)(r:List (Nat×U))(off z:Nat):Wr pl cells v r (some (off,z))=if(cw v).length=z∧off+z≤cells.length∧(cw v).all one=true then jw pl (o3 cells off (cw v)) r else none:=rfl
def OD(n c g k:Nat)(H1:aa)(xs:List aC)(aw r:Nat)(rows:List (List aC))(ex:Bool):Option (List aC)→Option aa
 |some row=>some (H1.set c (.sl aw g (rows.set r (row.take k++xs++row.drop (k+n))) ex))
 |none=>none
def Jn(n c g r k:Nat)(H1:aa)(xs:List aC):Option Chunk→Option aa
 |some (.sl aw aU rows ex)=>if g=aU∧k+n≤aw then OD n c aU k H1 xs aw r rows ex rows[r]? else none
 |_=>none
def Jo(br:List (Option Nat))(n c g r k:Nat):Option (List aC×aa)→Option aa
 |some (xs,H1)=>Jn n c g r k H1 (hO br xs) H1[c]?
 |none=>none
def FB(br:List (Option Nat))(n:Nat)(H:aa)(c g r k:Nat)(dA:List U):Option Chunk→Option aa
 |some (.box cells)=>if k+n≤cells.length then some (H.set c (.box (o3 cells k dA)))else none
 |some (.sl ..)=>Jo br n c g r k (fC H dA)
 |_=>none
def hS{E:Env}{t n:Nat}(h:fG E.P t=some n)(H:aa)(c g r k:Nat)(v:U):
  nD E H t (.ptr c g r k) v=if(cw v).length=n∧(cw v).all one=true then FB (E.kinds t) n H c g r k (cw v) H[c]? else none:=by
 unfold nD;rw[h];simp only;split
 ·cases H[c]? with
  |none=>rfl
  |some x=>
   cases x with
   |sl aw aU rows ex=>
    simp only[FB];cases fC H (cw v)with
    |none=>rfl
    |some y=>
     obtain⟨xs,H1⟩:=y;simp only[Jo];cases H1[c]? with
     |none=>rfl
     |some x=>
      cases x with
      |sl aw aU rows ex=>
       simp only[Jn];split
       ·cases rows[r]?<;>rfl
       ·rfl
      |_=>rfl
   |_=>rfl
 ·rfl
def arc(br:List (Option Nat))(n:Nat)(H:aa)(c g r k:Nat)(dA cells:List U):FB br n H c g r k dA (some (.box cells))=if k+n≤cells.length then some (H.set c (.box (o3 cells k dA)))else none:=rfl
def ard(br:List (Option Nat))(n:Nat)(H:aa)(c g r k:Nat)(dA:List U)(aw aU:Nat)(rows:List (List aC))(ex:Bool):FB br n H c g r k dA (some (.sl aw aU rows ex))=Jo br n c g r k (fC H dA):=rfl
def are(br:List (Option Nat))(n c g r k:Nat)(xs:List aC)(H1:aa):Jo br n c g r k (some (xs,H1))=Jn n c g r k H1 (hO br xs) H1[c]?:=rfl
def arf(n c g r k:Nat)(H1:aa)(xs:List aC)(aw aU:Nat)(rows:List (List aC))(ex:Bool):Jn n c g r k H1 xs (some (.sl aw aU rows ex))=if g=aU∧k+n≤aw then OD n c aU k H1 xs aw r rows ex rows[r]? else none:=rfl
def arh(n c g k:Nat)(H1:aa)(xs:List aC)(aw r:Nat)(rows:List (List aC))(ex:Bool)(row:List aC):OD n c g k H1 xs aw r rows ex (some row)=some (H1.set c (.sl aw g (rows.set r (row.take k++xs++row.drop (k+n))) ex)):=rfl
def ari{α:Type}(l:List α)(a b:α):(l++[a]).set l.length b=l++[b]:=by simp
def arj(J:Fr):norm [] J=[]:=rfl
def ark(k:Nat)(l:List Nat)(J:Fr):norm (k::l) J=(k,get k J)::norm l J:=rfl
noncomputable def ej(E:Env)(B:Nat)(f:FuncId)(c:Code)(J:Fr)(H:aa):Option (eC×Fr×aa):=
 match c with
 |.loop c=>vp (fN E B f (.loop c)) (fN E B f c J H)
 |_=>none
noncomputable def vD(E:Env)(B:Nat)(f:FuncId)(c:Code)(p:Fr×aa):Option (eC×Fr×aa):=ej E B f c p.1 p.2
noncomputable def OE(E:Env)(B:Nat)(f:FuncId)(c:Code)(aM:List Nat)(z:List (Nat×Nat))(J:Fr)(H:aa):Option (eC×Fr×aa):=vD E B f c (o8 B (norm aM (qw z J H).1) (qw z J H).2)
def arl(E:Env)(B:Nat)(f:FuncId)(c:Code)(aM:List Nat)(z:List (Nat×Nat))(J:Fr)(H:aa):OE E B f c aM z J H=vD E B f c (o8 B (norm aM (qw z J H).1) (qw z J H).2):=rfl
section
variable{E:Env}{B:Nat}{f:FuncId}{fn:Func}{k:Nat}{c:Code}{aM:List Nat}
def zM(c:Code)(J:Fr)(H:aa):vD E B f c (J,H)=ej E B f c J H:=rfl
def zN(ag:fg fn k=.loop c)(hm:E.wx f ((fE c).getD 0)=[])(aj:E.wy f ((fE c).getD 0)=[])(bf:E.wz f ((fE c).getD 0)=[])(aN:E.head f ((fE c).getD 0)=aM)(J:Fr)(H:aa):fN E B f (.loop c) J H=vD E B f (fg fn k) (o8 B (norm aM J) H):=by unfold vD ej;rw[ag,VY];simp only[oe,hm,aj,bf,aN,V7,V8,V9]
def arm{m:List (Nat×Nat)}{Jp:List (Nat×Nat×Nat)}{z:List (Nat×Nat)}(ag:fg fn k=.loop c)(hm:E.wx f ((fE c).getD 0)=m)(aj:E.wy f ((fE c).getD 0)=Jp)(bf:E.wz f ((fE c).getD 0)=z)(aN:E.head f ((fE c).getD 0)=aM)(J:Fr)(H:aa):
  fN E B f (.loop c) J H=OE E B f (fg fn k) aM z (rD m J H).1 (uJ Jp (rD m J H).1 (rD m J H).2):=by
 unfold OE vD ej;rw[ag,VY];simp only[oe,hm,aj,bf,aN]
def arn(ag:fg fn k=.loop c)(J:Fr)(H:aa):ej E B f (fg fn k) J H=vp (fN E B f (.loop c)) (fN E B f c J H):=by unfold ej;rw[ag]
end
def Jq{B:Nat}{H:aa}(h:B≤H.length)(J:Fr):gc B J H=yJ (o7 B J H) J H:=by unfold gc;rw[if_pos h]
def aro(k:Nat):(k:Int)+1=((k+1:Nat):Int):=rfl
def arp{n:Int}(j:-128≤n)(I:n≤127):IntKind.i8.wrap n=n:=by simp only[sZ,r6,r7,jJ,ge_iff_le,decide_eq_true_eq];split<;>omega
def arq{n:Int}(j:0≤n)(I:n≤255):t_.wrap n=n:=by simp only[sZ,r6,r7,lo,fF,if_false];omega
def arr{n:Int}(j:-32768≤n)(I:n≤32767):IntKind.i16.wrap n=n:=by simp only[sZ,r6,r7,jJ,ge_iff_le,decide_eq_true_eq];split<;>omega
def ars{n:Int}(j:0≤n)(I:n≤65535):IntKind.u16.wrap n=n:=by simp only[sZ,r6,r7,lo,fF,if_false];omega
def Ws{n:Int}(j:-2147483648≤n)(I:n≤2147483647):sa.wrap n=n:=by simp only[sZ,r6,r7,jJ,ge_iff_le,decide_eq_true_eq];split<;>omega
def art{n:Int}(j:0≤n)(I:n≤4294967295):Jr.wrap n=n:=by simp only[sZ,r6,r7,lo,fF,if_false];omega
def Wt{n:Int}(j:-9223372036854775808≤n)(I:n≤9223372036854775807):nK.wrap n=n:=by simp only[sZ,r6,r7,jJ,ge_iff_le,decide_eq_true_eq];split<;>omega
def Wu{n:Int}(j:0≤n)(I:n≤18446744073709551615):IntKind.u64.wrap n=n:=by simp only[sZ,r6,r7,lo,fF,if_false];omega
def aru{a b:Int}(h:a<b):(a<b)=True:=eq_true h
def arv{a b:Int}(h:b≤a):(a<b)=False:=eq_false R
def arw{a b:Int}(h:a≤b):(a≤b)=True:=eq_true h
def arx{a b:Int}(h:b<a):(a≤b)=False:=eq_false R
def ary{a b:Int}(h:¬a=b):(a=b)=False:=eq_false h
def arz{a b:Int}(h:a=b):(a=b)=True:=eq_true h
def arA{a b:Nat}(h:a<b):(a<b)=True:=eq_true h
def arB{a b:Nat}(h:b≤a):(a<b)=False:=eq_false R
def arC{a b:Nat}(h:a≤b):(a≤b)=True:=eq_true h
def arD{a b:Nat}(h:b<a):(a≤b)=False:=eq_false R
def vE:List U→aa→Option (U×aa)
 |[.i (.str s),.i (.v (.int .u8 b))],H=>some (.i (.v (.int .i64 (Js s b.toNat.toUInt8))),H)
 |_,_=>none
def oK:List aC:=sb.map λ z=>.v (.int .u64 z)
def OF(P:Program):Env:={P:=P,kg:=λ _ _=>[],head:=λ _ _=>[],dL:=λ _ _=>[],qs:=λ _ _=>false,e4:=λ _=>none,yx:=λ _=>false,seq:=λ _=>none,ext:=λ _=>none,kinds:=λ _=>[],gF:=λ _=>[],lA:=λ _=>[],own:=λ _=>false,wx:=λ _ _=>[],wy:=λ _ _=>[],wz:=λ _ _=>[]}
def Wv(E:Env):hz (OF E.P)=hz E:=rfl
def zO(P:Program)(t t2:TypeId):List U→aa→Option (U×aa)
 |[s,.i (.v (.int .i64 n)),.i (.v (.int .i64 b))],H=>if b=10∧0≤n∧n≤9223372036854775807 then hz (OF P) H t t2 s (.i (.str (nq n.toNat)))else none
 |_,_=>none
def lW(z:Nat):List U→aa→Option (U×aa)
 |[.i (.sl c_ rows _)],H=>if c_=z∧rows.length≤1000000000 then some (.ref H.length 0 0 rows.length,H++[.sl z 0 rows false])else none
 |_,_=>none
def OG(z:Nat):Option (Nat×List bT×aa)→Option (U×aa)
 |some (_,new,H1)=>if new.length≤1000000000 then some (.x (.d H1.length 0 0 new.length),H1++[.az z 0 0 new])else none
 |none=>none
def s0(z:Nat):List U→aa→Option (U×aa)
 |[.i (.sl c_ rows _)],H=>if c_=1∧rows.length≤1000000000 then some (.x (.d H.length 0 0 rows.length),H++[.az z 0 0 (rows.map pR)])else none
 |[.x (.d c g ai n)],H=>OG z (lC z H (.x (.d c g ai n)))
 |_,_=>none
def Cf(a b s:Int):Bool:=(a==66||a==48) &&(b==66||b==48) &&(s==0||s==1)
def xD:List U→aa→Option (U×aa)
 |[.agg [.i (.v (.int .u8 a)),.i (.v (.int .u8 b))],.i (.v (.int .i64 s))],H=>some (.i (.v (.bool (Cf a b s))),H)
 |_,_=>none
def xE:List U→aa→Option (U×aa)
 |[.i (.v (.int .i64 n))],H=>if-9223372036854775808≤n∧n≤9223372036854775807 then some (.i (.str (zP n)),H)else none
 |_,_=>none
def qd(z:Nat):List U→aa→Option (U×aa)
 |[.i (.sl _ [] true),.i (.v (.int .i64 n))],H=>if 0≤n∧n≤1000000 then some (.ref H.length 0 0 0,H++[.sl z 0 [] false])else none
 |_,_=>none
def xF:List U→aa→Option (U×aa)
 |[.i (.str s)],H=>if s.length≤9223372036854775807 then some (.i (.v (.bool (Lib.validD s))),H)else none
 |_,_=>none
def Ww(c:Nat):Int:=if c<128 then 240 else if c<194 then 241 else if c<224 then 2 else if c=224 then 19 else if c<237 then 3 else if c=237 then 35 else if c<240 then 3 else if c=240 then 52 else if c<244 then 4 else if c=244 then 68 else 241
def vF:List aC:=(g' 256).map λ c=>.v (.int .u8 (Ww c))
def vG:List aC:=([128,191,160,191,128,159,144,191,128,143]++cB 22 (0:Int)).map λ n=>.v (.int .u8 n)
def FC:List aC:=[1,2,3,4,5,7,8,9].map λ n=>.v (.int .i64 n)
def sc(E:Env)(f:FuncId)(h:List U→aa→Option (U×aa)):Prop:=∀args H r an,h args H=some (r,an)→∀ad ab w vs,b5 E ad ab H w→ow ad ab H args vs→
 Calls E.P f vs w λ e aq=>∃x,e=.returned x∧ci E ad ab H w an aq λ aL aB=>a6 aL aB an r x
def OH{ad:b'}{ab:b8}{H:aa}{a b:U}{vs:Array Value}(h:ow ad ab H [a,b] vs):∃x y,vs=#[x,y]∧a6 ad ab H a x∧a6 ad ab H b y:=by
 obtain⟨aR,ah⟩:=h;obtain⟨l⟩:=vs
 match l,aR with
 |[x,y],_=>exact⟨x,y,rfl,ah 0 a rfl,ah 1 b rfl⟩
def arE{E:Env}{f:FuncId}(ag:∀(s:ByteArray) (c:Int) (w:World),Calls E.P f #[.string s,.int .u8 c] w λ e aq=>e=.returned (.int .i64 (Js s.data.toList c.toNat.toUInt8))∧aq=w):sc E f vE:=by
 intro args H r an ah ad ab w vs ap bY;unfold vE at ah;split at ah
 ·rename_i s b;cases ah;obtain⟨x,y,rfl,j,I⟩:=OH bY;obtain rfl:=p0 j;obtain rfl:=fv I;refine(ag ⟨⟨s⟩⟩ b w).mono λ e aq ⟨j,I⟩=>?_
  subst I;exact⟨_,j,ci.refl ap (.i _ _ (.v _ rfl))⟩
 ·cases ah
def OI{E:Env}{aJ:dy}{f:FuncId}{h:List U→aa→Option (U×aa)}(he:E.ext f=some h){bE:List U}{H:aa}{r:U}(ah:bx bE=[])(ij:bc r=[])(ag:∃L,h bE []=some (r,L)):dd E aJ f bE H=some (r,H):=by rw[Fz he];exact gY (E:={E with ext:=λ _=>none}) rfl ah ij ag
def arF{ad:b'}{ab:b8}{H:aa}{a b c:U}{vs:Array Value}(h:ow ad ab H [a,b,c] vs):∃x y z,vs=#[x,y,z]∧a6 ad ab H a x∧a6 ad ab H b y∧a6 ad ab H c z:=by
 obtain⟨aR,ah⟩:=h;obtain⟨l⟩:=vs
 match l,aR with
 |[x,y,z],_=>exact⟨x,y,z,rfl,ah 0 a rfl,ah 1 b rfl,ah 2 c rfl⟩
def Wx(b:Bool)(x y:Option (eC×Fr×aa)):vq (.i (.v (.bool b))) x y=if b=true then x else y:=by cases b<;>rfl
def Wy(p:Prop) [Decidable p](a b:Option (eC×Fr×aa)):vq (.i (.v (.bool (decide (¬p))))) a b=if p then b else a:=by by_cases h:p<;>simp[h,vq]
def arG(P:Program)(op:BinOp)(t:TypeId)(k dx:IntKind)(a b:Int):jS P op t (.i (.v (.int k a))) (.i (.v (.int dx b)))=lB op k a dx b:=rfl
def arH(P:Program)(op:BinOp)(t:TypeId)(a b:List UInt8):jS P op t (.i (.str a)) (.i (.str b))=sv op a b:=rfl
def arI(P:Program)(t:TypeId)(a b:Bool):jS P .eql t (.i (.v (.bool a))) (.i (.v (.bool b)))=(iS P t (.i (.v (.bool a))) (.i (.v (.bool b)))).map .bool:=rfl
def arJ(P:Program)(t:TypeId)(a b:Bool):jS P .neq t (.i (.v (.bool a))) (.i (.v (.bool b)))=(iS P t (.i (.v (.bool a))) (.i (.v (.bool b)))).map λ b=>.bool (!b):=rfl
def arK(P:Program)(t:TypeId)(c g r k:Nat):jS P .eql t (.ptr c g r k) (.i (.v (.pointer none)))=(iS P t (.ptr c g r k) (.i (.v (.pointer none)))).map .bool:=rfl
def arL(P:Program)(t:TypeId)(c g r k:Nat):jS P .neq t (.ptr c g r k) (.i (.v (.pointer none)))=(iS P t (.ptr c g r k) (.i (.v (.pointer none)))).map λ b=>.bool (!b):=rfl
def arM(P:Program)(t:TypeId)(c:List aC)(ai:Nat):jS P .eql t (.i (.gd c ai)) (.i (.v (.pointer none)))=(iS P t (.i (.gd c ai)) (.i (.v (.pointer none)))).map .bool:=rfl
def arN(P:Program)(t:TypeId)(c:List aC)(ai:Nat):jS P .neq t (.i (.gd c ai)) (.i (.v (.pointer none)))=(iS P t (.i (.gd c ai)) (.i (.v (.pointer none)))).map λ b=>.bool (!b):=rfl
def arO(P:Program)(t:TypeId):jS P .eql t (.i (.v (.pointer none))) (.i (.v (.pointer none)))=(iS P t (.i (.v (.pointer none))) (.i (.v (.pointer none)))).map .bool:=rfl
def arP(P:Program)(t:TypeId):jS P .neq t (.i (.v (.pointer none))) (.i (.v (.pointer none)))=(iS P t (.i (.v (.pointer none))) (.i (.v (.pointer none)))).map λ b=>.bool (!b):=rfl
def Wz(P:Program)(t:TypeId)(a b:List U):jS P .eql t (.agg a) (.agg b)=(iS P t (.agg a) (.agg b)).map .bool:=rfl
def FD(P:Program)(t:TypeId)(a b:List U):jS P .neq t (.agg a) (.agg b)=(iS P t (.agg a) (.agg b)).map λ b=>.bool (!b):=rfl
section
variable{E:Env}{aJ:dy}{ops:List Oper}{J:Fr}{H:aa}
def WA(dst:Option Nat)(op:Op)(r:List Oper)(b:Bool):vv E aJ ops dst op r J H (some b)=if b=true then zH E aJ ops dst r J (cd E aJ op J H)else ih E aJ ops r (dH dst (.bd []) J) H:=by cases b<;>rfl
def WB(dst:Option Nat)(op:Op)(r:List Oper)(b:Bool):tY E aJ ops dst op r J H (some b)=if b=true then vw E aJ ops dst op r J H (cd E aJ op J H)else mo [] (hP E aJ ops r (dH dst (.bd []) J) H):=by cases b<;>rfl
def WC(dst:Option Nat)(op:Op)(r:List Oper)(p:Prop) [Decidable p]:vv E aJ ops dst op r J H (some (decide p))=if p then zH E aJ ops dst r J (cd E aJ op J H)else ih E aJ ops r (dH dst (.bd []) J) H:=by by_cases h:p<;>simp[h,vv]
def WD(dst:Option Nat)(op:Op)(r:List Oper)(p:Prop) [Decidable p]:tY E aJ ops dst op r J H (some (decide p))=if p then vw E aJ ops dst op r J H (cd E aJ op J H)else mo [] (hP E aJ ops r (dH dst (.bd []) J) H):=by by_cases h:p<;>simp[h,tY]
def WE(dst:Option Nat)(op:Op)(r:List Oper)(p:Prop) [Decidable p]:vv E aJ ops dst op r J H (some (decide (¬p)))=if p then ih E aJ ops r (dH dst (.bd []) J) H else zH E aJ ops dst r J (cd E aJ op J H):=by by_cases h:p<;>simp[h,vv]
def WG(dst:Option Nat)(op:Op)(r:List Oper)(p:Prop) [Decidable p]:tY E aJ ops dst op r J H (some (decide (¬p)))=if p then mo [] (hP E aJ ops r (dH dst (.bd []) J) H)else vw E aJ ops dst op r J H (cd E aJ op J H):=by by_cases h:p<;>simp[h,tY]
def arQ(a b:U):Ja a b (.i (.v (.bool true)))=some a:=rfl
def arR(a b:U):Ja a b (.i (.v (.bool false)))=some b:=rfl
def arS(a b t:Bool):Ja (.i (.v (.bool a))) (.i (.v (.bool b))) (.i (.v (.bool t)))=some (.i (.v (.bool (bif t then a else b)))):=by cases t<;>rfl
def arT(p:Prop) [Decidable p]:(!decide p)=decide (¬p):=by by_cases h:p<;>simp[h]
def arU(p q:Prop) [Decidable p] [Decidable q]:(decide p||decide q)=decide (p∨q):=by by_cases h:p<;>simp[h]
def arV(p q:Prop) [Decidable p] [Decidable q]:(decide p &&decide q)=decide (p∧q):=by by_cases h:p<;>simp[h]
def arW(a b:List UInt8):(a==b)=decide (a=b):=by by_cases h:a=b<;>simp[h]
def arX(a b:UInt8):(a=b)=(a.toNat=b.toNat):=by simp[UInt8.toNat_inj]
def Jt(H:aa):U→Option (U×aa)
 |.i (.str l)=>if l.length<1073741824 then some (.ref H.length 0 0 l.length,H++[.sl 1 0 (l.map λ b=>[aC.v (.int .u8 b.toNat)]) false])else none
 |_=>none
def arY(l:List UInt8):Jt H (.i (.str l))=if l.length<1073741824 then some (.ref H.length 0 0 l.length,H++[.sl 1 0 (l.map λ b=>[aC.v (.int .u8 b.toNat)]) false])else none:=rfl
def arZ{s d:TypeId}(j:hx E.P s=true)(I:(e0 E.P d).bind (nB E.P)=some .u8)(x:Operand):cd E aJ (.convert s d x) J H=Jt H (bn E J x):=by
 have av:(e0 E.P d).isSome=true:=by cases h:e0 E.P d with|none=>rw[h]at I;cases I|some _=>rfl
 rw[We _ (by simpa[ez]using av) (by intro f a t e;cases e)];simp only[dc];generalize bn E J x=y;cases y with
 |i y=>cases y with
  |str l=>simp only[Jt,j,I,true_and,yE]
  |_=>rfl
 |_=>rfl
def Ju(H:aa):U→Option (U×aa)
 |.i (.str l)=>if l.length<1073741824 then some (.ref H.length 0 0 (lD l).length,H++[.sl 1 0 (lD l) false])else none
 |_=>none
def ar0(l:List UInt8):Ju H (.i (.str l))=if l.length<1073741824 then some (.ref H.length 0 0 (lD l).length,H++[.sl 1 0 (lD l) false])else none:=rfl
def ar1{s d:TypeId}(j:hx E.P s=true)(I:(e0 E.P d).bind (nB E.P)=some .i32)(x:Operand):cd E aJ (.convert s d x) J H=Ju H (bn E J x):=by
 have av:(e0 E.P d).isSome=true:=by cases h:e0 E.P d with|none=>rw[h]at I;cases I|some _=>rfl
 rw[We _ (by simpa[ez]using av) (by intro f a t e;cases e)];simp only[dc];generalize bn E J x=y;cases y with
 |i y=>cases y with
  |str l=>simp only[Ju,j,I,true_and,yE]
  |_=>rfl
 |_=>rfl
def OJ:Option (Nat×List (List aC)×Bool)→Option U
 |some (z,rows,_)=>if rows=[]∨z=1 then(rA rows).map λ l=>.str (l.map λ n=>hI n.toNat)else none
 |none=>none
def ar2(z:Nat)(rows:List (List aC))(ex:Bool):OJ (some (z,rows,ex))=if rows=[]∨z=1 then(rA rows).map λ l=>.str (l.map λ n=>hI n.toNat)else none:=rfl
def ar3{s d e:TypeId}(h:e0 E.P d=none)(aR:e0 E.P s=some e)(j:hx E.P d=true)(I:nB E.P e=some .u8)(x:Operand):cd E aJ (.convert s d x) J H=gX H (OJ (hH H (bn E J x))):=by rw[ap8 s d e x h aR];simp only[AZ,j,I,and_self,if_true];cases hH H (bn E J x)<;>rfl
def ar4(aw:Nat)(rows:List (List aC))(ex:Bool):hH H (.i (.sl aw rows ex))=some (aw,rows,ex):=rfl
def ar5(c g off len:Nat):hH H (.ref c g off len)=Jl g off len H[c]?:=by
 simp only[hH];cases H[c]? with
 |none=>rfl
 |some x=>cases x<;>rfl
def ar6:rA []=some []:=rfl
def WH(n:Int)(r:List (List aC)):rA ([.v (.int .u8 n)]::r)=(rA r).map (n::·):=rfl
def WI(l:List UInt8):rA (l.map λ b=>[aC.v (.int .u8 b.toNat)])=some (l.map λ b=>(b.toNat:Int)):=by
 induction l with
 |nil=>rfl
 |cons b l a8=>simp only[fh,WH,a8,en]
def lX(l:List UInt8):(l.map λ b=>(b.toNat:Int)).map (λ n=>hI n.toNat)=l:=by
 rw[vH]
 conv=>rhs;rw[←List.map_id l]
 refine zn λ b _=>?_
 simp
def OK(H:aa)(c:Nat):Option Chunk→Option (U×aa)
 |some (.iter s pos)=>if pos<s.length then
  some (.bd [.i (.v (.bool true)),.i (.v (.int .i64 pos)),.i (.v (.int .i32 (l7 ⟨⟨s⟩⟩ pos).1))],H.set c (.iter s (pos+(l7 ⟨⟨s⟩⟩ pos).2)))else some (.bd [.i (.v (.bool false))],H)
 |_=>none
def ar7(c:Nat)(s:List UInt8)(pos:Nat):OK H c (some (.iter s pos))=if pos<s.length then
 some (.bd [.i (.v (.bool true)),.i (.v (.int .i64 pos)),.i (.v (.int .i32 (l7 ⟨⟨s⟩⟩ pos).1))],H.set c (.iter s (pos+(l7 ⟨⟨s⟩⟩ pos).2)))else some (.bd [.i (.v (.bool false))],H):=rfl
def OL(H:aa):U→Option (U×aa)
 |.ptr c _ _ 0=>OK H c H[c]?
 |_=>none
def ar8(c g r:Nat):OL H (.ptr c g r 0)=OK H c H[c]?:=rfl
def ar9(it:Operand):cd E aJ (.next it true) J H=OL H (bn E J it):=by
 rw[ap_];simp only[dc];cases bn E J it with
 |ptr c g r k=>cases k with
  |zero=>
   simp only[OL];cases H[c]? with
   |none=>rfl
   |some x=>cases x<;>rfl
  |succ k=>rfl
 |_=>rfl
def OM(s:List UInt8):Option Nat→Option Nat→Option U
 |some l,some h=>if l≤h∧h≤s.length then some (.i (.str ((s.drop l).take (h-l))))else none
 |_,_=>none
def ar_(s:List UInt8)(l h:Nat):OM s (some l) (some h)=if l≤h∧h≤s.length then some (.i (.str ((s.drop l).take (h-l))))else none:=rfl
def ar'(d:Nat):fP d none=some d:=rfl
def asa(d:Nat)(k:IntKind)(n:Int):fP d (some (.i (.v (.int k n))))=if 0≤n then some n.toNat else none:=rfl
def asb{t:TypeId}(bp:hx E.P t=true)(s:List UInt8)(bS ax:Option U):jT E H t (.i (.str s)) bS ax none=OM s (fP 0 bS) (fP s.length ax):=by
 simp only[jT,o2,bp,ON,and_self,if_true];cases fP 0 bS with
 |none=>rfl
 |some l=>cases fP s.length ax<;>rfl
def Jv(z aw:Nat)(rows:List (List aC))(ex:Bool):Option Nat→Option Nat→Option U
 |some l,some h=>if(l≤h∧h≤rows.length)∧(rows=[]∨z=aw)then some (.i (.sl aw ((rows.drop l).take (h-l)) (ex &&decide (h=rows.length))))else none
 |_,_=>none
def t'(z c g off len:Nat):Option Nat→Option Nat→Option Chunk→Option U
 |some l,some h,some (.sl aw aU _ _)=>if(l≤h∧h≤len)∧g=aU∧z=aw then some (.ref c g (off+l) (h-l))else none
 |some l,some h,some (.bj aw aU rows ex)=>if(l≤h∧h≤len)∧g=aU∧z=aw∧off+len≤rows.length then some (.i (.sl aw ((rows.drop (off+l)).take (h-l)) (ex &&decide (off+h=rows.length))))else none
 |_,_,_=>none
def Jw(z c g off len:Nat):Option Nat→Option Nat→Option Chunk→Option U
 |some l,some h,b6=>if l≤h∧h≤len then LO c g off l h (some z) b6 else none
 |_,_,_=>none
def sd(z:Nat)(H:aa)(bS ax:Option U):U→Option U
 |.i (.sl aw rows ex)=>Jv z aw rows ex (fP 0 bS) (fP rows.length ax)
 |.ref c g off len=>t' z c g off len (fP 0 bS) (fP len ax) H[c]?
 |.x (.d c g off len)=>Jw z c g off len (fP 0 bS) (fP len ax) H[c]?
 |_=>none
def asc(z:Nat)(bS ax:Option U)(c g off len:Nat):sd z H bS ax (.x (.d c g off len))=Jw z c g off len (fP 0 bS) (fP len ax) H[c]?:=rfl
def asd(c g off len l h c_ aU s:Nat)(rows:List bT):Jw 1 c g off len (some l) (some h) (some (.az c_ aU s rows))=if l≤h∧h≤len then(if g=aU then some (.x (.d c g (off+l) (h-l)))else none)else none:=rfl
def ase(z:Nat)(bS ax:Option U)(aw:Nat)(rows:List (List aC))(ex:Bool):sd z H bS ax (.i (.sl aw rows ex))=Jv z aw rows ex (fP 0 bS) (fP rows.length ax):=rfl
def asf(z:Nat)(bS ax:Option U)(c g off len:Nat):sd z H bS ax (.ref c g off len)=t' z c g off len (fP 0 bS) (fP len ax) H[c]?:=rfl
def asg(z aw:Nat)(rows:List (List aC))(ex:Bool)(l h:Nat):Jv z aw rows ex (some l) (some h)=if(l≤h∧h≤rows.length)∧(rows=[]∨z=aw)then some (.i (.sl aw ((rows.drop l).take (h-l)) (ex &&decide (h=rows.length))))else none:=rfl
def ash(z c g off len l h aw aU:Nat)(rows:List (List aC))(ex:Bool):t' z c g off len (some l) (some h) (some (.sl aw aU rows ex))=if(l≤h∧h≤len)∧g=aU∧z=aw then some (.ref c g (off+l) (h-l))else none:=rfl
def asi(z c g off len l h aw aU:Nat)(rows:List (List aC))(ex:Bool):t' z c g off len (some l) (some h) (some (.bj aw aU rows ex))=if(l≤h∧h≤len)∧g=aU∧z=aw∧off+len≤rows.length then some (.i (.sl aw ((rows.drop (off+l)).take (h-l)) (ex &&decide (off+h=rows.length))))else none:=rfl
def Jx{t e:TypeId}{z:Nat}(bp:e0 E.P t=some e)(bf:fG E.P e=some z)(aR:hx E.P t=false)(x:U)(bS ax:Option U):jT E H t x bS ax none=sd z H bS ax x:=by
 unfold jT;cases x with
 |i x=>cases x with
  |sl aw rows ex=>
   simp only[o2,sd,bp,bf,Jv];cases fP 0 bS with
   |none=>rfl
   |some l=>cases fP rows.length ax with
    |none=>rfl
    |some h=>simp only;by_cases j:l≤h∧h≤rows.length<;>by_cases I:rows=[]∨z=aw<;>simp[j,I]
  |str s=>
   simp only[o2,sd,aR];cases fP 0 bS with
   |none=>rfl
   |some l=>cases fP s.length ax with
    |none=>rfl
    |some h=>by_cases j:l≤h∧h≤s.length<;>simp[j]
  |_=>rfl
 |ref c g off len=>
  simp only[o2,sd,bp];cases fP 0 bS with
  |none=>simp[t']
  |some l=>cases fP len ax with
   |none=>simp[t']
   |some h=>
    simp only;cases ag:H[c]? with
    |none=>simp[t']
    |some y=>
     cases y with
     |sl aw aU rows ex=>simp only[t',bf,ON,true_and,bg];by_cases j:l≤h∧h≤len<;>by_cases I:g=aU∧z=aw<;>simp[j,I]
     |bj aw aU rows ex=>simp only[t',bf,bg];by_cases j:l≤h∧h≤len<;>by_cases I:g=aU∧z=aw∧off+len≤rows.length<;>simp[j,I]
     |_=>simp[t']
 |x k=>
  cases k with
  |d c g off len=>
   simp only[o2,sd,bp,bf,Jw,OO,ON,if_true];cases fP 0 bS with
   |none=>rfl
   |some l=>cases fP len ax with
    |none=>rfl
    |some h=>rfl
  |_=>rfl
 |_=>rfl
def asj:g' 0=[]:=rfl
def asl:g' 1=[0]:=rfl
def asm:g' 2=[0,1]:=rfl
def asn:g' 3=[0,1,2]:=rfl
def aso:g' 4=[0,1,2,3]:=rfl
def asp:g' 5=[0,1,2,3,4]:=rfl
def asq(n c:Nat)(r seen:List Nat):reach H (n+1) (c::r) seen=if c∈seen∨H.length≤c then reach H n r seen else reach H n (((H[c]?).map Chunk.refs).getD []++r) (seen++[c]):=rfl
end
def OP:Option (eC×Fr×aa)→Option (eC×aa)
 |some (e,_,H)=>some (e,H)
 |none=>none
def asr(k:Fr→aa→Option (eC×Fr×aa)):Option (eC×Fr×aa)→Option (eC×aa)
 |some (.normal,J,H)=>OP (k J H)
 |_=>none
def ass(k:Fr→aa→Option (eC×Fr×aa))(J:Fr)(H:aa):asr k (some (.normal,J,H))=OP (k J H):=rfl
def ast(e:eC)(J:Fr)(H:aa):OP (some (e,J,H))=some (e,H):=rfl
def FE(k:aa→Option (eC×Fr×aa))(J:Fr):Option (eC×aa)→Option (eC×Fr×aa)
 |some (.normal,H1)=>k H1
 |some (e,H1)=>some (e,J,H1)
 |none=>none
def asu(rd:Fr→aa→Option (eC×aa))(p:Nat)(J:Fr)(H:aa):og rd p J [] H=some (.normal,J,H):=rfl
def asv(rd:Fr→aa→Option (eC×aa))(p:Nat)(J:Fr)(x:U)(xs:List U)(H:aa):
  og rd p J (x::xs) H=FE (og rd p J xs) J (rd ((p,x)::J) H):=by
 unfold FE;simp only[og];cases rd ((p,x)::J) H with
 |none=>rfl
 |some q=>obtain⟨e,H1⟩:=q;cases e<;>rfl
def asw(k:aa→Option (eC×Fr×aa))(J:Fr)(H:aa):FE k J (some (.normal,H))=k H:=rfl
def asx(k:aa→Option (eC×Fr×aa))(J:Fr)(H:aa):FE k J (some (.ret,H))=some (.ret,J,H):=rfl
def asy(k:aa→Option (eC×Fr×aa))(J:Fr)(id:Nat)(H:aa):FE k J (some (.exit id,H))=some (.exit id,J,H):=rfl
def asz(rd:Fr→aa→Option (eC×aa))(p:Nat)(J:Fr)(H:aa)(xs:List U):am5 rd p J H (some xs)=og rd p J xs H:=rfl
def OQ:Option (List aC)→Option (List (List aC))→Option (List (List aC))
 |some a,some b=>some (a::b)
 |_,_=>none
def OR:Option Chunk→Option (List (List aC))→Option (List (List aC))
 |some (.box cells),x=>OQ (kK cells) x
 |_,_=>none
def asA(H:aa):rK H []=some []:=rfl
def asB(H:aa)(c g:Nat)(r:List U):rK H (.ptr c g 0 0::r)=OR H[c]? (rK H r):=by
 simp only[rK];cases H[c]? with
 |none=>rfl
 |some x=>
  cases x with
  |box cells=>simp only[OR];cases kK cells<;>cases rK H r<;>rfl
  |_=>rfl
def asC(cells:List U)(x:Option (List (List aC))):OR (some (.box cells)) x=OQ (kK cells) x:=rfl
def asD(a:List aC)(b:List (List aC)):OQ (some a) (some b)=some (a::b):=rfl
def WJ:Option (List (List aC)→Option (List U))→Option (List (List aC))→Option (List U)
 |some L,some nF=>L nF
 |_,_=>none
def asE{E:Env}(H:aa)(g:FuncId)(ft:List U):Ba E H (.aQ (.func g) [] ft)=WJ (E.seq g) (rK H ft):=by
 simp only[Ba];cases E.seq g with
 |none=>rfl
 |some L=>cases rK H ft with
  |none=>rfl
  |some nF=>rfl
def asF(L:List (List aC)→Option (List U))(nF:List (List aC)):WJ (some L) (some nF)=L nF:=rfl
def se(z c g off len:Nat)(h m:Int):Option Chunk→Option U
 |some (.sl aw aU _ _)=>if 0≤h∧h=m∧h≤len∧g=aU∧z=aw then some (.ref c g off h.toNat)else none
 |some (.bj aw aU rows _)=>if 0≤h∧h=m∧h≤len∧g=aU∧z=aw∧off+len≤rows.length then some (.i (.sl aw ((rows.drop off).take h.toNat) true))else none
 |_=>none
def asG(z c g off len:Nat)(h m:Int)(aw aU:Nat)(rows:List (List aC))(ex:Bool):se z c g off len h m (some (.sl aw aU rows ex))=if 0≤h∧h=m∧h≤len∧g=aU∧z=aw then some (.ref c g off h.toNat)else none:=rfl
def Jy{E:Env}{H:aa}{t e:TypeId}{z:Nat}(bp:e0 E.P t=some e)(bf:fG E.P e=some z)(c g off len:Nat)(k dx:IntKind)(h m:Int):
  jT E H t (.ref c g off len) none (some (.i (.v (.int k h)))) (some (.i (.v (.int dx m))))=se z c g off len h m H[c]?:=by
 simp only[jT,o2,fP,bp,bf,OS,and_true];by_cases aW:0≤h
 ·simp only[aW,if_true,jp,true_and];by_cases al:h≤len
  ·have Fy:h.toNat≤len:=R;simp only[Fy,if_true];cases ag:H[c]? with
   |none=>rfl
   |some y=>
    cases y with
    |sl aw aU rows ex=>
     simp only[se,bf,aW,al,true_and,bg];by_cases I:g=aU∧z=aw
     ·simp only[I,and_self,if_true,and_true,e7,sf];by_cases hm:h=m
      ·subst hm;simp[aW]
      ·by_cases q3:0≤m
       ·simp only[q3,if_true];rw[if_neg R,if_neg hm]
       ·simp[q3,hm]
     ·rw[if_neg I,if_neg (λ e=>I ⟨e.2.1,e.2.2⟩)]
    |bj aw aU rows ex=>
     simp only[se,bf,aW,al,true_and,bg];by_cases I:g=aU∧z=aw∧off+len≤rows.length
     ·simp only[I,and_self,if_true,and_true,e7,sf];by_cases hm:h=m
      ·subst hm;simp[aW]
      ·by_cases q3:0≤m
       ·simp only[q3,if_true];rw[if_neg R,if_neg hm]
       ·simp[q3,hm]
     ·rw[if_neg I,if_neg (λ e=>I ⟨e.2.1,e.2.2.1,e.2.2.2⟩)]
    |_=>rfl
  ·have Fy:¬h.toNat≤len:=R;simp only[Fy,if_false];cases ag:H[c]? with
   |none=>rfl
   |some y=>
    cases y with
    |sl aw aU rows ex=>simp only[se];rw[if_neg (λ e=>al e.2.2.1)]
    |bj aw aU rows ex=>simp only[se];rw[if_neg (λ e=>al e.2.2.1)]
    |_=>rfl
 ·simp only[aW,if_false];cases ag:H[c]? with
  |none=>rfl
  |some y=>
   cases y with
   |sl aw aU rows ex=>simp only[se];rw[if_neg (λ e=>aW e.1)]
   |bj aw aU rows ex=>simp only[se];rw[if_neg (λ e=>aW e.1)]
   |_=>rfl
section
variable{E:Env}{aJ:dy}{J:Fr}{H:aa}{f:FuncId}
def asH(t:TypeId)(x k:Operand)(ok:Bool):cO E J H (.lookup t x k ok)=bc (bn E J x):=rfl
def asI(t:TypeId)(m k x:Operand):cO E J H (.mapUpdate t m k x)=bc (bn E J m)++(bc (bn E J m)).map (·+kM):=rfl
def asJ(t:TypeId)(m k x:Operand):cO E J H (.insert t m k x)=bc (bn E J m)++(bc (bn E J m)).map (·+kM):=rfl
def asK(t:TypeId)(m k x:Operand):cd E aJ (.insert t m k x) J H=mE E H t (bn E J m) (bn E J k) (bn E J x):=rfl
def asL(t:TypeId)(r:Option Operand):cO E J H (.makeMap t r)=[]:=rfl
def asM(t:TypeId)(x k:Operand)(ok:Bool):cd E aJ (.lookup t x k ok) J H=gX H (yz E H t (bn E J x) (bn E J k) ok):=np _
def WK(H:aa):Option (TypeId×TypeId)→Option (U×aa)
 |some _=>some (.dv H.length,H++[.map []])
 |none=>none
def asN(p:TypeId×TypeId):WK H (some p)=some (.dv H.length,H++[.map []]):=rfl
def asO(t:TypeId):cd E aJ (.makeMap t none) J H=WK H (tn E.P t):=rfl
def asP(t:TypeId)(m k x:Operand):cd E aJ (.mapUpdate t m k x) J H=mE E H t (bn E J m) (bn E J k) (bn E J x):=rfl
def asQ(t:TypeId)(c:Nat)(k:U)(ok:Bool):yz E H t (.dv c) k ok=A1 E t k ok H[c]?:=rfl
def asR(t:TypeId)(x:aC)(k:U):yz E H t (.i x) k true=DX E t (.i x) k:=rfl
def asS(t:TypeId)(c:Nat)(k x:U):mE E H t (.dv c) k x=sx E H c t k x H[c]?:=rfl
def asT(B c:Nat):el B H (.dv c)=.dv c:=by simp[el]
def asU(B c:Nat)(es:List (aC×U)):dO B H c (.map es)=.map (uK B H es):=rfl
def asV(B c t:Nat)(cells:List U):dO B H c (.cY t cells)=.cY t (ey B H cells):=rfl
def asW(B c t:Nat)(l:List UInt8):dO B H c (.ju t l)=.ju t l:=rfl
def asX(B c:Nat):dO B H c .gone=.gone:=rfl
def asY(k:Option Nat)(br:List (Option Nat))(c:Nat)(r:List U):jx (k::br) (.dv c::r)=.dv c::jx br r:=rfl
def asZ(br:List (Option Nat))(c:Nat):rC br (.dv c)=.dv c:=rfl
def as0(c:Nat)(r:List U):dk H (.dv c::r)=q_ (.dv c) (dk H r):=by simp only[dk];cases dk H r<;>rfl
def as1(c:Nat):freeze H (.dv c)=none:=rfl
def as2(v:U)(zero:Option U):uG false zero (some (some v))=some v:=rfl
def as3(v:U)(zero:Option U):uG true zero (some (some v))=some (.bd [v,.i (.v (.bool true))]):=rfl
def as4(z:aC):uG false (some (.i z)) (some none)=some (.i z):=rfl
def as5(z:aC):uG true (some (.i z)) (some none)=some (.bd [.i z,.i (.v (.bool false))]):=rfl
def as6{t iT e:TypeId}{fK:IntKind}(aW:tn E.P t=some (iT,e))(ay:nB E.P iT=some fK){z:U}(bf:kG E.P e=some z)(n:Int)(ok:Bool)(es:List (aC×U)):
  A1 E t (.i (.v (.int fK n))) ok (some (.map es))=uG ok (some z) (hy (.v (.int fK n)) es):=by
 unfold A1;simp only[aW,A0,ay,decide_true,if_true,bf]
def OT(H:aa)(c:Nat):Option (List (aC×U))→Option (U×aa)
 |some es=>some (.dead,H.set c (.map es))
 |none=>none
def WL(c:Nat)(es:List (aC×U)):OT H c (some es)=some (.dead,H.set c (.map es)):=rfl
def as7{t iT e:TypeId}{fK:IntKind}(aW:tn E.P t=some (iT,e))(ay:nB E.P iT=some fK)(n:Int)(x:U)(j:one x=true)(c:Nat)(es:List (aC×U)):
  sx E H c t (.i (.v (.int fK n))) x (some (.map es))=OT H c (ki (.v (.int fK n)) x es):=by
 unfold sx;simp only[aW,A0,ay,decide_true,j,and_self,if_true];cases ki (.v (.int fK n)) x es<;>rfl
end
section
variable{E:Env}{aJ:dy}{J:Fr}{H:aa}{f:FuncId}
def as8(k:cN)(r:List U):dk H (.x k::r)=Fx r (freeze H (.x k)):=by
 simp only[dk,Fx];cases freeze H (.x k)with
 |none=>rfl
 |some p=>simp only;cases dk p.2 r<;>rfl
def as9(k:cN):freeze H (.x k)=o4 H k:=rfl
def WM(c g ai n:Nat):o4 H (.d c g ai n)=uH c g ai n H H[c]?:=rfl
def as_(c g s r:Nat):o4 H (.h c g s r)=uI c g s r H H[c]?:=rfl
def WN(c g ai n z aU s:Nat)(rows:List bT):uH c g ai n H (some (.az z aU s rows))=if g=aU then A2 c g ai n H (qv z rows)else none:=rfl
def as'(c g ai n aU:Nat)(rows:List (List aC)):uH c g ai n H (some (.fd aU rows))=if g=aU then some (.sl 1 ((rows.drop ai).take n) false,H)else none:=rfl
def WO(c g ai n:Nat)(xs:List aC):A2 c g ai n H (some xs)=some (.sl 1 (((xs.map λ y=>[y]).drop ai).take n) false,H.set c (.fd g (xs.map λ y=>[y]))):=rfl
def OU(c g s z r:Nat)(rows:List bT)(H:aa):Option bT→Option (aC×aa)
 |some (.own bP)=>some (.sl z bP false,H.set c (.az z g s (rows.set r (.dK (.sl z bP false)))))
 |_=>none
def ata(c g s r z aU dD:Nat)(rows:List bT):uI c g s r H (some (.az z aU dD rows))=if g=aU∧s=dD then OU c g s z r rows H rows[r]? else none:=by
 simp only[uI,OU];split
 ·split<;>simp_all
 ·rfl
def atb(c g s z r:Nat)(rows:List bT)(bP:List (List aC)):OU c g s z r rows H (some (.own bP))=some (.sl z bP false,H.set c (.az z g s (rows.set r (.dK (.sl z bP false))))):=rfl
def OV(z:Nat):∀l:List (List (List aC)),qv z (l.map bT.own)=some (l.map λ bP=>.sl z bP false)
 |[]=>rfl
 |a::l=>by simp[qv,OV z l]
def atc(B:Nat)(k:cN):qE E f B H (.x k)=tv (pV E f B H [.x k]):=rfl
def atd(k:Option Nat)(br:List (Option Nat))(q:cN)(r:List U):jx (k::br) (.x q::r)=.x q::jx br r:=rfl
def ate(br:List (Option Nat))(q:cN):rC br (.x q)=.x q:=rfl
def atf(B:Nat)(k:cN):el B H (.x k)=if k.c<B then .x k else rE k H[k.c]?:=by simp[el]
def atg(B c z g s:Nat)(rows:List bT):dO B H c (.az z g s rows)=if c<B then .az z g s rows else .az z 0 0 rows:=rfl
def ath(c g ai n z aU dD:Nat)(rows:List bT):rE (.d c g ai n) (some (.az z aU dD rows))=if g=aU then .x (.d c 0 ai n)else .dead:=rfl
def ati(c g r z aU dD:Nat)(rows:List bT):rE (.e c g r) (some (.az z aU dD rows))=if g=aU then .x (.e c 0 r)else .dead:=rfl
def atj(c g s r z aU dD:Nat)(rows:List bT):rE (.h c g s r) (some (.az z aU dD rows))=if g=aU∧s=dD then .x (.h c 0 0 r)else .dead:=rfl
def atk(c g s r i ac z aU dD:Nat)(rows:List bT):rE (.p c g s r i ac) (some (.az z aU dD rows))=if g=aU∧s=dD then .x (.p c 0 0 r i ac)else .dead:=rfl
def atl(k:cN):rE k (some .gone)=.dead:=by cases k<;>rfl
def WQ(c g ai n aU:Nat)(rows:List (List aC)):rE (.d c g ai n) (some (.fd aU rows))=if g=aU then .i (.sl 1 ((rows.drop ai).take n) false)else .dead:=rfl
def atm(B c g:Nat)(rows:List (List aC)):dO B H c (.fd g rows)=.fd g rows:=rfl
def atn(c g ai n:Nat):cN.c (.d c g ai n)=c:=rfl
def ato(c g r:Nat):cN.c (.e c g r)=c:=rfl
def atp(c g s r:Nat):cN.c (.h c g s r)=c:=rfl
def atq(c g s r i k:Nat):cN.c (.p c g s r i k)=c:=rfl
def atr(m c g ai n:Nat):cN.to m (.d c g ai n)=.d m g ai n:=rfl
def ats(m c g r:Nat):cN.to m (.e c g r)=.e m g r:=rfl
def att(m c g s r:Nat):cN.to m (.h c g s r)=.h m g s r:=rfl
def atu(m c g s r i k:Nat):cN.to m (.p c g s r i k)=.p m g s r i k:=rfl
def Jz(c g s r:Nat):Option bT→Option (List U×Nat)
 |some (.own _)=>some ([.x (.h c g s r)],0)
 |some (.dK y)=>some ([.i y],0)
 |_=>none
def atv(c g r:Nat):uE H (.e c g r)=DS c g r H[c]?:=rfl
def atw(c g s r i k:Nat):uE H (.p c g s r i k)=DT g s r i k H[c]?:=rfl
def atx(c g r z aU s:Nat)(rows:List bT):DS c g r (some (.az z aU s rows))=if g=aU then Jz c g s r rows[r]? else none:=by
 simp only[DS,Jz];split
 ·split<;>simp_all
 ·rfl
def aty(c g s r:Nat)(bP:List (List aC)):Jz c g s r (some (.own bP))=some ([.x (.h c g s r)],0):=rfl
def atz(c g s r:Nat)(y:aC):Jz c g s r (some (.dK y))=some ([.i y],0):=rfl
def JA(k:Nat):Option (List aC)→Option (List U×Nat)
 |some row=>some (kH row,k)
 |none=>none
def OW(i k:Nat):Option bT→Option (List U×Nat)
 |some (.own bP)=>JA k bP[i]?
 |_=>none
def atA(g s r i k z aU dD:Nat)(rows:List bT):DT g s r i k (some (.az z aU dD rows))=if g=aU∧s=dD then OW i k rows[r]? else none:=by
 simp only[DT,OW,JA];split
 ·split
  ·split<;>simp_all
  ·split<;>simp_all
 ·rfl
def atB(i k:Nat)(bP:List (List aC)):OW i k (some (.own bP))=JA k bP[i]?:=rfl
def atC(k:Nat)(row:List aC):JA k (some row)=some (kH row,k):=rfl
def atD(z c g off len:Nat)(n:Int):uF H z n (.d c g off len)=Hj z c g off len n H[c]?:=rfl
def atE(z c g s r:Nat)(n:Int):uF H z n (.h c g s r)=DU z c g s r n H[c]?:=rfl
def atF(z c g off len c_ aU s:Nat)(n:Int)(rows:List bT):Hj z c g off len n (some (.az c_ aU s rows))=if 0≤n∧n<len∧z=1∧g=aU then some (.x (.e c g (off+n.toNat)))else none:=rfl
def OX(c g s r:Nat)(n:Int):Option bT→Option U
 |some (.own bP)=>if n.toNat<bP.length then some (.x (.p c g s r n.toNat 0))else none
 |_=>none
def atG(z c g s r c_ aU dD:Nat)(n:Int)(rows:List bT):DU z c g s r n (some (.az c_ aU dD rows))=if g=aU∧s=dD∧z=c_∧0≤n then OX c g s r n rows[r]? else none:=by
 simp only[DU,OX];split
 ·split
  ·simp_all
  ·split<;>simp_all
 ·rfl
def atH(c g s r:Nat)(n:Int)(bP:List (List aC)):OX c g s r n (some (.own bP))=if n.toNat<bP.length then some (.x (.p c g s r n.toNat 0))else none:=rfl
def hT{t n:Nat}(h:fG E.P t=some n)(k:cN)(v:U):nD E H t (.x k) v=if(cw v).length=n∧(cw v).all one=true then pQ E H t n v k else none:=by unfold nD;rw[h]
def atI(t n c g r:Nat)(v:U):pQ E H t n v (.e c g r)=if n=1 then wC H c g r v H[c]? else none:=rfl
def atJ(t n c g s r i k:Nat)(v:U):pQ E H t n v (.p c g s r i k)=wD E H t n c g s r i k v H[c]?:=rfl
def atK(c g r z aU s:Nat)(v:U)(rows:List bT):wC H c g r v (some (.az z aU s rows))=wB c g r (pP H z v):=rfl
def WR(c g r:Nat)(y:bT)(H1:aa):Option Chunk→Option aa
 |some (.az z aU s rows)=>if g=aU∧r<rows.length then some (H1.set c (.az z g (s+1) (rows.set r y)))else none
 |_=>none
def atL(c g r:Nat)(y:bT)(H1:aa):wB c g r (some (y,H1))=WR c g r y H1 H1[c]?:=by
 simp only[wB];cases H1[c]? with
 |none=>rfl
 |some x=>cases x<;>rfl
def atM(c g r z aU s:Nat)(y:bT)(H1:aa)(rows:List bT):WR c g r y H1 (some (.az z aU s rows))=if g=aU∧r<rows.length then some (H1.set c (.az z g (s+1) (rows.set r y)))else none:=rfl
def atN(z d g len:Nat):pP H z (.ref d g 0 len)=A4 H z d g len H[d]?:=rfl
def atO(z:Nat)(x:aC):pP H z (.i x)=some (.dK (hZ (some z) x),H):=rfl
def atP(z d g len c_ aU:Nat)(bP:List (List aC))(ex:Bool):A4 H z d g len (some (.sl c_ aU bP ex))=if c_=z∧0<z∧g=aU∧len=bP.length then some (.own bP,H.set d .gone)else none:=rfl
def JB(c g s r i k n z:Nat)(br:List (Option Nat))(rows:List bT)(bP:List (List aC))(H:aa):Option (List aC)→Option (List aC)→Option aa
 |some row,some xs=>some (H.set c (.az z g s (rows.set r (.own (bP.set i (row.take k++hO br xs++row.drop (k+n)))))))
 |_,_=>none
def OY(c g s r i k n z:Nat)(br:List (Option Nat))(rows:List bT)(H:aa)(xs:Option (List aC)):Option bT→Option aa
 |some (.own bP)=>JB c g s r i k n z br rows bP H bP[i]? xs
 |_=>none
def atQ(t n c g s r i k z aU dD:Nat)(v:U)(rows:List bT):wD E H t n c g s r i k v (some (.az z aU dD rows))=if g=aU∧s=dD∧k+n≤z then OY c g s r i k n z (E.kinds t) rows H (kK (cw v)) rows[r]? else none:=by
 simp only[wD,OY,JB];split
 ·split
  ·split<;>simp_all
  ·split<;>simp_all
 ·rfl
def atS(c g s r i k n z:Nat)(br:List (Option Nat))(rows:List bT)(xs:Option (List aC))(bP:List (List aC)):OY c g s r i k n z br rows H xs (some (.own bP))=JB c g s r i k n z br rows bP H bP[i]? xs:=rfl
def atT(c g s r i k n z:Nat)(br:List (Option Nat))(rows:List bT)(bP:List (List aC))(row xs:List aC):JB c g s r i k n z br rows bP H (some row) (some xs)=some (H.set c (.az z g s (rows.set r (.own (bP.set i (row.take k++hO br xs++row.drop (k+n))))))):=rfl
def atU:kK []=some []:=rfl
def atV(x:aC)(r:List U):kK (.i x::r)=(kK r).map (x::·):=rfl
def atW(t z n:Nat)(v:U):tr E H t z n [(0,v)]=if n=1∧one v=true∧rF E t t=true then A5 z (pP H z v)else none:=rfl
def atX(z:Nat)(y:bT)(H1:aa):A5 z (some (y,H1))=some (.x (.d H1.length 0 0 1),H1++[.az z 0 1 [y]]):=rfl
def atY(z c g off len:Nat):lC z H (.x (.d c g off len))=uL z c g off len H H[c]?:=rfl
def atZ(z d g off len c_ aU s:Nat)(rows:List bT):uL z d g off len H (some (.az c_ aU s rows))=if z=c_∧g=aU∧off+len≤rows.length then some (d,(rows.drop off).take len,H.set d (.az z g (s+1) (e5 rows off len)))else none:=rfl
def at0{t t2:Nat}(h:rF E t t2=true)(z:Nat)(s x:U):ts E H t t2 z s x=uM z s (lC z H x):=by unfold ts;rw[if_pos h]
def at1{t t2:Nat}(h:rF E t t2=true)(z:Nat)(s:U)(k:cN):qy E H t t2 z s (.x k)=uM z s (lC z H (.x k)):=at0 h z s (.x k)
def at2(z d aw:Nat)(new:List bT)(H1:aa):uM z (.i (.sl aw [] true)) (some (d,new,H1))=if new.length<1073741824 then some (.x (.d H1.length 0 0 new.length),H1++[.az z 0 0 new])else none:=rfl
def at3(z d c g len:Nat)(new:List bT)(H1:aa):uM z (.x (.d c g 0 len)) (some (d,new,H1))=A6 z d c g len new H1 H1[c]?:=rfl
def at4(z d c g len c_ aU s:Nat)(new rows:List bT)(H1:aa):A6 z d c g len new H1 (some (.az c_ aU s rows))=if z=c_∧g=aU∧c≠d∧len≤rows.length∧len+new.length<1073741824 then some (.x (.d c (g+1) 0 (len+new.length)),H1.set c (.az z (g+1) 0 (rows.take len++new)))else none:=rfl
def at5{t:Nat}(h:rF E t t=true)(z:Nat)(x y:U):qx E H t z x y=yC z x (lC z H y):=by unfold qx;rw[if_pos h]
def at6(z d c g off len:Nat)(new:List bT)(H1:aa):yC z (.x (.d c g off len)) (some (d,new,H1))=A7 z d c g off len new H1 H1[c]?:=rfl
def at7(z d c g off len c_ aU s:Nat)(new rows:List bT)(H1:aa):A7 z d c g off len new H1 (some (.az c_ aU s rows))=if z=c_∧g=aU∧c≠d∧off+len≤rows.length∧new.length≤len then some (.int .i64 new.length,H1.set c (.az z g (s+1) (rows.take off++(new++rows.drop (off+new.length)))))else none:=rfl
def at8(z c n:Nat)(H:aa):tt z (some (.ref c 0 0 n,H))=A8 z c n H H[c]?:=rfl
def at9(z c n:Nat)(rows:List (List aC))(ex:Bool):A8 z c n H (some (.sl 1 0 rows ex))=some (.x (.d c 0 0 n),H.set c (.az z 0 0 (rows.map pR))):=rfl
def aua(y:aC):pR [y]=.dK y:=rfl
end
def aub:∀a,jQ (Value.bool a)=cellOf (Value.bool a):=λ _=>rfl
def auc:∀a,cellOf (Value.bool a)=.i (.v (Value.bool a)):=λ _=>rfl
def aud:∀a b,jQ (jW a b)=cellOf (jW a b):=λ _ _=>rfl
def aue:∀a b,cellOf (jW a b)=.i (.v (jW a b)):=λ _ _=>rfl
def auf:∀a b,jQ (Value.float a b)=cellOf (Value.float a b):=λ _ _=>rfl
def aug:∀a b,cellOf (Value.float a b)=.i (.v (Value.float a b)):=λ _ _=>rfl
def auh:∀a b c,jQ (OZ a b c)=cellOf (OZ a b c):=λ _ _ _=>rfl
def aui:∀a b c,cellOf (OZ a b c)=.i (.v (OZ a b c)):=λ _ _ _=>rfl
def auj:∀a,jQ (Cg a)=cellOf (Cg a):=λ _=>rfl
def auk:∀a,cellOf (Cg a)=.i (.v (Cg a)):=λ _=>rfl
def aul:∀a,jQ (Value.map a)=cellOf (Value.map a):=λ _=>rfl
def aum:∀a,cellOf (Value.map a)=.i (.v (Value.map a)):=λ _=>rfl
def aun:∀a,jQ (Value.chan a)=cellOf (Value.chan a):=λ _=>rfl
def auo:∀a,cellOf (Value.chan a)=.i (.v (Value.chan a)):=λ _=>rfl
def aup:∀a b c,jQ (D9 a b c)=cellOf (D9 a b c):=λ _ _ _=>rfl
def auq:∀a b c,cellOf (D9 a b c)=.i (.v (D9 a b c)):=λ _ _ _=>rfl
def aur:jQ (O0)=cellOf (O0):=rfl
def aus:cellOf (O0)=.i (.v (O0)):=rfl
def aut:∀a b,jQ (Value.iface a b)=cellOf (Value.iface a b):=λ _ _=>rfl
def auu:∀a b,cellOf (Value.iface a b)=.i (.v (Value.iface a b)):=λ _ _=>rfl
def auv:jQ (O1)=cellOf (O1):=rfl
def auw:cellOf (O1)=.i (.v (O1)):=rfl
def auy:∀a,jQ (Value.string a)=cellOf (Value.string a):=λ _=>rfl
def auz:∀a b c,jQ (Value.slice a b c)=cellOf (Value.slice a b c):=λ _ _ _=>rfl
def auA:∀a,jQ (Value.tuple a)=cellOf (Value.tuple a):=λ _=>rfl
def auB:∀a b c,cellOf (Value.slice (some a) b c)=.i (.v (Value.slice (some a) b c)):=λ _ _ _=>rfl
def auC:∀a b c d aS,Chunk.cI aS (Chunk.sl a b c d)=(Chunk.sl a b c d):=λ _ _ _ _ _=>rfl
def auD:∀a b c d,Chunk.refs (Chunk.sl a b c d)=[]:=λ _ _ _ _=>rfl
def auE:∀a b c d aS,Chunk.cI aS (Chunk.bj a b c d)=(Chunk.bj a b c d):=λ _ _ _ _ _=>rfl
def auF:∀a b c d,Chunk.refs (Chunk.bj a b c d)=[]:=λ _ _ _ _=>rfl
def auG:∀a b aS,Chunk.cI aS (Chunk.iter a b)=(Chunk.iter a b):=λ _ _ _=>rfl
def auH:∀a b,Chunk.refs (Chunk.iter a b)=[]:=λ _ _=>rfl
def auI:∀a b aS,Chunk.cI aS (Chunk.ju a b)=(Chunk.ju a b):=λ _ _ _=>rfl
def auJ:∀a b,Chunk.refs (Chunk.ju a b)=[]:=λ _ _=>rfl
def auK:∀aS,Chunk.cI aS (Chunk.gone)=(Chunk.gone):=λ _=>rfl
def auL:Chunk.refs (Chunk.gone)=[]:=rfl
def auM:∀a b c d aS,Chunk.cI aS (Chunk.az a b c d)=(Chunk.az a b c d):=λ _ _ _ _ _=>rfl
def auN:∀a b c d,Chunk.refs (Chunk.az a b c d)=[]:=λ _ _ _ _=>rfl
def auO:∀a b aS,Chunk.cI aS (Chunk.fd a b)=(Chunk.fd a b):=λ _ _ _=>rfl
def auP:∀a b,Chunk.refs (Chunk.fd a b)=[]:=λ _ _=>rfl
def auQ:∀a,dQ (Op.makeMap a none)=true:=λ _=>rfl
def auR:∀a b,dQ (Op.makeMap a (some b))=false:=λ _ _=>rfl
def auS:∀a,dQ (Op.move a)=false:=λ _=>rfl
def auT:∀a,dQ (Op.assign a)=false:=λ _=>rfl
def auU:∀a b c,dQ (Op.pick a b c)=false:=λ _ _ _=>rfl
def auV:∀a b,dQ (Op.build a b)=false:=λ _ _=>rfl
def auW:∀a b c d,dQ (Op.insert a b c d)=false:=λ _ _ _ _=>rfl
def auX:∀a b,dQ (Op.load a b)=false:=λ _ _=>rfl
def auY:∀a b c,dQ (Op.store a b c)=false:=λ _ _ _=>rfl
def auZ:∀a,dQ (Op.ready a)=false:=λ _=>rfl
def au0:∀a,dQ (Op.waits a)=false:=λ _=>rfl
def au1:∀a,dQ (Op.nilCheck a)=false:=λ _=>rfl
def au2:∀a b c d e,dQ (Op.binOp a b c d e)=false:=λ _ _ _ _ _=>rfl
def au3:∀a b c,dQ (Op.unOp a b c)=false:=λ _ _ _=>rfl
def au4:∀a b c,dQ (Op.convert a b c)=false:=λ _ _ _=>rfl
def au5:∀a b,dQ (Op.sliceToArrayPointer a b)=false:=λ _ _=>rfl
def au6:∀a b,dQ (Op.makeInterface a b)=false:=λ _ _=>rfl
def au7:∀a b c,dQ (Op.makeFunc a b c)=false:=λ _ _ _=>rfl
def au8:∀a b,dQ (Op.makeChan a b)=false:=λ _ _=>rfl
def au9:∀a b c d e,dQ (Op.slice a b c d e)=false:=λ _ _ _ _ _=>rfl
def au_:∀a b c,dQ (Op.fieldAddr a b c)=false:=λ _ _ _=>rfl
def au':∀a b c,dQ (Op.field a b c)=false:=λ _ _ _=>rfl
def ava:∀a b c,dQ (Op.indexAddr a b c)=false:=λ _ _ _=>rfl
def avb:∀a b c,dQ (Op.index a b c)=false:=λ _ _ _=>rfl
def avc:∀a b c d,dQ (Op.lookup a b c d)=false:=λ _ _ _ _=>rfl
def avd:∀a b c d,dQ (Op.mapUpdate a b c d)=false:=λ _ _ _ _=>rfl
def ave:∀a b c,dQ (Op.mapEntry a b c)=false:=λ _ _ _=>rfl
def avf:∀a b c d,dQ (Op.entryStore a b c d)=false:=λ _ _ _ _=>rfl
def avg:∀a b,dQ (Op.range a b)=false:=λ _ _=>rfl
def avh:∀a b,dQ (Op.next a b)=false:=λ _ _=>rfl
def avi:∀a,dQ (Op.entry a)=false:=λ _=>rfl
def avj:∀a b c d,dQ (Op.typeAssert a b c d)=false:=λ _ _ _ _=>rfl
def avk:∀a b,dQ (Op.extract a b)=false:=λ _ _=>rfl
def avl:∀a,dQ (Op.call a)=false:=λ _=>rfl
def avm:one (U.dead)=false:=rfl
def avn:∀a,one (U.agg a)=false:=λ _=>rfl
def avo:∀a,one (U.bd a)=false:=λ _=>rfl
def avp:cw (U.dead)=[(U.dead)]:=rfl
def avq:∀a,cw (U.i a)=[(U.i a)]:=λ _=>rfl
def avr:∀a b c d,cw (U.ref a b c d)=[(U.ref a b c d)]:=λ _ _ _ _=>rfl
def avs:∀a b c d,cw (U.ptr a b c d)=[(U.ptr a b c d)]:=λ _ _ _ _=>rfl
def avt:∀a,cw (U.dv a)=[(U.dv a)]:=λ _=>rfl
def avu:∀a b c,cw (U.aQ a b c)=[(U.aQ a b c)]:=λ _ _ _=>rfl
def avv:∀a,cw (U.bd a)=[(U.bd a)]:=λ _=>rfl
def avw:∀a,cw (U.x a)=[(U.x a)]:=λ _=>rfl
def avx:fE (Code.skip)=none:=rfl
def avy:∀a,fE (Code.exit a)=none:=λ _=>rfl
def avz:∀a,fE (Code.label a)=none:=λ _=>rfl
def avA:∀a,fE (Code.goto a)=none:=λ _=>rfl
def avB:fE (Code.ret)=none:=rfl
def avC(E:Env)(J:Fr)(H:aa)(x:Operand)(t:TypeId):et E J H (.call ⟨.builtin .len,#[x],#[t]⟩)=if hx E.P t=true∨(e0 E.P t).isSome=true then match bn E J x with
 |.i (.str l)=>if hx E.P t=true then some (.int .i64 l.length)else none
 |.i (.sl _ rows _)=>if hx E.P t=true then none else some (.int .i64 rows.length)
 |.ref _ _ _ len=>if hx E.P t=true then none else some (.int .i64 len)
 |.x (.d _ _ _ len)=>if hx E.P t=true then none else some (.int .i64 len)
 |_=>none
 else none:=rfl
def JC(E:Env)(H:aa)(t t2:TypeId)(s x:U):Option Nat→Option (U×aa)
 |none=>hz E H t t2 s x
 |some z=>qy E H t t2 z s x
def JD(E:Env)(H:aa)(t:TypeId)(s x:U):Option Nat→Option (U×aa)
 |none=>nc E H t s x
 |some z=>qx E H t z s x
def avD(E:Env)(H:aa)(t t2:TypeId)(s x:U):JC E H t t2 s x none=hz E H t t2 s x:=rfl
def avE(E:Env)(H:aa)(t t2 z:TypeId)(s x:U):JC E H t t2 s x (some z)=qy E H t t2 z s x:=rfl
def avF(E:Env)(H:aa)(t:TypeId)(s x:U):JD E H t s x none=nc E H t s x:=rfl
def avG(E:Env)(H:aa)(t z:TypeId)(s x:U):JD E H t s x (some z)=qx E H t z s x:=rfl
def avH(E:Env)(J:Fr)(H:aa)(s x:Operand)(t t2:TypeId):dc E J H (.call ⟨.builtin .append,#[s,x],#[t,t2]⟩)=JC E H t t2 (bn E J s) (bn E J x) (sy E t):=by simp only[dc,JC];cases sy E t<;>rfl
def avI(E:Env)(J:Fr)(H:aa)(d x:Operand)(t t2:TypeId):dc E J H (.call ⟨.builtin .copy,#[d,x],#[t,t2]⟩)=JD E H t (bn E J d) (bn E J x) (sy E t):=by simp only[dc,JD];cases sy E t<;>rfl
def O2(H:aa):U→Option (U×aa)
 |.ptr c _ _ 0=>match H[c]? with
  |some (.iter s pos)=>if pos<s.length then
   some (.bd [.bool true,.int .i64 pos,.int .i32 (l7 ⟨⟨s⟩⟩ pos).1],H.set c (.iter s (pos+(l7 ⟨⟨s⟩⟩ pos).2)))else some (.bd [.bool false],H)
  |_=>none
 |_=>none
def avJ(E:Env)(J:Fr)(H:aa)(it:Operand):dc E J H (.next it true)=O2 H (bn E J it):=by
 unfold O2;simp only[dc];split
 ·rename_i h;rw[h];rfl
 ·rename_i h;split
  ·rename_i c g r aN;exact absurd aN (h c g r rfl)
  ·rfl
def avK(H:aa)(c g r:Nat):O2 H (.ptr c g r 0)=match H[c]? with
 |some (.iter s pos)=>if pos<s.length then
  some (.bd [.bool true,.int .i64 pos,.int .i32 (l7 ⟨⟨s⟩⟩ pos).1],H.set c (.iter s (pos+(l7 ⟨⟨s⟩⟩ pos).2)))else some (.bd [.bool false],H)
 |_=>none:=rfl
def avL:=o @am1 (o @amY (o @am2 (o @am3 (o @amX (o @amW (o @amU (o @amV (o @am4 (o @an2 (o @an3 (o @an4 (o @an5 (o @an6 (o @an7 (o @an8 (o @an9 (o @an_ (o @an' (@aob)))))))))))))))))))
def avM:=o @aoc (o @aoa (o @aq5 (o @aq6 (o @aq7 (o @aq8 (o @aq9 (o @aq1 (o @aq3 (o @aq4 (o @ang (o @anh (o @ani (o @ana (o @anb (o @anc (o @ane (o @anf (o @ann (@ano)))))))))))))))))))
def avN:=o @anp (o @anj (o @ank (o @anl (o @anm (o @apM (o @apN (o @apO (o @apP (o @arS (o @arQ (o @arR (o @apQ (o @apR (o @apS (o @apT (o @apU (o @apV (o @apW (@apX)))))))))))))))))))
def avO:=o @apY (o @apZ (o @ap0 (o @ap1 (o @ap2 (o @ap3 (o @ap4 (o @ap5 (o @ap6 (o @ap9 (o @ar9 (o @ar8 (o @ar7 (o @ap' (o @aqa (o @aqp (o @aqs (o @aqq (o @aqv (@aqz)))))))))))))))))))
def avP:=o @aqy (o @aqx (o @anB (o @anC (o @anD (o @anE (o @anF (o @anG (o @anH (o @anI (o @anJ (o @anK (o @anL (o @anM (o @anN (o @anO (o @anP (o @anQ (o @anR (@anS)))))))))))))))))))
def avQ:=o @anT (o @anU (o @anV (o @anW (o @anX (o @an0 (o @an1 (o @anA (o @anx (o @anz (o @asq (o @Jq (o @zM (o @asj (o @asl (o @asm (o @asn (o @aso (o @asp (@ant)))))))))))))))))))
def avR:=o @anu (o @anv (o @anq (o @anr (o @ans (o @anw (o @arj (o @ark (o @arG (o @arH (o @arI (o @arJ (o @arK (o @arL (o @arM (o @arN (o @arO (o @arP (o @aqL (@aps)))))))))))))))))))
def avS:=o @aqO (o @aq2 (o @apx (o @apy (o @apz (o @apA (o @apB (o @apC (o @apD (o @apE (o @apt (o @apu (o @apv (o @apw (o @V_ (o @apF (o @apG (o @apH (o @apI (@apJ)))))))))))))))))))
def avT:=o @V' (o @apK (o @Wa (o @apL (o @Wb (o @Wc (o @Ot (o @aoh (o @aoi (o @aoj (o @aok (o @aol (o @aom (o @aod (o @aoe (o @aof (o @aog (o @aon (o @aoo (@V6)))))))))))))))))))
def avU:=o @aop (o @aoq (o @aor (o @aos (o @aot (o @aou (o @aov (o @aow (o @aox (o @aoy (o @aoz (o @aoA (o @aoB (o @aoC (o @aoD (o @aoE (o @aoF (o @aoG (o @aoH (@aoI)))))))))))))))))))
def avV:=o @aoJ (o @aoK (o @aoL (o @aoM (o @aoP (o @aoR (o @aoS (o @aoT (o @aoU (o @aoV (o @aoW (o @aoX (o @aoY (o @aoZ (o @V7 (o @ao0 (o @V8 (o @ao1 (o @ao2 (@ao3)))))))))))))))))))
def avW:=o @ao4 (o @V9 (o @ao5 (o @ao6 (o @ao7 (o @ao8 (o @ao9 (o @ao_ (o @ao' (o @apa (o @apb (o @apc (o @apd (o @ape (o @apf (o @apg (o @aph (o @api (o @apj (@apk)))))))))))))))))))
def avX:=o @apl (o @apm (o @apn (o @apo (o @app (o @apq (o @apr (o @I6 (o @arl (o @aro (o @arY (o @arX (o @ar_ (o @ar' (o @asa (o @ase (o @asf (o @asg (o @ash (@asi)))))))))))))))))))
def avY:=o @ar2 (o @ar4 (o @ar5 (o @ar6 (o @WH (o @WI (o @lX (o @aqR (o @aqT (o @aqS (o @aqU (o @aqV (o @aqW (o @aqX (o @aqY (o @aqZ (o @aq0 (o @aqP (o @aqQ (@arc)))))))))))))))))))
def avZ:=o @ard (o @are (o @arf (o @arh (o @ari (o @aq_ (o @aq' (o @ara (o @arb (o @aqM (o @aqN (o @ap7 (o @ar0 (o @ass (o @ast (o @asu (o @asv (o @asw (o @asx (@asy)))))))))))))))))))
def av0:=o @asz (o @asA (o @asB (o @asC (o @asD (o @asE (o @asF (o @asH (o @asI (o @asL (o @asM (o @asN (o @asO (o @asP (o @asQ (o @asR (o @asS (o @asT (o @asU (@asV)))))))))))))))))))
def av1:=o @asW (o @asX (o @asY (o @asZ (o @as0 (o @as1 (o @as2 (o @as3 (o @as4 (o @as5 (o @WL (o @asJ (o @asK (o @aqw (o @as8 (o @as9 (o @WM (o @as_ (o @WN (@as')))))))))))))))))))
def av2:=o @WQ (o @atm (o @WO (o @ata (o @atb (o @OV (o @atc (o @atd (o @ate (o @atf (o @atg (o @ath (o @ati (o @atj (o @atk (o @atl (o @atn (o @ato (o @atp (@atq)))))))))))))))))))
def av3:=o @atr (o @ats (o @att (o @atu (o @atv (o @atw (o @atx (o @aty (o @atz (o @atA (o @atB (o @atC (o @atD (o @atE (o @atF (o @atG (o @atH (o @atI (o @atJ (@atK)))))))))))))))))))
def av4:=o @atL (o @atM (o @atN (o @atO (o @atP (o @atQ (o @atS (o @atT (o @atU (o @atV (o @atW (o @atX (o @atY (o @atZ (o @at2 (o @at3 (o @at4 (o @at6 (o @at7 (@at8)))))))))))))))))))
def av5:=o @at9 (o @aua (o @asc (o @asd (o @aoN (o @aoO (o @aoQ (o @aqn (o @aqo (o @aqt (o @aqu (o @anY (o @anZ (o @aqb (o @aqc (o @aqd (o @aqe (o @aqf (o @aqi (@aqh)))))))))))))))))))
def av6:=o @aqg (o @aqj (o @aqk (o @aql (o @aqm (o @aqr (@asG))))))
def av7:=o @O3.{0,0} (o @r9.{0,0} (o @List.filter_cons.{0} (o @List.filter_nil.{0} (o @ng.{0} (o @xG.{0} (o @O4.{0} (o @Ef.{0} (o @yX.{0,0} (o @List.foldl_nil.{0,0} (o @List.toList_toArray.{0} (o @p6.{0} (o @jF.{0} (o @List.getElem?_toArray.{0} (o @en.{0,0} (o @Option.map_none.{0,0} (o @OO.{0,0} (o @Option.bind_none.{0,0} (o @i1.{0} (@Option.getD_none.{0})))))))))))))))))))
def av8:=o @OS.{0} (o @Option.isSome_none.{0} (o @ON.{0} (o @fF (o @List.all_nil.{0} (o @FF.{0} (o @xH.{0} (o @gJ.{0} (o @c8.{0} (o @zQ (o @jJ (o @xI (o @lo (o @Bool.or_true (o @Bool.true_or (o @xv (o @IR (o @JE (o @ra (@BW.{0})))))))))))))))))))
def av9:=o @O5.{0} (o @e7 (o @cp (o @cQ.{0} (o @dr.{0} (o @nM.{0,0} (o @rR (o @List.range'_zero (o @List.range'_one (o @Nat.lt_irrefl (o @cL (o @nV (o @Nat.zero_lt_succ (o @Int.natCast_nonneg (o @il.{0} (o @List.contains_nil.{0} (o @List.contains_cons.{0} (o @List.elem_nil.{0} (o @Bu.{0} (@O6)))))))))))))))))))
def av_:=o @List.getElem?_nil.{0} (o @bg.{0} (o @List.append_eq.{0} (o @FG.{0} (o @List.set_cons_succ.{0} (o @List.set_nil.{0} (o @jC.{0} (o @dp.{0} (o @fw.{0,0} (o @Bool.cond_true_left (o @Bool.cond_false_right (o @Bool.cond_false_left (o @Bool.cond_true_right (o @Int.not_lt (o @Int.not_le (o @UInt8.ofNat_toNat (o @Classical.not_not (o @sF.{0} (o @Ch.{0} (@TI.{0})))))))))))))))))))
def av'{E:Env}{aJ:dy}{H:aa}{f c g aU n m aw:Nat}{bE:List U}{rows eB:List (List aC)}{ex fY:Bool}{h:List U→List Chunk→Option (U×List Chunk)}(he:E.ext f=some h)(aO:H[c]?=some (.sl aw g rows ex))(has:bx bE=[])
  (ag:h (.ref 0 g 0 n::bE) [.sl aw g rows ex]=some (.ref 0 aU 0 m,[.sl aw aU eB fY])):
  dd E aJ f (.ref c g 0 n::bE) H=some (.ref c aU 0 m,H.set c (.sl aw aU eB fY)):=by
 have j:∀aS,cx aS bE=bE:=λ aS=>(fU aS).2 bE has
 have dj:=r8 aO (by rfl);unfold dd;simp[eV,he,bx,bc,dj,cx,co,bt,aO,Chunk.cI,has,j,ag,Chunk.refs,reach,ea,df]
end Go.VI
