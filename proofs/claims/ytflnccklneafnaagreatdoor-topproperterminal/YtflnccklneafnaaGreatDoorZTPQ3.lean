import Derived.Test.YtflnccklneafnaaGreatDoorZTPQ2
open And renaming intro→o
open Bool renaming false_eq_true→fK,and_eq_true→cO,or_false→x1,false_or→Jl,true_and→jQ,false_and→ly,and_true→Ah,and_false→yb,not_true→J_,not_false→rF
open Go.DataW renaming trod→su,Trod→JN
open Go.IntKind renaming i64→n0,signed→sv,bits→sw,wrap→tk,u8→uw,i32→sz,u32→JX
open Go.Lib renaming indexByte→JY,pow10Tab→sA,decDigits→nF,itoa→Ag
open Go.Utf8 renaming decode→mh
open Go.Value renaming int→j4,func→EB,cells→sg,complex→PD,pointer→CG,nilFunc→PE,nilIface→PF
open Go.World renaming cell?→sf
open Int renaming toNat_natCast→oe,cast_ofNat_Int→PK
open List renaming replicate→cy,range→hg,range'→lN,map_cons→fk,mem_cons→mU,getElem?_map→fA,getElem?_eq_some_iff→bF,getElem?_eq_getElem→eT,length_append→dd,replicate_succ→EK,flatten_cons→s0,drop_drop→If,foldl_cons→zo,length_cons→cT,mapM_cons→MR,append_nil→c_,nil_append→gM,length_map→lX,length_nil→dx,length_set→jI,getElem?_cons_zero→qn,length_drop→ic,getElem?_concat_length→Uu,getElem?_cons_succ→jM,map_congr_left→zM,getD_cons_zero→Cg,map_nil→fp,take_zero→nc,take_succ_cons→vM,drop_zero→iy,getElem?_range→JK,take_append_drop→JL,all_cons→CA,append_eq_nil_iff→Pd,flatMap_nil→sy,map_map→wa,flatMap_cons→PH,not_mem_nil→ya,replicate_zero→PI,cons_append→uy,getD_cons_succ→PJ,set_cons_zero→CH,flatten_nil→CI
open List.cons renaming injEq→BQ
open Nat renaming le_refl→cQ,add_zero→fc,zero_add→cq,sub_self→qk,add_comm→qv,zero_le→ig,not_lt_zero→rz,le_max_left→Ct,le_max_right→Cu,sub_zero→qy
open Option renaming map_eq_some_iff→c0,bind_eq_some_iff→BK,getD_some→iM,map_some→d',isNone_none→Pr,bind_some→Ps,isSome_some→Pw
open Option.some renaming inj→qf,injEq→bj
open Prod.mk renaming injEq→bA
open UInt8 renaming ofNat→h6
namespace Go.VI
set_option maxRecDepth 100000
set_option maxHeartbeats 40000000
set_option linter.unusedVariables false
set_option linter.unusedSimpArgs false
set_option linter.defProp false
section
variable{E:Env}{aL:dD}{ops:List Oper}{I:Fr}{H:aa}{f:FuncId}
def aoa(c:Nat)(dst:Option Nat)(op:Op)(r:List Oper)(v:U)(ap:aa):x6 E aL ops c dst op r I H (some (v,ap))=mB (sV E c I H op++lN H.length (ap.length-H.length)) (iG E aL ops (nu c op) r (dL dst v I) ap):=rfl
def aob(c:Nat)(dst:Option Nat)(op:Op)(r:List Oper):x7 E aL ops c dst op r I H (some true)=x6 E aL ops c dst op r I H (jE E aL c op I H):=rfl
def aoc(c:Nat)(dst:Option Nat)(op:Op)(r:List Oper):x7 E aL ops c dst op r I H (some false)=mB [] (iG E aL ops (nu c op) r (dL dst (.be []) I) H):=rfl
def WN(c:Nat)(dst:Option Nat)(op:Op)(r:List Oper)(p:Prop) [Decidable p]:x7 E aL ops c dst op r I H (some (decide p))=if p then x6 E aL ops c dst op r I H (jE E aL c op I H)else mB [] (iG E aL ops (nu c op) r (dL dst (.be []) I) H):=by by_cases h:p<;>simp[h,x7]
def WO(c:Nat)(dst:Option Nat)(op:Op)(r:List Oper)(b:Bool):x7 E aL ops c dst op r I H (some b)=if b=true then x6 E aL ops c dst op r I H (jE E aL c op I H)else mB [] (iG E aL ops (nu c op) r (dL dst (.be []) I) H):=by cases b<;>rfl
def aod(c:Nat):iG E aL ops c [] I H=some (I,H,[]):=rfl
def aoe(c:Nat)(dst:Option Nat)(op:Op)(ed:TypeId)(pos:String)(rA:Array Edge)(r:List Oper):iG E aL ops c (⟨dst,op,ed,pos,rA,none⟩::r) I H=x6 E aL ops c dst op r I H (jE E aL c op I H):=by
 simp only[iG,gw];cases jE E aL c op I H with
 |none=>rfl
 |some x=>simp only[x6,mB];rfl
def aof(c:Nat)(dst:Option Nat)(op:Op)(ed:TypeId)(pos:String)(rA:Array Edge)(ab:Nat)(w:Bool)(r:List Oper):iG E aL ops c (⟨dst,op,ed,pos,rA,some (ab,w)⟩::r) I H=x7 E aL ops c dst op r I H (vU ops I ab w):=by
 simp only[iG,O1];cases vU ops I ab w with
 |none=>rfl
 |some b=>
  cases b with
  |false=>simp only[x7,mB];rfl
  |true=>
   simp only[x7];cases jE E aL c op I H with
   |none=>rfl
   |some x=>simp only[x6,mB];rfl
def aog(c:Nat)(r:Option (Option (Option Nat)×Chunk)):Ey c H r (some (.ae 0 0 [] true))=match r with|some (k,b7)=>some (tM c k,H.set c b7)|none=>none:=rfl
def st(args:List U):Option (List U×aa)→List Nat
 |some (bI,H1)=>bz args++reach H1 64 (bz bI) []
 |none=>[]
def aoh(args bI:List U)(H1:aa):st args (some (bI,H1))=bz args++reach H1 64 (bz bI) []:=rfl
def vX{f:FuncId}(args:List U):qY E f args H=st args (ja E f H args):=by unfold qY st;cases ja E f H args<;>rfl
def Ab{f:FuncId}(h:E.oy f=none)(J:E.sN f=false)(args:List U):jq E f args H=qY E f args H:=by unfold jq;rw[h,J]
def WQ{f:FuncId}(h:E.oy f=none)(J:E.sN f=true)(args:List U):jq E f args H=(qY E f args H).map (·+kV):=by unfold jq;rw[h,J]
def WR{f fn:FuncId}(h:E.oy f=some fn)(args:List U):jq E f args H=[]:=by unfold jq;rw[h]
def aoi(n:Nat)(seen:List Nat):reach H n [] seen=seen:=by cases n<;>rfl
def O2(E:Env)(H:aa)(args:List U):U→List Nat
 |.aR (.func g) first fy=>jq E g (first++args++fy) H
 |_=>[]
def aoj(args:List U)(g:Nat)(first fy:List U):O2 E H args (.aR (.func g) first fy)=jq E g (first++args++fy) H:=rfl
def aok(x:Operand)(args:Array Operand)(e6:Array TypeId):cR E I H (.call ⟨.value x,args,e6⟩)=O2 E H (args.toList.map (bo E I)) (bo E I x):=by
 simp only[cR,xe,O2];split
 ·rename_i g bI aP;split at aP
  ·rename_i aY first fy al
   simp only[bj,bA]at aP;obtain⟨rfl,rfl⟩:=aP;rw[al]
  ·cases aP
 ·rename_i aP;split at aP
  ·cases aP
  ·rename_i gp;split
   ·rename_i g first fy al;exact absurd al (gp _ _ _)
   ·rfl
def aol(b:Builtin)(args:Array Operand)(e6:Array TypeId):cR E I H (.call ⟨.builtin b,args,e6⟩)=bz (args.toList.map (bo E I)):=rfl
def aom(t:TypeId)(x:Operand):cR E I H (.load t x)=bd (bo E I x):=rfl
def aon(t:TypeId)(x i:Operand):cR E I H (.indexAddr t x i)=bd (bo E I x):=rfl
def aoo(t:TypeId)(x:Operand)(bU aA kQ:Option Operand):cR E I H (.slice t x bU aA kQ)=bd (bo E I x):=rfl
def aop(t:TypeId)(a x:Operand):cR E I H (.store t a x)=bd (bo E I a)++bd (bo E I x):=rfl
def aoq(t:TypeId)(n:Nat)(bm:Array (Nat×Operand)):cR E I H (.buildSlice t n bm)=nt E t n (bm.toList.map λ p=>(p.1,bo E I p.2)):=rfl
def aor(x:Operand):cR E I H (.move x)=[]:=rfl
def aos(x:Operand):cR E I H (.assign x)=[]:=rfl
def aot(a b c:Operand):cR E I H (.pick a b c)=[]:=rfl
def aou(op:BinOp)(t u:TypeId)(x y:Operand):cR E I H (.binOp op t x y u)=[]:=rfl
def aov(op:UnOp)(t:TypeId)(x:Operand):cR E I H (.unOp op t x)=[]:=rfl
def aow(s d:TypeId)(x:Operand):cR E I H (.convert s d x)=bd (bo E I x):=rfl
def aox(t:TypeId)(x:Operand):cR E I H (.range t x)=[]:=rfl
def aoy(it:Operand)(b:Bool):cR E I H (.next it b)=bd (bo E I it):=rfl
def aoz(fn:Fn)(a b:Array Operand):cR E I H (.makeFunc fn a b)=[]:=rfl
def aoA(t:TypeId)(x:Operand)(k:Nat):cR E I H (.field t x k)=[]:=rfl
def aoB(t:TypeId)(x:Operand)(k:Nat):cR E I H (.fieldAddr t x k)=[]:=rfl
def aoC(t:TypeId)(x y:Operand):cR E I H (.index t x y)=[]:=rfl
def aoD(x:Operand)(n:Nat):cR E I H (.extract x n)=[]:=rfl
def aoE(x:Operand):cR E I H (.nilCheck x)=[]:=rfl
def aoF(t:TypeId)(bm:Array (Nat×Operand)):cR E I H (.build t bm)=[]:=rfl
def aoG(t:TypeId):cR E I H (.alloc t)=[]:=rfl
def O3(a:U):List Nat→List Nat
 |[]=>[]
 |_::_=>bd a
def aoH(a:U):O3 a []=[]:=rfl
def aoI(a:U)(ab:Nat)(r:List Nat):O3 a (ab::r)=bd a:=rfl
def aoJ(t:TypeId)(x:Operand):cR E I H (.box t x)=O3 (bo E I x) (E.sO t):=by simp only[cR];cases E.sO t<;>rfl
def aoK(t:TypeId)(x y:Operand):cR E I H (.makeSlice t x y)=[]:=rfl
def aoL(k:Fr→aa→Option (eD×Fr×aa))(bN:Fr)(ap:aa):vQ k (some (.normal,bN,ap))=k bN ap:=rfl
def aoM(k:Fr→aa→Option (eD×Fr×aa))(id:Nat)(bN:Fr)(ap:aa):vQ k (some (.exit id,bN,ap))=some (.exit id,bN,ap):=rfl
def aoN(k:Fr→aa→Option (eD×Fr×aa))(bN:Fr)(ap:aa):vQ k (some (.ret,bN,ap))=some (.ret,bN,ap):=rfl
def aoO(id:Nat)(bN:Fr)(ap:aa):FY E f id (some (bN,ap))=some (.normal,norm (E.kn f id) bN,ap):=rfl
def aoP(id:Nat)(bN:Fr)(ap:aa)(eE:List (List Nat)):Cw E f id (some (bN,ap,eE))=if(E.dR f id).all (sU eE)=true then some (.normal,norm (E.kn f id) bN,ap)else none:=rfl
def aoQ(a b:Option (eD×Fr×aa)):vR (.i (.v (.bool true))) a b=a:=rfl
def aoR(a b:Option (eD×Fr×aa)):vR (.i (.v (.bool false))) a b=b:=rfl
def aoS(id:Nat)(bN:Fr)(ap:aa):Jy id (some (.normal,bN,ap))=some (.normal,bN,ap):=rfl
def aoT(id:Nat)(bN:Fr)(ap:aa):Jy id (some (.ret,bN,ap))=some (.ret,bN,ap):=rfl
def aoU(id ab:Nat)(bN:Fr)(ap:aa):Jy id (some (.exit ab,bN,ap))=if ab=id then some (.normal,bN,ap)else some (.exit ab,bN,ap):=rfl
def FZ(E:Env)(f:FuncId)(B:Nat)(H:aa):Option U→Option (U×aa)
 |some r=>q0 E f B H r
 |none=>none
def aoV(B:Nat)(r:U):FZ E f B H (some r)=q0 E f B H r:=rfl
def aoW(B:Nat)(fX:List ResultVar)(bN:Fr)(ap:aa):vS E f B fX (some (.ret,bN,ap))=FZ E f B ap (w_ E bN ap fX):=by simp only[vS,FZ]<;>rfl
def aoX(B:Nat)(fX:List ResultVar)(bN:Fr)(ap:aa):vS E f B fX (some (.normal,bN,ap))=FZ E f B ap (w_ E bN ap fX):=by simp only[vS,FZ]<;>rfl
def F0(E:Env)(f:FuncId)(B:Nat)(H:aa)(vs:List U):Bool→Option (List U×aa)
 |true=>some (ew B (eW (E.lH f) vs H).2 (eW (E.lH f) vs H).1,ep B (eW (E.lH f) vs H).2 0 (eW (E.lH f) vs H).2)
 |false=>match dr H vs with
  |some (bI,H1)=>some (ew B H1 (nT (E.lH f) bI),ep B H1 0 H1)
  |none=>none
def O4(E:Env)(f:FuncId)(B:Nat):Option (List U×aa)→Option (List U×aa)
 |some (bI,H1)=>some (ew B H1 (nT (E.lH f) bI),ep B H1 0 H1)
 |none=>none
def aoY(B:Nat)(vs:List U):qc E f B H vs=F0 E f B H vs (E.own f):=by unfold qc F0;cases E.own f<;>rfl
def aoZ(B:Nat)(vs:List U):F0 E f B H vs false=O4 E f B (dr H vs):=by unfold F0 O4;rfl
def ao0(B:Nat)(vs:List U):F0 E f B H vs true=some (ew B (eW (E.lH f) vs H).2 (eW (E.lH f) vs H).1,ep B (eW (E.lH f) vs H).2 0 (eW (E.lH f) vs H).2):=rfl
def ao1(B:Nat)(bI:List U)(H1:aa):O4 E f B (some (bI,H1))=some (ew B H1 (nT (E.lH f) bI),ep B H1 0 H1):=rfl
def ao2(B:Nat)(vs:List U):q0 E f B H (.be vs)=HY (qc E f B H vs):=rfl
def ao3(B:Nat)(x:aD):q0 E f B H (.i x)=tN (qc E f B H [.i x]):=rfl
def ao4(B:Nat)(l:List U):q0 E f B H (.agg l)=tN (qc E f B H [.agg l]):=rfl
def ao5(B c g aj n:Nat):q0 E f B H (.ref c g aj n)=tN (qc E f B H [.ref c g aj n]):=rfl
def ao6(B c g r k:Nat):q0 E f B H (.ptr c g r k)=tN (qc E f B H [.ptr c g r k]):=rfl
def ao7(B:Nat)(fn:Fn)(a b:List U):q0 E f B H (.aR fn a b)=tN (qc E f B H [.aR fn a b]):=rfl
def ao8(a:U)(H1:aa):tN (some ([a],H1))=some (a,H1):=rfl
def ao9(bI:List U)(H1:aa):HY (some (bI,H1))=some (.be bI,H1):=rfl
def WS(x:aD):h7 none x=x:=by cases x<;>rfl
def ao_(k:Option Nat)(x:Value):h7 k (.v x)=.v x:=by cases k<;>rfl
def ao'(k:Option Nat)(x:List UInt8):h7 k (.str x)=.str x:=by cases k<;>rfl
def apa(k:Option Nat)(x:List aD)(aj:Nat):h7 k (.gl x aj)=.gl x aj:=by cases k<;>rfl
def apb(z:Nat)(rows:List (List aD))(ex:Bool):h7 (some z) (.ae z rows ex)=.ae z rows false:=by simp[h7]
def apc(z ay:Nat)(ex:Bool):h7 (some z) (.ae ay [] ex)=.ae z [] false:=by simp only[h7];split<;>rfl
def apd(l:List aD):hW [] l=l:=by cases l<;>rfl
def ape(bs:List (Option Nat)):hW bs []=[]:=by cases bs<;>rfl
def apf(k:Option Nat)(bs:List (Option Nat))(x:aD)(r:List aD):hW (k::bs) (x::r)=h7 k x::hW bs r:=rfl
def apg(l:List U):jD [] l=l:=by cases l<;>rfl
def aph(bs:List (Option Nat)):jD bs []=[]:=by cases bs<;>rfl
def api(k:Option Nat)(bs:List (Option Nat))(x:aD)(r:List U):jD (k::bs) (.i x::r)=.i (h7 k x)::jD bs r:=rfl
def apj(k:Option Nat)(bs:List (Option Nat))(c g aj n:Nat)(r:List U):jD (k::bs) (.ref c g aj n::r)=.ref c g aj n::jD bs r:=rfl
def apk(k:Option Nat)(bs:List (Option Nat))(c g aj n:Nat)(r:List U):jD (k::bs) (.ptr c g aj n::r)=.ptr c g aj n::jD bs r:=rfl
def apl(k:Option Nat)(bs:List (Option Nat))(f:Fn)(a b:List U)(r:List U):jD (k::bs) (.aR f a b::r)=.aR f a b::jD bs r:=rfl
def apm(k:Option Nat)(bs:List (Option Nat))(x:aD):r4 (k::bs) (.i x)=.i (h7 k x):=rfl
def apn(x:aD):r4 [] (.i x)=.i x:=by show U.i (h7 none x)=_;rw[WS]
def apo(bs:List (Option Nat))(l:List U):r4 bs (.agg l)=.agg (jD bs l):=rfl
def app(bs:List (Option Nat))(c g aj n:Nat):r4 bs (.ref c g aj n)=.ref c g aj n:=rfl
def apq(bs:List (Option Nat))(c g aj n:Nat):r4 bs (.ptr c g aj n)=.ptr c g aj n:=rfl
def apr(bs:List (Option Nat))(fn:Fn)(a b:List U):r4 bs (.aR fn a b)=.aR fn a b:=rfl
def aps(bs:List (Option Nat))(l:List U):r4 bs (.be l)=.be l:=rfl
def apt(l:List U):nT [] l=l:=by cases l<;>rfl
def apu(bs:List (List (Option Nat))):nT bs []=[]:=by cases bs<;>rfl
def apv(k:List (Option Nat))(bs:List (List (Option Nat)))(a:U)(r:List U):nT (k::bs) (a::r)=r4 k a::nT bs r:=rfl
def apw(z:Nat):y1 H z true=(.ref H.length 0 0 0,H++[.ae z 0 [] false]):=rfl
def apx(z:Nat):y1 H z false=(.x (.d H.length 0 0 0),H++[.ax (z-1000) 0 0 []]):=rfl
def apy(z ay:Nat):i_ z H (.i (.ae ay [] true))=y1 H z (decide (z<1000)):=rfl
def apz(z:Nat)(k:cP):i_ z H (.x k)=(.x k,H):=rfl
def apA(z ay:Nat)(rows:List (List aD)):i_ z H (.i (.ae ay rows false))=(.i (.ae ay rows false),H):=by cases rows<;>rfl
def apB(z c g aj n:Nat):i_ z H (.ref c g aj n)=(.ref c g aj n,H):=rfl
def apC(z:Nat)(a:U):lf [some z] H a=i_ z H a:=rfl
def apD(a:U):lf [none] H a=(a,H):=rfl
def apE(a:U):lf [] H a=(a,H):=rfl
def apF(k dv:Option Nat)(bs:List (Option Nat))(a:U):lf (k::dv::bs) H a=(a,H):=by cases k<;>rfl
def apG(l:List U):eW [] l H=(l,H):=by cases l<;>rfl
def apH(bs:List (List (Option Nat))):eW bs [] H=([],H):=by cases bs<;>rfl
def apI(k:List (Option Nat))(bs:List (List (Option Nat)))(a:U)(r:List U):eW (k::bs) (a::r) H=((lf k H a).1::(eW bs r (lf k H a).2).1,(eW bs r (lf k H a).2).2):=rfl
def WT:r5 [] I H=(I,H):=rfl
def apJ(k z:Nat)(r:List (Nat×Nat)):r5 ((k,z)::r) I H=r5 r ((k,(i_ z H (get k I)).1)::I) (i_ z H (get k I)).2:=rfl
def WU:u9 [] I H=H:=rfl
def apK(k ab z:Nat)(r:List (Nat×Nat×Nat)):u9 ((k,ab,z)::r) I H=u9 r I (Ep ab z H (get k I)):=rfl
def apL(ab z c g r k:Nat):Ep ab z H (.ptr c g r k)=Bo ab z c H H[c]?:=rfl
def O5(ab z c:Nat)(H:aa)(cells:List U):Option U→aa
 |some a=>(i_ z H a).2.set c (.box (cells.set ab (i_ z H a).1))
 |none=>H
def apM(ab z c:Nat)(cells:List U):Bo ab z c H (some (.box cells))=O5 ab z c H cells cells[ab]?:=by unfold Bo O5;simp only;cases cells[ab]?<;>rfl
def apN(ab z c:Nat)(cells:List U)(a:U):O5 ab z c H cells (some a)=(i_ z H a).2.set c (.box (cells.set ab (i_ z H a).1)):=rfl
def WV:qR [] I H=(I,H):=rfl
def apO(k z:Nat)(r:List (Nat×Nat)):qR ((k,z)::r) I H=qR r (y2 k z I H (freeze H (get k I))).1 (y2 k z I H (freeze H (get k I))).2:=rfl
def apP(k z:Nat)(x:aD)(H1:aa):y2 k z I H (some (x,H1))=((k,.i (h7 (some z) x))::I,H1):=rfl
def apQ(B:Nat)(x:aD):ee B H (.i x)=.i x:=by simp[ee]
def apR(B:Nat):ee B H .dead=.dead:=by simp[ee]
def apS(B:Nat)(l:List U):ee B H (.agg l)=.agg (ew B H l):=by simp[ee]
def apT(B:Nat)(l:List U):ee B H (.be l)=.be (ew B H l):=by simp[ee]
def apU(B:Nat)(f:Fn)(a b:List U):ee B H (.aR f a b)=.aR f (ew B H a) (ew B H b):=by simp[ee]
def apV(B c g aj n:Nat):ee B H (.ref c g aj n)=if c<B then .ref c g aj n else Er c g aj n H[c]?:=by simp[ee]
def apW(B c g r k:Nat):ee B H (.ptr c g r k)=if c<B then .ptr c g r k else r6 c g r k H[c]?:=by simp[ee]
def apX(c g aj n ay aY:Nat)(rows:List (List aD))(ex:Bool):Er c g aj n (some (.ae ay aY rows ex))=if g=aY then .ref c 0 aj n else .dead:=rfl
def apY(c g aj n ay aY:Nat)(rows:List (List aD))(ex:Bool):Er c g aj n (some (.bl ay aY rows ex))=if g=aY then .i (.ae ay ((rows.drop aj).take n) (ex &&decide (aj+n=rows.length)))else .dead:=rfl
def apZ(c g r k ay aY:Nat)(rows:List (List aD))(ex:Bool):r6 c g r k (some (.ae ay aY rows ex))=if g=aY then .ptr c 0 r k else .dead:=rfl
def ap0(c g r k ay aY:Nat)(rows:List (List aD))(ex:Bool):r6 c g r k (some (.bl ay aY rows ex))=.ptr c g r k:=rfl
def ap1(c g r k:Nat)(cells:List U):r6 c g r k (some (.box cells))=.ptr c g r k:=rfl
def ap2(c g r k:Nat)(s:List UInt8)(p:Nat):r6 c g r k (some (.iter s p))=.ptr c g r k:=rfl
def ap3(B:Nat):ew B H []=[]:=by simp[ew]
def ap4(B:Nat)(a:U)(r:List U):ew B H (a::r)=ee B H a::ew B H r:=by simp[ew]
def ap5(B c:Nat)(cells:List U):dN B H c (.box cells)=.box (ew B H cells):=rfl
def ap6(B c ay g:Nat)(rows:List (List aD))(ex:Bool):dN B H c (.ae ay g rows ex)=if c<B then .ae ay g rows ex else .ae ay 0 rows false:=rfl
def ap7(B c ay g:Nat)(rows:List (List aD))(ex:Bool):dN B H c (.bl ay g rows ex)=.bl ay g rows ex:=rfl
def ap8(B c:Nat)(s:List UInt8)(p:Nat):dN B H c (.iter s p)=.iter s p:=rfl
def ap9(B c:Nat):ep B H c []=[]:=rfl
def ap_(B c:Nat)(x:Chunk)(r:aa):ep B H c (x::r)=dN B H c x::ep B H (c+1) r:=rfl
def ap'(B:Nat):mg B H []=[]:=rfl
def aqa(B k:Nat)(a:U)(r:Fr):mg B H ((k,a)::r)=(k,ee B H a)::mg B H r:=rfl
def Cy(B:Nat):mT B I H=gc B (mg B H I) (ep B H 0 H):=rfl
def th(E:Env)(g:FuncId):Option (List U×aa)→Option (List U×aa)
 |some (bI,H1)=>some (nT (E.gI g) bI,H1)
 |none=>none
def aqb(g:FuncId)(bI:List U)(H1:aa):th E g (some (bI,H1))=some (nT (E.gI g) bI,H1):=rfl
def JA{g:FuncId}(ak:E.yY g=false)(args:List U):ja E g H args=th E g (dr H args):=by unfold ja th;rw[ak];rfl
def Cz{g:FuncId}(ak:E.yY g=true)(args:List U):ja E g H args=some (eW (E.gI g) args H):=by unfold ja;rw[ak]
def rB(a:U):Option (List U×aa)→Option (List U×aa)
 |some (bI,bx)=>some (a::bI,bx)
 |none=>none
def F1(r:List U):Option (aD×aa)→Option (List U×aa)
 |some (x,H1)=>rB (.i x) (dr H1 r)
 |none=>none
def JB(l r:List U)(H:aa):Option (List aD×aa)→Option (List U×aa)
 |some (xs,H1)=>rB (.agg (kP xs)) (dr H1 r)
 |none=>rB (.agg l) (dr H r)
def aqc(a:U)(bI:List U)(bx:aa):rB a (some (bI,bx))=some (a::bI,bx):=rfl
def aqd(r:List U)(x:aD)(H1:aa):F1 r (some (x,H1))=rB (.i x) (dr H1 r):=rfl
def aqe(l r:List U)(xs:List aD)(H1:aa):JB l r H (some (xs,H1))=rB (.agg (kP xs)) (dr H1 r):=rfl
def aqf(l r:List U):JB l r H none=rB (.agg l) (dr H r):=rfl
def aqg:dr H []=some ([],H):=rfl
def aqh(x:aD)(r:List U):dr H (.i x::r)=rB (.i x) (dr H r):=by simp only[dr];cases dr H r<;>rfl
def aqi(r:List U):dr H (.dead::r)=rB .dead (dr H r):=by simp only[dr];cases dr H r<;>rfl
def aqj(c g aj n:Nat)(r:List U):dr H (.ptr c g aj n::r)=rB (.ptr c g aj n) (dr H r):=by simp only[dr];cases dr H r<;>rfl
def aqk(f:Fn)(a b:List U)(r:List U):dr H (.aR f a b::r)=rB (.aR f a b) (dr H r):=by simp only[dr];cases dr H r<;>rfl
def aql(l:List U)(r:List U):dr H (.be l::r)=rB (.be l) (dr H r):=by simp only[dr];cases dr H r<;>rfl
def aqm(c g aj n:Nat)(r:List U):dr H (.ref c g aj n::r)=F1 r (freeze H (.ref c g aj n)):=by
 simp only[dr,F1];cases freeze H (.ref c g aj n)with
 |none=>rfl
 |some p=>simp only;cases dr p.2 r<;>rfl
def aqn(l:List U)(r:List U):dr H (.agg l::r)=JB l r H (fI H l):=by
 simp only[dr,JB];cases fI H l with
 |none=>simp only;cases dr H r<;>rfl
 |some p=>simp only;cases dr p.2 r<;>rfl
def JC(c g aj n:Nat)(H:aa):Option Chunk→Option (aD×aa)
 |some (.ae ay aY rows ex)=>if g=aY then some (.ae ay ((rows.drop aj).take n) (ex &&decide (aj+n=rows.length)),H.set c (.bl ay g rows ex))else none
 |some (.bl ay aY rows ex)=>if g=aY then some (.ae ay ((rows.drop aj).take n) (ex &&decide (aj+n=rows.length)),H)else none
 |_=>none
def WW(x:aD):freeze H (.i x)=some (x,H):=rfl
def aqo(c g aj n:Nat):freeze H (.ref c g aj n)=JC c g aj n H H[c]?:=by
 simp only[freeze,JC];cases H[c]? with
 |none=>rfl
 |some x=>cases x<;>rfl
def aqp(c g aj n:Nat):freeze H (.ptr c g aj n)=none:=rfl
def aqq(f:Fn)(a b:List U):freeze H (.aR f a b)=none:=rfl
def aqr(c g aj n ay aY:Nat)(rows:List (List aD))(ex:Bool):JC c g aj n H (some (.ae ay aY rows ex))=if g=aY then some (.ae ay ((rows.drop aj).take n) (ex &&decide (aj+n=rows.length)),H.set c (.bl ay g rows ex))else none:=rfl
def aqs(c g aj n ay aY:Nat)(rows:List (List aD))(ex:Bool):JC c g aj n H (some (.bl ay aY rows ex))=if g=aY then some (.ae ay ((rows.drop aj).take n) (ex &&decide (aj+n=rows.length)),H)else none:=rfl
def JD(x:aD):Option (List aD×aa)→Option (List aD×aa)
 |some (xs,bx)=>some (x::xs,bx)
 |none=>none
def JE(r:List U):Option (aD×aa)→Option (List aD×aa)
 |some (x,H1)=>JD x (fI H1 r)
 |none=>none
def WX(x:aD)(xs:List aD)(bx:aa):JD x (some (xs,bx))=some (x::xs,bx):=rfl
def aqt(x:aD):JD x none=none:=rfl
def WY(r:List U)(x:aD)(H1:aa):JE r (some (x,H1))=JD x (fI H1 r):=rfl
def aqu(r:List U):JE r none=none:=rfl
def WZ:fI H []=some ([],H):=rfl
def W0(a:U)(r:List U):fI H (a::r)=JE r (freeze H a):=by
 simp only[fI,JE];cases freeze H a with
 |none=>rfl
 |some p=>simp only;cases fI p.2 r<;>rfl
def O6:∀(l:List aD),fI H (l.map .i)=some (l,H)
 |[]=>rfl
 |a::l=>by simp only[fk,W0,WW,WY,O6 l,WX]
def hc(H:aa):Option U→Option (U×aa)
 |some v=>some (v,H)
 |none=>none
def aqv(v:U):hc H (some v)=some (v,H):=rfl
def nE(aj:Option U):(aj.map λ v=>(v,H))=hc H aj:=by cases aj<;>rfl
def aqw(x:Operand):ci E aL (.move x) I H=some (bo E I x,H):=rfl
def aqx(x:Operand):ci E aL (.assign x) I H=some (bo E I x,H):=rfl
def JF(a b:U):U→Option U
 |.i (.v (.bool t))=>some (bif t then a else b)
 |_=>none
def aqy(c a b:Operand):ci E aL (.pick c a b) I H=hc H (JF (bo E I a) (bo E I b) (bo E I c)):=by
 rw[←nE];simp only[ci,eC,ev,fK,if_false]
 congr 1
def aqz(t:TypeId)(a:Operand):ci E aL (.load t a) I H=hc H (tG E H t (bo E I a)):=nE _
def aqA(op:BinOp)(t u:TypeId)(x y:Operand):ci E aL (.binOp op t x y u) I H=hc H (j1 E.P op t (bo E I x) (bo E I y)):=nE _
def aqB(op:UnOp)(t:TypeId)(x:Operand):ci E aL (.unOp op t x) I H=hc H (yZ op (bo E I x)):=nE _
def aqC(t:TypeId)(x:Operand)(bU aA:Option Operand):ci E aL (.slice t x bU aA none) I H=hc H (j2 E H t (bo E I x) (bU.map (bo E I)) (aA.map (bo E I)) none):=nE _
def aqD(t:TypeId)(x:Operand)(bU aA:Option Operand)(m:Operand):ci E aL (.slice t x bU aA (some m)) I H=hc H (j2 E H t (bo E I x) (bU.map (bo E I)) (aA.map (bo E I)) (some (bo E I m))):=nE _
def aqE(t:TypeId)(x jB:Operand):ci E aL (.index t x jB) I H=hc H (Bj E t (bo E I x) (bo E I jB)):=nE _
def aqF(t:TypeId)(x jB:Operand):ci E aL (.indexAddr t x jB) I H=hc H (Bi E H t (bo E I x) (bo E I jB)):=nE _
def aqG(t:TypeId)(x:Operand)(k:Nat):ci E aL (.field t x k) I H=hc H (HS E t (bo E I x) k):=nE _
def aqH(t:TypeId)(bm:Array (Nat×Operand)):ci E aL (.build t bm) I H=hc H (jC E t (bm.toList.map λ p=>(p.1,bo E I p.2))):=nE _
def aqI(fn:Fn)(first fy:Array Operand):ci E aL (.makeFunc fn first fy) I H=some (.aR fn (first.toList.map (bo E I)) (fy.toList.map (bo E I)),H):=rfl
def W1(aj:Op)(h:eC E aj=false)(aF:∀f a t,aj≠.call ⟨.value f,a,t⟩):ci E aL aj I H=hc H (ev E I H aj):=by
 rw[←nE];unfold ci;split
 ·exact absurd rfl (aF _ _ _)
 ·simp[h]
def W2(aj:Op)(h:eC E aj=true)(aF:∀f a t,aj≠.call ⟨.value f,a,t⟩):ci E aL aj I H=dh E I H aj:=by
 unfold ci;split
 ·exact absurd rfl (aF _ _ _)
 ·simp[h]
def aqJ(x:Operand):ci E aL (.nilCheck x) I H=hc H (ev E I H (.nilCheck x)):=nE _
def aqK(x:Operand)(n:Nat):ci E aL (.extract x n) I H=hc H (ev E I H (.extract x n)):=nE _
def aqL(s:TypeId)(x:Operand)(k:Nat):ci E aL (.fieldAddr s x k) I H=hc H (ev E I H (.fieldAddr s x k)):=nE _
def aqM(args:Array Operand)(e6:Array TypeId):ci E aL (.call ⟨.builtin .len,args,e6⟩) I H=hc H (ev E I H (.call ⟨.builtin .len,args,e6⟩)):=nE _
def aqN(args:Array Operand)(e6:Array TypeId):ci E aL (.call ⟨.builtin .max,args,e6⟩) I H=hc H (r3 Em (args.toList.map (bo E I))):=nE _
def aqO(args:Array Operand)(e6:Array TypeId):ci E aL (.call ⟨.builtin .min,args,e6⟩) I H=hc H (r3 En (args.toList.map (bo E I))):=nE _
def aqP(args:Array Operand)(e6:Array TypeId):ci E aL (.call ⟨.builtin .append,args,e6⟩) I H=dh E I H (.call ⟨.builtin .append,args,e6⟩):=rfl
def aqQ(args:Array Operand)(e6:Array TypeId):ci E aL (.call ⟨.builtin .copy,args,e6⟩) I H=dh E I H (.call ⟨.builtin .copy,args,e6⟩):=rfl
def rC(s d:TypeId)(x:Operand)(h:e5 E.P d=none)(aS:e5 E.P s=none):ci E aL (.convert s d x) I H=hc H (mP E s d (bo E I x)):=by rw[W1 _ (by simp[eC,h]) (by intro f a t e;cases e)];simp only[ev,aS]
def aqR(s d e:TypeId)(x:Operand)(h:e5 E.P d=none)(aS:e5 E.P s=some e):ci E aL (.convert s d x) I H=hc H (Bk E H e d (bo E I x)):=by rw[W1 _ (by simp[eC,h]) (by intro f a t e;cases e)];simp only[ev,aS]
def aqS(t:TypeId)(x:Operand):ci E aL (.range t x) I H=dh E I H (.range t x):=rfl
def aqT(it:Operand)(b:Bool):ci E aL (.next it b) I H=dh E I H (.next it b):=rfl
def aqU(t:TypeId):ci E aL (.alloc t) I H=dh E I H (.alloc t):=rfl
def aqV(t:TypeId)(x:Operand):ci E aL (.box t x) I H=y9 (kq E t H (bo E I x) (E.sO t)):=rfl
def aqW(v:U)(H1:aa):y9 (some (v,H1))=if(cA v).all one then some (.ptr H1.length 0 0 0,H1++[.box (cA v)])else none:=rfl
def aqX(t:TypeId)(v:U):kq E t H v []=some (v,H):=rfl
def aqY(t:TypeId)(v:U)(ab:Nat)(r:List Nat):kq E t H v (ab::r)=vb v (jp (E.kinds t) (ab::r) H (cA v)):=rfl
def aqZ(v:U)(cs:List U)(H1:aa):vb v (some (cs,H1))=some (w7 v cs,H1):=rfl
def aq0(bs:List (Option Nat))(cs:List U):jp bs [] H cs=some (cs,H):=rfl
def JG(bs:List (Option Nat))(ab:Nat)(r:List Nat)(cs:List U):Option (aD×aa)→Option (List U×aa)
 |some (x,H1)=>jp bs r H1 (cs.set ab (.i (h7 (bs.getD ab none) x)))
 |none=>none
def aq1(bs:List (Option Nat))(ab:Nat)(r:List Nat)(cs:List U)(x:aD)(H1:aa):JG bs ab r cs (some (x,H1))=jp bs r H1 (cs.set ab (.i (h7 (bs.getD ab none) x))):=rfl
def O7(bs:List (Option Nat))(ab:Nat)(r:List Nat)(H:aa)(cs:List U):Option U→Option (List U×aa)
 |some a=>JG bs ab r cs (freeze H a)
 |none=>none
def aq2(bs:List (Option Nat))(ab:Nat)(r:List Nat)(cs:List U)(a:U):O7 bs ab r H cs (some a)=JG bs ab r cs (freeze H a):=rfl
def aq3(bs:List (Option Nat))(ab:Nat)(r:List Nat)(cs:List U):jp bs (ab::r) H cs=O7 bs ab r H cs cs[ab]?:=by
 simp only[jp,O7,JG];cases cs[ab]? with
 |none=>rfl
 |some a=>simp only;cases freeze H a<;>rfl
def aq4(l cs:List U):w7 (.agg l) cs=.agg cs:=rfl
def aq5(x:aD)(a:U)(r:List U):w7 (.i x) (a::r)=a:=rfl
def aq6(c g aj n:Nat)(a:U)(r:List U):w7 (.ref c g aj n) (a::r)=a:=rfl
def aq7(k:cP)(a:U)(r:List U):w7 (.x k) (a::r)=a:=rfl
def JH(E:Env)(H:aa)(I:Fr)(t:TypeId)(n:Nat)(bm:Array (Nat×Operand)):Option Nat→Option (U×aa)
 |none=>kT E H t n (bm.toList.map λ p=>(p.1,bo E I p.2))
 |some z=>tJ E H t z n (bm.toList.map λ p=>(p.1,bo E I p.2))
def aq8(t:TypeId)(n:Nat)(bm:Array (Nat×Operand)):JH E H I t n bm none=kT E H t n (bm.toList.map λ p=>(p.1,bo E I p.2)):=rfl
def aq9(t:TypeId)(n z:Nat)(bm:Array (Nat×Operand)):JH E H I t n bm (some z)=tJ E H t z n (bm.toList.map λ p=>(p.1,bo E I p.2)):=rfl
def aq_(t:TypeId)(n:Nat)(bm:Array (Nat×Operand)):ci E aL (.buildSlice t n bm) I H=JH E H I t n bm (HV E t n):=by show dh E I H (.buildSlice t n bm)=_;simp only[dh,JH];cases HV E t n<;>rfl
def W3:Option aa→Option (U×aa)
 |some ap=>some (.dead,ap)
 |none=>none
def aq'(ap:aa):W3 (some ap)=some (.dead,ap):=rfl
def ara(t:TypeId)(p v:U)(H1:aa):w8 E t p (some (v,H1))=W3 (nU E H1 t p v):=by show(nU E H1 t p v).map _=_;cases nU E H1 t p v<;>rfl
def arb(t:TypeId)(a x:Operand):ci E aL (.store t a x) I H=w8 E t (bo E I a) (kq E t H (bo E I x) (E.sO t)):=rfl
def JI(E:Env)(H:aa)(t:TypeId)(l c:U):Option Nat→Option (U×aa)
 |none=>i' E H t l c
 |some z=>tL z (i' E H t l c)
def arc(t:TypeId)(l c:U):JI E H t l c none=i' E H t l c:=rfl
def ard(t:TypeId)(l c:U)(z:Nat):JI E H t l c (some z)=tL z (i' E H t l c):=rfl
def are(t:TypeId)(l c:Operand):ci E aL (.makeSlice t l c) I H=JI E H t (bo E I l) (bo E I c) (sT E t):=by show dh E I H (.makeSlice t l c)=_;simp only[dh,JI];cases sT E t<;>rfl
def Ac{f:FuncId}(h:E.oy f=none)(J:E.sN f=false)(bI:List U):gn E aL f bI H=lg E aL f bI H:=by unfold gn;rw[h,J]
def W4{f:FuncId}(h:E.oy f=none)(J:E.sN f=true)(bI:List U):gn E aL f bI H=xc H (lg E aL f bI H):=by unfold gn;rw[h,J]
def W5{f fn:FuncId}(h:E.oy f=some fn)(bI:List U):gn E aL f bI H=xd H fn bI:=by unfold gn;rw[h]
def arf(fn:FuncId)(a:U):xd H fn [a]=if one a=true then some (.aR (.func fn) [] [.ptr H.length 0 0 0],H++[.box [a]])else none:=rfl
noncomputable def JJ(E:Env)(aL:dD)(H:aa)(bI:List U)(g:Nat):Bool→Option (U×aa)
 |true=>gn E aL g bI H
 |false=>none
def arh(bI:List U)(g:Nat):JJ E aL H bI g true=gn E aL g bI H:=rfl
noncomputable def O8(E:Env)(aL:dD)(H:aa)(args:List U):U→Option (U×aa)
 |.aR (.func g) first fy=>JJ E aL H (first++args++fy) g (li E g)
 |_=>none
def ari(args:List U)(g:Nat)(first fy:List U):O8 E aL H args (.aR (.func g) first fy)=JJ E aL H (first++args++fy) g (li E g):=rfl
def arj(x:Operand)(args:Array Operand)(e6:Array TypeId):ci E aL (.call ⟨.value x,args,e6⟩) I H=O8 E aL H (args.toList.map (bo E I)) (bo E I x):=by
 simp only[ci,xe,O8];split
 ·rename_i g bI aP;split at aP
  ·rename_i aY first fy al
   simp only[bj,bA]at aP;obtain⟨rfl,rfl⟩:=aP;rw[al];simp only[JJ];cases li E aY<;>simp
  ·cases aP
 ·rename_i aP;split at aP
  ·cases aP
  ·rename_i gp;split
   ·rename_i g first fy al;exact absurd al (gp _ _ _)
   ·rfl
def ga(aU:Nat→Option Nat):(∀a,bd a=[]→co aU a=a)∧(∀l,bz l=[]→cB aU l=l):=by
 refine⟨λ a=>?_,λ l=>?_⟩
 ·induction a using U.rec (motive_2:=λ l=>bz l=[]→cB aU l=l)<;>(try intro h)<;>simp_all [bd,bz,co,cB]
 ·induction l using U.rec_1 (motive_1:=λ a=>bd a=[]→co aU a=a)<;>(try intro h)<;>simp_all [bd,bz,co,cB]
def loops:Code→List Code
 |.seq a b=>loops a++loops b
 |.cond _ a b=>loops a++loops b
 |.block _ c=>loops c
 |.scope c=>loops c
 |.loop c=>.loop c::loops c
 |_=>[]
def e4(fn:Func)(k:Nat):Code:=((fn.body.map loops).getD []).getD k .skip
end
end Go.VI
namespace Go.VI
open Go.ChangeShapes
open Go.RowKit
open Go.WideShapes
set_option maxRecDepth 100000
set_option maxHeartbeats 40000000
set_option linter.unusedVariables false
set_option linter.unusedSimpArgs false
set_option linter.defProp false
section
variable{ob:Type}{enc:TypeId×Value→ob}{P:Program}{W:World}
end
inductive kc where
 |bool|int (k:IntKind)|str|ae (e:TypeId)
def jP(P:Program):Nat→TypeId→Option (List kc)
 |0,_=>none
 |d+1,t=>match P.underlying t with
  |some .bool=>some [.bool]
  |some (.int k)=>some [.int k]
  |some .string=>some [.str]
  |some (.slice e)=>match jP P d e with
   |some (_::_)=>some [.ae e]
   |_=>none
  |some (.array n e)=>(jP P d e).map λ l=>(cy n l).flatten
  |some (.struct eP)=>(eP.toList.mapM λ f=>jP P d f.type).map List.flatten
  |_=>none
inductive nf (P:Program):kc→aD→Prop
 |bool (b:Bool):nf P .bool (.v (.bool b))
 |int (k:IntKind) (n:Int) (h:(Lit.int k n).wf=true):nf P (.int k) (.v (.int k n))
 |str (l:List UInt8) (h:l.length≤maxLen):nf P .str (.str l)
 |ae (e:TypeId) (d:Nat) (cs:List kc) (rows:List (List aD)) (ah:jP P d e=some cs) (an:rows.length≤maxLen)
  (j:∀(i:Nat) (r:List aD),rows[i]?=some r→r.length=cs.length)
  (J:∀(i:Nat) (r:List aD) (k:Nat) (c:kc) (x:aD),rows[i]?=some r→cs[k]?=some c→r[k]?=some x→nf P c x):nf P (.ae e) (.ae (P.cellsOf e) rows false)
def lx(P:Program)(ad:cb):List Value→List kc→List aD→Prop
 |[],[],[]=>True
 |v::vs,c::cs,a::l=>ds ad a v∧nf P c a∧lx P ad vs cs l
 |_,_,_=>False
def lx.append{P:Program}{ad:cb}:∀{vs cs l W6 eG fs},lx P ad vs cs l→lx P ad W6 eG fs→lx P ad (vs++W6) (cs++eG) (l++fs)
 |[],[],[],_,_,_,_,h9=>h9
 |v::vs,c::cs,a::l,_,_,_,h,h9=>⟨h.1,h.2.1,lx.append h.2.2 h9⟩
 |[],_::_,_,_,_,_,h,_=>h.elim
 |[],[],_::_,_,_,_,h,_=>h.elim
 |_::_,[],_,_,_,_,h,_=>h.elim
 |_::_,_::_,[],_,_,_,h,_=>h.elim
def lx.len{P:Program}{ad:cb}:∀{vs cs l},lx P ad vs cs l→vs.length=l.length∧cs.length=l.length
 |[],[],[],_=>⟨rfl,rfl⟩
 |v::vs,c::cs,a::l,h=>by have:=lx.len h.2.2;simp[this.1,this.2]
 |[],_::_,_,h=>h.elim
 |[],[],_::_,h=>h.elim
 |_::_,[],_,h=>h.elim
 |_::_,_::_,[],h=>h.elim
def lx.at{P:Program}{ad:cb}:∀{vs cs l},lx P ad vs cs l→∀(k:Nat) (a:aD),l[k]?=some a→∃v c,vs[k]?=some v∧cs[k]?=some c∧ds ad a v∧nf P c a
 |[],[],[],_,k,a,aB=>by simp at aB
 |v::vs,c::cs,b::l,h,0,a,aB=>by simp at aB;subst aB;exact⟨v,c,rfl,rfl,h.1,h.2.1⟩
 |v::vs,c::cs,b::l,h,k+1,a,aB=>lx.at h.2.2 k a (by simpa using aB)
 |[],_::_,_,h,_,_,_=>h.elim
 |[],[],_::_,h,_,_,_=>h.elim
 |_::_,[],_,h,_,_,_=>h.elim
 |_::_,_::_,[],h,_,_,_=>h.elim
def ark{P:Program}:∀(d:Nat) (t:TypeId) (l:List kc),jP P d t=some l→jP P (d+1) t=some l:=by
 intro d;induction d with
 |zero=>intro t l h;cases h
 |succ d a8=>
  intro t l h;rw[jP]at h⊢;split at h
  ·exact h
  ·exact h
  ·exact h
  ·rename_i e _;split at h
   ·rename_i c r ah;rw[a8 _ _ ah];exact h
   ·cases h
  ·rename_i n e _;cases ah:jP P d e with
   |none=>rw[ah]at h;cases h
   |some fs=>rw[ah]at h;rw[a8 _ _ ah];exact h
  ·rename_i eP _;cases ah:eP.toList.mapM (λ f=>jP P d f.type)with
   |none=>rw[ah]at h;cases h
   |some fs=>rw[ah]at h;rw[mapM_carry ah (λ f y _ _ aZ=>a8 _ _ aZ)];exact h
  ·cases h
def W7{P:Program}{d hR:Nat}(aM:d≤hR){t:TypeId}{l:List kc}(h:jP P d t=some l):jP P hR t=some l:=by
 induction aM with
 |refl=>exact h
 |step _ a8=>exact ark _ _ _ a8
def arl{P:Program}{d hR:Nat}{t:TypeId}{l fs:List kc}(h:jP P d t=some l)(h9:jP P hR t=some fs):l=fs:=by have j:=W7 (Ct d hR) h;have J:=W7 (Cu d hR) h9;exact qf (j.symm.trans J)
section
variable{ob:Type}{enc:TypeId×Value→ob}{P:Program}{W:World}{l5:Nat→Bool}{held:Bool}
def trod_array{t e:TypeId}{m oY:Nat}{cs:List Value}{x:DataW ob×List MemPlace}(bq:P.underlying t=some (.array m e))(h:su enc P W 0 l5 held oY t cs=some x):
  ∃n,oY=n+1∧cs.length=P.cellsOf t∧∀i,i<m→∃y,su enc P W 0 l5 held n e ((cs.drop (i*P.cellsOf e)).take (P.cellsOf e))=some y:=by
 cases oY with
 |zero=>simp[su]at h
 |succ n=>unfold su at h;rw[bq]at h;split at h<;>simp_all;obtain⟨an,xs,av,aM⟩:=h;intro i aA;have j:=mapM_some_get av i i (by simp[JK,aA]);have J:=mapM_some_length av;rw[List.length_range]at J;have aw:i<xs.length:=R;rw[j,eT aw];exact⟨xs[i].1,xs[i].2,rfl⟩
def Ad{a:Addr}{n:Nat}{cs:List Value}(h:W.cells? 0 a n=some cs):cs.length=n∧∀i,i<n→W.cell? (a.add i)=cs[i]?:=by unfold World.cells? at h;rw[if_pos (ig _)]at h;have J:=mapM_some_length h;exact⟨by simpa using J,λ i aA=>mapM_some_get h i i (by simp[aA])⟩
def arm{n:Nat}(rd:∀(d:Nat) (t:TypeId) (cs:List Value) (x:DataW ob×List MemPlace) (qw:List kc),t<P.types.size→jP P d t=some qw→su enc P W 0 l5 held n t cs=some x→∃l,lx P (nD W) cs qw l)(d:Nat):
  ∀(cY:List Field) (aL:List (List kc)) (cs:List Value),cY.mapM (λ f=>jP P d f.type)=some aL→(∀f∈cY,f.type<P.types.size)→cs.length=(cY.map λ f=>P.cellsOf f.type).sum→
   (∀(ab:Nat) f,cY[ab]?=some f→∃x,su enc P W 0 l5 held n f.type ((cs.drop ((cY.take ab).map λ f=>P.cellsOf f.type).sum).take (P.cellsOf f.type))=some x)→
   ∃l,lx P (nD W) cs aL.flatten l:=by
 intro cY;induction cY with
 |nil=>intro aL cs h _ hlen _;simp at h hlen;subst h;obtain rfl:cs=[]:=hlen;exact⟨[],trivial⟩
 |cons f cY a8=>
  intro aL cs h zO hlen al;rw[MR]at h;cases j:jP P d f.type with
  |none=>rw[j]at h;cases h
  |some ca=>
   cases J:cY.mapM (λ f=>jP P d f.type)with
   |none=>rw[j,J]at h;cases h
   |some cc=>
    rw[j,J]at h;have h9:some (ca::cc)=some aL:=h;cases h9;obtain⟨x,zt⟩:=al 0 f rfl;simp only[nc,fp,List.sum_nil,iy]at zt;obtain⟨c7,g1⟩:=rd d f.type _ x ca (zO f (by simp)) j zt;simp only[fk,List.sum_cons]at hlen;obtain⟨eS,g2⟩:=a8 cc (cs.drop (P.cellsOf f.type)) J (λ g aP=>zO g (by simp[aP])) (by rw[ic];omega) (λ ab g aP=>by
     obtain⟨y,aZ⟩:=al (ab+1) g (by simpa using aP);simp only[vM,fk,List.sum_cons]at aZ;exact⟨y,by rw[If];exact aZ⟩)
    refine⟨c7++eS,?_⟩;have:=g1.append g2;rw[JL]at this;simpa using this
def arn{n:Nat}{e:TypeId}{ca:List kc}(rd:∀(cs:List Value) (x:DataW ob×List MemPlace),su enc P W 0 l5 held n e cs=some x→∃l,lx P (nD W) cs ca l):
  ∀(m:Nat) (cs:List Value),cs.length=m*P.cellsOf e→(∀i,i<m→∃y,su enc P W 0 l5 held n e ((cs.drop (i*P.cellsOf e)).take (P.cellsOf e))=some y)→∃l,lx P (nD W) cs (cy m ca).flatten l:=by
 intro m;induction m with
 |zero=>
  intro cs hlen _;obtain rfl:cs=[]:=by simpa using hlen
  exact⟨[],trivial⟩
 |succ m a8=>
  intro cs hlen al;obtain⟨x,zt⟩:=al 0 R;simp only[Nat.zero_mul,iy]at zt;obtain⟨c7,g1⟩:=rd _ x zt;rw[Nat.succ_mul]at hlen;obtain⟨eS,g2⟩:=a8 (cs.drop (P.cellsOf e)) (by rw[ic];omega) (λ i aA=>by
   obtain⟨y,aZ⟩:=al (i+1) R;rw[Nat.succ_mul,qv]at aZ;exact⟨y,by rw[If];exact aZ⟩)
  refine⟨c7++eS,?_⟩;have:=g1.append g2;rw[JL]at this;simpa[EK]using this
def aro(an:laidOutB P=true):∀(n d:Nat) (t:TypeId) (cs:List Value) (x:DataW ob×List MemPlace) (qw:List kc),t<P.types.size→jP P d t=some qw→
  su enc P W 0 l5 held n t cs=some x→∃l,lx P (nD W) cs qw l:=by
 intro n;induction n with
 |zero=>intro d t cs x qw _ _ h;simp[su]at h
 |succ n a8=>
  intro d t cs x qw bq ah h;cases d with
  |zero=>cases ah
  |succ d=>
   rw[jP]at ah;split at ah
   ·rename_i hu;cases ah;obtain⟨b,rfl,rfl⟩:=DataW.trod_bool hu h;exact⟨[.v (.bool b)],.v _ rfl,.bool b,trivial⟩
   ·rename_i k hu;cases ah;obtain⟨z,rfl,rfl,hw⟩:=DataW.trod_int hu h;exact⟨[.v (.int k z)],.v _ rfl,.int k z hw,trivial⟩
   ·rename_i hu;cases ah;obtain⟨s,rfl,rfl,hw⟩:=DataW.trod_string hu h;exact⟨[.str s.data.toList],.str _,.str _ (by simpa using hw),trivial⟩
   ·rename_i e hu;split at ah
    ·rename_i gA ca he;cases ah;rcases DataW.trod_slice hu h with⟨rfl,_⟩|⟨a,len,cap,O9,rest,dO,aF,rfl,_,_,xQ,hm,JM,oc,_,_⟩
     ·exact⟨[.ae (P.cellsOf e) [] false],.nil _ _ _ _ (λ h=>by cases h),.ae e d _ [] he (ig _) (λ i r h=>by simp at h) (λ i r k c x h=>by simp at h),trivial⟩
     ·cases aF;have pq:e<P.types.size:=(kid_slice an bq hu);have hex:∀i,∃l,i<len→∃eG,W.cells? 0 (a.add (i*P.cellsOf e)) (P.cellsOf e)=some eG∧lx P (nD W) eG (gA::ca) l:=by
       intro i;by_cases aA:i<len
       ·have j:=oc i aA;have J:O9[i]?=some O9[i]:=eT R;rw[J,BK]at j;obtain⟨eG,aw,bb⟩:=j;obtain⟨l,aP⟩:=a8 d e eG _ _ pq he bb;exact⟨l,λ _=>⟨eG,aw,aP⟩⟩
       ·exact⟨[],λ h=>absurd h aA⟩
      obtain⟨f,aK⟩:=Classical.skolem.1 hex;have bZ:∀i r,((hg len).map f)[i]?=some r→i<len∧r=f i:=by intro i r ai;simp only[fA,c0,JK]at ai;obtain⟨ab,a',rfl⟩:=ai;rw[bF]at a';obtain⟨j,J⟩:=a';simp at j J;subst J;exact⟨j,rfl⟩
      have zn:nf P (.ae e) (.ae (P.cellsOf e) ((hg len).map f) false):=by
       refine .ae e d _ _ he (by simp;omega) (λ i r ai=>?_) (λ i r k c y ai ah aZ=>?_)
       ·obtain⟨aA,rfl⟩:=bZ i r ai;obtain⟨eG,_,aP⟩:=aK i aA;exact aP.len.2.symm
       ·obtain⟨aA,rfl⟩:=bZ i r ai;obtain⟨eG,_,aP⟩:=aK i aA;obtain⟨v,cp,_,J,_,bb⟩:=aP.at k y aZ;rw[ah]at J;cases J;exact bb
      refine⟨[.ae (P.cellsOf e) ((hg len).map f) false],?_,zn,trivial⟩;by_cases aV:len=0
      ·subst aV;exact .nil _ _ _ cap (λ h=>by cases h)
      ·obtain⟨xA,gf,Ol⟩:=aK 0 R;have bg:0<P.cellsOf e:=by have:=(Ad gf).1;have J:=Ol.len;simp at J;omega
       have el:=(Ad gf).2 0 bg;have W8:=(Ad gf).1;obtain⟨b,off,spot⟩:=a;have gp:xA[0]?=some xA[0]:=eT R;rw[gp]at el;unfold sf at el;split at el
       ·rename_i cs zC bl fm;split at el
        ·cases el
        ·rename_i arp;have arq:spot=none:=by cases spot with|none=>rfl|some _=>simp[Addr.add]at arp
         subst arq;have aB:∀aj i,Addr.add ⟨b,aj,none⟩ i=⟨b,aj+i,none⟩:=by intro aj i;unfold Addr.add;split<;>simp_all
         simp only[aB]at fm;have qm:∀i,i<len→∀k,k<P.cellsOf e→∀eG,W.cells? 0 (Addr.add ⟨b,off,none⟩ (i*P.cellsOf e)) (P.cellsOf e)=some eG→cs[off+i*P.cellsOf e+k]?=eG[k]?:=by intro i aA k az eG k0;have:=(Ad k0).2 k az;simp only[aB]at this;unfold sf at this;simp only[fm]at this;simpa using this
         have key:=ds.ae (ad:=nD W) (P.cellsOf e) ((hg len).map f) false b off cap cs zC bl (λ i k=>(cs[off+i*P.cellsOf e+k]?).getD undef) fm (by simp;omega) (λ h=>by cases h)
          (λ i r ai=>by
           obtain⟨aA,rfl⟩:=bZ i r ai;obtain⟨eG,j,aP⟩:=aK i aA;rw[←aP.len.1];exact(Ad j).1)
          (λ i r k y ai aZ=>by
           obtain⟨aA,rfl⟩:=bZ i r ai;obtain⟨eG,j,aP⟩:=aK i aA;obtain⟨v,cp,J,_,_,_⟩:=aP.at k y aZ;have az:k<P.cellsOf e:=by rw[←(Ad j).1];exact(bF.1 J).1
           rw[qm i aA k az eG j,J];rfl)
          (λ i r k y ai aZ=>by
           obtain⟨aA,rfl⟩:=bZ i r ai;obtain⟨eG,j,aP⟩:=aK i aA;obtain⟨v,cp,J,_,aw,_⟩:=aP.at k y aZ;have az:k<P.cellsOf e:=by rw[←(Ad j).1];exact(bF.1 J).1
           rw[qm i aA k az eG j,J];exact aw)
         have F2:((hg len).map f).length=len:=by simp
         rw[F2]at key;exact key
       ·cases el
    ·cases ah
   ·rename_i m e hu;cases gL:jP P d e with
    |none=>rw[gL]at ah;cases ah
    |some ca=>rw[gL]at ah;have k0:some (cy m ca).flatten=some qw:=ah;cases k0;obtain⟨dO,aF,hlen,al⟩:=trod_array hu h;cases aF;obtain⟨bG,bH⟩:=kid_array an bq hu;exact arn (λ cs x al=>a8 d e cs x ca bG gL al) m cs (by rw[hlen,bH]) al
   ·rename_i eP hu;cases gL:eP.toList.mapM (λ f=>jP P d f.type)with
    |none=>rw[gL]at ah;cases ah
    |some ca=>
     rw[gL]at ah;have k0:some ca.flatten=some qw:=ah;cases k0;obtain⟨xs,dO,aF,_,hlen,O_,al⟩:=DataW.trod_struct hu h;cases aF;obtain⟨bG,bH,cG⟩:=kid_struct an bq hu;refine arm (λ d t cs x qw=>a8 d t cs x qw) d eP.toList ca cs gL bG (by rw[hlen,bH]) (λ ab f aK=>?_);have j:=al ab f (by simpa using aK);have a':ab<xs.length:=by have:=(bF.1 aK).1;simp at this;omega
     rw[cG ab f aK,eT a']at j;exact⟨_,j⟩
   ·cases ah
def arr(an:laidOutB P=true){t:TypeId}{v:Value}{d:DataW ob}{bm:List MemPlace}{qw:List kc}(D:Nat)(bq:t<P.types.size)(ah:jP P D t=some qw)
  (aM:JN enc P W 0 l5 held t v d bm):∃l,lx P (nD W) v.cells.toList qw l:=by
 obtain⟨n,aF⟩:=aM;exact aro an n D t _ _ _ bq ah aF
def stays(an:laidOutB P=true){t:TypeId}{v:Value}{d:DataW ob}{bm:List MemPlace}{lv:World}(ai:P.readableRec t=true)(bq:t<P.types.size)
  (aM:JN enc P W 0 (λ _=>true) true t v d bm)(b':Cx W lv)(x5:∀p∈bm,p.block<W.heap.size)(W9:Nat→Bool)(aS:∀p∈bm,W9 p.block=true):JN enc P lv 0 W9 true t v d bm:=
 WideElems.Trod_stays an ai bq aM (λ p av=>by
  have:=b'.heap _ (x5 p av);cases p with
  |cell b off=>simp only[World.sameAt,sf,MemPlace.block]at this⊢;rw[this]
  |map b=>exact this) aS
def k3(P:Program):List kc→List aD→Prop
 |[],[]=>True
 |c::cs,a::l=>nf P c a∧k3 P cs l
 |_,_=>False
def lx.dM{P:Program}{ad:cb}:∀{vs cs l},lx P ad vs cs l→k3 P cs l
 |[],[],[],_=>trivial
 |v::vs,c::cs,a::l,h=>⟨h.2.1,lx.dM h.2.2⟩
 |[],_::_,_,h=>h.elim
 |[],[],_::_,h=>h.elim
 |_::_,[],_,h=>h.elim
 |_::_,_::_,[],h=>h.elim
def k3.nil{l:List aD}(h:k3 P [] l):l=[]:=by cases l with|nil=>rfl|cons a l=>exact h.elim
def k3.cons{c:kc}{cs:List kc}{l:List aD}(h:k3 P (c::cs) l):∃a fs,l=a::fs∧nf P c a∧k3 P cs fs:=by cases l with|nil=>exact h.elim|cons a l=>exact⟨a,l,rfl,h.1,h.2⟩
def nf.of_bool{a:aD}(h:nf P .bool a):∃b,a=.v (.bool b):=by cases h;exact⟨_,rfl⟩
def nf.of_int{a:aD}{k:IntKind}(h:nf P (.int k) a):∃n,a=.v (.int k n)∧(Lit.int k n).wf=true:=by cases h;exact⟨_,rfl,by assumption⟩
def nf.ars{a:aD}(h:nf P .str a):∃s,a=.str s∧s.length≤maxLen:=by cases h;exact⟨_,rfl,by assumption⟩
def W_:∀{cs:List kc} {l:List aD},l.length=cs.length→(∀(k:Nat) (c:kc) (x:aD),cs[k]?=some c→l[k]?=some x→nf P c x)→k3 P cs l
 |[],[],_,_=>trivial
 |c::cs,a::l,an,h=>⟨h 0 c a rfl rfl,W_ (by simpa using an) λ k c x ah al=>h (k+1) c x (by simpa using ah) (by simpa using al)⟩
 |[],_::_,an,_=>by simp at an
 |_::_,[],an,_=>by simp at an
def nf.art{a:aD}{e:TypeId}(h:nf P (.ae e) a){D:Nat}{cs:List kc}(ah:jP P D e=some cs):∃rows,a=.ae (P.cellsOf e) rows false∧rows.length≤maxLen∧∀r∈rows,k3 P cs r:=by
 cases h with
 |ae e d eG rows k0 an j J=>
  cases arl ah k0;refine⟨rows,rfl,an,λ r ai=>?_⟩;obtain⟨i,aA⟩:=List.getElem?_of_mem ai;exact W_ (j i r aA) λ k c x ah al=>J i r k c x aA ah al
def k3.bool{cs:List kc}{l:List aD}(h:k3 P (.bool::cs) l):∃b fs,l=.v (.bool b)::fs∧k3 P cs fs:=by obtain⟨a,fs,rfl,j,J⟩:=h.cons;obtain⟨b,rfl⟩:=j.of_bool;exact⟨b,fs,rfl,J⟩
def k3.int{k:IntKind}{cs:List kc}{l:List aD}(h:k3 P (.int k::cs) l):∃n fs,l=.v (.int k n)::fs∧(Lit.int k n).wf=true∧k3 P cs fs:=by obtain⟨a,fs,rfl,j,J⟩:=h.cons;obtain⟨n,rfl,aF⟩:=j.of_int;exact⟨n,fs,rfl,aF,J⟩
def k3.str{cs:List kc}{l:List aD}(h:k3 P (.str::cs) l):∃s fs,l=.str s::fs∧s.length≤maxLen∧k3 P cs fs:=by obtain⟨a,fs,rfl,j,J⟩:=h.cons;obtain⟨s,rfl,aF⟩:=j.ars;exact⟨s,fs,rfl,aF,J⟩
def k3.ae{e:TypeId}{cs:List kc}{l:List aD}(h:k3 P (.ae e::cs) l){D:Nat}{eG:List kc}(ah:jP P D e=some eG):
  ∃rows fs,l=.ae (P.cellsOf e) rows false::fs∧rows.length≤maxLen∧(∀r∈rows,k3 P eG r)∧k3 P cs fs:=by
 obtain⟨a,fs,rfl,j,J⟩:=h.cons;obtain⟨rows,rfl,aF,ai⟩:=j.art ah;exact⟨rows,fs,rfl,aF,ai,J⟩
def rows_map{α:Type}(f:α→List aD)(p:α→Prop):∀{rows:List (List aD)},(∀r∈rows,∃a,r=f a∧p a)→∃l:List α,rows=l.map f∧∀a∈l,p a
 |[],_=>⟨[],rfl,λ a h=>by simp at h⟩
 |r::rows,h=>by
  obtain⟨a,rfl,aB⟩:=h r (by simp);obtain⟨l,rfl,an⟩:=rows_map f p (rows:=rows) λ r ai=>h r (by simp[ai])
  exact⟨a::l,rfl,by simpa using⟨aB,an⟩⟩
variable{r:Reach}{cV:Nat}{t:TypeId}{v:Value}{d:DataW ob}{bm:List MemPlace}
def read_sl(an:laidOutB P=true){e:TypeId}{D:Nat}{cs:List kc}(bq:t<P.types.size)(hu:P.underlying t=some (.slice e))(ah:jP P D e=some cs)(O':jP P (D+1) t=some [.ae e])(aru:Value.okWide P W r cV t v)(aM:JN enc P W 0 l5 held t v d bm):
  ∃rows,a7 (nD W) z' [] (.i (.ae (P.cellsOf e) rows false)) v∧rows.length≤maxLen∧∀r∈rows,k3 P cs r:=by
 obtain⟨l,aP⟩:=arr an (D+1) bq O' aM;obtain⟨a,len,cap,rfl⟩:=okWide_slice hu aru;obtain⟨rows,fs,rfl,j,J,aw⟩:=aP.dM.ae ah;have:=aP.1;exact⟨rows,.i _ _ this,j,J⟩
end
def JO{ob:Type}:DataW ob→Nat
 |.slice a b=>a.length+b.length
 |_=>0
section
variable{ob:Type}{enc:TypeId×Value→ob}{P:Program}{W:World}{l5:Nat→Bool}{held:Bool}
def sl_dlen{t e:TypeId}{v:Value}{d:DataW ob}{bm:List MemPlace}{ad:cb}{ac:b9}{H:aa}{z:Nat}{rows:List (List aD)}{ex:Bool}(hu:P.underlying t=some (.slice e))(aM:JN enc P W 0 l5 held t v d bm)
  (ai:a7 ad ac H (.i (.ae z rows ex)) v):rows.length≤JO d:=by
 obtain⟨n,aF⟩:=aM;cases ai with
 |i x v h=>
  rcases DataW.trod_slice hu aF with⟨bi,al⟩|⟨a,len,cap,O9,rest,dO,_,bi,al,_,_,_,JM,_⟩
  ·cases h with
   |nil=>exact ig _
   |ae ay rows ex b off cap cs elem bl dB cd ah s9 xj j J=>simp[sg]at bi
  ·cases h with
   |nil=>exact ig _
   |ae ay rows ex b off Pa cs elem bl dB cd ah s9 xj j J=>simp[sg]at bi;simp only[bA]at al;rw[al.1];simp only[JO,lX];omega
def weight_at{t e:TypeId}:∀{fa:List TypeId} {cI:List (DataW ob)} (ab:Nat) {d:DataW ob},(DataW.weightsEach P fa cI).all (·≤reachBytes)=true→fa[ab]?=some t→cI[ab]?=some d→P.underlying t=some (.slice e)→JO d*P.bytesOf e≤reachBytes
 |[],_,ab,d,_,bq,_,_=>by simp at bq
 |_::_,[],ab,d,_,_,aM,_=>by simp at aM
 |iR::fa,hR::cI,0,d,h,bq,aM,hu=>by
  simp at bq aM;subst bq;subst aM;simp only[DataW.weightsEach,List.all_append,cO]at h;cases hR with
  |slice a b=>have j:=h.1;simp only[DataW.weights,hu,CA,cO,decide_eq_true_eq]at j;exact j.1
  |_=>simp[JO]
 |iR::fa,hR::cI,ab+1,d,h,bq,aM,hu=>by simp only[DataW.weightsEach,List.all_append,cO]at h;exact weight_at ab h.2 (by simpa using bq) (by simpa using aM) hu
end
def rng_u8{n:Int}(h:(Lit.int .u8 n).wf=true):0≤n∧n≤255:=by simp only[Lit.wf,cO,IntKind.min,IntKind.max,sv,sw]at h;simp at h;omega
end Go.VI
namespace Go.VI
set_option maxRecDepth 100000
set_option maxHeartbeats 40000000
set_option linter.unusedVariables false
set_option linter.unusedSimpArgs false
set_option linter.defProp false
section
variable{E:Env}{aL:dD}{H:aa}
def dj(E:Env)(aL:dD)(f:FuncId)(hJ:List U)(H1:aa):Option (U×aa):=
 let aW:=reach H1 64 (bz hJ) []
 let Et:=bt aW
 match e0 E aL f (cB Et hJ) (aW.map λ c=>((H1[c]?).map (Chunk.cL Et)).getD (.iter [] 0))with
 |none=>none
 |some (r,L)=>if L.length<aW.length then none else
  let K:=(reach L 64 (bd r++(L.take aW.length).flatMap Chunk.refs) []).filter λ i=>decide (aW.length≤i)
  let back:=dm aW H1.length K
  some (co back r,ef H1 aW ((L.take aW.length).map (Chunk.cL back))++K.map λ i=>((L[i]?).map (Chunk.cL back)).getD (.iter [] 0))
def ti(E:Env)(aL:dD)(f:FuncId):Option (List U×aa)→Option (U×aa)
 |some (bI,H1)=>dj E aL f bI H1
 |none=>none
def arv(f:FuncId)(bI:List U)(H1:aa):ti E aL f (some (bI,H1))=dj E aL f bI H1:=rfl
def vY{f:FuncId}(args:List U):lg E aL f args H=ti E aL f (ja E f H args):=by
 unfold lg;cases ja E f H args with
 |none=>rfl
 |some x=>rfl
def gX{g:Nat}{bI:List U}{r:U}(he:E.ext g=none)(ai:bz bI=[])(iw:bd r=[])(ah:∃L,aL g bI []=some (r,L)):dj E aL g bI H=some (r,H):=by
 obtain⟨L,ah⟩:=ah;have j:=(ga (bt [])).2 bI ai;have J:∀aU,co aU r=r:=λ aU=>(ga aU).1 r iw
 unfold dj;simp[e0,he,ai,reach,j,ah,iw,J,ef]
def F3{f:FuncId}{h:List U→List Chunk→Option (U×List Chunk)}(he:E.ext f=some h)(bI:List U):dj E aL f bI H=dj {E with ext:=λ _=>none} (λ _=>h) f bI H:=by unfold dj e0;rw[he]
def CB(H:aa)(aW:List Nat)(r:U)(L:aa)(K:List Nat):Option (U×aa):=
 some (co (dm aW H.length K) r,ef H aW ((L.take aW.length).map (Chunk.cL (dm aW H.length K)))++K.map λ i=>((L[i]?).map (Chunk.cL (dm aW H.length K))).getD (.iter [] 0))
def Pb(H:aa)(aW:List Nat):Option (U×aa)→Option (U×aa)
 |none=>none
 |some (r,L)=>if L.length<aW.length then none else CB H aW r L ((reach L 64 (bd r++(L.take aW.length).flatMap Chunk.refs) []).filter λ i=>decide (aW.length≤i))
def CC(E:Env)(aL:dD)(f:FuncId)(bI:List U)(H:aa)(aW:List Nat):Option (U×aa):=Pb H aW (aL f (cB (bt aW) bI) (aW.map λ c=>((H[c]?).map (Chunk.cL (bt aW))).getD (.iter [] 0)))
def JP{f:FuncId}(he:E.ext f=none)(bI:List U):dj E aL f bI H=CC E aL f bI H (reach H 64 (bz bI) []):=by unfold dj CC Pb;simp only[e0,he];generalize aL f _ _=q;cases q<;>rfl
def JQ(aW:List Nat)(r:U)(L:aa):Pb H aW (some (r,L))=if L.length<aW.length then none else CB H aW r L ((reach L 64 (bd r++(L.take aW.length).flatMap Chunk.refs) []).filter λ i=>decide (aW.length≤i)):=rfl
def Pc(aU:Nat→Option Nat):∀es:List (aD×U),w9 es=[]→y_ aU es=es
 |[],_=>rfl
 |p::r,h=>by simp only[w9,Pd]at h;simp only[y_,(ga aU).1 p.2 h.1,Pc aU r h.2]
def sx{L:aa}{c:Nat}{x:Chunk}(h:L[c]?=some x)(al:x.refs=[]):reach L 64 [c] []=[c]:=by
 have an:¬L.length≤c:=by have:=(bF.1 h).1;omega
 simp[reach,h,al,an]
def vZ{g:Nat}{bI:List U}{c od aj n:Nat}{x:Chunk}(he:E.ext g=none)(ai:bz bI=[])(al:x.refs=[])(ah:∃L,aL g bI []=some (.ref c od aj n,L)∧L[c]?=some x):
  dj E aL g bI H=some (.ref H.length od aj n,H++[x]):=by
 obtain⟨L,ah,fh⟩:=ah;have j:=(ga (bt [])).2 bI ai;have l6:∀aU,x.cL aU=x:=by
  intro aU;cases x with
  |box cells=>exact congrArg Chunk.box ((ga aU).2 cells al)
  |cZ t cells=>exact congrArg (Chunk.cZ t) ((ga aU).2 cells al)
  |map es=>exact congrArg Chunk.map (Pc aU es al)
  |_=>rfl
 have dc:=sx fh al;unfold dj;rw[ai];simp only[e0,he,reach,j,fp,ah,dx,rz,if_false,nc,sy,c_,bd,dc];simp[co,dm,bt,fh,l6,ef]
end
def W'(E:Env)(t t2:TypeId):Option Nat:=
 match e5 E.P t with
 |some e=>match fM E.P e,tF E.P e,kO E.P e with
  |some z,some b,some dZ=>if 0<z∧b≤65536∧((e5 E.P t2).isSome=true∨hG E.P t2=true)∧(cA dZ).length=z∧(cA dZ).all one=true then some z else none
  |_,_,_=>none
 |none=>none
def F4(z:Nat)(H:aa)(c g off len:Nat)(new:List (List aD)):Option Chunk→Option (U×aa)
 |some (.ae ay aY rows ex)=>if g=aY∧off=0∧ay=z∧len+new.length<1073741824 then
  some (.ref c (g+1) 0 (len+new.length),H.set c (.ae z (g+1) (rows.take len++new) (ex &&rows.isEmpty &&new.isEmpty)))else none
 |some (.bl ay aY rows ex)=>if g=aY∧off=0∧ay=z∧ex=true∧len=rows.length∧new≠[]∧len+new.length<1073741824 then
  some (.ref H.length 0 0 (len+new.length),H++[.ae z 0 (rows++new) false])else none
 |_=>none
def CD(z:Nat)(H:aa)(new:List (List aD)):U→Option (U×aa)
 |.i (.ae ay rows ex)=>if ex=true∧(rows=[]∨(ay=z∧new≠[]))∧rows.length+new.length<1073741824 then
  some (.ref H.length 0 0 (rows.length+new.length),H++[.ae z 0 (rows++new) (rows.isEmpty &&new.isEmpty)])else none
 |.ref c g off len=>F4 z H c g off len new H[c]?
 |_=>none
def tj(z:Nat)(H:aa)(s:U):Option (Nat×List (List aD)×Bool)→Option (U×aa)
 |some (db,new,_)=>if new=[]∨db=z then CD z H new s else none
 |none=>none
def x8{E:Env}{t t2 z:Nat}(h:W' E t t2=some z)(H:aa)(s x:U):hI E H t t2 s x=tj z H s (kU H x):=by
 unfold W' at h;split at h
 ·rename_i e he;split at h
  ·rename_i fr b dZ j J aw;split at h
   ·rename_i ah;cases h;unfold hI;rw[he];simp only[j,J,aw];cases al:kU H x with
    |none=>rfl
    |some y=>
     obtain⟨db,new,Ff⟩:=y;simp only[tj];by_cases aF:new=[]∨db=z
     ·rw[if_pos aF,if_pos ⟨aF,ah⟩];cases s with
      |i x=>cases x<;>rfl
      |ref c g off len=>
       simp only[CD];cases H[c]? with
       |none=>rfl
       |some b7=>cases b7<;>rfl
      |_=>rfl
     ·rw[if_neg aF,if_neg (λ h=>aF h.1)]
   ·cases h
  ·cases h
 ·cases h
def uq(z:Nat)(H:aa):U→Option (Nat×List (List aD)×Bool)→Option (U×aa)
 |.ref c g off len,some (db,new,_)=>if new=[]∨db=z then y7 z g off len new H c H[c]? else none
 |_,_=>none
def Ae{E:Env}{t e z:Nat}(j:e5 E.P t=some e)(J:fM E.P e=some z)(aw:0<z)(H:aa)(d x:U):ns E H t d x=uq z H d (hP H x):=by
 unfold ns uq;rw[j];simp only[J];cases d<;>cases hP H x<;>first|rfl|simp only[aw,and_true]
def arw(z:Nat)(H:aa)(c g off len db:Nat)(new:List (List aD))(ex:Bool):uq z H (.ref c g off len) (some (db,new,ex))=if new=[]∨db=z then y7 z g off len new H c H[c]? else none:=rfl
def arx(z g off len:Nat)(new:List (List aD))(H:aa)(c ay aY:Nat)(rows:List (List aD))(ex:Bool):y7 z g off len new H c (some (.ae ay aY rows ex))=if g=aY∧ay=z then
 some (.int .i64 (min new.length len:Nat),H.set c (.ae z aY (rows.take off++(new.take len++rows.drop (off+min new.length len))) ex))else none:=rfl
def JR(E:Env)(t:TypeId):Option (Nat×List U×List (Option Nat)):=
 match e5 E.P t with
 |some e=>match fM E.P e,kO E.P e with
  |some z,some zero=>if(cA zero).length=z∧0<z∧(cA zero).all one=true then some (z,cA zero,E.kinds e)else none
  |_,_=>none
 |none=>none
def Pe(bs:List (Option Nat))(z n:Nat):Option (List aD×aa)→Option (U×aa)
 |some (xs,H1)=>some (.ref H1.length 0 0 n,H1++[.ae z 0 (pk z n (hW (cy n bs).flatten xs)) true])
 |none=>none
def rD(bs:List (Option Nat))(z n:Nat)(H:aa):Option (List U)→Option (U×aa)
 |some cells=>Pe bs z n (fI H cells)
 |none=>none
def ur{E:Env}{t z:Nat}{lo:List U}{bs:List (Option Nat)}(h:JR E t=some (z,lo,bs))(H:aa)(n:Nat)(aF:n*z≤16777216)(parts:List (Nat×U)):
  kT E H t n parts=rD bs z n H (fW z (cy n lo).flatten parts):=by
 unfold JR at h;split at h
 ·rename_i e he;split at h
  ·rename_i fr zero j J;split at h
   ·rename_i ah;cases h;unfold kT;rw[he];simp only[j,J];rw[if_pos ⟨aF,ah⟩];cases fW z (cy n (cA zero)).flatten parts with
    |none=>rfl
    |some cells=>
     simp only[rD];cases fI H cells with
     |none=>rfl
     |some y=>rfl
   ·cases h
  ·cases h
 ·cases h
def rE:Option (List U)→List Nat
 |some c=>bz c
 |none=>[]
def ary(c:List U):rE (some c)=bz c:=rfl
def us{E:Env}{t z:Nat}{lo:List U}{bs:List (Option Nat)}(h:JR E t=some (z,lo,bs))(n:Nat)(parts:List (Nat×U)):
  nt E t n parts=rE (fW z (cy n lo).flatten parts):=by
 unfold JR at h;split at h
 ·rename_i e he;split at h
  ·rename_i fr zero j J;split at h
   ·rename_i ah;cases h;unfold nt rE;rw[he];simp only[j,J];cases fW z (cy n (cA zero)).flatten parts<;>rfl
   ·cases h
  ·cases h
 ·cases h
def arz(bs:List (Option Nat))(z n:Nat)(H:aa)(cells:List U):rD bs z n H (some cells)=Pe bs z n (fI H cells):=rfl
def arA(bs:List (Option Nat))(z n:Nat)(xs:List aD)(H1:aa):Pe bs z n (some (xs,H1))=some (.ref H1.length 0 0 n,H1++[.ae z 0 (pk z n (hW (cy n bs).flatten xs)) true]):=rfl
def arB(z db:Nat)(H:aa)(s:U)(new:List (List aD))(e:Bool):tj z H s (some (db,new,e))=if new=[]∨db=z then CD z H new s else none:=rfl
def arC(z:Nat)(H:aa)(new:List (List aD))(c g off len:Nat):CD z H new (.ref c g off len)=F4 z H c g off len new H[c]?:=rfl
def arD(z:Nat)(H:aa)(new:List (List aD))(ay:Nat)(rows:List (List aD))(ex:Bool):CD z H new (.i (.ae ay rows ex))=if ex=true∧(rows=[]∨(ay=z∧new≠[]))∧rows.length+new.length<1073741824 then
 some (.ref H.length 0 0 (rows.length+new.length),H++[.ae z 0 (rows++new) (rows.isEmpty &&new.isEmpty)])else none:=rfl
def arE(z:Nat)(H:aa)(c g off len:Nat)(new:List (List aD))(ay aY:Nat)(rows:List (List aD))(ex:Bool):F4 z H c g off len new (some (.ae ay aY rows ex))=if g=aY∧off=0∧ay=z∧len+new.length<1073741824 then
 some (.ref c (g+1) 0 (len+new.length),H.set c (.ae z (g+1) (rows.take len++new) (ex &&rows.isEmpty &&new.isEmpty)))else none:=rfl
def arF(z:Nat)(H:aa)(c g off len:Nat)(new:List (List aD))(ay aY:Nat)(rows:List (List aD))(ex:Bool):F4 z H c g off len new (some (.bl ay aY rows ex))=if g=aY∧off=0∧ay=z∧ex=true∧len=rows.length∧new≠[]∧len+new.length<1073741824 then
 some (.ref H.length 0 0 (len+new.length),H++[.ae z 0 (rows++new) false])else none:=rfl
def arG(H:aa)(l:List UInt8):kU H (.i (.str l))=some (1,l.map λ b=>[aD.v (.int .u8 b.toNat)],true):=rfl
def arH(H:aa)(ay:Nat)(rows:List (List aD))(ex:Bool):kU H (.i (.ae ay rows ex))=some (ay,rows,ex):=rfl
def JS(g off len:Nat):Option Chunk→Option (Nat×List (List aD)×Bool)
 |some (.ae ay aY rows ex)=>if g=aY then some (ay,(rows.drop off).take len,ex &&decide (off+len=rows.length))else none
 |some (.bl ay aY rows ex)=>if g=aY then some (ay,(rows.drop off).take len,ex &&decide (off+len=rows.length))else none
 |_=>none
def arI(H:aa)(c g off len:Nat):kU H (.ref c g off len)=JS g off len H[c]?:=by
 simp only[kU,hP];cases H[c]? with
 |none=>rfl
 |some x=>cases x<;>rfl
def arJ(g off len ay aY:Nat)(rows:List (List aD))(ex:Bool):JS g off len (some (.ae ay aY rows ex))=if g=aY then some (ay,(rows.drop off).take len,ex &&decide (off+len=rows.length))else none:=rfl
def arK(g off len ay aY:Nat)(rows:List (List aD))(ex:Bool):JS g off len (some (.bl ay aY rows ex))=if g=aY then some (ay,(rows.drop off).take len,ex &&decide (off+len=rows.length))else none:=rfl
def Xa:Option U→Option (List U)→Option (List U)
 |some a,some bI=>some (a::bI)
 |_,_=>none
def JT:Option (List U)→Option U
 |some [a]=>some a
 |some bI=>some (.be bI)
 |none=>none
def arL(a:U)(bI:List U):Xa (some a) (some bI)=some (a::bI):=rfl
def arM:JT (some [])=some (.be []):=rfl
def arN(a:U):JT (some [a])=some a:=rfl
def arO(a b:U)(l:List U):JT (some (a::b::l))=some (.be (a::b::l)):=rfl
section
variable{E:Env}{I:Fr}{H:aa}
def arP(l:List ResultVar):w_ E I H l=JT (qW E I H l):=by
 unfold w_;cases qW E I H l with
 |none=>rfl
 |some bI=>cases bI with
  |nil=>rfl
  |cons a bI=>cases bI<;>rfl
def arQ:qW E I H []=some []:=rfl
def arR(r:ResultVar)(l:List ResultVar):qW E I H (r::l)=Xa (y' E I H r) (qW E I H l):=by simp only[qW];cases y' E I H r<;>cases qW E I H l<;>rfl
def arS(t:Nat):y' E I H (.tmp t)=some (get t I):=rfl
def arT(a t:Nat):y' E I H (.cell a t)=tG E H t (get a I):=rfl
end
def Xb(E:Env)(t:TypeId):Option (Nat×List aD):=
 match e5 E.P t with
 |some e=>match fM E.P e,HU E e,tF E.P e with
  |some z,some row,some b=>if row.length=z∧0<z∧b≤65536 then some (z,hW (E.kinds e) row)else none
  |_,_,_=>none
 |none=>none
def uu{E:Env}{t z:Nat}{row:List aD}(h:Xb E t=some (z,row))(H:aa)(k dv:IntKind)(n m:Int):
  i' E H t (.i (.v (.int k n))) (.i (.v (.int dv m)))=if 0≤n∧n=m∧n<1073741824 then some (.ref H.length 0 0 n.toNat,H++[.ae z 0 (cy n.toNat row) true])else if n=0∧0<m∧m<1073741824 then some (.ref H.length 0 0 0,H++[.ae z 0 [] false])else none:=by
 unfold Xb at h;split at h
 ·rename_i e he;split at h
  ·rename_i z0 aRy b j J aw;split at h
   ·rename_i ah;cases h;unfold i';simp only[he,j,J,aw];obtain⟨ca,cc,c3⟩:=ah;by_cases aF:0≤n∧n=m∧n<1073741824
    ·rw[if_pos aF,if_pos ⟨aF.1,aF.2.1,aF.2.2,ca,cc,c3⟩]
    ·rw[if_neg aF,if_neg (λ h=>aF ⟨h.1,h.2.1,h.2.2.1⟩)];by_cases aF:n=0∧0<m∧m<1073741824
     ·rw[if_pos aF,if_pos ⟨aF.1,aF.2.1,aF.2.2,ca,cc,c3⟩]
     ·rw[if_neg aF,if_neg (λ h=>aF ⟨h.1,h.2.1,h.2.2.1⟩)]
   ·cases h
  ·cases h
 ·cases h
def l7:Option (List U)→Option U
 |some c=>some (.agg c)
 |none=>none
def arU(c:List U):l7 (some c)=some (.agg c):=rfl
def Pf{E:Env}{t n e z:Nat}{lo:List U}(aV:kO E.P t=some (.agg lo))(j:u2 E.P t=some (n,e))(J:fM E.P e=some z)(parts:List (Nat×U)):jC E t parts=l7 (fW z lo parts):=by unfold jC;rw[aV];simp only[j,J];cases fW z lo parts<;>rfl
def pL{E:Env}{t:Nat}{lo:List U}{pl:List (Nat×Nat)}(aV:kO E.P t=some (.agg lo))(j:u2 E.P t=none)(J:HP E.P t=some pl)(parts:List (Nat×U)):jC E t parts=l7 (jo pl lo parts):=by unfold jC;rw[aV];simp only[j,J];cases jo pl lo parts<;>rfl
def Xc(pl:List (Nat×Nat))(cells:List U)(v:U)(r:List (Nat×U)):Option (Nat×Nat)→Option (List U)
 |some (off,z)=>if(cA v).length=z∧off+z≤cells.length∧(cA v).all one=true then jo pl (pi cells off (cA v)) r else none
 |none=>none
def arV(pl:List (Nat×Nat))(cells:List U):jo pl cells []=some cells:=rfl
def arW(pl:List (Nat×Nat))(cells:List U)(i:Nat)(v:U)(r:List (Nat×U)):jo pl cells ((i,v)::r)=Xc pl cells v r pl[i]?:=by simp only[jo];cases pl[i]?<;>rfl
def arX(pl:List (Nat×Nat))(cells:List U)(v:U)(r:List (Nat×U))(off z:Nat):Xc pl cells v r (some (off,z))=if(cA v).length=z∧off+z≤cells.length∧(cA v).all one=true then jo pl (pi cells off (cA v)) r else none:=rfl
def Pg(n c g k:Nat)(H1:aa)(xs:List aD)(ay r:Nat)(rows:List (List aD))(ex:Bool):Option (List aD)→Option aa
 |some row=>some (H1.set c (.ae ay g (rows.set r (row.take k++xs++row.drop (k+n))) ex))
 |none=>none
def JU(n c g r k:Nat)(H1:aa)(xs:List aD):Option Chunk→Option aa
 |some (.ae ay aY rows ex)=>if g=aY∧k+n≤ay then Pg n c aY k H1 xs ay r rows ex rows[r]? else none
 |_=>none
def JV(bs:List (Option Nat))(n c g r k:Nat):Option (List aD×aa)→Option aa
 |some (xs,H1)=>JU n c g r k H1 (hW bs xs) H1[c]?
 |none=>none
def F5(bs:List (Option Nat))(n:Nat)(H:aa)(c g r k:Nat)(dB:List U):Option Chunk→Option aa
 |some (.box cells)=>if k+n≤cells.length then some (H.set c (.box (pi cells k dB)))else none
 |some (.ae ..)=>JV bs n c g r k (fI H dB)
 |_=>none
def h0{E:Env}{t n:Nat}(h:fM E.P t=some n)(H:aa)(c g r k:Nat)(v:U):
  nU E H t (.ptr c g r k) v=if(cA v).length=n∧(cA v).all one=true then F5 (E.kinds t) n H c g r k (cA v) H[c]? else none:=by
 unfold nU;rw[h];simp only;split
 ·cases H[c]? with
  |none=>rfl
  |some x=>
   cases x with
   |ae ay aY rows ex=>
    simp only[F5];cases fI H (cA v)with
    |none=>rfl
    |some y=>
     obtain⟨xs,H1⟩:=y;simp only[JV];cases H1[c]? with
     |none=>rfl
     |some x=>
      cases x with
      |ae ay aY rows ex=>
       simp only[JU];split
       ·cases rows[r]?<;>rfl
       ·rfl
      |_=>rfl
   |_=>rfl
 ·rfl
def arY(bs:List (Option Nat))(n:Nat)(H:aa)(c g r k:Nat)(dB cells:List U):F5 bs n H c g r k dB (some (.box cells))=if k+n≤cells.length then some (H.set c (.box (pi cells k dB)))else none:=rfl
def arZ(bs:List (Option Nat))(n:Nat)(H:aa)(c g r k:Nat)(dB:List U)(ay aY:Nat)(rows:List (List aD))(ex:Bool):F5 bs n H c g r k dB (some (.ae ay aY rows ex))=JV bs n c g r k (fI H dB):=rfl
def ar0(bs:List (Option Nat))(n c g r k:Nat)(xs:List aD)(H1:aa):JV bs n c g r k (some (xs,H1))=JU n c g r k H1 (hW bs xs) H1[c]?:=rfl
def ar1(n c g r k:Nat)(H1:aa)(xs:List aD)(ay aY:Nat)(rows:List (List aD))(ex:Bool):JU n c g r k H1 xs (some (.ae ay aY rows ex))=if g=aY∧k+n≤ay then Pg n c aY k H1 xs ay r rows ex rows[r]? else none:=rfl
def ar2(n c g k:Nat)(H1:aa)(xs:List aD)(ay r:Nat)(rows:List (List aD))(ex:Bool)(row:List aD):Pg n c g k H1 xs ay r rows ex (some row)=some (H1.set c (.ae ay g (rows.set r (row.take k++xs++row.drop (k+n))) ex)):=rfl
def ar3{α:Type}(l:List α)(a b:α):(l++[a]).set l.length b=l++[b]:=by simp
def ar4(I:Fr):norm [] I=[]:=rfl
def ar5(k:Nat)(l:List Nat)(I:Fr):norm (k::l) I=(k,get k I)::norm l I:=rfl
noncomputable def d_(E:Env)(B:Nat)(f:FuncId)(c:Code)(I:Fr)(H:aa):Option (eD×Fr×aa):=
 match c with
 |.loop c=>vQ (e3 E B f (.loop c)) (e3 E B f c I H)
 |_=>none
noncomputable def uv(E:Env)(B:Nat)(f:FuncId)(c:Code)(p:Fr×aa):Option (eD×Fr×aa):=d_ E B f c p.1 p.2
noncomputable def Ph(E:Env)(B:Nat)(f:FuncId)(c:Code)(aM:List Nat)(z:List (Nat×Nat))(I:Fr)(H:aa):Option (eD×Fr×aa):=uv E B f c (mT B (norm aM (qR z I H).1) (qR z I H).2)
def ar6(E:Env)(B:Nat)(f:FuncId)(c:Code)(aM:List Nat)(z:List (Nat×Nat))(I:Fr)(H:aa):Ph E B f c aM z I H=uv E B f c (mT B (norm aM (qR z I H).1) (qR z I H).2):=rfl
section
variable{E:Env}{B:Nat}{f:FuncId}{fn:Func}{k:Nat}{c:Code}{aM:List Nat}
def v7(c:Code)(I:Fr)(H:aa):uv E B f c (I,H)=d_ E B f c I H:=rfl
def oZ(ah:e4 fn k=.loop c)(hm:E.w0 f ((fJ c).getD 0)=[])(ak:E.w1 f ((fJ c).getD 0)=[])(bg:E.w2 f ((fJ c).getD 0)=[])(aO:E.head f ((fJ c).getD 0)=aM)(I:Fr)(H:aa):e3 E B f (.loop c) I H=uv E B f (e4 fn k) (mT B (norm aM I) H):=by unfold uv d_;rw[ah,WJ];simp only[oB,hm,ak,bg,aO,WT,WU,WV]
def ar7{m:List (Nat×Nat)}{JW:List (Nat×Nat×Nat)}{z:List (Nat×Nat)}(ah:e4 fn k=.loop c)(hm:E.w0 f ((fJ c).getD 0)=m)(ak:E.w1 f ((fJ c).getD 0)=JW)(bg:E.w2 f ((fJ c).getD 0)=z)(aO:E.head f ((fJ c).getD 0)=aM)(I:Fr)(H:aa):
  e3 E B f (.loop c) I H=Ph E B f (e4 fn k) aM z (r5 m I H).1 (u9 JW (r5 m I H).1 (r5 m I H).2):=by
 unfold Ph uv d_;rw[ah,WJ];simp only[oB,hm,ak,bg,aO]
def ar8(ah:e4 fn k=.loop c)(I:Fr)(H:aa):d_ E B f (e4 fn k) I H=vQ (e3 E B f (.loop c)) (e3 E B f c I H):=by unfold d_;rw[ah]
end
def CE{B:Nat}{H:aa}(h:B≤H.length)(I:Fr):gc B I H=vd (mS B I H) I H:=by unfold gc;rw[if_pos h]
def ar9(k:Nat):(k:Int)+1=((k+1:Nat):Int):=rfl
def ar_{n:Int}(j:-128≤n)(J:n≤127):IntKind.i8.wrap n=n:=by simp only[tk,sv,sw,jQ,ge_iff_le,decide_eq_true_eq];split<;>omega
def ar'{n:Int}(j:0≤n)(J:n≤255):uw.wrap n=n:=by simp only[tk,sv,sw,ly,fK,if_false];omega
def asa{n:Int}(j:-32768≤n)(J:n≤32767):IntKind.i16.wrap n=n:=by simp only[tk,sv,sw,jQ,ge_iff_le,decide_eq_true_eq];split<;>omega
def asb{n:Int}(j:0≤n)(J:n≤65535):IntKind.u16.wrap n=n:=by simp only[tk,sv,sw,ly,fK,if_false];omega
def Xd{n:Int}(j:-2147483648≤n)(J:n≤2147483647):sz.wrap n=n:=by simp only[tk,sv,sw,jQ,ge_iff_le,decide_eq_true_eq];split<;>omega
def asc{n:Int}(j:0≤n)(J:n≤4294967295):JX.wrap n=n:=by simp only[tk,sv,sw,ly,fK,if_false];omega
def Xe{n:Int}(j:-9223372036854775808≤n)(J:n≤9223372036854775807):n0.wrap n=n:=by simp only[tk,sv,sw,jQ,ge_iff_le,decide_eq_true_eq];split<;>omega
def Xf{n:Int}(j:0≤n)(J:n≤18446744073709551615):IntKind.u64.wrap n=n:=by simp only[tk,sv,sw,ly,fK,if_false];omega
def asd{a b:Int}(h:a<b):(a<b)=True:=eq_true h
def ase{a b:Int}(h:b≤a):(a<b)=False:=eq_false R
def asf{a b:Int}(h:a≤b):(a≤b)=True:=eq_true h
def asg{a b:Int}(h:b<a):(a≤b)=False:=eq_false R
def ash{a b:Int}(h:¬a=b):(a=b)=False:=eq_false h
def asi{a b:Int}(h:a=b):(a=b)=True:=eq_true h
def asj{a b:Nat}(h:a<b):(a<b)=True:=eq_true h
def asl{a b:Nat}(h:b≤a):(a<b)=False:=eq_false R
def asm{a b:Nat}(h:a≤b):(a≤b)=True:=eq_true h
def asn{a b:Nat}(h:b<a):(a≤b)=False:=eq_false R
def v8:List U→aa→Option (U×aa)
 |[.i (.str s),.i (.v (.int .u8 b))],H=>some (.i (.v (.int .i64 (JY s b.toNat.toUInt8))),H)
 |_,_=>none
def o0:List aD:=sA.map λ z=>.v (.int .u64 z)
def Pj(P:Program):Env:={P:=P,kn:=λ _ _=>[],head:=λ _ _=>[],dR:=λ _ _=>[],p7:=λ _ _=>false,e_:=λ _=>none,yY:=λ _=>false,seq:=λ _=>none,ext:=λ _=>none,kinds:=λ _=>[],gI:=λ _=>[],lH:=λ _=>[],own:=λ _=>false,w0:=λ _ _=>[],w1:=λ _ _=>[],w2:=λ _ _=>[]}
def Xg(E:Env):hI (Pj E.P)=hI E:=rfl
def Af(P:Program)(t t2:TypeId):List U→aa→Option (U×aa)
 |[s,.i (.v (.int .i64 n)),.i (.v (.int .i64 b))],H=>if b=10∧0≤n∧n≤9223372036854775807 then hI (Pj P) H t t2 s (.i (.str (nF n.toNat)))else none
 |_,_=>none
def l8(z:Nat):List U→aa→Option (U×aa)
 |[.i (.ae db rows _)],H=>if db=z∧rows.length≤1000000000 then some (.ref H.length 0 0 rows.length,H++[.ae z 0 rows false])else none
 |_,_=>none
def Pk(z:Nat):Option (Nat×List bS×aa)→Option (U×aa)
 |some (_,new,H1)=>if new.length≤1000000000 then some (.x (.d H1.length 0 0 new.length),H1++[.ax z 0 0 new])else none
 |none=>none
def tl(z:Nat):List U→aa→Option (U×aa)
 |[.i (.ae db rows _)],H=>if db=1∧rows.length≤1000000000 then some (.x (.d H.length 0 0 rows.length),H++[.ax z 0 0 (rows.map p_)])else none
 |[.x (.d c g aj n)],H=>Pk z (lK z H (.x (.d c g aj n)))
 |_,_=>none
def CF(a b s:Int):Bool:=(a==66||a==48) &&(b==66||b==48) &&(s==0||s==1)
def x9:List U→aa→Option (U×aa)
 |[.agg [.i (.v (.int .u8 a)),.i (.v (.int .u8 b))],.i (.v (.int .i64 s))],H=>some (.i (.v (.bool (CF a b s))),H)
 |_,_=>none
def x_:List U→aa→Option (U×aa)
 |[.i (.v (.int .i64 n))],H=>if-9223372036854775808≤n∧n≤9223372036854775807 then some (.i (.str (Ag n)),H)else none
 |_,_=>none
def qx(z:Nat):List U→aa→Option (U×aa)
 |[.i (.ae _ [] true),.i (.v (.int .i64 n))],H=>if 0≤n∧n≤1000000 then some (.ref H.length 0 0 0,H++[.ae z 0 [] false])else none
 |_,_=>none
def x':List U→aa→Option (U×aa)
 |[.i (.str s)],H=>if s.length≤9223372036854775807 then some (.i (.v (.bool (Lib.validD s))),H)else none
 |_,_=>none
def Xh(c:Nat):Int:=if c<128 then 240 else if c<194 then 241 else if c<224 then 2 else if c=224 then 19 else if c<237 then 3 else if c=237 then 35 else if c<240 then 3 else if c=240 then 52 else if c<244 then 4 else if c=244 then 68 else 241
def v_:List aD:=(hg 256).map λ c=>.v (.int .u8 (Xh c))
def v':List aD:=([128,191,160,191,128,159,144,191,128,143]++cy 22 (0:Int)).map λ n=>.v (.int .u8 n)
def F6:List aD:=[1,2,3,4,5,7,8,9].map λ n=>.v (.int .i64 n)
def sB(E:Env)(f:FuncId)(h:List U→aa→Option (U×aa)):Prop:=∀args H r ap,h args H=some (r,ap)→∀ad ac w vs,b6 E ad ac H w→oM ad ac H args vs→
 Calls E.P f vs w λ e ar=>∃x,e=.returned x∧cl E ad ac H w ap ar λ aN aC=>a7 aN aC ap r x
def Pl{ad:cb}{ac:b9}{H:aa}{a b:U}{vs:Array Value}(h:oM ad ac H [a,b] vs):∃x y,vs=#[x,y]∧a7 ad ac H a x∧a7 ad ac H b y:=by
 obtain⟨aS,ai⟩:=h;obtain⟨l⟩:=vs
 match l,aS with
 |[x,y],_=>exact⟨x,y,rfl,ai 0 a rfl,ai 1 b rfl⟩
def aso{E:Env}{f:FuncId}(ah:∀(s:ByteArray) (c:Int) (w:World),Calls E.P f #[.string s,.int .u8 c] w λ e ar=>e=.returned (.int .i64 (JY s.data.toList c.toNat.toUInt8))∧ar=w):sB E f v8:=by
 intro args H r ap ai ad ac w vs aq b0;unfold v8 at ai;split at ai
 ·rename_i s b;cases ai;obtain⟨x,y,rfl,j,J⟩:=Pl b0;obtain rfl:=qh j;obtain rfl:=fz J;refine(ah ⟨⟨s⟩⟩ b w).mono λ e ar ⟨j,J⟩=>?_
  subst J;exact⟨_,j,cl.refl aq (.i _ _ (.v _ rfl))⟩
 ·cases ai
def Pm{E:Env}{aL:dD}{f:FuncId}{h:List U→aa→Option (U×aa)}(he:E.ext f=some h){bI:List U}{H:aa}{r:U}(ai:bz bI=[])(iw:bd r=[])(ah:∃L,h bI []=some (r,L)):dj E aL f bI H=some (r,H):=by rw[F3 he];exact gX (E:={E with ext:=λ _=>none}) rfl ai iw ah
def asp{ad:cb}{ac:b9}{H:aa}{a b c:U}{vs:Array Value}(h:oM ad ac H [a,b,c] vs):∃x y z,vs=#[x,y,z]∧a7 ad ac H a x∧a7 ad ac H b y∧a7 ad ac H c z:=by
 obtain⟨aS,ai⟩:=h;obtain⟨l⟩:=vs
 match l,aS with
 |[x,y,z],_=>exact⟨x,y,z,rfl,ai 0 a rfl,ai 1 b rfl,ai 2 c rfl⟩
def Xi(b:Bool)(x y:Option (eD×Fr×aa)):vR (.i (.v (.bool b))) x y=if b=true then x else y:=by cases b<;>rfl
def Xj(p:Prop) [Decidable p](a b:Option (eD×Fr×aa)):vR (.i (.v (.bool (decide (¬p))))) a b=if p then b else a:=by by_cases h:p<;>simp[h,vR]
def asq(P:Program)(op:BinOp)(t:TypeId)(k dv:IntKind)(a b:Int):j1 P op t (.i (.v (.int k a))) (.i (.v (.int dv b)))=lI op k a dv b:=rfl
def asr(P:Program)(op:BinOp)(t:TypeId)(a b:List UInt8):j1 P op t (.i (.str a)) (.i (.str b))=sQ op a b:=rfl
def ass(P:Program)(t:TypeId)(a b:Bool):j1 P .eql t (.i (.v (.bool a))) (.i (.v (.bool b)))=(i6 P t (.i (.v (.bool a))) (.i (.v (.bool b)))).map .bool:=rfl
def ast(P:Program)(t:TypeId)(a b:Bool):j1 P .neq t (.i (.v (.bool a))) (.i (.v (.bool b)))=(i6 P t (.i (.v (.bool a))) (.i (.v (.bool b)))).map λ b=>.bool (!b):=rfl
def asu(P:Program)(t:TypeId)(c g r k:Nat):j1 P .eql t (.ptr c g r k) (.i (.v (.pointer none)))=(i6 P t (.ptr c g r k) (.i (.v (.pointer none)))).map .bool:=rfl
def asv(P:Program)(t:TypeId)(c g r k:Nat):j1 P .neq t (.ptr c g r k) (.i (.v (.pointer none)))=(i6 P t (.ptr c g r k) (.i (.v (.pointer none)))).map λ b=>.bool (!b):=rfl
def asw(P:Program)(t:TypeId)(c:List aD)(aj:Nat):j1 P .eql t (.i (.gl c aj)) (.i (.v (.pointer none)))=(i6 P t (.i (.gl c aj)) (.i (.v (.pointer none)))).map .bool:=rfl
def asx(P:Program)(t:TypeId)(c:List aD)(aj:Nat):j1 P .neq t (.i (.gl c aj)) (.i (.v (.pointer none)))=(i6 P t (.i (.gl c aj)) (.i (.v (.pointer none)))).map λ b=>.bool (!b):=rfl
def asy(P:Program)(t:TypeId):j1 P .eql t (.i (.v (.pointer none))) (.i (.v (.pointer none)))=(i6 P t (.i (.v (.pointer none))) (.i (.v (.pointer none)))).map .bool:=rfl
def asz(P:Program)(t:TypeId):j1 P .neq t (.i (.v (.pointer none))) (.i (.v (.pointer none)))=(i6 P t (.i (.v (.pointer none))) (.i (.v (.pointer none)))).map λ b=>.bool (!b):=rfl
def Xk(P:Program)(t:TypeId)(a b:List U):j1 P .eql t (.agg a) (.agg b)=(i6 P t (.agg a) (.agg b)).map .bool:=rfl
def F7(P:Program)(t:TypeId)(a b:List U):j1 P .neq t (.agg a) (.agg b)=(i6 P t (.agg a) (.agg b)).map λ b=>.bool (!b):=rfl
section
variable{E:Env}{aL:dD}{ops:List Oper}{I:Fr}{H:aa}
def Xl(dst:Option Nat)(op:Op)(r:List Oper)(b:Bool):vV E aL ops dst op r I H (some b)=if b=true then Aa E aL ops dst r I (ci E aL op I H)else iu E aL ops r (dL dst (.be []) I) H:=by cases b<;>rfl
def Xm(dst:Option Nat)(op:Op)(r:List Oper)(b:Bool):uo E aL ops dst op r I H (some b)=if b=true then vW E aL ops dst op r I H (ci E aL op I H)else mB [] (hX E aL ops r (dL dst (.be []) I) H):=by cases b<;>rfl
def Xn(dst:Option Nat)(op:Op)(r:List Oper)(p:Prop) [Decidable p]:vV E aL ops dst op r I H (some (decide p))=if p then Aa E aL ops dst r I (ci E aL op I H)else iu E aL ops r (dL dst (.be []) I) H:=by by_cases h:p<;>simp[h,vV]
def Xo(dst:Option Nat)(op:Op)(r:List Oper)(p:Prop) [Decidable p]:uo E aL ops dst op r I H (some (decide p))=if p then vW E aL ops dst op r I H (ci E aL op I H)else mB [] (hX E aL ops r (dL dst (.be []) I) H):=by by_cases h:p<;>simp[h,uo]
def Xp(dst:Option Nat)(op:Op)(r:List Oper)(p:Prop) [Decidable p]:vV E aL ops dst op r I H (some (decide (¬p)))=if p then iu E aL ops r (dL dst (.be []) I) H else Aa E aL ops dst r I (ci E aL op I H):=by by_cases h:p<;>simp[h,vV]
def Xq(dst:Option Nat)(op:Op)(r:List Oper)(p:Prop) [Decidable p]:uo E aL ops dst op r I H (some (decide (¬p)))=if p then mB [] (hX E aL ops r (dL dst (.be []) I) H)else vW E aL ops dst op r I H (ci E aL op I H):=by by_cases h:p<;>simp[h,uo]
def asA(a b:U):JF a b (.i (.v (.bool true)))=some a:=rfl
def asB(a b:U):JF a b (.i (.v (.bool false)))=some b:=rfl
def asC(a b t:Bool):JF (.i (.v (.bool a))) (.i (.v (.bool b))) (.i (.v (.bool t)))=some (.i (.v (.bool (bif t then a else b)))):=by cases t<;>rfl
def asD(p:Prop) [Decidable p]:(!decide p)=decide (¬p):=by by_cases h:p<;>simp[h]
def asE(p q:Prop) [Decidable p] [Decidable q]:(decide p||decide q)=decide (p∨q):=by by_cases h:p<;>simp[h]
def asF(p q:Prop) [Decidable p] [Decidable q]:(decide p &&decide q)=decide (p∧q):=by by_cases h:p<;>simp[h]
def asG(a b:List UInt8):(a==b)=decide (a=b):=by by_cases h:a=b<;>simp[h]
def asH(a b:UInt8):(a=b)=(a.toNat=b.toNat):=by simp[UInt8.toNat_inj]
def JZ(H:aa):U→Option (U×aa)
 |.i (.str l)=>if l.length<1073741824 then some (.ref H.length 0 0 l.length,H++[.ae 1 0 (l.map λ b=>[aD.v (.int .u8 b.toNat)]) false])else none
 |_=>none
def asI(l:List UInt8):JZ H (.i (.str l))=if l.length<1073741824 then some (.ref H.length 0 0 l.length,H++[.ae 1 0 (l.map λ b=>[aD.v (.int .u8 b.toNat)]) false])else none:=rfl
def asJ{s d:TypeId}(j:hG E.P s=true)(J:(e5 E.P d).bind (nS E.P)=some .u8)(x:Operand):ci E aL (.convert s d x) I H=JZ H (bo E I x):=by
 have aw:(e5 E.P d).isSome=true:=by cases h:e5 E.P d with|none=>rw[h]at J;cases J|some _=>rfl
 rw[W2 _ (by simpa[eC]using aw) (by intro f a t e;cases e)];simp only[dh];generalize bo E I x=y;cases y with
 |i y=>cases y with
  |str l=>simp only[JZ,j,J,true_and,y8]
  |_=>rfl
 |_=>rfl
def J0(H:aa):U→Option (U×aa)
 |.i (.str l)=>if l.length<1073741824 then some (.ref H.length 0 0 (lL l).length,H++[.ae 1 0 (lL l) false])else none
 |_=>none
def asK(l:List UInt8):J0 H (.i (.str l))=if l.length<1073741824 then some (.ref H.length 0 0 (lL l).length,H++[.ae 1 0 (lL l) false])else none:=rfl
def asL{s d:TypeId}(j:hG E.P s=true)(J:(e5 E.P d).bind (nS E.P)=some .i32)(x:Operand):ci E aL (.convert s d x) I H=J0 H (bo E I x):=by
 have aw:(e5 E.P d).isSome=true:=by cases h:e5 E.P d with|none=>rw[h]at J;cases J|some _=>rfl
 rw[W2 _ (by simpa[eC]using aw) (by intro f a t e;cases e)];simp only[dh];generalize bo E I x=y;cases y with
 |i y=>cases y with
  |str l=>simp only[J0,j,J,true_and,y8]
  |_=>rfl
 |_=>rfl
def Pn:Option (Nat×List (List aD)×Bool)→Option U
 |some (z,rows,_)=>if rows=[]∨z=1 then(r2 rows).map λ l=>.str (l.map λ n=>h6 n.toNat)else none
 |none=>none
def asM(z:Nat)(rows:List (List aD))(ex:Bool):Pn (some (z,rows,ex))=if rows=[]∨z=1 then(r2 rows).map λ l=>.str (l.map λ n=>h6 n.toNat)else none:=rfl
def asN{s d e:TypeId}(h:e5 E.P d=none)(aS:e5 E.P s=some e)(j:hG E.P d=true)(J:nS E.P e=some .u8)(x:Operand):ci E aL (.convert s d x) I H=hc H (Pn (hP H (bo E I x))):=by rw[aqR s d e x h aS];simp only[Bk,j,J,and_self,if_true];cases hP H (bo E I x)<;>rfl
def asO(ay:Nat)(rows:List (List aD))(ex:Bool):hP H (.i (.ae ay rows ex))=some (ay,rows,ex):=rfl
def asP(c g off len:Nat):hP H (.ref c g off len)=JS g off len H[c]?:=by
 simp only[hP];cases H[c]? with
 |none=>rfl
 |some x=>cases x<;>rfl
def asQ:r2 []=some []:=rfl
def Xr(n:Int)(r:List (List aD)):r2 ([.v (.int .u8 n)]::r)=(r2 r).map (n::·):=rfl
def Xs(l:List UInt8):r2 (l.map λ b=>[aD.v (.int .u8 b.toNat)])=some (l.map λ b=>(b.toNat:Int)):=by
 induction l with
 |nil=>rfl
 |cons b l a8=>simp only[fk,Xr,a8,d']
def l9(l:List UInt8):(l.map λ b=>(b.toNat:Int)).map (λ n=>h6 n.toNat)=l:=by
 rw[wa]
 conv=>rhs;rw[←List.map_id l]
 refine zM λ b _=>?_
 simp
def Po(H:aa)(c:Nat):Option Chunk→Option (U×aa)
 |some (.iter s pos)=>if pos<s.length then
  some (.be [.i (.v (.bool true)),.i (.v (.int .i64 pos)),.i (.v (.int .i32 (mh ⟨⟨s⟩⟩ pos).1))],H.set c (.iter s (pos+(mh ⟨⟨s⟩⟩ pos).2)))else some (.be [.i (.v (.bool false))],H)
 |_=>none
def asR(c:Nat)(s:List UInt8)(pos:Nat):Po H c (some (.iter s pos))=if pos<s.length then
 some (.be [.i (.v (.bool true)),.i (.v (.int .i64 pos)),.i (.v (.int .i32 (mh ⟨⟨s⟩⟩ pos).1))],H.set c (.iter s (pos+(mh ⟨⟨s⟩⟩ pos).2)))else some (.be [.i (.v (.bool false))],H):=rfl
def Pp(H:aa):U→Option (U×aa)
 |.ptr c _ _ 0=>Po H c H[c]?
 |_=>none
def asS(c g r:Nat):Pp H (.ptr c g r 0)=Po H c H[c]?:=rfl
def asT(it:Operand):ci E aL (.next it true) I H=Pp H (bo E I it):=by
 rw[aqT];simp only[dh];cases bo E I it with
 |ptr c g r k=>cases k with
  |zero=>
   simp only[Pp];cases H[c]? with
   |none=>rfl
   |some x=>cases x<;>rfl
  |succ k=>rfl
 |_=>rfl
def Pq(s:List UInt8):Option Nat→Option Nat→Option U
 |some l,some h=>if l≤h∧h≤s.length then some (.i (.str ((s.drop l).take (h-l))))else none
 |_,_=>none
def asU(s:List UInt8)(l h:Nat):Pq s (some l) (some h)=if l≤h∧h≤s.length then some (.i (.str ((s.drop l).take (h-l))))else none:=rfl
def asV(d:Nat):fV d none=some d:=rfl
def asW(d:Nat)(k:IntKind)(n:Int):fV d (some (.i (.v (.int k n))))=if 0≤n then some n.toNat else none:=rfl
def asX{t:TypeId}(bq:hG E.P t=true)(s:List UInt8)(bU aA:Option U):j2 E H t (.i (.str s)) bU aA none=Pq s (fV 0 bU) (fV s.length aA):=by
 simp only[j2,ph,bq,Pr,and_self,if_true];cases fV 0 bU with
 |none=>rfl
 |some l=>cases fV s.length aA<;>rfl
def J1(z ay:Nat)(rows:List (List aD))(ex:Bool):Option Nat→Option Nat→Option U
 |some l,some h=>if(l≤h∧h≤rows.length)∧(rows=[]∨z=ay)then some (.i (.ae ay ((rows.drop l).take (h-l)) (ex &&decide (h=rows.length))))else none
 |_,_=>none
def ux(z c g off len:Nat):Option Nat→Option Nat→Option Chunk→Option U
 |some l,some h,some (.ae ay aY _ _)=>if(l≤h∧h≤len)∧g=aY∧z=ay then some (.ref c g (off+l) (h-l))else none
 |some l,some h,some (.bl ay aY rows ex)=>if(l≤h∧h≤len)∧g=aY∧z=ay∧off+len≤rows.length then some (.i (.ae ay ((rows.drop (off+l)).take (h-l)) (ex &&decide (off+h=rows.length))))else none
 |_,_,_=>none
def J2(z c g off len:Nat):Option Nat→Option Nat→Option Chunk→Option U
 |some l,some h,b7=>if l≤h∧h≤len then Mr c g off l h (some z) b7 else none
 |_,_,_=>none
def sC(z:Nat)(H:aa)(bU aA:Option U):U→Option U
 |.i (.ae ay rows ex)=>J1 z ay rows ex (fV 0 bU) (fV rows.length aA)
 |.ref c g off len=>ux z c g off len (fV 0 bU) (fV len aA) H[c]?
 |.x (.d c g off len)=>J2 z c g off len (fV 0 bU) (fV len aA) H[c]?
 |_=>none
def asY(z:Nat)(bU aA:Option U)(c g off len:Nat):sC z H bU aA (.x (.d c g off len))=J2 z c g off len (fV 0 bU) (fV len aA) H[c]?:=rfl
def asZ(c g off len l h db aY s:Nat)(rows:List bS):J2 1 c g off len (some l) (some h) (some (.ax db aY s rows))=if l≤h∧h≤len then(if g=aY then some (.x (.d c g (off+l) (h-l)))else none)else none:=rfl
def as0(z:Nat)(bU aA:Option U)(ay:Nat)(rows:List (List aD))(ex:Bool):sC z H bU aA (.i (.ae ay rows ex))=J1 z ay rows ex (fV 0 bU) (fV rows.length aA):=rfl
def as1(z:Nat)(bU aA:Option U)(c g off len:Nat):sC z H bU aA (.ref c g off len)=ux z c g off len (fV 0 bU) (fV len aA) H[c]?:=rfl
def as2(z ay:Nat)(rows:List (List aD))(ex:Bool)(l h:Nat):J1 z ay rows ex (some l) (some h)=if(l≤h∧h≤rows.length)∧(rows=[]∨z=ay)then some (.i (.ae ay ((rows.drop l).take (h-l)) (ex &&decide (h=rows.length))))else none:=rfl
def as3(z c g off len l h ay aY:Nat)(rows:List (List aD))(ex:Bool):ux z c g off len (some l) (some h) (some (.ae ay aY rows ex))=if(l≤h∧h≤len)∧g=aY∧z=ay then some (.ref c g (off+l) (h-l))else none:=rfl
def as4(z c g off len l h ay aY:Nat)(rows:List (List aD))(ex:Bool):ux z c g off len (some l) (some h) (some (.bl ay aY rows ex))=if(l≤h∧h≤len)∧g=aY∧z=ay∧off+len≤rows.length then some (.i (.ae ay ((rows.drop (off+l)).take (h-l)) (ex &&decide (off+h=rows.length))))else none:=rfl
def J3{t e:TypeId}{z:Nat}(bq:e5 E.P t=some e)(bg:fM E.P e=some z)(aS:hG E.P t=false)(x:U)(bU aA:Option U):j2 E H t x bU aA none=sC z H bU aA x:=by
 unfold j2;cases x with
 |i x=>cases x with
  |ae ay rows ex=>
   simp only[ph,sC,bq,bg,J1];cases fV 0 bU with
   |none=>rfl
   |some l=>cases fV rows.length aA with
    |none=>rfl
    |some h=>simp only;by_cases j:l≤h∧h≤rows.length<;>by_cases J:rows=[]∨z=ay<;>simp[j,J]
  |str s=>
   simp only[ph,sC,aS];cases fV 0 bU with
   |none=>rfl
   |some l=>cases fV s.length aA with
    |none=>rfl
    |some h=>by_cases j:l≤h∧h≤s.length<;>simp[j]
  |_=>rfl
 |ref c g off len=>
  simp only[ph,sC,bq];cases fV 0 bU with
  |none=>simp[ux]
  |some l=>cases fV len aA with
   |none=>simp[ux]
   |some h=>
    simp only;cases ah:H[c]? with
    |none=>simp[ux]
    |some y=>
     cases y with
     |ae ay aY rows ex=>simp only[ux,bg,Pr,true_and,bj];by_cases j:l≤h∧h≤len<;>by_cases J:g=aY∧z=ay<;>simp[j,J]
     |bl ay aY rows ex=>simp only[ux,bg,bj];by_cases j:l≤h∧h≤len<;>by_cases J:g=aY∧z=ay∧off+len≤rows.length<;>simp[j,J]
     |_=>simp[ux]
 |x k=>
  cases k with
  |d c g off len=>
   simp only[ph,sC,bq,bg,J2,Ps,Pr,if_true];cases fV 0 bU with
   |none=>rfl
   |some l=>cases fV len aA with
    |none=>rfl
    |some h=>rfl
  |_=>rfl
 |_=>rfl
def as5:hg 0=[]:=rfl
def as6:hg 1=[0]:=rfl
def as7:hg 2=[0,1]:=rfl
def as8:hg 3=[0,1,2]:=rfl
def as9:hg 4=[0,1,2,3]:=rfl
def as_:hg 5=[0,1,2,3,4]:=rfl
def as'(n c:Nat)(r seen:List Nat):reach H (n+1) (c::r) seen=if c∈seen∨H.length≤c then reach H n r seen else reach H n (((H[c]?).map Chunk.refs).getD []++r) (seen++[c]):=rfl
end
def Pt:Option (eD×Fr×aa)→Option (eD×aa)
 |some (e,_,H)=>some (e,H)
 |none=>none
def ata(k:Fr→aa→Option (eD×Fr×aa)):Option (eD×Fr×aa)→Option (eD×aa)
 |some (.normal,I,H)=>Pt (k I H)
 |_=>none
def atb(k:Fr→aa→Option (eD×Fr×aa))(I:Fr)(H:aa):ata k (some (.normal,I,H))=Pt (k I H):=rfl
def atc(e:eD)(I:Fr)(H:aa):Pt (some (e,I,H))=some (e,H):=rfl
def F8(k:aa→Option (eD×Fr×aa))(I:Fr):Option (eD×aa)→Option (eD×Fr×aa)
 |some (.normal,H1)=>k H1
 |some (e,H1)=>some (e,I,H1)
 |none=>none
def atd(rd:Fr→aa→Option (eD×aa))(p:Nat)(I:Fr)(H:aa):oC rd p I [] H=some (.normal,I,H):=rfl
def ate(rd:Fr→aa→Option (eD×aa))(p:Nat)(I:Fr)(x:U)(xs:List U)(H:aa):
  oC rd p I (x::xs) H=F8 (oC rd p I xs) I (rd ((p,x)::I) H):=by
 unfold F8;simp only[oC];cases rd ((p,x)::I) H with
 |none=>rfl
 |some q=>obtain⟨e,H1⟩:=q;cases e<;>rfl
def atf(k:aa→Option (eD×Fr×aa))(I:Fr)(H:aa):F8 k I (some (.normal,H))=k H:=rfl
def atg(k:aa→Option (eD×Fr×aa))(I:Fr)(H:aa):F8 k I (some (.ret,H))=some (.ret,I,H):=rfl
def ath(k:aa→Option (eD×Fr×aa))(I:Fr)(id:Nat)(H:aa):F8 k I (some (.exit id,H))=some (.exit id,I,H):=rfl
def ati(rd:Fr→aa→Option (eD×aa))(p:Nat)(I:Fr)(H:aa)(xs:List U):anQ rd p I H (some xs)=oC rd p I xs H:=rfl
def Pu:Option (List aD)→Option (List (List aD))→Option (List (List aD))
 |some a,some b=>some (a::b)
 |_,_=>none
def Pv:Option Chunk→Option (List (List aD))→Option (List (List aD))
 |some (.box cells),x=>Pu (kS cells) x
 |_,_=>none
def atj(H:aa):sa H []=some []:=rfl
def atk(H:aa)(c g:Nat)(r:List U):sa H (.ptr c g 0 0::r)=Pv H[c]? (sa H r):=by
 simp only[sa];cases H[c]? with
 |none=>rfl
 |some x=>
  cases x with
  |box cells=>simp only[Pv];cases kS cells<;>cases sa H r<;>rfl
  |_=>rfl
def atl(cells:List U)(x:Option (List (List aD))):Pv (some (.box cells)) x=Pu (kS cells) x:=rfl
def atm(a:List aD)(b:List (List aD)):Pu (some a) (some b)=some (a::b):=rfl
def Xt:Option (List (List aD)→Option (List U))→Option (List (List aD))→Option (List U)
 |some L,some nV=>L nV
 |_,_=>none
def atn{E:Env}(H:aa)(g:FuncId)(fy:List U):Bx E H (.aR (.func g) [] fy)=Xt (E.seq g) (sa H fy):=by
 simp only[Bx];cases E.seq g with
 |none=>rfl
 |some L=>cases sa H fy with
  |none=>rfl
  |some nV=>rfl
def ato(L:List (List aD)→Option (List U))(nV:List (List aD)):Xt (some L) (some nV)=L nV:=rfl
def sD(z c g off len:Nat)(h m:Int):Option Chunk→Option U
 |some (.ae ay aY _ _)=>if 0≤h∧h=m∧h≤len∧g=aY∧z=ay then some (.ref c g off h.toNat)else none
 |some (.bl ay aY rows _)=>if 0≤h∧h=m∧h≤len∧g=aY∧z=ay∧off+len≤rows.length then some (.i (.ae ay ((rows.drop off).take h.toNat) true))else none
 |_=>none
def atp(z c g off len:Nat)(h m:Int)(ay aY:Nat)(rows:List (List aD))(ex:Bool):sD z c g off len h m (some (.ae ay aY rows ex))=if 0≤h∧h=m∧h≤len∧g=aY∧z=ay then some (.ref c g off h.toNat)else none:=rfl
def J4{E:Env}{H:aa}{t e:TypeId}{z:Nat}(bq:e5 E.P t=some e)(bg:fM E.P e=some z)(c g off len:Nat)(k dv:IntKind)(h m:Int):
  j2 E H t (.ref c g off len) none (some (.i (.v (.int k h)))) (some (.i (.v (.int dv m))))=sD z c g off len h m H[c]?:=by
 simp only[j2,ph,fV,bq,bg,Pw,and_true];by_cases aV:0≤h
 ·simp only[aV,if_true,ig,true_and];by_cases an:h≤len
  ·have F2:h.toNat≤len:=R;simp only[F2,if_true];cases ah:H[c]? with
   |none=>rfl
   |some y=>
    cases y with
    |ae ay aY rows ex=>
     simp only[sD,bg,aV,an,true_and,bj];by_cases J:g=aY∧z=ay
     ·simp only[J,and_self,if_true,and_true,fc,qy];by_cases hm:h=m
      ·subst hm;simp[aV]
      ·by_cases rr:0≤m
       ·simp only[rr,if_true];rw[if_neg R,if_neg hm]
       ·simp[rr,hm]
     ·rw[if_neg J,if_neg (λ e=>J ⟨e.2.1,e.2.2⟩)]
    |bl ay aY rows ex=>
     simp only[sD,bg,aV,an,true_and,bj];by_cases J:g=aY∧z=ay∧off+len≤rows.length
     ·simp only[J,and_self,if_true,and_true,fc,qy];by_cases hm:h=m
      ·subst hm;simp[aV]
      ·by_cases rr:0≤m
       ·simp only[rr,if_true];rw[if_neg R,if_neg hm]
       ·simp[rr,hm]
     ·rw[if_neg J,if_neg (λ e=>J ⟨e.2.1,e.2.2.1,e.2.2.2⟩)]
    |_=>rfl
  ·have F2:¬h.toNat≤len:=R;simp only[F2,if_false];cases ah:H[c]? with
   |none=>rfl
   |some y=>
    cases y with
    |ae ay aY rows ex=>simp only[sD];rw[if_neg (λ e=>an e.2.2.1)]
    |bl ay aY rows ex=>simp only[sD];rw[if_neg (λ e=>an e.2.2.1)]
    |_=>rfl
 ·simp only[aV,if_false];cases ah:H[c]? with
  |none=>rfl
  |some y=>
   cases y with
   |ae ay aY rows ex=>simp only[sD];rw[if_neg (λ e=>aV e.1)]
   |bl ay aY rows ex=>simp only[sD];rw[if_neg (λ e=>aV e.1)]
   |_=>rfl
section
variable{E:Env}{aL:dD}{I:Fr}{H:aa}{f:FuncId}
def atq(t:TypeId)(x k:Operand)(ok:Bool):cR E I H (.lookup t x k ok)=bd (bo E I x):=rfl
def atr(t:TypeId)(m k x:Operand):cR E I H (.mapUpdate t m k x)=bd (bo E I m)++(bd (bo E I m)).map (·+kV):=rfl
def ats(t:TypeId)(m k x:Operand):cR E I H (.insert t m k x)=bd (bo E I m)++(bd (bo E I m)).map (·+kV):=rfl
def att(t:TypeId)(m k x:Operand):ci E aL (.insert t m k x) I H=mQ E H t (bo E I m) (bo E I k) (bo E I x):=rfl
def atu(t:TypeId)(r:Option Operand):cR E I H (.makeMap t r)=[]:=rfl
def atv(t:TypeId)(x k:Operand)(ok:Bool):ci E aL (.lookup t x k ok) I H=hc H (y0 E H t (bo E I x) (bo E I k) ok):=nE _
def Xu(H:aa):Option (TypeId×TypeId)→Option (U×aa)
 |some _=>some (.dA H.length,H++[.map []])
 |none=>none
def atw(p:TypeId×TypeId):Xu H (some p)=some (.dA H.length,H++[.map []]):=rfl
def atx(t:TypeId):ci E aL (.makeMap t none) I H=Xu H (tH E.P t):=rfl
def aty(t:TypeId)(m k x:Operand):ci E aL (.mapUpdate t m k x) I H=mQ E H t (bo E I m) (bo E I k) (bo E I x):=rfl
def atz(t:TypeId)(c:Nat)(k:U)(ok:Bool):y0 E H t (.dA c) k ok=Bm E t k ok H[c]?:=rfl
def atA(t:TypeId)(x:aD)(k:U):y0 E H t (.i x) k true=Eo E t (.i x) k:=rfl
def atB(t:TypeId)(c:Nat)(k x:U):mQ E H t (.dA c) k x=sS E H c t k x H[c]?:=rfl
def atC(B c:Nat):ee B H (.dA c)=.dA c:=by simp[ee]
def atD(B c:Nat)(es:List (aD×U)):dN B H c (.map es)=.map (u_ B H es):=rfl
def atE(B c t:Nat)(cells:List U):dN B H c (.cZ t cells)=.cZ t (ew B H cells):=rfl
def atF(B c t:Nat)(l:List UInt8):dN B H c (.jA t l)=.jA t l:=rfl
def atG(B c:Nat):dN B H c .gone=.gone:=rfl
def atH(k:Option Nat)(bs:List (Option Nat))(c:Nat)(r:List U):jD (k::bs) (.dA c::r)=.dA c::jD bs r:=rfl
def atI(bs:List (Option Nat))(c:Nat):r4 bs (.dA c)=.dA c:=rfl
def atJ(c:Nat)(r:List U):dr H (.dA c::r)=rB (.dA c) (dr H r):=by simp only[dr];cases dr H r<;>rfl
def atK(c:Nat):freeze H (.dA c)=none:=rfl
def atL(v:U)(zero:Option U):u5 false zero (some (some v))=some v:=rfl
def atM(v:U)(zero:Option U):u5 true zero (some (some v))=some (.be [v,.i (.v (.bool true))]):=rfl
def atN(z:aD):u5 false (some (.i z)) (some none)=some (.i z):=rfl
def atO(z:aD):u5 true (some (.i z)) (some none)=some (.be [.i z,.i (.v (.bool false))]):=rfl
def atP{t i7 e:TypeId}{fQ:IntKind}(aV:tH E.P t=some (i7,e))(az:nS E.P i7=some fQ){z:U}(bg:kO E.P e=some z)(n:Int)(ok:Bool)(es:List (aD×U)):
  Bm E t (.i (.v (.int fQ n))) ok (some (.map es))=u5 ok (some z) (hH (.v (.int fQ n)) es):=by
 unfold Bm;simp only[aV,Bl,az,decide_true,if_true,bg]
def Px(H:aa)(c:Nat):Option (List (aD×U))→Option (U×aa)
 |some es=>some (.dead,H.set c (.map es))
 |none=>none
def Xv(c:Nat)(es:List (aD×U)):Px H c (some es)=some (.dead,H.set c (.map es)):=rfl
def atQ{t i7 e:TypeId}{fQ:IntKind}(aV:tH E.P t=some (i7,e))(az:nS E.P i7=some fQ)(n:Int)(x:U)(j:one x=true)(c:Nat)(es:List (aD×U)):
  sS E H c t (.i (.v (.int fQ n))) x (some (.map es))=Px H c (kp (.v (.int fQ n)) x es):=by
 unfold sS;simp only[aV,Bl,az,decide_true,j,and_self,if_true];cases kp (.v (.int fQ n)) x es<;>rfl
end
section
variable{E:Env}{aL:dD}{I:Fr}{H:aa}{f:FuncId}
def atS(k:cP)(r:List U):dr H (.x k::r)=F1 r (freeze H (.x k)):=by
 simp only[dr,F1];cases freeze H (.x k)with
 |none=>rfl
 |some p=>simp only;cases dr p.2 r<;>rfl
def atT(k:cP):freeze H (.x k)=pj H k:=rfl
def Xw(c g aj n:Nat):pj H (.d c g aj n)=u6 c g aj n H H[c]?:=rfl
def atU(c g s r:Nat):pj H (.h c g s r)=u7 c g s r H H[c]?:=rfl
def Xx(c g aj n z aY s:Nat)(rows:List bS):u6 c g aj n H (some (.ax z aY s rows))=if g=aY then Bn c g aj n H (lJ z rows)else none:=rfl
def atV(c g aj n aY:Nat)(rows:List (List aD)):u6 c g aj n H (some (.fd aY rows))=if g=aY then some (.ae 1 ((rows.drop aj).take n) false,H)else none:=rfl
def Xy(c g aj n:Nat)(xs:List aD):Bn c g aj n H (some xs)=some (.ae 1 (((xs.map λ y=>[y]).drop aj).take n) false,H.set c (.fd g (xs.map λ y=>[y]))):=rfl
def Py(c g s z r:Nat)(rows:List bS)(H:aa):Option bS→Option (aD×aa)
 |some (.own bR)=>some (.ae z bR false,H.set c (.ax z g s (rows.set r (.dG (.ae z bR false)))))
 |_=>none
def atW(c g s r z aY dH:Nat)(rows:List bS):u7 c g s r H (some (.ax z aY dH rows))=if g=aY∧s=dH then Py c g s z r rows H rows[r]? else none:=by
 simp only[u7,Py];split
 ·split<;>simp_all
 ·rfl
def atX(c g s z r:Nat)(rows:List bS)(bR:List (List aD)):Py c g s z r rows H (some (.own bR))=some (.ae z bR false,H.set c (.ax z g s (rows.set r (.dG (.ae z bR false))))):=rfl
def Pz(z:Nat):∀l:List (List (List aD)),lJ z (l.map bS.own)=some (l.map λ bR=>.ae z bR false)
 |[]=>rfl
 |a::l=>by simp[lJ,Pz z l]
def atY(B:Nat)(k:cP):q0 E f B H (.x k)=tN (qc E f B H [.x k]):=rfl
def atZ(k:Option Nat)(bs:List (Option Nat))(q:cP)(r:List U):jD (k::bs) (.x q::r)=.x q::jD bs r:=rfl
def at0(bs:List (Option Nat))(q:cP):r4 bs (.x q)=.x q:=rfl
def at1(B:Nat)(k:cP):ee B H (.x k)=if k.c<B then .x k else qS k H[k.c]?:=by simp[ee]
def at2(B c z g s:Nat)(rows:List bS):dN B H c (.ax z g s rows)=if c<B then .ax z g s rows else .ax z 0 0 rows:=rfl
def at3(c g aj n z aY dH:Nat)(rows:List bS):qS (.d c g aj n) (some (.ax z aY dH rows))=if g=aY then .x (.d c 0 aj n)else .dead:=rfl
def at4(c g r z aY dH:Nat)(rows:List bS):qS (.e c g r) (some (.ax z aY dH rows))=if g=aY then .x (.e c 0 r)else .dead:=rfl
def at5(c g s r z aY dH:Nat)(rows:List bS):qS (.h c g s r) (some (.ax z aY dH rows))=if g=aY∧s=dH then .x (.h c 0 0 r)else .dead:=rfl
def at6(c g s r i ab z aY dH:Nat)(rows:List bS):qS (.p c g s r i ab) (some (.ax z aY dH rows))=if g=aY∧s=dH then .x (.p c 0 0 r i ab)else .dead:=rfl
def at7(k:cP):qS k (some .gone)=.dead:=by cases k<;>rfl
def Xz(c g aj n aY:Nat)(rows:List (List aD)):qS (.d c g aj n) (some (.fd aY rows))=if g=aY then .i (.ae 1 ((rows.drop aj).take n) false)else .dead:=rfl
def at8(B c g:Nat)(rows:List (List aD)):dN B H c (.fd g rows)=.fd g rows:=rfl
def at9(c g aj n:Nat):cP.c (.d c g aj n)=c:=rfl
def aua(c g r:Nat):cP.c (.e c g r)=c:=rfl
def aub(c g s r:Nat):cP.c (.h c g s r)=c:=rfl
def auc(c g s r i k:Nat):cP.c (.p c g s r i k)=c:=rfl
def aud(m c g aj n:Nat):cP.to m (.d c g aj n)=.d m g aj n:=rfl
def aue(m c g r:Nat):cP.to m (.e c g r)=.e m g r:=rfl
def auf(m c g s r:Nat):cP.to m (.h c g s r)=.h m g s r:=rfl
def aug(m c g s r i k:Nat):cP.to m (.p c g s r i k)=.p m g s r i k:=rfl
def J5(c g s r:Nat):Option bS→Option (List U×Nat)
 |some (.own _)=>some ([.x (.h c g s r)],0)
 |some (.dG y)=>some ([.i y],0)
 |_=>none
def auh(c g r:Nat):u3 H (.e c g r)=Ej c g r H[c]?:=rfl
def aui(c g s r i k:Nat):u3 H (.p c g s r i k)=Ek g s r i k H[c]?:=rfl
def auj(c g r z aY s:Nat)(rows:List bS):Ej c g r (some (.ax z aY s rows))=if g=aY then J5 c g s r rows[r]? else none:=by
 simp only[Ej,J5];split
 ·split<;>simp_all
 ·rfl
def auk(c g s r:Nat)(bR:List (List aD)):J5 c g s r (some (.own bR))=some ([.x (.h c g s r)],0):=rfl
def aul(c g s r:Nat)(y:aD):J5 c g s r (some (.dG y))=some ([.i y],0):=rfl
def J6(k:Nat):Option (List aD)→Option (List U×Nat)
 |some row=>some (kP row,k)
 |none=>none
def PA(i k:Nat):Option bS→Option (List U×Nat)
 |some (.own bR)=>J6 k bR[i]?
 |_=>none
def aum(g s r i k z aY dH:Nat)(rows:List bS):Ek g s r i k (some (.ax z aY dH rows))=if g=aY∧s=dH then PA i k rows[r]? else none:=by
 simp only[Ek,PA,J6];split
 ·split
  ·split<;>simp_all
  ·split<;>simp_all
 ·rfl
def aun(i k:Nat)(bR:List (List aD)):PA i k (some (.own bR))=J6 k bR[i]?:=rfl
def auo(k:Nat)(row:List aD):J6 k (some row)=some (kP row,k):=rfl
def aup(z c g off len:Nat)(n:Int):u4 H z n (.d c g off len)=HR z c g off len n H[c]?:=rfl
def auq(z c g s r:Nat)(n:Int):u4 H z n (.h c g s r)=El z c g s r n H[c]?:=rfl
def aur(z c g off len db aY s:Nat)(n:Int)(rows:List bS):HR z c g off len n (some (.ax db aY s rows))=if 0≤n∧n<len∧z=1∧g=aY then some (.x (.e c g (off+n.toNat)))else none:=rfl
def PB(c g s r:Nat)(n:Int):Option bS→Option U
 |some (.own bR)=>if n.toNat<bR.length then some (.x (.p c g s r n.toNat 0))else none
 |_=>none
def aus(z c g s r db aY dH:Nat)(n:Int)(rows:List bS):El z c g s r n (some (.ax db aY dH rows))=if g=aY∧s=dH∧z=db∧0≤n then PB c g s r n rows[r]? else none:=by
 simp only[El,PB];split
 ·split
  ·simp_all
  ·split<;>simp_all
 ·rfl
def aut(c g s r:Nat)(n:Int)(bR:List (List aD)):PB c g s r n (some (.own bR))=if n.toNat<bR.length then some (.x (.p c g s r n.toNat 0))else none:=rfl
def h1{t n:Nat}(h:fM E.P t=some n)(k:cP)(v:U):nU E H t (.x k) v=if(cA v).length=n∧(cA v).all one=true then p9 E H t n v k else none:=by unfold nU;rw[h]
def auu(t n c g r:Nat)(v:U):p9 E H t n v (.e c g r)=if n=1 then w5 H c g r v H[c]? else none:=rfl
def auv(t n c g s r i k:Nat)(v:U):p9 E H t n v (.p c g s r i k)=w6 E H t n c g s r i k v H[c]?:=rfl
def auw(c g r z aY s:Nat)(v:U)(rows:List bS):w5 H c g r v (some (.ax z aY s rows))=w4 c g r (p8 H z v):=rfl
def XA(c g r:Nat)(y:bS)(H1:aa):Option Chunk→Option aa
 |some (.ax z aY s rows)=>if g=aY∧r<rows.length then some (H1.set c (.ax z g (s+1) (rows.set r y)))else none
 |_=>none
def auy(c g r:Nat)(y:bS)(H1:aa):w4 c g r (some (y,H1))=XA c g r y H1 H1[c]?:=by
 simp only[w4];cases H1[c]? with
 |none=>rfl
 |some x=>cases x<;>rfl
def auz(c g r z aY s:Nat)(y:bS)(H1:aa)(rows:List bS):XA c g r y H1 (some (.ax z aY s rows))=if g=aY∧r<rows.length then some (H1.set c (.ax z g (s+1) (rows.set r y)))else none:=rfl
def auA(z d g len:Nat):p8 H z (.ref d g 0 len)=Bp H z d g len H[d]?:=rfl
def auB(z:Nat)(x:aD):p8 H z (.i x)=some (.dG (h7 (some z) x),H):=rfl
def auC(z d g len db aY:Nat)(bR:List (List aD))(ex:Bool):Bp H z d g len (some (.ae db aY bR ex))=if db=z∧0<z∧g=aY∧len=bR.length then some (.own bR,H.set d .gone)else none:=rfl
def J7(c g s r i k n z:Nat)(bs:List (Option Nat))(rows:List bS)(bR:List (List aD))(H:aa):Option (List aD)→Option (List aD)→Option aa
 |some row,some xs=>some (H.set c (.ax z g s (rows.set r (.own (bR.set i (row.take k++hW bs xs++row.drop (k+n)))))))
 |_,_=>none
def PC(c g s r i k n z:Nat)(bs:List (Option Nat))(rows:List bS)(H:aa)(xs:Option (List aD)):Option bS→Option aa
 |some (.own bR)=>J7 c g s r i k n z bs rows bR H bR[i]? xs
 |_=>none
def auD(t n c g s r i k z aY dH:Nat)(v:U)(rows:List bS):w6 E H t n c g s r i k v (some (.ax z aY dH rows))=if g=aY∧s=dH∧k+n≤z then PC c g s r i k n z (E.kinds t) rows H (kS (cA v)) rows[r]? else none:=by
 simp only[w6,PC,J7];split
 ·split
  ·split<;>simp_all
  ·split<;>simp_all
 ·rfl
def auE(c g s r i k n z:Nat)(bs:List (Option Nat))(rows:List bS)(xs:Option (List aD))(bR:List (List aD)):PC c g s r i k n z bs rows H xs (some (.own bR))=J7 c g s r i k n z bs rows bR H bR[i]? xs:=rfl
def auF(c g s r i k n z:Nat)(bs:List (Option Nat))(rows:List bS)(bR:List (List aD))(row xs:List aD):J7 c g s r i k n z bs rows bR H (some row) (some xs)=some (H.set c (.ax z g s (rows.set r (.own (bR.set i (row.take k++hW bs xs++row.drop (k+n))))))):=rfl
def auG:kS []=some []:=rfl
def auH(x:aD)(r:List U):kS (.i x::r)=(kS r).map (x::·):=rfl
def auI(t z n:Nat)(v:U):tJ E H t z n [(0,v)]=if n=1∧one v=true∧r7 E t t=true then Bq z (p8 H z v)else none:=rfl
def auJ(z:Nat)(y:bS)(H1:aa):Bq z (some (y,H1))=some (.x (.d H1.length 0 0 1),H1++[.ax z 0 1 [y]]):=rfl
def auK(z c g off len:Nat):lK z H (.x (.d c g off len))=u' z c g off len H H[c]?:=rfl
def auL(z d g off len db aY s:Nat)(rows:List bS):u' z d g off len H (some (.ax db aY s rows))=if z=db∧g=aY∧off+len≤rows.length then some (d,(rows.drop off).take len,H.set d (.ax z g (s+1) (e' rows off len)))else none:=rfl
def auM{t t2:Nat}(h:r7 E t t2=true)(z:Nat)(s x:U):tK E H t t2 z s x=va z s (lK z H x):=by unfold tK;rw[if_pos h]
def auN{t t2:Nat}(h:r7 E t t2=true)(z:Nat)(s:U)(k:cP):qU E H t t2 z s (.x k)=va z s (lK z H (.x k)):=auM h z s (.x k)
def auO(z d ay:Nat)(new:List bS)(H1:aa):va z (.i (.ae ay [] true)) (some (d,new,H1))=if new.length<1073741824 then some (.x (.d H1.length 0 0 new.length),H1++[.ax z 0 0 new])else none:=rfl
def auP(z d c g len:Nat)(new:List bS)(H1:aa):va z (.x (.d c g 0 len)) (some (d,new,H1))=Br z d c g len new H1 H1[c]?:=rfl
def auQ(z d c g len db aY s:Nat)(new rows:List bS)(H1:aa):Br z d c g len new H1 (some (.ax db aY s rows))=if z=db∧g=aY∧c≠d∧len≤rows.length∧len+new.length<1073741824 then some (.x (.d c (g+1) 0 (len+new.length)),H1.set c (.ax z (g+1) 0 (rows.take len++new)))else none:=rfl
def auR{t:Nat}(h:r7 E t t=true)(z:Nat)(x y:U):qT E H t z x y=y5 z x (lK z H y):=by unfold qT;rw[if_pos h]
def auS(z d c g off len:Nat)(new:List bS)(H1:aa):y5 z (.x (.d c g off len)) (some (d,new,H1))=Bs z d c g off len new H1 H1[c]?:=rfl
def auT(z d c g off len db aY s:Nat)(new rows:List bS)(H1:aa):Bs z d c g off len new H1 (some (.ax db aY s rows))=if z=db∧g=aY∧c≠d∧off+len≤rows.length∧new.length≤len then some (.int .i64 new.length,H1.set c (.ax z g (s+1) (rows.take off++(new++rows.drop (off+new.length)))))else none:=rfl
def auU(z c n:Nat)(H:aa):tL z (some (.ref c 0 0 n,H))=Bt z c n H H[c]?:=rfl
def auV(z c n:Nat)(rows:List (List aD))(ex:Bool):Bt z c n H (some (.ae 1 0 rows ex))=some (.x (.d c 0 0 n),H.set c (.ax z 0 0 (rows.map p_))):=rfl
def auW(y:aD):p_ [y]=.dG y:=rfl
end
def auX:∀a,jZ (Value.bool a)=cellOf (Value.bool a):=λ _=>rfl
def auY:∀a,cellOf (Value.bool a)=.i (.v (Value.bool a)):=λ _=>rfl
def auZ:∀a b,jZ (j4 a b)=cellOf (j4 a b):=λ _ _=>rfl
def au0:∀a b,cellOf (j4 a b)=.i (.v (j4 a b)):=λ _ _=>rfl
def au1:∀a b,jZ (Value.float a b)=cellOf (Value.float a b):=λ _ _=>rfl
def au2:∀a b,cellOf (Value.float a b)=.i (.v (Value.float a b)):=λ _ _=>rfl
def au3:∀a b c,jZ (PD a b c)=cellOf (PD a b c):=λ _ _ _=>rfl
def au4:∀a b c,cellOf (PD a b c)=.i (.v (PD a b c)):=λ _ _ _=>rfl
def au5:∀a,jZ (CG a)=cellOf (CG a):=λ _=>rfl
def au6:∀a,cellOf (CG a)=.i (.v (CG a)):=λ _=>rfl
def au7:∀a,jZ (Value.map a)=cellOf (Value.map a):=λ _=>rfl
def au8:∀a,cellOf (Value.map a)=.i (.v (Value.map a)):=λ _=>rfl
def au9:∀a,jZ (Value.chan a)=cellOf (Value.chan a):=λ _=>rfl
def au_:∀a,cellOf (Value.chan a)=.i (.v (Value.chan a)):=λ _=>rfl
def au':∀a b c,jZ (EB a b c)=cellOf (EB a b c):=λ _ _ _=>rfl
def ava:∀a b c,cellOf (EB a b c)=.i (.v (EB a b c)):=λ _ _ _=>rfl
def avb:jZ (PE)=cellOf (PE):=rfl
def avc:cellOf (PE)=.i (.v (PE)):=rfl
def avd:∀a b,jZ (Value.iface a b)=cellOf (Value.iface a b):=λ _ _=>rfl
def ave:∀a b,cellOf (Value.iface a b)=.i (.v (Value.iface a b)):=λ _ _=>rfl
def avf:jZ (PF)=cellOf (PF):=rfl
def avg:cellOf (PF)=.i (.v (PF)):=rfl
def avh:∀a,jZ (Value.string a)=cellOf (Value.string a):=λ _=>rfl
def avi:∀a b c,jZ (Value.slice a b c)=cellOf (Value.slice a b c):=λ _ _ _=>rfl
def avj:∀a,jZ (Value.tuple a)=cellOf (Value.tuple a):=λ _=>rfl
def avk:∀a b c,cellOf (Value.slice (some a) b c)=.i (.v (Value.slice (some a) b c)):=λ _ _ _=>rfl
def avl:∀a b c d aU,Chunk.cL aU (Chunk.ae a b c d)=(Chunk.ae a b c d):=λ _ _ _ _ _=>rfl
def avm:∀a b c d,Chunk.refs (Chunk.ae a b c d)=[]:=λ _ _ _ _=>rfl
def avn:∀a b c d aU,Chunk.cL aU (Chunk.bl a b c d)=(Chunk.bl a b c d):=λ _ _ _ _ _=>rfl
def avo:∀a b c d,Chunk.refs (Chunk.bl a b c d)=[]:=λ _ _ _ _=>rfl
def avp:∀a b aU,Chunk.cL aU (Chunk.iter a b)=(Chunk.iter a b):=λ _ _ _=>rfl
def avq:∀a b,Chunk.refs (Chunk.iter a b)=[]:=λ _ _=>rfl
def avr:∀a b aU,Chunk.cL aU (Chunk.jA a b)=(Chunk.jA a b):=λ _ _ _=>rfl
def avs:∀a b,Chunk.refs (Chunk.jA a b)=[]:=λ _ _=>rfl
def avt:∀aU,Chunk.cL aU (Chunk.gone)=(Chunk.gone):=λ _=>rfl
def avu:Chunk.refs (Chunk.gone)=[]:=rfl
def avv:∀a b c d aU,Chunk.cL aU (Chunk.ax a b c d)=(Chunk.ax a b c d):=λ _ _ _ _ _=>rfl
def avw:∀a b c d,Chunk.refs (Chunk.ax a b c d)=[]:=λ _ _ _ _=>rfl
def avx:∀a b aU,Chunk.cL aU (Chunk.fd a b)=(Chunk.fd a b):=λ _ _ _=>rfl
def avy:∀a b,Chunk.refs (Chunk.fd a b)=[]:=λ _ _=>rfl
def avz:∀a,dS (Op.makeMap a none)=true:=λ _=>rfl
def avA:∀a b,dS (Op.makeMap a (some b))=false:=λ _ _=>rfl
def avB:∀a,dS (Op.move a)=false:=λ _=>rfl
def avC:∀a,dS (Op.assign a)=false:=λ _=>rfl
def avD:∀a b c,dS (Op.pick a b c)=false:=λ _ _ _=>rfl
def avE:∀a b,dS (Op.build a b)=false:=λ _ _=>rfl
def avF:∀a b c d,dS (Op.insert a b c d)=false:=λ _ _ _ _=>rfl
def avG:∀a b,dS (Op.load a b)=false:=λ _ _=>rfl
def avH:∀a b c,dS (Op.store a b c)=false:=λ _ _ _=>rfl
def avI:∀a,dS (Op.ready a)=false:=λ _=>rfl
def avJ:∀a,dS (Op.waits a)=false:=λ _=>rfl
def avK:∀a,dS (Op.nilCheck a)=false:=λ _=>rfl
def avL:∀a b c d e,dS (Op.binOp a b c d e)=false:=λ _ _ _ _ _=>rfl
def avM:∀a b c,dS (Op.unOp a b c)=false:=λ _ _ _=>rfl
def avN:∀a b c,dS (Op.convert a b c)=false:=λ _ _ _=>rfl
def avO:∀a b,dS (Op.sliceToArrayPointer a b)=false:=λ _ _=>rfl
def avP:∀a b,dS (Op.makeInterface a b)=false:=λ _ _=>rfl
def avQ:∀a b c,dS (Op.makeFunc a b c)=false:=λ _ _ _=>rfl
def avR:∀a b,dS (Op.makeChan a b)=false:=λ _ _=>rfl
def avS:∀a b c d e,dS (Op.slice a b c d e)=false:=λ _ _ _ _ _=>rfl
def avT:∀a b c,dS (Op.fieldAddr a b c)=false:=λ _ _ _=>rfl
def avU:∀a b c,dS (Op.field a b c)=false:=λ _ _ _=>rfl
def avV:∀a b c,dS (Op.indexAddr a b c)=false:=λ _ _ _=>rfl
def avW:∀a b c,dS (Op.index a b c)=false:=λ _ _ _=>rfl
def avX:∀a b c d,dS (Op.lookup a b c d)=false:=λ _ _ _ _=>rfl
def avY:∀a b c d,dS (Op.mapUpdate a b c d)=false:=λ _ _ _ _=>rfl
def avZ:∀a b c,dS (Op.mapEntry a b c)=false:=λ _ _ _=>rfl
def av0:∀a b c d,dS (Op.entryStore a b c d)=false:=λ _ _ _ _=>rfl
def av1:∀a b,dS (Op.range a b)=false:=λ _ _=>rfl
def av2:∀a b,dS (Op.next a b)=false:=λ _ _=>rfl
def av3:∀a,dS (Op.entry a)=false:=λ _=>rfl
def av4:∀a b c d,dS (Op.typeAssert a b c d)=false:=λ _ _ _ _=>rfl
def av5:∀a b,dS (Op.extract a b)=false:=λ _ _=>rfl
def av6:∀a,dS (Op.call a)=false:=λ _=>rfl
def av7:one (U.dead)=false:=rfl
def av8:∀a,one (U.agg a)=false:=λ _=>rfl
def av9:∀a,one (U.be a)=false:=λ _=>rfl
def av_:cA (U.dead)=[(U.dead)]:=rfl
def av':∀a,cA (U.i a)=[(U.i a)]:=λ _=>rfl
def awa:∀a b c d,cA (U.ref a b c d)=[(U.ref a b c d)]:=λ _ _ _ _=>rfl
def awb:∀a b c d,cA (U.ptr a b c d)=[(U.ptr a b c d)]:=λ _ _ _ _=>rfl
def awc:∀a,cA (U.dA a)=[(U.dA a)]:=λ _=>rfl
def awd:∀a b c,cA (U.aR a b c)=[(U.aR a b c)]:=λ _ _ _=>rfl
def awe:∀a,cA (U.be a)=[(U.be a)]:=λ _=>rfl
def awf:∀a,cA (U.x a)=[(U.x a)]:=λ _=>rfl
def awg:fJ (Code.skip)=none:=rfl
def awh:∀a,fJ (Code.exit a)=none:=λ _=>rfl
def awi:∀a,fJ (Code.label a)=none:=λ _=>rfl
def awj:∀a,fJ (Code.goto a)=none:=λ _=>rfl
def awk:fJ (Code.ret)=none:=rfl
def awl(E:Env)(I:Fr)(H:aa)(x:Operand)(t:TypeId):ev E I H (.call ⟨.builtin .len,#[x],#[t]⟩)=if hG E.P t=true∨(e5 E.P t).isSome=true then match bo E I x with
 |.i (.str l)=>if hG E.P t=true then some (.int .i64 l.length)else none
 |.i (.ae _ rows _)=>if hG E.P t=true then none else some (.int .i64 rows.length)
 |.ref _ _ _ len=>if hG E.P t=true then none else some (.int .i64 len)
 |.x (.d _ _ _ len)=>if hG E.P t=true then none else some (.int .i64 len)
 |_=>none
 else none:=rfl
def J8(E:Env)(H:aa)(t t2:TypeId)(s x:U):Option Nat→Option (U×aa)
 |none=>hI E H t t2 s x
 |some z=>qU E H t t2 z s x
def J9(E:Env)(H:aa)(t:TypeId)(s x:U):Option Nat→Option (U×aa)
 |none=>ns E H t s x
 |some z=>qT E H t z s x
def awm(E:Env)(H:aa)(t t2:TypeId)(s x:U):J8 E H t t2 s x none=hI E H t t2 s x:=rfl
def awn(E:Env)(H:aa)(t t2 z:TypeId)(s x:U):J8 E H t t2 s x (some z)=qU E H t t2 z s x:=rfl
def awo(E:Env)(H:aa)(t:TypeId)(s x:U):J9 E H t s x none=ns E H t s x:=rfl
def awp(E:Env)(H:aa)(t z:TypeId)(s x:U):J9 E H t s x (some z)=qT E H t z s x:=rfl
def awq(E:Env)(I:Fr)(H:aa)(s x:Operand)(t t2:TypeId):dh E I H (.call ⟨.builtin .append,#[s,x],#[t,t2]⟩)=J8 E H t t2 (bo E I s) (bo E I x) (sT E t):=by simp only[dh,J8];cases sT E t<;>rfl
def awr(E:Env)(I:Fr)(H:aa)(d x:Operand)(t t2:TypeId):dh E I H (.call ⟨.builtin .copy,#[d,x],#[t,t2]⟩)=J9 E H t (bo E I d) (bo E I x) (sT E t):=by simp only[dh,J9];cases sT E t<;>rfl
def PG(H:aa):U→Option (U×aa)
 |.ptr c _ _ 0=>match H[c]? with
  |some (.iter s pos)=>if pos<s.length then
   some (.be [.bool true,.int .i64 pos,.int .i32 (mh ⟨⟨s⟩⟩ pos).1],H.set c (.iter s (pos+(mh ⟨⟨s⟩⟩ pos).2)))else some (.be [.bool false],H)
  |_=>none
 |_=>none
def aws(E:Env)(I:Fr)(H:aa)(it:Operand):dh E I H (.next it true)=PG H (bo E I it):=by
 unfold PG;simp only[dh];split
 ·rename_i h;rw[h];rfl
 ·rename_i h;split
  ·rename_i c g r aO;exact absurd aO (h c g r rfl)
  ·rfl
def awt(H:aa)(c g r:Nat):PG H (.ptr c g r 0)=match H[c]? with
 |some (.iter s pos)=>if pos<s.length then
  some (.be [.bool true,.int .i64 pos,.int .i32 (mh ⟨⟨s⟩⟩ pos).1],H.set c (.iter s (pos+(mh ⟨⟨s⟩⟩ pos).2)))else some (.be [.bool false],H)
 |_=>none:=rfl
def awu:=o @anM (o @anJ (o @anN (o @anO (o @anI (o @anH (o @anF (o @anG (o @anP (o @aoL (o @aoM (o @aoN (o @aoO (o @aoP (o @aoQ (o @aoR (o @aoS (o @aoT (o @aoU (@aoW)))))))))))))))))))
def awv:=o @aoX (o @aoV (o @arP (o @arQ (o @arR (o @arS (o @arT (o @arL (o @arN (o @arO (o @an2 (o @an3 (o @an4 (o @anX (o @anY (o @anZ (o @an0 (o @an1 (o @an9 (@an_)))))))))))))))))))
def aww:=o @an' (o @an5 (o @an6 (o @an7 (o @an8 (o @aqv (o @aqw (o @aqx (o @aqy (o @asC (o @asA (o @asB (o @aqz (o @aqA (o @aqB (o @aqC (o @aqD (o @aqE (o @aqF (@aqG)))))))))))))))))))
def awx:=o @aqH (o @aqI (o @aqJ (o @aqK (o @aqL (o @aqM (o @aqN (o @aqO (o @aqP (o @aqS (o @asT (o @asS (o @asR (o @aqU (o @aqV (o @aq_ (o @arb (o @aq' (o @are (@arj)))))))))))))))))))
def awy:=o @ari (o @arh (o @aok (o @aol (o @aom (o @aon (o @aoo (o @aop (o @aoq (o @aor (o @aos (o @aot (o @aou (o @aov (o @aow (o @aox (o @aoy (o @aoz (o @aoA (@aoB)))))))))))))))))))
def awz:=o @aoC (o @aoD (o @aoE (o @aoF (o @aoG (o @aoJ (o @aoK (o @aoj (o @aoh (o @aoi (o @as' (o @CE (o @v7 (o @as5 (o @as6 (o @as7 (o @as8 (o @as9 (o @as_ (@aod)))))))))))))))))))
def awA:=o @aoe (o @aof (o @aoa (o @aob (o @aoc (o @aog (o @ar4 (o @ar5 (o @asq (o @asr (o @ass (o @ast (o @asu (o @asv (o @asw (o @asx (o @asy (o @asz (o @arv (@aqb)))))))))))))))))))
def awB:=o @ary (o @arM (o @aqg (o @aqh (o @aqi (o @aqj (o @aqk (o @aql (o @aqm (o @aqn (o @aqc (o @aqd (o @aqe (o @aqf (o @WW (o @aqo (o @aqp (o @aqq (o @aqr (@aqs)))))))))))))))))))
def awC:=o @WX (o @aqt (o @WY (o @aqu (o @WZ (o @W0 (o @O6 (o @ao2 (o @ao3 (o @ao4 (o @ao5 (o @ao6 (o @ao7 (o @aoY (o @aoZ (o @ao0 (o @ao1 (o @ao8 (o @ao9 (@WS)))))))))))))))))))
def awD:=o @ao_ (o @ao' (o @apa (o @apb (o @apc (o @apd (o @ape (o @apf (o @apg (o @aph (o @api (o @apj (o @apk (o @apl (o @apm (o @apn (o @apo (o @app (o @apq (@apr)))))))))))))))))))
def awE:=o @aps (o @apt (o @apu (o @apv (o @apy (o @apA (o @apB (o @apC (o @apD (o @apE (o @apF (o @apG (o @apH (o @apI (o @WT (o @apJ (o @WU (o @apK (o @apL (@apM)))))))))))))))))))
def awF:=o @apN (o @WV (o @apO (o @apP (o @apQ (o @apR (o @apS (o @apT (o @apU (o @apV (o @apW (o @apX (o @apY (o @apZ (o @ap0 (o @ap1 (o @ap2 (o @ap3 (o @ap4 (@ap5)))))))))))))))))))
def awG:=o @ap6 (o @ap7 (o @ap8 (o @ap9 (o @ap_ (o @ap' (o @aqa (o @Cy (o @ar6 (o @ar9 (o @asI (o @asH (o @asU (o @asV (o @asW (o @as0 (o @as1 (o @as2 (o @as3 (@as4)))))))))))))))))))
def awH:=o @asM (o @asO (o @asP (o @asQ (o @Xr (o @Xs (o @l9 (o @arB (o @arD (o @arC (o @arE (o @arF (o @arG (o @arH (o @arI (o @arJ (o @arK (o @arz (o @arA (@arY)))))))))))))))))))
def awI:=o @arZ (o @ar0 (o @ar1 (o @ar2 (o @ar3 (o @arU (o @arV (o @arW (o @arX (o @arw (o @arx (o @aqQ (o @asK (o @atb (o @atc (o @atd (o @ate (o @atf (o @atg (@ath)))))))))))))))))))
def awJ:=o @ati (o @atj (o @atk (o @atl (o @atm (o @atn (o @ato (o @atq (o @atr (o @atu (o @atv (o @atw (o @atx (o @aty (o @atz (o @atA (o @atB (o @atC (o @atD (@atE)))))))))))))))))))
def awK:=o @atF (o @atG (o @atH (o @atI (o @atJ (o @atK (o @atL (o @atM (o @atN (o @atO (o @Xv (o @ats (o @att (o @arf (o @atS (o @atT (o @Xw (o @atU (o @Xx (@atV)))))))))))))))))))
def awL:=o @Xz (o @at8 (o @Xy (o @atW (o @atX (o @Pz (o @atY (o @atZ (o @at0 (o @at1 (o @at2 (o @at3 (o @at4 (o @at5 (o @at6 (o @at7 (o @at9 (o @aua (o @aub (@auc)))))))))))))))))))
def awM:=o @aud (o @aue (o @auf (o @aug (o @auh (o @aui (o @auj (o @auk (o @aul (o @aum (o @aun (o @auo (o @aup (o @auq (o @aur (o @aus (o @aut (o @auu (o @auv (@auw)))))))))))))))))))
def awN:=o @auy (o @auz (o @auA (o @auB (o @auC (o @auD (o @auE (o @auF (o @auG (o @auH (o @auI (o @auJ (o @auK (o @auL (o @auO (o @auP (o @auQ (o @auS (o @auT (@auU)))))))))))))))))))
def awO:=o @auV (o @auW (o @asY (o @asZ (o @apw (o @apx (o @apz (o @aq8 (o @aq9 (o @arc (o @ard (o @aoH (o @aoI (o @aqW (o @aqX (o @aqY (o @aqZ (o @aq0 (o @aq3 (@aq2)))))))))))))))))))
def awP:=o @aq1 (o @aq4 (o @aq5 (o @aq6 (o @aq7 (o @ara (@atp))))))
def awQ:=o @PH.{0,0} (o @sy.{0,0} (o @List.filter_cons.{0} (o @List.filter_nil.{0} (o @mU.{0} (o @ya.{0} (o @PI.{0} (o @EK.{0} (o @zo.{0,0} (o @List.foldl_nil.{0,0} (o @List.toList_toArray.{0} (o @qn.{0} (o @jM.{0} (o @List.getElem?_toArray.{0} (o @d'.{0,0} (o @Option.map_none.{0,0} (o @Ps.{0,0} (o @Option.bind_none.{0,0} (o @iM.{0} (@Option.getD_none.{0})))))))))))))))))))
def awR:=o @Pw.{0} (o @Option.isSome_none.{0} (o @Pr.{0} (o @fK (o @List.all_nil.{0} (o @CA.{0} (o @uy.{0} (o @gM.{0} (o @c_.{0} (o @Ah (o @jQ (o @yb (o @ly (o @Bool.or_true (o @Bool.true_or (o @x1 (o @Jl (o @J_ (o @rF (@Cg.{0})))))))))))))))))))
def awS:=o @PJ.{0} (o @fc (o @cq (o @cT.{0} (o @dx.{0} (o @lX.{0,0} (o @qk (o @List.range'_zero (o @List.range'_one (o @Nat.lt_irrefl (o @cQ (o @oe (o @Nat.zero_lt_succ (o @Int.natCast_nonneg (o @iy.{0} (o @List.contains_nil.{0} (o @List.contains_cons.{0} (o @List.elem_nil.{0} (o @BQ.{0} (@PK)))))))))))))))))))
def awT:=o @List.getElem?_nil.{0} (o @bj.{0} (o @List.append_eq.{0} (o @CH.{0} (o @List.set_cons_succ.{0} (o @List.set_nil.{0} (o @jI.{0} (o @dd.{0} (o @fA.{0,0} (o @Bool.cond_true_left (o @Bool.cond_false_right (o @Bool.cond_false_left (o @Bool.cond_true_right (o @Int.not_lt (o @Int.not_le (o @UInt8.ofNat_toNat (o @Classical.not_not (o @s0.{0} (o @CI.{0} (@Uu.{0})))))))))))))))))))
def awU{E:Env}{aL:dD}{H:aa}{f c g aY n m ay:Nat}{bI:List U}{rows eF:List (List aD)}{ex gd:Bool}{h:List U→List Chunk→Option (U×List Chunk)}(he:E.ext f=some h)(aQ:H[c]?=some (.ae ay g rows ex))(has:bz bI=[])
  (ah:h (.ref 0 g 0 n::bI) [.ae ay g rows ex]=some (.ref 0 aY 0 m,[.ae ay aY eF gd])):
  dj E aL f (.ref c g 0 n::bI) H=some (.ref c aY 0 m,H.set c (.ae ay aY eF gd)):=by
 have j:∀aU,cB aU bI=bI:=λ aU=>(ga aU).2 bI has
 have dc:=sx aQ (by rfl);unfold dj;simp[e0,he,bz,bd,dc,cB,co,bt,aQ,Chunk.cL,has,j,ah,Chunk.refs,reach,ef,dm]
end Go.VI
