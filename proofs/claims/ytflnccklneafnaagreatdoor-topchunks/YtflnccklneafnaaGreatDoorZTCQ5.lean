import Derived.Test.YtflnccklneafnaaGreatDoorZTCQ4
import Derived.Lib.ItoaLen
open And renaming intro→o
open BitVec renaming ofInt→su
open Bool renaming false_eq_true→fF,and_eq_true→cR,and_self→M_,not_eq_true'→qW,and_eq_false_iff→NX,true_and→jJ,false_and→lo,and_true→zQ,and_false→xI,not_true→JE,not_false→ra,not_eq_true→F9
open Eq renaming trans→ga
open Go.IntKind renaming i64→nK,i32→sa
open Go.Lib renaming indexByte→Js,itoa→zP
open Go.Utf8 renaming encode→Hl
open Int renaming toNat_natCast→nV,cast_ofNat_Int→O6,natCast_zero→gZ,eq_ofNat_of_zero_le→jb,natCast_one→KO,natCast_add→C8,tmod_eq_emod_of_nonneg→afI,reduceEq→Gk
open List renaming replicate→cB,range→g',range'→lF,map_cons→fh,mem_cons→ng,getElem?_eq_some_iff→bF,getElem?_drop→rQ,getElem?_append_left→ei,getElem?_append_right→hd,getElem?_eq_getElem→eX,length_append→dp,replicate_succ→Ef,flatten_cons→sF,drop_drop→HH,foldl_cons→yX,getElem_mem→mL,length_cons→cQ,append_assoc→dU,getElem?_set_ne→dw,set_getElem_self→Br,getElem?_set_self→kl,append_nil→c8,set_append_right→yY,set_set→uY,nil_append→gJ,length_map→nM,mem_of_getElem?→kn,length_nil→dr,length_set→jC,take→ek,getElem?_cons_zero→p6,mem_cons_of_mem→xe,length_take→hE,length_replicate→mg,length_drop→iG,getElem?_replicate→MG,mem_append→fS,getElem?_eq_none→rW,length_pos_iff→M2,ext_getElem?→EO,getElem?_cons_succ→jF,mem_map→Fa,map_nil→fm,take_zero→mQ,take_succ_cons→vk,getD_eq_getElem?_getD→oF,drop_zero→il,drop_eq_getElem_cons→jq,drop_length→mR,length_eq_one_iff→VM,take_append_drop→Jg,append_eq_nil_iff→OA,flatMap_nil→r9,map_map→vH,flatMap_cons→O3,not_mem_nil→xG,all_cons→FF,cons_append→xH,set_cons_zero→FG,flatten_nil→Ch,take_of_length_le→s7,drop→eG,any_eq_false→Qk,map_append→rf,map_set→uo,map_drop→sk,take_succ_eq_append_getElem→KX,mem_of_mem_drop→ur,filter→rq,mem_of_mem_take→Di,mem_replicate→Ra,mem_cons_self→Lf,getD→Gz,getElem?_take_of_lt→agP,mem_singleton→AJ
open List.cons renaming injEq→Bu
open Nat renaming le_refl→cL,le_trans→rN,add_zero→e7,zero_add→cp,sub_self→rR,not_le→e',add_comm→qb,zero_le→jp,not_lt_zero→q8,sub_zero→sf,mod_eq_of_lt→CU,reduceAdd→c1
open Ne renaming symm→a'
open Option renaming map_eq_some_iff→c0,getD_some→i1,map_some→en,map→Gp
open Option.some renaming inj→pY,injEq→bg
open UInt8 renaming ofNat→hI,toNat_ofNat'→Qx
namespace Go.VI
open Go.Proofs
set_option maxRecDepth 100000
set_option maxHeartbeats 40000000
set_option linter.unusedVariables false
set_option linter.unusedSimpArgs false
set_option linter.defProp false
def aHK{l:List bl}(al:l.length≤132)(au:hv l=true)(bb n:Nat)(ag:bb<l.length)(j:1≤n)(aE:n<1000000)(a:ed)(H:aa):
  cn 166 [.i (.sl 5 (cg l) false),bb,n,.agg [a.cZ,a.a7,a.cW]] H (.bd [.ref H.length 0 0 l.length,↑(0:Int)]) (H++[.sl 5 0 (cg (oS l bb n a)) false]):=C9 (c:=4) rfl rfl rfl (by
 have qZ:=λ H=>KR R al au bb ((l.length:Int)-1) R R H
 have aN:=C_ l al bb l.length rfl R 1 [.box [.i (.v (.int .i64 (a.cZ))),.i (.v (.int .i64 (a.a7))),.i (.v (.int .i64 (a.cW)))],.sl 5 0 (cg l) false] rfl;have hm:min (n:Int) ((l.length:Int)-bb)=((min n (l.length-bb):Nat):Int):=R;have aj:=λ H=>KQ (min n (l.length-bb)) a.a7 R H
 have ay:1≤min n (l.length-bb)∧min n (l.length-bb)≤l.length-bb:=R;have ak:=QX (n:=n) (a:=a) ag;have vf:=vX l bb;have K4:=C_ (c9 l bb) R (bb+min n (l.length-bb)) l.length vf.symm R 1 [.box [.i (.v (.int .i64 (a.cZ))),.i (.v (.int .i64 (a.a7))),.i (.v (.int .i64 (a.cW)))],.sl 5 0 (cg (c9 l bb)) false] rfl;rw[C8]at K4;have xr:=vX (c9 l bb) (bb+min n (l.length-bb));rw[vf]at xr;have x5:=λ H=>QO ((c9 (c9 l bb) (bb+min n (l.length-bb))).take bb) ((c9 (c9 l bb) (bb+min n (l.length-bb))).drop (bb+min n (l.length-bb))) (dB (min n (l.length-bb)) a.a7) l.length (by
  have:=ak;simpa only[oS,dp]using this) R H
 rw[show(c9 (c9 l bb) (bb+min n (l.length-bb))).take bb++((c9 (c9 l bb) (bb+min n (l.length-bb))).drop (bb+min n (l.length-bb))++dB (min n (l.length-bb)) a.a7)=oS l bb n a from rfl]at x5;have lk:¬(n:Int)<1:=R;generalize oS l bb n a=x at*;have Ox:=fq x;generalize c9 (c9 l bb) (bb+min n (l.length-bb))=ai at*;generalize c9 l bb=cr at*;generalize min n (l.length-bb)=m at*;have ah:((bb:Int)+m).toNat=bb+m:=R;have aM:l.length-(bb+m)=ai.length-(bb+m):=R;rw[nt Tryz.func166 rfl adD.1];simp(disch:=first|omega|(simp only[ec,fq,oQ,vf,xr,ak];omega))only[ar,simprocAttr,aEN,dM,cV,qZ,aN,K4,hm,aj,x5,lk,ah,KT,KU,KV,fq,oQ,sf];exact⟨_,rfl,by rfl⟩)
def pD(l:List bl)(p q:Nat)(a:ed):List bl:=if p=q then l else(c9 (c9 l p) q).take p++(dB (q-p) a.a7++(c9 (c9 l p) q).drop q)
def QY{l:List bl}{p q:Nat}{a:ed}(lx:p≤q)(bm:q≤l.length):(pD l p q a).length=l.length:=by
 unfold pD;split
 ·rfl
 ·simp only[dp,hE,iG,vX,Ag];omega
def aHL{l:List bl}(aW:0<l.length)(al:l.length≤132)(au:hv l=true)(p q:Nat)(lx:p≤q)(bm:q≤l.length)(a:ed)(H:aa):
  cn 213 [.i (.sl 5 (cg l) false),p,q,.agg [a.cZ,a.a7,a.cW]] H (.bd [.ref H.length 0 0 l.length,↑(0:Int)]) (H++[.sl 5 0 (cg (pD l p q a)) false]):=by
 have qZ:=λ H=>KR aW al au p l.length R R H
 have ak:=QY (a:=a) lx bm;have afz:¬(q:Int)<p:=R;have IN:¬(l.length:Int)<q:=R;by_cases he:p=q
 ·refine C9 (c:=1) rfl rfl rfl ?_;subst he;rw[pD,if_pos rfl];rw[bo P5];simp(disch:=first|omega|(simp only[ec,fq];omega))only[ar,simprocAttr,ad7,dM,cV,qZ,afz,IN,fq];exact⟨_,rfl,by rfl⟩
 ·refine C9 (c:=4) rfl rfl rfl ?_;have gh:¬(p:Int)=q:=R;have aN:=C_ l al p l.length rfl R 1 [.box [.i (.v (.int .i64 (a.cZ))),.i (.v (.int .i64 (a.a7))),.i (.v (.int .i64 (a.cW)))],.sl 5 0 (cg l) false] rfl;have vf:=vX l p;have K4:=C_ (c9 l p) R q l.length vf.symm R 1 [.box [.i (.v (.int .i64 (a.cZ))),.i (.v (.int .i64 (a.a7))),.i (.v (.int .i64 (a.cW)))],.sl 5 0 (cg (c9 l p)) false] rfl;have xr:=vX (c9 l p) q;rw[vf]at xr;have aj:=λ H=>KQ (q-p) a.a7 R H
  have hm:(q:Int)-p=((q-p:Nat):Int):=R;unfold pD at ak⊢;rw[if_neg he]at ak⊢;have x5:=λ H=>QO ((c9 (c9 l p) q).take p) (dB (q-p) a.a7) ((c9 (c9 l p) q).drop q) l.length (by
   have:=ak;simpa only[dp]using this) R H
  generalize rS:(c9 (c9 l p) q).take p++(dB (q-p) a.a7++(c9 (c9 l p) q).drop q)=x at*;have Ox:=fq x;generalize c9 (c9 l p) q=ai at*;generalize c9 l p=cr at*;rw[bo P5];simp(disch:=first|omega|(simp only[ec,fq,oQ,vf,xr,ak];omega))only[ar,simprocAttr,ad7,dM,cV,qZ,aN,K4,hm,aj,x5,afz,IN,gh,KT,KU,KV,fq,oQ,sf];exact⟨_,rfl,by rfl⟩
def aHM(l:List bl):bT:=.dK (.sl 5 (cg l) false)
def Da(g:List (List bl)):(g.map λ r=>aC.sl 5 (cg r) false).map (λ y=>[y])=b2 g:=by simp[b2]
def tb(g:List (List (List bl))):List (List aC):=g.map λ r=>[.sl 1 (b2 r) false]
def Ak(g:List (List (List bl))):(tb g).length=g.length:=by simp[tb]
def afA{g:List (List (List bl))}{k:Nat}{r:List (List bl)}(h:g[k]?=some r):(tb g)[k]?=some [.sl 1 (b2 r) false]:=by simp[tb,h]
def aHN(a b:List (List bl)):b2 a++b2 b=b2 (a++b):=by simp[b2]
def aHO(g:List (List (List bl)))(aP:g.length<100000):∀(m k a:Nat),k+m=g.length→a+(g.drop k).flatten.length<1000000→
  hV uf 0 [(0,.i (.sl 1 (tb g) false)),(3,a),(9,.i (.sl 1 (tb g) false)),(10,g.length),(11,k)] [] 0 [(0,.i (.sl 1 (tb g) false)),(3,↑(a+(g.drop k).flatten.length:Nat)),(9,.i (.sl 1 (tb g) false)),(10,g.length),(11,g.length),(12,false)] []:=by
 intro m;induction m with
 |zero=>intro k a ay aA;obtain rfl:k=g.length:=R;rw[mR,Ch,dr,e7];refine(cM uf 0).trans ?_;simp(disch:=omega)only[ar,simprocAttr,F4,nr,dM,Ak,Qh]
 |succ m a8=>intro k a ay aA;have be:k<g.length:=R;have bX:=afA (eX be);rw[jq be,sF,dp]at aA⊢;have e:=a8 (k+1) (a+g[k].length) R R;rw[show a+(g[k].length+(g.drop (k+1)).flatten.length)=a+g[k].length+(g.drop (k+1)).flatten.length by omega];refine ga ?_ e;clear e a8;rw[C8 a];generalize g[k]=r at*;have aE:¬((a:Int)+r.length<0):=R;refine(cM uf 0).trans ?_;simp(disch:=omega)only[ar,simprocAttr,F4,nr,dM,bX,aE,Ak,gx,Qh]
def aHP(g:List (List (List bl)))(aP:g.length<100000):∀(m k:Nat) (a:List (List bl)),k+m=g.length→a.length+(g.drop k).flatten.length<1000000→
  hV uf 1 [(6,.ref 0 0 0 a.length),(25,.i (.sl 1 (tb g) false)),(26,g.length),(27,k)] [.sl 1 0 (b2 a) false] 2 [(6,.ref 0 0 0 (a++(g.drop k).flatten).length),(25,.i (.sl 1 (tb g) false)),(26,.i (.v (.int .i64 (g.length)))),(27,.i (.v (.int .i64 (g.length)))),(28,.i (.v (.bool (false))))] [.sl 1 0 (b2 (a++(g.drop k).flatten)) false]:=by
 intro m;induction m with
 |zero=>intro k a ay aA;obtain rfl:k=g.length:=R;rw[mR,Ch,c8];refine(cM uf 1).trans ?_;simp(disch:=first|omega|(simp only[ec,Ak,gx];omega))only[ar,simprocAttr,F4,nr,dM,Ak,gx,Qi]
 |succ m a8=>intro k a ay aA;have be:k<g.length:=R;have bX:=afA (eX be);rw[jq be,sF]at aA⊢;rw[dp]at aA;have e:=a8 (k+1) (a++g[k]) R (by rw[dp];omega);rw[←dU];refine ga ?_ e;clear e a8;generalize g[k]=r at*;rw[dp];refine(cM uf 1).trans ?_;simp(disch:=first|omega|(simp only[ec,Ak,gx];omega))only[ar,simprocAttr,F4,nr,dM,bX,Ak,gx,aHN,Qi]
def aHQ(n:Nat)(h:n≤1000000)(H:aa):dd E (b3 E) 222 [.i (.sl 0 [] true),.i (.v (.int .i64 (n)))] H=some (.ref H.length 0 0 0,H++[.sl 1 0 [] false]):=by rw[Fz (show E.ext 222=some (qd 1)from rfl)];exact vz (E:={E with ext:=λ _=>none}) (c:=0) (x:=.sl 1 0 [] false) rfl rfl rfl ⟨[.sl 1 0 [] false],by simp[qd];omega,rfl⟩
def aHR(g:List (List (List bl)))(aP:g.length<100000)(aR:g.flatten.length<1000000)(H:aa):dd E (b3 E) 208 [.i (.sl 1 (tb g) false)] H=
  some (.i (.sl 1 (b2 g.flatten) false),H):=gY rfl rfl rfl (by
 have j:=aHO g aP g.length 0 0 R (by rw[il];omega);have I:=aHP g aP g.length 0 [] R (by rw[il,dr];omega);rw[il,cp]at j;rw[il,gJ,show b2 []=[]from rfl,dr]at I;have av:=λ H=>aHQ g.flatten.length R H
 simp only[gZ]at j I;have al:=gx g.flatten;generalize ak:g.flatten.length=n at*;generalize b2 g.flatten=y at*;rw[bo uf];simp(disch:=omega)only[ar,simprocAttr,F4,nr,dM,j,I,av,Ak,Qh,Qi];exact⟨_,rfl⟩)
def aHS(a b:List (List bl))(aR:a.length+b.length<1000000)(H:aa):dd E (b3 E) 208 [.i (.sl 1 [[.sl 1 (b2 a) false],[.sl 1 (b2 b) false]] false)] H=
  some (.i (.sl 1 (b2 (a++b)) false),H):=by
 have h:=aHR [a,b] (by simp) (by simp;omega) H;simp only[sF,Ch,c8]at h;exact h
def aHT(a:List (List bl))(n:Nat):(b2 a).drop n=b2 (a.drop n):=by simp[b2,sk]
def uq(l:List (List bl))(n:Nat):List (List bl):=l.drop (l.length-n)
def afB(l:List (List bl))(n:Nat):(uq l n).length≤n:=by rw[uq,iG];omega
def aHU(g:List (List bl))(aP:g.length<1000000)(n:Nat)(aE:n<1000000)(H:aa):cv 207 [.i (.sl 1 (b2 g) false),n] H (.i (.sl 1 (b2 (uq g n)) false)):=cu (by
 have hp:¬(n:Int)<0:=R;have hm:max 0 ((g.length:Int)-n)=((g.length-n:Nat):Int):=R;have al:=gx g;have aM:(b2 g).drop (g.length-n)=b2 (uq g n):=aHT _ _;have fk:=gx (uq g n);have sn:(uq g n).length=g.length-(g.length-n):=by rw[uq,iG]
 generalize uq g n=z at*;refine bz ad3 ?_;simp(disch:=omega)only[ar,simprocAttr,aFa,dM,hp,hm,aM,al];exact⟨_,rfl⟩)
def aHV(g:List (List bl))(aP:g.length≤1000)(ah:∀r∈g,r.length≤132):∀(m k:Nat),k+m=g.length→
  hV CN 0 [(3,.x (.d 0 0 0 g.length)),(9,.i (.sl 1 (b2 g) false)),(10,g.length),(11,k)] [.az 5 0 0 (n7 g k)] 0 [(3,.x (.d 0 0 0 g.length)),(9,.i (.sl 1 (b2 g) false)),(10,g.length),(11,g.length),(12,false)] [.az 5 0 0 (aX g)]:=by
 intro m;induction m with
 |zero=>intro k ay;obtain rfl:k=g.length:=R;rw[afq];have aM:=gy g;generalize aX g=x at*;refine(cM CN 0).trans ?_;simp(disch:=omega)only[ar,simprocAttr,P4,dM,cV,gx,Qg]
 |succ m a8=>
  intro k ay;have be:k<g.length:=R;have bX:=Ah (eX be);have px:=afr be;have jA:=afs be;have fj:=ah _ (mL be);have ch:=λ H=>QM (cg (g[k]'be)) (by rw[fq];omega) H
  have al:=fq (g[k]'be);have fk:=afo (g:=g) (k:=k) R;have e:=a8 (k+1) R;refine ga ?_ e;clear e a8;rw[←jA];generalize n7 g k=y at*;generalize cg g[k]=z at*;refine(cM CN 0).trans ?_;simp(disch:=omega)only[ar,simprocAttr,P4,dM,cV,bX,px,ch,al,ne_eq,gx,Qg]
def Db(g:List (List bl)):qv 5 (aX g)=some (g.map λ r=>aC.sl 5 (cg r) false):=by have h:=OV 5 (g.map cg);rw[vH,vH]at h;exact h
def aHW(g:List (List bl))(aP:g.length≤1000)(ah:∀r∈g,r.length≤132)(H:aa):cv 206 [.i (.sl 1 (b2 g) false)] H (.i (.sl 1 (b2 g) false)):=cu (by
 have al:=aHV g aP ah g.length 0 R;rw[afp]at al;simp only[gZ]at al;have aM:=gy g;have w_:(cB g.length [aC.sl 5 [] false]).map pR=cB g.length (.dK (.sl 5 [] false)):=by simp[pR]
 have aI:=Db g;have hm:=Da g;generalize g.map (λ r=>aC.sl 5 (cg r) false)=X at*;generalize aX g=y at*;refine bz CN ?_;simp(disch:=first|omega|(simp only[ec,gx,aM];omega))only[ar,simprocAttr,P4,dM,cV,al,w_,aI,hm,gx,Qg];exact⟨_,rfl⟩)
def tc(b ai:List (List bl)):List (List bl):=uq (b++ai) 500
def aHX(b ai:List (List bl))(aj:b.length≤500)(b9:ai.length≤60)(ah:∀r∈b++ai,r.length≤132)(H:aa):
  cv 145 [.i (.sl 1 (b2 b) false),.i (.sl 1 (b2 ai) false)] H (.i (.sl 1 (b2 (tc b ai)) false)):=cu (by
 have ao:=λ H=>aHS b ai R H
 have aH:∀H:aa,dd E (b3 E) 207 [.i (.sl 1 (b2 (b++ai)) false),.i (.v (.int .i64 (500)))] H=some (.i (.sl 1 (b2 (tc b ai)) false),H):=λ H=>aHU (b++ai) (by rw[dp];omega) 500 R H
 have bN:=λ H=>aHW (tc b ai) (rN (afB _ _) R) (λ r h=>ah r (ur h)) H
 generalize tc b ai=z at*;generalize b++ai=y at*;refine bz ads ?_;simp(disch:=omega)only[ar,simprocAttr,aED,nr,dM,ao,aH,bN];exact⟨_,rfl⟩)
structure fW where
 r:Int
 c:Int
 p:Bool
 deriving DecidableEq
structure gz where
 w:Int
 h:Int
 cA:Int
 b7:Int
 c2:Bool
def ib(b:gz):Prop:=(1≤b.w∧b.w≤132)∧(1≤b.h∧b.h≤60)∧0≤b.cA∧b.cA<b.b7∧b.b7≤b.h
def eH(n bS ax:Int):Int:=max bS (min n ax)
def rl{n bS ax:Int}(h:bS≤ax):bS≤eH n bS ax∧eH n bS ax≤ax:=by unfold eH;omega
def x8{b:gz}(h:ib b)(H:aa):cv 60 [.agg [b.w,b.h,b.cA,b.b7,b.c2]] H (↑(0:Int)):=cu (by
 obtain⟨⟨j,I⟩,⟨av,ba⟩,bs,dq,gn⟩:=h;refine bz acM ?_;simp(disch:=omega)only[ar,simprocAttr,aD6];exact⟨_,rfl⟩)
def td(a b c:Int)(H:aa):cv 118 [a,b,c] H (↑(eH a b c)):=cu (by
 refine bz adf ?_;simp(disch:=omega)only[ar,simprocAttr,aEt];exact⟨_,rfl⟩)
def gb(c:fW)(b:gz):fW:=⟨eH c.r 0 (b.h-1),eH c.c 0 (b.w-1),c.p⟩
def Dc(c:fW){b:gz}(h:ib b)(H:aa):cv 61 [.agg [c.r,c.c,c.p],.agg [b.w,b.h,b.cA,b.b7,b.c2]] H (.agg [↑((gb c b).r),↑((gb c b).c),c.p]):=cu (by
 obtain⟨⟨j,I⟩,⟨av,ba⟩,bs,dq,gn⟩:=h;have ao:=λ H=>td c.r 0 (b.h-1) H
 have aH:=λ H=>td c.c 0 (b.w-1) H
 refine bz acN ?_;simp(disch:=omega)only[ar,simprocAttr,aD7,ao,aH];exact⟨_,rfl⟩)
def Gj(r:Int)(b:gz):Bool:=decide (b.cA≤r) &&decide (r<b.b7)
def aHY(r:Int)(b:gz)(H:aa):cv 205 [r,.agg [b.w,b.h,b.cA,b.b7,b.c2]] H (↑(Gj r b)):=cu (by
 unfold Gj;by_cases j:b.cA≤r<;>by_cases I:r<b.b7<;>simp only[j,I,decide_true,decide_false,zQ,xI,jJ,lo]<;>(
 refine bz ad2 ?_;simp(disch:=omega)only[ar,simprocAttr,aE',j,I];exact⟨_,rfl⟩))
def aHZ(x y z:aC):∃L,b3 E 200 [.ptr 0 0 0 0,.aQ (.func 118) [] []] [.box [.i x,.i y,.i z]]=some (.bd [],.box [.i x,.i y,.i z]::L):=by rw[bo adZ];simp(disch:=omega)only[ar,simprocAttr,aE8];exact⟨_,rfl⟩
def aH0(x y z:aC)(A B C:Chunk):cv 200 [.ptr 3 0 0 0,.aQ (.func 118) [] []] [A,B,C,.box [.i x,.i y,.i z]] (.bd []):=by obtain⟨L,h⟩:=aHZ x y z;unfold cv dd;simp[eV,awV,bx,bc,reach,Chunk.refs,cx,co,bt,Chunk.cI,h,df,ea]
def aH1(x y z:aC):∃L,b3 E 142 [.ptr 0 0 0 0,.aQ (.func 118) [] []] [.box [.i x,.i y,.i z]]=some (.bd [],.box [.i x,.i y,.i z]::L):=by rw[bo adq];simp(disch:=omega)only[ar,simprocAttr,aEB];exact⟨_,rfl⟩
def aH2(x y z:aC)(A B C:Chunk):cv 142 [.ptr 3 0 0 0,.aQ (.func 118) [] []] [A,B,C,.box [.i x,.i y,.i z]] (.bd []):=by obtain⟨L,h⟩:=aH1 x y z;unfold cv dd;simp[eV,awT,bx,bc,reach,Chunk.refs,cx,co,bt,Chunk.cI,h,df,ea]
def aH3(c:fW){b:gz}(h:ib b)(H:aa):cv 141 [.agg [c.r,c.c,c.p],.agg [b.w,b.h,b.cA,b.b7,b.c2],.aQ (.func 200) [] []] H (.agg [↑((gb c b).r),↑((gb c b).c),false]):=cu (by
 have ao:=λ H=>x8 h H
 have aH:=λ H=>Dc c h H
 refine bz CF ?_;simp(disch:=omega)only[ar,simprocAttr,FY,aB5,ao,aH,aH0];exact⟨_,rfl⟩)
def aH4(c:fW){b:gz}(h:ib b)(H:aa):cv 141 [.agg [c.r,c.c,c.p],.agg [b.w,b.h,b.cA,b.b7,b.c2],.aQ (.func 142) [] []] H (.agg [↑((gb c b).r),↑((gb c b).c),false]):=cu (by
 have ao:=λ H=>x8 h H
 have aH:=λ H=>Dc c h H
 refine bz CF ?_;simp(disch:=omega)only[ar,simprocAttr,FY,aBv,ao,aH,aH2];exact⟨_,rfl⟩)
def Dd(r:Int)(b:gz):Int:=if Gj r b=true then b.cA else 0
def De(r:Int)(b:gz):Int:=if Gj r b=true then b.b7-1 else b.h-1
def v8(r n:Int)(b:gz):Int:=eH (r-eH n (-1000) 1000) (Dd r b) (De r b)
def aH5(r c n:Int){b:gz}(h:ib b)(ah:0≤r∧r<b.h):∃L,b3 E 204 [.ptr 0 0 0 0,.aQ (.func 118) [] [],.ptr 1 0 0 0,.ptr 2 0 0 0] [.box [.i (.v (.int .i64 (r))),.i (.v (.int .i64 (c))),.i (.v (.bool (false)))],.box [.i (.v (.int .i64 (b).w)),.i (.v (.int .i64 (b).h)),.i (.v (.int .i64 (b).cA)),.i (.v (.int .i64 (b).b7)),.i (.v (.bool (b).c2))],.box [.i (.v (.int .i64 (n)))]]=some (.bd [],.box [.i (.v (.int .i64 (v8 r n b))),.i (.v (.int .i64 (c))),.i (.v (.bool (false)))]::.box [.i (.v (.int .i64 (b).w)),.i (.v (.int .i64 (b).h)),.i (.v (.int .i64 (b).cA)),.i (.v (.int .i64 (b).b7)),.i (.v (.bool (b).c2))]::.box [.i (.v (.int .i64 (n)))]::L):=by
 obtain⟨⟨j,I⟩,⟨av,ba⟩,bs,dq,gn⟩:=h;have ao:=λ H=>aHY r b H
 have aH:=λ H=>td n (-1000) 1000 H
 have bN:=λ H=>td (r-eH n (-1000) 1000) (Dd r b) (De r b) H
 have c':=rl (n:=n) (show(-1000:Int)≤1000 by decide);unfold v8;unfold Dd De at*;generalize eH n (-1000) 1000=q at*;cases aP:Gj r b<;>simp only[aP,if_true,if_false,fF]at ao bN⊢<;>(
 rw[bo ad1];simp(disch:=omega)only[ar,simprocAttr,aE_,JP,ao,aH,bN];exact⟨_,rfl⟩)
def aH6(r c n:Int){b:gz}(h:ib b)(ah:0≤r∧r<b.h)(A B C:Chunk):
  cn 204 [.ptr 5 0 0 0,.aQ (.func 118) [] [],.ptr 0 0 0 0,.ptr 1 0 0 0] [.box [b.w,b.h,b.cA,b.b7,b.c2],.box [n],A,B,C,.box [r,c,false]] (.bd []) [.box [b.w,b.h,b.cA,b.b7,b.c2],.box [n],A,B,C,.box [↑(v8 r n b),c,false]]:=by
 obtain⟨L,h⟩:=aH5 r c n h ah;unfold cn dd;simp[eV,awY,bx,bc,reach,Chunk.refs,cx,co,bt,Chunk.cI,h,df,ea]
def x9(c:fW){b:gz}(h:ib b):(0≤(gb c b).r∧(gb c b).r<b.h)∧0≤(gb c b).c∧(gb c b).c<b.w:=by obtain⟨⟨j,I⟩,⟨av,ba⟩,_⟩:=h;have ao:=rl (n:=c.r) (show 0≤b.h-1 by omega);have aH:=rl (n:=c.c) (show 0≤b.w-1 by omega);simp only[gb];omega
def aH7(c:fW)(n:Int){b:gz}(h:ib b):∃L,b3 E 141 [.agg [.i (.v (.int .i64 (c.r))),.i (.v (.int .i64 (c.c))),.i (.v (.bool (c.p)))],.agg [.i (.v (.int .i64 (b).w)),.i (.v (.int .i64 (b).h)),.i (.v (.int .i64 (b).cA)),.i (.v (.int .i64 (b).b7)),.i (.v (.bool (b).c2))],.aQ (.func 204) [] [.ptr 0 0 0 0,.ptr 1 0 0 0]] [.box [.i (.v (.int .i64 (b).w)),.i (.v (.int .i64 (b).h)),.i (.v (.int .i64 (b).cA)),.i (.v (.int .i64 (b).b7)),.i (.v (.bool (b).c2))],.box [.i (.v (.int .i64 (n)))]]=
  some (.agg [.i (.v (.int .i64 (v8 (gb c b).r n b))),.i (.v (.int .i64 ((gb c b).c))),.i (.v (.bool (false)))],.box [.i (.v (.int .i64 (b).w)),.i (.v (.int .i64 (b).h)),.i (.v (.int .i64 (b).cA)),.i (.v (.int .i64 (b).b7)),.i (.v (.bool (b).c2))]::.box [.i (.v (.int .i64 (n)))]::L):=by
 have ao:=λ H=>x8 h H
 have aH:=λ H=>Dc c h H
 have bN:=λ A B C=>aH6 (gb c b).r (gb c b).c n h (x9 c h).1 A B C
 rw[bo CF];simp(disch:=omega)only[ar,simprocAttr,FY,aco,ao,aH,bN];exact⟨_,rfl⟩
def aH8(c:fW)(n:Int){b:gz}(h:ib b)(A C:Chunk):
  cv 141 [.agg [c.r,c.c,c.p],.agg [b.w,b.h,b.cA,b.b7,b.c2],.aQ (.func 204) [] [.ptr 2 0 0 0,.ptr 1 0 0 0]] [A,.box [n],.box [b.w,b.h,b.cA,b.b7,b.c2],C] (.agg [↑(v8 (gb c b).r n b),↑((gb c b).c),false]):=by
 obtain⟨L,h⟩:=aH7 c n h;unfold cv dd;simp[eV,O_,bx,bc,reach,Chunk.refs,cx,co,bt,Chunk.cI,h,df,ea]
def ir(c:fW)(n:Int)(b:gz):fW:=⟨v8 (gb c b).r n b,(gb c b).c,false⟩
def QZ(c:fW)(n:Int){b:gz}(h:ib b)(H:aa):cv 143 [.agg [c.r,c.c,c.p],n,.agg [b.w,b.h,b.cA,b.b7,b.c2]] H (.agg [↑((ir c n b).r),↑((ir c n b).c),↑((ir c n b).p)]):=cu (by
 have ao:=λ A C=>aH8 c n h A C
 refine bz adr ?_;simp(disch:=omega)only[ar,simprocAttr,aEC,ao];exact⟨_,rfl⟩)
def v_(c n:Int)(b:gz):Int:=eH (c+eH n (-1000) 1000) 0 (b.w-1)
def aH9(r c n:Int){b:gz}(h:ib b)(ag:0≤c∧c<b.w):∃L,b3 E 203 [.ptr 0 0 0 0,.aQ (.func 118) [] [],.ptr 1 0 0 0,.ptr 2 0 0 0] [.box [.i (.v (.int .i64 (r))),.i (.v (.int .i64 (c))),.i (.v (.bool (false)))],.box [.i (.v (.int .i64 (n)))],.box [.i (.v (.int .i64 (b).w)),.i (.v (.int .i64 (b).h)),.i (.v (.int .i64 (b).cA)),.i (.v (.int .i64 (b).b7)),.i (.v (.bool (b).c2))]]=some (.bd [],.box [.i (.v (.int .i64 (r))),.i (.v (.int .i64 (v_ c n b))),.i (.v (.bool (false)))]::.box [.i (.v (.int .i64 (n)))]::.box [.i (.v (.int .i64 (b).w)),.i (.v (.int .i64 (b).h)),.i (.v (.int .i64 (b).cA)),.i (.v (.int .i64 (b).b7)),.i (.v (.bool (b).c2))]::L):=by
 obtain⟨⟨j,I⟩,⟨av,ba⟩,bs,dq,gn⟩:=h;have aH:=λ H=>td n (-1000) 1000 H
 have bN:=λ H=>td (c+eH n (-1000) 1000) 0 (b.w-1) H
 have c':=rl (n:=n) (show(-1000:Int)≤1000 by decide);unfold v_;generalize eH n (-1000) 1000=q at*;rw[bo ad0];simp(disch:=omega)only[ar,simprocAttr,aE9,JP,aH,bN];exact⟨_,rfl⟩
def aH_(r c n:Int){b:gz}(h:ib b)(ag:0≤c∧c<b.w)(A B C:Chunk):
  cn 203 [.ptr 5 0 0 0,.aQ (.func 118) [] [],.ptr 0 0 0 0,.ptr 1 0 0 0] [.box [n],.box [b.w,b.h,b.cA,b.b7,b.c2],A,B,C,.box [r,c,false]] (.bd []) [.box [n],.box [b.w,b.h,b.cA,b.b7,b.c2],A,B,C,.box [r,↑(v_ c n b),false]]:=by
 obtain⟨L,h⟩:=aH9 r c n h ag;unfold cn dd;simp[eV,awX,bx,bc,reach,Chunk.refs,cx,co,bt,Chunk.cI,h,df,ea]
def aH'(c:fW)(n:Int){b:gz}(h:ib b):∃L,b3 E 141 [.agg [.i (.v (.int .i64 (c.r))),.i (.v (.int .i64 (c.c))),.i (.v (.bool (c.p)))],.agg [.i (.v (.int .i64 (b).w)),.i (.v (.int .i64 (b).h)),.i (.v (.int .i64 (b).cA)),.i (.v (.int .i64 (b).b7)),.i (.v (.bool (b).c2))],.aQ (.func 203) [] [.ptr 0 0 0 0,.ptr 1 0 0 0]] [.box [.i (.v (.int .i64 (n)))],.box [.i (.v (.int .i64 (b).w)),.i (.v (.int .i64 (b).h)),.i (.v (.int .i64 (b).cA)),.i (.v (.int .i64 (b).b7)),.i (.v (.bool (b).c2))]]=
  some (.agg [.i (.v (.int .i64 ((gb c b).r))),.i (.v (.int .i64 (v_ (gb c b).c n b))),.i (.v (.bool (false)))],.box [.i (.v (.int .i64 (n)))]::.box [.i (.v (.int .i64 (b).w)),.i (.v (.int .i64 (b).h)),.i (.v (.int .i64 (b).cA)),.i (.v (.int .i64 (b).b7)),.i (.v (.bool (b).c2))]::L):=by
 have ao:=λ H=>x8 h H
 have aH:=λ H=>Dc c h H
 have bN:=λ A B C=>aH_ (gb c b).r (gb c b).c n h (x9 c h).2 A B C
 rw[bo CF];simp(disch:=omega)only[ar,simprocAttr,FY,acn,ao,aH,bN];exact⟨_,rfl⟩
def aIa(c:fW)(n:Int){b:gz}(h:ib b)(A C:Chunk):
  cv 141 [.agg [c.r,c.c,c.p],.agg [b.w,b.h,b.cA,b.b7,b.c2],.aQ (.func 203) [] [.ptr 1 0 0 0,.ptr 2 0 0 0]] [A,.box [n],.box [b.w,b.h,b.cA,b.b7,b.c2],C] (.agg [↑((gb c b).r),↑(v_ (gb c b).c n b),false]):=by
 obtain⟨L,h⟩:=aH' c n h;unfold cv dd;simp[eV,O_,bx,bc,reach,Chunk.refs,cx,co,bt,Chunk.cI,h,df,ea]
def mV(c:fW)(n:Int)(b:gz):fW:=⟨(gb c b).r,v_ (gb c b).c n b,false⟩
def aIb(c:fW)(n:Int){b:gz}(h:ib b)(H:aa):cv 140 [.agg [c.r,c.c,c.p],n,.agg [b.w,b.h,b.cA,b.b7,b.c2]] H (.agg [↑((mV c n b).r),↑((mV c n b).c),↑((mV c n b).p)]):=cu (by
 have ao:=λ A C=>aIa c n h A C
 refine bz adp ?_;simp(disch:=omega)only[ar,simprocAttr,aEA,ao];exact⟨_,rfl⟩)
def toR(row:Int)(b:gz):Int:=if b.c2=true then eH (b.cA+(eH row 1 1000-1)) b.cA (b.b7-1)else eH (eH row 1 1000-1) 0 (b.h-1)
def k0(bb:Int)(b:gz):Int:=eH (eH bb 1 1000-1) 0 (b.w-1)
def aIc(r c row bb:Int)(p:Bool){b:gz}(h:ib b):∃L,b3 E 223 [.ptr 0 0 0 0,.aQ (.func 118) [] [],.ptr 1 0 0 0,.ptr 2 0 0 0,.ptr 3 0 0 0] [.box [.i (.v (.int .i64 (r))),.i (.v (.int .i64 (c))),.i (.v (.bool (p)))],.box [.i (.v (.int .i64 (row)))],.box [.i (.v (.int .i64 (bb)))],.box [.i (.v (.int .i64 (b).w)),.i (.v (.int .i64 (b).h)),.i (.v (.int .i64 (b).cA)),.i (.v (.int .i64 (b).b7)),.i (.v (.bool (b).c2))]]=some (.bd [],.box [.i (.v (.int .i64 (toR row b))),.i (.v (.int .i64 (k0 bb b))),.i (.v (.bool (p)))]::.box [.i (.v (.int .i64 (row)))]::.box [.i (.v (.int .i64 (bb)))]::.box [.i (.v (.int .i64 (b).w)),.i (.v (.int .i64 (b).h)),.i (.v (.int .i64 (b).cA)),.i (.v (.int .i64 (b).b7)),.i (.v (.bool (b).c2))]::L):=by
 obtain⟨⟨j,I⟩,⟨av,ba⟩,bs,dq,gn⟩:=h;have ao:=λ H=>td row 1 1000 H
 have aH:=λ H=>td bb 1 1000 H
 have bN:=λ H=>td (eH bb 1 1000-1) 0 (b.w-1) H
 have c':=λ H=>td (eH row 1 1000-1) 0 (b.h-1) H
 have mM:=λ H=>td (b.cA+(eH row 1 1000-1)) b.cA (b.b7-1) H
 have IK:=rl (n:=row) (show(1:Int)≤1000 by decide);have Q0:=rl (n:=bb) (show(1:Int)≤1000 by decide);unfold toR k0;generalize eH row 1 1000=q at*;generalize eH bb 1 1000=cy at*;cases aP:b.c2<;>simp only[if_true,if_false,fF]<;>(
 rw[bo aea];simp(disch:=omega)only[ar,simprocAttr,aFi,JP,ao,aH,bN,c',mM,aP];exact⟨_,rfl⟩)
def aId(r c row bb:Int)(p:Bool){b:gz}(h:ib b)(A B C:Chunk):
  cn 223 [.ptr 6 0 0 0,.aQ (.func 118) [] [],.ptr 0 0 0 0,.ptr 1 0 0 0,.ptr 2 0 0 0] [.box [row],.box [bb],.box [b.w,b.h,b.cA,b.b7,b.c2],A,B,C,.box [r,c,p]] (.bd []) [.box [row],.box [bb],.box [b.w,b.h,b.cA,b.b7,b.c2],A,B,C,.box [↑(toR row b),↑(k0 bb b),p]]:=by
 obtain⟨L,h⟩:=aIc r c row bb p h;unfold cn dd;simp[eV,aw1,bx,bc,reach,Chunk.refs,cx,co,bt,Chunk.cI,h,df,ea]
def aIe(c:fW)(row bb:Int){b:gz}(h:ib b):∃L,b3 E 141 [.agg [.i (.v (.int .i64 (c.r))),.i (.v (.int .i64 (c.c))),.i (.v (.bool (c.p)))],.agg [.i (.v (.int .i64 (b).w)),.i (.v (.int .i64 (b).h)),.i (.v (.int .i64 (b).cA)),.i (.v (.int .i64 (b).b7)),.i (.v (.bool (b).c2))],.aQ (.func 223) [] [.ptr 0 0 0 0,.ptr 1 0 0 0,.ptr 2 0 0 0]] [.box [.i (.v (.int .i64 (row)))],.box [.i (.v (.int .i64 (bb)))],.box [.i (.v (.int .i64 (b).w)),.i (.v (.int .i64 (b).h)),.i (.v (.int .i64 (b).cA)),.i (.v (.int .i64 (b).b7)),.i (.v (.bool (b).c2))]]=
  some (.agg [.i (.v (.int .i64 (toR row b))),.i (.v (.int .i64 (k0 bb b))),.i (.v (.bool (false)))],.box [.i (.v (.int .i64 (row)))]::.box [.i (.v (.int .i64 (bb)))]::.box [.i (.v (.int .i64 (b).w)),.i (.v (.int .i64 (b).h)),.i (.v (.int .i64 (b).cA)),.i (.v (.int .i64 (b).b7)),.i (.v (.bool (b).c2))]::L):=by
 have ao:=λ H=>x8 h H
 have aH:=λ H=>Dc c h H
 have bN:=λ A B C=>aId (gb c b).r (gb c b).c row bb false h A B C
 rw[bo CF];simp(disch:=omega)only[ar,simprocAttr,FY,acr,ao,aH,bN];exact⟨_,rfl⟩
def aIf(c:fW)(row bb:Int){b:gz}(h:ib b)(A C:Chunk):
  cv 141 [.agg [c.r,c.c,c.p],.agg [b.w,b.h,b.cA,b.b7,b.c2],.aQ (.func 223) [] [.ptr 1 0 0 0,.ptr 2 0 0 0,.ptr 3 0 0 0]] [A,.box [row],.box [bb],.box [b.w,b.h,b.cA,b.b7,b.c2],C] (.agg [↑(toR row b),↑(k0 bb b),false]):=by
 obtain⟨L,h⟩:=aIe c row bb h;unfold cv dd;simp[eV,O_,bx,bc,reach,Chunk.refs,cx,co,bt,Chunk.cI,h,df,ea]
def aIg(c:fW)(row bb:Int){b:gz}(h:ib b)(H:aa):cv 210 [.agg [c.r,c.c,c.p],row,bb,.agg [b.w,b.h,b.cA,b.b7,b.c2]] H (.agg [↑(toR row b),↑(k0 bb b),false]):=cu (by
 have ao:=λ A C=>aIf c row bb h A C
 refine bz ad5 ?_;simp(disch:=omega)only[ar,simprocAttr,aFc,ao];exact⟨_,rfl⟩)
def x_(c:fW)(b:gz):fW:=⟨(gb c b).r,(gb c b).c,c.p &&decide ((gb c b).c=b.w-1)⟩
def aIh(c:fW){b:gz}(h:ib b)(H:aa):cv 26 [.agg [c.r,c.c,c.p],.agg [b.w,b.h,b.cA,b.b7,b.c2]] H (.agg [↑((x_ c b).r),↑((x_ c b).c),↑((x_ c b).p)]):=cu (by
 have ao:=λ H=>x8 h H
 have aH:=λ H=>Dc c h H
 have bN:=x9 c h;obtain⟨⟨j,I⟩,⟨av,ba⟩,bs,dq,gn⟩:=h;unfold x_;cases au:c.p<;>by_cases bm:(gb c b).c=b.w-1<;>simp only[bm,decide_true,decide_false,jJ,lo]<;>rw[au]at aH<;>(
 refine bz acC ?_;simp(disch:=omega)only[ar,simprocAttr,aDX,ao,aH,bm];exact⟨_,rfl⟩))
def afC(a b:fW):jS Tryz.prog .eql 30 (.agg [.i (.v (.int .i64 (a.r))),.i (.v (.int .i64 (a.c))),.i (.v (.bool (a.p)))]) (.agg [.i (.v (.int .i64 (b.r))),.i (.v (.int .i64 (b.c))),.i (.v (.bool (b.p)))])=some (.i (.v (.bool (decide (a=b))))):=by rw[Wz];unfold iS;simp only;rw[if_neg (by simp only[xL];decide)];simp only[xJ,xK];obtain⟨r,c,p⟩:=a;obtain⟨hk,cl,la⟩:=b;by_cases j:r=hk<;>by_cases I:c=cl<;>by_cases av:p=la<;>simp[oc,o1,ob,qt,U.bool,j,I,av]
def js(c:fW)(b:gz):fW:=⟨(gb c b).r,(gb c b).c,false⟩
def oT(c:fW)(b:gz):fW×Bool:=if ir (js c b) (-1) b=js c b∧(js c b).r=b.b7-1 then(js c b,true)else(ir (js c b) (-1) b,false)
def rm(c:fW)(b:gz):fW×Bool:=if ir (js c b) 1 b=js c b∧(js c b).r=b.cA then(js c b,true)else(ir (js c b) 1 b,false)
def aIi(c:fW){b:gz}(h:ib b)(H:aa):cv 135 [.agg [c.r,c.c,c.p],.agg [b.w,b.h,b.cA,b.b7,b.c2]] H (.bd [.agg [↑((oT c b).1.r),↑((oT c b).1.c),↑((oT c b).1.p)],.i (.v (.int .i64 (if(oT c b).2=true then 1 else 0)))]):=cu (by
 have ao:=λ H=>aH3 c h H
 have aH:=λ H=>QZ (js c b) (-1) h H
 have bN:=afC (ir (js c b) (-1) b) (js c b);have c':=λ H=>x8 h H
 have mM:=(x9 c h).1;rw[show(gb c b).r=(js c b).r from rfl]at ao mM;rw[show(gb c b).c=(js c b).c from rfl,show false=(js c b).p from rfl]at ao;unfold oT;obtain⟨⟨j,I⟩,⟨av,ba⟩,bs,dq,gn⟩:=h;generalize js c b=ai at*;generalize ir ai (-1) b=tP at*;by_cases bm:tP=ai
 ·simp only[bm,decide_true,true_and]at aH bN⊢;by_cases ah:ai.r=b.b7-1
  ·simp only[ah,if_true];simp only[ah]at ao aH bN;refine bz J8 ?_;simp(disch:=omega)only[ar,simprocAttr,PR,ao,aH,bN,c'];exact⟨_,rfl⟩
  ·simp only[ah,if_false,fF];refine bz J8 ?_;simp(disch:=omega)only[ar,simprocAttr,PR,ao,aH,bN,c',ah];exact⟨_,rfl⟩
 ·simp only[bm,decide_false,false_and,if_false,fF]at bN⊢;refine bz J8 ?_;simp(disch:=omega)only[ar,simprocAttr,PR,ao,aH,bN,c'];exact⟨_,rfl⟩)
def aIj(c:fW){b:gz}(h:ib b)(H:aa):cv 105 [.agg [c.r,c.c,c.p],.agg [b.w,b.h,b.cA,b.b7,b.c2]] H (.bd [.agg [↑((rm c b).1.r),↑((rm c b).1.c),↑((rm c b).1.p)],.i (.v (.int .i64 (if(rm c b).2=true then 1 else 0)))]):=cu (by
 have ao:=λ H=>aH4 c h H
 have aH:=λ H=>QZ (js c b) 1 h H
 have bN:=afC (ir (js c b) 1 b) (js c b);have c':=λ H=>x8 h H
 rw[show(gb c b).r=(js c b).r from rfl,show(gb c b).c=(js c b).c from rfl,show false=(js c b).p from rfl]at ao;unfold rm;generalize js c b=ai at*;generalize ir ai 1 b=tP at*;by_cases bm:tP=ai
 ·simp only[bm,decide_true,true_and]at aH bN⊢;by_cases ah:ai.r=b.cA
  ·simp only[ah,if_true];simp only[ah]at ao aH bN;refine bz J4 ?_;simp(disch:=omega)only[ar,simprocAttr,PM,ao,aH,bN,c'];exact⟨_,rfl⟩
  ·simp only[ah,if_false,fF];refine bz J4 ?_;simp(disch:=omega)only[ar,simprocAttr,PM,ao,aH,bN,c',ah];exact⟨_,rfl⟩
 ·simp only[bm,decide_false,false_and,if_false,fF]at bN⊢;refine bz J4 ?_;simp(disch:=omega)only[ar,simprocAttr,PM,ao,aH,bN,c'];exact⟨_,rfl⟩)
def dS(l:List Bool):List (List aC):=l.map λ b=>[.v (.bool b)]
def l2(l:List Bool):(dS l).length=l.length:=by simp[dS]
def K5{l:List Bool}{k:Nat}(h:k<l.length):(dS l)[k]?=some [.v (.bool l[k])]:=by simp[dS,h]
def afD(l:List Bool)(k:Nat)(b:Bool):(dS l).set k [.v (.bool b)]=dS (l.set k b):=by simp[dS,uo]
def v':List Bool→Nat→Int→Option Nat
 |[],_,_=>none
 |b::r,k,bb=>if bb<k∧b=true then some k else v' r (k+1) bb
def n8(l:List Bool)(bb:Int):Int:=match v' l 0 bb with
 |some k=>k
 |none=>max 0 ((l.length:Int)-1)
def afE:∀{l:List Bool} {k:Nat} {bb:Int} {i:Nat},v' l k bb=some i→i<k+l.length
 |b::r,k,bb,i,h=>by
  simp only[v']at h;split at h
  ·cases h;simp
  ·have:=afE h;simp only[cQ];omega
def aIk(l:List Bool)(bb:Int)(al:l.length≤1000):∀m k,k+m=l.length→
  ej E 0 100 (fg Tryz.f100 0) [(0,.i (.sl 1 (dS l) false)),(1,.i (.v (.int .i64 (bb)))),(7,.i (.v (.int .i64 (l.length)))),(8,.i (.v (.int .i64 (k))))] []=(match v' (l.drop k) k bb with
   |some i=>some (.ret,[(4,.i (.v (.int .i64 (i))))],[])
   |none=>some (.exit 0,[(0,.i (.sl 1 (dS l) false)),(1,.i (.v (.int .i64 (bb)))),(7,.i (.v (.int .i64 (l.length)))),(8,.i (.v (.int .i64 (l.length)))),(9,.i (.v (.bool (false))))],[])):=by
 intro m;induction m with
 |zero=>intro k ay;obtain rfl:k=l.length:=R;rw[mR];simp only[v'];rw[cM z1 0];simp(disch:=omega)only[ar,simprocAttr,FR,eO,l2,F5]
 |succ m a8=>
  intro k ay;have be:k<l.length:=R;have bX:=K5 be;have e:=a8 (k+1) R;rw[jq be];simp only[v'];by_cases j:bb<k
  ·cases aj:l[k]with
   |true=>rw[aj]at bX;simp only[j,and_self,if_true];clear e a8;rw[cM z1 0];simp(disch:=omega)only[ar,simprocAttr,FR,eO,bX,j,l2,F5]
   |false=>rw[aj]at bX;simp only[fF,and_false,if_false];refine ga ?_ e;clear e a8;rw[cM z1 0];simp(disch:=omega)only[ar,simprocAttr,FR,eO,bX,j,l2,F5]
  ·simp only[j,false_and,if_false];refine ga ?_ e;clear e a8;rw[cM z1 0];simp(disch:=omega)only[ar,simprocAttr,FR,eO,bX,j,l2,F5]
def afF(l:List Bool)(bb:Int)(al:l.length≤1000)(H:aa):cv 100 [.i (.sl 1 (dS l) false),bb] H (↑(n8 l bb)):=cu (by
 have h:=aIk l bb al l.length 0 R;rw[il]at h;simp only[gZ]at h;unfold n8;cases aE:v' l 0 bb<;>rw[aE]at h<;>simp only at h⊢<;>(
 refine bz z1 ?_;simp(disch:=omega)only[ar,simprocAttr,FR,eO,h,l2,F5];exact⟨_,rfl⟩))
def rn(l:List Bool):Nat→Int
 |0=>0
 |n+1=>if l.getD n false=true then n else rn l n
def afG(l:List Bool):∀n:Nat,0≤rn l n∧rn l n≤n
 |0=>by simp[rn]
 |n+1=>by have:=afG l n;simp only[rn];split<;>omega
def aIl(l:List Bool)(al:l.length≤1000)(n:Nat)(aE:n≤l.length):∀m k,k+m=n→
  hV CL 0 [(0,.i (.sl 1 (dS l) false)),(5,↑(rn l k)),(11,n),(12,k)] [] 0 [(0,.i (.sl 1 (dS l) false)),(5,↑(rn l n)),(11,n),(12,n),(13,false)] []:=by
 intro m;induction m with
 |zero=>intro k ay;obtain rfl:k=n:=R;generalize rn l k=x at*;refine(cM CL 0).trans ?_;simp(disch:=omega)only[ar,simprocAttr,PX,eO,l2,Qf]
 |succ m a8=>
  intro k ay;have be:k<l.length:=R;have SJ:k<n:=R;have bX:=K5 be;have e:=a8 (k+1) R;simp only[rn]at e;have aM:l.getD k false=l[k]:=by simp[be]
  rw[aM]at e;refine ga ?_ e;clear e a8;generalize rn l k=x at*;cases aj:l[k]<;>rw[aj]at bX<;>simp only[if_true,if_false,fF]<;>(
  refine(cM CL 0).trans ?_;simp(disch:=omega)only[ar,simprocAttr,PX,eO,bX,l2,Qf])
def qj(l:List Bool)(bb:Int):Int:=rn l (min l.length (max bb 0).toNat)
def aIm(l:List Bool)(bb:Int)(al:l.length≤1000)(H:aa):cv 174 [.i (.sl 1 (dS l) false),bb] H (↑(qj l bb)):=cu (by
 have h:=aIl l al (min l.length (max bb 0).toNat) R (min l.length (max bb 0).toNat) 0 R;have hm:min (l.length:Int) (max bb 0)=((min l.length (max bb 0).toNat:Nat):Int):=R;rw[show rn l 0=0 from rfl]at h;simp only[gZ]at h;unfold qj;generalize min l.length (max bb 0).toNat=n at*;generalize rn l n=x at*;refine bz CL ?_;simp(disch:=omega)only[ar,simprocAttr,PX,eO,h,hm,l2,Qf];exact⟨_,rfl⟩)
def aIn(rows:List (List aC))(h:rows.length≤1000000000)(H:aa):dd E (b3 E) 46 [.i (.sl 1 rows false)] H=some (.ref H.length 0 0 rows.length,H++[.sl 1 0 rows false]):=by rw[Fz (show E.ext 46=some (lW 1)from rfl)];exact vz (E:={E with ext:=λ _=>none}) (c:=0) (x:=.sl 1 0 rows false) rfl rfl rfl ⟨[.sl 1 0 rows false],by simp[lW,h],rfl⟩
def afH(l:List Bool)(bb:Nat)(ag:bb<l.length)(al:l.length≤1000)(on:Bool)(H:aa):cv 108 [.i (.sl 1 (dS l) false),bb,on] H (.i (.sl 1 (dS (l.set bb on)) false)):=cu (by
 have ch:=λ h H=>aIn (dS l) h H
 rw[l2]at ch;have bX:=K5 ag;have jA:=afD l bb on;have hK:=l2 (l.set bb on);rw[jC]at hK;generalize dS (l.set bb on)=y at*;refine bz ac9 ?_;simp(disch:=omega)only[ar,simprocAttr,aEo,eO,ch,bX,jA,l2];exact⟨_,rfl⟩)
def ka(w k:Nat):List Bool:=(g' w).map λ i=>decide (i<k) &&decide (i%8=0)
def Al(w k:Nat):(ka w k).length=w:=by simp[ka]
def aIo(w:Nat):cB w [aC.v (.bool false)]=dS (ka w 0):=by
 apply EO;intro i;by_cases h:i<w
 ·rw[MG,if_pos h];simp[dS,ka,h]
 ·rw[MG,if_neg h];simp[dS,ka,h]
def aIp{w k:Nat}(h:k<w):(dS (ka w k)).set k [.v (.bool (decide (k%8=0)))]=dS (ka w (k+1)):=by
 rw[afD]
 congr 1
 apply EO;intro i;by_cases ax:i=k
 ·subst ax;rw[kl (by rw[Al];exact h)];simp[ka,h]
 ·rw[dw (a' ax)];by_cases hw:i<w
  ·have:decide (i<k)=decide (i<k+1):=by by_cases j:i<k<;>simp[j]<;>omega
   simp[ka,hw,this]
  ·simp[ka,hw]
def aIq(w:Nat)(hw:w≤132):∀(m k:Nat),k+m=w→
  hV Cm 0 [(3,.ref 0 0 0 w),(10,w),(11,k)] [.sl 1 0 (dS (ka w k)) false] 0 [(3,.ref 0 0 0 w),(10,w),(11,w),(12,false)] [.sl 1 0 (dS (ka w w)) false]:=by
 intro m;induction m with
 |zero=>
  intro k ay;obtain rfl:k=w:=R;have al:(dS (ka k k)).length=k:=by rw[l2,Al]
  generalize dS (ka k k)=x at*;refine(cM Cm 0).trans ?_;simp(disch:=omega)only[ar,simprocAttr,PB,eO,P8]
 |succ m a8=>
  intro k ay;have fR:k<w:=R;have e:=a8 (k+1) R;have aA:=K5 (l:=ka w k) (k:=k) (by rw[Al];exact fR);have aR:=aIp fR;have al:(dS (ka w k)).length=w:=by rw[l2,Al]
  have hm:Int.tmod (k:Int) 8=((k%8:Nat):Int):=by rw[afI R];omega
  have aM:decide (((k%8:Nat):Int)=0)=decide (k%8=0):=by by_cases h:k%8=0<;>simp[h]<;>omega
  refine ga ?_ e;clear e a8;generalize dS (ka w (k+1))=y at*;generalize dS (ka w k)=x at*;generalize k%8=q at*;refine(cM Cm 0).trans ?_;simp(disch:=omega)only[ar,simprocAttr,PB,eO,aA,aR,al,hm,aM,P8]
def aIr(w:Nat)(hw:w≤132)(H:aa):cn 18 [w] H (.ref H.length 0 0 w) (H++[.sl 1 0 (dS (ka w w)) false]):=vz (c:=0) rfl rfl rfl (by
 have h:=aIq w hw w 0 R;simp only[gZ]at h;have al:(dS (ka w w)).length=w:=by rw[l2,Al]
 have aW:=aIo w;generalize dS (ka w w)=y at*;generalize dS (ka w 0)=x at*;have ao:min (w:Int) 1000=w:=R;have aH:max (0:Int) w=w:=R;rw[nt Tryz.func18 rfl Cm.1];simp(disch:=omega)only[ar,simprocAttr,PB,eO,h,aW,al,ao,aH,P8];exact⟨_,rfl,by rfl⟩)
structure k1 where
 (ins ic ky c2 wr kz fJ kA:Bool) (dh s1 dI:Int)
 deriving DecidableEq
def Q1(m:k1)(on:Bool):Nat→k1
 |0=>{m with ins:=on}|1=>{m with ic:=on}|2=>{m with ky:=on}|3=>{m with c2:=on}
 |4=>{m with wr:=on}|5=>{m with kz:=on}|6=>{m with fJ:=on}|7=>{m with kA:=on}|_=>m
def x'(p n:Int):Option Nat:=
 if p=0 then(if n=4 then some 0 else if n=20 then some 1 else none)
 else if p=63 then(if n=1 then some 2 else if n=6 then some 3 else if n=7 then some 4 else if n=25 then some 5 else if n=47∨n=1047∨n=1049 then some 6 else if n=2048 then some 7 else none)
 else none
def g_(p:Int)(on:Bool)(m:k1)(n:Int):k1:=match x' p n with
 |some k=>Q1 m on k
 |none=>m
def aIs{p n:Int}{k:Nat}(h:x' p n=some k):k<8:=by
 unfold x' at h
 repeat' split at h
 all_goals first|cases h|skip
 all_goals omega
def aIt(p n:Int):(p=0∧n=4)∨(p=0∧n=20)∨(p=0∧n≠4∧n≠20)∨(p≠0∧p≠63)∨(p=63∧n=1)∨(p=63∧n=6)∨(p=63∧n=7)∨(p=63∧n=25)∨(p=63∧n=47)∨(p=63∧n=1047)∨(p=63∧n=1049)∨(p=63∧n=2048)∨
 (p=63∧n≠1∧n≠6∧n≠7∧n≠25∧n≠47∧n≠1047∧n≠1049∧n≠2048):=R
def Df(c:Nat):Option Nat→U
 |some k=>.ptr c 0 0 k
 |none=>.i (.v (.pointer none))
def aIu(p n:Int)(m:k1):∃L,b3 E 209 [.i (.v (.int .i64 (n))),.ptr 0 0 0 0,.ptr 1 0 0 0] [.box [.i (.v (.int .u8 p))],.box [.i (.v (.bool (m).ins)),.i (.v (.bool (m).ic)),.i (.v (.bool (m).ky)),.i (.v (.bool (m).c2)),.i (.v (.bool (m).wr)),.i (.v (.bool (m).kz)),.i (.v (.bool (m).fJ)),.i (.v (.bool (m).kA)),.i (.v (.int .u8 (m).dh)),.i (.v (.int .u8 (m).s1)),.i (.v (.int .i64 (m).dI))]]=some (Df 1 (x' p n),.box [.i (.v (.int .u8 p))]::.box [.i (.v (.bool (m).ins)),.i (.v (.bool (m).ic)),.i (.v (.bool (m).ky)),.i (.v (.bool (m).c2)),.i (.v (.bool (m).wr)),.i (.v (.bool (m).kz)),.i (.v (.bool (m).fJ)),.i (.v (.bool (m).kA)),.i (.v (.int .u8 (m).dh)),.i (.v (.int .u8 (m).s1)),.i (.v (.int .i64 (m).dI))]::L):=by
 rcases aIt p n with⟨rfl,rfl⟩|⟨rfl,rfl⟩|⟨rfl,j,I⟩|⟨j,I⟩|⟨rfl,rfl⟩|⟨rfl,rfl⟩|⟨rfl,rfl⟩|⟨rfl,rfl⟩|⟨rfl,rfl⟩|⟨rfl,rfl⟩|⟨rfl,rfl⟩|⟨rfl,rfl⟩|⟨rfl,j,I,av,ba,bs,dq,gn,gP⟩
 all_goals simp only[x', *,Gk,if_true,if_false,or_true,true_or,or_false,false_or,ne_eq,not_false_eq_true]
 all_goals (
  rw[bo ad4];simp(disch:=omega)only[ar,simprocAttr,aFb];exact⟨_,rfl⟩)
structure aIv where
 (aF:fW) (a:ed) (c2:Bool) (dh s1 dI:Int)
structure M where
 (w h:Nat) (G O:List (List bl)) (aF:fW) (bO:aIv) (a:ed) (md:k1) (cA b7:Int) (cD:List Bool) (gl:Bool) (back:List (List bl)) (bk:db) (eK:List Int) (ds:List UInt8)
def Gl:Bool→List (List bl)→aC
 |true,[]=>.sl 0 [] true
 |true,a::l=>.sl 1 (b2 (a::l)) false
 |false,l=>.sl 1 (b2 l) false
def aIw:∀(b:Bool) (l:List (List bl)),hZ (some 1) (Gl b l)=.sl 1 (b2 l) false
 |true,[]=>rfl
 |true,_::_=>rfl
 |false,_=>rfl
def aT(m:M)(a ae b af:Nat):List U:=[.i (.v (.int .i64 m.w)),.i (.v (.int .i64 m.h)),.x (.d a ae 0 m.h),.i (.v (.int .i64 m.w)),.i (.v (.int .i64 m.h)),.x (.d b af 0 m.h),.i (.v (.int .i64 m.aF.r)),.i (.v (.int .i64 m.aF.c)),.i (.v (.bool m.aF.p)),.i (.v (.int .i64 m.bO.aF.r)),.i (.v (.int .i64 m.bO.aF.c)),.i (.v (.bool m.bO.aF.p)),.i (.v (.int .i64 m.bO.a.cZ)),.i (.v (.int .i64 m.bO.a.a7)),.i (.v (.int .i64 m.bO.a.cW)),.i (.v (.bool m.bO.c2)),.i (.v (.int .u8 m.bO.dh)),.i (.v (.int .u8 m.bO.s1)),.i (.v (.int .i64 m.bO.dI)),.i (.v (.int .i64 m.a.cZ)),.i (.v (.int .i64 m.a.a7)),.i (.v (.int .i64 m.a.cW)),.i (.v (.bool m.md.ins)),.i (.v (.bool m.md.ic)),.i (.v (.bool m.md.ky)),.i (.v (.bool m.md.c2)),.i (.v (.bool m.md.wr)),.i (.v (.bool m.md.kz)),.i (.v (.bool m.md.fJ)),.i (.v (.bool m.md.kA)),.i (.v (.int .u8 m.md.dh)),.i (.v (.int .u8 m.md.s1)),.i (.v (.int .i64 m.md.dI)),.i (.v (.int .i64 m.cA)),.i (.v (.int .i64 m.b7)),.i (.sl 1 (dS m.cD) false),.i (Gl m.gl m.back),.i (.v (.int .i64 m.bk.bK)),.i (.str m.bk.b4),.i (.str m.bk.b0),.i (.str (dN m.eK)),.i (.str m.ds)]
def aIx(m:M)(a ae b af:Nat):(aT m a ae b af).length=42:=rfl
def aIy(m:M)(a ae b af:Nat):(aT m a ae b af).all one=true:=rfl
def bH(m:M)(a ae b af:Nat):bx (aT m a ae b af)=[a,b]:=rfl
def aIz(m:M)(a ae b af:Nat):(aT m a ae b af)[0]?=some (.i (.v (.int .i64 m.w))):=rfl
def aIA(m:M)(a ae b af:Nat):(aT m a ae b af)[1]?=some (.i (.v (.int .i64 m.h))):=rfl
def aIB(m:M)(a ae b af:Nat):(aT m a ae b af)[2]?=some (.x (.d a ae 0 m.h)):=rfl
def aIC(m:M)(a ae b af:Nat):(aT m a ae b af)[5]?=some (.x (.d b af 0 m.h)):=rfl
def aID(m:M)(a ae b af:Nat):(aT m a ae b af)[6]?=some (.i (.v (.int .i64 m.aF.r))):=rfl
def aIE(m:M)(a ae b af:Nat):(aT m a ae b af)[7]?=some (.i (.v (.int .i64 m.aF.c))):=rfl
def aIF(m:M)(a ae b af:Nat):(aT m a ae b af)[8]?=some (.i (.v (.bool m.aF.p))):=rfl
def aIG(m:M)(a ae b af:Nat):(aT m a ae b af)[9]?=some (.i (.v (.int .i64 m.bO.aF.r))):=rfl
def aIH(m:M)(a ae b af:Nat):(aT m a ae b af)[10]?=some (.i (.v (.int .i64 m.bO.aF.c))):=rfl
def aII(m:M)(a ae b af:Nat):(aT m a ae b af)[11]?=some (.i (.v (.bool m.bO.aF.p))):=rfl
def aIJ(m:M)(a ae b af:Nat):(aT m a ae b af)[12]?=some (.i (.v (.int .i64 m.bO.a.cZ))):=rfl
def aIK(m:M)(a ae b af:Nat):(aT m a ae b af)[13]?=some (.i (.v (.int .i64 m.bO.a.a7))):=rfl
def aIL(m:M)(a ae b af:Nat):(aT m a ae b af)[14]?=some (.i (.v (.int .i64 m.bO.a.cW))):=rfl
def aIM(m:M)(a ae b af:Nat):(aT m a ae b af)[15]?=some (.i (.v (.bool m.bO.c2))):=rfl
def aIN(m:M)(a ae b af:Nat):(aT m a ae b af)[16]?=some (.i (.v (.int .u8 m.bO.dh))):=rfl
def aIO(m:M)(a ae b af:Nat):(aT m a ae b af)[17]?=some (.i (.v (.int .u8 m.bO.s1))):=rfl
def aIP(m:M)(a ae b af:Nat):(aT m a ae b af)[18]?=some (.i (.v (.int .i64 m.bO.dI))):=rfl
def aIQ(m:M)(a ae b af:Nat):(aT m a ae b af)[19]?=some (.i (.v (.int .i64 m.a.cZ))):=rfl
def aIR(m:M)(a ae b af:Nat):(aT m a ae b af)[20]?=some (.i (.v (.int .i64 m.a.a7))):=rfl
def aIS(m:M)(a ae b af:Nat):(aT m a ae b af)[21]?=some (.i (.v (.int .i64 m.a.cW))):=rfl
def aIT(m:M)(a ae b af:Nat):(aT m a ae b af)[22]?=some (.i (.v (.bool m.md.ins))):=rfl
def aIU(m:M)(a ae b af:Nat):(aT m a ae b af)[23]?=some (.i (.v (.bool m.md.ic))):=rfl
def aIV(m:M)(a ae b af:Nat):(aT m a ae b af)[25]?=some (.i (.v (.bool m.md.c2))):=rfl
def aIW(m:M)(a ae b af:Nat):(aT m a ae b af)[26]?=some (.i (.v (.bool m.md.wr))):=rfl
def aIX(m:M)(a ae b af:Nat):(aT m a ae b af)[28]?=some (.i (.v (.bool m.md.fJ))):=rfl
def aIY(m:M)(a ae b af:Nat):(aT m a ae b af)[33]?=some (.i (.v (.int .i64 m.cA))):=rfl
def aIZ(m:M)(a ae b af:Nat):(aT m a ae b af)[34]?=some (.i (.v (.int .i64 m.b7))):=rfl
def aI0(m:M)(a ae b af:Nat):(aT m a ae b af)[35]?=some (.i (.sl 1 (dS m.cD) false)):=rfl
def aI1(m:M)(a ae b af:Nat):(aT m a ae b af)[36]?=some (.i (Gl m.gl m.back)):=rfl
def aI2(m:M)(a ae b af:Nat):(aT m a ae b af)[37]?=some (.i (.v (.int .i64 m.bk.bK))):=rfl
def aI3(m:M)(a ae b af:Nat):(aT m a ae b af)[38]?=some (.i (.str m.bk.b4)):=rfl
def aI4(m:M)(a ae b af:Nat):(aT m a ae b af)[39]?=some (.i (.str m.bk.b0)):=rfl
def aI5(m:M)(a ae b af:Nat):(aT m a ae b af)[40]?=some (.i (.str (dN m.eK))):=rfl
def aI6(m:M)(a ae b af:Nat):(aT m a ae b af)[41]?=some (.i (.str m.ds)):=rfl
def aI7(m:M)(a ae b af:Nat):ek 3 (eG 6 (aT m a ae b af))=[.i (.v (.int .i64 m.aF.r)),.i (.v (.int .i64 m.aF.c)),.i (.v (.bool m.aF.p))]:=rfl
def aI8(m:M)(a ae b af:Nat):ek 3 (eG 9 (aT m a ae b af))=[.i (.v (.int .i64 m.bO.aF.r)),.i (.v (.int .i64 m.bO.aF.c)),.i (.v (.bool m.bO.aF.p))]:=rfl
def aI9(m:M)(a ae b af:Nat):ek 3 (eG 12 (aT m a ae b af))=[.i (.v (.int .i64 m.bO.a.cZ)),.i (.v (.int .i64 m.bO.a.a7)),.i (.v (.int .i64 m.bO.a.cW))]:=rfl
def aI_(m:M)(a ae b af:Nat):ek 2 (eG 16 (aT m a ae b af))=[.i (.v (.int .u8 m.bO.dh)),.i (.v (.int .u8 m.bO.s1))]:=rfl
def aI'(m:M)(a ae b af:Nat):ek 3 (eG 19 (aT m a ae b af))=[.i (.v (.int .i64 m.a.cZ)),.i (.v (.int .i64 m.a.a7)),.i (.v (.int .i64 m.a.cW))]:=rfl
def aJa(m:M)(a ae b af:Nat):ek 11 (eG 22 (aT m a ae b af))=[.i (.v (.bool m.md.ins)),.i (.v (.bool m.md.ic)),.i (.v (.bool m.md.ky)),.i (.v (.bool m.md.c2)),.i (.v (.bool m.md.wr)),.i (.v (.bool m.md.kz)),.i (.v (.bool m.md.fJ)),.i (.v (.bool m.md.kA)),.i (.v (.int .u8 m.md.dh)),.i (.v (.int .u8 m.md.s1)),.i (.v (.int .i64 m.md.dI))]:=rfl
def aJb(m:M)(a ae b af:Nat):ek 2 (eG 30 (aT m a ae b af))=[.i (.v (.int .u8 m.md.dh)),.i (.v (.int .u8 m.md.s1))]:=rfl
def aJc(m:M)(a ae b af:Nat):ek 3 (aT m a ae b af)=[.i (.v (.int .i64 m.w)),.i (.v (.int .i64 m.h)),.x (.d a ae 0 m.h)]:=rfl
def aJd(m:M)(a ae b af:Nat):ek 3 (eG 3 (aT m a ae b af))=[.i (.v (.int .i64 m.w)),.i (.v (.int .i64 m.h)),.x (.d b af 0 m.h)]:=rfl
def aJe(m:M)(a ae b af:Nat):ek 3 (eG 37 (aT m a ae b af))=[.i (.v (.int .i64 m.bk.bK)),.i (.str m.bk.b4),.i (.str m.bk.b0)]:=rfl
def aJf(m:M)(a ae b af:Nat):ek 42 (aT m a ae b af)=aT m a ae b af:=rfl
def aJg(m:M)(a ae b af:Nat)(c gc:Nat):.i (.v (.int .i64 m.w))::.i (.v (.int .i64 m.h))::.x (.d c gc 0 m.h)::eG 3 (aT m a ae b af)=aT m c gc b af:=rfl
def aJh(m:M)(a ae b af:Nat)(c gc:Nat):ek 3 (aT m a ae b af)++[.i (.v (.int .i64 m.w)),.i (.v (.int .i64 m.h)),.x (.d c gc 0 m.h)]++eG 6 (aT m a ae b af)=aT m a ae c gc:=rfl
def aJi(m:M)(a ae b af:Nat)(x:Int):ek 6 (aT m a ae b af)++[.i (.v (.int .i64 x))]++eG 7 (aT m a ae b af)=aT {m with aF:={m.aF with r:=x}} a ae b af:=rfl
def aJj(m:M)(a ae b af:Nat)(x:Int):ek 7 (aT m a ae b af)++[.i (.v (.int .i64 x))]++eG 8 (aT m a ae b af)=aT {m with aF:={m.aF with c:=x}} a ae b af:=rfl
def aJk(m:M)(a ae b af:Nat)(x:Bool):ek 8 (aT m a ae b af)++[.i (.v (.bool x))]++eG 9 (aT m a ae b af)=aT {m with aF:={m.aF with p:=x}} a ae b af:=rfl
def aJl(m:M)(a ae b af:Nat)(x y:Int)(z:Bool):ek 6 (aT m a ae b af)++[.i (.v (.int .i64 x)),.i (.v (.int .i64 y)),.i (.v (.bool z))]++eG 9 (aT m a ae b af)=aT {m with aF:=⟨x,y,z⟩} a ae b af:=rfl
def aJm(m:M)(a ae b af:Nat)(r c:Int)(p:Bool)(x y z:Int)(ai:Bool)(s t u:Int):ek 9 (aT m a ae b af)++[.i (.v (.int .i64 r)),.i (.v (.int .i64 c)),.i (.v (.bool p)),.i (.v (.int .i64 x)),.i (.v (.int .i64 y)),.i (.v (.int .i64 z)),.i (.v (.bool ai)),.i (.v (.int .u8 s)),.i (.v (.int .u8 t)),.i (.v (.int .i64 u))]++eG 19 (aT m a ae b af)=aT {m with bO:=⟨⟨r,c,p⟩,⟨x,y,z⟩,ai,s,t,u⟩} a ae b af:=rfl
def aJn(m:M)(a ae b af:Nat)(x y z:Int):ek 19 (aT m a ae b af)++[.i (.v (.int .i64 x)),.i (.v (.int .i64 y)),.i (.v (.int .i64 z))]++eG 22 (aT m a ae b af)=aT {m with a:=⟨x,y,z⟩} a ae b af:=rfl
def aJo(m:M)(a ae b af:Nat)(f' gi n3 n4 afJ n6 afK afL:Bool)(x y z:Int):ek 22 (aT m a ae b af)++[.i (.v (.bool f')),.i (.v (.bool gi)),.i (.v (.bool n3)),.i (.v (.bool n4)),.i (.v (.bool afJ)),.i (.v (.bool n6)),.i (.v (.bool afK)),.i (.v (.bool afL)),.i (.v (.int .u8 x)),.i (.v (.int .u8 y)),.i (.v (.int .i64 z))]++eG 33 (aT m a ae b af)=aT {m with md:=⟨f',gi,n3,n4,afJ,n6,afK,afL,x,y,z⟩} a ae b af:=rfl
def aJp(m:M)(a ae b af:Nat)(x:Bool):ek 25 (aT m a ae b af)++[.i (.v (.bool x))]++eG 26 (aT m a ae b af)=aT {m with md:={m.md with c2:=x}} a ae b af:=rfl
def aJq(m:M)(a ae b af:Nat)(x y:Int):ek 30 (aT m a ae b af)++[.i (.v (.int .u8 x)),.i (.v (.int .u8 y))]++eG 32 (aT m a ae b af)=aT {m with md:={m.md with dh:=x,s1:=y}} a ae b af:=rfl
def aJr(m:M)(a ae b af:Nat)(x:Int):ek 32 (aT m a ae b af)++[.i (.v (.int .i64 x))]++eG 33 (aT m a ae b af)=aT {m with md:={m.md with dI:=x}} a ae b af:=rfl
def aJs(m:M)(a ae b af:Nat)(x:Int):ek 33 (aT m a ae b af)++[.i (.v (.int .i64 x))]++eG 34 (aT m a ae b af)=aT {m with cA:=x} a ae b af:=rfl
def aJt(m:M)(a ae b af:Nat)(x:Int):ek 34 (aT m a ae b af)++[.i (.v (.int .i64 x))]++eG 35 (aT m a ae b af)=aT {m with b7:=x} a ae b af:=rfl
def aJu(m:M)(a ae b af:Nat)(x:List Bool):ek 35 (aT m a ae b af)++[.i (.sl 1 (dS x) false)]++eG 36 (aT m a ae b af)=aT {m with cD:=x} a ae b af:=rfl
def aJv(m:M)(a ae b af:Nat)(x:List (List bl)):ek 36 (aT m a ae b af)++[.i (.sl 1 (b2 x) false)]++eG 37 (aT m a ae b af)=aT {m with gl:=false,back:=x} a ae b af:=rfl
def aJw(m:M)(a ae b af:Nat):ek 36 (aT m a ae b af)++[.i (.sl 0 [] true)]++eG 37 (aT m a ae b af)=aT {m with gl:=true,back:=[]} a ae b af:=rfl
def aJx(m:M)(a ae b af:Nat)(x:Int)(y z:List UInt8):ek 37 (aT m a ae b af)++[.i (.v (.int .i64 x)),.i (.str y),.i (.str z)]++eG 40 (aT m a ae b af)=aT {m with bk:=⟨x,y,z⟩} a ae b af:=rfl
def aJy(m:M)(a ae b af:Nat)(x:List Int):ek 40 (aT m a ae b af)++[.i (.str (dN x))]++eG 41 (aT m a ae b af)=aT {m with eK:=x} a ae b af:=rfl
def aJz(m:M)(a ae b af:Nat)(x:List UInt8):ek 41 (aT m a ae b af)++[.i (.str x)]++eG 42 (aT m a ae b af)=aT {m with ds:=x} a ae b af:=rfl
def bQ:=o @aIx (o @aIy (o @aIz (o @aIA (o @aIB (o @aIC (o @aID (o @aIE (o @aIF (o @aIG (o @aIH (o @aII (o @aIJ (o @aIK (o @aIL (o @aIM (o @aIN (o @aIO (o @aIP (o @aIQ (o @aIR (o @aIS (o @aIT (o @aIU (o @aIV (o @aIW (o @aIX (o @aIY (o @aIZ (o @aI0 (o @aI1 (o @aI2 (o @aI3 (o @aI4 (o @aI5 (o @aI6 (o @aI7 (o @aI8 (o @aI9 (o @aI_ (o @aI' (o @aJa (o @aJb (o @aJc (o @aJd (o @aJe (o @aJf (o @aJg (o @aJh (o @aJi (o @aJj (o @aJk (o @aJl (o @aJm (o @aJn (o @aJo (o @aJp (o @aJq (o @aJr (o @aJs (o @aJt (o @aJu (o @aJv (o @aJw (o @aIw (o @aJx (o @aJy (@aJz)))))))))))))))))))))))))))))))))))))))))))))))))))))))))))))))))))
def jN(aS:Nat→Option Nat)(m:M)(a ae b af bW bR:Nat)(j:aS a=some bW)(I:aS b=some bR):cx aS (aT m a ae b af)=aT m bW ae bR af:=by simp[aT,cx,co,cN.c,cN.to,j,I]
def bV{B:Nat}{H:aa}{m:M}{a ae b af:Nat}(j:a<B)(I:b<B):ey B H (aT m a ae b af)=aT m a ae b af:=by simp[aT,ey,el,cN.c,j,I]
def kb(c:List U):(Chunk.box c).refs=bx c:=rfl
def iu(aS:Nat→Option Nat)(c:List U):(Chunk.box c).cI aS=.box (cx aS c):=rfl
def Q2{m:M}{a ae b af:Nat}{T:aa}{X Y:Chunk}(j:T[a]?=some X)(I:T[b]?=some Y)(av:X.refs=[])(ba:Y.refs=[])(cS:a≠b):
  reach (.box (aT m (a+1) ae (b+1) af)::T) 64 [0] []=[0,a+1,b+1]:=by
 have bG:=e'.2 (bF.1 j).1;have bC:=e'.2 (bF.1 I).1;simp[reach,kb,bH,j,I,av,ba,bG,bC,a' cS]
def Am{f:Nat}{bq:List U}{r:U}{m bZ:M}{X Y:Chunk}{a ae b af:Nat}{T:aa}(he:E.ext f=none)(aA:bx bq=[])(ah:bc r=[])
  (h:∃L,b3 E f (.ptr 0 0 0 0::bq) [.box (aT m 1 ae 2 af),X,Y]=some (r,.box (aT bZ 1 ae 2 af)::X::Y::L))
  (j:T[a]?=some X)(I:T[b]?=some Y)(av:X.refs=[])(ba:Y.refs=[])(cS:a≠b):
  cn f (.ptr 0 0 0 0::bq) (.box (aT m (a+1) ae (b+1) af)::T) r (.box (aT bZ (a+1) ae (b+1) af)::T):=by
 obtain⟨L,h⟩:=h;have bG:=(bF.1 j).1;have bC:=(bF.1 I).1;have vT:∀aS,cx aS bq=bq:=λ aS=>(fU aS).2 bq aA
 have iC:∀aS,co aS r=r:=λ aS=>(fU aS).1 r ah
 have n0:=λ aS=>kZ av aS
 have ya:=λ aS=>kZ ba aS
 have dj:=Q2 (m:=m) (ae:=ae) (af:=af) j I av ba cS;have oy:bt [0,a+1,b+1] (a+1)=some 1:=by simp[bt]
 have qV:bt [0,a+1,b+1] (b+1)=some 2:=by simp[bt,a' cS]
 have kk:bt [0,a+1,b+1] 0=some 0:=rfl;have ao:=jN (bt [0,a+1,b+1]) m (a+1) ae (b+1) af 1 2 oy qV;have aH:=jN (df [0,a+1,b+1] (T.length+1) []) bZ 1 ae 2 af (a+1) (b+1) rfl rfl;have An:reach (.box (aT bZ 1 ae 2 af)::X::Y::L) 64 [1,2] []=[1,2]:=by simp[reach,av,ba]
 have s1:=x6 j;have s2:=x6 I;unfold cn dd;simp only[eV,he,bx,bc,aA,c8,dj];simp[cx,co,vT,kk,j,I,iu,n0,ya,ao,h,kb,bH,ah,av,ba,An,aH,iC,ea,s1,s2]
def afM{m:M}{ae af aD aG:Nat}{x y:List bT}:∃L,b3 E 91 [.ptr 0 0 0 0] [.box (aT (m) 1 ae 2 af),.az 5 ae aD x,.az 5 af aG y]=some (.bd [],.box (aT ({m with aF:={m.aF with c:=0,p:=false}}) 1 ae 2 af)::.az 5 ae aD x::.az 5 af aG y::L):=by rw[bo acX];simp(disch:=omega)only[ar,simprocAttr,aEe,bQ];exact⟨_,rfl⟩
def Gm{m:M}{a b ae af aD aG:Nat}{x y:List bT}{T:aa}(j:T[a]?=some (.az 5 ae aD x))(I:T[b]?=some (.az 5 af aG y))(cS:a≠b):cn 91 [.ptr 0 0 0 0] (.box (aT (m) (a+1) ae (b+1) af)::T) (.bd []) (.box (aT ({m with aF:={m.aF with c:=0,p:=false}}) (a+1) ae (b+1) af)::T):=Am rfl rfl rfl afM j I rfl rfl cS
def afN{m:M}{ae af aD aG:Nat}{x y:List bT}:∃L,b3 E 106 [.ptr 0 0 0 0] [.box (aT (m) 1 ae 2 af),.az 5 ae aD x,.az 5 af aG y]=some (.agg [.i (.v (.int .i64 ((m).w))),.i (.v (.int .i64 ((m).h))),.i (.v (.int .i64 ((m).cA))),.i (.v (.int .i64 ((m).b7))),.i (.v (.bool ((m).md.c2)))],.box (aT (m) 1 ae 2 af)::.az 5 ae aD x::.az 5 af aG y::L):=by rw[bo ac8];simp(disch:=omega)only[ar,simprocAttr,aEn,bQ];exact⟨_,rfl⟩
def Gn{m:M}{a b ae af aD aG:Nat}{x y:List bT}{T:aa}(j:T[a]?=some (.az 5 ae aD x))(I:T[b]?=some (.az 5 af aG y))(cS:a≠b):cv 106 [.ptr 0 0 0 0] (.box (aT (m) (a+1) ae (b+1) af)::T) (.agg [m.w,m.h,m.cA,m.b7,m.md.c2]):=Am rfl rfl rfl afN j I rfl rfl cS
def cf(m:M):gz:=⟨m.w,m.h,m.cA,m.b7,m.md.c2⟩
def aJA{m:M}{ae af aD aG:Nat}{x y:List bT}(n:Int):∃L,b3 E 93 [.ptr 0 0 0 0,.i (.v (.int .i64 (n)))] [.box (aT (m) 1 ae 2 af),.az 5 ae aD x,.az 5 af aG y]=some (.bd [],.box (aT ({m with aF:={m.aF with c:=n,p:=false}}) 1 ae 2 af)::.az 5 ae aD x::.az 5 af aG y::L):=by rw[bo acZ];simp(disch:=omega)only[ar,simprocAttr,aEf,bQ];exact⟨_,rfl⟩
def K6{m:M}{a b ae af aD aG:Nat}{x y:List bT}{T:aa}(j:T[a]?=some (.az 5 ae aD x))(I:T[b]?=some (.az 5 af aG y))(cS:a≠b)(n:Int):cn 93 [.ptr 0 0 0 0,n] (.box (aT (m) (a+1) ae (b+1) af)::T) (.bd []) (.box (aT ({m with aF:={m.aF with c:=n,p:=false}}) (a+1) ae (b+1) af)::T):=Am rfl rfl rfl (aJA n) j I rfl rfl cS
def aJB{m:M}{ae af aD aG:Nat}{x y:List bT}(h:ib (cf m))(n:Int):∃L,b3 E 159 [.ptr 0 0 0 0,.i (.v (.int .i64 (n)))] [.box (aT (m) 1 ae 2 af),.az 5 ae aD x,.az 5 af aG y]=some (.bd [],.box (aT ({m with aF:=ir m.aF n (cf m)}) 1 ae 2 af)::.az 5 ae aD x::.az 5 af aG y::L):=by
 have ao:=Gn (m:=m) (a:=0) (b:=1) (ae:=ae) (af:=af) (T:=[.az 5 ae aD x,.az 5 af aG y]) rfl rfl (by decide);simp only[cp]at ao;have aH:=λ H=>QZ m.aF n h H
 simp only[cf]at aH;rw[bo ady];simp(disch:=omega)only[ar,simprocAttr,aEI,bQ,ao,aH,cf];exact⟨_,rfl⟩
def afO{m:M}{ae af aD aG:Nat}{x y:List bT}(h:ib (cf m))(n:Int):∃L,b3 E 99 [.ptr 0 0 0 0,.i (.v (.int .i64 (n)))] [.box (aT (m) 1 ae 2 af),.az 5 ae aD x,.az 5 af aG y]=some (.bd [],.box (aT ({m with aF:=mV m.aF n (cf m)}) 1 ae 2 af)::.az 5 ae aD x::.az 5 af aG y::L):=by
 have ao:=Gn (m:=m) (a:=0) (b:=1) (ae:=ae) (af:=af) (T:=[.az 5 ae aD x,.az 5 af aG y]) rfl rfl (by decide);simp only[cp]at ao;have aH:=λ H=>aIb m.aF n h H
 simp only[cf]at aH;rw[bo ac4];simp(disch:=omega)only[ar,simprocAttr,aEj,bQ,ao,aH,cf];exact⟨_,rfl⟩
def aJC{m:M}{a b ae af aD aG:Nat}{x y:List bT}{T:aa}(j:T[a]?=some (.az 5 ae aD x))(I:T[b]?=some (.az 5 af aG y))(cS:a≠b)(h:ib (cf m))(n:Int):cn 99 [.ptr 0 0 0 0,n] (.box (aT (m) (a+1) ae (b+1) af)::T) (.bd []) (.box (aT ({m with aF:=mV m.aF n (cf m)}) (a+1) ae (b+1) af)::T):=Am rfl rfl rfl (afO h n) j I rfl rfl cS
def Q3{m:M}{ae af aD aG:Nat}{x y:List bT}(h:ib (cf m))(r c:Int):∃L,b3 E 147 [.ptr 0 0 0 0,.i (.v (.int .i64 (r))),.i (.v (.int .i64 (c)))] [.box (aT (m) 1 ae 2 af),.az 5 ae aD x,.az 5 af aG y]=some (.bd [],.box (aT ({m with aF:=⟨toR r (cf m),k0 c (cf m),false⟩}) 1 ae 2 af)::.az 5 ae aD x::.az 5 af aG y::L):=by
 have ao:=Gn (m:=m) (a:=0) (b:=1) (ae:=ae) (af:=af) (T:=[.az 5 ae aD x,.az 5 af aG y]) rfl rfl (by decide);simp only[cp]at ao;have aH:=λ H=>aIg m.aF r c h H
 simp only[cf]at aH;rw[bo adt];simp(disch:=omega)only[ar,simprocAttr,aEE,bQ,ao,aH,cf];exact⟨_,rfl⟩
def afP{m:M}{a b ae af aD aG:Nat}{x y:List bT}{T:aa}(j:T[a]?=some (.az 5 ae aD x))(I:T[b]?=some (.az 5 af aG y))(cS:a≠b)(h:ib (cf m))(r c:Int):cn 147 [.ptr 0 0 0 0,r,c] (.box (aT (m) (a+1) ae (b+1) af)::T) (.bd []) (.box (aT ({m with aF:=⟨toR r (cf m),k0 c (cf m),false⟩}) (a+1) ae (b+1) af)::T):=Am rfl rfl rfl (Q3 h r c) j I rfl rfl cS
def afQ{m:M}{ae af aD aG:Nat}{x y:List bT}:∃L,b3 E 103 [.ptr 0 0 0 0] [.box (aT (m) 1 ae 2 af),.az 5 ae aD x,.az 5 af aG y]=some (.bd [],.box (aT ({m with bO:=⟨m.aF,m.a,m.md.c2,m.md.dh,m.md.s1,m.md.dI⟩}) 1 ae 2 af)::.az 5 ae aD x::.az 5 af aG y::L):=by rw[bo ac6];simp(disch:=omega)only[ar,simprocAttr,aEl,bQ];exact⟨_,rfl⟩
def afR{m:M}{a b ae af aD aG:Nat}{x y:List bT}{T:aa}(j:T[a]?=some (.az 5 ae aD x))(I:T[b]?=some (.az 5 af aG y))(cS:a≠b):cn 103 [.ptr 0 0 0 0] (.box (aT (m) (a+1) ae (b+1) af)::T) (.bd []) (.box (aT ({m with bO:=⟨m.aF,m.a,m.md.c2,m.md.dh,m.md.s1,m.md.dI⟩}) (a+1) ae (b+1) af)::T):=Am rfl rfl rfl (afQ) j I rfl rfl cS
def afS{m:M}{ae af aD aG:Nat}{x y:List bT}:∃L,b3 E 104 [.ptr 0 0 0 0] [.box (aT (m) 1 ae 2 af),.az 5 ae aD x,.az 5 af aG y]=some (.bd [],.box (aT ({m with aF:=m.bO.aF,a:=m.bO.a,md:={m.md with c2:=m.bO.c2,dh:=m.bO.dh,s1:=m.bO.s1,dI:=m.bO.dI}}) 1 ae 2 af)::.az 5 ae aD x::.az 5 af aG y::L):=by rw[bo ac7];simp(disch:=omega)only[ar,simprocAttr,aEm,bQ];exact⟨_,rfl⟩
def afT{m:M}{a b ae af aD aG:Nat}{x y:List bT}{T:aa}(j:T[a]?=some (.az 5 ae aD x))(I:T[b]?=some (.az 5 af aG y))(cS:a≠b):cn 104 [.ptr 0 0 0 0] (.box (aT (m) (a+1) ae (b+1) af)::T) (.bd []) (.box (aT ({m with aF:=m.bO.aF,a:=m.bO.a,md:={m.md with c2:=m.bO.c2,dh:=m.bO.dh,s1:=m.bO.s1,dI:=m.bO.dI}}) (a+1) ae (b+1) af)::T):=Am rfl rfl rfl (afS) j I rfl rfl cS
def hh(ai:Nat)(m:M)(A ae B af:Nat)(T:aa):Prop:=∃a b aD aG,A=a+ai∧B=b+ai∧T[a]?=some (.az 5 ae aD (aX m.G))∧T[b]?=some (.az 5 af aG (aX m.O))∧a≠b∧2≤T.length∧(∀x,T[0]?=some x→x.refs=[])∧(∀x,T[1]?=some x→x.refs=[])
def afU:∀(aV:List Nat) (xs:List Chunk) (H:aa) (pj:List Nat) (cP:List Chunk),aV.length=xs.length→ea H (aV++pj) (xs++cP)=ea (ea H aV xs) pj cP
 |[],[],H,pj,cP,_=>rfl
 |c::aV,x::xs,H,pj,cP,h=>by simp only[xH,ea];exact afU aV xs _ pj cP (by simpa using h)
def afV:∀(aV:List Nat) (xs:List Chunk) (H:aa),aV.map (λ c=>H[c]?)=xs.map some→ea H aV xs=H
 |[],[],H,_=>rfl
 |c::aV,x::xs,H,h=>by simp only[fh,Bu]at h;simp only[ea];rw[x6 h.1];exact afV aV xs H h.2
 |[],x::xs,H,h=>by simp at h
 |c::aV,[],H,h=>rfl
def qk(p:Nat)(m:M)(H:aa):Prop:=∃A ae B af aD aG,H[p]?=some (.box (aT m A ae B af))∧H[A]?=some (.az 5 ae aD (aX m.G))∧H[B]?=some (.az 5 af aG (aX m.O))∧A≠B
def hW:Chunk→Prop
 |.az ..=>False
 |_=>True
def so(p:Nat)(H an:aa):Prop:=H.length≤an.length∧(∀k x,H[k]?=some x→k≠p→hW x→an[k]?=some x)∧∀k x,H[k]?=some x→k≠p→x.refs=[]→∃mI,an[k]?=some mI∧mI.refs=[]
def Q4{c:Nat}:∀(aV S:List Nat),c∉aV→bt (aV++S) c=(bt S c).map (·+aV.length)
 |[],S,_=>by simp
 |d::aV,S,h=>by
  simp only[ng,not_or]at h;simp only[xH,bt,if_neg h.1,Q4 aV S h.2,cQ,Option.map_map]
  congr 1
def aJD{aV:List Nat}{n:Nat}{K:List Nat}{i c:Nat}(h:aV[i]?=some c):df aV n K i=some c:=by unfold df;rw[h]
def aJE{aV:List Nat}{n:Nat}{K:List Nat}{i:Nat}(h:aV.length≤i):df aV n K i=(bt K i).map (·+n):=by unfold df;rw[rW h]
def yb{f:Nat}{bq us:List U}{r:U}{m bZ:M}{aV Z:List Nat}{X:List Chunk}{p A ae B af aD aG:Nat}{H:aa}
  (he:E.ext f=none)(ah:bc r=[])
  (au:H[p]?=some (.box (aT m A ae B af)))(bY:H[A]?=some (.az 5 ae aD (aX m.G)))(cJ:H[B]?=some (.az 5 af aG (aX m.O)))(iv:A≠B)
  (dj:reach H 64 (bx bq) []=aV++[p,A,B])(gO:cx (bt (aV++[p,A,B])) bq=us)
  (n0:aV.map (λ c=>((H[c]?).map (Chunk.cI (bt (aV++[p,A,B])))).getD (.iter [] 0))=X)
  (aQM:p∉aV)(aJF:A∉aV)(aJG:B∉aV)
  (aJH:∀back:Nat→Option Nat,(∀i c,(aV++[p])[i]?=some c→back i=some c)→aV.map (λ c=>H[c]?)=(X.map (Chunk.cI back)).map some)
  (wa:∀z∈Z,z<aV.length+3)
  (jl:∀fa cF eb cG cX,hh (aV.length+1) bZ fa cF eb cG cX→reach (X++.box (aT bZ fa cF eb cG)::cX) 64 (X.flatMap Chunk.refs++[fa,eb]) []=Z++[fa,eb])
  (h:∀ae aD af aG,∃fa cF eb cG cX,b3 E f us (X++[.box (aT m (aV.length+1) ae (aV.length+2) af),.az 5 ae aD (aX m.G),.az 5 af aG (aX m.O)])=some (r,X++.box (aT bZ fa cF eb cG)::cX)∧hh (aV.length+1) bZ fa cF eb cG cX):
  ∃an,cn f bq H r an∧qk p bZ an∧so p H an:=by
 obtain⟨fa,cF,eb,cG,cX,h,cc⟩:=h ae aD af aG;have jl:=jl fa cF eb cG cX cc;obtain⟨a,b,oU,nx,rfl,rfl,aA,aj,cS,al,aW,j⟩:=cc;have afW:p≠A:=λ e=>by rw[e,bY]at au;cases au
 have afX:p≠B:=λ e=>by rw[e,cJ]at au;cases au
 have K7:X.length=aV.length:=by rw[←n0,nM]
 match cX,al,aA,aj,aW,j,h,jl with
 |t0::t1::gQ,al,aA,aj,aW,j,h,jl=>
  have aW:=aW t0 rfl;have j:=j t1 rfl;have iC:∀aS,co aS r=r:=λ aS=>(fU aS).1 r ah
  have cm:bt (aV++[p,A,B]) A=some (aV.length+1):=by rw[Q4 aV _ aJF];simp[bt,a' afW,qb]
  have cy:bt (aV++[p,A,B]) B=some (aV.length+2):=by rw[Q4 aV _ aJG];simp[bt,a' afX,a' iv,qb]
  have hm:(aV++[p,A,B]).map (λ c=>((H[c]?).map (Chunk.cI (bt (aV++[p,A,B])))).getD (.iter [] 0))=X++[.box (aT m (aV.length+1) ae (aV.length+2) af),.az 5 ae aD (aX m.G),.az 5 af aG (aX m.O)]:=by rw[rf,n0];simp only[fh,fm,au,bY,cJ,en,i1,iu,jN _ m A ae B af _ _ cm cy];rfl
  have xl:(aV++[p,A,B]).length=aV.length+3:=by simp
  have aJI:¬(X++.box (aT bZ (a+(aV.length+1)) cF (b+(aV.length+1)) cG)::t0::t1::gQ).length<aV.length+3:=by simp[K7]
  have rp:(X++.box (aT bZ (a+(aV.length+1)) cF (b+(aV.length+1)) cG)::t0::t1::gQ).take (aV.length+3)=X++[.box (aT bZ (a+(aV.length+1)) cF (b+(aV.length+1)) cG),t0,t1]:=by rw[List.take_append,s7 R,K7,show aV.length+3-aV.length=3 by omega];rfl
  have aJJ:(X++[.box (aT bZ (a+(aV.length+1)) cF (b+(aV.length+1)) cG),t0,t1]).flatMap Chunk.refs=X.flatMap Chunk.refs++[a+(aV.length+1),b+(aV.length+1)]:=by simp[kb,bH,aW,j]
  unfold cn dd;simp only[eV,he,dj,gO,hm,h,xl,aJI,if_false,rp,ah,gJ,aJJ,jl,iC];have gR:(Z++[a+(aV.length+1),b+(aV.length+1)]).filter (λ i=>decide (aV.length+3≤i))=[a+(aV.length+1),b+(aV.length+1)].filter (λ i=>decide (aV.length+3≤i)):=by rw[List.filter_append,List.filter_eq_nil_iff.2 (λ z bf=>by have:=wa z bf;simp;omega),gJ]
  rw[gR];generalize Ao:[a+(aV.length+1),b+(aV.length+1)].filter (λ i=>decide (aV.length+3≤i))=K;generalize fi:df (aV++[p,A,B]) H.length K=back;have pi:∀i c,(aV++[p,A,B])[i]?=some c→back i=some c:=λ i c h=>by rw[←fi];exact aJD h
  have kr:∀i,aV.length+3≤i→back i=(bt K i).map (·+H.length):=λ i h=>by rw[←fi];exact aJE (by rw[xl];exact h)
  have hid:=afV _ _ H (aJH back λ i c ax=>pi i c (by rw[show aV++[p,A,B]=(aV++[p])++[A,B]by simp,ei (bF.1 ax).1];exact ax))
  rw[rf,afU _ _ _ _ _ (by simp[K7]),hid];have g1:(aV++[p,A,B])[aV.length+1]?=some A:=by rw[hd R];simp
  have g2:(aV++[p,A,B])[aV.length+2]?=some B:=by rw[hd R];simp
  have fe:=pi _ _ g1;have dz:=pi _ _ g2;have afY:=(bF.1 au).1;have afZ:=(bF.1 bY).1;have af0:=(bF.1 cJ).1;simp only[fh,fm,iu,ea,kZ aW,kZ j];have fin:∀(yc yd:Nat) (W:List Chunk),back (a+(aV.length+1))=some yc→back (b+(aV.length+1))=some yd→
    (((H.set p (.box (aT bZ yc cF yd cG))).set A t0).set B t1++W)[yc]?=some (.az 5 cF oU (aX bZ.G))→(((H.set p (.box (aT bZ yc cF yd cG))).set A t0).set B t1++W)[yd]?=some (.az 5 cG nx (aX bZ.O))→yc≠yd→
    W=K.map (λ i=>(((X++.box (aT bZ (a+(aV.length+1)) cF (b+(aV.length+1)) cG)::t0::t1::gQ)[i]?).map (Chunk.cI back)).getD (.iter [] 0))→
    ∃an,some (r,((H.set p (.box (cx back (aT bZ (a+(aV.length+1)) cF (b+(aV.length+1)) cG)))).set A t0).set B t1++K.map (λ i=>(((X++.box (aT bZ (a+(aV.length+1)) cF (b+(aV.length+1)) cG)::t0::t1::gQ)[i]?).map (Chunk.cI back)).getD (.iter [] 0)))=some (r,an)∧qk p bZ an∧so p H an:=by
   intro yc yd W f_ fI q4 aJK aJL aJM;rw[jN back bZ _ cF _ cG _ _ f_ fI,←aJM];refine⟨_,rfl,⟨yc,cF,yd,cG,oU,nx,?_,q4,aJK,aJL⟩,by simp,λ k x ay Q5 ak=>?_,λ k x ay Q5 ak=>?_⟩
   ·rw[ei (by simp;exact afY),dw (a' afX),dw (a' afW),kl afY]
   ·have kc:=(bF.1 ay).1;have f':A≠k:=λ e=>by subst e;rw[bY]at ay;cases ay;exact ak
    have gi:B≠k:=λ e=>by subst e;rw[cJ]at ay;cases ay;exact ak
    rw[ei (by simp;exact kc),dw gi,dw f',dw (a' Q5),ay]
   ·have kc:=(bF.1 ay).1;rw[ei (by simp;exact kc)];by_cases gi:B=k
    ·subst gi;exact⟨t1,by rw[kl (by simp;exact kc)],j⟩
    ·rw[dw gi];by_cases f':A=k
     ·subst f';exact⟨t0,by rw[kl (by simp;exact kc)],aW⟩
     ·exact⟨x,by rw[dw f',dw (a' Q5),ay],ak⟩
  have Dg:∀i,(X++.box (aT bZ (a+(aV.length+1)) cF (b+(aV.length+1)) cG)::t0::t1::gQ)[i+(aV.length+1)]?=(t0::t1::gQ)[i]?:=λ i=>by rw[hd R,K7,show i+(aV.length+1)-aV.length=i+1 by omega,jF]
  have K8:∀(y:Chunk) W,(((H.set p y).set A t0).set B t1++W)[A]?=some t0:=λ y W=>by rw[ei (by simp;exact afZ),dw (a' iv),kl (by simp;exact afZ)]
  have K9:∀(y:Chunk) W,(((H.set p y).set A t0).set B t1++W)[B]?=some t1:=λ y W=>by rw[ei (by simp;exact af0),kl (by simp;exact af0)]
  have Dh:∀(y:Chunk) W i,(((H.set p y).set A t0).set B t1++W)[H.length+i]?=W[i]?:=λ y W i=>by rw[hd (by simp)];simp
  have gr:back (0+(aV.length+1))=some A:=by rw[cp];exact fe
  have b_:back (1+(aV.length+1))=some B:=by rw[qb 1];exact dz
  have hf:¬aV.length+3≤0+(aV.length+1):=R;have f':¬aV.length+3≤1+(aV.length+1):=R;have te:∀k,aV.length+3≤k+2+(aV.length+1):=λ k=>R
  rcases a with _|_|a<;>rcases b with _|_|b
  ·exact absurd rfl cS
  ·cases aA;cases aj;have pq:K=[]:=by rw[←Ao];simp only[rq,hf,f',decide_false]
   subst pq;exact fin A B [] gr b_ (K8 _ _) (K9 _ _) iv rfl
  ·cases aA;have pq:K=[b+2+(aV.length+1)]:=by rw[←Ao];simp only[rq,hf,te,decide_false,decide_true]
   subst pq;refine fin A (H.length+0) [.az 5 cG nx (aX bZ.O)] gr (by rw[kr _ (te b)];simp[bt]) (K8 _ _) (by rw[Dh];rfl) R ?_;simp only[fh,fm];rw[Dg];exact(congrArg (λ z=>[(Gp (Chunk.cI back) z).getD (.iter [] 0)]) aj).symm
  ·cases aA;cases aj;have pq:K=[]:=by rw[←Ao];simp only[rq,hf,f',decide_false]
   subst pq;exact fin B A [] b_ gr (K9 _ _) (K8 _ _) (a' iv) rfl
  ·exact absurd rfl cS
  ·cases aA;have pq:K=[b+2+(aV.length+1)]:=by rw[←Ao];simp only[rq,cp,f',te,decide_false,decide_true]
   subst pq;refine fin B (H.length+0) [.az 5 cG nx (aX bZ.O)] b_ (by rw[kr _ (te b)];simp[bt]) (K9 _ _) (by rw[Dh];rfl) R ?_;simp only[fh,fm];rw[Dg];exact(congrArg (λ z=>[(Gp (Chunk.cI back) z).getD (.iter [] 0)]) aj).symm
  ·cases aj;have pq:K=[a+2+(aV.length+1)]:=by rw[←Ao];simp only[rq,hf,te,decide_false,decide_true]
   subst pq;refine fin (H.length+0) A [.az 5 cF oU (aX bZ.G)] (by rw[kr _ (te a)];simp[bt]) gr (by rw[Dh];rfl) (K8 _ _) R ?_;simp only[fh,fm];rw[Dg];exact(congrArg (λ z=>[(Gp (Chunk.cI back) z).getD (.iter [] 0)]) aA).symm
  ·cases aj;have pq:K=[a+2+(aV.length+1)]:=by rw[←Ao];simp only[rq,cp,f',te,decide_false,decide_true]
   subst pq;refine fin (H.length+0) B [.az 5 cF oU (aX bZ.G)] (by rw[kr _ (te a)];simp[bt]) b_ (by rw[Dh];rfl) (K9 _ _) R ?_;simp only[fh,fm];rw[Dg];exact(congrArg (λ z=>[(Gp (Chunk.cI back) z).getD (.iter [] 0)]) aA).symm
  ·have pq:K=[a+2+(aV.length+1),b+2+(aV.length+1)]:=by rw[←Ao];simp only[rq,te,decide_true]
   subst pq;have gh:¬b=a:=R;refine fin (H.length+0) (H.length+1) [.az 5 cF oU (aX bZ.G),.az 5 cG nx (aX bZ.O)] (by rw[kr _ (te a)];simp[bt]) (by rw[kr _ (te b)];simp[bt,gh,qb]) (by rw[Dh];rfl) (by rw[Dh];rfl) R ?_;simp only[fh,fm];rw[Dg,Dg];have bG:=congrArg (λ z=>(Gp (Chunk.cI back) z).getD (.iter [] 0)) aA;have bC:=congrArg (λ z=>(Gp (Chunk.cI back) z).getD (.iter [] 0)) aj;exact(congr (congrArg (λ u v=>[u,v]) bG) bC).symm
def aJN(T cX:aa):Prop:=T.length≤cX.length∧(∀(k:Nat) (x:Chunk),T[k]?=some x→hW x→cX[k]?=some x)∧∀(k:Nat) (x:Chunk),T[k]?=some x→x.refs=[]→∃mI:Chunk,cX[k]?=some mI∧mI.refs=[]
def dZ(m:M)(L:aa):Prop:=∃A ae B af T,L=.box (aT m A ae B af)::T∧hh 1 m A ae B af T
def hi(f:Nat)(bq:List U)(m:M)(r:U)(bZ:M):Prop:=∀ae aD af aG,∃L,b3 E f (.ptr 0 0 0 0::bq) [.box (aT m 1 ae 2 af),.az 5 ae aD (aX m.G),.az 5 af aG (aX m.O)]=some (r,L)∧dZ bZ L
def af1{m:M}{A ae B af:Nat}{T:aa}(h:hh 1 m A ae B af T):reach (.box (aT m A ae B af)::T) 64 [A,B] []=[A,B]:=by obtain⟨a,b,aD,aG,rfl,rfl,aA,aj,cS,_⟩:=h;have bG:=e'.2 (bF.1 aA).1;have bC:=e'.2 (bF.1 aj).1;simp[reach,Chunk.refs,aA,aj,bG,bC,a' cS]
def Q6{f:Nat}{bq:List U}{r:U}{m bZ:M}(he:E.ext f=none)(gO:bx bq=[])(ah:bc r=[])(h:hi f bq m r bZ){A ae B af:Nat}{T:aa}(cc:hh 1 m A ae B af T):
  ∃bW cF bR cG cX,cn f (.ptr 0 0 0 0::bq) (.box (aT m A ae B af)::T) r (.box (aT bZ (bW+1) cF (bR+1) cG)::cX)∧hh 1 bZ (bW+1) cF (bR+1) cG cX∧aJN T cX:=by
 obtain⟨a,b,aD,aG,rfl,rfl,aA,aj,cS,al,aW,j⟩:=cc;have dj:=Q2 (m:=m) (ae:=ae) (af:=af) aA aj rfl rfl cS;obtain⟨an,e,⟨A,cF,B,cG,oU,nx,cz,i2,i3,i4⟩,bG,bC,cE⟩:=yb (f:=f) (bq:=.ptr 0 0 0 0::bq) (us:=.ptr 0 0 0 0::bq) (r:=r) (m:=m) (bZ:=bZ) (aV:=[]) (Z:=[]) (X:=[]) (p:=0) (A:=a+1) (B:=b+1) (H:=.box (aT m (a+1) ae (b+1) af)::T) he ah rfl aA aj R
  (by simp only[bx,bc,gO,c8];exact dj) (by simp only[cx,co,(fU _).2 bq gO];rfl) rfl (by simp) (by simp) (by simp) (λ _ _=>rfl) (by simp) (λ _ _ _ _ _ h=>af1 h) (λ ae aD af aG=>by
   obtain⟨L,e,fa,cF,eb,cG,cX,rfl,i⟩:=h ae aD af aG;exact⟨fa,cF,eb,cG,cX,e,i⟩)
 match an,cz,i2,i3,bG,bC,cE,e with
 |y::cX,cz,i2,i3,bG,bC,cE,e=>
  cases cz
  match A,B,i2,i3,i4,e with
  |0,_,i2,_,_,_=>cases i2
  |_+1,0,_,i3,_,_=>cases i3
  |bW+1,bR+1,i2,i3,i4,e=>
   refine⟨bW,cF,bR,cG,cX,e,⟨bW,bR,oU,nx,rfl,rfl,i2,i3,R,?_,?_,?_⟩,?_,?_,?_⟩
   ·exact rN al (by simpa using bG)
   ·intro x ak;obtain⟨eL,mf⟩:∃eL,T[0]?=some eL:=⟨T[0],eX R⟩;obtain⟨mI,f_,fI⟩:=cE 1 eL mf R (aW eL mf);rw[jF,ak]at f_;cases f_;exact fI
   ·intro x ak;obtain⟨eL,mf⟩:∃eL,T[1]?=some eL:=⟨T[1],eX R⟩;obtain⟨mI,f_,fI⟩:=cE 2 eL mf R (j eL mf);rw[jF,ak]at f_;cases f_;exact fI
   ·simpa using bG
   ·exact λ k x ay aE=>bC (k+1) x ay R aE
   ·exact λ k x ay aE=>cE (k+1) x ay R aE
mutual
theorem af2 {B:Nat} {H:aa}:∀a:U,bc a=[]→bc (el B H a)=[]
 |.dead,_=>by simp[el,bc]
 |.i x,_=>by simp[el,bc]
 |.agg l,h=>by simp only[el,bc]at h⊢;exact Ap l h
 |.ref _ _ _ _,h=>by simp[bc]at h
 |.ptr _ _ _ _,h=>by simp[bc]at h
 |.dv _,h=>by simp[bc]at h
 |.x _,h=>by simp[bc]at h
 |.aQ f a b,h=>by
  simp only[el,bc,OA]at h⊢
  exact⟨Ap a h.1,Ap b h.2⟩
 |.bd l,h=>by simp only[el,bc]at h⊢;exact Ap l h
theorem Ap {B:Nat} {H:aa}:∀l:List U,bx l=[]→bx (ey B H l)=[]
 |[],_=>by simp[ey,bx]
 |a::l,h=>by
  simp only[ey,bx,OA]at h⊢
  exact⟨af2 a h.1,Ap l h.2⟩
end
def af3{B:Nat}{H:aa}:∀l:List (aC×U),wG l=[]→wG (uK B H l)=[]
 |[],_=>by simp[uK,wG]
 |a::l,h=>by simp only[uK,wG,OA]at h⊢;exact⟨af2 a.2 h.1,af3 l h.2⟩
def K_{B:Nat}{H:aa}{c:Nat}{x:Chunk}(h:x.refs=[]):(dO B H c x).refs=[]:=by
 cases x with
 |box l=>exact Ap l h
 |map l=>exact af3 l h
 |cY t l=>exact Ap l h
 |sl=>simp only[dO];split<;>rfl
 |az=>simp only[dO];split<;>rfl
 |_=>rfl
def aJO{n:Nat}{m:M}{A ae B af:Nat}{T:aa}(cc:hh 1 m A ae B af T):∃cF cG cX,(Chunk.box (ey n (.box (aT m A ae B af)::T) (aT m A ae B af))::eJ n (.box (aT m A ae B af)::T) 1 T)=.box (aT m A cF B cG)::cX∧hh 1 m A cF B cG cX:=by
 obtain⟨a,b,aD,aG,rfl,rfl,aA,aj,cS,al,aW,j⟩:=cc;have e:ey n (.box (aT m (a+1) ae (b+1) af)::T) (aT m (a+1) ae (b+1) af)=aT m (a+1) (if a+1<n then ae else 0) (b+1) (if b+1<n then af else 0):=by by_cases b_:a+1<n<;>by_cases ca:b+1<n<;>simp[aT,ey,el,cN.c,aA,aj,rE,b_,ca]
 have g:∀k,(eJ n (.box (aT m (a+1) ae (b+1) af)::T) 1 T)[k]?=(T[k]?).map (dO n (.box (aT m (a+1) ae (b+1) af)::T) (1+k)):=vl _ _ T 1;refine⟨_,_,_,by rw[e],a,b,if a+1<n then aD else 0,if b+1<n then aG else 0,rfl,rfl,?_,?_,cS,by rw[pw];exact al,λ x ak=>?_,λ x ak=>?_⟩
 ·rw[g,aA,en,qb 1 a];by_cases b_:a+1<n<;>simp only[dO,b_,if_true,if_false]
 ·rw[g,aj,en,qb 1 b];by_cases b_:b+1<n<;>simp only[dO,b_,if_true,if_false]
 ·rw[g]at ak;obtain⟨eL,q,rfl⟩:=c0.1 ak;exact K_ (aW eL q)
 ·rw[g]at ak;obtain⟨eL,q,rfl⟩:=c0.1 ak;exact K_ (j eL q)
def ye{n:Nat}{m:M}{A ae B af:Nat}{T:aa}(cc:hh 1 m A ae B af T):dZ m (Chunk.box (ey n (.box (aT m A ae B af)::T) (aT m A ae B af))::eJ n (.box (aT m A ae B af)::T) 1 T):=by obtain⟨cF,cG,cX,e,i⟩:=aJO (n:=n) cc;exact⟨_,_,_,_,_,e,i⟩
def ny{m:M}{a ae b af aD aG:Nat}{x y:Chunk}{T:aa}(j:(x::y::T)[a]?=some (.az 5 ae aD (aX m.G)))(I:(x::y::T)[b]?=some (.az 5 af aG (aX m.O)))(cS:a≠b)(ak:x.refs=[])(aY:y.refs=[]):hh 1 m (a+1) ae (b+1) af (x::y::T):=
 ⟨a,b,aD,aG,rfl,rfl,j,I,cS,by simp,λ z h=>by cases h;exact ak,λ z h=>by cases h;exact aY⟩
def ql(w:Nat)(a7:Int)(p q:Nat)(k:Int)(g:List (List bl)):List (List bl):=if 0≤k then ri w a7 p q k.toNat g else rj w a7 p q (-k).toNat g
def je(p:Nat)(k:Int)(g:List (List bl)):List (List bl):=if 0≤k then rk p k.toNat g else[]
def aJP(w h:Nat)(hw:1≤w∧w≤132)(aN:1≤h∧h≤60)(g:List (List bl))(aP:g.length=h)(x7:lv w g)(a:ed)(p q:Nat)(k:Int)(lx:p<q)(bm:q≤h)(K3:-((q:Int)-p)≤k)(Bq:k≤(q:Int)-p)(H:aa):
  ∃n,(je p k g).length=n∧cn 144 [.agg [w,h,.i (.sl 1 (b2 g) false)],p,q,k,.agg [a.cZ,a.a7,a.cW]] H (.bd [.agg [w,h,.x (.d H.length 0 0 h)],.x (.d (H.length+1) 0 0 n),↑(0:Int)]) (H++[.az 5 0 0 (aX (ql w a.a7 p q k g)),.az 5 0 0 (aX (je p k g))]):=by
 by_cases aW:0≤k
 ·obtain⟨ac,rfl⟩:=jb aW;refine⟨ac,?_,?_⟩
  ·rw[je,if_pos aW,nV,rk,hE,iG];omega
  ·rw[ql,je,if_pos aW,if_pos aW,nV];exact aHG w h hw aN g aP x7 a p q ac lx bm R H
 ·obtain⟨ac,a_⟩:=jb (show 0≤-k by omega);obtain rfl:k=-(ac:Int):=R;refine⟨0,?_,?_⟩
  ·rw[je,if_neg aW];rfl
  ·rw[ql,je,if_neg aW,if_neg aW,a_,nV];exact aHJ w h hw aN g aP x7 a p q ac lx bm R R H
structure bi (m:M):Prop where
 w:1≤m.w∧m.w≤132
 h:1≤m.h∧m.h≤60
 G:m.G.length=m.h∧lv m.w m.G
 O:m.O.length=m.h∧lv m.w m.O
 aF:(0≤m.aF.r∧m.aF.r<m.h)∧(0≤m.aF.c∧m.aF.c<m.w)∧(m.aF.p=true→m.aF.c=m.w-1)
 bO:(0≤m.bO.aF.r∧m.bO.aF.r<m.h)∧(0≤m.bO.aF.c∧m.bO.aF.c<m.w)∧(m.bO.aF.p=true→m.bO.aF.c=m.w-1)
 a:h_ m.a=true
 aD:h_ m.bO.a=true
 cY:0≤m.cA∧m.cA<m.b7∧m.b7≤m.h
 cD:m.cD.length=m.w
 back:m.back.length≤500∧∀r∈m.back,1≤r.length∧r.length≤132∧hv r=true
 bK:(m.md.dh=66∨m.md.dh=48)∧(m.md.s1=66∨m.md.s1=48)∧(m.md.dI=0∨m.md.dI=1)
 hM:(m.bO.dh=66∨m.bO.dh=48)∧(m.bO.s1=66∨m.bO.s1=48)∧(m.bO.dI=0∨m.bO.dI=1)
 eK:m.eK.length≤100000
 ds:m.ds.length≤1000
def bi.cf{m:M}(h:bi m):ib (cf m):=⟨by have:=h.w;exact⟨by show(1:Int)≤(m.w:Int);omega,by show(m.w:Int)≤132;omega⟩,by have:=h.h;exact⟨by show(1:Int)≤(m.h:Int);omega,by show(m.h:Int)≤60;omega⟩,h.cY⟩
def k2(m:M)(fr hG:Int)(kg:Bool):M:=
 {m with G:=ql m.w m.a.a7 fr.toNat m.b7.toNat (eH hG (-(m.b7-fr)) (m.b7-fr)) m.G,gl:=m.gl &&!(kg &&(decide (m.cA=0) &&!m.md.fJ)),back:=if kg &&(decide (m.cA=0) &&!m.md.fJ)then tc m.back (je fr.toNat (eH hG (-(m.b7-fr)) (m.b7-fr)) m.G)else m.back}
def Gq{m:M}(hm:bi m)(fr hG:Int)(kg:Bool)(bp:0≤fr∧fr<m.b7):hi 107 [.i (.v (.int .i64 (fr))),.i (.v (.int .i64 (hG))),.i (.v (.bool (kg)))] m (.bd []) (k2 m fr hG kg):=by
 intro ae aD af aG;obtain⟨t,rfl⟩:=jb bp.1;obtain⟨q,bm⟩:=jb (show 0≤m.b7 by omega);obtain⟨aQN,aQO,aQP⟩:=hm.cY;obtain⟨f_,fI⟩:=hm.w;obtain⟨j,I⟩:=hm.h;have kB:=rl (n:=hG) (show-(m.b7-t)≤m.b7-t by omega);obtain⟨n,aE,ao⟩:∃n,(je t (eH hG (-(m.b7-t)) (m.b7-t)) m.G).length=n∧∀H,dd E (b3 E) 144 [.agg [.i (.v (.int .i64 (m.w))),.i (.v (.int .i64 (m.h))),.i (.sl 1 (b2 m.G) false)],.i (.v (.int .i64 (t))),.i (.v (.int .i64 (m.b7))),.i (.v (.int .i64 (eH hG (-(m.b7-t)) (m.b7-t)))),.agg [.i (.v (.int .i64 (m.a.cZ))),.i (.v (.int .i64 (m.a.a7))),.i (.v (.int .i64 (m.a.cW)))]] H=some (.bd [.agg [.i (.v (.int .i64 (m.w))),.i (.v (.int .i64 (m.h))),.x (.d H.length 0 0 m.h)],.x (.d (H.length+1) 0 0 n),.i (.v (.int .i64 (0)))],H++[.az 5 0 0 (aX (ql m.w m.a.a7 t q (eH hG (-(m.b7-t)) (m.b7-t)) m.G)),.az 5 0 0 (aX (je t (eH hG (-(m.b7-t)) (m.b7-t)) m.G))]):=by refine⟨_,rfl,λ H=>?_⟩;obtain⟨n,aE,e⟩:=aJP m.w m.h hm.w hm.h m.G hm.G.1 hm.G.2 m.a t q (eH hG (-(m.b7-t)) (m.b7-t)) R R R R H;rw[aE,bm];rw[bm]at e;exact e
 have j0:=Db m.G;have kq:=Da m.G;have aJQ:(b2 m.G).length=m.h:=by rw[gx,hm.G.1]
 have aJR:(aX m.G).length=m.h:=by rw[gy,hm.G.1]
 have aJS:(je t (eH hG (-(m.b7-t)) (m.b7-t)) m.G).length≤60:=by
  have j:=hm.G.1;have I:=hm.h.2
  unfold je rk;split
  ·rw[hE,iG];omega
  ·simp
 have hOr:∀r∈je t (eH hG (-(m.b7-t)) (m.b7-t)) m.G,r.length≤132:=by
  intro r ah;unfold je rk at ah;split at ah
  ·have:=(hm.G.2 r (ur (Di ah))).1;have:=hm.w.2;omega
  ·simp at ah
 have aH:=λ H=>aHX m.back (je t (eH hG (-(m.b7-t)) (m.b7-t)) m.G) hm.back.1 aJS (λ r ah=>by
  rcases fS.1 ah with h|h
  ·exact(hm.back.2 r h).2.1
  ·exact hOr r h) H
 have yO:=Db (je t (eH hG (-(m.b7-t)) (m.b7-t)) m.G);have Bk:=Da (je t (eH hG (-(m.b7-t)) (m.b7-t)) m.G);have qs:(b2 (je t (eH hG (-(m.b7-t)) (m.b7-t)) m.G)).length=n:=by rw[gx,aE]
 have fk:(aX (je t (eH hG (-(m.b7-t)) (m.b7-t)) m.G)).length=n:=by rw[gy,aE]
 have e_:max (0-(m.b7-t)) (min hG (m.b7-t))=eH hG (-(m.b7-t)) (m.b7-t):=by unfold eH;rw[Int.zero_sub]
 have aJT:m.b7.toNat=q:=by rw[bm];rfl
 unfold k2;simp only[nV,aJT];generalize eH hG (-(m.b7-t)) (m.b7-t)=L at*;generalize ql m.w m.a.a7 t q L m.G=Gr at*;generalize tc m.back (je t L m.G)=P at*;generalize (je t L m.G).map (λ r=>aC.sl 5 (cg r) false)=aQQ at*;generalize aX (je t L m.G)=aQR at*;generalize b2 (je t L m.G)=aQS at*;generalize m.G.map (λ r=>aC.sl 5 (cg r) false)=aJU at*;generalize lK:aX m.G=aQT at*;have fin:∀{bZ:M} {ae af aD aG:Nat} {z y:Chunk} {T:aa},bZ.O=m.O→bZ.G=Gr→z.refs=[]→dZ bZ (.box (aT bZ 4 ae 2 af)::z::.az 5 af aG (aX m.O)::y::.az 5 ae aD (aX Gr)::T):=λ{bZ ae af aD aG z y T} ao aH bf=>⟨_,_,_,_,_,rfl,ny (a:=3) (b:=1) (by rw[aH];rfl) (by rw[ao];rfl) (by decide) bf rfl⟩
 have ah:((lF 4 2).all λ c=>!(c==3||c==1000003))=true:=rfl;cases kg with
 |false=>rw[bo FT];simp(disch:=omega)only[ar,simprocAttr,J5,dM,bQ,bV,ah,ao,aH,e_,j0,kq,yO,Bk];refine⟨_,rfl,?_⟩;exact fin rfl rfl rfl
 |true=>
  by_cases aW:m.cA=0
  ·have aM:decide (m.cA=0)=true:=by simp[aW]
   cases Aq:m.md.fJ with
   |false=>simp only[aM,ra,zQ,if_true];rw[bo FT];simp(disch:=omega)only[ar,simprocAttr,J5,dM,bQ,bV,ah,ao,aH,e_,j0,kq,yO,Bk,Aq];refine⟨_,rfl,?_⟩;exact fin rfl rfl rfl
   |true=>simp only[aM,JE,xI,if_false,fF];rw[bo FT];simp(disch:=omega)only[ar,simprocAttr,J5,dM,bQ,bV,ah,ao,aH,e_,j0,kq,yO,Bk,Aq];refine⟨_,rfl,?_⟩;exact fin rfl rfl rfl
  ·have aM:decide (m.cA=0)=false:=by simp[aW]
   simp only[aM,lo,xI,if_false,fF];rw[bo FT];simp(disch:=omega)only[ar,simprocAttr,J5,dM,bQ,bV,ah,ao,aH,e_,j0,kq,yO,Bk];refine⟨_,rfl,?_⟩;exact fin rfl rfl rfl
inductive eZ:List bl→Prop
 |nil:eZ []
 |one {c l}:iL c=true→c.w=1→eZ l→eZ (c::l)
 |two {c l}:iL c=true→c.w=2→eZ l→eZ (c::cont c.a::l)
def Q7:∀(n:Nat) (l:List bl),l.length≤n→hv l=true→eZ l
 |_,[],_,_=>.nil
 |0,_::_,h,_=>by simp at h
 |n+1,[c],_,h=>by simp only[hv,cR,decide_eq_true_eq]at h;exact .one h.1 h.2 .nil
 |n+1,c::d::l,al,h=>by
  by_cases hw:c.w=1
  ·rw[QG hw,cR]at h;exact .one h.1 hw (Q7 n _ (by simpa using al) h.2)
  ·rw[QH hw]at h;simp only[cR,decide_eq_true_eq]at h;obtain⟨⟨j,I,rfl⟩,av⟩:=h;exact .two j I (Q7 n _ (by simp at al;omega) av)
def eZ.p{l:List bl}(h:eZ l):hv l=true:=by
 induction h with
 |nil=>rfl
 |one j I _ a8=>rw[QG I,j,a8];rfl
 |two j I _ a8=>rw[QH R,j,a8,I];simp
def yf{l:List bl}:hv l=true↔eZ l:=⟨Q7 _ l (cL _),eZ.p⟩
def eZ.i7{a b:List bl}(h:eZ a)(aj:eZ b):eZ (a++b):=by
 induction h with
 |nil=>exact aj
 |one j I _ a8=>exact .one j I a8
 |two j I _ a8=>exact .two j I a8
def Q8{a7:Int}(h:-1≤a7∧a7≤255):iL (qh a7)=true:=by
 have j:h_ ⟨-1,a7,0⟩=true:=by simp only[h_,cR,decide_eq_true_eq];omega
 have I:(oP [32] &&decide (C5 [32]=1))=true:=by decide
 simp only[iL,qh,j,zQ];exact I
def eZ.qm{a7:Int}(h:-1≤a7∧a7≤255):∀n,eZ (dB n a7)
 |0=>.nil
 |n+1=>by rw[dB,Ef];exact .one (Q8 h) rfl (eZ.qm h n)
def Dj{a:ed}(h:h_ a=true):-1≤a.a7∧a.a7≤255:=by simp only[h_,cR,decide_eq_true_eq]at h;omega
def af4{c:bl}(h:iL c=true):h_ c.a=true:=by simp only[iL,cR]at h;exact h.2
def K'(c:bl)(l:List bl)(k:Nat):c9 (c::l) (k+2)=c::c9 l (k+1):=by
 unfold c9;rw[jF];cases l[k+1]? with
 |none=>rfl
 |some d=>simp only[Nat.zero_lt_succ,true_and];split<;>rfl
def af5(l:List bl):c9 l 0=l:=by unfold c9;split<;>simp
def eZ.lm{l:List bl}(h:eZ l){d:bl}(aM:l[0]?=some d):d.w≠0:=by
 cases h with
 |nil=>cases aM
 |one j I _=>cases aM;omega
 |two j I _=>cases aM;omega
def af6{c:bl}{l:List bl}(h:eZ l):c9 (c::l) 1=c::l:=by
 unfold c9;rw[jF];cases e:l[0]? with
 |none=>rfl
 |some d=>simp only[h.lm e,and_false,if_false]
def eZ.pE{l:List bl}(h:eZ l):∀k,eZ ((c9 l k).take k)∧eZ ((c9 l k).drop k):=by
 induction h with
 |nil=>intro k;simp[c9];exact .nil
 |@one c l j I av a8=>
  intro k
  match k with
  |0=>rw[af5];exact⟨.nil,.one j I av⟩
  |1=>rw[af6 av];exact⟨.one j I .nil,av⟩
  |k+2=>rw[K'];exact⟨.one j I (a8 (k+1)).1,(a8 (k+1)).2⟩
 |@two c l j I av a8=>
  intro k
  match k with
  |0=>rw[af5];exact⟨.nil,.two j I av⟩
  |1=>have e:c9 (c::cont c.a::l) 1=qh c.a.a7::qh c.a.a7::l:=rfl;rw[e];have aj:=Q8 (Dj (af4 j));exact⟨.one aj rfl .nil,.one aj rfl av⟩
  |2=>rw[K',af6 av];exact⟨.two j I .nil,av⟩
  |k+3=>rw[K',K'];exact⟨.two j I (a8 (k+1)).1,(a8 (k+1)).2⟩
def eZ.bh{l:List bl}(h:eZ l)(k:Nat):eZ (c9 l k):=by have j:=h.pE k;rw[←Jg k (c9 l k)];exact j.1.i7 j.2
def Gs{l:List bl}{ac k:Nat}(h:ac<k):(c9 l k).take ac=l.take ac:=by
 unfold c9;split
 ·split
  ·rw[List.take_set_of_le R,List.take_set_of_le R]
  ·rfl
 ·rfl
def eZ.fix{l:List bl}(h:eZ l):∀n,eZ (l1 (l.take n)):=by
 induction h with
 |nil=>intro n;simp[l1];exact .nil
 |@one c l j I av a8=>
  intro n
  match n with
  |0=>simp[l1];exact .nil
  |n+1=>
   have e:l1 (c::l.take n)=c::l1 (l.take n):=by
    cases al:l.take n with
    |nil=>simp[l1,I]
    |cons d r=>
     simp only[l1,cQ,Nat.add_sub_cancel,jF];cases (d::r)[r.length]? with
     |none=>rfl
     |some x=>simp only;split<;>rfl
   rw[vk,e];exact .one j I (a8 n)
 |@two c l j I av a8=>
  intro n;have aj:=Q8 (Dj (af4 j))
  match n with
  |0=>simp[l1];exact .nil
  |1=>simp[l1,I];exact .one aj rfl .nil
  |n+2=>
   have e:l1 (c::cont c.a::l.take n)=c::cont c.a::l1 (l.take n):=by
    cases al:l.take n with
    |nil=>simp[l1,cont]
    |cons d r=>
     simp only[l1,cQ,Nat.add_sub_cancel,jF];cases (d::r)[r.length]? with
     |none=>rfl
     |some x=>simp only;split<;>rfl
   rw[vk,vk,e];exact .two j I (a8 n)
def eZ.aJV{A B C:List bl}(h:eZ (A++(B++C)))(k:Nat):eZ (l1 (A++(B++C.take k))):=by have av:=h.fix (A.length+(B.length+k));rwa [List.take_length_add_append,List.take_length_add_append]at av
def eZ.mz{l:List bl}(h:eZ l)(bb n:Nat){a:ed}(aA:h_ a=true):eZ (mz l bb n a):=
 ((h.pE bb).1.i7 ((eZ.qm (Dj aA) (min n (l.length-bb))).i7 (h.pE bb).2)).aJV _
def eZ.oS{l:List bl}(h:eZ l){bb n:Nat}(ag:bb<l.length)(aE:1≤n){a:ed}(aA:h_ a=true):eZ (oS l bb n a):=by have j:=h.pE bb;have I:=(h.bh bb).pE (bb+min n (l.length-bb));unfold Go.VI.oS;rw[Gs R];exact j.1.i7 (I.2.i7 (eZ.qm (Dj aA) _))
def eZ.pD{l:List bl}(h:eZ l){p q:Nat}(lx:p≤q){a:ed}(aA:h_ a=true):eZ (pD l p q a):=by
 unfold Go.VI.pD;split
 ·exact h
 ·have j:=h.pE p;have I:=(h.bh p).pE q;rw[Gs R];exact j.1.i7 ((eZ.qm (Dj aA) _).i7 I.2)
def eZ.oR{l:List bl}(h:eZ l){bb:Nat}{t:List Int}{w:Int}{a:ed}(hw:w=1∨w=2)(ag:(bb:Int)+w≤l.length)(bp:iL ⟨t,w,a⟩=true):eZ (oR l bb t w a):=by
 unfold Go.VI.oR;have j:=h.pE bb;have z:iq l bb 1=c9 l bb:=rfl;rcases hw with rfl|rfl
 ·rw[if_neg (by decide)];have I:=(h.bh bb).pE (bb+1);have e:(iq l bb 2).set bb ⟨t,1,a⟩=(c9 l bb).take bb++(⟨t,1,a⟩::(c9 (c9 l bb) (bb+1)).drop (bb+1)):=by
   have al:bb<(iq l bb 2).length:=by rw[vY];omega
   rw[List.set_eq_take_append_cons_drop,if_pos al];show(c9 (c9 l bb) (bb+1)).take bb++_=_;rw[Gs R];rfl
  rw[e];exact j.1.i7 (.one bp rfl I.2)
 ·rw[if_pos rfl];have I:=((h.bh bb).bh (bb+1)).pE (bb+2);have e:((iq l bb 3).set bb ⟨t,2,a⟩).set (bb+1) (cont a)=(c9 l bb).take bb++(⟨t,2,a⟩::cont a::(c9 (c9 (c9 l bb) (bb+1)) (bb+2)).drop (bb+2)):=by
   have al:bb+1<(iq l bb 3).length:=by rw[vY];omega
   have ak:iq l bb 3=c9 (c9 (c9 l bb) (bb+1)) (bb+2):=rfl;rw[ak]at al⊢;have aY:(c9 (c9 (c9 l bb) (bb+1)) (bb+2)).take bb=(c9 l bb).take bb:=by rw[Gs R,Gs R]
   generalize c9 (c9 (c9 l bb) (bb+1)) (bb+2)=x at*;have ao:x.set bb ⟨t,2,a⟩=x.take bb++⟨t,2,a⟩::x.drop (bb+1):=by rw[List.set_eq_take_append_cons_drop,if_pos R]
   rw[ao,yY _ _ (by rw[hE];omega),hE,show bb+1-min bb x.length=1 by omega,jq al,List.set_cons_succ,FG,aY]
  rw[e];exact j.1.i7 (.two bp rfl I.2)
def wb(c:fW)(w h:Nat):Prop:=(0≤c.r∧c.r<h)∧(0≤c.c∧c.c<w)∧(c.p=true→c.c=w-1)
def bi.jO{m:M}(h:bi m){c:fW}(ag:wb c m.w m.h):bi {m with aF:=c}:=
 {w:=h.w,h:=h.h,G:=h.G,O:=h.O,aF:=ag,bO:=h.bO,a:=h.a,aD:=h.aD,cY:=h.cY,cD:=h.cD,back:=h.back,bK:=h.bK,hM:=h.hM,eK:=h.eK,ds:=h.ds}
def bi.b7{m:M}(h:bi m):ib (Go.VI.cf m):=h.cf
def aJW{r n:Int}{b:gz}(h:ib b)(ah:0≤r∧r<b.h):0≤v8 r n b∧v8 r n b<b.h:=by
 obtain⟨_,⟨av,ba⟩,bs,dq,gn⟩:=h;unfold v8;have al:Dd r b≤De r b∧0≤Dd r b∧De r b<b.h:=by unfold Dd De;split<;>omega
 have:=rl (n:=r-eH n (-1000) 1000) al.1;omega
def Ar(c:fW)(n:Int){m:M}(h:bi m):wb (ir c n (cf m)) m.w m.h:=by have aj:=h.cf;have j:=x9 c aj;have I:=aJW (n:=n) aj j.1;exact⟨I,j.2,by simp[ir]⟩
def La(c:fW)(n:Int){m:M}(h:bi m):wb (mV c n (cf m)) m.w m.h:=by have aj:=h.cf;have j:=x9 c aj;have hw:=h.w;have I:=rl (n:=(gb c (cf m)).c+eH n (-1000) 1000) (show(0:Int)≤(cf m).w-1 by show(0:Int)≤(m.w:Int)-1;omega);refine⟨j.1,?_,by simp[mV]⟩;show 0≤v_ _ _ _∧v_ _ _ _<(m.w:Int);unfold v_;have av:(cf m).w=(m.w:Int):=rfl;rw[av]at I⊢;omega
def Gt(r c:Int){m:M}(h:bi m):wb ⟨toR r (cf m),k0 c (cf m),false⟩ m.w m.h:=by
 have hw:=h.w;have aN:=h.h;have bp:=h.cY;have ao:(cf m).w=(m.w:Int):=rfl;have aH:(cf m).h=(m.h:Int):=rfl;have bN:(cf m).cA=m.cA:=rfl;have c':(cf m).b7=m.b7:=rfl;have j:=rl (n:=eH c 1 1000-1) (show(0:Int)≤(cf m).w-1 by rw[ao];omega);refine⟨?_,?_,by simp⟩
 ·show 0≤toR r (cf m)∧toR r (cf m)<(m.h:Int);unfold toR;split
  ·have:=rl (n:=(cf m).cA+(eH r 1 1000-1)) (show(cf m).cA≤(cf m).b7-1 by rw[bN,c'];omega);rw[bN,c']at this⊢;omega
  ·have:=rl (n:=eH r 1 1000-1) (show(0:Int)≤(cf m).h-1 by rw[aH];omega);rw[aH]at this⊢;omega
 ·show 0≤k0 c (cf m)∧k0 c (cf m)<(m.w:Int);unfold k0;rw[ao]at j⊢;omega
def af7(c:fW){m:M}(h:bi m):wb (x_ c (cf m)) m.w m.h:=by have j:=x9 c h.cf;refine⟨j.1,j.2,λ e=>?_⟩;simp only[x_,cR,decide_eq_true_eq]at e;exact e.2
def af8(c:fW){m:M}(h:bi m):wb (js c (cf m)) m.w m.h:=by have j:=x9 c h.cf;exact⟨j.1,j.2,by simp[js]⟩
def Q9(c:fW){m:M}(h:bi m):wb (oT c (cf m)).1 m.w m.h:=by
 unfold oT;split
 ·exact af8 c h
 ·exact Ar _ _ h
def Q_(c:fW){m:M}(h:bi m):wb (rm c (cf m)).1 m.w m.h:=by
 unfold rm;split
 ·exact af8 c h
 ·exact Ar _ _ h
def Q'{w:Nat}{a:ed}(aA:h_ a=true):(dB w a.a7).length=w∧hv (dB w a.a7)=true:=⟨Ag _ _,(eZ.qm (Dj aA) w).p⟩
def aJX{w:Nat}{a:ed}(aA:h_ a=true){p q k:Nat}{g:List (List bl)}(h:lv w g):lv w (ri w a.a7 p q k g):=by
 intro r ah;simp only[ri,fS,Ra]at ah;rcases ah with j|(j|⟨_,rfl⟩)|j
 ·exact h r (Di j)
 ·exact h r (ur (Di j))
 ·exact Q' aA
 ·exact h r (ur j)
def aJY{w:Nat}{a:ed}(aA:h_ a=true){p q k:Nat}{g:List (List bl)}(h:lv w g):lv w (rj w a.a7 p q k g):=by
 intro r ah;simp only[rj,fS,Ra]at ah;rcases ah with j|(⟨_,rfl⟩|j)|j
 ·exact h r (Di j)
 ·exact Q' aA
 ·exact h r (ur (Di j))
 ·exact h r (ur j)
def bi.yg{m:M}(h:bi m){fr n:Int}{kg:Bool}(bp:0≤fr∧fr<m.b7):bi (k2 m fr n kg):=by
 obtain⟨t1,t2,t3⟩:=h.cY;have al:=rl (n:=n) (show-(m.b7-fr)≤m.b7-fr by omega);have k3:=h.G;have aQU:=h.w;have aJZ:(ql m.w m.a.a7 fr.toNat m.b7.toNat (eH n (-(m.b7-fr)) (m.b7-fr)) m.G).length=m.h∧lv m.w (ql m.w m.a.a7 fr.toNat m.b7.toNat (eH n (-(m.b7-fr)) (m.b7-fr)) m.G):=by
  generalize eH n (-(m.b7-fr)) (m.b7-fr)=k at*;unfold ql;split
  ·exact⟨by rw[afu R R];exact k3.1,aJX h.a k3.2⟩
  ·exact⟨by rw[afv R R];exact k3.1,aJY h.a k3.2⟩
 have cJ:(k2 m fr n kg).back.length≤500∧∀r∈(k2 m fr n kg).back,1≤r.length∧r.length≤132∧hv r=true:=by
  unfold k2;simp only;generalize eH n (-(m.b7-fr)) (m.b7-fr)=k at*;split
  ·refine⟨afB _ _,λ r ah=>?_⟩;rcases fS.1 (ur ah)with j|j
   ·exact h.back.2 r j
   ·unfold je rk at j;split at j
    ·have:=k3.2 r (ur (Di j));exact⟨R,R,this.2⟩
    ·simp at j
  ·exact h.back
 exact{w:=h.w,h:=h.h,G:=aJZ,O:=h.O,aF:=h.aF,bO:=h.bO,a:=h.a,aD:=h.aD,cY:=h.cY,cD:=h.cD,back:=cJ,bK:=h.bK,hM:=h.hM,eK:=h.eK,ds:=h.ds}
def mA(m:M):M:=if(oT m.aF (cf m)).2=true then k2 {m with aF:=(oT m.aF (cf m)).1} m.cA 1 true else{m with aF:=(oT m.aF (cf m)).1}
def bi.feed{m:M}(h:bi m):bi (mA m):=by
 unfold mA;split
 ·exact(h.jO (Q9 m.aF h)).yg ⟨h.cY.1,h.cY.2.1⟩
 ·exact h.jO (Q9 m.aF h)
def As{f B:Nat}{mT:List ResultVar}{K:Fr→aa→Option (eC×Fr×aa)}{x:Option (eC×Fr×aa)}{r:U}{bZ:M}(P:Fr→aa→Prop)(j:∃J H,x=some (.normal,J,H)∧P J H)
  (I:∀J H,P J H→∃L,vr E f B mT (vp K (some (.normal,J,H)))=some (r,L)∧dZ bZ L):∃L,vr E f B mT (vp K x)=some (r,L)∧dZ bZ L:=by
 obtain⟨J,H,rfl,h⟩:=j;exact I J H h
def hX(m:M)(H:aa):Prop:=∃a ae b af T,H=.box (aT m (a+1) ae (b+1) af)::T∧hh 1 m (a+1) ae (b+1) af T
def l3{f:Nat}{bq:List U}{r:U}{m bZ:M}(he:E.ext f=none)(gO:bx bq=[])(ah:bc r=[])(h:hi f bq m r bZ){H:aa}(aO:hX m H):∃an,cn f (.ptr 0 0 0 0::bq) H r an∧hX bZ an:=by obtain⟨a,ae,b,af,T,rfl,i⟩:=aO;obtain⟨bW,cF,bR,cG,cX,e,y7,_⟩:=Q6 he gO ah h i;exact⟨_,e,bW,cF,bR,cG,cX,rfl,y7⟩
def hX.iN{n:Nat}{m:M}{H:aa}(h:hX m H):dZ m (eJ n H 0 H):=by obtain⟨a,ae,b,af,T,rfl,i⟩:=h;exact ye i
def hX.dC{m:M}{ae af aD aG:Nat}{T:aa}:hX m (.box (aT m 1 ae 2 af)::.az 5 ae aD (aX m.G)::.az 5 af aG (aX m.O)::T):=⟨0,ae,1,af,_,rfl,ny rfl rfl (by decide) rfl rfl⟩
def dZ.dC{m:M}{ae af aD aG:Nat}{T:aa}:dZ m (.box (aT m 1 ae 2 af)::.az 5 ae aD (aX m.G)::.az 5 af aG (aX m.O)::T):=⟨_,_,_,_,_,rfl,ny (a:=0) (b:=1) rfl rfl (by decide) rfl rfl⟩
def Gu{m:M}(hm:bi m):hi 92 [] m (.bd []) (mA m):=by
 intro ae aD af aG;have aj:=hm.cf;have ao:=λ z=>Gn (m:=m) (a:=0) (b:=1) (ae:=ae) (af:=af) (T:=.az 5 ae aD (aX m.G)::.az 5 af aG (aX m.O)::z) rfl rfl (by decide)
 have aH:=λ H=>aIi m.aF aj H
 unfold mA;have aR:=hm.jO (Q9 m.aF hm);obtain⟨c,ag⟩:∃c,oT m.aF (cf m)=c:=⟨_,rfl⟩;rw[ag]at aH aR⊢;simp only[cp,c1,cf]at ao aH;obtain⟨⟨Gv,sS,kC⟩,k⟩:=c;simp only at*;cases k with
 |false=>simp only[fF,if_false]at aH⊢;rw[bo PK];simp(disch:=omega)only[ar,simprocAttr,acY,bQ,bV,bH,ao,aH];exact⟨_,rfl,dZ.dC⟩
 |true=>simp only[if_true]at aH⊢;obtain⟨bW,cF,bR,cG,cX,bN,i3,cE⟩:=Q6 (f:=107) rfl rfl rfl (Gq aR m.cA 1 true ⟨hm.cY.1,hm.cY.2.1⟩) (ny (m:={m with aF:=⟨Gv,sS,kC⟩}) (a:=0) (b:=1) (ae:=ae) (af:=af) (aD:=aD) (aG:=aG) (x:=.az 5 ae aD (aX m.G)) (y:=.az 5 af aG (aX m.O)) (T:=[.box [.i (.v (.int .i64 (Gv))),.i (.v (.int .i64 (sS))),.i (.v (.bool (kC)))]]) rfl rfl (by decide) rfl rfl);simp only[cp,c1]at bN;rw[bo PK];simp(disch:=omega)only[ar,simprocAttr,acY,bQ,bV,bH,ao,aH,bN];exact⟨_,rfl,ye i3⟩
def af9{m:M}{ae af aD aG:Nat}{x y:List bT}{r:Nat}{bP:List (List aC)}(ah:m.aF.r=r)(aN:r<m.h)(ak:x[r]?=some (.own bP)):∃L,b3 E 96 [.ptr 0 0 0 0] [.box (aT m 1 ae 2 af),.az 5 ae aD x,.az 5 af aG y]=some (.x (.h 1 ae aD r),.box (aT m 1 ae 2 af)::.az 5 ae aD x::.az 5 af aG y::L):=by rw[bo ac2];simp(disch:=omega)only[ar,simprocAttr,aEh,dM,bQ,bV,bH,ah,ak];exact⟨_,rfl⟩
def af_{f:Nat}{m:M}{X Y:Chunk}{a ae b af s r:Nat}{T:aa}(he:E.ext f=none)
  (h:∃L,b3 E f [.ptr 0 0 0 0] [.box (aT m 1 ae 2 af),X,Y]=some (.x (.h 1 ae s r),.box (aT m 1 ae 2 af)::X::Y::L))
  (j:T[a]?=some X)(I:T[b]?=some Y)(av:X.refs=[])(ba:Y.refs=[])(cS:a≠b):
  cn f [.ptr 0 0 0 0] (.box (aT m (a+1) ae (b+1) af)::T) (.x (.h (a+1) ae s r)) (.box (aT m (a+1) ae (b+1) af)::T):=by
 obtain⟨L,h⟩:=h;have n0:=λ aS=>kZ av aS
 have ya:=λ aS=>kZ ba aS
 have dj:=Q2 (m:=m) (ae:=ae) (af:=af) j I av ba cS;have oy:bt [0,a+1,b+1] (a+1)=some 1:=by simp[bt]
 have qV:bt [0,a+1,b+1] (b+1)=some 2:=by simp[bt,a' cS]
 have kk:bt [0,a+1,b+1] 0=some 0:=rfl;have ao:=jN (bt [0,a+1,b+1]) m (a+1) ae (b+1) af 1 2 oy qV;have aH:=jN (df [0,a+1,b+1] (T.length+1) []) m 1 ae 2 af (a+1) (b+1) rfl rfl;have bN:∀n,df [0,a+1,b+1] n [] 1=some (a+1):=λ n=>rfl
 have An:reach (.box (aT m 1 ae 2 af)::X::Y::L) 64 [1,1,2] []=[1,2]:=by simp[reach,av,ba]
 have s1:=x6 j;have s2:=x6 I;unfold cn dd;simp only[eV,he,bx,bc,c8,dj];simp[cx,co,kk,j,I,iu,n0,ya,ao,h,kb,bH,bc,cN.c,cN.to,av,ba,An,aH,bN,ea,s1,s2]
def aJ0{m:M}{ae af aD aG n:Nat}{x y:List bT}{r:Nat}{bP:List (List aC)}(ah:m.aF.r=r)(aN:r<m.h)(ak:r<x.length)(aE:bP.length=n):∃L,b3 E 94 [.ptr 0 0 0 0,.ref 3 0 0 n,.i (.v (.int .i64 (0)))] [.box (aT m 1 ae 2 af),.az 5 ae aD x,.az 5 af aG y,.sl 5 0 bP false]=some (.bd [],.box (aT m 1 ae 2 af)::.az 5 ae (aD+1) (x.set r (.own bP))::.az 5 af aG y::.gone::L):=by subst aE;rw[bo ac0];simp(disch:=omega)only[ar,simprocAttr,aEg,dM,bQ,bV,bH,ah,ne_eq];exact⟨_,rfl⟩
def af'{m:M}{a ae b af aD aG n c:Nat}{x y:List bT}{r:Nat}{bP:List (List aC)}{T:aa}(ah:m.aF.r=r)(aN:r<m.h)(ak:r<x.length)(aE:bP.length=n)
  (j:T[a]?=some (.az 5 ae aD x))(I:T[b]?=some (.az 5 af aG y))(ag:T[c]?=some (.sl 5 0 bP false))(cS:a≠b):
  cn 94 [.ptr 0 0 0 0,.ref (c+1) 0 0 n,↑(0:Int)] (.box (aT m (a+1) ae (b+1) af)::T) (.bd []) (.box (aT m (a+1) ae (b+1) af)::(T.set a (.az 5 ae (aD+1) (x.set r (.own bP)))).set c .gone):=by
 obtain⟨L,h⟩:=aJ0 (ae:=ae) (af:=af) (aD:=aD) (aG:=aG) (y:=y) ah aN ak aE;have aga:a≠c:=λ e=>by subst e;rw[j]at ag;cases ag
 have agb:b≠c:=λ e=>by subst e;rw[I]at ag;cases ag
 have bG:=e'.2 (bF.1 j).1;have bC:=e'.2 (bF.1 I).1;have cE:=e'.2 (bF.1 ag).1;have dj:reach (.box (aT m (a+1) ae (b+1) af)::T) 64 [0,c+1] []=[0,a+1,b+1,c+1]:=by simp[reach,kb,bH,j,I,ag,bG,bC,cE,a' cS,a' aga,a' agb,Chunk.refs]
 have kk:bt [0,a+1,b+1,c+1] 0=some 0:=rfl;have oy:bt [0,a+1,b+1,c+1] (a+1)=some 1:=by simp[bt]
 have qV:bt [0,a+1,b+1,c+1] (b+1)=some 2:=by simp[bt,a' cS]
 have yh:bt [0,a+1,b+1,c+1] (c+1)=some 3:=by simp[bt,a' aga,a' agb]
 have ao:=jN (bt [0,a+1,b+1,c+1]) m (a+1) ae (b+1) af 1 2 oy qV;have aH:=jN (df [0,a+1,b+1,c+1] (T.length+1) []) m 1 ae 2 af (a+1) (b+1) rfl rfl;have An:reach (.box (aT m 1 ae 2 af)::.az 5 ae (aD+1) (x.set r (.own bP))::.az 5 af aG y::.gone::L) 64 [1,2] []=[1,2]:=by simp[reach,Chunk.refs]
 have s2:((T.set a (.az 5 ae (aD+1) (x.set r (.own bP)))).set b (.az 5 af aG y))=T.set a (.az 5 ae (aD+1) (x.set r (.own bP))):=x6 (by rw[dw cS];exact I);unfold cn dd;simp only[eV,show E.ext 94=none from rfl,bx,bc,c8,cj,dj];simp[cx,co,kk,yh,j,I,ag,iu,Chunk.cI,ao,h,kb,bH,bc,Chunk.refs,show bx []=[]from rfl,An,aH,ea,s2]
def agc(g:List (List bl))(r:Nat)(y:bT)(n:List bl):((aX g).set r y).set r (.own (cg n))=aX (g.set r n):=by rw[uY,K1]
def Dk{T:aa}{k a:Nat}{y:Chunk}(h:∀x:Chunk,T[k]?=some x→x.refs=[])(aY:y.refs=[]):∀x:Chunk,(T.set a y)[k]?=some x→x.refs=[]:=by
 intro x ak;rw[List.getElem?_set]at ak;split at ak
 ·split at ak
  ·cases ak;exact aY
  ·cases ak
 ·exact h x ak
def agd{T W:aa}{k:Nat}(ay:k<T.length)(h:∀x:Chunk,T[k]?=some x→x.refs=[]):∀x:Chunk,(T++W)[k]?=some x→x.refs=[]:=by intro x ak;rw[ei ay]at ak;exact h x ak
def age{m:M}{a ae b af:Nat}{T:aa}(ax:hh 1 m (a+1) ae (b+1) af T)(ag:0≤m.aF.r∧m.aF.r<m.h)(k3:m.G.length=m.h):
  ∃aD row,m.G[m.aF.r.toNat]?=some row∧(.box (aT m (a+1) ae (b+1) af)::T)[a+1]?=some (.az 5 ae aD (aX m.G))∧T[a]?=some (.az 5 ae aD (aX m.G))∧(aX m.G)[m.aF.r.toNat]?=some (.own (cg row))∧
   cn 96 [.ptr 0 0 0 0] (.box (aT m (a+1) ae (b+1) af)::T) (.x (.h (a+1) ae aD m.aF.r.toNat)) (.box (aT m (a+1) ae (b+1) af)::T)∧
   ∀new:List bl,∃gQ,cn 94 [.ptr 0 0 0 0,.ref (T.length+1) 0 0 new.length,↑(0:Int)] (.box (aT m (a+1) ae (b+1) af)::(T.set a (.az 5 ae aD ((aX m.G).set m.aF.r.toNat (.dK (.sl 5 (cg row) false))))++[.sl 5 0 (cg new) false])) (.bd []) (.box (aT m (a+1) ae (b+1) af)::gQ)∧hh 1 {m with G:=m.G.set m.aF.r.toNat new} (a+1) ae (b+1) af gQ:=by
 obtain⟨bW,bR,aD,aG,At,Au,aA,aj,cS,al,aW,j⟩:=ax;obtain rfl:a=bW:=R;obtain rfl:b=bR:=R;obtain⟨r,ah⟩:=jb ag.1;have wc:m.aF.r.toNat=r:=by rw[ah];rfl
 have Dl:r<m.h:=R;have bX:m.G[r]?=some m.G[r]:=eX R;have px:=QU (g:=m.G) (k:=r) R;have Dm:=(bF.1 aA).1;have Gw:=(bF.1 aj).1;rw[wc];refine⟨aD,m.G[r],bX,aA,aA,px,af_ rfl (af9 ah Dl px) aA aj rfl rfl cS,λ new=>?_⟩;have cm:(T.set a (.az 5 ae aD ((aX m.G).set r (.dK (.sl 5 (cg m.G[r]) false))))++[.sl 5 0 (cg new) false])[a]?=some (.az 5 ae aD ((aX m.G).set r (.dK (.sl 5 (cg m.G[r]) false)))):=by rw[ei (by simp;exact Dm),kl Dm]
 have cy:(T.set a (.az 5 ae aD ((aX m.G).set r (.dK (.sl 5 (cg m.G[r]) false))))++[.sl 5 0 (cg new) false])[b]?=some (.az 5 af aG (aX m.O)):=by rw[ei (by simp;exact Gw),dw cS,aj]
 have fc:(T.set a (.az 5 ae aD ((aX m.G).set r (.dK (.sl 5 (cg m.G[r]) false))))++[.sl 5 0 (cg new) false])[T.length]?=some (.sl 5 0 (cg new) false):=by rw[hd (by simp)];simp
 have e:=af' (n:=new.length) (c:=T.length) ah Dl (by rw[jC,gy];omega) (fq new) cm cy fc cS;rw[agc]at e;refine⟨_,e,a,b,aD+1,aG,rfl,rfl,?_,?_,cS,?_,?_,?_⟩
 ·rw[dw R,kl (by simp;omega)]
 ·rw[dw R,dw cS,cy]
 ·simp;omega
 ·exact Dk (Dk (agd (by simp;omega) (Dk aW rfl)) rfl) rfl
 ·exact Dk (Dk (agd (by simp;omega) (Dk j rfl)) rfl) rfl
def Lb{m:M}(ag:0≤m.aF.r∧m.aF.r<m.h)(k3:m.G.length=m.h):
  ∃row r,m.aF.r.toNat=r∧m.aF.r=(r:Int)∧r<m.h∧m.G[r]?=some row∧(aX m.G)[r]?=some (.own (cg row))∧
   (∀ae af aD aG,cv 96 [.ptr 0 0 0 0] [.box (aT m 1 ae 2 af),.az 5 ae aD (aX m.G),.az 5 af aG (aX m.O)] (.x (.h 1 ae aD r)))∧
   ∀(new:List bl) (n:Nat),new.length=n→∀ae af aD aG,cn 94 [.ptr 0 0 0 0,.ref 3 0 0 n,↑(0:Int)] [.box (aT m 1 ae 2 af),.az 5 ae aD ((aX m.G).set r (.dK (.sl 5 (cg row) false))),.az 5 af aG (aX m.O),.sl 5 0 (cg new) false] (.bd []) [.box (aT m 1 ae 2 af),.az 5 ae (aD+1) (aX (m.G.set r new)),.az 5 af aG (aX m.O),.gone]:=by
 obtain⟨r,ah⟩:=jb ag.1;have Dl:r<m.h:=R;have px:=QU (g:=m.G) (k:=r) R;refine⟨m.G[r],r,by rw[ah];rfl,ah,Dl,eX R,px,λ ae af aD aG=>?_,λ new n aE ae af aD aG=>?_⟩
 ·exact af_ (a:=0) (b:=1) (T:=[.az 5 ae aD (aX m.G),.az 5 af aG (aX m.O)]) rfl (af9 ah Dl px) rfl rfl rfl rfl (by decide)
 ·have e:=af' (a:=0) (b:=1) (c:=2) (ae:=ae) (af:=af) (n:=n) (T:=[.az 5 ae aD ((aX m.G).set r (.dK (.sl 5 (cg m.G[r]) false))),.az 5 af aG (aX m.O),.sl 5 0 (cg new) false]) ah Dl (by rw[jC,gy];omega) (by rw[fq];exact aE) rfl rfl rfl (by decide);rw[agc]at e;exact e
def fs(m:M):List bl:=m.G.getD m.aF.r.toNat []
def yi(m:M)(p q:Nat):M:={m with aF:={m.aF with p:=false},G:=m.G.set m.aF.r.toNat (pD (fs m) p q m.a)}
def Lc{m:M}(hm:bi m)(p q:Nat)(lx:p≤q)(bm:q≤m.w):hi 181 [.i (.v (.int .i64 (p))),.i (.v (.int .i64 (q)))] m (.bd []) (yi m p q):=by
 intro ae aD af aG;obtain⟨row,r,j,I,av,ba,bs,ao,aH⟩:=Lb (m:={m with aF:={m.aF with p:=false}}) hm.aF.1 hm.G.1;have bX:=hm.G.2 row (kn ba);have hw:=hm.w;have bN:=λ H=>aHL (l:=row) R R bX.2 p q lx R m.a H
 rw[bX.1]at bN;have c':=aH (pD row p q m.a) m.w (by rw[QY lx R];exact bX.1);unfold yi fs;simp only at j I av ba bs ao c';rw[j,oF,ba,i1];have al:=fq row;have hK:=gy m.G;rw[bo adO];simp(disch:=omega)only[ar,simprocAttr,aEY,cV,bQ,bV,bH,bs,ao,bN,c'];exact⟨_,rfl,⟨_,_,_,_,_,rfl,ny (a:=0) (b:=1) rfl rfl (by decide) rfl rfl⟩⟩
def dZ.three{m:M}{ae af aD aG:Nat}{T:aa}:dZ m (.box (aT m 1 ae 2 af)::.az 5 ae aD (aX m.G)::.az 5 af aG (aX m.O)::T):=dZ.dC
def aJ1{w:Nat}{g:List (List bl)}(h:lv w g){new:List bl}(aE:new.length=w∧hv new=true)(r:Nat):lv w (g.set r new):=by
 intro l al;rcases List.mem_or_eq_of_mem_set al with j|rfl
 ·exact h l j
 ·exact aE
def bi.Ld{m:M}(h:bi m){G:List (List bl)}(k3:G.length=m.h∧lv m.w G):bi {m with G:=G}:=
 {w:=h.w,h:=h.h,G:=k3,O:=h.O,aF:=h.aF,bO:=h.bO,a:=h.a,aD:=h.aD,cY:=h.cY,cD:=h.cD,back:=h.back,bK:=h.bK,hM:=h.hM,eK:=h.eK,ds:=h.ds}
def bi.kk{m:M}(h:bi m):bi {m with aF:={m.aF with p:=false}}:=h.jO ⟨h.aF.1,h.aF.2.1,by simp⟩
def bi.row{m:M}(h:bi m):(fs m).length=m.w∧hv (fs m)=true:=by have j:=h.aF.1;have I:=h.G.1;rw[fs,oF,eX R,i1];exact h.G.2 _ (mL _)
def bi.uu{m:M}(h:bi m){new:List bl}(aE:new.length=m.w∧hv new=true)(r:Nat):bi {m with G:=m.G.set r new}:=h.Ld ⟨by rw[jC];exact h.G.1,aJ1 h.G.2 aE r⟩
def bi.we{m:M}(h:bi m){p q:Nat}(lx:p≤q)(bm:q≤m.w):bi (yi m p q):=by have j:=h.row;exact h.kk.uu ⟨by rw[QY lx R];exact j.1,((yf.1 j.2).pD lx h.a).p⟩ _
def sp(m:M)(ins:Bool)(n:Nat):M:={m with aF:={m.aF with p:=false},G:=m.G.set m.aF.r.toNat (if ins=true then mz (fs m) m.aF.c.toNat n m.a else oS (fs m) m.aF.c.toNat n m.a)}
def bi.Gx{m:M}(h:bi m){ins:Bool}{n:Nat}(aE:1≤n):bi (sp m ins n):=by
 have j:=h.row;have I:=h.aF.2.1;have ag:m.aF.c.toNat<(fs m).length:=R;refine h.kk.uu ?_ _;cases ins with
 |true=>exact⟨by rw[if_pos rfl,mz,KW,Ge ag];exact j.1,by rw[if_pos rfl];exact((yf.1 j.2).mz _ _ h.a).p⟩
 |false=>exact⟨by rw[if_neg (by simp),QX ag];exact j.1,by rw[if_neg (by simp)];exact((yf.1 j.2).oS ag aE h.a).p⟩
def aJ2{m:M}(hm:bi m)(n:Nat)(aE:1≤n∧n<1000000):hi 164 [.aQ (.func 95) [] [],.i (.v (.int .i64 (n)))] m (.bd []) (sp m true n):=by
 intro ae aD af aG;obtain⟨row,r,j,I,av,ba,bs,ao,aH⟩:=Lb (m:={m with aF:={m.aF with p:=false}}) hm.aF.1 hm.G.1;have bX:=hm.G.2 row (kn ba);have hw:=hm.w;have ag:=hm.aF.2.1;obtain⟨c,e3⟩:=jb ag.1;have bN:=λ H=>afl (l:=row) R bX.2 c n R aE.1 aE.2 m.a H
 rw[bX.1,←e3]at bN;have c':=aH (mz row c n m.a) m.w (by rw[mz,KW,Ge R];exact bX.1);unfold sp fs;simp only at j I av ba bs ao c';rw[j,oF,ba,i1,e3,nV];have al:=fq row;have hK:=gy m.G;rw[bo PW];simp(disch:=omega)only[ar,simprocAttr,adB,cV,bQ,bV,bH,abJ,bs,ao,bN,c'];exact⟨_,rfl,dZ.three⟩
def aJ3{m:M}(hm:bi m)(n:Nat)(aE:1≤n∧n<1000000):hi 164 [.aQ (.func 166) [] [],.i (.v (.int .i64 (n)))] m (.bd []) (sp m false n):=by
 intro ae aD af aG;obtain⟨row,r,j,I,av,ba,bs,ao,aH⟩:=Lb (m:={m with aF:={m.aF with p:=false}}) hm.aF.1 hm.G.1;have bX:=hm.G.2 row (kn ba);have hw:=hm.w;have ag:=hm.aF.2.1;obtain⟨c,e3⟩:=jb ag.1;have bN:=λ H=>aHK (l:=row) R bX.2 c n R aE.1 aE.2 m.a H
 rw[bX.1,←e3]at bN;have c':=aH (oS row c n m.a) m.w (by rw[QX R];exact bX.1);unfold sp fs;simp only at j I av ba bs ao c';rw[j,oF,ba,i1,e3,nV];have al:=fq row;have hK:=gy m.G;rw[bo PW];simp(disch:=omega)only[ar,simprocAttr,adB,cV,bQ,bV,bH,aBO,bs,ao,bN,c'];exact⟨_,rfl,dZ.three⟩
def tf(m:M)(n:Int):M:=if n=0 then yi m m.aF.c.toNat m.w else if n=1 then yi m 0 (m.aF.c.toNat+1)else if n=2 then yi m 0 m.w else m
def bi.era{m:M}(h:bi m){n:Int}:bi (tf m n):=by
 have ag:=h.aF.2.1;unfold tf;split
 ·exact h.we R (cL _)
 ·split
  ·exact h.we R R
  ·split
   ·exact h.we R (cL _)
   ·exact h
def agf{m:M}(hm:bi m)(n:Int):hi 176 [.i (.v (.int .i64 (n)))] m (.bd []) (tf m n):=by
 intro ae aD af aG;have ag:=hm.aF.2.1;obtain⟨c,e3⟩:=jb ag.1;have hw:=hm.w;unfold tf;by_cases aW:n=0
 ·obtain⟨H1,ao,fe⟩:=l3 (f:=181) rfl rfl rfl (Lc hm c m.w R (cL _)) (hX.dC (m:=m) (ae:=ae) (af:=af) (aD:=aD) (aG:=aG) (T:=[]));subst aW;rw[if_pos rfl,e3,nV];rw[←e3]at ao;rw[bo F2];simp(disch:=omega)only[ar,simprocAttr,Kd,bQ,bV,bH,ao];exact⟨_,rfl,fe.iN⟩
 ·rw[if_neg aW];by_cases j:n=1
  ·obtain⟨H1,ao,fe⟩:=l3 (f:=181) rfl rfl rfl (Lc hm 0 (c+1) R R) (hX.dC (m:=m) (ae:=ae) (af:=af) (aD:=aD) (aG:=aG) (T:=[]));subst j;rw[if_pos rfl,e3,nV];simp only[gZ,C8,KO]at ao;rw[←e3]at ao;rw[bo F2];simp(disch:=omega)only[ar,simprocAttr,Kd,bQ,bV,bH,ao];exact⟨_,rfl,fe.iN⟩
  ·rw[if_neg j];by_cases I:n=2
   ·obtain⟨H1,ao,fe⟩:=l3 (f:=181) rfl rfl rfl (Lc hm 0 m.w R R) (hX.dC (m:=m) (ae:=ae) (af:=af) (aD:=aD) (aG:=aG) (T:=[]));subst I;rw[if_pos rfl];simp only[gZ]at ao;rw[bo F2];simp(disch:=omega)only[ar,simprocAttr,Kd,bQ,bV,bH,ao];exact⟨_,rfl,fe.iN⟩
   ·rw[if_neg I];rw[bo F2];simp(disch:=omega)only[ar,simprocAttr,Kd,bQ,bV,bH];exact⟨_,rfl,dZ.dC⟩
def Av(m:M)(p q:Nat):M:={m with G:=h' m.w m.a.a7 p q m.G}
def aJ4{w:Nat}{a:ed}(aA:h_ a=true){p q:Nat}{g:List (List bl)}(h:lv w g):lv w (h' w a.a7 p q g):=by
 intro r ah;simp only[h',fS,Ra]at ah;rcases ah with j|⟨_,rfl⟩|j
 ·exact h r (Di j)
 ·exact Q' aA
 ·exact h r (ur j)
def bi.rows{m:M}(h:bi m){p q:Nat}(lx:p≤q)(bm:q≤m.h):bi (Av m p q):=h.Ld ⟨by rw[QT lx (by rw[h.G.1];exact bm)];exact h.G.1,aJ4 h.a h.G.2⟩
def Rb{m:M}(hm:bi m)(p q:Nat)(lx:p≤q)(bm:q≤m.h):hi 212 [.i (.v (.int .i64 (p))),.i (.v (.int .i64 (q)))] m (.bd []) (Av m p q):=by
 intro ae aD af aG;have ao:=λ H=>aHE m.w m.h hm.w hm.h m.G hm.G.1 hm.G.2 m.a p q lx bm H
 have j0:=Db m.G;have kq:=Da m.G;have aJQ:(b2 m.G).length=m.h:=by rw[gx,hm.G.1]
 have aJR:(aX m.G).length=m.h:=by rw[gy,hm.G.1]
 unfold Av;generalize h' m.w m.a.a7 p q m.G=Gr at*;have fin:∀{bZ:M} {ae af aD aG:Nat} {z y:Chunk} {T:aa},bZ.O=m.O→bZ.G=Gr→z.refs=[]→dZ bZ (.box (aT bZ 4 ae 2 af)::z::.az 5 af aG (aX m.O)::y::.az 5 ae aD (aX Gr)::T):=λ{bZ ae af aD aG z y T} ao aH bf=>⟨_,_,_,_,_,rfl,ny (a:=3) (b:=1) (by rw[aH];rfl) (by rw[ao];rfl) (by decide) bf rfl⟩
 have ah:((lF 4 1).all λ c=>!(c==3||c==1000003))=true:=rfl;generalize m.G.map (λ r=>aC.sl 5 (cg r) false)=aJU at*;rw[bo ad6];simp(disch:=omega)only[ar,simprocAttr,aFd,bQ,bV,bH,ah,ao,j0,kq];refine⟨_,rfl,?_⟩;exact fin rfl rfl rfl
def uv(m:M)(n:Int):M:=if n=0 then Av m (m.aF.r.toNat+1) m.h else if n=1 then Av m 0 m.aF.r.toNat else if n=2 then Av m 0 m.h else if n=3 then{m with gl:=true,back:=[]}else m
def yj(m:M)(n:Int):M:=tf (uv m n) n
def bi.aJ5{m:M}(h:bi m):bi {m with gl:=true,back:=[]}:=
 {w:=h.w,h:=h.h,G:=h.G,O:=h.O,aF:=h.aF,bO:=h.bO,a:=h.a,aD:=h.aD,cY:=h.cY,cD:=h.cD,back:=⟨by simp,by simp⟩,bK:=h.bK,hM:=h.hM,eK:=h.eK,ds:=h.ds}
def bi.uv{m:M}(h:bi m){n:Int}:bi (uv m n):=by
 have ag:=h.aF.1;unfold Go.VI.uv;split
 ·exact h.rows R (cL _)
 ·split
  ·exact h.rows R R
  ·split
   ·exact h.rows R (cL _)
   ·split
    ·exact h.aJ5
    ·exact h
def bi.aJ6{m:M}(h:bi m){n:Int}:bi (yj m n):=h.uv.era
def aJ7{m:M}(hm:bi m)(n:Int):hi 175 [.i (.v (.int .i64 (n)))] m (.bd []) (yj m n):=by
 intro ae aD af aG;have ag:=hm.aF.1;obtain⟨c,e3⟩:=jb ag.1;have aN:=hm.h;have he:=agf (hm.uv (n:=n)) n;unfold yj;unfold uv at he⊢;by_cases aW:n=0
 ·subst aW;rw[if_pos rfl]at he⊢;obtain⟨H1,ao,fe⟩:=l3 (f:=212) rfl rfl rfl (Rb hm (m.aF.r.toNat+1) m.h R R) (hX.dC (m:=m) (ae:=ae) (af:=af) (aD:=aD) (aG:=aG) (T:=[]));obtain⟨bu,aH,dz⟩:=l3 (f:=176) rfl rfl rfl he fe;rw[e3,nV]at ao;simp only[gZ,C8,KO]at ao;rw[←e3]at ao;rw[bo CM];simp(disch:=omega)only[ar,simprocAttr,F1,bQ,bV,bH,ao,aH];exact⟨_,rfl,dz.iN⟩
 ·rw[if_neg aW]at he⊢;by_cases j:n=1
  ·subst j;rw[if_pos rfl]at he⊢;obtain⟨H1,ao,fe⟩:=l3 (f:=212) rfl rfl rfl (Rb hm 0 m.aF.r.toNat R R) (hX.dC (m:=m) (ae:=ae) (af:=af) (aD:=aD) (aG:=aG) (T:=[]));obtain⟨bu,aH,dz⟩:=l3 (f:=176) rfl rfl rfl he fe;rw[show((m.aF.r.toNat:Nat):Int)=m.aF.r by omega]at ao;simp only[gZ]at ao;rw[bo CM];simp(disch:=omega)only[ar,simprocAttr,F1,bQ,bV,bH,ao,aH];exact⟨_,rfl,dz.iN⟩
  ·rw[if_neg j]at he⊢;by_cases I:n=2
   ·subst I;rw[if_pos rfl]at he⊢;obtain⟨H1,ao,fe⟩:=l3 (f:=212) rfl rfl rfl (Rb hm 0 m.h R R) (hX.dC (m:=m) (ae:=ae) (af:=af) (aD:=aD) (aG:=aG) (T:=[]));obtain⟨bu,aH,dz⟩:=l3 (f:=176) rfl rfl rfl he fe;simp only[gZ]at ao;rw[bo CM];simp(disch:=omega)only[ar,simprocAttr,F1,bQ,bV,bH,ao,aH];exact⟨_,rfl,dz.iN⟩
   ·rw[if_neg I]at he⊢;by_cases av:n=3
    ·subst av;rw[if_pos rfl]at he⊢;obtain⟨bu,aH,dz⟩:=l3 (f:=176) rfl rfl rfl he (hX.dC (m:={m with gl:=true,back:=[]}) (ae:=ae) (af:=af) (aD:=aD) (aG:=aG) (T:=[]));rw[bo CM];simp(disch:=omega)only[ar,simprocAttr,F1,bQ,bV,bH,aH];exact⟨_,rfl,dz.iN⟩
    ·rw[if_neg av]at he⊢;obtain⟨bu,aH,dz⟩:=l3 (f:=176) rfl rfl rfl he (hX.dC (m:=m) (ae:=ae) (af:=af) (aD:=aD) (aG:=aG) (T:=[]));rw[bo CM];simp(disch:=omega)only[ar,simprocAttr,F1,bQ,bV,bH,aH];exact⟨_,rfl,dz.iN⟩
def aJ8(x:Int)(aW:0≤x)(j:x≤9999)(a:List UInt8)(n:Nat)(aE:n=a.length)(al:n<1000000)(g:Nat)(T:aa):
  cn 196 [.ref 0 g 0 n,x,↑(10:Int)] (.sl 1 g (dJ a) false::T) (.ref 0 (g+1) 0 (n+(jL x).length)) (.sl 1 (g+1) (dJ (a++jL x)) false::T):=
 aF6 x aW R aE al rfl
def fmtG:Bool→List Int→List UInt8
 |_,[]=>[]
 |true,n::l=>jL n++fmtG false l
 |false,n::l=>59::(jL n++fmtG false l)
def agh(a:List UInt8):dJ a++[[.v (.int .u8 59)]]=dJ (a++[59]):=aF0 a 59 59 rfl
theorem Le(s:List UInt8)(l:List Int)(al:l.length<1000)(Rc:∀n∈l,n≤9999)(k:Nat)(ay:k≤l.length)(out:List UInt8)(b9:out.length≤21*k+1):
  hV qe 0 [(2,.i (.str s)),(8,.ref 0 0 0 out.length),(45,.i (.sl 1 (b1 l) false)),(46,l.length),(47,k)] [.sl 1 0 (dJ out) false] 1 [(2,.i (.str s)),(8,.ref 0 0 0 (out++fmtG (decide (k=0)) (l.drop k)).length),(45,.i (.sl 1 (b1 l) false)),(46,.i (.v (.int .i64 l.length))),(47,.i (.v (.int .i64 l.length))),(48,.i (.v (.bool false)))] [.sl 1 0 (dJ (out++fmtG (decide (k=0)) (l.drop k))) false]:=by
 refine(cM qe 0).trans ?_;by_cases be:k<l.length
 ·have bX:=Ac be;have gp:l[k]≤9999:=Rc _ (mL be);have mP:(jL l[k]).length≤20:=Qv _ R;have hp:¬0≤l[k]→jL l[k]=[]:=λ h=>by rw[jL,if_neg h]
  have tT:=aJ8 l[k];by_cases aW:k=0
  ·have a8:=Le s l al Rc (k+1) be (out++jL l[k]) (by rw[dp];omega);rw[show decide (k+1=0)=false by simp,dU]at a8;rw[jq be,show decide (k=0)=true by simpa using aW,fmtG,←a8];clear a8;generalize l[k]=n at*;by_cases aE:0≤n
   ·have tT:=tT aE gp;simp(disch:=first|omega|(simp only[ec,ck,dY];omega))only[ar,simprocAttr,kW,de,bA,bX,aE,tT,ck,dY,lp]
   ·rw[hp aE,c8];simp(disch:=first|omega|(simp only[ec,ck,dY];omega))only[ar,simprocAttr,kW,de,bA,bX,aE,ck,dY,lp]
  ·have a8:=Le s l al Rc (k+1) be (out++([59]++jL l[k])) (by simp only[dp,cU];omega);rw[show decide (k+1=0)=false by simp,dU,dU]at a8;rw[jq be,show decide (k=0)=false by simpa using aW,fmtG];have Rd:=a8;simp only[cj]at Rd;rw[←Rd];clear a8 Rd;have K3:0<k:=R;generalize l[k]=n at*;by_cases aE:0≤n
   ·have tT:=tT aE gp (out++[59]) (out.length+1) (by simp) R;have ao:out.length+((jL n).length+1)=out.length+1+(jL n).length:=R;simp(disch:=first|omega|(simp only[ec,ck,dY];omega))only[ar,simprocAttr,kW,de,bA,bX,K3,aE,tT,agh,ck,dY,dU,lp];rw[ao]
   ·rw[hp aE];simp(disch:=first|omega|(simp only[ec,ck,dY];omega))only[ar,simprocAttr,kW,de,bA,bX,K3,aE,agh,ck,dY,dU,lp]
 ·obtain rfl:k=l.length:=R;rw[mR];simp only[fmtG,c8];simp(disch:=first|omega|(simp only[ec];omega))only[ar,simprocAttr,kW,de,bA]
termination_by l.length-k
def oV(p:Int)(l:List Int)(s:List UInt8):List UInt8×Int:=
 if(p≠0∧qf p=false)∨uj s=false∨l=[-1]then([],1)else if l.any my then([],1)else if j8 l s=false then([],5)else
  ((if p=0 then[]else[hI p.toNat])++fmtG true l++s,0)
def pF(r:List UInt8×Int):U:=.bd [.i (.str r.1),.i (.v (.int .i64 r.2))]
def Gy(l:List Int)(b:Bool)(gp:∀n∈l,n≤9999):(fmtG b l).length≤21*l.length:=by
 induction l generalizing b with
 |nil=>cases b<;>simp[fmtG]
 |cons n l a8=>
  have:=a8 false λ n aE=>gp n (xe _ aE)
  have mP:=Qv n (by have:=gp n (Lf ..);omega);cases b<;>simp only[fmtG,cQ,dp]<;>omega
def aJ9{p:Int}(h:0≤p∧p<256):((hI p.toNat).toNat:Int)=p:=by have:p.toNat<256:=R;rw[Qx];have:p.toNat%2^8=p.toNat:=CU R;omega
def yk{l:List Int}{s:List UInt8}(h:j8 l s=true):∀n∈l,n≤9999:=by intro n aE;simp only[j8,cR,qW]at h;have:=Qk.1 h.2 n aE;simpa[oO]using this
def Dn{l:List Int}{s:List UInt8}(h:j8 l s=true):l.length≤16∧s.length≤2:=by simp only[j8,cR,decide_eq_true_eq]at h;exact h.1
def aJ_(p:Int)(au:0≤p∧p<256)(l:List Int)(s:List UInt8)(al:(l.length:Int)<9223372036854775808)(aR:(s.length:Int)<9223372036854775808):
  gv 130 [.i (.v (.int .u8 p)),.i (.sl 1 (b1 l) false),.i (.str s)] (pF (oV p l s)):=by
 have hD:0<l.length→(b1 l)[0]?=some [.v (.int .i64 (l.headD 0))]:=λ h=>by cases l with|nil=>cases h|cons a l=>rfl
 unfold oV;cases bp:uj s with
 |false=>
  by_cases aW:p=0
  ·refine bz qe ?_;rw[if_pos (.inr (.inl rfl))];unfold pF;simp(disch:=omega)only[ar,simprocAttr,kW,de,bA,hD,mu,lY,lZ,nv,mr,ck,dY,mx,lX,l0,bp,aW,lp];exact⟨_,rfl⟩
  ·cases bh:qf p with
   |true=>refine bz qe ?_;rw[if_pos (.inr (.inl rfl))];unfold pF;simp(disch:=omega)only[ar,simprocAttr,kW,de,bA,hD,mu,lY,lZ,nv,mr,ck,dY,mx,lX,l0,bp,aW,bh,lp];exact⟨_,rfl⟩
   |false=>refine bz qe ?_;rw[if_pos (.inr (.inl rfl))];unfold pF;simp(disch:=omega)only[ar,simprocAttr,kW,de,bA,hD,mu,lY,lZ,nv,mr,ck,dY,mx,lX,l0,bp,aW,bh,lp];exact⟨_,rfl⟩
 |true=>
  obtain⟨b,rfl⟩:∃b:UInt8,p=b.toNat:=⟨hI p.toNat,(aJ9 au).symm⟩;have aj:hI ((b.toNat:Int)).toNat=b:=by simp
  rw[aj];by_cases aW:(b.toNat:Int)=0
  ·have rr:j8 l s=true→ej E 0 130 (fg Tryz.f130 0) [(2,.i (.str s)),(8,.ref 0 0 0 0),(45,.i (.sl 1 (b1 l) false)),(46,.i (.v (.int .i64 l.length))),(47,.i (.v (.int .i64 0)))] [.sl 1 0 [] false]=
     some (.exit 1,[(2,.i (.str s)),(8,.ref 0 0 0 ([]++fmtG true l).length),(45,.i (.sl 1 (b1 l) false)),(46,.i (.v (.int .i64 l.length))),(47,.i (.v (.int .i64 l.length))),(48,.i (.v (.bool false)))],[.sl 1 0 (dJ ([]++fmtG true l)) false]):=
    λ h=>Le s l (by have:=Dn h;omega) (yk h) 0 (jp _) [] (by simp)
   rw[show(if(b.toNat:Int)=0 then([]:List UInt8)else[b])=[]from if_pos aW];have bf:=aW;generalize (b.toNat:Int)=p at*;subst aW;have aW:=trivial;by_cases j:l.length=1
   ·obtain⟨n,wg⟩:∃n,l=[n]:=VM.1 j;have hD:(b1 l)[0]?=some [.v (.int .i64 n)]:=by rw[wg];rfl
    by_cases aE:n=-1
    ·subst aE;refine bz qe ?_;rw[if_pos (.inr (.inr wg))];unfold pF;simp(disch:=omega)only[ar,simprocAttr,kW,de,bA,hD,mu,lY,lZ,nv,mr,ck,dY,mx,lX,l0,bp,aW,lp];exact⟨_,rfl⟩
    ·have hQ:l≠[-1]:=λ h=>aE (by rw[wg]at h;simpa using h)
     clear wg;rw[if_neg (by rintro(h|h|h)<;>first|exact absurd rfl h.1|(cases h;done)|exact hQ h|(rw[bh]at h;cases h.2))];unfold pF;refine bz qe ?_;cases pG:l.any my with
   |true=>rw[if_pos rfl];simp(disch:=omega)only[ar,simprocAttr,kW,de,bA,hD,mu,lY,lZ,nv,mr,ck,dY,mx,lX,l0,bp,aW,aE,pG,lp];exact⟨_,rfl⟩
   |false=>
    rw[if_neg (by simp)];cases kB:j8 l s with
    |false=>rw[if_pos rfl];simp(disch:=omega)only[ar,simprocAttr,kW,de,bA,hD,mu,lY,lZ,nv,mr,ck,dY,mx,lX,l0,bp,aW,aE,pG,kB,lp];exact⟨_,rfl⟩
    |true=>
     rw[if_neg (by simp)];have rr:=rr kB;have Re:=Dn kB;have hlen:([]++fmtG true l).length≤21*l.length+1:=by have:=Gy l true (yk kB);simp only[dp,cU];omega
     generalize []++fmtG true l=out at*;simp(disch:=omega)only[ar,simprocAttr,kW,de,bA,hD,mu,lY,lZ,nv,mr,ck,dY,mx,lX,l0,bp,aW,aE,pG,kB,rr,lp];exact⟨_,rfl⟩
   ·have hQ:l≠[-1]:=λ h=>j (by rw[h];rfl)
    have hD:=trivial;have gq:¬(l.length:Int)=1:=by omega
    rw[if_neg (by rintro(h|h|h)<;>first|exact absurd rfl h.1|(cases h;done)|exact hQ h|(rw[bh]at h;cases h.2))];unfold pF;refine bz qe ?_;cases pG:l.any my with
   |true=>rw[if_pos rfl];simp(disch:=omega)only[ar,simprocAttr,kW,de,bA,hD,mu,lY,lZ,nv,mr,ck,dY,mx,lX,l0,bp,aW,gq,pG,lp];exact⟨_,rfl⟩
   |false=>
    rw[if_neg (by simp)];cases kB:j8 l s with
    |false=>rw[if_pos rfl];simp(disch:=omega)only[ar,simprocAttr,kW,de,bA,hD,mu,lY,lZ,nv,mr,ck,dY,mx,lX,l0,bp,aW,gq,pG,kB,lp];exact⟨_,rfl⟩
    |true=>
     rw[if_neg (by simp)];have rr:=rr kB;have Re:=Dn kB;have hlen:([]++fmtG true l).length≤21*l.length+1:=by have:=Gy l true (yk kB);simp only[dp,cU];omega
     generalize []++fmtG true l=out at*;simp(disch:=omega)only[ar,simprocAttr,kW,de,bA,hD,mu,lY,lZ,nv,mr,ck,dY,mx,lX,l0,bp,aW,gq,pG,kB,rr,lp];exact⟨_,rfl⟩
  ·have rr:j8 l s=true→ej E 0 130 (fg Tryz.f130 0) [(2,.i (.str s)),(8,.ref 0 0 0 1),(45,.i (.sl 1 (b1 l) false)),(46,.i (.v (.int .i64 l.length))),(47,.i (.v (.int .i64 0)))] [.sl 1 0 [[.v (.int .u8 b.toNat)]] false]=
     some (.exit 1,[(2,.i (.str s)),(8,.ref 0 0 0 ([b]++fmtG true l).length),(45,.i (.sl 1 (b1 l) false)),(46,.i (.v (.int .i64 l.length))),(47,.i (.v (.int .i64 l.length))),(48,.i (.v (.bool false)))],[.sl 1 0 (dJ ([b]++fmtG true l)) false]):=
    λ h=>Le s l (by have:=Dn h;omega) (yk h) 0 (jp _) [b] (by simp)
   rw[show(if(b.toNat:Int)=0 then([]:List UInt8)else[b])=[b]from if_neg aW];by_cases bh:qf b.toNat=true;rotate_left
   ·rw[F9]at bh;rw[if_pos (.inl ⟨aW,bh⟩)];unfold pF;refine bz qe ?_;simp(disch:=omega)only[ar,simprocAttr,kW,de,bA,hD,mu,lY,lZ,nv,mr,ck,dY,mx,lX,l0,bp,aW,bh,lp];exact⟨_,rfl⟩
   by_cases j:l.length=1
   ·obtain⟨n,wg⟩:∃n,l=[n]:=VM.1 j;have hD:(b1 l)[0]?=some [.v (.int .i64 n)]:=by rw[wg];rfl
    by_cases aE:n=-1
    ·subst aE;refine bz qe ?_;rw[if_pos (.inr (.inr wg))];unfold pF;simp(disch:=omega)only[ar,simprocAttr,kW,de,bA,hD,mu,lY,lZ,nv,mr,ck,dY,mx,lX,l0,bp,aW,bh,lp];exact⟨_,rfl⟩
    ·have hQ:l≠[-1]:=λ h=>aE (by rw[wg]at h;simpa using h)
     clear wg;rw[if_neg (by rintro(h|h|h)<;>first|exact absurd rfl h.1|(cases h;done)|exact hQ h|(rw[bh]at h;cases h.2))];unfold pF;refine bz qe ?_;cases pG:l.any my with
   |true=>rw[if_pos rfl];simp(disch:=omega)only[ar,simprocAttr,kW,de,bA,hD,mu,lY,lZ,nv,mr,ck,dY,mx,lX,l0,bp,aW,bh,aE,pG,lp];exact⟨_,rfl⟩
   |false=>
    rw[if_neg (by simp)];cases kB:j8 l s with
    |false=>rw[if_pos rfl];simp(disch:=omega)only[ar,simprocAttr,kW,de,bA,hD,mu,lY,lZ,nv,mr,ck,dY,mx,lX,l0,bp,aW,bh,aE,pG,kB,lp];exact⟨_,rfl⟩
    |true=>
     rw[if_neg (by simp)];have rr:=rr kB;have Re:=Dn kB;have hlen:([b]++fmtG true l).length≤21*l.length+1:=by have:=Gy l true (yk kB);simp only[dp,cU];omega
     generalize [b]++fmtG true l=out at*;simp(disch:=omega)only[ar,simprocAttr,kW,de,bA,hD,mu,lY,lZ,nv,mr,ck,dY,mx,lX,l0,bp,aW,bh,aE,pG,kB,rr,lp];exact⟨_,rfl⟩
   ·have hQ:l≠[-1]:=λ h=>j (by rw[h];rfl)
    have hD:=trivial;have gq:¬(l.length:Int)=1:=by omega
    rw[if_neg (by rintro(h|h|h)<;>first|exact absurd rfl h.1|(cases h;done)|exact hQ h|(rw[bh]at h;cases h.2))];unfold pF;refine bz qe ?_;cases pG:l.any my with
   |true=>rw[if_pos rfl];simp(disch:=omega)only[ar,simprocAttr,kW,de,bA,hD,mu,lY,lZ,nv,mr,ck,dY,mx,lX,l0,bp,aW,bh,gq,pG,lp];exact⟨_,rfl⟩
   |false=>
    rw[if_neg (by simp)];cases kB:j8 l s with
    |false=>rw[if_pos rfl];simp(disch:=omega)only[ar,simprocAttr,kW,de,bA,hD,mu,lY,lZ,nv,mr,ck,dY,mx,lX,l0,bp,aW,bh,gq,pG,kB,lp];exact⟨_,rfl⟩
    |true=>
     rw[if_neg (by simp)];have rr:=rr kB;have Re:=Dn kB;have hlen:([b]++fmtG true l).length≤21*l.length+1:=by have:=Gy l true (yk kB);simp only[dp,cU];omega
     generalize [b]++fmtG true l=out at*;simp(disch:=omega)only[ar,simprocAttr,kW,de,bA,hD,mu,lY,lZ,nv,mr,ck,dY,mx,lX,l0,bp,aW,bh,gq,pG,kB,rr,lp];exact⟨_,rfl⟩
def aJ'(p:Int)(au:0≤p∧p<256)(l:List Int)(s:List UInt8)(al:(l.length:Int)<9223372036854775808)(aR:(s.length:Int)<9223372036854775808)(H:aa):
 cv 130 [.i (.v (.int .u8 p)),.i (.sl 1 (b1 l) false),.i (.str s)] H (pF (oV p l s)):=gY rfl rfl rfl (aJ_ p au l s al aR)
def bU(l:List Int)(i d:Int):Int:=if i<0 then d else if l.length≤i then d else if l.getD i.toNat 0≤0 then d else l.getD i.toNat 0
def kd(l:List Int)(i d:Int)(al:l.length<100000)(H:aa):cv 155 [.i (.sl 1 (b1 l) false),i,d] H (↑(bU l i d)):=cu (by
 unfold bU;by_cases j:i<0
 ·rw[if_pos j];refine bz F0 ?_;simp(disch:=omega)only[ar,simprocAttr,Ka,bA,ck];exact⟨_,rfl⟩
 ·rw[if_neg j];by_cases I:(l.length:Int)≤i
  ·rw[if_pos I];refine bz F0 ?_;simp(disch:=omega)only[ar,simprocAttr,Ka,bA,ck];exact⟨_,rfl⟩
  ·rw[if_neg I];have be:i.toNat<l.length:=R;have bX:=Ac be;have aP:l.getD i.toNat 0=l[i.toNat]:=by simp[Gz,be]
   rw[aP];generalize l[i.toNat]=n at*;by_cases av:n≤0
   ·rw[if_pos av];refine bz F0 ?_;simp(disch:=omega)only[ar,simprocAttr,Ka,bA,ck,bX];exact⟨_,rfl⟩
   ·rw[if_neg av];refine bz F0 ?_;simp(disch:=omega)only[ar,simprocAttr,Ka,bA,ck,bX];exact⟨_,rfl⟩)
def agi(m:M)(ae af:Nat):cx (bt [0,1,2]) (aT m 1 ae 2 af)=aT m 1 ae 2 af:=rfl
def rs(m:M)(c:Int):M:={m with aF:={m.aF with c:=c,p:=false}}
def nz(f:List Bool→Int→Int):Nat→M→M
 |0,m=>m
 |k+1,m=>nz f k (rs m (f m.cD m.aF.c))
def agj{l:List Bool}(al:1≤l.length)(c:Int):0≤n8 l c∧n8 l c<l.length:=by
 unfold n8;cases h:v' l 0 c with
 |none=>simp only;omega
 |some k=>have:=afE h;simp only;omega
def aKa{l:List Bool}(al:1≤l.length){c:Int}(ag:0≤c∧c<l.length):0≤qj l c∧qj l c<l.length:=by unfold qj;have:=afG l (min l.length (max c 0).toNat);omega
def bi.bb{m:M}(h:bi m){c:Int}(ag:0≤c∧c<m.w):bi (rs m c):=h.jO ⟨h.aF.1,ag,by simp⟩
def aKb(N:Nat)(lk:N≤132)(ae aD af aG:Nat)(x y:List bT):∀(k:Nat) (m:M) (ac:Nat),m.cD.length≤1000→ac+k=N→
  ej E 3 172 (fg Tryz.f172 0) [(0,.ptr 0 0 0 0),(2,.aQ (.func 100) [] []),(13,.i (.v (.int .i64 (N)))),(14,.i (.v (.int .i64 (ac))))] [.box (aT m 1 ae 2 af),.az 5 ae aD x,.az 5 af aG y]=
   some (.exit 0,[(0,.ptr 0 0 0 0),(2,.aQ (.func 100) [] []),(13,.i (.v (.int .i64 (N)))),(14,.i (.v (.int .i64 (N)))),(15,.i (.v (.bool (false))))],[.box (aT (nz n8 k m) 1 ae 2 af),.az 5 ae aD x,.az 5 af aG y]):=by
 intro k;induction k with
 |zero=>
  intro m ac bp a_;obtain rfl:ac=N:=by omega
  rw[cM xS 0];simp(disch:=omega)only[ar,simprocAttr,CK,eO,bQ,bV,bH,CS];rfl
 |succ k a8=>
  intro m ac bp a_;have e:=a8 (rs m (n8 m.cD m.aF.c)) (ac+1) bp R;have ao:=λ H=>afF m.cD m.aF.c bp H
  have aH:=λ c=>K6 (m:=m) (a:=0) (b:=1) (ae:=ae) (af:=af) (T:=[.az 5 ae aD x,.az 5 af aG y]) rfl rfl (by decide) c
  simp only[cp,c1]at aH;refine ga ?_ e;unfold rs;clear e a8;rw[cM xS 0];simp(disch:=omega)only[ar,simprocAttr,CK,eO,bQ,bV,bH,abL,ao,aH,CS];rfl
def aKc(N:Nat)(lk:N≤132)(ae aD af aG:Nat)(x y:List bT):∀(k:Nat) (m:M) (ac:Nat),m.cD.length≤1000→ac+k=N→
  ej E 3 172 (fg Tryz.f172 0) [(0,.ptr 0 0 0 0),(2,.aQ (.func 174) [] []),(13,.i (.v (.int .i64 (N)))),(14,.i (.v (.int .i64 (ac))))] [.box (aT m 1 ae 2 af),.az 5 ae aD x,.az 5 af aG y]=
   some (.exit 0,[(0,.ptr 0 0 0 0),(2,.aQ (.func 174) [] []),(13,.i (.v (.int .i64 (N)))),(14,.i (.v (.int .i64 (N)))),(15,.i (.v (.bool (false))))],[.box (aT (nz qj k m) 1 ae 2 af),.az 5 ae aD x,.az 5 af aG y]):=by
 intro k;induction k with
 |zero=>
  intro m ac bp a_;obtain rfl:ac=N:=by omega
  rw[cM xS 0];simp(disch:=omega)only[ar,simprocAttr,CK,eO,bQ,bV,bH,CS];rfl
 |succ k a8=>
  intro m ac bp a_;have e:=a8 (rs m (qj m.cD m.aF.c)) (ac+1) bp R;have ao:=λ H=>aIm m.cD m.aF.c bp H
  have aH:=λ c=>K6 (m:=m) (a:=0) (b:=1) (ae:=ae) (af:=af) (T:=[.az 5 ae aD x,.az 5 af aG y]) rfl rfl (by decide) c
  simp only[cp,c1]at aH;refine ga ?_ e;unfold rs;clear e a8;rw[cM xS 0];simp(disch:=omega)only[ar,simprocAttr,CK,eO,bQ,bV,bH,aBP,ao,aH,CS];rfl
def bi.agk:∀(k:Nat) {m:M},bi m→bi (nz n8 k m)
 |0,_,h=>h
 |k+1,m,h=>bi.agk k (h.bb (by have j:=h.cD;have I:=h.w;have:=agj (l:=m.cD) R m.aF.c;omega))
def bi.agl:∀(k:Nat) {m:M},bi m→bi (nz qj k m)
 |0,_,h=>h
 |k+1,m,h=>bi.agl k (h.bb (by have j:=h.cD;have I:=h.w;have:=aKa (l:=m.cD) R (c:=m.aF.c) (by have:=h.aF.2.1;omega);omega))
def Rf(f:List Bool→Int→Int):∀(k:Nat) (m:M),(nz f k m).G=m.G∧(nz f k m).O=m.O
 |0,m=>⟨rfl,rfl⟩
 |k+1,m=>Rf f k _
def aKd{m:M}(hm:bi m)(n:Nat)(aE:n<1000000):hi 172 [.i (.v (.int .i64 (n))),.aQ (.func 100) [] []] m (.bd []) (nz n8 (min n m.w) m):=by
 intro ae aD af aG;have hw:=hm.w;have bp:=hm.cD;have al:=aKb (min n m.w) R ae aD af aG (aX m.G) (aX m.O) (min n m.w) m 0 R R;have zh:min (n:Int) (m.w:Int)=((min n m.w:Nat):Int):=by omega
 have qR:=Rf n8 (min n m.w) m;simp only[gZ]at al;generalize min n m.w=N at*;generalize nz n8 N m=bZ at*;rw[bo xS];simp(disch:=first|omega|(simp only[ec];omega))only[ar,simprocAttr,CK,eO,bQ,bV,bH,agi,zh,al,CS];refine⟨_,rfl,?_⟩;rw[←qR.1,←qR.2];exact dZ.dC
def aKe{m:M}(hm:bi m)(n:Nat)(aE:n<1000000):hi 172 [.i (.v (.int .i64 (n))),.aQ (.func 174) [] []] m (.bd []) (nz qj (min n m.w) m):=by
 intro ae aD af aG;have hw:=hm.w;have bp:=hm.cD;have al:=aKc (min n m.w) R ae aD af aG (aX m.G) (aX m.O) (min n m.w) m 0 R R;have zh:min (n:Int) (m.w:Int)=((min n m.w:Nat):Int):=by omega
 have qR:=Rf qj (min n m.w) m;simp only[gZ]at al;generalize min n m.w=N at*;generalize nz qj N m=bZ at*;rw[bo xS];simp(disch:=first|omega|(simp only[ec];omega))only[ar,simprocAttr,CK,eO,bQ,bV,bH,agi,zh,al,CS];refine⟨_,rfl,?_⟩;rw[←qR.1,←qR.2];exact dZ.dC
def Aw(m:M)(n:Int):M:=if n=0 then{m with cD:=m.cD.set m.aF.c.toNat false}else if n=3 then{m with cD:=cB m.w false}else m
def bi.Rg{m:M}(h:bi m){l:List Bool}(al:l.length=m.w):bi {m with cD:=l}:=
 {w:=h.w,h:=h.h,G:=h.G,O:=h.O,aF:=h.aF,bO:=h.bO,a:=h.a,aD:=h.aD,cY:=h.cY,cD:=al,back:=h.back,bK:=h.bK,hM:=h.hM,eK:=h.eK,ds:=h.ds}
def bi.Rh{m:M}(h:bi m){n:Int}:bi (Aw m n):=by
 unfold Aw;split
 ·exact h.Rg (by rw[jC];exact h.cD)
 ·split
  ·exact h.Rg mg
  ·exact h
def aKf{m:M}(hm:bi m)(n:Int):hi 182 [.i (.v (.int .i64 (n)))] m (.bd []) (Aw m n):=by
 intro ae aD af aG;have ag:=hm.aF.2.1;obtain⟨c,e3⟩:=jb ag.1;have hw:=hm.w;have bp:=hm.cD;unfold Aw;by_cases aW:n=0
 ·subst aW;rw[if_pos rfl,e3,nV];have ao:=λ H=>afH m.cD c R R false H
  rw[←e3]at ao;rw[bo Ke];simp(disch:=omega)only[ar,simprocAttr,PY,eO,bQ,bV,bH,ao];exact⟨_,rfl,dZ.dC⟩
 ·rw[if_neg aW];by_cases av:n=3
  ·subst av;rw[if_pos rfl];have w_:cB m.w [aC.v (.bool false)]=dS (cB m.w false):=by simp[dS]
   have fj:(dS (cB m.w false)).length=m.w:=by rw[l2,mg]
   generalize cB m.w false=aV at*;rw[bo Ke];simp(disch:=omega)only[ar,simprocAttr,PY,eO,bQ,bV,bH,w_];refine⟨_,rfl,?_⟩;exact dZ.dC
  ·rw[if_neg av];rw[bo Ke];simp(disch:=omega)only[ar,simprocAttr,PY,eO,bQ,bV,bH];exact⟨_,rfl,dZ.dC⟩
def Ri(m:M)(n:Int):List UInt8:=if n=5 then[27,91,48,110]else if n=6 then[27,91]++zP (if m.md.c2=true then m.aF.r+1-m.cA else m.aF.r+1)++[59]++zP (m.aF.c+1)++[82]else[]
def Ax(m:M)(n:Int):M:=if m.ds.length+(Ri m n).length≤1000 then{m with ds:=m.ds++Ri m n}else m
def bi.Rj{m:M}(h:bi m){n:Int}:bi (Ax m n):=by
 unfold Ax;split
 ·rename_i j;exact{w:=h.w,h:=h.h,G:=h.G,O:=h.O,aF:=h.aF,bO:=h.bO,a:=h.a,aD:=h.aD,cY:=h.cY,cD:=h.cD,back:=h.back,bK:=h.bK,hM:=h.hM,eK:=h.eK,ds:=by rw[dp];exact j}
 ·exact h
def Rk(n:Int)(h:-9223372036854775808≤n∧n≤9223372036854775807)(H:aa):cv 214 [n] H (.i (.str (zP n))):=
 OI (show E.ext 214=some xE from rfl) rfl rfl ⟨[],by simp only[xE];rw[if_pos h]⟩
def aKg{m:M}(hm:bi m)(n:Int):hi 183 [.i (.v (.int .i64 (n)))] m (.bd []) (Ax m n):=by
 intro ae aD af aG;have ag:=hm.aF;have hw:=hm.w;have aN:=hm.h;have bp:=hm.cY;have ah:=hm.ds;unfold Ax Ri;by_cases bs:n=5
 ·subst bs;simp only[if_true];by_cases al:m.ds.length+[27,91,48,(110:UInt8)].length≤1000
  ·rw[if_pos al];simp only[cU]at al;rw[bo xT];simp(disch:=omega)only[ar,simprocAttr,z8,bQ,bV,bH];exact⟨_,rfl,dZ.dC⟩
  ·rw[if_neg al];simp only[cU]at al;rw[bo xT];simp(disch:=omega)only[ar,simprocAttr,z8,bQ,bV,bH];exact⟨_,rfl,dZ.dC⟩
 ·rw[if_neg bs];by_cases dq:n=6
  ·subst dq;rw[if_pos rfl];have aH:=λ H=>Rk (m.aF.c+1) R H
   have eN:=Lib.itoa_length_le (m.aF.c+1) R R;cases Lg:m.md.c2 with
   |false=>
    simp only[fF,if_false];have ao:=λ H=>Rk (m.aF.r+1) R H
    have c4:=Lib.itoa_length_le (m.aF.r+1) R R;generalize zP (m.aF.r+1)=s1 at*;generalize zP (m.aF.c+1)=s2 at*;by_cases al:m.ds.length+([27,91]++s1++[59]++s2++[(82:UInt8)]).length≤1000
    ·rw[if_pos al];simp only[dp,cU]at al;rw[bo xT];simp(disch:=omega)only[ar,simprocAttr,z8,bQ,bV,bH,Lg,ao,aH];exact⟨_,rfl,dZ.dC⟩
    ·rw[if_neg al];simp only[dp,cU]at al;rw[bo xT];simp(disch:=omega)only[ar,simprocAttr,z8,bQ,bV,bH,Lg,ao,aH];exact⟨_,rfl,dZ.dC⟩
   |true=>
    simp only[if_true];have ao:=λ H=>Rk (m.aF.r+1-m.cA) R H
    have c4:=Lib.itoa_length_le (m.aF.r+1-m.cA) R R;generalize zP (m.aF.r+1-m.cA)=s1 at*;generalize zP (m.aF.c+1)=s2 at*;by_cases al:m.ds.length+([27,91]++s1++[59]++s2++[(82:UInt8)]).length≤1000
    ·rw[if_pos al];simp only[dp,cU]at al;rw[bo xT];simp(disch:=omega)only[ar,simprocAttr,z8,bQ,bV,bH,Lg,ao,aH];exact⟨_,rfl,dZ.dC⟩
    ·rw[if_neg al];simp only[dp,cU]at al;rw[bo xT];simp(disch:=omega)only[ar,simprocAttr,z8,bQ,bV,bH,Lg,ao,aH];exact⟨_,rfl,dZ.dC⟩
  ·rw[if_neg dq];rw[if_pos (by simpa using ah),c8];rw[bo xT];simp(disch:=omega)only[ar,simprocAttr,z8,bQ,bV,bH,c8];exact⟨_,rfl,dZ.dC⟩
def agm{l:List Int}{i d:Int}(h:1≤d):1≤bU l i d:=by
 unfold bU
 repeat' split
 all_goals omega
def Dp(m:M)(l:List Int):M:=if bU l 0 1<min (bU l 1 m.h) m.h then{m with cA:=bU l 0 1-1,b7:=min (bU l 1 m.h) m.h,aF:=⟨toR 1 (cf {m with cA:=bU l 0 1-1,b7:=min (bU l 1 m.h) m.h}),k0 1 (cf {m with cA:=bU l 0 1-1,b7:=min (bU l 1 m.h) m.h}),false⟩}else m
def bi.agn{m:M}(h:bi m){t b:Int}(al:0≤t∧t<b∧b≤m.h):bi {m with cA:=t,b7:=b}:=
 {w:=h.w,h:=h.h,G:=h.G,O:=h.O,aF:=h.aF,bO:=h.bO,a:=h.a,aD:=h.aD,cY:=al,cD:=h.cD,back:=h.back,bK:=h.bK,hM:=h.hM,eK:=h.eK,ds:=h.ds}
def bi.Rl{m:M}(h:bi m){l:List Int}:bi (Dp m l):=by
 unfold Dp;split
 ·have j:=agm (l:=l) (i:=0) (show(1:Int)≤1 by omega);have I:=h.agn (t:=bU l 0 1-1) (b:=min (bU l 1 m.h) m.h) R;exact I.jO (Gt 1 1 I)
 ·exact h
def aKh{m:M}(hm:bi m)(l:List Int)(al:l.length<100000):hi 184 [.i (.sl 1 (b1 l) false)] m (.bd []) (Dp m l):=by
 intro ae aD af aG;have j:=agm (l:=l) (i:=0) (show(1:Int)≤1 by omega);have aN:=hm.h;have ao:=λ H=>kd l 0 1 al H
 have aH:=λ H=>kd l 1 m.h al H
 unfold Dp;have aR:bU l 0 1<min (bU l 1 m.h) m.h→bi {m with cA:=bU l 0 1-1,b7:=min (bU l 1 m.h) m.h}:=λ h=>hm.agn R
 generalize bU l 0 1=p at*;generalize bU l 1 m.h=q at*;by_cases be:p<min q (m.h:Int)
 ·rw[if_pos be];have gB:=aR be;have bN:=afP (m:={m with cA:=p-1,b7:=min q m.h}) (a:=0) (b:=1) (ae:=ae) (af:=af) (T:=[.az 5 ae aD (aX m.G),.az 5 af aG (aX m.O)]) rfl rfl (by decide) gB.cf 1 1;simp only[cp,c1]at bN;rw[bo Kf];simp(disch:=omega)only[ar,simprocAttr,adP,bA,bQ,bV,bH,ao,aH,bN,be];exact⟨_,rfl,dZ.dC⟩
 ·rw[if_neg be];rw[bo Kf];simp(disch:=omega)only[ar,simprocAttr,adP,bA,bQ,bV,bH,ao,aH,be];exact⟨_,rfl,dZ.dC⟩
def Ay(k:Nat):Int:=[1,2,3,4,5,7,8,9].getD k 0
def aKi(k:Nat)(h:k<8):([.i (.v (.int .i64 (1))),.i (.v (.int .i64 (2))),.i (.v (.int .i64 (3))),.i (.v (.int .i64 (4))),.i (.v (.int .i64 (5))),.i (.v (.int .i64 (7))),.i (.v (.int .i64 (8))),.i (.v (.int .i64 (9)))]:List U)[k*1]?=some (.i (.v (.int .i64 (Ay k)))):=by
 match k,h with
 |0,_|1,_|2,_|3,_|4,_|5,_|6,_|7,_=>rfl
def tg(n:Int):Int×Int:=
 if n=1 then(1,0)else if n=2 then(2,0)else if n=3 then(4,0)else if n=4 then(8,0)else if n=5 then(16,0)else if n=7 then(32,0)else if n=8 then(64,0)else if n=9 then(128,0)else
 if n=22 then(0,3)else if n=23 then(0,4)else if n=24 then(0,8)else if n=25 then(0,16)else if n=27 then(0,32)else if n=28 then(0,64)else if n=29 then(0,128)else(0,0)
def aKj(n:Int)(aj:0≤n∧n≤1000000)(aE:∀k<8,¬n=Ay k∧¬n=20+Ay k):∀m k:Nat,k+m=8→
  hV CH 0 [(0,n),(3,↑(0:Int)),(6,.agg [↑(1:Int),↑(2:Int),↑(3:Int),↑(4:Int),↑(5:Int),↑(7:Int),↑(8:Int),↑(9:Int)]),(7,k)] [] 0 [(0,n),(3,↑(0:Int)),(6,.agg [↑(1:Int),↑(2:Int),↑(3:Int),↑(4:Int),↑(5:Int),↑(7:Int),↑(8:Int),↑(9:Int)]),(7,↑(8:Int)),(8,false)] []:=by
 intro m;induction m with
 |zero=>intro k ay;obtain rfl:k=8:=R;refine(cM CH 0).trans ?_;simp(disch:=omega)only[ar,simprocAttr,PT,Qe]
 |succ m a8=>
  intro k ay;have fR:k<8:=R;have ax:=aKi k fR;obtain⟨j,I⟩:=aE k fR;have ag:0≤Ay k∧Ay k≤9:=by
   match k,fR with
   |0,_|1,_|2,_|3,_|4,_|5,_|6,_|7,_=>decide
  have e:=a8 (k+1) R;refine ga ?_ e;clear e a8 aE;generalize Ay k=c at*;refine(cM CH 0).trans ?_;simp(disch:=omega)only[ar,simprocAttr,PT,ax,j,I,Qe]
def aKk{n a b:Int}(h:(match call E 200 151 [.i (.v (.int .i64 (n)))] []with|some (.bd [.i (.v (.int .i64 x)),.i (.v (.int .i64 y))],_)=>decide (x=a) &&decide (y=b)|_=>false)=true):gv 151 [n] (.bd [a,b]):=by
 split at h
 ·rename_i x y L e_;simp only[cR,decide_eq_true_eq]at h;obtain⟨rfl,rfl⟩:=h;exact⟨L,V0 e_⟩
 ·cases h
def aKl(n:Int)(aj:0≤n∧n≤1000000):gv 151 [n] (.bd [↑((tg n).1),↑((tg n).2)]):=by
 by_cases h:n=1∨n=2∨n=3∨n=4∨n=5∨n=7∨n=8∨n=9∨n=21∨n=22∨n=23∨n=24∨n=25∨n=27∨n=28∨n=29
 ·rcases h with rfl|rfl|rfl|rfl|rfl|rfl|rfl|rfl|rfl|rfl|rfl|rfl|rfl|rfl|rfl|rfl<;>exact aKk aK
 ·have aI:tg n=(0,0):=by
   unfold tg
   repeat' (rw[if_neg R])
  rw[aI];have al:=aKj n aj (λ k ay=>by
   match k,ay with
   |0,_|1,_|2,_|3,_|4,_|5,_|6,_|7,_=>simp[Ay];omega) 8 0 R
  simp only[gZ]at al;have aKm:¬n=22:=R;refine bz CH ?_;simp(disch:=omega)only[ar,simprocAttr,PT,al,aKm,FC,Qe];exact⟨_,rfl⟩
def aKn(n:Int)(aj:0≤n∧n≤1000000)(H:aa):cv 151 [n] H (.bd [↑((tg n).1),↑((tg n).2)]):=gY rfl rfl rfl (aKl n aj)
def n9(n b:Int):Int×Bool:=if 0≤n-b∧n-b≤7 then(n-b,true)else if 60≤n-b∧n-b≤67 then(n-b-52,true)else if n-b=9 then(-1,true)else(0,false)
def ago(n b:Int)(aE:0≤n∧n≤1000000)(aj:0≤b∧b≤100)(H:aa):cv 152 [n,b] H (.bd [↑((n9 n b).1),↑((n9 n b).2)]):=cu (by
 have hw:nK.wrap (n-b)=n-b:=Wt R R;unfold n9;generalize ay:n-b=k at*;have aQV:-100≤k∧k≤1000000:=R;clear hw aE aj;by_cases j:0≤k∧k≤7
 ·rw[if_pos j];refine bz z7 ?_;simp(disch:=omega)only[ar,simprocAttr,CI,ay];exact⟨_,rfl⟩
 ·rw[if_neg j];by_cases I:60≤k∧k≤67
  ·rw[if_pos I];refine bz z7 ?_;simp(disch:=omega)only[ar,simprocAttr,CI,ay];exact⟨_,rfl⟩
  ·rw[if_neg I];by_cases av:k=9
   ·rw[if_pos av];refine bz z7 ?_;simp(disch:=omega)only[ar,simprocAttr,CI,ay];exact⟨_,rfl⟩
   ·rw[if_neg av];by_cases ba:k<0
    ·refine bz z7 ?_;simp(disch:=omega)only[ar,simprocAttr,CI,ay];exact⟨_,rfl⟩
    ·by_cases bs:k<60
     ·have dq:7<k:=R;refine bz z7 ?_;simp(disch:=omega)only[ar,simprocAttr,CI,ay];exact⟨_,rfl⟩
     ·have dq:67<k:=R;refine bz z7 ?_;simp(disch:=omega)only[ar,simprocAttr,CI,ay];exact⟨_,rfl⟩)
def agp(H:aa):cv 16 [] H (.agg [↑(-1:Int),↑(-1:Int),↑(0:Int)]):=cu (by
 refine bz acy ?_;simp(disch:=omega)only[ar,simprocAttr,aDT];exact⟨_,rfl⟩)
def Rm{a:ed}(h:h_ a=true):(-1≤a.cZ∧a.cZ≤255)∧(-1≤a.a7∧a.a7≤255)∧0≤a.cW∧a.cW≤255:=by simp only[h_,cR,decide_eq_true_eq]at h;exact⟨h.1.1,h.1.2,h.2⟩
def agq{a:ed}(h:h_ a=true)(H:aa):cv 30 [.agg [a.cZ,a.a7,a.cW]] H (↑(0:Int)):=cu (by
 obtain⟨⟨j,I⟩,⟨av,ba⟩,bs,dq⟩:=Rm h;have eN:ej E 0 30 (fg Tryz.f30 0) [(1,.ptr 0 0 0 0),(9,.agg [.i (.v (.int .i64 (a.cZ))),.i (.v (.int .i64 (a.a7)))]),(10,.i (.v (.int .i64 (2))))] [.box [.i (.v (.int .i64 (a.cZ))),.i (.v (.int .i64 (a.a7))),.i (.v (.int .i64 (a.cW)))]]=some (.exit 0,[(1,.ptr 0 0 0 0),(9,.agg [.i (.v (.int .i64 (a.cZ))),.i (.v (.int .i64 (a.a7)))]),(10,.i (.v (.int .i64 (2)))),(11,.i (.v (.bool (false))))],[.box [.i (.v (.int .i64 (a.cZ))),.i (.v (.int .i64 (a.a7))),.i (.v (.int .i64 (a.cW)))]]):=by rw[cM Cr 0];simp(disch:=omega)only[ar,simprocAttr,JX,Kj]
 have c4:ej E 0 30 (fg Tryz.f30 0) [(1,.ptr 0 0 0 0),(9,.agg [.i (.v (.int .i64 (a.cZ))),.i (.v (.int .i64 (a.a7)))]),(10,.i (.v (.int .i64 (1))))] [.box [.i (.v (.int .i64 (a.cZ))),.i (.v (.int .i64 (a.a7))),.i (.v (.int .i64 (a.cW)))]]=some (.exit 0,[(1,.ptr 0 0 0 0),(9,.agg [.i (.v (.int .i64 (a.cZ))),.i (.v (.int .i64 (a.a7)))]),(10,.i (.v (.int .i64 (2)))),(11,.i (.v (.bool (false))))],[.box [.i (.v (.int .i64 (a.cZ))),.i (.v (.int .i64 (a.a7))),.i (.v (.int .i64 (a.cW)))]]):=by refine ga ?_ eN;rw[cM Cr 0];simp(disch:=omega)only[ar,simprocAttr,JX,Kj]
 have oi:ej E 0 30 (fg Tryz.f30 0) [(1,.ptr 0 0 0 0),(9,.agg [.i (.v (.int .i64 (a.cZ))),.i (.v (.int .i64 (a.a7)))]),(10,.i (.v (.int .i64 (0))))] [.box [.i (.v (.int .i64 (a.cZ))),.i (.v (.int .i64 (a.a7))),.i (.v (.int .i64 (a.cW)))]]=some (.exit 0,[(1,.ptr 0 0 0 0),(9,.agg [.i (.v (.int .i64 (a.cZ))),.i (.v (.int .i64 (a.a7)))]),(10,.i (.v (.int .i64 (2)))),(11,.i (.v (.bool (false))))],[.box [.i (.v (.int .i64 (a.cZ))),.i (.v (.int .i64 (a.a7))),.i (.v (.int .i64 (a.cW)))]]):=by refine ga ?_ c4;rw[cM Cr 0];simp(disch:=omega)only[ar,simprocAttr,JX,Kj]
 clear c4 eN;refine bz Cr ?_;simp(disch:=omega)only[ar,simprocAttr,JX,oi,Kj];exact⟨_,rfl⟩)
def wh(a:Int)(l:List Int):b1 (a::l)=[.v (.int .i64 a)]::b1 l:=rfl
def gA:List Int→Int×Int
 |a::b::l=>if a=5∧b≤255 then(b,2)else match l with
  |c::d::_=>if a=2∧max b (max c d)≤255 then(16+36*(b*5).tdiv 255+6*(c*5).tdiv 255+(d*5).tdiv 255,4)else(0,0)
  |_=>(0,0)
 |_=>(0,0)
def Dq{b:Int}(h:0≤b∧b≤255):0≤(b*5).tdiv 255∧(b*5).tdiv 255≤5:=by rw[Int.tdiv_eq_ediv_of_nonneg R];omega
def aKo(l:List Int)(al:l.length≤100000)(au:∀x∈l,0≤x∧x≤1000000)(H:aa):cv 150 [.i (.sl 1 (b1 l) false)] H (.bd [↑((gA l).1),↑((gA l).2)]):=cu (by
 match l,al,au with
 |[],al,au=>refine bz s6 ?_;simp(disch:=omega)only[ar,simprocAttr,ue,bA,ck,show b1 []=[]from rfl];exact⟨_,rfl⟩
 |[a],al,au=>refine bz s6 ?_;simp(disch:=omega)only[ar,simprocAttr,ue,bA,ck,wh,show b1 []=[]from rfl];exact⟨_,rfl⟩
 |a::b::l,al,au=>
  have j:=au a (by simp);have I:=au b (by simp);have hK:(l.length:Int)≤100000:=by simp at al;omega
  by_cases bs:a=5∧b≤255
  ·simp only[gA,if_pos bs];obtain⟨rfl,bs⟩:=bs;refine bz s6 ?_;simp(disch:=omega)only[ar,simprocAttr,ue,bA,ck,wh];exact⟨_,rfl⟩
  ·by_cases aA:a=5
   ·have aj:¬b≤255:=λ h=>bs ⟨aA,h⟩
    have e:gA (a::b::l)=(0,0):=by
     subst aA;cases l with
     |nil=>simp[gA,aj]
     |cons c r=>cases r<;>simp[gA,aj]
    rw[e];subst aA;by_cases aQW:(2:Int)≤l.length
    ·refine bz s6 ?_;simp(disch:=omega)only[ar,simprocAttr,ue,bA,ck,wh];exact⟨_,rfl⟩
    ·refine bz s6 ?_;simp(disch:=omega)only[ar,simprocAttr,ue,bA,ck,wh];exact⟨_,rfl⟩
   ·rcases l with _|⟨c,_|⟨d,r⟩⟩
    ·have e:gA [a,b]=(0,0):=by simp[gA,aA]
     rw[e];refine bz s6 ?_;simp(disch:=omega)only[ar,simprocAttr,ue,bA,ck,wh,show b1 []=[]from rfl];exact⟨_,rfl⟩
    ·have e:gA [a,b,c]=(0,0):=by simp[gA,aA]
     rw[e];refine bz s6 ?_;simp(disch:=omega)only[ar,simprocAttr,ue,bA,ck,wh,show b1 []=[]from rfl];exact⟨_,rfl⟩
    ·have av:=au c (by simp);have ba:=au d (by simp);have Ik:(r.length:Int)≤100000:=by simp at al;omega
     by_cases I:a=2∧max b (max c d)≤255
     ·have e:gA (a::b::c::d::r)=(16+36*(b*5).tdiv 255+6*(c*5).tdiv 255+(d*5).tdiv 255,4):=by simp only[gA,aA,false_and,if_false,if_pos I]
      rw[e];obtain⟨rfl,I⟩:=I;have cm:=Dq (b:=b) R;have cy:=Dq (b:=c) R;have fc:=Dq (b:=d) R;refine bz s6 ?_;simp(disch:=omega)only[ar,simprocAttr,ue,bA,ck,wh];exact⟨_,rfl⟩
     ·have e:gA (a::b::c::d::r)=(0,0):=by simp only[gA,aA,false_and,if_false,if_neg I]
      rw[e];by_cases vT:a=2
      ·subst vT;have aj:¬max b (max c d)≤255:=λ h=>I ⟨rfl,h⟩
       refine bz s6 ?_;simp(disch:=omega)only[ar,simprocAttr,ue,bA,ck,wh];exact⟨_,rfl⟩
      ·refine bz s6 ?_;simp(disch:=omega)only[ar,simprocAttr,ue,bA,ck,wh];exact⟨_,rfl⟩)
def kD(l:List Int):List Int:=l.map λ n=>max n 0
def aKp{l:List Int}{k:Nat}(h:k<l.length):kD (l.take k)++[max l[k] 0]=kD (l.take (k+1)):=by rw[KX h];simp only[kD,rf,fh,fm]
def Rn(l:List Int):(kD l).length=l.length:=by simp[kD]
def aKq(a:ed)(l:List Int)(al:l.length≤100000)(aj:∀x∈l,x≤1000000):∀(m k:Nat),k+m=l.length→
  hV oN 0 [(2,.ptr 0 0 0 0),(4,.ptr 1 0 0 0),(5,.ref 2 0 0 k),(22,.i (.sl 1 (b1 l) false)),(23,l.length),(24,k)] [.box [a.cZ,a.a7,a.cW],.box [↑(0:Int),↑(0:Int),↑(0:Int)],.sl 1 0 (b1 (kD (l.take k))) false] 0 [(2,.ptr 0 0 0 0),(4,.ptr 1 0 0 0),(5,.ref 2 0 0 l.length),(22,.i (.sl 1 (b1 l) false)),(23,l.length),(24,l.length),(25,false)] [.box [a.cZ,a.a7,a.cW],.box [↑(0:Int),↑(0:Int),↑(0:Int)],.sl 1 0 (b1 (kD l)) false]:=by
 intro m;induction m with
 |zero=>intro k ay;obtain rfl:k=l.length:=R;rw[List.take_length];have ak:=ck (kD l);rw[Rn]at ak;generalize b1 (kD l)=x at*;refine(cM oN 0).trans ?_;simp(disch:=omega)only[ar,simprocAttr,si,bA,ck,CR]
 |succ m a8=>intro k ay;have be:k<l.length:=R;have bX:=Ac be;have aR:=aep (kD (l.take k)) (max l[k] 0);rw[aKp be]at aR;have ak:=ck (kD (l.take k));rw[Rn,hE,show min k l.length=k by omega]at ak;have fi:=aj _ (mL be);have e:=a8 (k+1) R;refine ga ?_ e;clear e a8;generalize b1 (kD (l.take (k+1)))=y at*;generalize b1 (kD (l.take k))=x at*;generalize l[k]=n at*;refine(cM oN 0).trans ?_;simp(disch:=omega)only[ar,simprocAttr,si,bA,bX,aR,ck,CR]
def Lh(a b:Int):Int:=nK.wrap ((su nK.bits a|||su nK.bits b).toNat:Int)
def Li(a b:Int):Int:=nK.wrap ((su nK.bits a &&&~~~su nK.bits b).toNat:Int)
def aKr(a b:Int):jR .or .i64 a b=some (Lh a b):=rfl
def aKs(a b:Int):jR .andNot .i64 a b=some (Li a b):=rfl
def Dr(a:ed)(n:Int):ed:=⟨if(n9 n 30).2=true then(n9 n 30).1 else a.cZ,if(n9 n 40).2=true then(n9 n 40).1 else a.a7,Li (Lh a.cW (tg n).1) (tg n).2⟩
def jt:Nat→List Int→ed→ed
 |0,_,a=>a
 |_,[],a=>a
 |f+1,n::r,a=>if n=0 then jt f r ⟨-1,-1,0⟩else if n=38∨n=48 then(if(gA r).2=0 then a else jt f (r.drop (gA r).2.toNat) (if n=38 then{a with cZ:=(gA r).1}else{a with a7:=(gA r).1}))else jt f r (Dr a n)
def Az(L:List Int)(a:ed)(x:Option (eC×Fr×aa)):Prop:=
 (∃t:Int,x=some (.exit 2,[(2,.ptr 0 0 0 0),(4,.ptr 1 0 0 0),(5,.i (.sl 1 (b1 L) false)),(8,.i (.v (.int .i64 (t)))),(43,.i (.v (.bool (false))))],[.box [.i (.v (.int .i64 (a).cZ)),.i (.v (.int .i64 (a).a7)),.i (.v (.int .i64 (a).cW))],.box [.i (.v (.int .i64 (0))),.i (.v (.int .i64 (0))),.i (.v (.int .i64 (0)))]]))∨
 (∃J,x=some (.ret,(4,.ptr 1 0 0 0)::J,[.box [.i (.v (.int .i64 (a).cZ)),.i (.v (.int .i64 (a).a7)),.i (.v (.int .i64 (a).cW))],.box [.i (.v (.int .i64 (a).cZ)),.i (.v (.int .i64 (a).a7)),.i (.v (.int .i64 (a).cW))]]))
def aKt{r:List Int}(h:(gA r).2≠0):0<(gA r).2∧(gA r).2≤r.length:=by
 match r with
 |[]=>simp[gA]at h
 |[a]=>simp[gA]at h
 |[a,b]=>simp only[gA]at h⊢;split<;>simp_all
 |[a,b,c]=>simp only[gA]at h⊢;split<;>simp_all
 |a::b::c::d::r=>
  simp only[gA]at h⊢;split
  ·simp;omega
  ·split
   ·simp;omega
   ·simp_all
def aKu(l:List Int)(k:Nat):(b1 l).drop k=b1 (l.drop k):=by simp[b1,sk]
def agr(L:List Int)(al:L.length≤100001)(aj:∀x∈L,0≤x∧x≤1000000):∀(f i:Nat) (a:ed),L.length≤i+f→i≤L.length→
  Az L (jt f (L.drop i) a) (ej E 0 110 (fg Tryz.f110 1) [(2,.ptr 0 0 0 0),(4,.ptr 1 0 0 0),(5,.i (.sl 1 (b1 L) false)),(8,.i (.v (.int .i64 (i))))] [.box [.i (.v (.int .i64 (a).cZ)),.i (.v (.int .i64 (a).a7)),.i (.v (.int .i64 (a).cW))],.box [.i (.v (.int .i64 (0))),.i (.v (.int .i64 (0))),.i (.v (.int .i64 (0)))]]):=by
 have fin:∀(f:Nat) (a:ed),Az L (jt f (L.drop L.length) a) (ej E 0 110 (fg Tryz.f110 1) [(2,.ptr 0 0 0 0),(4,.ptr 1 0 0 0),(5,.i (.sl 1 (b1 L) false)),(8,.i (.v (.int .i64 (L.length))))] [.box [.i (.v (.int .i64 (a).cZ)),.i (.v (.int .i64 (a).a7)),.i (.v (.int .i64 (a).cW))],.box [.i (.v (.int .i64 (0))),.i (.v (.int .i64 (0))),.i (.v (.int .i64 (0)))]]):=by
  intro f a;have e:jt f (L.drop L.length) a=a:=by rw[mR];cases f<;>rfl
  rw[e];refine .inl ⟨L.length,?_⟩;rw[cM oN 1];simp(disch:=omega)only[ar,simprocAttr,si,bA,ck,uh]
 intro f;induction f with
 |zero=>intro i a j I;obtain rfl:i=L.length:=R;exact fin 0 a
 |succ f a8=>
  intro i a j I;by_cases ax:i=L.length
  ·subst ax;exact fin _ a
  ·have be:i<L.length:=R;have bX:=Ac be;have aE:=aj _ (mL be);have aR:1+(i:Int)=((i+1:Nat):Int):=R;have Ds:(i:Int)+1=((i+1:Nat):Int):=R;rw[jq be];generalize L[i]=n at*;by_cases aW:n=0
   ·have e:=a8 (i+1) ⟨-1,-1,0⟩ R R;have bm:jt (f+1) (n::L.drop (i+1)) a=jt f (L.drop (i+1)) ⟨-1,-1,0⟩:=by rw[jt,if_pos aW]
    rw[bm];subst aW;generalize jt f (L.drop (i+1)) ⟨-1,-1,0⟩=A at*;refine Eq.mp (congrArg (Az L A) ?_) e;refine Eq.symm ?_;rw[cM oN 1];simp(disch:=omega)only[ar,simprocAttr,si,bA,bX,agp,ck,uh]
   ·have oj:(L.drop (i+1)).length=L.length-(i+1):=iG;have aM:=aKu L (i+1);have fk:=ck (L.drop (i+1));rw[oj]at fk;by_cases ag:n=38∨n=48
    ·have aH:=λ H=>aKo (L.drop (i+1)) R (λ x ak=>aj x (ur ak)) H
     by_cases hu:(gA (L.drop (i+1))).2=0
     ·have bm:jt (f+1) (n::L.drop (i+1)) a=a:=by rw[jt,if_neg aW,if_pos ag,if_pos hu]
      rw[bm];rw[hu]at aH;refine .inr ?_;generalize (gA (L.drop (i+1))).1=z at*;generalize b1 (L.drop (i+1))=aV at*;rcases ag with ag|ag<;>(
       subst ag;rw[cM oN 1];simp(disch:=omega)only[ar,simprocAttr,si,bA,bX,aH,aM,ck,uh];exact⟨_,rfl⟩)
     ·have hle:=aKt hu;obtain⟨u,BX⟩:=jb (Int.le_of_lt hle.1);have ags:¬(u:Int)=0:=R;rw[oj]at hle;have e:=a8 (i+u+1) (if n=38 then{a with cZ:=(gA (L.drop (i+1))).1}else{a with a7:=(gA (L.drop (i+1))).1}) R R;have bm:jt (f+1) (n::L.drop (i+1)) a=jt f (L.drop (i+u+1)) (if n=38 then{a with cZ:=(gA (L.drop (i+1))).1}else{a with a7:=(gA (L.drop (i+1))).1}):=by rw[jt,if_neg aW,if_pos ag,if_neg hu,BX,nV,HH,show i+1+u=i+u+1 by omega]
      rw[bm];rw[BX]at aH;have VE:(i:Int)+u+1=((i+u+1:Nat):Int):=R;rw[←VE]at e;generalize (gA (L.drop (i+1))).1=z at*;generalize b1 (L.drop (i+1))=aV at*;rcases ag with ag|ag
      ·subst ag;simp only[if_true]at e⊢;refine Eq.mp (congrArg (Az L _) ?_) e;refine Eq.symm ?_;rw[cM oN 1];simp(disch:=omega)only[ar,simprocAttr,si,bA,bX,aH,aM,ags,ck,uh]
      ·subst ag;simp only[show¬(48:Int)=38 by decide,if_false]at e⊢;refine Eq.mp (congrArg (Az L _) ?_) e;refine Eq.symm ?_;rw[cM oN 1];simp(disch:=omega)only[ar,simprocAttr,si,bA,bX,aH,aM,ags,ck,uh]
    ·have e:=a8 (i+1) (Dr a n) R R;have bm:jt (f+1) (n::L.drop (i+1)) a=jt f (L.drop (i+1)) (Dr a n):=by rw[jt,if_neg aW,if_neg ag]
     rw[bm];have ao:=λ H=>aKn n aE H
     have aH:=λ H=>ago n 30 aE R H
     have bN:=λ H=>ago n 40 aE R H
     have aQX:¬n=38:=λ h=>ag (.inl h)
     have aQY:¬n=48:=λ h=>ag (.inr h)
     generalize jt f (L.drop (i+1)) (Dr a n)=A at*;refine Eq.mp (congrArg (Az L A) ?_) e;refine Eq.symm ?_;unfold Dr;generalize tg n=cW at*;generalize n9 n 30=tO at*;generalize n9 n 40=EN at*;obtain⟨aQZ,aKv⟩:=tO;obtain⟨aQ0,aKw⟩:=EN;cases aKv<;>cases aKw<;>simp only[if_true,if_false,fF]at aH bN⊢<;>(
      rw[cM oN 1];simp(disch:=omega)only[ar,simprocAttr,si,bA,bX,ao,aH,bN,aKr,aKs,ck,uh])
def wi(a:ed)(l:List Int):ed:=if l=[]then jt 1 [0] a else jt l.length (kD l) a
def Ro:List (Int×Int):=[(1,0),(2,0),(4,0),(8,0),(16,0),(32,0),(64,0),(128,0),(0,3),(0,4),(0,8),(0,16),(0,32),(0,64),(0,128),(0,0)]
def aKx{p:Prop} [Decidable p]{a b:Int×Int}{l:List (Int×Int)}(j:a∈l)(I:b∈l):(if p then a else b)∈l:=by split<;>assumption
def aKy(n:Int):tg n∈Ro:=by
 unfold tg
 repeat' apply aKx
 all_goals simp[Ro]
def aKz:∀a:Nat,a<256→∀p∈Ro,0≤Li (Lh a p.1) p.2∧Li (Lh a p.1) p.2≤255:=by decide+kernel
def aKA{x y z:Int}(j:-1≤x∧x≤255)(I:-1≤y∧y≤255)(av:0≤z∧z≤255):h_ ⟨x,y,z⟩=true:=by simp only[h_,cR,decide_eq_true_eq];omega
def aKB{a:ed}(h:h_ a=true)(n:Int):h_ (Dr a n)=true:=by
 obtain⟨j,I,av⟩:=Rm h;obtain⟨k,ay⟩:=jb av.1;have aI:=aKz k R _ (aKy n);rw[←ay]at aI;have s1:(n9 n 30).2=true→-1≤(n9 n 30).1∧(n9 n 30).1≤255:=by
  unfold n9
  repeat' split
  all_goals (simp only;intro h;first|omega|cases h)
 have s2:(n9 n 40).2=true→-1≤(n9 n 40).1∧(n9 n 40).1≤255:=by
  unfold n9
  repeat' split
  all_goals (simp only;intro h;first|omega|cases h)
 refine aKA ?_ ?_ aI
 ·split
  ·rename_i h;exact s1 h
  ·exact j
 ·split
  ·rename_i h;exact s2 h
  ·exact I
def aKC{r:List Int}(au:∀x∈r,0≤x)(h:(gA r).2≠0):0≤(gA r).1∧(gA r).1≤255:=by
 match r,au with
 |[],_=>simp[gA]at h
 |[a],_=>simp[gA]at h
 |[a,b],au=>have I:=au b (by simp);simp only[gA]at h⊢;split<;>simp_all
 |[a,b,c],au=>have I:=au b (by simp);simp only[gA]at h⊢;split<;>simp_all
 |a::b::c::d::r,au=>
  have I:=au b (by simp);have av:=au c (by simp);have ba:=au d (by simp);simp only[gA]at h⊢;split
  ·rename_i bs;exact⟨I,bs.2⟩
  ·split
   ·rename_i bs;have cm:=Dq (b:=b) R;have cy:=Dq (b:=c) R;have fc:=Dq (b:=d) R;simp only;omega
   ·exact⟨by simp,by simp⟩
def GA:∀(f:Nat) (l:List Int) (a:ed),(∀x∈l,0≤x)→h_ a=true→h_ (jt f l a)=true
 |0,_,a,_,h=>by cases ‹List Int›<;>exact h
 |f+1,[],a,_,h=>h
 |f+1,n::r,a,au,h=>by
  have pC:∀x∈r,0≤x:=λ x ak=>au x (xe _ ak)
  rw[jt];split
  ·exact GA f r _ pC (by decide)
  ·split
   ·split
    ·exact h
    ·rename_i hu;have ag:=aKC pC hu;obtain⟨j,I,av⟩:=Rm h;refine GA f _ _ (λ x ak=>pC x (ur ak)) ?_;split<;>simp only[h_,cR,decide_eq_true_eq]<;>omega
   ·exact GA f r _ pC (aKB h n)
def aKD{a:ed}(h:h_ a=true)(l:List Int):h_ (wi a l)=true:=by
 unfold wi;split
 ·exact GA _ _ _ (by simp) h
 ·refine GA _ _ _ (λ x ak=>?_) h;simp only[kD,Fa]at ak;obtain⟨y,_,rfl⟩:=ak;omega
def aKE(a:ed)(l:List Int)(al:l.length≤100000)(aj:∀x∈l,x≤1000000)(H:aa):cv 110 [.agg [a.cZ,a.a7,a.cW],.i (.sl 1 (b1 l) false)] H (.agg [↑((wi a l).cZ),↑((wi a l).a7),↑((wi a l).cW)]):=cu (by
 have j:=aKq a l al aj l.length 0 R;simp only[gZ,mQ,show b1 (kD [])=[]from rfl]at j;by_cases aE:l=[]
 ·subst aE;have I:=agr [0] (by simp) (by simp) 1 0 a (by simp) (by simp);simp only[gZ,il]at I;rw[show wi a []=jt 1 [0] a from rfl];generalize jt 1 [0] a=A at*;simp only[show b1 []=[]from rfl,show kD []=[]from rfl,dr,gZ,show b1 [0]=[[.v (.int .i64 0)]]from rfl,cQ]at j I⊢;rcases I with⟨t,I⟩|⟨J,I⟩
  ·refine bz oN ?_;simp(disch:=omega)only[ar,simprocAttr,si,bA,j,I,CR,uh];exact⟨_,rfl⟩
  ·refine bz oN ?_;simp(disch:=omega)only[ar,simprocAttr,si,bA,j,I,CR,uh];exact⟨_,rfl⟩
 ·have Bi:=Rn l;have I:=agr (kD l) R (λ x ak=>by
   simp only[kD,Fa]at ak;obtain⟨y,aY,rfl⟩:=ak;have:=aj y aY;omega) (kD l).length 0 a R R
  rw[il,Bi]at I;simp only[gZ]at I;rw[show wi a l=jt l.length (kD l) a from if_neg aE];generalize jt l.length (kD l) a=A at*;have hL:0<l.length:=M2.2 aE;have fj:=ck (kD l);rw[Bi]at fj;unfold Az at I;rw[Bi]at*;generalize b1 (kD l)=aV at*;have gh:¬(l.length:Int)=0:=R;rcases I with⟨t,I⟩|⟨J,I⟩
  ·refine bz oN ?_;simp(disch:=omega)only[ar,simprocAttr,si,bA,j,I,gh,ck,CR,uh];exact⟨_,rfl⟩
  ·refine bz oN ?_;simp(disch:=omega)only[ar,simprocAttr,si,bA,j,I,gh,ck,CR,uh];exact⟨_,rfl⟩)
def pH(m:k1)(s:List UInt8)(c:Int):k1:=if c=66∨c=48 then(if s=[40]then{m with dh:=c}else if s=[41]then{m with s1:=c}else m)else m
def aKF(m:k1)(s:List UInt8)(c:Int)(H:aa):cv 102 [.agg [m.ins,m.ic,m.ky,m.c2,m.wr,m.kz,m.fJ,m.kA,.i (.v (.int .u8 (m).dh)),.i (.v (.int .u8 (m).s1)),m.dI],.i (.str s),.i (.v (.int .u8 (c)))] H (.agg [↑((pH m s c).ins),↑((pH m s c).ic),↑((pH m s c).ky),↑((pH m s c).c2),↑((pH m s c).wr),↑((pH m s c).kz),↑((pH m s c).fJ),↑((pH m s c).kA),.i (.v (.int .u8 (pH m s c).dh)),.i (.v (.int .u8 (pH m s c).s1)),↑((pH m s c).dI)]):=cu (by
 unfold pH;by_cases ag:c=66∨c=48
 ·rw[if_pos ag];by_cases j:s=[40]
  ·subst j;rw[if_pos rfl];rcases ag with rfl|rfl<;>(
    refine bz FS ?_;simp(disch:=omega)only[ar,simprocAttr,J3];exact⟨_,rfl⟩)
  ·rw[if_neg j];by_cases I:s=[41]
   ·subst I;rw[if_pos rfl];rcases ag with rfl|rfl<;>(
     refine bz FS ?_;simp(disch:=omega)only[ar,simprocAttr,J3,Bu,show¬(41:UInt8)=40 by decide];exact⟨_,rfl⟩)
   ·rw[if_neg I];rcases ag with rfl|rfl<;>(
     refine bz FS ?_;simp(disch:=omega)only[ar,simprocAttr,J3,j,I];exact⟨_,rfl⟩)
 ·rw[if_neg ag];have j:¬c=66:=λ h=>ag (.inl h)
  have I:¬c=48:=λ h=>ag (.inr h)
  refine bz FS ?_;simp(disch:=omega)only[ar,simprocAttr,J3];exact⟨_,rfl⟩)
def agt(m:k1)(i:Int)(ax:i=0∨i=1)(H:aa):cv 101 [.agg [m.ins,m.ic,m.ky,m.c2,m.wr,m.kz,m.fJ,m.kA,.i (.v (.int .u8 (m).dh)),.i (.v (.int .u8 (m).s1)),m.dI],i] H (.agg [↑(({m with dI:=i}).ins),↑(({m with dI:=i}).ic),↑(({m with dI:=i}).ky),↑(({m with dI:=i}).c2),↑(({m with dI:=i}).wr),↑(({m with dI:=i}).kz),↑(({m with dI:=i}).fJ),↑(({m with dI:=i}).kA),.i (.v (.int .u8 ({m with dI:=i}).dh)),.i (.v (.int .u8 ({m with dI:=i}).s1)),↑(({m with dI:=i}).dI)]):=cu (by
 rcases ax with rfl|rfl<;>(
  refine bz ac5 ?_;simp(disch:=omega)only[ar,simprocAttr,aEk];exact⟨_,rfl⟩))
def qn:k1:=⟨false,false,false,false,true,true,false,false,66,66,0⟩
def aKG(H:aa):cv 17 [] H (.agg [qn.ins,qn.ic,qn.ky,qn.c2,qn.wr,qn.kz,qn.fJ,qn.kA,.i (.v (.int .u8 (qn).dh)),.i (.v (.int .u8 (qn).s1)),qn.dI]):=cu (by
 refine bz acz ?_;simp(disch:=omega)only[ar,simprocAttr,aDU];exact⟨_,rfl⟩)
def aKH(s:List UInt8)(c:Int)(aR:s.length≤1000)(H:aa):cv 98 [.i (.str s),.i (.v (.int .u8 (c)))] H (↑(Js s c.toNat.toUInt8)):=cu (by
 have ao:∀H:aa,dd E (b3 E) 139 [.i (.str s),.i (.v (.int .u8 (c)))] H=some (.i (.v (.int .i64 (Js s c.toNat.toUInt8))),H):=λ H=>OI (show E.ext 139=some vE from rfl) rfl rfl ⟨[],by simp[vE]⟩
 refine bz ac3 ?_;simp(disch:=omega)only[ar,simprocAttr,aEi,ao];exact⟨_,rfl⟩)
def Rp:List UInt8:=[48,49,50,51,52,53,54,55,56,57,65,66,67,68,69,70]
def GB(out:Int)(b:UInt8):Int:=sa.wrap (sa.wrap (out*16)+sa.wrap (Js Rp ((b.toNat:Int).toNat.toUInt8)))
def aKI{s:List UInt8}{k:Nat}(h:k<s.length):(s.map λ b=>[aC.v (.int .u8 b.toNat)])[k]?=some [.v (.int .u8 s[k].toNat)]:=by simp[h]
def GC:List Int:=[160,9670,9618,9225,9228,9229,9226,176,177,9252,9227,9496,9488,9484,9492,9532,9146,9147,9472,9148,9149,9500,9508,9524,9516,9474,8804,8805,960,8800,163,183]
def Dt:List UInt8:=[48,48,65,48,50,53,67,54,50,53,57,50,50,52,48,57,50,52,48,67,50,52,48,68,50,52,48,65,48,48,66,48,48,48,66,49,50,52,50,52,50,52,48,66,50,53,49,56,50,53,49,48,50,53,48,67,50,53,49,52,50,53,51,67,50,51,66,65,50,51,66,66,50,53,48,48,50,51,66,67,50,51,66,68,50,53,49,67,50,53,50,52,50,53,51,52,50,53,50,67,50,53,48,50,50,50,54,52,50,50,54,53,48,51,67,48,50,50,54,48,48,48,65,51,48,48,66,55]
def Du(m:k1):Int:=if m.dI=1 then m.s1 else m.dh
def mapM(m:k1)(r:Int):Int:=if Du m≠48∨r<95∨r>126 then r else GC.getD (r-95).toNat 0
def aKJ:∀n,n<32→((Dt.drop (4*n)).take 4).foldl GB 0=GC.getD n 0:=by decide+kernel
def aKK(s:List UInt8)(aR:s.length<1000):∀(m k:Nat) (out:Int),k+m=s.length→
  hV vK 0 [(6,.i (.v (.int .i32 out))),(38,.ref 0 0 0 s.length),(39,s.length),(40,k)] [.sl 1 0 ((s).map λ b=>[aC.v (.int .u8 b.toNat)]) false] 0 [(6,.i (.v (.int .i32 ((s.drop k).foldl GB out)))),(38,.ref 0 0 0 s.length),(39,s.length),(40,s.length),(41,false)] [.sl 1 0 ((s).map λ b=>[aC.v (.int .u8 b.toNat)]) false]:=by
 intro m;induction m with
 |zero=>intro k out ay;obtain rfl:k=s.length:=R;rw[mR,List.foldl_nil];generalize bm:((s).map λ b=>[aC.v (.int .u8 b.toNat)])=q;refine(cM vK 0).trans ?_;simp(disch:=omega)only[ar,simprocAttr,Cu,de,Kl]
 |succ m a8=>
  intro k out ay;have be:k<s.length:=R;have bX:=aKI be;have e:=a8 (k+1) (GB out s[k]) R;rw[jq be,yX];have ao:=λ c H=>aKH Rp c (by decide) H
  refine ga ?_ e;clear e a8;generalize bm:((s).map λ b=>[aC.v (.int .u8 b.toNat)])=q at bX⊢;unfold GB;unfold Rp at*;refine(cM vK 0).trans ?_;simp(disch:=omega)only[ar,simprocAttr,Cu,de,bX,ao,Kl]
def aKL(r:Int)(j:95≤r)(I:r≤126):List.foldl GB 0 (ek (((r-95)*4+4).toNat-((r-95)*4).toNat) (eG ((r-95)*4).toNat Dt))=GC.getD (r-95).toNat 0:=by have:=aKJ (r-95).toNat R;rw[show((r-95)*4+4).toNat-((r-95)*4).toNat=4 by omega,show((r-95)*4).toNat=4*(r-95).toNat by omega];exact this
def aKM(m:k1)(r:Int)(ah:-2147483648≤r∧r≤2147483647)(H:aa):cv 52 [.agg [m.ins,m.ic,m.ky,m.c2,m.wr,m.kz,m.fJ,m.kA,.i (.v (.int .u8 (m).dh)),.i (.v (.int .u8 (m).s1)),m.dI],.i (.v (.int .i32 r))] H (.i (.v (.int .i32 (mapM m r)))):=cu (by
 have q0:(mapM m r=r∧(Du m≠48∨r<95∨r>126))∨(mapM m r=GC.getD (r-95).toNat 0∧Du m=48∧95≤r∧r≤126):=by
  unfold mapM;by_cases h:Du m≠48∨r<95∨r>126
  ·exact .inl ⟨if_pos h,h⟩
  ·exact .inr ⟨if_neg h,R⟩
 rcases q0 with⟨he,h⟩|⟨he,h⟩
 ·rw[he];unfold Du at h;by_cases aR:m.dI=1
  ·rw[if_pos aR]at h;rcases h with h|h|h<;>by_cases ba:m.s1=48<;>by_cases bs:r<95<;>first|(exfalso;omega)|(
    refine bz vK ?_;simp(disch:=omega)only[ar,simprocAttr,Cu,de];exact⟨_,rfl⟩)
  ·rw[if_neg aR]at h;rcases h with h|h|h<;>by_cases ba:m.dh=48<;>by_cases bs:r<95<;>first|(exfalso;omega)|(
    refine bz vK ?_;simp(disch:=omega)only[ar,simprocAttr,Cu,de];exact⟨_,rfl⟩)
 ·rw[he,←aKL r h.2.1 h.2.2];obtain⟨aA,aQ1,aQ2⟩:=h;have bm:((Dt.drop ((r-95)*4).toNat).take (((r-95)*4+4).toNat-((r-95)*4).toNat)).length=4:=by rw[hE,iG,show Dt.length=128 from rfl];omega
  have al:=aKK _ (by rw[bm];decide) 4 0 0 (by rw[bm]);rw[il,bm]at al;simp only[gZ,O6]at al;have v7:Dt.length=128:=rfl;unfold Du at aA;unfold Dt at*;by_cases aR:m.dI=1
  ·rw[if_pos aR]at aA;refine bz vK ?_;simp(disch:=omega)only[ar,simprocAttr,Cu,de,al,bm,nM,Kl];exact⟨_,rfl⟩
  ·rw[if_neg aR]at aA;refine bz vK ?_;simp(disch:=omega)only[ar,simprocAttr,Cu,de,al,bm,nM,Kl];exact⟨_,rfl⟩)
def aKN(p n:Int)(m:k1)(z:List U)(T:aa):cn 209 [n,.ptr 2 0 0 0,.ptr 0 0 0 0] (.box [m.ins,m.ic,m.ky,m.c2,m.wr,m.kz,m.fJ,m.kA,.i (.v (.int .u8 (m).dh)),.i (.v (.int .u8 (m).s1)),m.dI]::.box z::.box [.i (.v (.int .u8 (p)))]::T) (Df 0 (x' p n)) (.box [m.ins,m.ic,m.ky,m.c2,m.wr,m.kz,m.fJ,m.kA,.i (.v (.int .u8 (m).dh)),.i (.v (.int .u8 (m).s1)),m.dI]::.box z::.box [.i (.v (.int .u8 (p)))]::T):=by
 obtain⟨L,h⟩:=aIu p n m;cases aI:x' p n with
 |none=>rw[aI]at h;simp[cn,dd,eV,abo,bx,bc,reach,bt,cx,co,Chunk.cI,Chunk.refs,h,Df,df,ea]
 |some k=>rw[aI]at h;simp[cn,dd,eV,abo,bx,bc,reach,bt,cx,co,Chunk.cI,Chunk.refs,h,Df,df,ea]
def aKO(c g r k:Nat):jS E.P .neq 235 (.ptr c g r k) (.i (.v (.pointer none)))=some (.i (.v (.bool true))):=aK
def aKP:jS E.P .neq 235 (.i (.v (.pointer none))) (.i (.v (.pointer none)))=some (.i (.v (.bool false))):=aK
def aKQ(m:k1)(p n:Int)(on:Bool):hV xR 0 [(3,on),(4,.ptr 0 0 0 0),(8,.ptr 1 0 0 0),(9,.aQ (.func 209) [] [.ptr 2 0 0 0,.ptr 0 0 0 0]),(14,.i (.sl 1 [[.v (.int .i64 n)]] false)),(15,↑(1:Int)),(16,↑(1:Int))] [.box [m.ins,m.ic,m.ky,m.c2,m.wr,m.kz,m.fJ,m.kA,.i (.v (.int .u8 (m).dh)),.i (.v (.int .u8 (m).s1)),m.dI],.box [false,false,false,false,false,false,false,false,.i (.v (.int .u8 0)),.i (.v (.int .u8 0)),↑(0:Int)],.box [.i (.v (.int .u8 (p)))]] 0 ([(3,.i (.v (.bool (on)))),(4,.ptr 0 0 0 0),(8,.ptr 1 0 0 0),(9,.aQ (.func 209) [] [.ptr 2 0 0 0,.ptr 0 0 0 0]),(14,.i (.sl 1 [[.v (.int .i64 n)]] false)),(15,.i (.v (.int .i64 (1)))),(16,.i (.v (.int .i64 (1))))]++[(17,.i (.v (.bool (false))))]) [.box [m.ins,m.ic,m.ky,m.c2,m.wr,m.kz,m.fJ,m.kA,.i (.v (.int .u8 (m).dh)),.i (.v (.int .u8 (m).s1)),m.dI],.box [false,false,false,false,false,false,false,false,.i (.v (.int .u8 0)),.i (.v (.int .u8 0)),↑(0:Int)],.box [.i (.v (.int .u8 (p)))]]:=by
 refine(cM xR 0).trans ?_;simp(disch:=omega)only[ar,simprocAttr,J_,bA,Kq]
 try rfl
def aKR(m:k1)(p n:Int)(on:Bool):hV xR 0 [(3,on),(4,.ptr 0 0 0 0),(8,.ptr 1 0 0 0),(9,.aQ (.func 209) [] [.ptr 2 0 0 0,.ptr 0 0 0 0]),(14,.i (.sl 1 [[.v (.int .i64 n)]] false)),(15,↑(1:Int)),(16,↑(0:Int))] [.box [m.ins,m.ic,m.ky,m.c2,m.wr,m.kz,m.fJ,m.kA,.i (.v (.int .u8 (m).dh)),.i (.v (.int .u8 (m).s1)),m.dI],.box [false,false,false,false,false,false,false,false,.i (.v (.int .u8 0)),.i (.v (.int .u8 0)),↑(0:Int)],.box [.i (.v (.int .u8 (p)))]] 0 ([(3,.i (.v (.bool (on)))),(4,.ptr 0 0 0 0),(8,.ptr 1 0 0 0),(9,.aQ (.func 209) [] [.ptr 2 0 0 0,.ptr 0 0 0 0]),(14,.i (.sl 1 [[.v (.int .i64 n)]] false)),(15,.i (.v (.int .i64 (1)))),(16,.i (.v (.int .i64 (1))))]++[(17,.i (.v (.bool (false))))]) [.box [↑((g_ p on m n).ins),↑((g_ p on m n).ic),↑((g_ p on m n).ky),↑((g_ p on m n).c2),↑((g_ p on m n).wr),↑((g_ p on m n).kz),↑((g_ p on m n).fJ),↑((g_ p on m n).kA),.i (.v (.int .u8 (g_ p on m n).dh)),.i (.v (.int .u8 (g_ p on m n).s1)),↑((g_ p on m n).dI)],.box [false,false,false,false,false,false,false,false,.i (.v (.int .u8 0)),.i (.v (.int .u8 0)),↑(0:Int)],.box [.i (.v (.int .u8 (p)))]]:=by
 refine ga ?_ (aKQ (g_ p on m n) p n on);have ao:=λ z T=>aKN p n m z T
 unfold g_;cases aI:x' p n with
 |none=>rw[aI]at ao;simp only[Df]at ao⊢;refine(cM xR 0).trans ?_;simp(disch:=omega)only[ar,simprocAttr,J_,bA,Py,ao,aKP,Kq]
 |some k=>
  have ay:=aIs aI;rw[aI]at ao;simp only[Df]at ao⊢
  match k,ay with
  |0,_|1,_|2,_|3,_|4,_|5,_|6,_|7,_=>simp only[Q1];refine(cM xR 0).trans ?_;simp(disch:=omega)only[ar,simprocAttr,J_,bA,Py,ao,aKO,Kq]
def aKS(m:k1)(p n:Int)(on:Bool)(H:aa):cv 146 [.agg [m.ins,m.ic,m.ky,m.c2,m.wr,m.kz,m.fJ,m.kA,.i (.v (.int .u8 (m).dh)),.i (.v (.int .u8 (m).s1)),m.dI],.i (.v (.int .u8 (p))),.i (.sl 1 [[.v (.int .i64 n)]] false),on] H (.agg [↑((g_ p on m n).ins),↑((g_ p on m n).ic),↑((g_ p on m n).ky),↑((g_ p on m n).c2),↑((g_ p on m n).wr),↑((g_ p on m n).kz),↑((g_ p on m n).fJ),↑((g_ p on m n).kA),.i (.v (.int .u8 (g_ p on m n).dh)),.i (.v (.int .u8 (g_ p on m n).s1)),↑((g_ p on m n).dI)]):=cu (by
 have al:=aKR m p n on;generalize g_ p on m n=bZ at*;refine bz xR ?_;simp(disch:=omega)only[ar,simprocAttr,J_,bA,al,cj,Kq];exact⟨_,rfl⟩)
def Lj(a b:Int):Int:=nK.wrap ((su nK.bits a &&&su nK.bits b).toNat:Int)
def GD(a b:Int):jR .and .i64 a b=some (Lj a b):=rfl
def AA(a:ed):Bool:=!decide (Lj a.cW 64=0)
def hN(m:M):Int:=if m.aF.p=true then m.aF.c else m.aF.c-1
def hj(m:M):Int:=if 0≤hN m∧((fs m).getD (hN m).toNat (cont m.a)).w=0 then hN m-1 else hN m
def l4(r:Int)(a:ed)(c:bl):bl:=if(AA a &&!AA c.a)=true then c else if c.t.length<4 then{c with t:=c.t++[r]}else c
def ru(m:M)(r:Int):M:=if hj m<0 then m else{m with G:=m.G.set m.aF.r.toNat ((fs m).set (hj m).toNat (l4 r m.a ((fs m).getD (hj m).toNat (cont m.a))))}
def eZ.at{l:List bl}(h:eZ l):∀(k:Nat) (c:bl),l[k]?=some c→(c.w≠0∧iL c=true)∨(c.w=0∧∃ac d,k=ac+1∧l[ac]?=some d∧d.w=2∧iL d=true):=by
 induction h with
 |nil=>intro k c ay;simp at ay
 |@one gr l j I av a8=>
  intro k c ay
  match k,ay with
  |0,ay=>cases ay;exact .inl ⟨R,j⟩
  |k+1,ay=>
   rcases a8 k c (by simpa using ay)with h|⟨hw,ac,d,a_,aM⟩
   ·exact .inl h
   ·exact .inr ⟨hw,ac+1,d,R,by simpa using aM⟩
 |@two gr l j I av a8=>
  intro k c ay
  match k,ay with
  |0,ay=>cases ay;exact .inl ⟨R,j⟩
  |1,ay=>cases ay;exact .inr ⟨rfl,0,gr,rfl,rfl,I,j⟩
  |k+2,ay=>
   rcases a8 k c (by simpa using ay)with h|⟨hw,ac,d,a_,aM⟩
   ·exact .inl h
   ·exact .inr ⟨hw,ac+2,d,R,by simpa using aM⟩
def agu{m:M}(hm:bi m)(h:0≤hj m):∃c,(fs m)[(hj m).toNat]?=some c∧iL c=true∧hj m<m.w:=by
 have ah:=hm.row;have ag:=hm.aF.2.1;have j:0≤hN m∧hN m<m.w:=by unfold hj at h;unfold hN at*;split at h<;>split at h<;>(try split)<;>omega
 have I:(fs m)[(hN m).toNat]?=some ((fs m).getD (hN m).toNat (cont m.a)):=by rw[oF,eX R,i1]
 rcases(yf.1 ah.2).at _ _ I with⟨hw,au⟩|⟨hw,ac,d,a_,aM,aKT,au⟩
 ·have e:hj m=hN m:=by unfold hj;rw[if_neg (λ h=>hw h.2)]
  rw[e];exact⟨_,I,au,j.2⟩
 ·have e:hj m=hN m-1:=by unfold hj;rw[if_pos ⟨j.1,hw⟩]
  rw[e,show(hN m-1).toNat=ac by omega];exact⟨d,aM,au,R⟩
def aKU{m:M}(hm:bi m){r:Int}{c:bl}(jl:0≤hj m)(ag:(fs m)[(hj m).toNat]?=some c)(he:l4 r m.a c=c):ru m r=m:=by
 have j:=hm.aF.1;have I:=hm.G.1;have ao:(fs m).set (hj m).toNat c=fs m:=by obtain⟨h,e⟩:=bF.1 ag;rw[←e];exact Br h
 have aH:m.G.set m.aF.r.toNat (fs m)=m.G:=by
  have e:fs m=m.G[m.aF.r.toNat]' R:=by rw[fs,oF,eX R,i1]
  rw[e];exact Br _
 unfold ru;rw[if_neg R,oF,ag,i1,he,ao,aH]
def aKV{m:M}{r:Int}{c:bl}(jl:0≤hj m)(ag:(fs m)[(hj m).toNat]?=some c):ru m r={m with G:=m.G.set m.aF.r.toNat ((fs m).set (hj m).toNat (l4 r m.a c))}:=by unfold ru;rw[if_neg R,oF,ag,i1]
def aKW{m:M}(hm:bi m)(j:0≤hN m):∃gr,(fs m)[(hN m).toNat]?=some gr∧((gr.w≠0∧hj m=hN m∧iL gr=true)∨(gr.w=0∧hj m=hN m-1∧0≤hN m-1∧∃c,(fs m)[(hN m-1).toNat]?=some c∧iL c=true)):=by
 have ah:=hm.row;have ag:=hm.aF.2.1;have I:hN m<m.w:=by unfold hN;split<;>omega
 have av:(fs m)[(hN m).toNat]?=some ((fs m).getD (hN m).toNat (cont m.a)):=by rw[oF,eX R,i1]
 refine⟨_,av,?_⟩;rcases(yf.1 ah.2).at _ _ av with⟨hw,au⟩|⟨hw,ac,d,a_,aM,aKT,au⟩
 ·exact .inl ⟨hw,by unfold hj;rw[if_neg (λ h=>hw h.2)],au⟩
 ·exact .inr ⟨hw,by unfold hj;rw[if_pos ⟨j,hw⟩],R,d,by rw[show(hN m-1).toNat=ac by omega];exact aM,au⟩
def aKX{m:M}(hm:bi m)(r:Int)(ah:-2147483648≤r∧r≤2147483647)(hmk:x2 r=true):hi 90 [.i (.v (.int .i32 (r)))] m (.bd []) (ru m r):=by
 intro ae aD af aG;obtain⟨row,bP,j,I,av,ba,bs,ao,_⟩:=Lb hm.aF.1 hm.G.1;have pI:fs m=row:=by rw[fs,j,oF,ba,i1]
 have bX:=hm.row;rw[pI]at bX;have hw:=hm.w;have ag:=hm.aF.2.1;have fj:=fq row;rw[bX.1]at fj;have hK:=gy m.G;rw[bo acW];simp(disch:=omega)only[ar,simprocAttr,sh,cV,bQ,bV,bH,bs,ao];refine As (λ J H=>(∃t,J=(0,.ptr 0 0 0 0)::(1,.i (.v (.int .i32 (r))))::(4,.x (.h 1 ae aD bP))::(5,.i (.v (.int .i64 (hN m))))::t)∧H=[.box (aT m 1 ae 2 af),.az 5 ae aD (aX m.G),.az 5 af aG (aX m.O)]) ?_ ?_
 ·unfold hN;cases au:m.aF.p with
  |true=>simp(disch:=omega)only[ar,simprocAttr,sh,cV,bQ,bV,bH,au];exact⟨_,_,rfl,⟨_,rfl⟩,rfl⟩
  |false=>simp(disch:=omega)only[ar,simprocAttr,sh,cV,bQ,bV,bH,au];exact⟨_,_,rfl,⟨_,rfl⟩,rfl⟩
 rintro J H ⟨⟨t,rfl⟩,rfl⟩;have pi:-1≤hN m∧hN m<m.w:=by unfold hN;split<;>omega
 by_cases bm:0≤hN m
 ·obtain⟨gr,fZ,eS⟩:=aKW hm bm;rw[pI]at fZ eS;have aKY:=x3 fZ;simp(disch:=omega)only[ar,simprocAttr,sh,cV,bQ,bV,bH,bs,aKY];refine As (λ J H=>(∃t,J=(0,.ptr 0 0 0 0)::(1,.i (.v (.int .i32 (r))))::(4,.x (.h 1 ae aD bP))::(5,.i (.v (.int .i64 (hj m))))::t)∧H=[.box (aT m 1 ae 2 af),.az 5 ae aD (aX m.G),.az 5 af aG (aX m.O)]) ?_ ?_
  ·rcases eS with⟨sG,ay,_⟩|⟨sG,ay,Bq,_⟩
   ·rw[ay];simp(disch:=omega)only[ar,simprocAttr,sh,cV,bQ,bV,bH,sG];exact⟨_,_,rfl,⟨_,rfl⟩,rfl⟩
   ·rw[ay];simp(disch:=omega)only[ar,simprocAttr,sh,cV,bQ,bV,bH,sG];exact⟨_,_,rfl,⟨_,rfl⟩,rfl⟩
  rintro J H ⟨⟨t,rfl⟩,rfl⟩;obtain⟨c,Lk,Gb,jl⟩:∃c,(fs m)[(hj m).toNat]?=some c∧iL c=true∧0≤hj m:=by
   rcases eS with⟨_,ay,au⟩|⟨_,ay,Bq,c,ag,au⟩
   ·exact⟨gr,by rw[ay,pI];exact fZ,au,R⟩
   ·exact⟨c,by rw[ay,pI];exact ag,au,R⟩
  have Ni:=(agu hm jl);obtain⟨_,_,_,aQ3⟩:=Ni;have jA:=aKV (r:=r) jl Lk;have ov:=λ he=>aKU (r:=r) hm jl Lk he
  rw[pI]at Lk jA;have Dv:=x3 Lk;obtain⟨b,dF,bp⟩:=C4 (C6 Gb).1;have agv:=(C6 Gb).1;rw[bp]at agv;have c':=λ H=>aG2 agv r ah hmk H
  have Ll:(c.t.length<4)=(dF.length<3):=by rw[bp,cQ];exact propext R
  rw[bp]at Dv;rw[j]at jA;have agw:∀s:List UInt8,hO (E.kinds 9) [aC.str s]=[aC.str s]:=λ s=>rfl
  generalize hj m=K at*;by_cases aA:Lj m.a.cW 64=0
  ·by_cases hlen:dF.length<3
   ·have he:l4 r m.a c=⟨b::(dF++[r]),c.w,c.a⟩:=by unfold l4 AA;rw[if_neg (by simp[aA]),if_pos (by rw[Ll];exact hlen),bp];rfl
    rw[jA,he];simp only[if_pos hlen]at c';have aR:=QN row K.toNat (b::(dF++[r])) c.w c.a;have aP:=K1 m.G bP (row.set K.toNat ⟨b::(dF++[r]),c.w,c.a⟩);simp(disch:=omega)only[ar,simprocAttr,sh,cV,bQ,bV,bH,bs,Dv,GD,aA,c',agw,cj,aR,aP];exact⟨_,rfl,dZ.dC⟩
   ·have he:l4 r m.a c=c:=by unfold l4 AA;rw[if_neg (by simp[aA]),if_neg (by rw[Ll];exact hlen)]
    rw[ov he];simp only[if_neg hlen]at c';simp(disch:=omega)only[ar,simprocAttr,sh,cV,bQ,bV,bH,bs,Dv,GD,aA,c'];exact⟨_,rfl,dZ.dC⟩
  ·by_cases aj:Lj c.a.cW 64=0
   ·have he:l4 r m.a c=c:=by unfold l4 AA;simp[aA,aj]
    rw[ov he];simp(disch:=omega)only[ar,simprocAttr,sh,cV,bQ,bV,bH,bs,Dv,GD,aA,aj];exact⟨_,rfl,dZ.dC⟩
   ·by_cases hlen:dF.length<3
    ·have he:l4 r m.a c=⟨b::(dF++[r]),c.w,c.a⟩:=by unfold l4 AA;rw[if_neg (by simp[aA,aj]),if_pos (by rw[Ll];exact hlen),bp];rfl
     rw[jA,he];simp only[if_pos hlen]at c';have aR:=QN row K.toNat (b::(dF++[r])) c.w c.a;have aP:=K1 m.G bP (row.set K.toNat ⟨b::(dF++[r]),c.w,c.a⟩);simp(disch:=omega)only[ar,simprocAttr,sh,cV,bQ,bV,bH,bs,Dv,GD,aA,aj,c',agw,cj,aR,aP];exact⟨_,rfl,dZ.dC⟩
    ·have he:l4 r m.a c=c:=by unfold l4 AA;rw[if_neg (by simp[aA,aj]),if_neg (by rw[Ll];exact hlen)]
     rw[ov he];simp only[if_neg hlen]at c';simp(disch:=omega)only[ar,simprocAttr,sh,cV,bQ,bV,bH,bs,Dv,GD,aA,aj,c'];exact⟨_,rfl,dZ.dC⟩
 ·have ay:hj m<0:=by unfold hj;rw[if_neg (λ h=>bm h.1)];omega
  unfold ru;rw[if_pos ay];simp(disch:=omega)only[ar,simprocAttr,sh,cV,bQ,bV,bH,bm];exact⟨_,rfl,dZ.dC⟩
def eZ.aKZ{l:List bl}(h:eZ l):∀(k:Nat) (c cl:bl),l[k]?=some c→c.w≠0→cl.w=c.w→cl.a=c.a→iL cl=true→eZ (l.set k cl):=by
 induction h with
 |nil=>intro k c cl ay;simp at ay
 |@one gr l j I av a8=>
  intro k c cl ay hw p4 aA au
  match k,ay with
  |0,ay=>cases ay;exact .one au R av
  |k+1,ay=>exact .one j I (a8 k c cl (by simpa using ay) hw p4 aA au)
 |@two gr l j I av a8=>
  intro k c cl ay hw p4 aA au
  match k,ay with
  |0,ay=>cases ay;rw[FG,←aA];exact .two au R av
  |1,ay=>cases ay;exact absurd rfl hw
  |k+2,ay=>exact .two j I (a8 k c cl (by simpa using ay) hw p4 aA au)
def aK0{c:bl}(h:iL c=true):c.w≠0:=by obtain⟨j,I,_⟩:=C6 h;obtain⟨b,dF,bp⟩:=C4 j;rw[bp]at j I;have:=(Af j).2.1;simp only[C5]at I;omega
def aK1{c:bl}(h:iL c=true){r:Int}(hm:x2 r=true)(aP:gE r=true)(a:ed):iL (l4 r a c)=true∧(l4 r a c).w=c.w∧(l4 r a c).a=c.a:=by
 unfold l4;split
 ·exact⟨h,rfl,rfl⟩
 ·split
  ·rename_i al;refine⟨?_,rfl,rfl⟩;obtain⟨j,I,av⟩:=C6 h;obtain⟨b,dF,bp⟩:=C4 j;have Ew:=I;rw[bp]at j I al;obtain⟨bG,bC,cE,eU⟩:=Af j;simp only[cQ]at al;simp only[FF,cR]at bG;simp only[iL,bp,xH,oP,C5,cR,decide_eq_true_eq,List.all_append,FF,List.all_nil,dp,cU,zQ];refine⟨⟨⟨⟨bG.1,bG.2,aP⟩,⟨bC,cE,hm⟩,R⟩,I⟩,av⟩
  ·exact⟨h,rfl,rfl⟩
def bi.mark{m:M}(h:bi m){r:Int}(hm:x2 r=true)(aP:gE r=true):bi (ru m r):=by
 unfold ru;split
 ·exact h
 ·rename_i ay;obtain⟨c,ag,au,_⟩:=agu h R;rw[oF,ag,i1];have ah:=h.row;obtain⟨cm,cy,fc⟩:=aK1 au hm aP m.a;exact h.uu ⟨by rw[jC];exact ah.1,((yf.1 ah.2).aKZ _ c _ ag (aK0 au) cy fc cm).p⟩ _
def aK2{r:Int}(h:gE r=true):(Hl r).data.toList=dN [r]:=by
 simp only[gE,cR,decide_eq_true_eq,qW,NX,decide_eq_false_iff_not]at h;obtain⟨n,rfl⟩:=jb h.1.1;have bh:Utf8.valid (n:Int)=true:=by unfold Utf8.valid;simp;omega
 unfold Hl dN eP;simp only[bh,if_true,nV,O3,r9,c8];rw[if_neg (show¬((n:Int)<0∨(55296≤(n:Int)∧(n:Int)≤57343)∨1114111<(n:Int))by omega)];by_cases j:n<128
 ·rw[if_pos j,if_pos (show(n:Int)≤127 by omega)];rfl
 ·rw[if_neg j,if_neg (show¬(n:Int)≤127 by omega)];by_cases I:n<2048
  ·rw[if_pos I,if_pos (show(n:Int)≤2047 by omega)];simp only[fT,fh,fm];rw[show(192+(n:Int)/64).toNat=192+n/64 by omega,show(128+(n:Int)%64).toNat=128+n%64 by omega]
  ·rw[if_neg I,if_neg (show¬(n:Int)≤2047 by omega)];by_cases av:n<65536
   ·rw[if_pos av,if_pos (show(n:Int)≤65535 by omega)];simp only[fT,fh,fm];rw[show(224+(n:Int)/4096).toNat=224+n/4096 by omega,show(128+(n:Int)/64%64).toNat=128+n/64%64 by omega,show(128+(n:Int)%64).toNat=128+n%64 by omega]
   ·rw[if_neg av,if_neg (show¬(n:Int)≤65535 by omega)];simp only[fT,fh,fm];rw[show(240+(n:Int)/262144).toNat=240+n/262144 by omega,show(128+(n:Int)/4096%64).toNat=128+n/4096%64 by omega,show(128+(n:Int)/64%64).toNat=128+n/64%64 by omega,show(128+(n:Int)%64).toNat=128+n%64 by omega]
def mW(m:M):M:=rs m 0
def qo(m:M):M:=if(m.aF.p &&m.md.wr)=true then mA (mW m)else m
def uw(m:M)(w:Int):M:=if m.w<m.aF.c+w then(if m.md.wr=true then mA (mW m)else rs m (m.w-w))else m
def wj(m:M)(w:Int):M:=if m.md.ins=true then{m with G:=m.G.set m.aF.r.toNat (mz (fs m) m.aF.c.toNat w.toNat m.a)}else m
def AB(m:M)(r w:Int):M:={m with G:=m.G.set m.aF.r.toNat (oR (fs m) m.aF.c.toNat [r] w m.a)}
def GF(m:M)(w:Int):M:=if m.aF.c+w=m.w then{m with aF:={m.aF with c:=m.w-1,p:=m.md.wr}}else{m with aF:={m.aF with c:=m.aF.c+w}}
def wk(m:M):M:={m with aF:={m.aF with p:=false}}
def Dw(m:M)(r:Int):M:=if wid r<0∨m.w<wid r then m else if wid r=0 then ru m r else GF (AB (wj (uw (wk (qo m)) (wid r)) (wid r)) r (wid r)) (wid r)
def Rq(m:M):(mA m).w=m.w∧(mA m).h=m.h∧(mA m).md=m.md∧(mA m).a=m.a∧(mA m).aF.c=(oT m.aF (cf m)).1.c:=by unfold mA;split<;>exact⟨rfl,rfl,rfl,rfl,rfl⟩
def aK3{m:M}(h:bi m)(aW:m.aF.c=0):(mA m).aF.c=0:=by
 rw[(Rq m).2.2.2.2];have hw:=h.w;have e:(gb m.aF (cf m)).c=0:=by show eH m.aF.c 0 ((m.w:Int)-1)=0;rw[aW];unfold eH;omega
 unfold oT js;split
 ·exact e
 ·show(gb _ (cf m)).c=0;show eH (gb m.aF (cf m)).c 0 ((m.w:Int)-1)=0;rw[e];unfold eH;omega
def bi.l5{m:M}(h:bi m):bi (mW m):=h.bb (by have:=h.w;omega)
def bi.yl{m:M}(h:bi m):bi (qo m)∧(qo m).w=m.w:=by
 unfold qo;split
 ·exact⟨h.l5.feed,(Rq _).1⟩
 ·exact⟨h,rfl⟩
def bi.wk{m:M}(h:bi m):bi (wk m):=h.kk
def bi.hY{m:M}(h:bi m){w:Int}(hw:1≤w∧w≤m.w)(au:m.aF.p=false):bi (uw m w)∧(uw m w).w=m.w∧(uw m w).aF.c+w≤m.w∧(uw m w).aF.p=false:=by
 have ag:=h.aF.2.1;unfold uw;split
 ·split
  ·refine⟨h.l5.feed,(Rq _).1,by rw[aK3 h.l5 rfl];omega,?_⟩;unfold mA oT;split<;>split<;>rfl
  ·exact⟨h.bb R,rfl,by simp only[rs];omega,rfl⟩
 ·exact⟨h,rfl,R,au⟩
def bi.Lm{m:M}(h:bi m){w:Int}:bi (wj m w)∧(wj m w).w=m.w∧(wj m w).aF=m.aF:=by
 unfold wj;split
 ·have j:=h.row;have I:=h.aF.2.1;have ag:m.aF.c.toNat<(fs m).length:=R;exact⟨h.uu ⟨by rw[mz,KW,Ge ag];exact j.1,((yf.1 j.2).mz _ _ h.a).p⟩ _,rfl,rfl⟩
 ·exact⟨h,rfl,rfl⟩
def agx{r:Int}(aP:gE r=true)(hw:1≤wid r){a:ed}(aA:h_ a=true):iL ⟨[r],wid r,a⟩=true∧oP [r]=true:=by
 have j:oP [r]=true:=by simp[oP,aP,hw]
 exact⟨by simp only[iL,j,C5,aA,decide_true,M_],j⟩
def bi.Rr{m:M}(h:bi m){r:Int}(aP:gE r=true)(hw:1≤wid r)(ag:m.aF.c+wid r≤m.w):bi (AB m r (wid r))∧(AB m r (wid r)).w=m.w∧(AB m r (wid r)).aF=m.aF:=by
 have j:=h.row;have I:=h.aF.2.1;have th:wid r=1∨wid r=2:=by have:=Qo r;omega
 exact⟨h.uu ⟨by rw[afk];exact j.1,((yf.1 j.2).oR th (by rw[j.1];omega) (agx aP hw h.a).1).p⟩ _,rfl,rfl⟩
def bi.Rs{m:M}(h:bi m){w:Int}(hw:1≤w)(ag:m.aF.c+w≤m.w)(au:m.aF.p=false):bi (GF m w):=by
 have I:=h.aF;unfold GF;split
 ·exact h.jO ⟨I.1,by simp only;omega,λ _=>rfl⟩
 ·exact h.jO ⟨I.1,by simp only;omega,by simp[au]⟩
def bi.Rt{m:M}(h:bi m){r:Int}(aP:gE r=true):bi (Dw m r):=by
 have aK4:=Qo r;unfold Dw;split
 ·exact h
 ·split
  ·rename_i aW;exact h.mark (aeo aW) aP
  ·have bY:=h.yl;have Nj:=bY.1.wk;have cJ:=Nj.hY (w:=wid r) (by show 1≤wid r∧wid r≤(qo m).w;rw[bY.2];omega) rfl;have ap:=cJ.1.Lm (w:=wid r);have lK:=ap.1.Rr aP R (by rw[ap.2.2,ap.2.1,cJ.2.1];exact cJ.2.2.1);exact lK.1.Rs R (by rw[lK.2.2,ap.2.2,lK.2.1,ap.2.1,cJ.2.1];exact cJ.2.2.1) (by rw[lK.2.2,ap.2.2];exact cJ.2.2.2)
def aK5{m:M}(hm:bi m)(r:Int)(ah:-2147483648≤r∧r≤2147483647)(aP:gE r=true):hi 51 [.i (.v (.int .i32 (r)))] m (.bd []) (Dw m r):=by
 intro ae aD af aG;have vt:=λ H=>Qn r H
 have aK4:=Qo r;have hw:=hm.w;unfold Dw;by_cases j:wid r<0∨m.w<wid r
 ·rw[if_pos j];rcases j with j|j
  ·rw[bo FN];simp(disch:=omega)only[ar,simprocAttr,nW,cV,bQ,bV,bH,vt];exact⟨_,rfl,dZ.dC⟩
  ·rw[bo FN];simp(disch:=omega)only[ar,simprocAttr,nW,cV,bQ,bV,bH,vt];exact⟨_,rfl,dZ.dC⟩
 ·rw[if_neg j];have aQ4:¬wid r<0:=λ h=>j (.inl h)
  have aQ5:¬(m.w:Int)<wid r:=λ h=>j (.inr h)
  by_cases aW:wid r=0
  ·rw[if_pos aW];obtain⟨H1,ao,fe⟩:=l3 (f:=90) rfl rfl rfl (aKX hm r ah (aeo aW)) (hX.dC (m:=m) (ae:=ae) (af:=af) (aD:=aD) (aG:=aG) (T:=[]));rw[bo FN];simp(disch:=omega)only[ar,simprocAttr,nW,cV,bQ,bV,bH,vt,aW,ao];exact⟨_,rfl,fe.iN⟩
  ·rw[if_neg aW];rw[bo FN];simp(disch:=omega)only[ar,simprocAttr,nW,cV,bQ,bV,bH,vt];generalize agy:wid r=w at*;refine As (λ J H=>(∃t,J=(0,.ptr 0 0 0 0)::(1,.i (.v (.int .i32 (r))))::(4,.i (.v (.int .i64 (w))))::(5,.i (.v (.int .i64 (m.w))))::t)∧hX (qo m) H) ?_ ?_
   ·cases au:m.aF.p with
    |false=>
     have e:qo m=m:=by unfold qo;rw[if_neg (by simp[au])]
     rw[e];simp(disch:=omega)only[ar,simprocAttr,nW,cV,bQ,bV,bH,au];exact⟨_,_,rfl,⟨_,rfl⟩,hX.dC⟩
    |true=>
     cases AC:m.md.wr with
     |false=>
      have e:qo m=m:=by unfold qo;rw[if_neg (by simp[AC])]
      rw[e];simp(disch:=omega)only[ar,simprocAttr,nW,cV,bQ,bV,bH,au,AC];exact⟨_,_,rfl,⟨_,rfl⟩,hX.dC⟩
     |true=>
      have e:qo m=mA (mW m):=by unfold qo;rw[if_pos (by simp[au,AC])]
      rw[e];have ao:=Gm (m:=m) (a:=0) (b:=1) (ae:=ae) (af:=af) (T:=[.az 5 ae aD (aX m.G),.az 5 af aG (aX m.O)]) rfl rfl (by decide);obtain⟨bu,aH,dz⟩:=l3 (f:=92) rfl rfl rfl (Gu hm.l5) (hX.dC (m:=mW m) (ae:=ae) (af:=af) (aD:=aD) (aG:=aG) (T:=[]));simp only[cp,c1]at ao;simp only[mW,rs]at aH;simp(disch:=omega)only[ar,simprocAttr,nW,cV,bQ,bV,bH,au,AC,ao,aH];exact⟨_,_,rfl,⟨_,rfl⟩,dz⟩
   have bY:=hm.yl;obtain⟨gW,w'⟩:=bY;generalize qo m=m1 at*;rintro J H ⟨⟨t,rfl⟩,a,ae,b,af,T,rfl,ax⟩;have gI:=gW.aF.2.1;simp(disch:=omega)only[ar,simprocAttr,nW,cV,bQ,bV,bH];obtain⟨m2,wl⟩:∃m2,wk m1=m2:=⟨_,rfl⟩;have gB:bi m2:=by rw[←wl];exact gW.wk
   have th:m2.w=m.w:=by rw[←wl];exact w'
   have pC:m2.aF.p=false:=by rw[←wl];rfl
   have ff:m2.aF.c=m1.aF.c:=by rw[←wl];rfl
   have iC:m2.md.wr=m1.md.wr:=by rw[←wl];rfl
   replace ax:hh 1 m2 (a+1) ae (b+1) af T:=by rw[←wl];exact ax
   rw[wl,show({m1 with aF:=⟨m1.aF.r,m1.aF.c,false⟩}:M)=m2 from wl,←ff,←iC];rw[←ff]at gI;clear wl ff iC gW;refine As (λ J H=>(∃t,J=(0,.ptr 0 0 0 0)::(1,.i (.v (.int .i32 (r))))::(4,.i (.v (.int .i64 (w))))::(5,.i (.v (.int .i64 (m.w))))::t)∧hX (uw m2 w) H) ?_ ?_
   ·unfold uw;rw[th];by_cases be:(m.w:Int)<m2.aF.c+w
    ·rw[if_pos be];have agz:=ax;obtain⟨bW,bR,oU,nx,At,Au,wm,mX,wo,_⟩:=ax;obtain rfl:a=bW:=R;obtain rfl:b=bR:=R;cases AC:m2.md.wr with
     |true=>have ao:=Gm (m:=m2) (ae:=ae) (af:=af) wm mX wo;obtain⟨bu,aH,dz⟩:=l3 (f:=92) rfl rfl rfl (Gu gB.l5) (H:=.box (aT (mW m2) (a+1) ae (b+1) af)::T) ⟨a,ae,b,af,T,rfl,agz⟩;simp only[mW,rs]at aH;simp(disch:=omega)only[ar,simprocAttr,nW,cV,bQ,bV,bH,AC,be,ao,aH];exact⟨_,_,rfl,⟨_,rfl⟩,dz⟩
     |false=>have ao:=K6 (m:=m2) (ae:=ae) (af:=af) wm mX wo ((m.w:Int)-w);simp(disch:=omega)only[ar,simprocAttr,nW,cV,bQ,bV,bH,AC,be,ao];exact⟨_,_,rfl,⟨_,rfl⟩,a,ae,b,af,T,rfl,agz⟩
    ·rw[if_neg be];simp(disch:=omega)only[ar,simprocAttr,nW,cV,bQ,bV,bH,be];exact⟨_,_,rfl,⟨_,rfl⟩,a,ae,b,af,T,rfl,ax⟩
   have cJ:=gB.hY (w:=w) (by rw[th];omega) pC;obtain⟨n_,AD,w9,aK6⟩:=cJ;rw[th]at AD w9;generalize uw m2 w=m3 at*;clear ax gB th pC gI;rintro J H ⟨⟨t2,rfl⟩,a2,ym,dz,wq,gQ,rfl,ax⟩;have Ru:=n_.aF.2.1;rw[AD]at Ru;obtain⟨wn,Rv⟩:=jb (show 0≤w by omega);obtain⟨iN,sK⟩:=jb Ru.1;simp(disch:=omega)only[ar,simprocAttr,nW,cV,bQ,bV,bH];refine As (λ J H=>(∃t,J=(0,.ptr 0 0 0 0)::(1,.i (.v (.int .i32 (r))))::(4,.i (.v (.int .i64 (w))))::(5,.i (.v (.int .i64 (m.w))))::t)∧hX (wj m3 w) H) ?_ ?_
   ·unfold wj;cases hn:m3.md.ins with
    |false=>simp only[fF,if_false];simp(disch:=omega)only[ar,simprocAttr,nW,cV,bQ,bV,bH,hn];exact⟨_,_,rfl,⟨_,rfl⟩,a2,ym,dz,wq,gQ,rfl,ax⟩
    |true=>
     simp only[if_true];obtain⟨aQ6,row,bX,dn,sI,ko,Rw,Rx⟩:=age ax n_.aF.1 n_.G.1;have GG:fs m3=row:=by rw[fs,oF,bX,i1]
     have pI:=n_.row;rw[GG,AD]at pI;have bN:=λ H=>afl (l:=row) R pI.2 iN wn R R R m3.a H
     have nO:(mz row iN wn m3.a).length=m.w:=by rw[mz,KW,Ge R];exact pI.1
     obtain⟨xg,GH,Ln⟩:=Rx (mz row iN wn m3.a);rw[nO]at GH;rw[pI.1,←sK,←Rv]at bN;rw[GG,sK,Rv,nV,nV];rw[←Rv];have fj:=fq row;have hK:=gy m3.G;rw[←sK]at*;obtain⟨mX,Gw,Dm,Ry⟩:(∃aG,gQ[dz]?=some (.az 5 wq aG (aX m3.O)))∧¬gQ.length≤dz∧¬gQ.length≤a2∧¬dz=a2:=by obtain⟨bW,bR,oU,nx,At,Au,wm,mX,wo,_⟩:=ax;obtain rfl:a2=bW:=R;obtain rfl:dz=bR:=R;exact⟨⟨nx,mX⟩,e'.2 (bF.1 mX).1,e'.2 (bF.1 wm).1,a' wo⟩
     obtain⟨aQ7,mX⟩:=mX;have bf:∀x:Nat,(x+1+1000000==0)=false:=λ x=>rfl
     simp(disch:=omega)only[ar,simprocAttr,nW,cV,bQ,bV,bH,hn,Rw,dn,sI,ko,bN,GH,jC,mX,Dm,Gw,Ry,bf,ra,M_];exact⟨_,_,rfl,⟨_,rfl⟩,a2,ym,dz,wq,xg,rfl,Ln⟩
   have ap:=n_.Lm (w:=w);obtain⟨mY,Dx,agA⟩:=ap;rw[AD]at Dx;rw[←agA]at w9 aK6 Ru sK;generalize wj m3 w=m4 at*;clear ax n_ AD agA;rintro J H ⟨⟨t3,rfl⟩,a,ae,b,af,T,rfl,ax⟩;obtain⟨aQ8,row,bX,dn,sI,ko,Rw,Rx⟩:=age ax mY.aF.1 mY.G.1;have GG:fs m4=row:=by rw[fs,oF,bX,i1]
   have pI:=mY.row;rw[GG,Dx]at pI;have Eg:=agx aP (show 1≤wid r by omega) mY.a;have bN:=λ H=>aHj (l:=row) R R pI.2 iN (b:=r) (dF:=[]) Eg.2 (by rw[agy];omega) R m4.a H
   have nO:(oR row iN [r] w m4.a).length=m.w:=by rw[afk];exact pI.1
   obtain⟨xg,GH,Ln⟩:=Rx (oR row iN [r] w m4.a);rw[nO]at GH;rw[pI.1,←sK,agy]at bN;have aK7:AB m4 r w={m4 with G:=m4.G.set m4.aF.r.toNat (oR row iN [r] w m4.a)}:=by unfold AB;rw[GG,sK,nV]
   have jB:=aK2 aP;have fj:=fq row;have hK:=gy m4.G;obtain⟨mX,Gw,Dm,Ry⟩:(∃aG,T[b]?=some (.az 5 af aG (aX m4.O)))∧¬T.length≤b∧¬T.length≤a∧¬b=a:=by obtain⟨bW,bR,oU,nx,At,Au,wm,mX,wo,_⟩:=ax;obtain rfl:a=bW:=R;obtain rfl:b=bR:=R;exact⟨⟨nx,mX⟩,e'.2 (bF.1 mX).1,e'.2 (bF.1 wm).1,a' wo⟩
   obtain⟨aQ9,mX⟩:=mX;have bf:∀x:Nat,(x+1+1000000==0)=false:=λ x=>rfl
   rw[aK7];simp(disch:=omega)only[ar,simprocAttr,nW,cV,bQ,bV,bH,Rw,dn,sI,ko,jB,bN,GH,jC,mX,Dm,Gw,Ry,bf,ra,M_];unfold GF;simp only[Dx];by_cases Lo:m4.aF.c+w=m.w
   ·rw[if_pos Lo];simp(disch:=omega)only[ar,simprocAttr,nW,cV,bQ,bV,bH,Lo];exact⟨_,rfl,ye Ln⟩
   ·rw[if_neg Lo];simp(disch:=omega)only[ar,simprocAttr,nW,cV,bQ,bV,bH,Lo];exact⟨_,rfl,ye Ln⟩
def GI(m:M):M:=if m.md.ic=true then mW m else m
def Dy(m:M)(c:Int):M:=
 if c=8 then{m with aF:=mV m.aF (-1) (cf m)}else if c=9 then rs m (n8 m.cD m.aF.c)else if c=10∨c=11∨c=12 then GI (mA m)
 else if c=13 then mW m else if c=14 then{m with md:={m.md with dI:=1}}else if c=15 then{m with md:={m.md with dI:=0}}else m
def bi.Lp{m:M}(h:bi m){d:k1}(aM:(d.dh=66∨d.dh=48)∧(d.s1=66∨d.s1=48)∧(d.dI=0∨d.dI=1)):bi {m with md:=d}:=
 {w:=h.w,h:=h.h,G:=h.G,O:=h.O,aF:=h.aF,bO:=h.bO,a:=h.a,aD:=h.aD,cY:=h.cY,cD:=h.cD,back:=h.back,bK:=aM,hM:=h.hM,eK:=h.eK,ds:=h.ds}
def bi.ic{m:M}(h:bi m):bi (GI m):=by
 unfold GI;split
 ·exact h.l5
 ·exact h
def bi.Rz{m:M}(h:bi m)(c:Int):bi (Dy m c):=by
 have hw:=h.w;have bp:=h.cD;have aR:=h.bK;unfold Dy;split
 ·exact h.jO (La _ _ h)
 ·split
  ·exact h.bb (by have:=agj (l:=m.cD) R m.aF.c;omega)
  ·split
   ·exact h.feed.ic
   ·split
    ·exact h.l5
    ·split
     ·exact h.Lp ⟨aR.1,aR.2.1,.inr rfl⟩
     ·split
      ·exact h.Lp ⟨aR.1,aR.2.1,.inl rfl⟩
      ·exact h
def aK8{m:M}(hm:bi m)(c:Int):hi 53 [.i (.v (.int .u8 (c)))] m (.bd []) (Dy m c):=by
 intro ae aD af aG;have hw:=hm.w;have bp:=hm.cD;unfold Dy;by_cases gP:c=8
 ·subst gP;rw[if_pos rfl];have ao:=aJC (m:=m) (a:=0) (b:=1) (ae:=ae) (af:=af) (T:=[.az 5 ae aD (aX m.G),.az 5 af aG (aX m.O)]) rfl rfl (by decide) hm.cf (-1);simp only[cp,c1]at ao;rw[bo vL];simp(disch:=omega)only[ar,simprocAttr,xN,eO,bQ,bV,bH,ao];exact⟨_,rfl,dZ.dC⟩
 ·rw[if_neg gP];by_cases gp:c=9
  ·subst gp;rw[if_pos rfl];have ao:=K6 (m:=m) (a:=0) (b:=1) (ae:=ae) (af:=af) (T:=[.az 5 ae aD (aX m.G),.az 5 af aG (aX m.O)]) rfl rfl (by decide) (n8 m.cD m.aF.c);have aH:=λ H=>afF m.cD m.aF.c R H
   simp only[cp,c1]at ao;rw[bo vL];simp(disch:=omega)only[ar,simprocAttr,xN,eO,bQ,bV,bH,ao,aH];exact⟨_,rfl,dZ.dC⟩
  ·rw[if_neg gp];by_cases rT:c=10∨c=11∨c=12
   ·rw[if_pos rT];obtain⟨H1,ao,fe⟩:=l3 (f:=92) rfl rfl rfl (Gu hm) (hX.dC (m:=m) (ae:=ae) (af:=af) (aD:=aD) (aG:=aG) (T:=[]));obtain⟨a,ke,b,kf,T,rfl,ax⟩:=fe;generalize mA m=m1 at*;unfold GI;obtain⟨bW,bR,oU,nx,At,Au,wm,mX,wo,cc⟩:=ax;obtain rfl:a=bW:=R;obtain rfl:b=bR:=R;have aH:=Gm (m:=m1) (ae:=ke) (af:=kf) wm mX wo;have ax:hh 1 m1 (a+1) ke (b+1) kf T:=⟨a,b,oU,nx,rfl,rfl,wm,mX,wo,cc⟩;cases nO:m1.md.ic with
    |false=>
     simp only[fF,if_false];rcases rT with rfl|rfl|rfl<;>(
      rw[bo vL];simp(disch:=omega)only[ar,simprocAttr,xN,eO,bQ,bV,bH,ao,nO];exact⟨_,rfl,ye ax⟩)
    |true=>
     simp only[if_true];rcases rT with rfl|rfl|rfl<;>(
      rw[bo vL];simp(disch:=omega)only[ar,simprocAttr,xN,eO,bQ,bV,bH,ao,aH,nO];exact⟨_,rfl,ye (m:=mW m1) ax⟩)
   ·rw[if_neg rT];have aQ_:¬c=10:=λ h=>rT (.inl h)
    have aQ':¬c=11:=λ h=>rT (.inr (.inl h))
    have aRa:¬c=12:=λ h=>rT (.inr (.inr h))
    by_cases agB:c=13
    ·subst agB;rw[if_pos rfl];have ao:=Gm (m:=m) (a:=0) (b:=1) (ae:=ae) (af:=af) (T:=[.az 5 ae aD (aX m.G),.az 5 af aG (aX m.O)]) rfl rfl (by decide);simp only[cp,c1]at ao;rw[bo vL];simp(disch:=omega)only[ar,simprocAttr,xN,eO,bQ,bV,bH,ao];exact⟨_,rfl,dZ.dC⟩
    ·rw[if_neg agB];by_cases agC:c=14
     ·subst agC;rw[if_pos rfl];have ao:=λ H=>agt m.md 1 (.inr rfl) H
      rw[bo vL];simp(disch:=omega)only[ar,simprocAttr,xN,eO,bQ,bV,bH,ao];exact⟨_,rfl,dZ.dC⟩
     ·rw[if_neg agC];by_cases agD:c=15
      ·subst agD;rw[if_pos rfl];have ao:=λ H=>agt m.md 0 (.inl rfl) H
       rw[bo vL];simp(disch:=omega)only[ar,simprocAttr,xN,eO,bQ,bV,bH,ao];exact⟨_,rfl,dZ.dC⟩
      ·rw[if_neg agD];rw[bo vL];simp(disch:=omega)only[ar,simprocAttr,xN,eO,bQ,bV,bH];exact⟨_,rfl,dZ.dC⟩
def pJ(n:Int):Bool:=decide (n=47∨n=1047∨n=1049)
def Lq(H:aa):cv 149 [] H (.i (.sl 1 [[.v (.int .i64 47)],[.v (.int .i64 1047)],[.v (.int .i64 1049)]] false)):=cu (by
 refine bz adv ?_;simp(disch:=omega)only[ar,simprocAttr,aEF,bA];exact⟨_,rfl⟩)
def RA{n:Int}(h:¬n=47):ej E 0 211 (fg Tryz.f211 0) [(0,.i (.sl 1 [[.v (.int .i64 47)],[.v (.int .i64 1047)],[.v (.int .i64 1049)]] false)),(1,.i (.v (.int .i64 (n)))),(7,.i (.v (.int .i64 (3)))),(8,.i (.v (.int .i64 (0))))] []=ej E 0 211 (fg Tryz.f211 0) [(0,.i (.sl 1 [[.v (.int .i64 47)],[.v (.int .i64 1047)],[.v (.int .i64 1049)]] false)),(1,.i (.v (.int .i64 (n)))),(7,.i (.v (.int .i64 (3)))),(8,.i (.v (.int .i64 (1))))] []:=by rw[cM sj 0];simp(disch:=omega)only[ar,simprocAttr,vN,bA,vO]
def agE{n:Int}(h:¬n=1047):ej E 0 211 (fg Tryz.f211 0) [(0,.i (.sl 1 [[.v (.int .i64 47)],[.v (.int .i64 1047)],[.v (.int .i64 1049)]] false)),(1,.i (.v (.int .i64 (n)))),(7,.i (.v (.int .i64 (3)))),(8,.i (.v (.int .i64 (1))))] []=ej E 0 211 (fg Tryz.f211 0) [(0,.i (.sl 1 [[.v (.int .i64 47)],[.v (.int .i64 1047)],[.v (.int .i64 1049)]] false)),(1,.i (.v (.int .i64 (n)))),(7,.i (.v (.int .i64 (3)))),(8,.i (.v (.int .i64 (2))))] []:=by rw[cM sj 0];simp(disch:=omega)only[ar,simprocAttr,vN,bA,vO]
def aK9{n:Int}(h:¬n=1049):ej E 0 211 (fg Tryz.f211 0) [(0,.i (.sl 1 [[.v (.int .i64 47)],[.v (.int .i64 1047)],[.v (.int .i64 1049)]] false)),(1,.i (.v (.int .i64 (n)))),(7,.i (.v (.int .i64 (3)))),(8,.i (.v (.int .i64 (2))))] []=ej E 0 211 (fg Tryz.f211 0) [(0,.i (.sl 1 [[.v (.int .i64 47)],[.v (.int .i64 1047)],[.v (.int .i64 1049)]] false)),(1,.i (.v (.int .i64 (n)))),(7,.i (.v (.int .i64 (3)))),(8,.i (.v (.int .i64 (3))))] []:=by rw[cM sj 0];simp(disch:=omega)only[ar,simprocAttr,vN,bA,vO]
def aK_{n:Int}:hV sj 0 [(0,.i (.sl 1 [[.v (.int .i64 47)],[.v (.int .i64 1047)],[.v (.int .i64 1049)]] false)),(1,n),(7,↑(3:Int)),(8,↑(3:Int))] [] 0 [(0,.i (.sl 1 [[.v (.int .i64 47)],[.v (.int .i64 1047)],[.v (.int .i64 1049)]] false)),(1,n),(7,↑(3:Int)),(8,↑(3:Int)),(9,false)] []:=by refine(cM sj 0).trans ?_;simp(disch:=omega)only[ar,simprocAttr,vN,bA,vO]
def aK'{n:Int}(h:n=47):ej E 0 211 (fg Tryz.f211 0) [(0,.i (.sl 1 [[.v (.int .i64 47)],[.v (.int .i64 1047)],[.v (.int .i64 1049)]] false)),(1,.i (.v (.int .i64 (n)))),(7,.i (.v (.int .i64 (3)))),(8,.i (.v (.int .i64 (0))))] []=some (.ret,[(4,.i (.v (.int .i64 (0))))],[]):=by rw[cM sj 0];simp(disch:=omega)only[ar,simprocAttr,vN,bA,vO]
def aLa{n:Int}(h:n=1047):ej E 0 211 (fg Tryz.f211 0) [(0,.i (.sl 1 [[.v (.int .i64 47)],[.v (.int .i64 1047)],[.v (.int .i64 1049)]] false)),(1,.i (.v (.int .i64 (n)))),(7,.i (.v (.int .i64 (3)))),(8,.i (.v (.int .i64 (1))))] []=some (.ret,[(4,.i (.v (.int .i64 (1))))],[]):=by rw[cM sj 0];simp(disch:=omega)only[ar,simprocAttr,vN,bA,vO]
def aLb{n:Int}(h:n=1049):ej E 0 211 (fg Tryz.f211 0) [(0,.i (.sl 1 [[.v (.int .i64 47)],[.v (.int .i64 1047)],[.v (.int .i64 1049)]] false)),(1,.i (.v (.int .i64 (n)))),(7,.i (.v (.int .i64 (3)))),(8,.i (.v (.int .i64 (2))))] []=some (.ret,[(4,.i (.v (.int .i64 (2))))],[]):=by rw[cM sj 0];simp(disch:=omega)only[ar,simprocAttr,vN,bA,vO]
def aLc(n:Int):∃ac:Int,((pJ n=true∧0≤ac∧ac≤3)∨(pJ n=false∧ac=-1))∧∀H,cv 211 [.i (.sl 1 [[.v (.int .i64 47)],[.v (.int .i64 1047)],[.v (.int .i64 1049)]] false),n] H ac:=by
 have key:(∃ac:Int,(pJ n=true∧0≤ac∧ac≤3)∧ej E 0 211 (fg Tryz.f211 0) [(0,.i (.sl 1 [[.v (.int .i64 47)],[.v (.int .i64 1047)],[.v (.int .i64 1049)]] false)),(1,.i (.v (.int .i64 (n)))),(7,.i (.v (.int .i64 (3)))),(8,.i (.v (.int .i64 (0))))] []=some (.ret,[(4,.i (.v (.int .i64 (ac))))],[]))∨(pJ n=false∧ej E 0 211 (fg Tryz.f211 0) [(0,.i (.sl 1 [[.v (.int .i64 47)],[.v (.int .i64 1047)],[.v (.int .i64 1049)]] false)),(1,.i (.v (.int .i64 (n)))),(7,.i (.v (.int .i64 (3)))),(8,.i (.v (.int .i64 (0))))] []=some (.exit 0,[(0,.i (.sl 1 [[.v (.int .i64 47)],[.v (.int .i64 1047)],[.v (.int .i64 1049)]] false)),(1,.i (.v (.int .i64 (n)))),(7,.i (.v (.int .i64 (3)))),(8,.i (.v (.int .i64 (3)))),(9,.i (.v (.bool (false))))],[])):=by
  by_cases aW:n=47
  ·exact .inl ⟨0,⟨by simp[pJ,aW],R⟩,aK' aW⟩
  ·by_cases j:n=1047
   ·exact .inl ⟨1,⟨by simp[pJ,j],R⟩,(RA aW).trans (aLa j)⟩
   ·by_cases I:n=1049
    ·exact .inl ⟨2,⟨by simp[pJ,I],R⟩,(RA aW).trans ((agE j).trans (aLb I))⟩
    ·exact .inr ⟨by simp[pJ,aW,j,I],(RA aW).trans ((agE j).trans ((aK9 I).trans aK_))⟩
 rcases key with⟨ac,a_,e⟩|⟨aA,e⟩
 ·refine⟨ac,.inl a_,λ H=>gY rfl rfl rfl ?_⟩;rw[bo sj];simp(disch:=omega)only[ar,simprocAttr,vN,bA,e,vO];exact⟨_,rfl⟩
 ·refine⟨-1,.inr ⟨aA,rfl⟩,λ H=>gY rfl rfl rfl ?_⟩;rw[bo sj];simp(disch:=omega)only[ar,simprocAttr,vN,bA,e,vO];exact⟨_,rfl⟩
def aLd(n:Int)(H:aa):cv 148 [.i (.sl 1 [[.v (.int .i64 47)],[.v (.int .i64 1047)],[.v (.int .i64 1049)]] false),n] H (↑(pJ n)):=cu (by
 obtain⟨ac,a_,e⟩:=aLc n;rcases a_ with⟨aA,j,I⟩|⟨aA,j⟩
 ·rw[aA];refine bz PS ?_;simp(disch:=omega)only[ar,simprocAttr,adu,bA,e];exact⟨_,rfl⟩
 ·rw[aA];subst j;refine bz PS ?_;simp(disch:=omega)only[ar,simprocAttr,adu,bA,e];exact⟨_,rfl⟩)
def Dz(m:M)(a ae b af:Nat):(aT m a ae b af).set 35 (.i (hZ ((E.kinds 42).getD 35 none) (.sl 1 (dS m.cD) false)))=aT m a ae b af:=rfl
def DA(m:M)(a ae b af:Nat):(aT m a ae b af).set 36 (.i (hZ ((E.kinds 42).getD 36 none) (Gl m.gl m.back)))=aT {m with gl:=false} a ae b af:=by
 obtain⟨w,h,G,O,aF,bO,at',md,cA,b7,cD,gl,back,bk,eK,ds⟩:=m;cases gl with
 |false=>rfl
 |true=>cases back<;>rfl
def RB{m:M}{a ae b af c gc w h:Nat}(hw:w=m.w)(aN:h=m.h):.i (.v (.int .i64 (w)))::.i (.v (.int .i64 (h)))::.x (.d c gc 0 h)::eG 3 (aT m a ae b af)=aT m c gc b af:=by subst hw aN;rfl
def RC{m:M}{a ae b af c gc w h:Nat}(hw:w=m.w)(aN:h=m.h):.i (.v (.int .i64 (w)))::.i (.v (.int .i64 (h)))::.x (.d a ae 0 h)::.i (.v (.int .i64 (w)))::.i (.v (.int .i64 (h)))::.x (.d c gc 0 h)::eG 6 (aT m a ae b af)=aT m a ae c gc:=by subst hw aN;rfl
def yn(m:M):M:={m with aF:=m.bO.aF,a:=m.bO.a,md:={m.md with c2:=m.bO.c2,dh:=m.bO.dh,s1:=m.bO.s1,dI:=m.bO.dI}}
def DB(m:M):M:={m with bO:=⟨m.aF,m.a,m.md.c2,m.md.dh,m.md.s1,m.md.dI⟩}
def DC(m:M)(p n:Int)(on:Bool):M:=
 let d:=g_ p on m.md n
 if p=0 then{m with md:=d}else
 if n=6 then{m with md:=d,aF:=⟨toR 1 (cf {m with md:=d}),k0 1 (cf {m with md:=d}),false⟩}else
 if pJ n=false∨d.fJ=m.md.fJ then{m with md:=d}else
 if n=1049 then(if d.fJ=true then{m with md:=d,bO:=⟨m.aF,m.a,m.md.c2,m.md.dh,m.md.s1,m.md.dI⟩,G:=iM m.w m.h,O:=m.G}else yn {m with md:=d,G:=m.O,O:=m.G})
 else{m with md:=d,G:=m.O,O:=m.G}
def aLe(p:Int)(on:Bool)(m:k1)(n:Int):(g_ p on m n).dh=m.dh∧(g_ p on m n).s1=m.s1∧(g_ p on m n).dI=m.dI:=by
 unfold g_;split
 ·unfold Q1;split<;>exact⟨rfl,rfl,rfl⟩
 ·exact⟨rfl,rfl,rfl⟩
def bi.g_{m:M}(h:bi m)(p n:Int)(on:Bool):bi {m with md:=g_ p on m.md n}:=by obtain⟨j,I,av⟩:=aLe p on m.md n;exact h.Lp (by rw[j,I,av];exact h.bK)
def bi.DD{m:M}(h:bi m):bi (yn m):=
 {w:=h.w,h:=h.h,G:=h.G,O:=h.O,aF:=h.bO,bO:=h.bO,a:=h.aD,aD:=h.aD,cY:=h.cY,cD:=h.cD,back:=h.back,bK:=h.hM,hM:=h.hM,eK:=h.eK,ds:=h.ds}
def bi.GJ{m:M}(h:bi m):bi (DB m):=
 {w:=h.w,h:=h.h,G:=h.G,O:=h.O,aF:=h.aF,bO:=h.aF,a:=h.a,aD:=h.a,cY:=h.cY,cD:=h.cD,back:=h.back,bK:=h.bK,hM:=h.bK,eK:=h.eK,ds:=h.ds}
def bi.RD{m:M}(h:bi m){G O:List (List bl)}(k3:G.length=m.h∧lv m.w G)(qi:O.length=m.h∧lv m.w O):bi {m with G:=G,O:=O}:=
 {w:=h.w,h:=h.h,G:=k3,O:=qi,aF:=h.aF,bO:=h.bO,a:=h.a,aD:=h.aD,cY:=h.cY,cD:=h.cD,back:=h.back,bK:=h.bK,hM:=h.hM,eK:=h.eK,ds:=h.ds}
def RE(w h:Nat):(iM w h).length=h∧lv w (iM w h):=by refine⟨mg,λ r ah=>?_⟩;obtain⟨_,rfl⟩:=Ra.1 ah;exact⟨Ag _ _,(eZ.qm (by decide) w).p⟩
def bi.mod{m:M}(h:bi m)(p n:Int)(on:Bool):bi (DC m p n on):=by
 have j:=h.g_ p n on;unfold DC;simp only;split
 ·exact j
 ·split
  ·exact j.jO (Gt 1 1 j)
  ·split
   ·exact j
   ·split
    ·split
     ·have I:=(j.RD (G:=iM m.w m.h) (O:=m.G) (RE _ _) h.G);exact{w:=h.w,h:=h.h,G:=I.G,O:=I.O,aF:=h.aF,bO:=h.aF,a:=h.a,aD:=h.a,cY:=h.cY,cD:=h.cD,back:=h.back,bK:=j.bK,hM:=h.bK,eK:=h.eK,ds:=h.ds}
     ·exact(j.RD h.O h.G).DD
    ·exact j.RD h.O h.G
def aLf(n:Nat):(n+1==n||n==n+999999)=false:=by simp
def aLg{m:M}(hm:bi m)(p n:Int)(au:p=0∨p=63)(on:Bool):hi 109 [.i (.v (.int .u8 (p))),.i (.v (.int .i64 (n))),.i (.v (.bool (on)))] m (.bd []) (DC m p n on):=by
 intro ae aD af aG;have ao:=λ H=>aKS m.md p n on H
 have aH:=λ H=>aLd n H
 have zi:=hm.g_ p n on;unfold DC;simp only;generalize g_ p on m.md n=d at*;by_cases sL:p=0
 ·rw[if_pos sL];subst sL;rw[bo CA];simp(disch:=omega)only[ar,simprocAttr,rb,bA,bQ,bV,bH,Dz,DA,ao,c8];exact⟨_,rfl,dZ.dC⟩
 ·rw[if_neg sL];obtain rfl:p=63:=R;by_cases dq:n=6
  ·rw[if_pos dq];subst dq;rw[show pJ 6=false from rfl]at aH;have bN:=λ z=>afP (m:={m with md:=d}) (a:=0) (b:=1) (ae:=ae) (af:=af) (T:=.az 5 ae aD (aX m.G)::.az 5 af aG (aX m.O)::z) rfl rfl (by decide) zi.cf 1 1
   simp only[cp,c1]at bN;rw[bo CA];simp(disch:=omega)only[ar,simprocAttr,rb,bA,bQ,bV,bH,Dz,DA,ao,aH,bN,Lq,c8];exact⟨_,rfl,dZ.dC⟩
  ·rw[if_neg dq];by_cases aA:pJ n=false∨d.fJ=m.md.fJ
   ·rw[if_pos aA];cases cS:pJ n with
    |false=>rw[cS]at aH;rw[bo CA];simp(disch:=omega)only[ar,simprocAttr,rb,bA,bQ,bV,bH,Dz,DA,ao,aH,Lq,c8];exact⟨_,rfl,dZ.dC⟩
    |true=>
     have Aq:d.fJ=m.md.fJ:=by rcases aA with h|h;rw[cS]at h;cases h;exact h
     rw[cS]at aH;have RF:(d.fJ==m.md.fJ)=true:=by rw[Aq];exact beq_self_eq_true _
     rw[bo CA];simp(disch:=omega)only[ar,simprocAttr,rb,bA,bQ,bV,bH,Dz,DA,ao,aH,RF,Lq,c8];exact⟨_,rfl,dZ.dC⟩
   ·rw[if_neg aA];have cS:pJ n=true:=by cases h:pJ n;exact absurd (.inl h) aA;rfl
    have RF:(d.fJ==m.md.fJ)=false:=by simp;exact λ h=>aA (.inr h)
    rw[cS]at aH;rw[bo CA];simp(disch:=omega)only[ar,simprocAttr,rb,bA,bQ,bV,bH,Dz,DA,ao,aH,Lq,c8];obtain⟨m3,n_⟩:∃m3,({m with md:=d}:M)=m3:=⟨_,rfl⟩;have RG:m3.md=d:=by rw[←n_]
    have agF:m3.aF=m.aF:=by rw[←n_]
    have aRb:m3.a=m.a:=by rw[←n_]
    have AD:m3.w=m.w:=by rw[←n_]
    have aLh:m3.h=m.h:=by rw[←n_]
    refine As (λ J H=>(∃t,J=(0,.ptr 0 0 0 0)::(2,.i (.v (.int .i64 (n))))::(8,.ptr 3 0 0 0)::t)∧∃T,H=.box (aT m3 1 ae 2 af)::.az 5 ae aD (aX m.G)::.az 5 af aG (aX m.O)::.box (aT {m with gl:=false} 1 ae 2 af)::T) ?_ ?_
    ·rw[←n_];simp(disch:=omega)only[ar,simprocAttr,rb,bA,RF];exact⟨_,_,rfl,⟨_,rfl⟩,_,rfl⟩
    rintro J H ⟨⟨t,rfl⟩,T,rfl⟩;simp(disch:=omega)only[ar,simprocAttr,rb,bA,bQ,bV,bH];have qR:m3.G=m.G∧m3.O=m.O:=by rw[←n_];exact⟨rfl,rfl⟩
    obtain⟨m4,mY⟩:∃m4:M,m4=if n=1049∧d.fJ=true then{m3 with bO:=⟨m3.aF,m3.a,m.md.c2,m.md.dh,m.md.s1,m.md.dI⟩}else m3:=⟨_,rfl⟩
    refine As (λ J H=>(∃t,J=(0,.ptr 0 0 0 0)::(2,.i (.v (.int .i64 (n))))::t)∧∃T,H=.box (aT m4 1 ae 2 af)::.az 5 ae aD (aX m.G)::.az 5 af aG (aX m.O)::T) ?_ ?_
    ·by_cases AE:n=1049
     ·subst AE;cases fk:d.fJ with
      |true=>
       rw[if_pos ⟨rfl,fk⟩]at mY;have Lr:m3.md.fJ=true:=by rw[RG];exact fk
       have bN:=λ x z=>afR (m:={m3 with md:=m.md}) (a:=0) (b:=1) (ae:=ae) (af:=af) (T:=.az 5 ae aD (aX m.G)::.az 5 af aG (aX m.O)::x::z) rfl rfl (by decide)
       simp only[cp,c1]at bN;rw[mY];have ak:(⟨m3.md.ins,m3.md.ic,m3.md.ky,m3.md.c2,m3.md.wr,m3.md.kz,true,m3.md.kA,m3.md.dh,m3.md.s1,m3.md.dI⟩:k1)=m3.md:=by rw[←Lr]
       simp(disch:=omega)only[ar,simprocAttr,rb,bA,bQ,bV,bH,Lr,bN];rw[ak];exact⟨_,_,rfl,⟨_,rfl⟩,_,rfl⟩
      |false=>
       rw[if_neg (by simp[fk])]at mY;have Lr:m3.md.fJ=false:=by rw[RG];exact fk
       rw[mY];simp(disch:=omega)only[ar,simprocAttr,rb,bA,bQ,bV,bH,Lr];exact⟨_,_,rfl,⟨_,rfl⟩,_,rfl⟩
     ·rw[if_neg (λ h=>AE h.1)]at mY;rw[mY];simp(disch:=omega)only[ar,simprocAttr,rb,bA,bQ,bV,bH];exact⟨_,_,rfl,⟨_,rfl⟩,_,rfl⟩
    rintro J H ⟨⟨t,rfl⟩,T,rfl⟩;have agG:m4.md=d:=by rw[mY];split<;>exact RG
    have Dx:m4.w=m.w∧m4.h=m.h:=by rw[mY];split<;>exact⟨AD,aLh⟩
    have fin:∀{T:aa},dZ {m4 with G:=m.O,O:=m.G} (.box (aT m4 2 af 1 ae)::.az 5 ae aD (aX m.G)::.az 5 af aG (aX m.O)::T):=⟨_,_,_,_,_,rfl,ny (m:={m4 with G:=m.O,O:=m.G}) (a:=1) (b:=0) rfl rfl (by decide) rfl rfl⟩;by_cases AE:n=1049
    ·rw[if_pos AE];subst AE;cases fk:d.fJ with
     |true=>
      have RH:m4.md.fJ=true:=by rw[agG];exact fk
      have c':=λ H=>aft m.w m.h hm.w hm.h H
      rw[←Dx.1,←Dx.2]at c';have e:({m with md:=d,bO:=⟨m.aF,m.a,m.md.c2,m.md.dh,m.md.s1,m.md.dI⟩,G:=iM m.w m.h,O:=m.G}:M)={m4 with G:=iM m4.w m4.h,O:=m.G}:=by rw[if_pos ⟨rfl,fk⟩]at mY;rw[mY,←n_]
      simp only[if_true];rw[e];have g1:∀x y:Chunk,(T++[x]++[y])[T.length]?=some x:=λ x y=>by simp
      have g2:∀x y z:Chunk,(T++[x]++[y]).set T.length z=T++[z]++[y]:=λ x y z=>by simp
      have g3:∀x y a b:Chunk,(a::b::(T++[x]++[y]))[T.length+3]?=some y:=λ x y a b=>by rw[show T.length+3=(T.length+1)+1+1 from rfl,jF,jF,hd (by simp)];simp
      simp(disch:=omega)only[ar,simprocAttr,rb,bA,bQ,bV,bH,RB,RC,RH,c',g1,g2,aLf,Nat.add_sub_cancel_left];have cc:hh 1 {m4 with G:=iM m4.w m4.h,O:=m.G} (T.length+3+1) 0 (0+1) ae (.az 5 ae aD (aX m.G)::.az 5 af aG (aX m.O)::(T++[.box [.i (.v (.int .i64 (m4.w))),.i (.v (.int .i64 (m4.h))),.x (.d (T.length+1+1+1+1) 0 0 m4.h)]]++[.az 5 0 0 (aX (iM m4.w m4.h))])):=ny (aD:=0) (g3 _ _ _ _) rfl R rfl rfl;exact⟨_,rfl,ye cc⟩
     |false=>
      have RH:m4.md.fJ=false:=by rw[agG];exact fk
      simp only[fF,if_false];rw[if_neg (by simp[fk])]at mY;have mM:=λ z=>afT (m:=m4) (a:=1) (b:=0) (ae:=af) (af:=ae) (T:=.az 5 ae aD (aX m.G)::.az 5 af aG (aX m.O)::z) rfl rfl (by decide)
      simp only[cp,c1]at mM;simp(disch:=omega)only[ar,simprocAttr,rb,bA,bQ,bV,bH,RB,RC,RH,mM];subst mY n_;unfold yn;simp only at fk⊢;rw[fk];refine⟨_,rfl,_,_,_,_,_,rfl,?_⟩;exact ny (a:=1) (b:=0) rfl rfl (by decide) rfl rfl
    ·rw[if_neg AE];rw[if_neg (λ h=>AE h.1)]at mY;simp(disch:=omega)only[ar,simprocAttr,rb,bA,bQ,bV,bH,RB,RC];subst mY n_;exact⟨_,rfl,fin⟩
def jf(w h:Nat):M:=⟨w,h,iM w h,iM w h,⟨0,0,false⟩,⟨⟨0,0,false⟩,⟨-1,-1,0⟩,false,66,66,0⟩,⟨-1,-1,0⟩,qn,0,h,ka w w,false,[],⟨0,[],[]⟩,[],[]⟩
def lU(w h:Nat)(hw:1≤w∧w≤132)(aN:1≤h∧h≤60):∃a b L,b3 E 7 [.i (.v (.int .i64 (w))),.i (.v (.int .i64 (h)))] []=some (.bd [.agg (aT (jf w h) a 0 b 0),.i (.v (.int .i64 (0)))],L)∧a≠b∧L[a]?=some (.az 5 0 0 (aX (iM w h)))∧L[b]?=some (.az 5 0 0 (aX (iM w h))):=by
 have ao:=λ H=>aft w h hw aN H
 have aH:=λ H=>aIr w hw.2 H
 have al:(dS (ka w w)).length=w:=by rw[l2,Al]
 have hK:(aX (iM w h)).length=h:=K0 w h;unfold jf qn;generalize ka w w=cY at*;generalize iM w h=qm at*;rw[bo acv];simp(disch:=omega)only[ar,simprocAttr,aDQ,ao,aH,aKG,agp];exact⟨1,3,_,rfl,by decide,by rfl,by rfl⟩
def aLi{g:Nat}{bq:List U}{a b:Nat}{m:M}{x y:Chunk}{v:aC}{H:aa}(he:E.ext g=none)(ah:bx bq=[])(ak:x.refs=[])(aY:y.refs=[])(cS:a≠b)(ag:∃L,b3 E g bq []=some (.bd [.agg (aT m a 0 b 0),.i v],L)∧L[a]?=some x∧L[b]?=some y):
  cn g bq H (.bd [.agg (aT m H.length 0 (H.length+1) 0),.i v]) (H++[x,y]):=by
 obtain⟨L,ag,e_,ta⟩:=ag;have j:=(fU (bt [])).2 bq ah;have lV:=kZ ak;have Gh:=kZ aY;have ij:bc (.bd [.agg (aT m a 0 b 0),.i v])=[a,b]:=rfl;have bG:=e'.2 (bF.1 e_).1;have bC:=e'.2 (bF.1 ta).1;have dj:reach L 64 [a,b] []=[a,b]:=by simp[reach,e_,ta,ak,aY,cS,a' cS,bG,bC]
 have ao:=jN (df [] H.length [a,b]) m a 0 b 0 H.length (H.length+1) (by simp[df,bt]) (by simp[df,bt,a' cS,qb]);unfold cn dd;rw[ah];simp only[eV,he,reach,j,fm,ag,dr,q8,if_false,mQ,r9,c8,ij,dj];simp[co,cx,ao,e_,ta,lV,Gh,ea]
def agH(w h:Nat)(hw:1≤w∧w≤132)(aN:1≤h∧h≤60)(H:aa):cn 7 [w,h] H (.bd [.agg (aT (jf w h) H.length 0 (H.length+1) 0),↑(0:Int)]) (H++[.az 5 0 0 (aX (iM w h)),.az 5 0 0 (aX (iM w h))]):=by obtain⟨a,b,L,j,I,av,ba⟩:=lU w h hw aN;exact aLi rfl rfl rfl rfl I ⟨L,j,av,ba⟩
def bi.new{w h:Nat}(hw:1≤w∧w≤132)(aN:1≤h∧h≤60):bi (jf w h):=
 {w:=hw,h:=aN,G:=RE w h,O:=RE w h,aF:=⟨by simp only[jf];omega,by simp only[jf];omega,by simp[jf]⟩,bO:=⟨by simp only[jf];omega,by simp only[jf];omega,by simp[jf]⟩,a:=(by decide:h_ ⟨-1,-1,0⟩=true),aD:=(by decide:h_ ⟨-1,-1,0⟩=true),cY:=by simp only[jf];omega,cD:=Al w w,back:=⟨by simp[jf],by simp[jf]⟩,bK:=by simp[jf,qn],hM:=by simp[jf],eK:=by simp[jf],ds:=by simp[jf]}
def GK(m:M):M:=if(rm m.aF (cf m)).2=true then k2 {m with aF:=(rm m.aF (cf m)).1} m.cA (-1) false else{m with aF:=(rm m.aF (cf m)).1}
def DE(m:M)(s:List UInt8)(c:Int):M:=
 if s≠[]then{m with md:=pH m.md s c}else
 if c=55 then DB m else if c=56 then yn m else if c=69 then mA (mW m)else if c=68 then mA m else if c=77 then GK m
 else if c=72 then{m with cD:=m.cD.set m.aF.c.toNat true}else if c=99 then{jf m.w m.h with bk:=m.bk,ds:=m.ds}else m
def bi.rev{m:M}(h:bi m):bi (GK m):=by
 unfold GK;split
 ·exact(h.jO (Q_ m.aF h)).yg ⟨h.cY.1,h.cY.2.1⟩
 ·exact h.jO (Q_ m.aF h)
def bi.RI{m:M}(h:bi m)(s:List UInt8)(c:Int):bi (DE m s c):=by
 have aR:=h.bK;unfold DE;split
 ·refine h.Lp ?_;unfold pH;split
  ·split
   ·refine⟨?_,aR.2⟩;simp only;omega
   ·split
    ·refine⟨aR.1,?_,aR.2.2⟩;simp only;omega
    ·exact aR
  ·exact aR
 ·repeat' split
  ·exact h.GJ
  ·exact h.DD
  ·exact h.l5.feed
  ·exact h.feed
  ·exact h.rev
  ·exact h.Rg (by rw[jC];exact h.cD)
  ·have aE:=bi.new h.w h.h;exact{w:=aE.w,h:=aE.h,G:=aE.G,O:=aE.O,aF:=aE.aF,bO:=aE.bO,a:=aE.a,aD:=aE.aD,cY:=aE.cY,cD:=aE.cD,back:=aE.back,bK:=aE.bK,hM:=aE.hM,eK:=aE.eK,ds:=h.ds}
  ·exact h
def RJ(m m2:M)(a ae b af a2 ym dz wq:Nat):aT m2 a2 ym dz wq++eG 42 (aT m a ae b af)=aT m2 a2 ym dz wq:=rfl
def aLj{m:M}(hm:bi m)(s:List UInt8)(c:Int):hi 54 [.i (.str s),.i (.v (.int .u8 (c)))] m (.bd []) (DE m s c):=by
 intro ae aD af aG;have hw:=hm.w;have bp:=hm.cD;have e3:=hm.aF.2.1;unfold DE;by_cases aR:s=[]
 ·rw[if_neg (λ h=>h aR)];subst aR;by_cases agI:c=55
  ·subst agI;rw[if_pos rfl];have ao:=afR (m:=m) (a:=0) (b:=1) (ae:=ae) (af:=af) (T:=[.az 5 ae aD (aX m.G),.az 5 af aG (aX m.O)]) rfl rfl (by decide);simp only[cp,c1]at ao;rw[bo s3];simp(disch:=omega)only[ar,simprocAttr,uc,eO,bQ,bV,bH,ao];exact⟨_,rfl,dZ.dC⟩
  ·rw[if_neg agI];by_cases agJ:c=56
   ·subst agJ;rw[if_pos rfl];have ao:=afT (m:=m) (a:=0) (b:=1) (ae:=ae) (af:=af) (T:=[.az 5 ae aD (aX m.G),.az 5 af aG (aX m.O)]) rfl rfl (by decide);simp only[cp,c1]at ao;rw[bo s3];simp(disch:=omega)only[ar,simprocAttr,uc,eO,bQ,bV,bH,ao];exact⟨_,rfl,dZ.dC⟩
   ·rw[if_neg agJ];by_cases agK:c=69
    ·subst agK;rw[if_pos rfl];have ao:=Gm (m:=m) (a:=0) (b:=1) (ae:=ae) (af:=af) (T:=[.az 5 ae aD (aX m.G),.az 5 af aG (aX m.O)]) rfl rfl (by decide);obtain⟨bu,aH,dz⟩:=l3 (f:=92) rfl rfl rfl (Gu hm.l5) (hX.dC (m:=mW m) (ae:=ae) (af:=af) (aD:=aD) (aG:=aG) (T:=[]));simp only[cp,c1]at ao;simp only[mW,rs]at aH;rw[bo s3];simp(disch:=omega)only[ar,simprocAttr,uc,eO,bQ,bV,bH,ao,aH];exact⟨_,rfl,dz.iN⟩
    ·rw[if_neg agK];by_cases agL:c=68
     ·subst agL;rw[if_pos rfl];obtain⟨bu,aH,dz⟩:=l3 (f:=92) rfl rfl rfl (Gu hm) (hX.dC (m:=m) (ae:=ae) (af:=af) (aD:=aD) (aG:=aG) (T:=[]));rw[bo s3];simp(disch:=omega)only[ar,simprocAttr,uc,eO,bQ,bV,bH,aH];exact⟨_,rfl,dz.iN⟩
     ·rw[if_neg agL];by_cases agM:c=77
      ·subst agM;rw[if_pos rfl];have ao:=λ z=>Gn (m:=m) (a:=0) (b:=1) (ae:=ae) (af:=af) (T:=.az 5 ae aD (aX m.G)::.az 5 af aG (aX m.O)::z) rfl rfl (by decide)
       have aH:=λ H=>aIj m.aF hm.cf H
       unfold GK;have KS:=hm.jO (Q_ m.aF hm);obtain⟨q,bm⟩:∃q,rm m.aF (cf m)=q:=⟨_,rfl⟩;rw[bm]at aH KS⊢;simp only[cp,c1,cf]at ao aH;obtain⟨⟨Gv,sS,kC⟩,k⟩:=q;simp only at*;cases k with
       |false=>simp only[fF,if_false]at aH⊢;rw[bo s3];simp(disch:=omega)only[ar,simprocAttr,uc,eO,bQ,bV,bH,ao,aH];exact⟨_,rfl,dZ.dC⟩
       |true=>simp only[if_true]at aH⊢;obtain⟨bW,cF,bR,cG,cX,bN,i3,cE⟩:=Q6 (f:=107) rfl rfl rfl (Gq KS m.cA (-1) false ⟨hm.cY.1,hm.cY.2.1⟩) (ny (m:={m with aF:=⟨Gv,sS,kC⟩}) (a:=0) (b:=1) (ae:=ae) (af:=af) (aD:=aD) (aG:=aG) (x:=.az 5 ae aD (aX m.G)) (y:=.az 5 af aG (aX m.O)) (T:=[.box [.i (.v (.int .i64 (Gv))),.i (.v (.int .i64 (sS))),.i (.v (.bool (kC)))]]) rfl rfl (by decide) rfl rfl);simp only[cp,c1]at bN;rw[bo s3];simp(disch:=omega)only[ar,simprocAttr,uc,eO,bQ,bV,bH,ao,aH,bN,show(0-1:Int)=-1 from rfl];exact⟨_,rfl,ye i3⟩
      ·rw[if_neg agM];by_cases agN:c=72
       ·subst agN;rw[if_pos rfl];have ao:=λ H=>afH m.cD m.aF.c.toNat R R true H
        rw[show((m.aF.c.toNat:Nat):Int)=m.aF.c by omega]at ao;rw[bo s3];simp(disch:=omega)only[ar,simprocAttr,uc,eO,bQ,bV,bH,ao];exact⟨_,rfl,dZ.dC⟩
       ·rw[if_neg agN];by_cases agO:c=99
        ·subst agO;rw[if_pos rfl];have ao:=λ H=>agH m.w m.h hm.w hm.h H
         obtain⟨hf,hp⟩:∃hf,jf m.w m.h=hf:=⟨_,rfl⟩;rw[hp]at ao⊢;have hmk:(aT ({hf with gl:=false,bk:=⟨m.bk.bK,m.bk.b4,m.bk.b0⟩,ds:=m.ds}:M) 4 0 5 0).set 36 (.i (hZ ((E.kinds 42).getD 36 none) (Gl false hf.back)))=aT ({hf with gl:=false,bk:=⟨m.bk.bK,m.bk.b4,m.bk.b0⟩,ds:=m.ds}:M) 4 0 5 0:=rfl;have aLk:(aT ({hf with gl:=false,bk:=⟨m.bk.bK,m.bk.b4,m.bk.b0⟩,ds:=m.ds}:M) 4 0 5 0).set 35 (.i (hZ ((E.kinds 42).getD 35 none) (.sl 1 (dS hf.cD) false)))=aT ({hf with gl:=false,bk:=⟨m.bk.bK,m.bk.b4,m.bk.b0⟩,ds:=m.ds}:M) 4 0 5 0:=rfl;rw[bo s3];have ah:((lF 4 2).all λ c=>!(c==3||c==1000003))=true:=rfl;simp(disch:=omega)only[ar,simprocAttr,uc,eO,bQ,bV,bH,Dz,DA,RJ,ah,ao,hmk,aLk,c8];subst hp;refine⟨_,rfl,_,_,_,_,_,rfl,?_⟩;exact ny (a:=3) (b:=4) rfl rfl (by decide) rfl rfl
        ·rw[if_neg agO];rw[bo s3];simp(disch:=omega)only[ar,simprocAttr,uc,eO,bQ,bV,bH];exact⟨_,rfl,dZ.dC⟩
 ·rw[if_pos aR];have ao:=λ H=>aKF m.md s c H
  have Ds:(s==[])=false:=by simpa using aR
  rw[bo s3];simp(disch:=omega)only[ar,simprocAttr,uc,eO,bQ,bV,bH,ao,aR,Ds];exact⟨_,rfl,dZ.dC⟩
def GL(ai:Nat)(m:M)(L:aa):Prop:=∃A ae B af T,L=.box (aT m A ae B af)::T∧hh ai m A ae B af T
def RL{n ai:Nat}{m:M}{A ae B af:Nat}{T H:aa}(aO:∀k,H[k+ai]?=T[k]?)(cc:hh ai m A ae B af T):GL ai m (Chunk.box (ey n H (aT m A ae B af))::eJ n H ai T):=by
 obtain⟨a,b,aD,aG,rfl,rfl,aA,aj,cS,al,aW,j⟩:=cc;have Ls:H[a+ai]?=_:=(aO a).trans aA;have Lt:H[b+ai]?=_:=(aO b).trans aj;have e:ey n H (aT m (a+ai) ae (b+ai) af)=aT m (a+ai) (if a+ai<n then ae else 0) (b+ai) (if b+ai<n then af else 0):=by by_cases b_:a+ai<n<;>by_cases ca:b+ai<n<;>simp[aT,ey,el,cN.c,Ls,Lt,rE,b_,ca]
 have g:∀k,(eJ n H ai T)[k]?=(T[k]?).map (dO n H (ai+k)):=vl _ _ T ai;refine⟨_,_,_,_,_,by rw[e],a,b,if a+ai<n then aD else 0,if b+ai<n then aG else 0,rfl,rfl,?_,?_,cS,by rw[pw];exact al,λ x ak=>?_,λ x ak=>?_⟩
 ·rw[g,aA,en,qb ai a];by_cases b_:a+ai<n<;>simp only[dO,b_,if_true,if_false]
 ·rw[g,aj,en,qb ai b];by_cases b_:b+ai<n<;>simp only[dO,b_,if_true,if_false]
 ·rw[g]at ak;obtain⟨eL,q,rfl⟩:=c0.1 ak;exact K_ (aW eL q)
 ·rw[g]at ak;obtain⟨eL,q,rfl⟩:=c0.1 ak;exact K_ (j eL q)
def GM{P:aa}{m bZ:M}{A ae B af:Nat}{T an:aa}(lP:∀x∈P,hW x)(cc:hh (P.length+1) m A ae B af T)(j:qk P.length bZ an)(I:so P.length (P++.box (aT m A ae B af)::T) an):
  ∃fa cF eb cG cX,an=P++.box (aT bZ fa cF eb cG)::cX∧hh (P.length+1) bZ fa cF eb cG cX:=by
 obtain⟨fa,cF,eb,cG,aD,aG,cz,i2,i3,i4⟩:=j;obtain⟨bG,bC,cE⟩:=I;have x4:=(bF.1 cz).1;have zr:an.take P.length=P:=by
  apply EO;intro k;by_cases ay:k<P.length
  ·rw[agP ay];have e:=bC k P[k] (by rw[ei ay];exact eX ay) R (lP _ (mL ay));rw[e];exact(eX ay).symm
  ·rw[rW (by rw[hE];omega),rW R]
 obtain⟨ao,aH⟩:=bF.1 cz;have aLl:an=P++.box (aT bZ fa cF eb cG)::an.drop (P.length+1):=by
  conv=>lhs;rw[←Jg P.length an,zr,jq ao,aH]
 have aP:∀k,(an.drop (P.length+1))[k]?=an[k+(P.length+1)]?:=λ k=>by rw[rQ,qb]
 have place:∀{c g s:Nat} {rows:List bT},an[c]?=some (.az 5 g s rows)→∃k,c=k+(P.length+1):=λ{c g s rows} h=>by
  rcases Nat.lt_trichotomy c P.length with ag|ag|ag
  ·have e:=bC c P[c] (by rw[ei ag];exact eX ag) R (lP _ (mL ag));rw[h]at e;have:=lP _ (mL ag);rw[←pY e]at this;exact this.elim
  ·subst ag;rw[cz]at h;cases h
  ·exact⟨c-(P.length+1),R⟩
 obtain⟨bW,rfl⟩:=place i2;obtain⟨bR,rfl⟩:=place i3;obtain⟨a,b,aRc,aRd,rfl,rfl,aA,aj,cS,al,aW,j⟩:=cc;have dn:∀k,(P++.box (aT m (a+(P.length+1)) ae (b+(P.length+1)) af)::T)[k+(P.length+1)]?=T[k]?:=λ k=>by rw[hd R,show k+(P.length+1)-P.length=k+1 by omega,jF]
 have agQ:∀k,k<T.length→(∀x:Chunk,T[k]?=some x→x.refs=[])→∀x:Chunk,(an.drop (P.length+1))[k]?=some x→x.refs=[]:=λ k ay ak x rS=>by obtain⟨mI,f_,fI⟩:=cE (k+(P.length+1)) T[k] (by rw[dn];exact eX ay) R (ak _ (eX ay));rw[aP,f_]at rS;cases rS;exact fI
 refine⟨_,_,_,_,_,aLl,bW,bR,aD,aG,rfl,rfl,by rw[aP];exact i2,by rw[aP];exact i3,R,?_,agQ 0 R aW,agQ 1 R j⟩;rw[iG];simp only[dp,cQ]at bG;omega
def AF(aS:Nat→Option Nat):∀a b:List U,cx aS (a++b)=cx aS a++cx aS b
 |[],b=>rfl
 |x::a,b=>by simp only[xH,cx,AF aS a b]
def AG:∀a b:List U,bx (a++b)=bx a++bx b
 |[],b=>rfl
 |x::a,b=>by simp only[xH,bx,AG a b,dU]
structure ux (H:aa) (p:Nat) (m:M) (A ae B af:Nat):Prop where
 au:H[p]?=some (.box (aT m A ae B af))
 bY:∃aD,H[A]?=some (.az 5 ae aD (aX m.G))
 cJ:∃aG,H[B]?=some (.az 5 af aG (aX m.O))
 iv:A≠B
def ux.lt{H:aa}{p:Nat}{m:M}{A ae B af:Nat}(h:ux H p m A ae B af):¬H.length≤p∧¬H.length≤A∧¬H.length≤B∧p≠A∧p≠B:=by
 obtain⟨aD,bY⟩:=h.bY;obtain⟨aG,cJ⟩:=h.cJ;refine⟨e'.2 (bF.1 h.au).1,e'.2 (bF.1 bY).1,e'.2 (bF.1 cJ).1,λ e=>?_,λ e=>?_⟩
 ·subst e;have:=h.au;rw[bY]at this;cases this
 ·subst e;have:=h.au;rw[cJ]at this;cases this
def fB(X:aa)(f:Nat)(bq:List U)(m:M)(r:U)(bZ:M):Prop:=∀ae aD af aG,∃L,b3 E f bq (X++[.box (aT m (X.length+1) ae (X.length+2) af),.az 5 ae aD (aX m.G),.az 5 af aG (aX m.O)])=some (r,X++L)∧GL (X.length+1) bZ L
def hi.kC{f:Nat}{bq:List U}{m bZ:M}{r:U}(h:hi f bq m r bZ):fB [] f (.ptr 0 0 0 0::bq) m r bZ:=λ ae aD af aG=>by obtain⟨L,e,A,cF,B,cG,T,rfl,i⟩:=h ae aD af aG;exact⟨_,e,A,cF,B,cG,T,rfl,i⟩
def GN{f:Nat}{bq:List U}{r:U}{m bZ:M}{H:aa}{p A ae B af:Nat}(he:E.ext f=none)(gO:bx bq=[])(ah:bc r=[])(h:hi f bq m r bZ)(aO:ux H p m A ae B af):
  ∃an,cn f (.ptr p 0 0 0::bq) H r an∧qk p bZ an∧so p H an:=by
 obtain⟨c4,eN,qp,f',gi⟩:=aO.lt;obtain⟨au,⟨aD,bY⟩,⟨aG,cJ⟩,iv⟩:=aO;refine yb (us:=.ptr 0 0 0 0::bq) (aV:=[]) (Z:=[]) (X:=[]) he ah au bY cJ iv ?_ ?_ rfl (by simp) (by simp) (by simp) (λ _ _=>rfl) (by simp) (λ _ _ _ _ _ h=>af1 h) (λ ae aD af aG=>?_)
 ·simp[bx,bc,gO,reach,au,bY,cJ,kb,bH,c4,eN,qp,a' f',a' gi,a' iv,Chunk.refs]
 ·simp only[cx,co,(fU _).2 bq gO];simp[bt]
 ·obtain⟨L,e,A,cF,B,cG,T,rfl,i⟩:=h ae aD af aG;exact⟨A,cF,B,cG,T,e,i⟩
def GO{f:Nat}{bq:List U}{r:U}{m bZ:M}{H:aa}{q p A ae B af:Nat}(he:E.ext f=none)(gO:bx bq=[])(ah:bc r=[])(h:fB [.box [.ptr 1 0 0 0]] f (bq++[.ptr 0 0 0 0]) m r bZ)(aO:ux H p m A ae B af)(bm:H[q]?=some (.box [.ptr p 0 0 0])):
  ∃an,cn f (bq++[.ptr q 0 0 0]) H r an∧qk p bZ an∧so p H an:=by
 obtain⟨c4,eN,qp,f',gi⟩:=aO.lt;obtain⟨au,⟨aD,bY⟩,⟨aG,cJ⟩,iv⟩:=aO;have aLm:=e'.2 (bF.1 bm).1;have RM:q≠p:=λ e=>by subst e;rw[bm]at au;cases au
 have agR:q≠A:=λ e=>by subst e;rw[bm]at bY;cases bY
 have agS:q≠B:=λ e=>by subst e;rw[bm]at cJ;cases cJ
 refine yb (us:=bq++[.ptr 0 0 0 0]) (aV:=[q]) (Z:=[1]) (X:=[.box [.ptr 1 0 0 0]]) he ah au bY cJ iv ?_ ?_ ?_ (by simp[a' RM]) (by simp[a' agR]) (by simp[a' agS]) ?_ (by simp) ?_ (λ ae aD af aG=>?_)
 ·simp[AG,bx,bc,gO,reach,bm,au,bY,cJ,kb,bH,aLm,c4,eN,qp,a' f',a' gi,a' iv,a' RM,a' agR,a' agS,Chunk.refs]
 ·rw[AF,(fU _).2 bq gO];simp[cx,co,bt]
 ·simp[bm,iu,cx,co,bt,a' RM]
 ·intro back aj;have e:=aj 1 p rfl;simp[bm,iu,cx,co,e]
 ·intro fa cF eb cG cX cc;obtain⟨a,b,aD,aG,rfl,rfl,aA,aj,cS,_⟩:=cc;have bG:=e'.2 (bF.1 aA).1;have bC:=e'.2 (bF.1 aj).1;simp[reach,kb,bH,bx,bc,aA,aj,bG,bC,a' cS,Chunk.refs]
 ·obtain⟨L,e,A,cF,B,cG,T,rfl,i⟩:=h ae aD af aG;exact⟨A,cF,B,cG,T,e,i⟩
def oW{f g:Nat}{bq:List U}{r:U}{m bZ:M}{H:aa}{k ac p A ae B af:Nat}(he:E.ext f=none)(gO:bx bq=[])(ah:bc r=[])(h:fB [.box [.aQ (.func g) [] [.ptr 1 0 0 0]],.box [.ptr 2 0 0 0]] f (bq++[.ptr 0 0 0 0]) m r bZ)(aO:ux H p m A ae B af)(ay:H[k]?=some (.box [.aQ (.func g) [] [.ptr ac 0 0 0]]))(a_:H[ac]?=some (.box [.ptr p 0 0 0]))(ie:k≠ac):
  ∃an,cn f (bq++[.ptr k 0 0 0]) H r an∧qk p bZ an∧so p H an:=by
 obtain⟨c4,eN,qp,f',gi⟩:=aO.lt;obtain⟨au,⟨aD,bY⟩,⟨aG,cJ⟩,iv⟩:=aO;have kc:=e'.2 (bF.1 ay).1;have jP:k≠p:=λ e=>by subst e;rw[ay]at au;cases au
 have kE:k≠A:=λ e=>by subst e;rw[ay]at bY;cases bY
 have kF:k≠B:=λ e=>by subst e;rw[ay]at cJ;cases cJ
 have pK:=e'.2 (bF.1 a_).1;have mZ:ac≠p:=λ e=>by subst e;rw[a_]at au;cases au
 have m_:ac≠A:=λ e=>by subst e;rw[a_]at bY;cases bY
 have m':ac≠B:=λ e=>by subst e;rw[a_]at cJ;cases cJ
 refine yb (us:=bq++[.ptr 0 0 0 0]) (aV:=[k,ac]) (Z:=[1,2]) (X:=[.box [.aQ (.func g) [] [.ptr 1 0 0 0]],.box [.ptr 2 0 0 0]]) he ah au bY cJ iv ?_ ?_ ?_ (by simp[a' jP,a' mZ]) (by simp[a' kE,a' m_]) (by simp[a' kF,a' m']) ?_ (by simp) ?_ (λ ae aD af aG=>?_)
 ·simp[AG,bx,bc,gO,reach,au,bY,cJ,kb,bH,c4,eN,qp,a' f',a' gi,a' iv,Chunk.refs,ay,kc,a' jP,a' kE,a' kF,a_,pK,a' mZ,a' m_,a' m',ie,a' ie]
 ·rw[AF,(fU _).2 bq gO];simp[cx,co,bt,ay,kc,a' jP,a' kE,a' kF,a_,pK,a' mZ,a' m_,a' m',ie,a' ie]
 ·simp[iu,cx,co,bt,ay,kc,a' jP,a' kE,a' kF,a_,pK,a' mZ,a' m_,a' m',ie,a' ie]
 ·intro back aj;have ao:=aj 1 ac rfl;have aH:=aj 2 p rfl;simp[iu,cx,co,ay,a_,ao,aH]
 ·intro fa cF eb cG cX cc;obtain⟨a,b,aD,aG,rfl,rfl,aA,aj,cS,_⟩:=cc;have bG:=e'.2 (bF.1 aA).1;have bC:=e'.2 (bF.1 aj).1;simp[reach,kb,bH,bx,bc,aA,aj,bG,bC,a' cS,Chunk.refs]
 ·obtain⟨L,e,A,cF,B,cG,T,rfl,i⟩:=h ae aD af aG;exact⟨A,cF,B,cG,T,e,i⟩
def AH{f g:Nat}{bq:List U}{r:U}{m bZ:M}{H:aa}{k p A ae B af:Nat}(he:E.ext f=none)(gO:bx bq=[])(ah:bc r=[])(h:fB [.box [.aQ (.func g) [.ptr 1 0 0 0] []]] f (bq++[.ptr 0 0 0 0]) m r bZ)(aO:ux H p m A ae B af)(ay:H[k]?=some (.box [.aQ (.func g) [.ptr p 0 0 0] []])):
  ∃an,cn f (bq++[.ptr k 0 0 0]) H r an∧qk p bZ an∧so p H an:=by
 obtain⟨c4,eN,qp,f',gi⟩:=aO.lt;obtain⟨au,⟨aD,bY⟩,⟨aG,cJ⟩,iv⟩:=aO;have kc:=e'.2 (bF.1 ay).1;have jP:k≠p:=λ e=>by subst e;rw[ay]at au;cases au
 have kE:k≠A:=λ e=>by subst e;rw[ay]at bY;cases bY
 have kF:k≠B:=λ e=>by subst e;rw[ay]at cJ;cases cJ
 refine yb (us:=bq++[.ptr 0 0 0 0]) (aV:=[k]) (Z:=[1]) (X:=[.box [.aQ (.func g) [.ptr 1 0 0 0] []]]) he ah au bY cJ iv ?_ ?_ ?_ (by simp[a' jP]) (by simp[a' kE]) (by simp[a' kF]) ?_ (by simp) ?_ (λ ae aD af aG=>?_)
 ·simp[AG,bx,bc,gO,reach,au,bY,cJ,kb,bH,c4,eN,qp,a' f',a' gi,a' iv,Chunk.refs,ay,kc,a' jP,a' kE,a' kF]
 ·rw[AF,(fU _).2 bq gO];simp[cx,co,bt,ay,kc,a' jP,a' kE,a' kF]
 ·simp[iu,cx,co,bt,ay,kc,a' jP,a' kE,a' kF]
 ·intro back aj;have ao:=aj 1 p rfl;simp[iu,cx,co,ay,ao]
 ·intro fa cF eb cG cX cc;obtain⟨a,b,aD,aG,rfl,rfl,aA,aj,cS,_⟩:=cc;have bG:=e'.2 (bF.1 aA).1;have bC:=e'.2 (bF.1 aj).1;simp[reach,kb,bH,bx,bc,aA,aj,bG,bC,a' cS,Chunk.refs]
 ·obtain⟨L,e,A,cF,B,cG,T,rfl,i⟩:=h ae aD af aG;exact⟨A,cF,B,cG,T,e,i⟩
def aLn{f g:Nat}{bq:List U}{r:U}{m bZ:M}{H:aa}{k ac p A ae B af:Nat}(he:E.ext f=none)(gO:bx bq=[])(ah:bc r=[])(h:fB [.box [.aQ (.func g) [] [.ptr 1 0 0 0]],.box [.ptr 2 0 0 0]] f (bq++[.ptr 0 0 0 0,.ptr 1 0 0 0]) m r bZ)(aO:ux H p m A ae B af)(ay:H[k]?=some (.box [.aQ (.func g) [] [.ptr ac 0 0 0]]))(a_:H[ac]?=some (.box [.ptr p 0 0 0]))(ie:k≠ac):
  ∃an,cn f (bq++[.ptr k 0 0 0,.ptr ac 0 0 0]) H r an∧qk p bZ an∧so p H an:=by
 obtain⟨c4,eN,qp,f',gi⟩:=aO.lt;obtain⟨au,⟨aD,bY⟩,⟨aG,cJ⟩,iv⟩:=aO;have kc:=e'.2 (bF.1 ay).1;have jP:k≠p:=λ e=>by subst e;rw[ay]at au;cases au
 have kE:k≠A:=λ e=>by subst e;rw[ay]at bY;cases bY
 have kF:k≠B:=λ e=>by subst e;rw[ay]at cJ;cases cJ
 have pK:=e'.2 (bF.1 a_).1;have mZ:ac≠p:=λ e=>by subst e;rw[a_]at au;cases au
 have m_:ac≠A:=λ e=>by subst e;rw[a_]at bY;cases bY
 have m':ac≠B:=λ e=>by subst e;rw[a_]at cJ;cases cJ
 refine yb (us:=bq++[.ptr 0 0 0 0,.ptr 1 0 0 0]) (aV:=[k,ac]) (Z:=[1,2]) (X:=[.box [.aQ (.func g) [] [.ptr 1 0 0 0]],.box [.ptr 2 0 0 0]]) he ah au bY cJ iv ?_ ?_ ?_ (by simp[a' jP,a' mZ]) (by simp[a' kE,a' m_]) (by simp[a' kF,a' m']) ?_ (by simp) ?_ (λ ae aD af aG=>?_)
 ·simp[AG,bx,bc,gO,reach,au,bY,cJ,kb,bH,c4,eN,qp,a' f',a' gi,a' iv,Chunk.refs,ay,kc,a' jP,a' kE,a' kF,a_,pK,a' mZ,a' m_,a' m',ie,a' ie]
 ·rw[AF,(fU _).2 bq gO];simp[cx,co,bt,ay,kc,a' jP,a' kE,a' kF,a_,pK,a' mZ,a' m_,a' m',ie,a' ie]
 ·simp[iu,cx,co,bt,ay,kc,a' jP,a' kE,a' kF,a_,pK,a' mZ,a' m_,a' m',ie,a' ie]
 ·intro back aj;have ao:=aj 1 ac rfl;have aH:=aj 2 p rfl;simp[iu,cx,co,ay,a_,ao,aH]
 ·intro fa cF eb cG cX cc;obtain⟨a,b,aD,aG,rfl,rfl,aA,aj,cS,_⟩:=cc;have bG:=e'.2 (bF.1 aA).1;have bC:=e'.2 (bF.1 aj).1;simp[reach,kb,bH,bx,bc,aA,aj,bG,bC,a' cS,Chunk.refs]
 ·obtain⟨L,e,A,cF,B,cG,T,rfl,i⟩:=h ae aD af aG;exact⟨A,cF,B,cG,T,e,i⟩
def aLo{f g d:Nat}{bq:List U}{r:U}{m bZ:M}{H:aa}{k i ac p A ae B af:Nat}(he:E.ext f=none)(gO:bx bq=[])(ah:bc r=[])(h:fB [.box [.aQ (.func g) [] [.ptr 1 0 0 0,.ptr 2 0 0 0]],.box [.aQ (.func d) [] [.ptr 2 0 0 0]],.box [.ptr 3 0 0 0]] f (bq++[.ptr 0 0 0 0]) m r bZ)(aO:ux H p m A ae B af)(ay:H[k]?=some (.box [.aQ (.func g) [] [.ptr i 0 0 0,.ptr ac 0 0 0]]))(ax:H[i]?=some (.box [.aQ (.func d) [] [.ptr ac 0 0 0]]))(a_:H[ac]?=some (.box [.ptr p 0 0 0]))(rv:k≠i)(ie:k≠ac)(ry:i≠ac):
  ∃an,cn f (bq++[.ptr k 0 0 0]) H r an∧qk p bZ an∧so p H an:=by
 obtain⟨c4,eN,qp,f',gi⟩:=aO.lt;obtain⟨au,⟨aD,bY⟩,⟨aG,cJ⟩,iv⟩:=aO;have kc:=e'.2 (bF.1 ay).1;have jP:k≠p:=λ e=>by subst e;rw[ay]at au;cases au
 have kE:k≠A:=λ e=>by subst e;rw[ay]at bY;cases bY
 have kF:k≠B:=λ e=>by subst e;rw[ay]at cJ;cases cJ
 have AI:=e'.2 (bF.1 ax).1;have ip:i≠p:=λ e=>by subst e;rw[ax]at au;cases au
 have wt:i≠A:=λ e=>by subst e;rw[ax]at bY;cases bY
 have wu:i≠B:=λ e=>by subst e;rw[ax]at cJ;cases cJ
 have pK:=e'.2 (bF.1 a_).1;have mZ:ac≠p:=λ e=>by subst e;rw[a_]at au;cases au
 have m_:ac≠A:=λ e=>by subst e;rw[a_]at bY;cases bY
 have m':ac≠B:=λ e=>by subst e;rw[a_]at cJ;cases cJ
 refine yb (us:=bq++[.ptr 0 0 0 0]) (aV:=[k,i,ac]) (Z:=[1,2,3]) (X:=[.box [.aQ (.func g) [] [.ptr 1 0 0 0,.ptr 2 0 0 0]],.box [.aQ (.func d) [] [.ptr 2 0 0 0]],.box [.ptr 3 0 0 0]]) he ah au bY cJ iv ?_ ?_ ?_ (by simp[a' jP,a' ip,a' mZ]) (by simp[a' kE,a' wt,a' m_]) (by simp[a' kF,a' wu,a' m']) ?_ (by simp) ?_ (λ ae aD af aG=>?_)
 ·simp[AG,bx,bc,gO,reach,au,bY,cJ,kb,bH,c4,eN,qp,a' f',a' gi,a' iv,Chunk.refs,ay,kc,a' jP,a' kE,a' kF,ax,AI,a' ip,a' wt,a' wu,a_,pK,a' mZ,a' m_,a' m',rv,a' rv,ie,a' ie,ry,a' ry]
 ·rw[AF,(fU _).2 bq gO];simp[cx,co,bt,ay,kc,a' jP,a' kE,a' kF,ax,AI,a' ip,a' wt,a' wu,a_,pK,a' mZ,a' m_,a' m',rv,a' rv,ie,a' ie,ry,a' ry]
 ·simp[iu,cx,co,bt,ay,kc,a' jP,a' kE,a' kF,ax,AI,a' ip,a' wt,a' wu,a_,pK,a' mZ,a' m_,a' m',rv,a' rv,ie,a' ie,ry,a' ry]
 ·intro back aj;have ao:=aj 1 i rfl;have aH:=aj 2 ac rfl;have bN:=aj 3 p rfl;simp[iu,cx,co,ay,ax,a_,ao,aH,bN]
 ·intro fa cF eb cG cX cc;obtain⟨a,b,aD,aG,rfl,rfl,aA,aj,cS,_⟩:=cc;have bG:=e'.2 (bF.1 aA).1;have bC:=e'.2 (bF.1 aj).1;simp[reach,kb,bH,bx,bc,aA,aj,bG,bC,a' cS,Chunk.refs]
 ·obtain⟨L,e,A,cF,B,cG,T,rfl,i⟩:=h ae aD af aG;exact⟨A,cF,B,cG,T,e,i⟩
def aLp{f g d:Nat}{bq:List U}{r:U}{m bZ:M}{H:aa}{k i ac p A ae B af:Nat}(he:E.ext f=none)(gO:bx bq=[])(ah:bc r=[])(h:fB [.box [.aQ (.func g) [] [.ptr 1 0 0 0]],.box [.aQ (.func d) [] [.ptr 2 0 0 0]],.box [.ptr 3 0 0 0]] f (bq++[.ptr 0 0 0 0]) m r bZ)(aO:ux H p m A ae B af)(ay:H[k]?=some (.box [.aQ (.func g) [] [.ptr i 0 0 0]]))(ax:H[i]?=some (.box [.aQ (.func d) [] [.ptr ac 0 0 0]]))(a_:H[ac]?=some (.box [.ptr p 0 0 0]))(rv:k≠i)(ie:k≠ac)(ry:i≠ac):
  ∃an,cn f (bq++[.ptr k 0 0 0]) H r an∧qk p bZ an∧so p H an:=by
 obtain⟨c4,eN,qp,f',gi⟩:=aO.lt;obtain⟨au,⟨aD,bY⟩,⟨aG,cJ⟩,iv⟩:=aO;have kc:=e'.2 (bF.1 ay).1;have jP:k≠p:=λ e=>by subst e;rw[ay]at au;cases au
 have kE:k≠A:=λ e=>by subst e;rw[ay]at bY;cases bY
 have kF:k≠B:=λ e=>by subst e;rw[ay]at cJ;cases cJ
 have AI:=e'.2 (bF.1 ax).1;have ip:i≠p:=λ e=>by subst e;rw[ax]at au;cases au
 have wt:i≠A:=λ e=>by subst e;rw[ax]at bY;cases bY
 have wu:i≠B:=λ e=>by subst e;rw[ax]at cJ;cases cJ
 have pK:=e'.2 (bF.1 a_).1;have mZ:ac≠p:=λ e=>by subst e;rw[a_]at au;cases au
 have m_:ac≠A:=λ e=>by subst e;rw[a_]at bY;cases bY
 have m':ac≠B:=λ e=>by subst e;rw[a_]at cJ;cases cJ
 refine yb (us:=bq++[.ptr 0 0 0 0]) (aV:=[k,i,ac]) (Z:=[1,2,3]) (X:=[.box [.aQ (.func g) [] [.ptr 1 0 0 0]],.box [.aQ (.func d) [] [.ptr 2 0 0 0]],.box [.ptr 3 0 0 0]]) he ah au bY cJ iv ?_ ?_ ?_ (by simp[a' jP,a' ip,a' mZ]) (by simp[a' kE,a' wt,a' m_]) (by simp[a' kF,a' wu,a' m']) ?_ (by simp) ?_ (λ ae aD af aG=>?_)
 ·simp[AG,bx,bc,gO,reach,au,bY,cJ,kb,bH,c4,eN,qp,a' f',a' gi,a' iv,Chunk.refs,ay,kc,a' jP,a' kE,a' kF,ax,AI,a' ip,a' wt,a' wu,a_,pK,a' mZ,a' m_,a' m',rv,a' rv,ie,a' ie,ry,a' ry]
 ·rw[AF,(fU _).2 bq gO];simp[cx,co,bt,ay,kc,a' jP,a' kE,a' kF,ax,AI,a' ip,a' wt,a' wu,a_,pK,a' mZ,a' m_,a' m',rv,a' rv,ie,a' ie,ry,a' ry]
 ·simp[iu,cx,co,bt,ay,kc,a' jP,a' kE,a' kF,ax,AI,a' ip,a' wt,a' wu,a_,pK,a' mZ,a' m_,a' m',rv,a' rv,ie,a' ie,ry,a' ry]
 ·intro back aj;have ao:=aj 1 i rfl;have aH:=aj 2 ac rfl;have bN:=aj 3 p rfl;simp[iu,cx,co,ay,ax,a_,ao,aH,bN]
 ·intro fa cF eb cG cX cc;obtain⟨a,b,aD,aG,rfl,rfl,aA,aj,cS,_⟩:=cc;have bG:=e'.2 (bF.1 aA).1;have bC:=e'.2 (bF.1 aj).1;simp[reach,kb,bH,bx,bc,aA,aj,bG,bC,a' cS,Chunk.refs]
 ·obtain⟨L,e,A,cF,B,cG,T,rfl,i⟩:=h ae aD af aG;exact⟨A,cF,B,cG,T,e,i⟩
def DF{f:Nat}{bq:List U}{m bZ:M}{r:U}(k3:bZ.G=m.G)(qi:bZ.O=m.O)(h:∀(ae af aD aG:Nat) (x y:List bT),∃L,b3 E f (.ptr 0 0 0 0::bq) [.box (aT m 1 ae 2 af),.az 5 ae aD x,.az 5 af aG y]=some (r,.box (aT bZ 1 ae 2 af)::.az 5 ae aD x::.az 5 af aG y::L)):hi f bq m r bZ:=λ ae aD af aG=>by obtain⟨L,e⟩:=h ae af aD aG (aX m.G) (aX m.O);refine⟨_,e,?_⟩;rw[←k3,←qi];exact dZ.dC
def RN(m:M):hi 91 [] m (.bd []) (mW m):=DF rfl rfl λ _ _ _ _ _ _=>afM
def RO{m:M}(h:bi m)(n:Int):hi 159 [.i (.v (.int .i64 (n)))] m (.bd []) {m with aF:=ir m.aF n (cf m)}:=DF rfl rfl λ _ _ _ _ _ _=>aJB h.cf n
def agT{m:M}(h:bi m)(n:Int):hi 99 [.i (.v (.int .i64 (n)))] m (.bd []) {m with aF:=mV m.aF n (cf m)}:=DF rfl rfl λ _ _ _ _ _ _=>afO h.cf n
def aLq{m:M}(h:bi m)(r c:Int):hi 147 [.i (.v (.int .i64 (r))),.i (.v (.int .i64 (c)))] m (.bd []) {m with aF:=⟨toR r (cf m),k0 c (cf m),false⟩}:=DF rfl rfl λ _ _ _ _ _ _=>Q3 h.cf r c
def aLr(m:M):hi 103 [] m (.bd []) (DB m):=DF rfl rfl λ _ _ _ _ _ _=>afQ
def aLs(m:M):hi 104 [] m (.bd []) (yn m):=DF rfl rfl λ _ _ _ _ _ _=>afS
def oX{f:Nat}{bq:List U}{r:U}{m bZ:M}(he:E.ext f=none)(gO:bx bq=[])(ah:bc r=[])(h:hi f bq m r bZ){x:Chunk}(ak:hW x){A ae B af:Nat}{T:aa}(cc:hh 2 m A ae B af T):
  ∃bW cF bR cG cX,cn f (.ptr 1 0 0 0::bq) (x::.box (aT m A ae B af)::T) r (x::.box (aT bZ (bW+2) cF (bR+2) cG)::cX)∧hh 2 bZ (bW+2) cF (bR+2) cG cX:=by
 have ti:=cc;obtain⟨a,b,aD,aG,rfl,rfl,aA,aj,cS,_⟩:=cc;obtain⟨an,e,j,I⟩:=GN (H:=x::.box (aT m (a+2) ae (b+2) af)::T) (p:=1) (A:=a+2) (B:=b+2) (ae:=ae) (af:=af) he gO ah h ⟨rfl,⟨aD,aA⟩,⟨aG,aj⟩,R⟩;obtain⟨fa,cF,eb,cG,cX,rfl,i⟩:=GM (P:=[x]) (λ y aY=>by rw[AJ.1 aY];exact ak) ti j I;obtain⟨bW,bR,oU,nx,rfl,rfl,i⟩:=i;exact⟨bW,cF,bR,cG,cX,e,bW,bR,oU,nx,rfl,rfl,i⟩
def aLt{m:M}{a ae b af aD aG:Nat}{x y:Chunk}{T:aa}(j:(x::y::T)[a]?=some (.az 5 ae aD (aX m.G)))(I:(x::y::T)[b]?=some (.az 5 af aG (aX m.O)))(cS:a≠b)(ak:x.refs=[])(aY:y.refs=[]):hh 2 m (a+2) ae (b+2) af (x::y::T):=
 ⟨a,b,aD,aG,rfl,rfl,j,I,cS,by simp,λ z h=>by cases h;exact ak,λ z h=>by cases h;exact aY⟩
def nA{m:M}{ae af aD aG:Nat}{T:aa}:hh 2 m 2 ae 3 af (.az 5 ae aD (aX m.G)::.az 5 af aG (aX m.O)::T):=aLt (a:=0) (b:=1) rfl rfl (by decide) rfl rfl
def mB{n:Nat}{x:Chunk}{m:M}{A ae B af:Nat}{T:aa}(cc:hh 2 m A ae B af T):GL 2 m (Chunk.box (ey n (x::.box (aT m A ae B af)::T) (aT m A ae B af))::eJ n (x::.box (aT m A ae B af)::T) 2 T):=RL (λ k=>rfl) cc
def aLu{m:M}(hm:bi m)(n:Int)(aE:1≤n∧n≤100000):fB [.box [.ptr 1 0 0 0]] 167 [.i (.v (.int .i64 (n))),.ptr 0 0 0 0] m (.bd []) ({m with aF:=mV m.aF (0-n) (cf m)}):=by intro ae aD af aG;have hw:=hm.w;have e3:=hm.aF.2.1;obtain⟨bW,cF,bR,cG,cX,ao,cz⟩:=oX rfl rfl rfl (agT hm (0-n)) (x:=.box [.ptr 1 0 0 0]) trivial (nA (m:=m) (ae:=ae) (af:=af) (aD:=aD) (aG:=aG) (T:=[]));simp only[cU,cp,c1,cj];rw[bo adE];simp(disch:=omega)only[ar,simprocAttr,aEO,bQ,bV,bH,ao];exact⟨_,rfl,mB cz⟩
def agU{m:M}(hm:bi m)(n:Int)(aE:1≤n∧n≤100000):fB [.box [.ptr 1 0 0 0]] 158 [.i (.v (.int .i64 (n))),.ptr 0 0 0 0] m (.bd []) ({m with aF:=ir m.aF (0-n) (cf m)}):=by intro ae aD af aG;have hw:=hm.w;have e3:=hm.aF.2.1;obtain⟨bW,cF,bR,cG,cX,ao,cz⟩:=oX rfl rfl rfl (RO hm (0-n)) (x:=.box [.ptr 1 0 0 0]) trivial (nA (m:=m) (ae:=ae) (af:=af) (aD:=aD) (aG:=aG) (T:=[]));simp only[cU,cp,c1,cj];rw[bo adx];simp(disch:=omega)only[ar,simprocAttr,aEH,bQ,bV,bH,ao];exact⟨_,rfl,mB cz⟩
def aLv{m:M}(hm:bi m)(n:Int)(aE:1≤n∧n≤100000):fB [.box [.ptr 1 0 0 0]] 163 [.i (.v (.int .i64 (n))),.ptr 0 0 0 0] m (.bd []) (sp m true n.toNat):=by intro ae aD af aG;have hw:=hm.w;have e3:=hm.aF.2.1;obtain⟨k,rfl⟩:=jb (show 0≤n by omega);obtain⟨bW,cF,bR,cG,cX,ao,cz⟩:=oX rfl rfl rfl (aJ2 hm k R) (x:=.box [.ptr 1 0 0 0]) trivial (nA (m:=m) (ae:=ae) (af:=af) (aD:=aD) (aG:=aG) (T:=[]));simp only[cU,cp,c1,cj];rw[bo adA];simp(disch:=omega)only[ar,simprocAttr,aEL,bQ,bV,bH,ao];exact⟨_,rfl,mB cz⟩
def aLw{m:M}(hm:bi m)(n:Int)(aE:1≤n∧n≤100000):fB [.box [.ptr 1 0 0 0]] 165 [.i (.v (.int .i64 (n))),.ptr 0 0 0 0] m (.bd []) (sp m false n.toNat):=by intro ae aD af aG;have hw:=hm.w;have e3:=hm.aF.2.1;obtain⟨k,rfl⟩:=jb (show 0≤n by omega);obtain⟨bW,cF,bR,cG,cX,ao,cz⟩:=oX rfl rfl rfl (aJ3 hm k R) (x:=.box [.ptr 1 0 0 0]) trivial (nA (m:=m) (ae:=ae) (af:=af) (aD:=aD) (aG:=aG) (T:=[]));simp only[cU,cp,c1,cj];rw[bo adC];simp(disch:=omega)only[ar,simprocAttr,aEM,bQ,bV,bH,ao];exact⟨_,rfl,mB cz⟩
def aLx{m:M}(hm:bi m)(n:Int)(aE:1≤n∧n≤100000):fB [.box [.ptr 1 0 0 0]] 170 [.i (.v (.int .i64 (n))),.ptr 0 0 0 0] m (.bd []) ({m with aF:=⟨toR n (cf m),k0 (m.aF.c+1) (cf m),false⟩}):=by intro ae aD af aG;have hw:=hm.w;have e3:=hm.aF.2.1;obtain⟨bW,cF,bR,cG,cX,ao,cz⟩:=oX rfl rfl rfl (aLq hm n (m.aF.c+1)) (x:=.box [.ptr 1 0 0 0]) trivial (nA (m:=m) (ae:=ae) (af:=af) (aD:=aD) (aG:=aG) (T:=[]));simp only[cU,cp,c1,cj];rw[bo adH];simp(disch:=omega)only[ar,simprocAttr,aER,bQ,bV,bH,ao];exact⟨_,rfl,mB cz⟩
def aLy{m:M}(hm:bi m)(n:Int)(aE:1≤n∧n≤100000):fB [.box [.ptr 1 0 0 0]] 171 [.i (.v (.int .i64 (n))),.ptr 0 0 0 0] m (.bd []) (nz n8 (min n.toNat m.w) m):=by intro ae aD af aG;have hw:=hm.w;have e3:=hm.aF.2.1;obtain⟨k,rfl⟩:=jb (show 0≤n by omega);obtain⟨bW,cF,bR,cG,cX,ao,cz⟩:=oX rfl rfl rfl (aKd hm k R) (x:=.box [.ptr 1 0 0 0]) trivial (nA (m:=m) (ae:=ae) (af:=af) (aD:=aD) (aG:=aG) (T:=[]));simp only[cU,cp,c1,cj];rw[bo adI];simp(disch:=omega)only[ar,simprocAttr,aES,bQ,bV,bH,ao];exact⟨_,rfl,mB cz⟩
def aLz{m:M}(hm:bi m)(n:Int)(aE:1≤n∧n≤100000):fB [.box [.ptr 1 0 0 0]] 173 [.i (.v (.int .i64 (n))),.ptr 0 0 0 0] m (.bd []) (nz qj (min n.toNat m.w) m):=by intro ae aD af aG;have hw:=hm.w;have e3:=hm.aF.2.1;obtain⟨k,rfl⟩:=jb (show 0≤n by omega);obtain⟨bW,cF,bR,cG,cX,ao,cz⟩:=oX rfl rfl rfl (aKe hm k R) (x:=.box [.ptr 1 0 0 0]) trivial (nA (m:=m) (ae:=ae) (af:=af) (aD:=aD) (aG:=aG) (T:=[]));simp only[cU,cp,c1,cj];rw[bo adJ];simp(disch:=omega)only[ar,simprocAttr,aET,bQ,bV,bH,ao];exact⟨_,rfl,mB cz⟩
def aLA{m:M}(hm:bi m)(n:Int)(aE:1≤n∧n≤100000):fB [.box [.ptr 1 0 0 0]] 178 [.i (.v (.int .i64 (n))),.ptr 0 0 0 0] m (.bd []) (k2 m m.cA n true):=by intro ae aD af aG;have hw:=hm.w;have e3:=hm.aF.2.1;obtain⟨bW,cF,bR,cG,cX,ao,cz⟩:=oX rfl rfl rfl (Gq hm m.cA n true ⟨hm.cY.1,hm.cY.2.1⟩) (x:=.box [.ptr 1 0 0 0]) trivial (nA (m:=m) (ae:=ae) (af:=af) (aD:=aD) (aG:=aG) (T:=[]));simp only[cU,cp,c1,cj];rw[bo adL];simp(disch:=omega)only[ar,simprocAttr,aEV,bQ,bV,bH,ao];exact⟨_,rfl,mB cz⟩
def aLB{m:M}(hm:bi m)(n:Int)(aE:1≤n∧n≤100000):fB [.box [.ptr 1 0 0 0]] 179 [.i (.v (.int .i64 (n))),.ptr 0 0 0 0] m (.bd []) (k2 m m.cA (0-n) false):=by intro ae aD af aG;have hw:=hm.w;have e3:=hm.aF.2.1;obtain⟨bW,cF,bR,cG,cX,ao,cz⟩:=oX rfl rfl rfl (Gq hm m.cA (0-n) false ⟨hm.cY.1,hm.cY.2.1⟩) (x:=.box [.ptr 1 0 0 0]) trivial (nA (m:=m) (ae:=ae) (af:=af) (aD:=aD) (aG:=aG) (T:=[]));simp only[cU,cp,c1,cj];rw[bo adM];simp(disch:=omega)only[ar,simprocAttr,aEW,bQ,bV,bH,ao];exact⟨_,rfl,mB cz⟩
def agV{f:Nat}{bq:List U}{r:U}{m bZ:M}{x:Chunk}{X Y:List bT}{ae af aD aG:Nat}(he:E.ext f=none)(aA:bx bq=[])(ah:bc r=[])
  (h:∃L,b3 E f (.ptr 0 0 0 0::bq) [.box (aT m 1 ae 2 af),.az 5 ae aD X,.az 5 af aG Y]=some (r,.box (aT bZ 1 ae 2 af)::.az 5 ae aD X::.az 5 af aG Y::L)):
  cn f (.ptr 1 0 0 0::bq) [x,.box (aT m 2 ae 3 af),.az 5 ae aD X,.az 5 af aG Y] r [x,.box (aT bZ 2 ae 3 af),.az 5 ae aD X,.az 5 af aG Y]:=by
 obtain⟨L,h⟩:=h;have vT:∀aS,cx aS bq=bq:=λ aS=>(fU aS).2 bq aA
 have iC:∀aS,co aS r=r:=λ aS=>(fU aS).1 r ah
 have n0:=λ aS=>kZ (show(Chunk.az 5 ae aD X).refs=[]from rfl) aS
 have ya:=λ aS=>kZ (show(Chunk.az 5 af aG Y).refs=[]from rfl) aS
 have dj:reach [x,.box (aT m 2 ae 3 af),.az 5 ae aD X,.az 5 af aG Y] 64 [1] []=[1,2,3]:=by simp[reach,kb,bH,Chunk.refs]
 have ao:=jN (bt [1,2,3]) m 2 ae 3 af 1 2 (by simp[bt]) (by simp[bt]);have aH:=jN (df [1,2,3] 4 []) bZ 1 ae 2 af 2 3 rfl rfl;have An:reach (.box (aT bZ 1 ae 2 af)::.az 5 ae aD X::.az 5 af aG Y::L) 64 [1,2] []=[1,2]:=by simp[reach,Chunk.refs]
 have oy:bt [1,2,3] 1=some 0:=by simp[bt]
 unfold cn dd;simp only[eV,he,bx,bc,aA,c8,dj];simp[cx,co,vT,oy,iu,n0,ya,ao,h,kb,bH,ah,Chunk.refs,An,aH,iC,ea]
def AK(m:M)(n:Int):M:={m with aF:=x_ ⟨m.aF.r,n-1,false⟩ (cf m)}
def uy(m:M)(n:Int):M:=if m.cA≤m.aF.r∧m.aF.r<m.b7 then mW (k2 m m.aF.r n false)else m
def Lu(m:M)(n:Int):M:=mW {m with aF:=ir m.aF n (cf m)}
def Lv(m:M)(n:Int):M:=yi m m.aF.c.toNat (min (m.aF.c+n) m.w).toNat
def aLC{m:M}(hm:bi m)(n:Int)(aE:0≤n):hi 181 [.i (.v (.int .i64 (m.aF.c))),.i (.v (.int .i64 (min (m.aF.c+n) m.w)))] m (.bd []) (Lv m n):=by have ag:=hm.aF.2.1;have e:=Lc hm m.aF.c.toNat (min (m.aF.c+n) m.w).toNat R R;rw[Int.toNat_of_nonneg ag.1,Int.toNat_of_nonneg R]at e;exact e
def aLD{m:M}(hm:bi m)(n:Int)(aE:1≤n∧n≤100000):fB [.box [.ptr 1 0 0 0]] 161 [.i (.v (.int .i64 (n))),.ptr 0 0 0 0] m (.bd []) (AK m n):=by
 intro ae aD af aG;have hw:=hm.w;have e3:=hm.aF.2.1;have c6:=λ H=>aIh ⟨m.aF.r,n-1,false⟩ hm.cf H
 simp only[cf]at c6;have ao:=agV (x:=.box [.ptr 1 0 0 0]) rfl rfl rfl (afN (m:=m) (ae:=ae) (af:=af) (aD:=aD) (aG:=aG) (x:=aX m.G) (y:=aX m.O));unfold AK;simp only[cU,cp,c1,cj];rw[bo adz];simp(disch:=omega)only[ar,simprocAttr,aEK,bQ,bV,bH,ao,c6,cf];exact⟨_,rfl,_,_,_,_,_,rfl,nA⟩
def agW{m:M}(hm:bi m)(n:Int)(aE:-100000≤n∧n≤100000):fB [.box [.ptr 1 0 0 0]] 162 [.i (.v (.int .i64 (n))),.ptr 0 0 0 0] m (.bd []) (uy m n):=by
 intro ae aD af aG;have hw:=hm.w;have e3:=hm.aF.2.1;unfold uy;have aRe:=hm.cY;by_cases b_:m.cA≤m.aF.r
 ·by_cases ca:m.aF.r<m.b7
  ·rw[if_pos ⟨b_,ca⟩];obtain⟨bW,cF,bR,cG,cX,ao,cz⟩:=oX rfl rfl rfl (Gq hm m.aF.r n false ⟨R,ca⟩) (x:=.box [.ptr 1 0 0 0]) trivial (nA (m:=m) (ae:=ae) (af:=af) (aD:=aD) (aG:=aG) (T:=[]));obtain⟨a2,ym,dz,wq,gQ,aH,i2⟩:=oX rfl rfl rfl (RN (k2 m m.aF.r n false)) (x:=.box [.ptr 1 0 0 0]) trivial cz;simp only[cU,cp,c1,cj];rw[bo Kc];simp(disch:=omega)only[ar,simprocAttr,PV,bQ,bV,bH,ao,aH,b_,ca];exact⟨_,rfl,mB i2⟩
  ·rw[if_neg R];simp only[cU,cp,c1,cj];rw[bo Kc];simp(disch:=omega)only[ar,simprocAttr,PV,bQ,bV,bH,b_,ca];exact⟨_,rfl,_,_,_,_,_,rfl,nA⟩
 ·rw[if_neg R];simp only[cU,cp,c1,cj];rw[bo Kc];simp(disch:=omega)only[ar,simprocAttr,PV,bQ,bV,bH,b_];exact⟨_,rfl,_,_,_,_,_,rfl,nA⟩
def aLE{m:M}(hm:bi m)(n:Int)(aE:1≤n∧n≤100000):fB [.box [.ptr 1 0 0 0]] 169 [.i (.v (.int .i64 (n))),.ptr 0 0 0 0] m (.bd []) (Lu m n):=by intro ae aD af aG;have hw:=hm.w;have e3:=hm.aF.2.1;unfold Lu;obtain⟨bW,cF,bR,cG,cX,ao,cz⟩:=oX rfl rfl rfl (RO hm n) (x:=.box [.ptr 1 0 0 0]) trivial (nA (m:=m) (ae:=ae) (af:=af) (aD:=aD) (aG:=aG) (T:=[]));obtain⟨a2,ym,dz,wq,gQ,aH,i2⟩:=oX rfl rfl rfl (RN {m with aF:=ir m.aF n (cf m)}) (x:=.box [.ptr 1 0 0 0]) trivial cz;simp only[cU,cp,c1,cj];rw[bo adG];simp(disch:=omega)only[ar,simprocAttr,aEQ,bQ,bV,bH,ao,aH];exact⟨_,rfl,mB i2⟩
def aLF{m:M}(hm:bi m)(n:Int)(aE:1≤n∧n≤100000):fB [.box [.ptr 1 0 0 0]] 180 [.i (.v (.int .i64 (n))),.ptr 0 0 0 0] m (.bd []) (Lv m n):=by intro ae aD af aG;have hw:=hm.w;have e3:=hm.aF.2.1;obtain⟨bW,cF,bR,cG,cX,ao,cz⟩:=oX rfl rfl rfl (aLC hm n R) (x:=.box [.ptr 1 0 0 0]) trivial (nA (m:=m) (ae:=ae) (af:=af) (aD:=aD) (aG:=aG) (T:=[]));simp only[cU,cp,c1,cj];rw[bo adN];simp(disch:=omega)only[ar,simprocAttr,aEX,bQ,bV,bH,ao];exact⟨_,rfl,mB cz⟩
def aLG{m:M}(hm:bi m)(l:List Int):fB [.box [.ptr 1 0 0 0]] 185 [.i (.sl 1 (b1 l) false),.ptr 0 0 0 0] m (.bd []) (DB m):=by intro ae aD af aG;have hw:=hm.w;have e3:=hm.aF.2.1;obtain⟨bW,cF,bR,cG,cX,ao,cz⟩:=oX rfl rfl rfl (aLr m) (x:=.box [.ptr 1 0 0 0]) trivial (nA (m:=m) (ae:=ae) (af:=af) (aD:=aD) (aG:=aG) (T:=[]));simp only[cU,cp,c1,cj];rw[bo PZ];simp(disch:=omega)only[ar,simprocAttr,aEZ,bQ,bV,bH,ao];exact⟨_,rfl,mB cz⟩
def aLH{m:M}(hm:bi m)(l:List Int):fB [.box [.ptr 1 0 0 0]] 186 [.i (.sl 1 (b1 l) false),.ptr 0 0 0 0] m (.bd []) (yn m):=by intro ae aD af aG;have hw:=hm.w;have e3:=hm.aF.2.1;obtain⟨bW,cF,bR,cG,cX,ao,cz⟩:=oX rfl rfl rfl (aLs m) (x:=.box [.ptr 1 0 0 0]) trivial (nA (m:=m) (ae:=ae) (af:=af) (aD:=aD) (aG:=aG) (T:=[]));simp only[cU,cp,c1,cj];rw[bo P0];simp(disch:=omega)only[ar,simprocAttr,aE0,bQ,bV,bH,ao];exact⟨_,rfl,mB cz⟩
def AL{P:aa}{f k:Nat}{bq:List U}{r:U}{m bZ:M}(ay:k=P.length)(lP:∀x∈P,hW x)(he:E.ext f=none)(gO:bx bq=[])(ah:bc r=[])(h:hi f bq m r bZ){A ae B af:Nat}{T:aa}(cc:hh (P.length+1) m A ae B af T):
  ∃fa cF eb cG cX,cn f (.ptr k 0 0 0::bq) (P++.box (aT m A ae B af)::T) r (P++.box (aT bZ fa cF eb cG)::cX)∧hh (P.length+1) bZ fa cF eb cG cX:=by
 subst ay;have ti:=cc;obtain⟨a,b,aD,aG,rfl,rfl,aA,aj,cS,_⟩:=cc;have dn:∀k,(P++.box (aT m (a+(P.length+1)) ae (b+(P.length+1)) af)::T)[k+(P.length+1)]?=T[k]?:=λ k=>by rw[hd R,show k+(P.length+1)-P.length=k+1 by omega,jF]
 obtain⟨an,e,j,I⟩:=GN (H:=P++.box (aT m (a+(P.length+1)) ae (b+(P.length+1)) af)::T) (p:=P.length) (ae:=ae) (af:=af) he gO ah h ⟨by rw[hd (cL _),rR];rfl,⟨aD,(dn a).trans aA⟩,⟨aG,(dn b).trans aj⟩,R⟩;obtain⟨fa,cF,eb,cG,cX,rfl,i⟩:=GM lP ti j I;exact⟨fa,cF,eb,cG,cX,e,i⟩
def pL{P:aa}{f q:Nat}{bq:List U}{r:U}{m bZ:M}(bm:P[q]?=some (.box [.ptr P.length 0 0 0]))(lP:∀x∈P,hW x)(he:E.ext f=none)(gO:bx bq=[])(ah:bc r=[])(h:fB [.box [.ptr 1 0 0 0]] f (bq++[.ptr 0 0 0 0]) m r bZ){A ae B af:Nat}{T:aa}(cc:hh (P.length+1) m A ae B af T):
  ∃fa cF eb cG cX,cn f (bq++[.ptr q 0 0 0]) (P++.box (aT m A ae B af)::T) r (P++.box (aT bZ fa cF eb cG)::cX)∧hh (P.length+1) bZ fa cF eb cG cX:=by
 have ti:=cc;obtain⟨a,b,aD,aG,rfl,rfl,aA,aj,cS,_⟩:=cc;have dn:∀k,(P++.box (aT m (a+(P.length+1)) ae (b+(P.length+1)) af)::T)[k+(P.length+1)]?=T[k]?:=λ k=>by rw[hd R,show k+(P.length+1)-P.length=k+1 by omega,jF]
 obtain⟨an,e,j,I⟩:=GO (H:=P++.box (aT m (a+(P.length+1)) ae (b+(P.length+1)) af)::T) (q:=q) (p:=P.length) (ae:=ae) (af:=af) he gO ah h ⟨by rw[hd (cL _),rR];rfl,⟨aD,(dn a).trans aA⟩,⟨aG,(dn b).trans aj⟩,R⟩ (by rw[ei (bF.1 bm).1];exact bm);obtain⟨fa,cF,eb,cG,cX,rfl,i⟩:=GM lP ti j I;exact⟨fa,cF,eb,cG,cX,e,i⟩
def k4(ai:Nat){m:M}{ae af aD aG:Nat}{T:aa}:hh ai m (0+ai) ae (1+ai) af (.az 5 ae aD (aX m.G)::.az 5 af aG (aX m.O)::T):=
 ⟨0,1,aD,aG,rfl,rfl,rfl,rfl,by decide,by simp,λ z h=>by cases h;rfl,λ z h=>by cases h;rfl⟩
def pM{n:Nat}{x y:Chunk}{m:M}{A ae B af:Nat}{T:aa}(cc:hh 3 m A ae B af T):GL 3 m (Chunk.box (ey n (x::y::.box (aT m A ae B af)::T) (aT m A ae B af))::eJ n (x::y::.box (aT m A ae B af)::T) 3 T):=RL (λ k=>rfl) cc
def Lw(m:M)(n:Int):M:=mW {m with aF:=ir m.aF (0-n) (cf m)}
def aLI{m:M}(hm:bi m)(n:Int)(aE:1≤n∧n≤100000):fB [.box [.aQ (.func 158) [] [.ptr 1 0 0 0]],.box [.ptr 2 0 0 0]] 168 [.i (.v (.int .i64 (n))),.ptr 0 0 0 0,.ptr 1 0 0 0] m (.bd []) (Lw m n):=by intro ae aD af aG;obtain⟨ly,ke,lz,kf,gM,ao,cz⟩:=pL (P:=[.box [.aQ (.func 158) [] [.ptr 1 0 0 0]],.box [.ptr 2 0 0 0]]) (q:=1) (bq:=[.i (.v (.int .i64 (n)))]) rfl (by simp[hW]) rfl rfl rfl (agU hm n aE) (k4 3 (m:=m) (ae:=ae) (af:=af) (aD:=aD) (aG:=aG) (T:=[]));obtain⟨yc,ym,yd,wq,gQ,aH,i2⟩:=AL (P:=[.box [.aQ (.func 158) [] [.ptr 1 0 0 0]],.box [.ptr 2 0 0 0]]) (k:=2) rfl (by simp[hW]) rfl rfl rfl (RN {m with aF:=ir m.aF (0-n) (cf m)}) cz;unfold Lw;simp only[cU,cp,c1,cj];simp only[cU,cp,c1,cj]at ao cz;simp only[cU,cp,c1,cj]at aH i2;rw[bo adF];simp(disch:=omega)only[ar,simprocAttr,aEP,bQ,bV,bH,ao,aH,Pv];exact⟨_,rfl,pM i2⟩
def aLJ{m:M}(hm:bi m)(n:Int)(aE:1≤n∧n≤100000):fB [.box [.aQ (.func 162) [] [.ptr 1 0 0 0]],.box [.ptr 2 0 0 0]] 177 [.i (.v (.int .i64 (n))),.ptr 0 0 0 0] m (.bd []) (uy m (0-n)):=by intro ae aD af aG;obtain⟨ly,ke,lz,kf,gM,ao,cz⟩:=pL (P:=[.box [.aQ (.func 162) [] [.ptr 1 0 0 0]],.box [.ptr 2 0 0 0]]) (q:=1) (bq:=[.i (.v (.int .i64 (0-n)))]) rfl (by simp[hW]) rfl rfl rfl (agW hm (0-n) R) (k4 3 (m:=m) (ae:=ae) (af:=af) (aD:=aD) (aG:=aG) (T:=[]));simp only[cU,cp,c1,cj];simp only[cU,cp,c1,cj]at ao cz;rw[bo adK];simp(disch:=omega)only[ar,simprocAttr,aEU,bQ,bV,bH,ao,Pw];exact⟨_,rfl,pM cz⟩
def agX{m:M}(hm:bi m)(l:List Int)(al:l.length<100000)(aE:1≤bU l 0 1∧bU l 0 1≤100000):fB [.box [.aQ (.func 158) [] [.ptr 1 0 0 0]],.box [.ptr 2 0 0 0]] 154 [.i (.sl 1 (b1 l) false),.ptr 0 0 0 0] m (.bd []) ({m with aF:=ir m.aF (0-(bU l 0 1)) (cf m)}):=by
 intro ae aD af aG;have c6:=λ H=>kd l 0 1 al H
 obtain⟨ly,ke,lz,kf,gM,ao,cz⟩:=pL (P:=[.box [.aQ (.func 158) [] [.ptr 1 0 0 0]],.box [.ptr 2 0 0 0]]) (q:=1) (bq:=[.i (.v (.int .i64 (bU l 0 1)))]) rfl (by simp[hW]) rfl rfl rfl (agU hm (bU l 0 1) aE) (k4 3 (m:=m) (ae:=ae) (af:=af) (aD:=aD) (aG:=aG) (T:=[]));simp only[cU,cp,c1,cj];simp only[cU,cp,c1,cj]at ao cz;rw[bo mU];simp(disch:=omega)only[ar,simprocAttr,nX,bA,bQ,bV,bH,c6,ao,Pv];exact⟨_,rfl,pM cz⟩
def agY{m:M}(hm:bi m)(l:List Int)(al:l.length<100000)(aE:1≤bU l 0 1∧bU l 0 1≤100000):fB [.box [.aQ (.func 161) [] [.ptr 1 0 0 0]],.box [.ptr 2 0 0 0]] 154 [.i (.sl 1 (b1 l) false),.ptr 0 0 0 0] m (.bd []) (AK m (bU l 0 1)):=by
 intro ae aD af aG;have c6:=λ H=>kd l 0 1 al H
 obtain⟨ly,ke,lz,kf,gM,ao,cz⟩:=pL (P:=[.box [.aQ (.func 161) [] [.ptr 1 0 0 0]],.box [.ptr 2 0 0 0]]) (q:=1) (bq:=[.i (.v (.int .i64 (bU l 0 1)))]) rfl (by simp[hW]) rfl rfl rfl (aLD hm (bU l 0 1) aE) (k4 3 (m:=m) (ae:=ae) (af:=af) (aD:=aD) (aG:=aG) (T:=[]));simp only[cU,cp,c1,cj];simp only[cU,cp,c1,cj]at ao cz;rw[bo mU];simp(disch:=omega)only[ar,simprocAttr,nX,bA,bQ,bV,bH,c6,ao,abV];exact⟨_,rfl,pM cz⟩
def aLK{m:M}(hm:bi m)(l:List Int)(al:l.length<100000)(aE:1≤bU l 0 1∧bU l 0 1≤100000):fB [.box [.aQ (.func 163) [] [.ptr 1 0 0 0]],.box [.ptr 2 0 0 0]] 154 [.i (.sl 1 (b1 l) false),.ptr 0 0 0 0] m (.bd []) (sp m true (bU l 0 1).toNat):=by
 intro ae aD af aG;have c6:=λ H=>kd l 0 1 al H
 obtain⟨ly,ke,lz,kf,gM,ao,cz⟩:=pL (P:=[.box [.aQ (.func 163) [] [.ptr 1 0 0 0]],.box [.ptr 2 0 0 0]]) (q:=1) (bq:=[.i (.v (.int .i64 (bU l 0 1)))]) rfl (by simp[hW]) rfl rfl rfl (aLv hm (bU l 0 1) aE) (k4 3 (m:=m) (ae:=ae) (af:=af) (aD:=aD) (aG:=aG) (T:=[]));simp only[cU,cp,c1,cj];simp only[cU,cp,c1,cj]at ao cz;rw[bo mU];simp(disch:=omega)only[ar,simprocAttr,nX,bA,bQ,bV,bH,c6,ao,abW];exact⟨_,rfl,pM cz⟩
def aLL{m:M}(hm:bi m)(l:List Int)(al:l.length<100000)(aE:1≤bU l 0 1∧bU l 0 1≤100000):fB [.box [.aQ (.func 165) [] [.ptr 1 0 0 0]],.box [.ptr 2 0 0 0]] 154 [.i (.sl 1 (b1 l) false),.ptr 0 0 0 0] m (.bd []) (sp m false (bU l 0 1).toNat):=by
 intro ae aD af aG;have c6:=λ H=>kd l 0 1 al H
 obtain⟨ly,ke,lz,kf,gM,ao,cz⟩:=pL (P:=[.box [.aQ (.func 165) [] [.ptr 1 0 0 0]],.box [.ptr 2 0 0 0]]) (q:=1) (bq:=[.i (.v (.int .i64 (bU l 0 1)))]) rfl (by simp[hW]) rfl rfl rfl (aLw hm (bU l 0 1) aE) (k4 3 (m:=m) (ae:=ae) (af:=af) (aD:=aD) (aG:=aG) (T:=[]));simp only[cU,cp,c1,cj];simp only[cU,cp,c1,cj]at ao cz;rw[bo mU];simp(disch:=omega)only[ar,simprocAttr,nX,bA,bQ,bV,bH,c6,ao,abY];exact⟨_,rfl,pM cz⟩
def aLM{m:M}(hm:bi m)(l:List Int)(al:l.length<100000)(aE:1≤bU l 0 1∧bU l 0 1≤100000):fB [.box [.aQ (.func 167) [] [.ptr 1 0 0 0]],.box [.ptr 2 0 0 0]] 154 [.i (.sl 1 (b1 l) false),.ptr 0 0 0 0] m (.bd []) ({m with aF:=mV m.aF (0-(bU l 0 1)) (cf m)}):=by
 intro ae aD af aG;have c6:=λ H=>kd l 0 1 al H
 obtain⟨ly,ke,lz,kf,gM,ao,cz⟩:=pL (P:=[.box [.aQ (.func 167) [] [.ptr 1 0 0 0]],.box [.ptr 2 0 0 0]]) (q:=1) (bq:=[.i (.v (.int .i64 (bU l 0 1)))]) rfl (by simp[hW]) rfl rfl rfl (aLu hm (bU l 0 1) aE) (k4 3 (m:=m) (ae:=ae) (af:=af) (aD:=aD) (aG:=aG) (T:=[]));simp only[cU,cp,c1,cj];simp only[cU,cp,c1,cj]at ao cz;rw[bo mU];simp(disch:=omega)only[ar,simprocAttr,nX,bA,bQ,bV,bH,c6,ao,abZ];exact⟨_,rfl,pM cz⟩
def aLN{m:M}(hm:bi m)(l:List Int)(al:l.length<100000)(aE:1≤bU l 0 1∧bU l 0 1≤100000):fB [.box [.aQ (.func 169) [] [.ptr 1 0 0 0]],.box [.ptr 2 0 0 0]] 154 [.i (.sl 1 (b1 l) false),.ptr 0 0 0 0] m (.bd []) (Lu m (bU l 0 1)):=by
 intro ae aD af aG;have c6:=λ H=>kd l 0 1 al H
 obtain⟨ly,ke,lz,kf,gM,ao,cz⟩:=pL (P:=[.box [.aQ (.func 169) [] [.ptr 1 0 0 0]],.box [.ptr 2 0 0 0]]) (q:=1) (bq:=[.i (.v (.int .i64 (bU l 0 1)))]) rfl (by simp[hW]) rfl rfl rfl (aLE hm (bU l 0 1) aE) (k4 3 (m:=m) (ae:=ae) (af:=af) (aD:=aD) (aG:=aG) (T:=[]));simp only[cU,cp,c1,cj];simp only[cU,cp,c1,cj]at ao cz;rw[bo mU];simp(disch:=omega)only[ar,simprocAttr,nX,bA,bQ,bV,bH,c6,ao,ab1];exact⟨_,rfl,pM cz⟩
def aLO{m:M}(hm:bi m)(l:List Int)(al:l.length<100000)(aE:1≤bU l 0 1∧bU l 0 1≤100000):fB [.box [.aQ (.func 170) [] [.ptr 1 0 0 0]],.box [.ptr 2 0 0 0]] 154 [.i (.sl 1 (b1 l) false),.ptr 0 0 0 0] m (.bd []) ({m with aF:=⟨toR (bU l 0 1) (cf m),k0 (m.aF.c+1) (cf m),false⟩}):=by
 intro ae aD af aG;have c6:=λ H=>kd l 0 1 al H
 obtain⟨ly,ke,lz,kf,gM,ao,cz⟩:=pL (P:=[.box [.aQ (.func 170) [] [.ptr 1 0 0 0]],.box [.ptr 2 0 0 0]]) (q:=1) (bq:=[.i (.v (.int .i64 (bU l 0 1)))]) rfl (by simp[hW]) rfl rfl rfl (aLx hm (bU l 0 1) aE) (k4 3 (m:=m) (ae:=ae) (af:=af) (aD:=aD) (aG:=aG) (T:=[]));simp only[cU,cp,c1,cj];simp only[cU,cp,c1,cj]at ao cz;rw[bo mU];simp(disch:=omega)only[ar,simprocAttr,nX,bA,bQ,bV,bH,c6,ao,ab2];exact⟨_,rfl,pM cz⟩
def aLP{m:M}(hm:bi m)(l:List Int)(al:l.length<100000)(aE:1≤bU l 0 1∧bU l 0 1≤100000):fB [.box [.aQ (.func 171) [] [.ptr 1 0 0 0]],.box [.ptr 2 0 0 0]] 154 [.i (.sl 1 (b1 l) false),.ptr 0 0 0 0] m (.bd []) (nz n8 (min (bU l 0 1).toNat m.w) m):=by
 intro ae aD af aG;have c6:=λ H=>kd l 0 1 al H
 obtain⟨ly,ke,lz,kf,gM,ao,cz⟩:=pL (P:=[.box [.aQ (.func 171) [] [.ptr 1 0 0 0]],.box [.ptr 2 0 0 0]]) (q:=1) (bq:=[.i (.v (.int .i64 (bU l 0 1)))]) rfl (by simp[hW]) rfl rfl rfl (aLy hm (bU l 0 1) aE) (k4 3 (m:=m) (ae:=ae) (af:=af) (aD:=aD) (aG:=aG) (T:=[]));simp only[cU,cp,c1,cj];simp only[cU,cp,c1,cj]at ao cz;rw[bo mU];simp(disch:=omega)only[ar,simprocAttr,nX,bA,bQ,bV,bH,c6,ao,ab3];exact⟨_,rfl,pM cz⟩
def aLQ{m:M}(hm:bi m)(l:List Int)(al:l.length<100000)(aE:1≤bU l 0 1∧bU l 0 1≤100000):fB [.box [.aQ (.func 173) [] [.ptr 1 0 0 0]],.box [.ptr 2 0 0 0]] 154 [.i (.sl 1 (b1 l) false),.ptr 0 0 0 0] m (.bd []) (nz qj (min (bU l 0 1).toNat m.w) m):=by
 intro ae aD af aG;have c6:=λ H=>kd l 0 1 al H
 obtain⟨ly,ke,lz,kf,gM,ao,cz⟩:=pL (P:=[.box [.aQ (.func 173) [] [.ptr 1 0 0 0]],.box [.ptr 2 0 0 0]]) (q:=1) (bq:=[.i (.v (.int .i64 (bU l 0 1)))]) rfl (by simp[hW]) rfl rfl rfl (aLz hm (bU l 0 1) aE) (k4 3 (m:=m) (ae:=ae) (af:=af) (aD:=aD) (aG:=aG) (T:=[]));simp only[cU,cp,c1,cj];simp only[cU,cp,c1,cj]at ao cz;rw[bo mU];simp(disch:=omega)only[ar,simprocAttr,nX,bA,bQ,bV,bH,c6,ao,ab5];exact⟨_,rfl,pM cz⟩
def aLR{m:M}(hm:bi m)(l:List Int)(al:l.length<100000)(aE:1≤bU l 0 1∧bU l 0 1≤100000):fB [.box [.aQ (.func 178) [] [.ptr 1 0 0 0]],.box [.ptr 2 0 0 0]] 154 [.i (.sl 1 (b1 l) false),.ptr 0 0 0 0] m (.bd []) (k2 m m.cA (bU l 0 1) true):=by
 intro ae aD af aG;have c6:=λ H=>kd l 0 1 al H
 obtain⟨ly,ke,lz,kf,gM,ao,cz⟩:=pL (P:=[.box [.aQ (.func 178) [] [.ptr 1 0 0 0]],.box [.ptr 2 0 0 0]]) (q:=1) (bq:=[.i (.v (.int .i64 (bU l 0 1)))]) rfl (by simp[hW]) rfl rfl rfl (aLA hm (bU l 0 1) aE) (k4 3 (m:=m) (ae:=ae) (af:=af) (aD:=aD) (aG:=aG) (T:=[]));simp only[cU,cp,c1,cj];simp only[cU,cp,c1,cj]at ao cz;rw[bo mU];simp(disch:=omega)only[ar,simprocAttr,nX,bA,bQ,bV,bH,c6,ao,ab8];exact⟨_,rfl,pM cz⟩
def aLS{m:M}(hm:bi m)(l:List Int)(al:l.length<100000)(aE:1≤bU l 0 1∧bU l 0 1≤100000):fB [.box [.aQ (.func 179) [] [.ptr 1 0 0 0]],.box [.ptr 2 0 0 0]] 154 [.i (.sl 1 (b1 l) false),.ptr 0 0 0 0] m (.bd []) (k2 m m.cA (0-(bU l 0 1)) false):=by
 intro ae aD af aG;have c6:=λ H=>kd l 0 1 al H
 obtain⟨ly,ke,lz,kf,gM,ao,cz⟩:=pL (P:=[.box [.aQ (.func 179) [] [.ptr 1 0 0 0]],.box [.ptr 2 0 0 0]]) (q:=1) (bq:=[.i (.v (.int .i64 (bU l 0 1)))]) rfl (by simp[hW]) rfl rfl rfl (aLB hm (bU l 0 1) aE) (k4 3 (m:=m) (ae:=ae) (af:=af) (aD:=aD) (aG:=aG) (T:=[]));simp only[cU,cp,c1,cj];simp only[cU,cp,c1,cj]at ao cz;rw[bo mU];simp(disch:=omega)only[ar,simprocAttr,nX,bA,bQ,bV,bH,c6,ao,ab9];exact⟨_,rfl,pM cz⟩
def aLT{m:M}(hm:bi m)(l:List Int)(al:l.length<100000)(aE:1≤bU l 0 1∧bU l 0 1≤100000):fB [.box [.aQ (.func 180) [] [.ptr 1 0 0 0]],.box [.ptr 2 0 0 0]] 154 [.i (.sl 1 (b1 l) false),.ptr 0 0 0 0] m (.bd []) (Lv m (bU l 0 1)):=by
 intro ae aD af aG;have c6:=λ H=>kd l 0 1 al H
 obtain⟨ly,ke,lz,kf,gM,ao,cz⟩:=pL (P:=[.box [.aQ (.func 180) [] [.ptr 1 0 0 0]],.box [.ptr 2 0 0 0]]) (q:=1) (bq:=[.i (.v (.int .i64 (bU l 0 1)))]) rfl (by simp[hW]) rfl rfl rfl (aLF hm (bU l 0 1) aE) (k4 3 (m:=m) (ae:=ae) (af:=af) (aD:=aD) (aG:=aG) (T:=[]));simp only[cU,cp,c1,cj];simp only[cU,cp,c1,cj]at ao cz;rw[bo mU];simp(disch:=omega)only[ar,simprocAttr,nX,bA,bQ,bV,bH,c6,ao,ab_];exact⟨_,rfl,pM cz⟩
def agZ{n:Nat}{x y z:Chunk}{m:M}{A ae B af:Nat}{T:aa}(cc:hh 4 m A ae B af T):GL 4 m (Chunk.box (ey n (x::y::z::.box (aT m A ae B af)::T) (aT m A ae B af))::eJ n (x::y::z::.box (aT m A ae B af)::T) 4 T):=RL (λ k=>rfl) cc
def aLU{P:aa}{f g k ac:Nat}{bq:List U}{r:U}{m bZ:M}(ay:P[k]?=some (.box [.aQ (.func g) [] [.ptr ac 0 0 0]]))(a_:P[ac]?=some (.box [.ptr P.length 0 0 0]))(lP:∀x∈P,hW x)(he:E.ext f=none)(gO:bx bq=[])(ah:bc r=[])(h:fB [.box [.aQ (.func g) [] [.ptr 1 0 0 0]],.box [.ptr 2 0 0 0]] f (bq++[.ptr 0 0 0 0]) m r bZ){A ae B af:Nat}{T:aa}(cc:hh (P.length+1) m A ae B af T)(ie:k≠ac):
  ∃fa cF eb cG cX,cn f (bq++[.ptr k 0 0 0]) (P++.box (aT m A ae B af)::T) r (P++.box (aT bZ fa cF eb cG)::cX)∧hh (P.length+1) bZ fa cF eb cG cX:=by
 have ti:=cc;obtain⟨a,b,aD,aG,rfl,rfl,aA,aj,cS,_⟩:=cc;have dn:∀k,(P++.box (aT m (a+(P.length+1)) ae (b+(P.length+1)) af)::T)[k+(P.length+1)]?=T[k]?:=λ k=>by rw[hd R,show k+(P.length+1)-P.length=k+1 by omega,jF]
 obtain⟨an,e,j,I⟩:=oW (H:=P++.box (aT m (a+(P.length+1)) ae (b+(P.length+1)) af)::T) (k:=k) (ac:=ac) (p:=P.length) (ae:=ae) (af:=af) he gO ah h ⟨by rw[hd (cL _),rR];rfl,⟨aD,(dn a).trans aA⟩,⟨aG,(dn b).trans aj⟩,R⟩ (by rw[ei (bF.1 ay).1];exact ay) (by rw[ei (bF.1 a_).1];exact a_) ie;obtain⟨fa,cF,eb,cG,cX,rfl,i⟩:=GM lP ti j I;exact⟨fa,cF,eb,cG,cX,e,i⟩
def aLV{P:aa}{f g k ac:Nat}{bq:List U}{r:U}{m bZ:M}(ay:P[k]?=some (.box [.aQ (.func g) [] [.ptr ac 0 0 0]]))(a_:P[ac]?=some (.box [.ptr P.length 0 0 0]))(lP:∀x∈P,hW x)(he:E.ext f=none)(gO:bx bq=[])(ah:bc r=[])(h:fB [.box [.aQ (.func g) [] [.ptr 1 0 0 0]],.box [.ptr 2 0 0 0]] f (bq++[.ptr 0 0 0 0,.ptr 1 0 0 0]) m r bZ){A ae B af:Nat}{T:aa}(cc:hh (P.length+1) m A ae B af T)(ie:k≠ac):
  ∃fa cF eb cG cX,cn f (bq++[.ptr k 0 0 0,.ptr ac 0 0 0]) (P++.box (aT m A ae B af)::T) r (P++.box (aT bZ fa cF eb cG)::cX)∧hh (P.length+1) bZ fa cF eb cG cX:=by
 have ti:=cc;obtain⟨a,b,aD,aG,rfl,rfl,aA,aj,cS,_⟩:=cc;have dn:∀k,(P++.box (aT m (a+(P.length+1)) ae (b+(P.length+1)) af)::T)[k+(P.length+1)]?=T[k]?:=λ k=>by rw[hd R,show k+(P.length+1)-P.length=k+1 by omega,jF]
 obtain⟨an,e,j,I⟩:=aLn (H:=P++.box (aT m (a+(P.length+1)) ae (b+(P.length+1)) af)::T) (k:=k) (ac:=ac) (p:=P.length) (ae:=ae) (af:=af) he gO ah h ⟨by rw[hd (cL _),rR];rfl,⟨aD,(dn a).trans aA⟩,⟨aG,(dn b).trans aj⟩,R⟩ (by rw[ei (bF.1 ay).1];exact ay) (by rw[ei (bF.1 a_).1];exact a_) ie;obtain⟨fa,cF,eb,cG,cX,rfl,i⟩:=GM lP ti j I;exact⟨fa,cF,eb,cG,cX,e,i⟩
def aLW{m:M}(hm:bi m)(l:List Int)(al:l.length<100000)(aE:1≤bU l 0 1∧bU l 0 1≤100000):fB [.box [.aQ (.func 159) [.ptr 1 0 0 0] []]] 154 [.i (.sl 1 (b1 l) false),.ptr 0 0 0 0] m (.bd []) ({m with aF:=ir m.aF (bU l 0 1) (cf m)}):=by
 intro ae aD af aG;have c6:=λ H=>kd l 0 1 al H
 obtain⟨ly,ke,lz,kf,gM,ao,cz⟩:=AL (P:=[.box [.aQ (.func 159) [.ptr 1 0 0 0] []]]) (k:=1) (bq:=[.i (.v (.int .i64 (bU l 0 1)))]) rfl (by simp[hW]) rfl rfl rfl (RO hm (bU l 0 1)) (k4 2 (m:=m) (ae:=ae) (af:=af) (aD:=aD) (aG:=aG) (T:=[]));simp only[cU,cp,c1,cj];simp only[cU,cp,c1,cj]at ao cz;rw[bo mU];simp(disch:=omega)only[ar,simprocAttr,nX,bA,bQ,bV,bH,c6,ao,JU];exact⟨_,rfl,mB cz⟩
def ag0{m:M}(hm:bi m)(l:List Int)(al:l.length<100000)(aE:1≤bU l 0 1∧bU l 0 1≤100000):fB [.box [.aQ (.func 99) [.ptr 1 0 0 0] []]] 154 [.i (.sl 1 (b1 l) false),.ptr 0 0 0 0] m (.bd []) ({m with aF:=mV m.aF (bU l 0 1) (cf m)}):=by
 intro ae aD af aG;have c6:=λ H=>kd l 0 1 al H
 obtain⟨ly,ke,lz,kf,gM,ao,cz⟩:=AL (P:=[.box [.aQ (.func 99) [.ptr 1 0 0 0] []]]) (k:=1) (bq:=[.i (.v (.int .i64 (bU l 0 1)))]) rfl (by simp[hW]) rfl rfl rfl (agT hm (bU l 0 1)) (k4 2 (m:=m) (ae:=ae) (af:=af) (aD:=aD) (aG:=aG) (T:=[]));simp only[cU,cp,c1,cj];simp only[cU,cp,c1,cj]at ao cz;rw[bo mU];simp(disch:=omega)only[ar,simprocAttr,nX,bA,bQ,bV,bH,c6,ao,JN];exact⟨_,rfl,mB cz⟩
def aLX{m:M}(hm:bi m)(l:List Int)(al:l.length<100000)(aE:0≤bU l 0 0∧bU l 0 0≤100000):fB [.box [.aQ (.func 175) [.ptr 1 0 0 0] []]] 157 [.i (.sl 1 (b1 l) false),.ptr 0 0 0 0] m (.bd []) (yj m (bU l 0 0)):=by
 intro ae aD af aG;have c6:=λ H=>kd l 0 0 al H
 obtain⟨ly,ke,lz,kf,gM,ao,cz⟩:=AL (P:=[.box [.aQ (.func 175) [.ptr 1 0 0 0] []]]) (k:=1) (bq:=[.i (.v (.int .i64 (bU l 0 0)))]) rfl (by simp[hW]) rfl rfl rfl (aJ7 hm (bU l 0 0)) (k4 2 (m:=m) (ae:=ae) (af:=af) (aD:=aD) (aG:=aG) (T:=[]));simp only[cU,cp,c1,cj];simp only[cU,cp,c1,cj]at ao cz;rw[bo CJ];simp(disch:=omega)only[ar,simprocAttr,Kb,bA,bQ,bV,bH,c6,ao,ab6];exact⟨_,rfl,mB cz⟩
def aLY{m:M}(hm:bi m)(l:List Int)(al:l.length<100000)(aE:0≤bU l 0 0∧bU l 0 0≤100000):fB [.box [.aQ (.func 176) [.ptr 1 0 0 0] []]] 157 [.i (.sl 1 (b1 l) false),.ptr 0 0 0 0] m (.bd []) (tf m (bU l 0 0)):=by
 intro ae aD af aG;have c6:=λ H=>kd l 0 0 al H
 obtain⟨ly,ke,lz,kf,gM,ao,cz⟩:=AL (P:=[.box [.aQ (.func 176) [.ptr 1 0 0 0] []]]) (k:=1) (bq:=[.i (.v (.int .i64 (bU l 0 0)))]) rfl (by simp[hW]) rfl rfl rfl (agf hm (bU l 0 0)) (k4 2 (m:=m) (ae:=ae) (af:=af) (aD:=aD) (aG:=aG) (T:=[]));simp only[cU,cp,c1,cj];simp only[cU,cp,c1,cj]at ao cz;rw[bo CJ];simp(disch:=omega)only[ar,simprocAttr,Kb,bA,bQ,bV,bH,c6,ao,Px];exact⟨_,rfl,mB cz⟩
def aLZ{m:M}(hm:bi m)(l:List Int)(al:l.length<100000)(aE:0≤bU l 0 0∧bU l 0 0≤100000):fB [.box [.aQ (.func 182) [.ptr 1 0 0 0] []]] 157 [.i (.sl 1 (b1 l) false),.ptr 0 0 0 0] m (.bd []) (Aw m (bU l 0 0)):=by
 intro ae aD af aG;have c6:=λ H=>kd l 0 0 al H
 obtain⟨ly,ke,lz,kf,gM,ao,cz⟩:=AL (P:=[.box [.aQ (.func 182) [.ptr 1 0 0 0] []]]) (k:=1) (bq:=[.i (.v (.int .i64 (bU l 0 0)))]) rfl (by simp[hW]) rfl rfl rfl (aKf hm (bU l 0 0)) (k4 2 (m:=m) (ae:=ae) (af:=af) (aD:=aD) (aG:=aG) (T:=[]));simp only[cU,cp,c1,cj];simp only[cU,cp,c1,cj]at ao cz;rw[bo CJ];simp(disch:=omega)only[ar,simprocAttr,Kb,bA,bQ,bV,bH,c6,ao,aca];exact⟨_,rfl,mB cz⟩
def aL0{m:M}(hm:bi m)(l:List Int)(al:l.length<100000)(aE:0≤bU l 0 0∧bU l 0 0≤100000):fB [.box [.aQ (.func 183) [.ptr 1 0 0 0] []]] 157 [.i (.sl 1 (b1 l) false),.ptr 0 0 0 0] m (.bd []) (Ax m (bU l 0 0)):=by
 intro ae aD af aG;have c6:=λ H=>kd l 0 0 al H
 obtain⟨ly,ke,lz,kf,gM,ao,cz⟩:=AL (P:=[.box [.aQ (.func 183) [.ptr 1 0 0 0] []]]) (k:=1) (bq:=[.i (.v (.int .i64 (bU l 0 0)))]) rfl (by simp[hW]) rfl rfl rfl (aKg hm (bU l 0 0)) (k4 2 (m:=m) (ae:=ae) (af:=af) (aD:=aD) (aG:=aG) (T:=[]));simp only[cU,cp,c1,cj];simp only[cU,cp,c1,cj]at ao cz;rw[bo CJ];simp(disch:=omega)only[ar,simprocAttr,Kb,bA,bQ,bV,bH,c6,ao,acb];exact⟨_,rfl,mB cz⟩
def aL1{m:M}(hm:bi m)(l:List Int)(al:l.length<100000)(aE:1≤bU l 0 1∧bU l 0 1≤100000):fB [.box [.aQ (.func 168) [] [.ptr 1 0 0 0,.ptr 2 0 0 0]],.box [.aQ (.func 158) [] [.ptr 2 0 0 0]],.box [.ptr 3 0 0 0]] 154 [.i (.sl 1 (b1 l) false),.ptr 0 0 0 0] m (.bd []) (Lw m (bU l 0 1)):=by
 intro ae aD af aG;have c6:=λ H=>kd l 0 1 al H
 obtain⟨ly,ke,lz,kf,gM,ao,cz⟩:=aLV (P:=[.box [.aQ (.func 168) [] [.ptr 1 0 0 0,.ptr 2 0 0 0]],.box [.aQ (.func 158) [] [.ptr 2 0 0 0]],.box [.ptr 3 0 0 0]]) (k:=1) (ac:=2) (bq:=[.i (.v (.int .i64 (bU l 0 1)))]) rfl rfl (by simp[hW]) rfl rfl rfl (aLI hm (bU l 0 1) aE) (k4 4 (m:=m) (ae:=ae) (af:=af) (aD:=aD) (aG:=aG) (T:=[])) (by decide);simp only[cU,cp,c1,cj];simp only[cU,cp,c1,cj]at ao cz;rw[bo mU];simp(disch:=omega)only[ar,simprocAttr,nX,bA,bQ,bV,bH,c6,ao,ab0];exact⟨_,rfl,agZ cz⟩
def aL2{m:M}(hm:bi m)(l:List Int)(al:l.length<100000)(aE:1≤bU l 0 1∧bU l 0 1≤100000):fB [.box [.aQ (.func 177) [] [.ptr 1 0 0 0]],.box [.aQ (.func 162) [] [.ptr 2 0 0 0]],.box [.ptr 3 0 0 0]] 154 [.i (.sl 1 (b1 l) false),.ptr 0 0 0 0] m (.bd []) (uy m (0-bU l 0 1)):=by
 intro ae aD af aG;have c6:=λ H=>kd l 0 1 al H
 obtain⟨ly,ke,lz,kf,gM,ao,cz⟩:=aLU (P:=[.box [.aQ (.func 177) [] [.ptr 1 0 0 0]],.box [.aQ (.func 162) [] [.ptr 2 0 0 0]],.box [.ptr 3 0 0 0]]) (k:=1) (ac:=2) (bq:=[.i (.v (.int .i64 (bU l 0 1)))]) rfl rfl (by simp[hW]) rfl rfl rfl (aLJ hm (bU l 0 1) aE) (k4 4 (m:=m) (ae:=ae) (af:=af) (aD:=aD) (aG:=aG) (T:=[])) (by decide);simp only[cU,cp,c1,cj];simp only[cU,cp,c1,cj]at ao cz;rw[bo mU];simp(disch:=omega)only[ar,simprocAttr,nX,bA,bQ,bV,bH,c6,ao,ab7];exact⟨_,rfl,agZ cz⟩
def aL3{m:M}(hm:bi m)(l:List Int)(al:l.length<100000)(aE:1≤bU l 0 1∧bU l 0 1≤100000):fB [.box [.aQ (.func 162) [] [.ptr 1 0 0 0]],.box [.ptr 2 0 0 0]] 154 [.i (.sl 1 (b1 l) false),.ptr 0 0 0 0] m (.bd []) (uy m (bU l 0 1)):=by
 intro ae aD af aG;have c6:=λ H=>kd l 0 1 al H
 obtain⟨ly,ke,lz,kf,gM,ao,cz⟩:=pL (P:=[.box [.aQ (.func 162) [] [.ptr 1 0 0 0]],.box [.ptr 2 0 0 0]]) (q:=1) (bq:=[.i (.v (.int .i64 (bU l 0 1)))]) rfl (by simp[hW]) rfl rfl rfl (agW hm (bU l 0 1) R) (k4 3 (m:=m) (ae:=ae) (af:=af) (aD:=aD) (aG:=aG) (T:=[]));simp only[cU,cp,c1,cj];simp only[cU,cp,c1,cj]at ao cz;rw[bo mU];simp(disch:=omega)only[ar,simprocAttr,nX,bA,bQ,bV,bH,c6,ao,Pw];exact⟨_,rfl,pM cz⟩
def ag1{m:M}(hm:bi m)(l:List Int)(al:l.length<100000):fB [.box [.ptr 1 0 0 0]] 160 [.i (.sl 1 (b1 l) false),.ptr 0 0 0 0] m (.bd []) ({m with aF:=⟨toR (bU l 0 1) (cf m),k0 (bU l 1 1) (cf m),false⟩}):=by
 intro ae aD af aG;have c6:=λ H=>kd l 0 1 al H
 have RP:=λ H=>kd l 1 1 al H
 have ao:=agV (x:=.box [.ptr 1 0 0 0]) rfl rfl rfl (Q3 (m:=m) (ae:=ae) (af:=af) (aD:=aD) (aG:=aG) (x:=aX m.G) (y:=aX m.O) hm.cf (bU l 0 1) (bU l 1 1));simp only[cU,cp,c1,cj];rw[bo PU];simp(disch:=omega)only[ar,simprocAttr,aEJ,bA,bQ,bV,bH,c6,RP,ao];exact⟨_,rfl,_,_,_,_,_,rfl,nA⟩
def aL4{m:M}{ae af aD aG:Nat}{x y:List bT}(g:Nat):b3 E 153 [.aQ (.func g) [] [.ptr 0 0 0 0]] [.box [.ptr 1 0 0 0],.box (aT m (1+1) ae (1+2) af),.az 5 ae aD x,.az 5 af aG y]=some (.aQ (.func 154) [] [.ptr 4 0 0 0],[.box [.ptr 1 0 0 0],.box (aT m (1+1) ae (1+2) af),.az 5 ae aD x,.az 5 af aG y,.box [.aQ (.func g) [] [.ptr 0 0 0 0]]]):=by rw[bo FZ];simp(disch:=omega)only[ar,simprocAttr,J',bQ,bV]
def aL5{m:M}{ae af aD aG:Nat}{x y:List bT}(g:Nat)(T:aa):cn 153 [.aQ (.func g) [] [.ptr 3 0 0 0]] (.box (aT (m) 1 ae 2 af)::.az 5 ae aD x::.az 5 af aG y::.box [.ptr 0 0 0 0]::T) (.aQ (.func 154) [] [.ptr (T.length+4) 0 0 0]) (.box (aT (m) 1 ae 2 af)::.az 5 ae aD x::.az 5 af aG y::.box [.ptr 0 0 0 0]::(T++[.box [.aQ (.func g) [] [.ptr 3 0 0 0]]])):=by
 have h:=aL4 (m:=m) (ae:=ae) (af:=af) (aD:=aD) (aG:=aG) (x:=x) (y:=y) g;have ao:=jN (bt [3,0,1,2]) m 1 ae 2 af 2 3 rfl rfl;have aH:=jN (df [3,0,1,2] (T.length+1+1+1+1) [4]) m 2 ae 3 af 1 2 rfl rfl;simp only[c1]at h;unfold cn dd;have q:∀n,df [3,0,1,2] n [4] 0=some 3∧df [3,0,1,2] n [4] 1=some 0∧df [3,0,1,2] n [4] 4=some (0+n):=λ n=>⟨rfl,rfl,rfl⟩
 simp[eV,JG,bx,bc,reach,Chunk.refs,bH,cx,co,Chunk.cI,ao,show bt [3,0,1,2] 3=some 0 from rfl,show bt [3,0,1,2] 0=some 1 from rfl,h,aH,q,ea]
def aL6{m:M}{ae af aD aG:Nat}{x y:List bT}(g:Nat):b3 E 153 [.aQ (.func g) [.ptr 0 0 0 0] []] [.box (aT m (0+1) ae (0+2) af),.az 5 ae aD x,.az 5 af aG y]=some (.aQ (.func 154) [] [.ptr 3 0 0 0],[.box (aT m (0+1) ae (0+2) af),.az 5 ae aD x,.az 5 af aG y,.box [.aQ (.func g) [.ptr 0 0 0 0] []]]):=by rw[bo FZ];simp(disch:=omega)only[ar,simprocAttr,J',bQ,bV]
def aL7{m:M}{ae af aD aG:Nat}{x y:List bT}(g:Nat)(T:aa):cn 153 [.aQ (.func g) [.ptr 0 0 0 0] []] (.box (aT (m) 1 ae 2 af)::.az 5 ae aD x::.az 5 af aG y::.box [.ptr 0 0 0 0]::T) (.aQ (.func 154) [] [.ptr (T.length+4) 0 0 0]) (.box (aT (m) 1 ae 2 af)::.az 5 ae aD x::.az 5 af aG y::.box [.ptr 0 0 0 0]::(T++[.box [.aQ (.func g) [.ptr 0 0 0 0] []]])):=by
 have h:=aL6 (m:=m) (ae:=ae) (af:=af) (aD:=aD) (aG:=aG) (x:=x) (y:=y) g;have ao:=jN (bt [0,1,2]) m 1 ae 2 af 1 2 rfl rfl;have aH:=jN (df [0,1,2] (T.length+1+1+1+1) [3]) m 1 ae 2 af 1 2 rfl rfl;simp only[c1]at h;unfold cn dd;have q:∀n,df [0,1,2] n [3] 0=some 0∧df [0,1,2] n [3] 3=some (0+n):=λ n=>⟨rfl,rfl⟩
 simp[eV,JG,bx,bc,reach,Chunk.refs,bH,cx,co,Chunk.cI,ao,show bt [0,1,2] 0=some 0 from rfl,h,aH,q,ea]
def aL8{m:M}{ae af aD aG:Nat}{x y:List bT}(g:Nat):b3 E 156 [.aQ (.func g) [.ptr 0 0 0 0] []] [.box (aT m (0+1) ae (0+2) af),.az 5 ae aD x,.az 5 af aG y]=some (.aQ (.func 157) [] [.ptr 3 0 0 0],[.box (aT m (0+1) ae (0+2) af),.az 5 ae aD x,.az 5 af aG y,.box [.aQ (.func g) [.ptr 0 0 0 0] []]]):=by rw[bo adw];simp(disch:=omega)only[ar,simprocAttr,aEG,bQ,bV]
def aL9{m:M}{ae af aD aG:Nat}{x y:List bT}(g:Nat)(T:aa):cn 156 [.aQ (.func g) [.ptr 0 0 0 0] []] (.box (aT (m) 1 ae 2 af)::.az 5 ae aD x::.az 5 af aG y::.box [.ptr 0 0 0 0]::T) (.aQ (.func 157) [] [.ptr (T.length+4) 0 0 0]) (.box (aT (m) 1 ae 2 af)::.az 5 ae aD x::.az 5 af aG y::.box [.ptr 0 0 0 0]::(T++[.box [.aQ (.func g) [.ptr 0 0 0 0] []]])):=by
 have h:=aL8 (m:=m) (ae:=ae) (af:=af) (aD:=aD) (aG:=aG) (x:=x) (y:=y) g;have ao:=jN (bt [0,1,2]) m 1 ae 2 af 1 2 rfl rfl;have aH:=jN (df [0,1,2] (T.length+1+1+1+1) [3]) m 1 ae 2 af 1 2 rfl rfl;simp only[c1]at h;unfold cn dd;have q:∀n,df [0,1,2] n [3] 0=some 0∧df [0,1,2] n [3] 3=some (0+n):=λ n=>⟨rfl,rfl⟩
 simp[eV,awU,bx,bc,reach,Chunk.refs,bH,cx,co,Chunk.cI,ao,show bt [0,1,2] 0=some 0 from rfl,h,aH,q,ea]
def aL_{m:M}{ae af aD aG:Nat}{x y:List bT}(g d:Nat):b3 E 153 [.aQ (.func g) [] [.ptr 0 0 0 0,.ptr 1 0 0 0]] [.box [.aQ (.func d) [] [.ptr 1 0 0 0]],.box [.ptr 2 0 0 0],.box (aT m (2+1) ae (2+2) af),.az 5 ae aD x,.az 5 af aG y]=some (.aQ (.func 154) [] [.ptr 5 0 0 0],[.box [.aQ (.func d) [] [.ptr 1 0 0 0]],.box [.ptr 2 0 0 0],.box (aT m (2+1) ae (2+2) af),.az 5 ae aD x,.az 5 af aG y,.box [.aQ (.func g) [] [.ptr 0 0 0 0,.ptr 1 0 0 0]]]):=by rw[bo FZ];simp(disch:=omega)only[ar,simprocAttr,J',bQ,bV]
def aL'{m:M}{ae af aD aG:Nat}{x y:List bT}(g d:Nat)(T:aa):cn 153 [.aQ (.func g) [] [.ptr 4 0 0 0,.ptr 3 0 0 0]] (.box (aT (m) 1 ae 2 af)::.az 5 ae aD x::.az 5 af aG y::.box [.ptr 0 0 0 0]::.box [.aQ (.func d) [] [.ptr 3 0 0 0]]::T) (.aQ (.func 154) [] [.ptr (T.length+5) 0 0 0]) (.box (aT (m) 1 ae 2 af)::.az 5 ae aD x::.az 5 af aG y::.box [.ptr 0 0 0 0]::.box [.aQ (.func d) [] [.ptr 3 0 0 0]]::(T++[.box [.aQ (.func g) [] [.ptr 4 0 0 0,.ptr 3 0 0 0]]])):=by
 have h:=aL_ (m:=m) (ae:=ae) (af:=af) (aD:=aD) (aG:=aG) (x:=x) (y:=y) g d;have ao:=jN (bt [4,3,0,1,2]) m 1 ae 2 af 3 4 rfl rfl;have aH:=jN (df [4,3,0,1,2] (T.length+1+1+1+1+1) [5]) m 3 ae 4 af 1 2 rfl rfl;simp only[c1]at h;unfold cn dd;have q:∀n,df [4,3,0,1,2] n [5] 0=some 4∧df [4,3,0,1,2] n [5] 1=some 3∧df [4,3,0,1,2] n [5] 2=some 0∧df [4,3,0,1,2] n [5] 5=some (0+n):=λ n=>⟨rfl,rfl,rfl,rfl⟩
 simp[eV,JG,bx,bc,reach,Chunk.refs,bH,cx,co,Chunk.cI,ao,show bt [4,3,0,1,2] 4=some 0 from rfl,show bt [4,3,0,1,2] 3=some 1 from rfl,show bt [4,3,0,1,2] 0=some 2 from rfl,h,aH,q,ea]
def aMa{m:M}{ae af aD aG:Nat}{x y:List bT}(g d:Nat):b3 E 153 [.aQ (.func g) [] [.ptr 0 0 0 0]] [.box [.aQ (.func d) [] [.ptr 1 0 0 0]],.box [.ptr 2 0 0 0],.box (aT m (2+1) ae (2+2) af),.az 5 ae aD x,.az 5 af aG y]=some (.aQ (.func 154) [] [.ptr 5 0 0 0],[.box [.aQ (.func d) [] [.ptr 1 0 0 0]],.box [.ptr 2 0 0 0],.box (aT m (2+1) ae (2+2) af),.az 5 ae aD x,.az 5 af aG y,.box [.aQ (.func g) [] [.ptr 0 0 0 0]]]):=by rw[bo FZ];simp(disch:=omega)only[ar,simprocAttr,J',bQ,bV]
def aMb{m:M}{ae af aD aG:Nat}{x y:List bT}(g d:Nat)(fH c5:Chunk)(T:aa):cn 153 [.aQ (.func g) [] [.ptr 6 0 0 0]] (.box (aT (m) 1 ae 2 af)::.az 5 ae aD x::.az 5 af aG y::.box [.ptr 0 0 0 0]::fH::c5::.box [.aQ (.func d) [] [.ptr 3 0 0 0]]::T) (.aQ (.func 154) [] [.ptr (T.length+7) 0 0 0]) (.box (aT (m) 1 ae 2 af)::.az 5 ae aD x::.az 5 af aG y::.box [.ptr 0 0 0 0]::fH::c5::.box [.aQ (.func d) [] [.ptr 3 0 0 0]]::(T++[.box [.aQ (.func g) [] [.ptr 6 0 0 0]]])):=by
 have h:=aMa (m:=m) (ae:=ae) (af:=af) (aD:=aD) (aG:=aG) (x:=x) (y:=y) g d;have ao:=jN (bt [6,3,0,1,2]) m 1 ae 2 af 3 4 rfl rfl;have aH:=jN (df [6,3,0,1,2] (T.length+1+1+1+1+1+1+1) [5]) m 3 ae 4 af 1 2 rfl rfl;simp only[c1]at h;unfold cn dd;have q:∀n,df [6,3,0,1,2] n [5] 0=some 6∧df [6,3,0,1,2] n [5] 1=some 3∧df [6,3,0,1,2] n [5] 2=some 0∧df [6,3,0,1,2] n [5] 5=some (0+n):=λ n=>⟨rfl,rfl,rfl,rfl⟩
 simp[eV,JG,bx,bc,reach,Chunk.refs,bH,cx,co,Chunk.cI,ao,show bt [6,3,0,1,2] 6=some 0 from rfl,show bt [6,3,0,1,2] 3=some 1 from rfl,show bt [6,3,0,1,2] 0=some 2 from rfl,h,aH,q,ea]
def AM(m:M)(ae af aD aG:Nat)(x y:List bT):aa:=[.box (aT m 1 ae 2 af),.az 5 ae aD x,.az 5 af aG y,.box [.ptr 0 0 0 0],.box [.aQ (.func 158) [] [.ptr 3 0 0 0]],.box [.aQ (.func 161) [] [.ptr 3 0 0 0]],.box [.aQ (.func 162) [] [.ptr 3 0 0 0]],.map [(.v (.int .u8 64),.aQ (.func 154) [] [.ptr 8 0 0 0]),(.v (.int .u8 65),.aQ (.func 154) [] [.ptr 10 0 0 0]),(.v (.int .u8 66),.aQ (.func 154) [] [.ptr 11 0 0 0]),(.v (.int .u8 67),.aQ (.func 154) [] [.ptr 13 0 0 0]),(.v (.int .u8 68),.aQ (.func 154) [] [.ptr 15 0 0 0]),(.v (.int .u8 69),.aQ (.func 154) [] [.ptr 16 0 0 0]),(.v (.int .u8 70),.aQ (.func 154) [] [.ptr 17 0 0 0]),(.v (.int .u8 71),.aQ (.func 154) [] [.ptr 5 0 0 0]),(.v (.int .u8 72),.aQ (.func 160) [] [.ptr 3 0 0 0]),(.v (.int .u8 73),.aQ (.func 154) [] [.ptr 19 0 0 0]),(.v (.int .u8 74),.aQ (.func 157) [] [.ptr 21 0 0 0]),(.v (.int .u8 75),.aQ (.func 157) [] [.ptr 22 0 0 0]),(.v (.int .u8 76),.aQ (.func 154) [] [.ptr 23 0 0 0]),(.v (.int .u8 77),.aQ (.func 154) [] [.ptr 24 0 0 0]),(.v (.int .u8 80),.aQ (.func 154) [] [.ptr 9 0 0 0]),(.v (.int .u8 83),.aQ (.func 154) [] [.ptr 25 0 0 0]),(.v (.int .u8 84),.aQ (.func 154) [] [.ptr 26 0 0 0]),(.v (.int .u8 88),.aQ (.func 154) [] [.ptr 27 0 0 0]),(.v (.int .u8 90),.aQ (.func 154) [] [.ptr 20 0 0 0]),(.v (.int .u8 96),.aQ (.func 154) [] [.ptr 5 0 0 0]),(.v (.int .u8 97),.aQ (.func 154) [] [.ptr 14 0 0 0]),(.v (.int .u8 100),.aQ (.func 154) [] [.ptr 18 0 0 0]),(.v (.int .u8 101),.aQ (.func 154) [] [.ptr 12 0 0 0]),(.v (.int .u8 102),.aQ (.func 160) [] [.ptr 3 0 0 0]),(.v (.int .u8 103),.aQ (.func 157) [] [.ptr 28 0 0 0]),(.v (.int .u8 110),.aQ (.func 157) [] [.ptr 29 0 0 0]),(.v (.int .u8 114),.aQ (.func 184) [.ptr 0 0 0 0] []),(.v (.int .u8 115),.aQ (.func 185) [] [.ptr 3 0 0 0]),(.v (.int .u8 117),.aQ (.func 186) [] [.ptr 3 0 0 0])],.box [.aQ (.func 163) [] [.ptr 3 0 0 0]],.box [.aQ (.func 165) [] [.ptr 3 0 0 0]],.box [.aQ (.func 159) [.ptr 0 0 0 0] []],.box [.aQ (.func 158) [] [.ptr 3 0 0 0]],.box [.aQ (.func 158) [] [.ptr 3 0 0 0]],.box [.aQ (.func 99) [.ptr 0 0 0 0] []],.box [.aQ (.func 99) [.ptr 0 0 0 0] []],.box [.aQ (.func 167) [] [.ptr 3 0 0 0]],.box [.aQ (.func 168) [] [.ptr 4 0 0 0,.ptr 3 0 0 0]],.box [.aQ (.func 169) [] [.ptr 3 0 0 0]],.box [.aQ (.func 170) [] [.ptr 3 0 0 0]],.box [.aQ (.func 171) [] [.ptr 3 0 0 0]],.box [.aQ (.func 173) [] [.ptr 3 0 0 0]],.box [.aQ (.func 175) [.ptr 0 0 0 0] []],.box [.aQ (.func 176) [.ptr 0 0 0 0] []],.box [.aQ (.func 177) [] [.ptr 6 0 0 0]],.box [.aQ (.func 162) [] [.ptr 3 0 0 0]],.box [.aQ (.func 178) [] [.ptr 3 0 0 0]],.box [.aQ (.func 179) [] [.ptr 3 0 0 0]],.box [.aQ (.func 180) [] [.ptr 3 0 0 0]],.box [.aQ (.func 182) [.ptr 0 0 0 0] []],.box [.aQ (.func 183) [.ptr 0 0 0 0] []]]
def aMc{m:M}{ae af aD aG:Nat}{x y:List bT}:b3 E 111 [.ptr 0 0 0 0] [.box (aT m 1 ae 2 af),.az 5 ae aD x,.az 5 af aG y]=some (.dv 7,AM m ae af aD aG x y):=by rw[bo ac_];simp(maxSteps:=9000000) (disch:=omega)only[ar,simprocAttr,aEp,bQ,bV,WL,ki,hy,gf,kJ,nb,aBI,aBN,aL5,aL7,aL',aMb,aL9];rfl
def aMd(m:M)(ae af aD aG:Nat)(x y:List bT):reach (AM m ae af aD aG x y) 64 [7,1,2] []=[7,8,3,0,1,2,10,11,13,15,16,4,17,5,19,21,22,23,6,24,9,25,26,27,20,14,18,12,28,29]:=aK
def GP:List Nat:=[7,8,3,10,11,13,15,16,4,17,5,19,21,22,23,6,24,9,25,26,27,20,14,18,12,28,29]
def ag2(m:M)(ae af aD aG:Nat):aa:=GP.map λ i=>(((AM m ae af aD aG (aX m.G) (aX m.O))[i]?).map (Chunk.cI (df [0,1,2] 4 GP))).getD (.iter [] 0)
def aMe{m:M}{ae af aD aG:Nat}{c:List U}:cn 111 [.ptr 0 0 0 0] [.box (aT m 1 ae 2 af),.az 5 ae aD (aX m.G),.az 5 af aG (aX m.O),.box c] (.dv 4) ([.box (aT m 1 ae 2 af),.az 5 ae aD (aX m.G),.az 5 af aG (aX m.O),.box c]++ag2 m ae af aD aG):=by
 have dj:reach [.box (aT m 1 ae 2 af),.az 5 ae aD (aX m.G),.az 5 af aG (aX m.O),.box c] 64 [0] []=[0,1,2]:=aK;have n0:=λ aS=>kZ (show(Chunk.az 5 ae aD (aX m.G)).refs=[]from rfl) aS
 have ya:=λ aS=>kZ (show(Chunk.az 5 af aG (aX m.O)).refs=[]from rfl) aS
 have ao:=jN (bt [0,1,2]) m 1 ae 2 af 1 2 rfl rfl;have aH:=jN (df [0,1,2] 4 GP) m 1 ae 2 af 1 2 rfl rfl;have al:[0,1,2].map (λ k=>(([Chunk.box (aT m 1 ae 2 af),.az 5 ae aD (aX m.G),.az 5 af aG (aX m.O),.box c][k]?).map (Chunk.cI (bt [0,1,2]))).getD (.iter [] 0))=[.box (aT m 1 ae 2 af),.az 5 ae aD (aX m.G),.az 5 af aG (aX m.O)]:=by simp[iu,n0,ya,ao]
 have jl:=aMd m ae af aD aG (aX m.G) (aX m.O);have aI:(bc (.dv 7)++((AM m ae af aD aG (aX m.G) (aX m.O)).take 3).flatMap Chunk.refs)=[7,1,2]:=aK;have aMf:([7,8,3,0,1,2,10,11,13,15,16,4,17,5,19,21,22,23,6,24,9,25,26,27,20,14,18,12,28,29]:List Nat).filter (λ i=>decide (3≤i))=GP:=by decide
 have bp:((AM m ae af aD aG (aX m.G) (aX m.O)).take 3).map (Chunk.cI (df [0,1,2] 4 GP))=[.box (aT m 1 ae 2 af),.az 5 ae aD (aX m.G),.az 5 af aG (aX m.O)]:=by simp[AM,iu,n0,ya,aH]
 have sn:(AM m ae af aD aG (aX m.G) (aX m.O)).length=30:=rfl;unfold cn dd;simp only[eV,awR,bx,bc,c8,dj,al,cx,co,show bt [0,1,2] 0=some 0 from rfl,aMc,i1];simp only[bc]at aI;simp only[sn,cU,c1,Nat.reduceLT,if_false,aI,jl,aMf,bp];rfl
def yo:List (aC×U):=[(.v (.int .u8 64),.aQ (.func 154) [] [.ptr 5 0 0 0]),(.v (.int .u8 65),.aQ (.func 154) [] [.ptr 7 0 0 0]),(.v (.int .u8 66),.aQ (.func 154) [] [.ptr 8 0 0 0]),(.v (.int .u8 67),.aQ (.func 154) [] [.ptr 9 0 0 0]),(.v (.int .u8 68),.aQ (.func 154) [] [.ptr 10 0 0 0]),(.v (.int .u8 69),.aQ (.func 154) [] [.ptr 11 0 0 0]),(.v (.int .u8 70),.aQ (.func 154) [] [.ptr 13 0 0 0]),(.v (.int .u8 71),.aQ (.func 154) [] [.ptr 14 0 0 0]),(.v (.int .u8 72),.aQ (.func 160) [] [.ptr 6 0 0 0]),(.v (.int .u8 73),.aQ (.func 154) [] [.ptr 15 0 0 0]),(.v (.int .u8 74),.aQ (.func 157) [] [.ptr 16 0 0 0]),(.v (.int .u8 75),.aQ (.func 157) [] [.ptr 17 0 0 0]),(.v (.int .u8 76),.aQ (.func 154) [] [.ptr 18 0 0 0]),(.v (.int .u8 77),.aQ (.func 154) [] [.ptr 20 0 0 0]),(.v (.int .u8 80),.aQ (.func 154) [] [.ptr 21 0 0 0]),(.v (.int .u8 83),.aQ (.func 154) [] [.ptr 22 0 0 0]),(.v (.int .u8 84),.aQ (.func 154) [] [.ptr 23 0 0 0]),(.v (.int .u8 88),.aQ (.func 154) [] [.ptr 24 0 0 0]),(.v (.int .u8 90),.aQ (.func 154) [] [.ptr 25 0 0 0]),(.v (.int .u8 96),.aQ (.func 154) [] [.ptr 14 0 0 0]),(.v (.int .u8 97),.aQ (.func 154) [] [.ptr 26 0 0 0]),(.v (.int .u8 100),.aQ (.func 154) [] [.ptr 27 0 0 0]),(.v (.int .u8 101),.aQ (.func 154) [] [.ptr 28 0 0 0]),(.v (.int .u8 102),.aQ (.func 160) [] [.ptr 6 0 0 0]),(.v (.int .u8 103),.aQ (.func 157) [] [.ptr 29 0 0 0]),(.v (.int .u8 110),.aQ (.func 157) [] [.ptr 30 0 0 0]),(.v (.int .u8 114),.aQ (.func 184) [.ptr 0 0 0 0] []),(.v (.int .u8 115),.aQ (.func 185) [] [.ptr 6 0 0 0]),(.v (.int .u8 117),.aQ (.func 186) [] [.ptr 6 0 0 0])]
def RQ:aa:=[.box [.aQ (.func 163) [] [.ptr 6 0 0 0]],.box [.ptr 0 0 0 0],.box [.aQ (.func 159) [.ptr 0 0 0 0] []],.box [.aQ (.func 158) [] [.ptr 6 0 0 0]],.box [.aQ (.func 99) [.ptr 0 0 0 0] []],.box [.aQ (.func 167) [] [.ptr 6 0 0 0]],.box [.aQ (.func 168) [] [.ptr 12 0 0 0,.ptr 6 0 0 0]],.box [.aQ (.func 158) [] [.ptr 6 0 0 0]],.box [.aQ (.func 169) [] [.ptr 6 0 0 0]],.box [.aQ (.func 161) [] [.ptr 6 0 0 0]],.box [.aQ (.func 171) [] [.ptr 6 0 0 0]],.box [.aQ (.func 175) [.ptr 0 0 0 0] []],.box [.aQ (.func 176) [.ptr 0 0 0 0] []],.box [.aQ (.func 177) [] [.ptr 19 0 0 0]],.box [.aQ (.func 162) [] [.ptr 6 0 0 0]],.box [.aQ (.func 162) [] [.ptr 6 0 0 0]],.box [.aQ (.func 165) [] [.ptr 6 0 0 0]],.box [.aQ (.func 178) [] [.ptr 6 0 0 0]],.box [.aQ (.func 179) [] [.ptr 6 0 0 0]],.box [.aQ (.func 180) [] [.ptr 6 0 0 0]],.box [.aQ (.func 173) [] [.ptr 6 0 0 0]],.box [.aQ (.func 99) [.ptr 0 0 0 0] []],.box [.aQ (.func 170) [] [.ptr 6 0 0 0]],.box [.aQ (.func 158) [] [.ptr 6 0 0 0]],.box [.aQ (.func 182) [.ptr 0 0 0 0] []],.box [.aQ (.func 183) [.ptr 0 0 0 0] []]]
def aMg(m:M)(ae af aD aG:Nat):ag2 m ae af aD aG=.map yo::RQ:=aK
def yp(m:M)(c:Int)(l:List Int):M:=
 if c=64 then sp m true (bU l 0 1).toNat else
 if c=65 then{m with aF:=ir m.aF (bU l 0 1) (cf m)}else
 if c=66 then{m with aF:=ir m.aF (0-bU l 0 1) (cf m)}else
 if c=67 then{m with aF:=mV m.aF (bU l 0 1) (cf m)}else
 if c=68 then{m with aF:=mV m.aF (0-bU l 0 1) (cf m)}else
 if c=69 then Lw m (bU l 0 1)else
 if c=70 then Lu m (bU l 0 1)else
 if c=71 then AK m (bU l 0 1)else
 if c=72 then{m with aF:=⟨toR (bU l 0 1) (cf m),k0 (bU l 1 1) (cf m),false⟩}else
 if c=73 then nz n8 (min (bU l 0 1).toNat m.w) m else
 if c=74 then yj m (bU l 0 0)else
 if c=75 then tf m (bU l 0 0)else
 if c=76 then uy m (0-bU l 0 1)else
 if c=77 then uy m (bU l 0 1)else
 if c=80 then sp m false (bU l 0 1).toNat else
 if c=83 then k2 m m.cA (bU l 0 1) true else
 if c=84 then k2 m m.cA (0-bU l 0 1) false else
 if c=88 then Lv m (bU l 0 1)else
 if c=90 then nz qj (min (bU l 0 1).toNat m.w) m else
 if c=96 then AK m (bU l 0 1)else
 if c=97 then{m with aF:=mV m.aF (bU l 0 1) (cf m)}else
 if c=100 then{m with aF:=⟨toR (bU l 0 1) (cf m),k0 (m.aF.c+1) (cf m),false⟩}else
 if c=101 then{m with aF:=ir m.aF (0-bU l 0 1) (cf m)}else
 if c=102 then{m with aF:=⟨toR (bU l 0 1) (cf m),k0 (bU l 1 1) (cf m),false⟩}else
 if c=103 then Aw m (bU l 0 0)else
 if c=110 then Ax m (bU l 0 0)else
 if c=114 then Dp m l else
 if c=115 then DB m else
 if c=117 then yn m else
 m
def ag3{m bZ:M}{H an:aa}(h:hX m H)(j:qk 0 bZ an)(I:so 0 H an):hX bZ an:=by
 obtain⟨a,ae,b,af,T,rfl,a0,cT,aD,aG,At,Au,aA,aj,cS,al,mf,cm⟩:=h;obtain⟨A,cF,B,cG,oU,nx,cz,i2,i3,i4⟩:=j;obtain⟨bG,bC,cE⟩:=I
 match an,cz,i2,i3,bG,bC,cE with
 |y::cX,cz,i2,i3,bG,bC,cE=>
  cases cz
  match A,B,i2,i3,i4 with
  |0,_,i2,_,_=>cases i2
  |_+1,0,_,i3,_=>cases i3
  |bW+1,bR+1,i2,i3,i4=>
   refine⟨bW,cF,bR,cG,cX,rfl,bW,bR,oU,nx,rfl,rfl,i2,i3,R,rN al (by simpa using bG),?_,?_⟩
   ·intro x ak;obtain⟨eL,lm⟩:∃eL,T[0]?=some eL:=⟨T[0],eX R⟩;obtain⟨mI,f_,fI⟩:=cE 1 eL lm R (mf eL lm);rw[jF,ak]at f_;cases f_;exact fI
   ·intro x ak;obtain⟨eL,lm⟩:∃eL,T[1]?=some eL:=⟨T[1],eX R⟩;obtain⟨mI,f_,fI⟩:=cE 2 eL lm R (cm eL lm);rw[jF,ak]at f_;cases f_;exact fI
def DG(m:M)(ae af aD aG:Nat)(c:List U):aa:=.box (aT m 1 ae 2 af)::.az 5 ae aD (aX m.G)::.az 5 af aG (aX m.O)::.box c::.map yo::RQ
def iO{m:M}{ae af aD aG:Nat}{c:List U}:ux (DG m ae af aD aG c) 0 m 1 ae 2 af:=⟨rfl,⟨aD,rfl⟩,⟨aG,rfl⟩,by decide⟩
def Lx:List Nat:=[154,157,160,184,185,186]
def ag4(m:M)(l:List Int)(H:aa)(c:Int)(f:Nat)(n' kC:List U):Prop:=(f∈Lx∧((n'=[]∧∃k,kC=[.ptr k 0 0 0])∨(n'=[.ptr 0 0 0 0]∧kC=[])))∧∃an,dd E (b3 E) f (n'++.i (.sl 1 (b1 l) false)::kC) H=some (.bd [],an)∧hX (yp m c l) an
def iP{m bZ:M}{l:List Int}{c:Int}{f:Nat}{n' kC:List U}{ae af aD aG:Nat}{q:List U}(aI:f∈Lx∧((n'=[]∧∃k,kC=[.ptr k 0 0 0])∨(n'=[.ptr 0 0 0 0]∧kC=[])))(he:bZ=yp m c l)(h:∃an,cn f (n'++.i (.sl 1 (b1 l) false)::kC) (DG m ae af aD aG q) (.bd []) an∧qk 0 bZ an∧so 0 (DG m ae af aD aG q) an):ag4 m l (DG m ae af aD aG q) c f n' kC:=by obtain⟨an,j,I,av⟩:=h;exact⟨aI,an,j,he▸ag3 hX.dC I av⟩
def aMh{m:M}(hm:bi m)(l:List Int)(al:l.length<100000)(j:1≤bU l 0 1∧bU l 0 1≤100000)(aW:0≤bU l 0 0∧bU l 0 0≤100000)(ae af aD aG:Nat)(q:List U)(p:aC×U)(au:p∈yo):∃(c:Int) (f:Nat) (n' kC:List U),p=(.v (.int .u8 c),.aQ (.func f) n' kC)∧ag4 m l (DG m ae af aD aG q) c f n' kC:=by
 simp only[yo,ng,xG,or_false]at au;rcases au with rfl|rfl|rfl|rfl|rfl|rfl|rfl|rfl|rfl|rfl|rfl|rfl|rfl|rfl|rfl|rfl|rfl|rfl|rfl|rfl|rfl|rfl|rfl|rfl|rfl|rfl|rfl|rfl|rfl
 ·exact⟨64,_,_,_,rfl,iP ⟨by decide,.inl ⟨rfl,_,rfl⟩⟩ rfl (oW (bq:=[.i (.sl 1 (b1 l) false)]) (k:=5) (ac:=6) rfl rfl rfl (aLK hm l al j) iO rfl rfl (by decide))⟩
 ·exact⟨65,_,_,_,rfl,iP ⟨by decide,.inl ⟨rfl,_,rfl⟩⟩ rfl (AH (bq:=[.i (.sl 1 (b1 l) false)]) (k:=7) rfl rfl rfl (aLW hm l al j) iO rfl)⟩
 ·exact⟨66,_,_,_,rfl,iP ⟨by decide,.inl ⟨rfl,_,rfl⟩⟩ rfl (oW (bq:=[.i (.sl 1 (b1 l) false)]) (k:=8) (ac:=6) rfl rfl rfl (agX hm l al j) iO rfl rfl (by decide))⟩
 ·exact⟨67,_,_,_,rfl,iP ⟨by decide,.inl ⟨rfl,_,rfl⟩⟩ rfl (AH (bq:=[.i (.sl 1 (b1 l) false)]) (k:=9) rfl rfl rfl (ag0 hm l al j) iO rfl)⟩
 ·exact⟨68,_,_,_,rfl,iP ⟨by decide,.inl ⟨rfl,_,rfl⟩⟩ rfl (oW (bq:=[.i (.sl 1 (b1 l) false)]) (k:=10) (ac:=6) rfl rfl rfl (aLM hm l al j) iO rfl rfl (by decide))⟩
 ·exact⟨69,_,_,_,rfl,iP ⟨by decide,.inl ⟨rfl,_,rfl⟩⟩ rfl (aLo (bq:=[.i (.sl 1 (b1 l) false)]) (k:=11) (i:=12) (ac:=6) rfl rfl rfl (aL1 hm l al j) iO rfl rfl rfl (by decide) (by decide) (by decide))⟩
 ·exact⟨70,_,_,_,rfl,iP ⟨by decide,.inl ⟨rfl,_,rfl⟩⟩ rfl (oW (bq:=[.i (.sl 1 (b1 l) false)]) (k:=13) (ac:=6) rfl rfl rfl (aLN hm l al j) iO rfl rfl (by decide))⟩
 ·exact⟨71,_,_,_,rfl,iP ⟨by decide,.inl ⟨rfl,_,rfl⟩⟩ rfl (oW (bq:=[.i (.sl 1 (b1 l) false)]) (k:=14) (ac:=6) rfl rfl rfl (agY hm l al j) iO rfl rfl (by decide))⟩
 ·exact⟨72,_,_,_,rfl,iP ⟨by decide,.inl ⟨rfl,_,rfl⟩⟩ rfl (GO (bq:=[.i (.sl 1 (b1 l) false)]) (q:=6) rfl rfl rfl (ag1 hm l al) iO rfl)⟩
 ·exact⟨73,_,_,_,rfl,iP ⟨by decide,.inl ⟨rfl,_,rfl⟩⟩ rfl (oW (bq:=[.i (.sl 1 (b1 l) false)]) (k:=15) (ac:=6) rfl rfl rfl (aLP hm l al j) iO rfl rfl (by decide))⟩
 ·exact⟨74,_,_,_,rfl,iP ⟨by decide,.inl ⟨rfl,_,rfl⟩⟩ rfl (AH (bq:=[.i (.sl 1 (b1 l) false)]) (k:=16) rfl rfl rfl (aLX hm l al aW) iO rfl)⟩
 ·exact⟨75,_,_,_,rfl,iP ⟨by decide,.inl ⟨rfl,_,rfl⟩⟩ rfl (AH (bq:=[.i (.sl 1 (b1 l) false)]) (k:=17) rfl rfl rfl (aLY hm l al aW) iO rfl)⟩
 ·exact⟨76,_,_,_,rfl,iP ⟨by decide,.inl ⟨rfl,_,rfl⟩⟩ rfl (aLp (bq:=[.i (.sl 1 (b1 l) false)]) (k:=18) (i:=19) (ac:=6) rfl rfl rfl (aL2 hm l al j) iO rfl rfl rfl (by decide) (by decide) (by decide))⟩
 ·exact⟨77,_,_,_,rfl,iP ⟨by decide,.inl ⟨rfl,_,rfl⟩⟩ rfl (oW (bq:=[.i (.sl 1 (b1 l) false)]) (k:=20) (ac:=6) rfl rfl rfl (aL3 hm l al j) iO rfl rfl (by decide))⟩
 ·exact⟨80,_,_,_,rfl,iP ⟨by decide,.inl ⟨rfl,_,rfl⟩⟩ rfl (oW (bq:=[.i (.sl 1 (b1 l) false)]) (k:=21) (ac:=6) rfl rfl rfl (aLL hm l al j) iO rfl rfl (by decide))⟩
 ·exact⟨83,_,_,_,rfl,iP ⟨by decide,.inl ⟨rfl,_,rfl⟩⟩ rfl (oW (bq:=[.i (.sl 1 (b1 l) false)]) (k:=22) (ac:=6) rfl rfl rfl (aLR hm l al j) iO rfl rfl (by decide))⟩
 ·exact⟨84,_,_,_,rfl,iP ⟨by decide,.inl ⟨rfl,_,rfl⟩⟩ rfl (oW (bq:=[.i (.sl 1 (b1 l) false)]) (k:=23) (ac:=6) rfl rfl rfl (aLS hm l al j) iO rfl rfl (by decide))⟩
 ·exact⟨88,_,_,_,rfl,iP ⟨by decide,.inl ⟨rfl,_,rfl⟩⟩ rfl (oW (bq:=[.i (.sl 1 (b1 l) false)]) (k:=24) (ac:=6) rfl rfl rfl (aLT hm l al j) iO rfl rfl (by decide))⟩
 ·exact⟨90,_,_,_,rfl,iP ⟨by decide,.inl ⟨rfl,_,rfl⟩⟩ rfl (oW (bq:=[.i (.sl 1 (b1 l) false)]) (k:=25) (ac:=6) rfl rfl rfl (aLQ hm l al j) iO rfl rfl (by decide))⟩
 ·exact⟨96,_,_,_,rfl,iP ⟨by decide,.inl ⟨rfl,_,rfl⟩⟩ rfl (oW (bq:=[.i (.sl 1 (b1 l) false)]) (k:=14) (ac:=6) rfl rfl rfl (agY hm l al j) iO rfl rfl (by decide))⟩
 ·exact⟨97,_,_,_,rfl,iP ⟨by decide,.inl ⟨rfl,_,rfl⟩⟩ rfl (AH (bq:=[.i (.sl 1 (b1 l) false)]) (k:=26) rfl rfl rfl (ag0 hm l al j) iO rfl)⟩
 ·exact⟨100,_,_,_,rfl,iP ⟨by decide,.inl ⟨rfl,_,rfl⟩⟩ rfl (oW (bq:=[.i (.sl 1 (b1 l) false)]) (k:=27) (ac:=6) rfl rfl rfl (aLO hm l al j) iO rfl rfl (by decide))⟩
 ·exact⟨101,_,_,_,rfl,iP ⟨by decide,.inl ⟨rfl,_,rfl⟩⟩ rfl (oW (bq:=[.i (.sl 1 (b1 l) false)]) (k:=28) (ac:=6) rfl rfl rfl (agX hm l al j) iO rfl rfl (by decide))⟩
 ·exact⟨102,_,_,_,rfl,iP ⟨by decide,.inl ⟨rfl,_,rfl⟩⟩ rfl (GO (bq:=[.i (.sl 1 (b1 l) false)]) (q:=6) rfl rfl rfl (ag1 hm l al) iO rfl)⟩
 ·exact⟨103,_,_,_,rfl,iP ⟨by decide,.inl ⟨rfl,_,rfl⟩⟩ rfl (AH (bq:=[.i (.sl 1 (b1 l) false)]) (k:=29) rfl rfl rfl (aLZ hm l al aW) iO rfl)⟩
 ·exact⟨110,_,_,_,rfl,iP ⟨by decide,.inl ⟨rfl,_,rfl⟩⟩ rfl (AH (bq:=[.i (.sl 1 (b1 l) false)]) (k:=30) rfl rfl rfl (aL0 hm l al aW) iO rfl)⟩
 ·exact⟨114,_,_,_,rfl,iP ⟨by decide,.inr ⟨rfl,rfl⟩⟩ rfl (GN (bq:=[.i (.sl 1 (b1 l) false)]) rfl rfl rfl (aKh hm l al) iO)⟩
 ·exact⟨115,_,_,_,rfl,iP ⟨by decide,.inl ⟨rfl,_,rfl⟩⟩ rfl (GO (bq:=[.i (.sl 1 (b1 l) false)]) (q:=6) rfl rfl rfl (aLG hm l) iO rfl)⟩
 ·exact⟨117,_,_,_,rfl,iP ⟨by decide,.inl ⟨rfl,_,rfl⟩⟩ rfl (GO (bq:=[.i (.sl 1 (b1 l) false)]) (q:=6) rfl rfl rfl (aLH hm l) iO rfl)⟩
def ag5{k:aC}:∀{es:List (aC×U)} {v:U},hy k es=some (some v)→∃p∈es,gf k p.1=some true∧p.2=v
 |[],v,h=>by simp[hy]at h
 |(ac,x)::r,v,h=>by
  simp only[hy]at h;cases aR:gf k ac with
  |none=>rw[aR]at h;cases h
  |some b=>
   rw[aR]at h;cases b with
   |true=>cases h;exact⟨_,Lf,aR,rfl⟩
   |false=>obtain⟨p,j,I⟩:=ag5 h;exact⟨p,xe _ j,I⟩
def ag6(c:Int):∀{es:List (aC×U)},(∀p∈es,∃d,p.1=.v (.int .u8 d))→∃ai,hy (.v (.int .u8 c)) es=some ai
 |[],_=>⟨none,rfl⟩
 |(ac,x)::r,h=>by
  obtain⟨d,aM⟩:=h _ Lf;simp only at aM;subst aM;simp only[hy,gf,if_true];by_cases e:c=d
  ·simp only[e,decide_true];exact⟨_,rfl⟩
  ·simp only[e,decide_false];exact ag6 c λ p au=>h p (xe _ au)
def aMi:∀p∈yo,∃d,p.1=.v (.int .u8 d):=by intro p au;simp only[yo,ng,xG,or_false]at au;rcases au with rfl|rfl|rfl|rfl|rfl|rfl|rfl|rfl|rfl|rfl|rfl|rfl|rfl|rfl|rfl|rfl|rfl|rfl|rfl|rfl|rfl|rfl|rfl|rfl|rfl|rfl|rfl|rfl|rfl<;>exact⟨_,rfl⟩
def aMj{c:Int}(h:hy (.v (.int .u8 c)) yo=some none)(m:M)(l:List Int):yp m c l=m:=by have h:=LR.1 h;simp only[yo,ng,xG,or_false,forall_eq_or_imp,forall_eq,gf,if_true,bg,decide_eq_false_iff_not]at h;simp only[yp,h,if_false]
def uz(e:dt):U:=.agg (kH (CX e))
def yq(e:dt):uz e=.agg [.i (.v (.int .i64 e.k)),.i (.v (.int .i32 e.r)),.i (.v (.int .u8 e.c)),.i (.v (.int .u8 e.v)),.i (.str e.i),.i (.sl 1 (b1 e.bk) false),.i (.str e.t)]:=rfl
def AN(e:dt):Bool:=gE e.r &&!decide (e.r<32) &&!(decide (127≤e.r) &&decide (e.r≤159)) &&(decide (e.c=0) &&decide (e.v=0) &&e.i.isEmpty &&e.t.isEmpty &&e.bk.isEmpty)
def GQ(e:dt):Bool:=!(decide (32≤e.c)||decide (e.c=24)||decide (e.c=26)||decide (e.c=27)) &&(decide (e.r=0) &&decide (e.v=0) &&e.i.isEmpty &&e.t.isEmpty &&e.bk.isEmpty)
def DH(e:dt):Bool:=!decide (3≤e.i.length) &&!e.i.any (kx 32 47) &&!(decide (e.c<48)||decide (126<e.c)) &&!(e.i.isEmpty &&(decide (e.c=91)||decide (e.c=93))) &&(decide (e.r=0) &&decide (e.v=0) &&e.t.isEmpty &&e.bk.isEmpty)
def DI(e:dt):Bool:=decide ((oV e.v e.bk e.i).2=0) &&!(decide (e.c<64)||decide (126<e.c)) &&(decide (e.r=0) &&e.t.isEmpty)
def GR(e:dt):Bool:=!decide (256<e.t.length) &&!e.t.any (kx 32 255) &&(decide (e.r=0) &&decide (e.c=0) &&decide (e.v=0) &&e.i.isEmpty &&e.bk.isEmpty)
def pN(e:dt):Bool:=if e.k=1 then AN e else if e.k=2 then GQ e else if e.k=3 then DH e else if e.k=4 then DI e else if e.k=5 then GR e else false
def aMk(r:Int)(ah:-2147483648≤r∧r≤2147483647)(c v:Int)(i:List UInt8)(bk:List Int)(t:List UInt8):
  gv 88 [uz ⟨1,r,c,v,i,bk,t⟩] (↑(AN ⟨1,r,c,v,i,bk,t⟩)):=by
 rw[yq];unfold AN;have aM:=aGU r;have al:(fT (eP r)).length≤4:=by
  rw[fT,nM];unfold eP;repeat' split
  all_goals simp only[cU];omega
 have fA:=λ H=>s8 r ah H
 have pA:=λ H=>re [] (fT (eP r)) (by simp only[dr];omega) H
 simp only[gJ,aM]at pA;simp only[];cases aP:gE r with
 |false=>
  have gh:¬65533=r:=by rintro rfl;exact absurd aP (by decide)
  simp only[aP,fF,if_false,show gT [65533]=[[.v (.int .i32 65533)]]from rfl]at pA;simp only[lo]
  (refine bz fo ?_;simp(disch:=omega)only[ar,simprocAttr,fz,cC,bA,s8,re,gJ,eM,ck,da,fA,pA,gh];exact⟨_,rfl⟩)
 |true=>
  simp only[aP,if_true,show gT [r]=[[.v (.int .i32 r)]]from rfl]at pA;simp only[jJ];by_cases j:r<32
  ·simp only[j,decide_true,JE,lo]
   (refine bz fo ?_;simp(disch:=omega)only[ar,simprocAttr,fz,cC,bA,s8,re,gJ,eM,ck,da,fA,pA,j];exact⟨_,rfl⟩)
  ·simp only[j,decide_false,ra,jJ];by_cases I:127≤r∧r≤159
   ·obtain⟨I,av⟩:=I;simp only[I,av,decide_true,zQ,JE,lo]
    (refine bz fo ?_;simp(disch:=omega)only[ar,simprocAttr,fz,cC,bA,s8,re,gJ,eM,ck,da,fA,pA,j,I,av];exact⟨_,rfl⟩)
   ·rw[show(decide (127≤r) &&decide (r≤159))=false by simp;omega];simp only[ra,jJ];have aMl:¬127≤r∨¬r≤159:=R;rcases aMl with I|I
    all_goals
     by_cases cm:c=0;rotate_left
     ·simp only[cm,fO];(refine bz fo ?_;simp(disch:=omega)only[ar,simprocAttr,fz,cC,bA,s8,re,gJ,eM,ck,da,fA,pA,j,I,cm];exact⟨_,rfl⟩)
     subst cm;by_cases cy:v=0;rotate_left
     ·simp only[cy,fO];(refine bz fo ?_;simp(disch:=omega)only[ar,simprocAttr,fz,cC,bA,s8,re,gJ,eM,ck,da,fA,pA,j,I,cy];exact⟨_,rfl⟩)
     subst cy;cases i with
     |cons i0 i=>simp only[cQ,fO];(refine bz fo ?_;simp(disch:=omega)only[ar,simprocAttr,fz,cC,bA,s8,re,gJ,eM,ck,da,fA,pA,j,I,cQ];exact⟨_,rfl⟩)
     |nil=>
      cases t with
      |cons i0 i=>simp only[cQ,fO];(refine bz fo ?_;simp(disch:=omega)only[ar,simprocAttr,fz,cC,bA,s8,re,gJ,eM,ck,da,fA,pA,j,I,cQ];exact⟨_,rfl⟩)
      |nil=>
       cases bk with
       |cons kk bk=>simp only[cQ,fO];(refine bz fo ?_;simp(disch:=omega)only[ar,simprocAttr,fz,cC,bA,s8,re,gJ,eM,ck,da,fA,pA,j,I,b1,cQ];exact⟨_,rfl⟩)
       |nil=>simp only[dr,fO];(refine bz fo ?_;simp(disch:=omega)only[ar,simprocAttr,fz,cC,bA,s8,re,gJ,eM,ck,da,fA,pA,j,I,b1,dr];exact⟨_,rfl⟩)
structure yr (m:M) (c:List U) (p:Nat) (H:aa):Prop where
 aj:hX m H
 yh:3≤p
 au:H[p]?=some (.box c)
def DJ{B:Nat}{H:aa}:∀{c:List U},(∀a∈c,∃x,a=.i x)→ey B H c=c
 |[],_=>by simp[ey]
 |a::r,h=>by obtain⟨x,rfl⟩:=h a (by simp);simp only[ey,el];rw[DJ λ b aj=>h b (by simp[aj])]
def ys{aS:Nat→Option Nat}:∀{c:List U},(∀a∈c,∃x,a=.i x)→cx aS c=c∧bx c=[]
 |[],_=>by simp[cx,bx]
 |a::r,h=>by
  obtain⟨x,rfl⟩:=h a (by simp);have:=ys (aS:=aS) λ b aj=>h b (xe _ aj)
  simp[cx,co,bx,bc,this.1,this.2]
def AO{m:M}{p A ae B af fa eb la:Nat}{T:aa}{aV:List Nat}{x y z:aC}(bY:bt (0::aV) A=some fa)(cJ:bt (0::aV) B=some eb)(au:bt (0::aV) p=some la):
  yJ (0::aV) [(0,.ptr 0 0 0 0),(3,.ptr (p) 0 0 0),(47,.i x),(48,.i y),(49,.i z)] (.box (aT m A ae B af)::T)=([(0,.ptr 0 0 0 0),(3,.ptr (la) 0 0 0),(47,.i x),(48,.i y),(49,.i z)],.box (aT m fa ae eb af)::aV.map λ c=>(((Chunk.box (aT m A ae B af)::T)[c]?).map (Chunk.cI (bt (0::aV)))).getD (.iter [] 0)):=by
 have aW:bt (0::aV) 0=some 0:=rfl;simp only[yJ,fh,fm,co,au,aW,p6,en,i1,iu,jN _ m _ _ _ _ _ _ bY cJ]
def yt(aS:Nat→Option Nat)(z g s:Nat)(r:List bT):(Chunk.az z g s r).cI aS=.az z g s r:=rfl
def aMm{m:M}{c:List U}{p:Nat}{H:aa}(ag:∀a∈c,∃x,a=.i x)(h:yr m c p H)(x y z:aC):∃la an,gc 3 [(0,.ptr 0 0 0 0),(3,.ptr (p) 0 0 0),(47,.i x),(48,.i y),(49,.i z)] H=([(0,.ptr 0 0 0 0),(3,.ptr (la) 0 0 0),(47,.i x),(48,.i y),(49,.i z)],an)∧yr m c la an:=by
 obtain⟨⟨a,ae,b,af,T,rfl,a0,cT,aD,aG,At,Au,aA,aj,cS,al,mf,cm⟩,yh,au⟩:=h;obtain rfl:a=a0:=R;obtain rfl:b=cT:=R;obtain⟨p,rfl⟩:∃q,p=q+3:=⟨p-3,R⟩
 match T,al,aA,aj,au,mf,cm with
 |t0::t1::T,al,aA,aj,au,mf,cm=>
  have ik:=mf t0 rfl;have iB:=cm t1 rfl;clear mf cm;have jP:=e'.2 (bF.1 au).1;have Ls:=e'.2 (bF.1 aA).1;have Lt:=e'.2 (bF.1 aj).1;have ag7:¬p+3=a+1:=λ e=>by have:p+2=a:=R;subst this;have au:(t0::t1::T)[p+2]?=_:=au;rw[aA]at au;cases au
  have ag8:¬p+3=b+1:=λ e=>by have:p+2=b:=R;subst this;have au:(t0::t1::T)[p+2]?=_:=au;rw[aj]at au;cases au
  have aMn:¬p+2=a:=R;have aMo:¬p+2=b:=R;have aMp:=(ys (aS:=λ _=>none) ag).2;have wc:=λ aS=>(ys (aS:=aS) ag).1
  have dj:reach (.box (aT m (a+1) ae (b+1) af)::t0::t1::T) 64 [0,p+3,a+1,b+1] []=[0,a+1,b+1,p+3]:=by simp only[cQ]at jP Ls Lt;have ml:T[p]?=some (.box c):=au;simp[reach,kb,bH,aA,aj,ml,aMp,Chunk.refs,Ls,Lt,a' cS,ag7,ag8,a' ag7,a' ag8,aMn,aMo,e'.2 (bF.1 ml).1]
  have k3:o7 3 [(0,.ptr 0 0 0 0),(3,.ptr (p+3) 0 0 0),(47,.i x),(48,.i y),(49,.i z)] (.box (aT m (a+1) ae (b+1) af)::t0::t1::T)=[0,1,2]++([a+1,b+1,p+3].filter λ i=>decide (3≤i)):=by unfold o7;simp only[fh,fm,bx,bc,c8,cj,vk,mQ,O3,r9,kb,bH,ik,iB,dj];rfl
  have fZ:=λ aS=>kZ ik aS
  have gI:=λ aS=>kZ iB aS
  have ml:T[p]?=some (.box c):=au;rw[Jq (by simp),k3];rcases a with _|_|a<;>rcases b with _|_|b
  ·exact absurd rfl cS
  ·cases aA;cases aj;have gR:([0+1,0+1+1,p+3].filter λ i=>decide (3≤i))=[p+3]:=by simp[rq]
   rw[gR];refine⟨3,.box (aT m 1 ae 2 af)::[.az 5 ae aD (aX m.G),.az 5 af aG (aX m.O),.box c],?_,⟨0,ae,1,af,[.az 5 ae aD (aX m.G),.az 5 af aG (aX m.O),.box c],rfl,ny rfl rfl (by decide) rfl rfl⟩,R,rfl⟩;refine(AO (aV:=[1,2,p+3]) (fa:=1) (eb:=2) (la:=3) (by simp[bt]) (by simp[bt]) (by simp[bt])).trans ?_;simp only[fh,fm,jF,p6,show∀x:Nat,x+3=x+1+1+1 from λ _=>rfl,ml,en,i1,yt,iu,wc]
  ·have GS:¬p=b:=R;cases aA;have jk:T[b]?=_:=aj;have gR:([0+1,b+1+1+1,p+3].filter λ i=>decide (3≤i))=[b+1+1+1,p+3]:=by simp[rq]
   rw[gR];refine⟨4,.box (aT m 1 ae 3 af)::[.az 5 ae aD (aX m.G),t1,.az 5 af aG (aX m.O),.box c],?_,⟨0,ae,2,af,[.az 5 ae aD (aX m.G),t1,.az 5 af aG (aX m.O),.box c],rfl,ny rfl rfl (by decide) rfl iB⟩,R,rfl⟩;refine(AO (aV:=[1,2,b+1+1+1,p+3]) (fa:=1) (eb:=3) (la:=4) (by simp[bt]) (by simp[bt]) (by simp[bt,GS])).trans ?_;simp only[fh,fm,jF,p6,show∀x:Nat,x+3=x+1+1+1 from λ _=>rfl,ml,jk,en,i1,yt,iu,wc,gI]
  ·cases aA;cases aj;have gR:([0+1+1,0+1,p+3].filter λ i=>decide (3≤i))=[p+3]:=by simp[rq]
   rw[gR];refine⟨3,.box (aT m 2 ae 1 af)::[.az 5 af aG (aX m.O),.az 5 ae aD (aX m.G),.box c],?_,⟨1,ae,0,af,[.az 5 af aG (aX m.O),.az 5 ae aD (aX m.G),.box c],rfl,ny rfl rfl (by decide) rfl rfl⟩,R,rfl⟩;refine(AO (aV:=[1,2,p+3]) (fa:=2) (eb:=1) (la:=3) (by simp[bt]) (by simp[bt]) (by simp[bt])).trans ?_;simp only[fh,fm,jF,p6,show∀x:Nat,x+3=x+1+1+1 from λ _=>rfl,ml,en,i1,yt,iu,wc]
  ·exact absurd rfl cS
  ·have GS:¬p=b:=R;cases aA;have jk:T[b]?=_:=aj;have gR:([0+1+1,b+1+1+1,p+3].filter λ i=>decide (3≤i))=[b+1+1+1,p+3]:=by simp[rq]
   rw[gR];refine⟨4,.box (aT m 2 ae 3 af)::[t0,.az 5 ae aD (aX m.G),.az 5 af aG (aX m.O),.box c],?_,⟨1,ae,2,af,[t0,.az 5 ae aD (aX m.G),.az 5 af aG (aX m.O),.box c],rfl,ny rfl rfl (by decide) ik rfl⟩,R,rfl⟩;refine(AO (aV:=[1,2,b+1+1+1,p+3]) (fa:=2) (eb:=3) (la:=4) (by simp[bt]) (by simp[bt]) (by simp[bt,GS])).trans ?_;simp only[fh,fm,jF,p6,show∀x:Nat,x+3=x+1+1+1 from λ _=>rfl,ml,jk,en,i1,yt,iu,wc,fZ]
  ·have GU:¬p=a:=R;have AP:T[a]?=_:=aA;cases aj;have gR:([a+1+1+1,0+1,p+3].filter λ i=>decide (3≤i))=[a+1+1+1,p+3]:=by simp[rq]
   rw[gR];refine⟨4,.box (aT m 3 ae 1 af)::[.az 5 af aG (aX m.O),t1,.az 5 ae aD (aX m.G),.box c],?_,⟨2,ae,0,af,[.az 5 af aG (aX m.O),t1,.az 5 ae aD (aX m.G),.box c],rfl,ny rfl rfl (by decide) rfl iB⟩,R,rfl⟩;refine(AO (aV:=[1,2,a+1+1+1,p+3]) (fa:=3) (eb:=1) (la:=4) (by simp[bt]) (by simp[bt]) (by simp[bt,GU])).trans ?_;simp only[fh,fm,jF,p6,show∀x:Nat,x+3=x+1+1+1 from λ _=>rfl,ml,AP,en,i1,yt,iu,wc,gI]
  ·have GU:¬p=a:=R;have AP:T[a]?=_:=aA;cases aj;have gR:([a+1+1+1,0+1+1,p+3].filter λ i=>decide (3≤i))=[a+1+1+1,p+3]:=by simp[rq]
   rw[gR];refine⟨4,.box (aT m 3 ae 2 af)::[t0,.az 5 af aG (aX m.O),.az 5 ae aD (aX m.G),.box c],?_,⟨2,ae,1,af,[t0,.az 5 af aG (aX m.O),.az 5 ae aD (aX m.G),.box c],rfl,ny rfl rfl (by decide) ik rfl⟩,R,rfl⟩;refine(AO (aV:=[1,2,a+1+1+1,p+3]) (fa:=3) (eb:=2) (la:=4) (by simp[bt]) (by simp[bt]) (by simp[bt,GU])).trans ?_;simp only[fh,fm,jF,p6,show∀x:Nat,x+3=x+1+1+1 from λ _=>rfl,ml,AP,en,i1,yt,iu,wc,fZ]
  ·have aMq:¬b=a:=R;have GS:¬p=b:=R;have GU:¬p=a:=R;have AP:T[a]?=_:=aA;have jk:T[b]?=_:=aj;have gR:([a+1+1+1,b+1+1+1,p+3].filter λ i=>decide (3≤i))=[a+1+1+1,b+1+1+1,p+3]:=by simp[rq]
   rw[gR];refine⟨5,.box (aT m 3 ae 4 af)::[t0,t1,.az 5 ae aD (aX m.G),.az 5 af aG (aX m.O),.box c],?_,⟨2,ae,3,af,[t0,t1,.az 5 ae aD (aX m.G),.az 5 af aG (aX m.O),.box c],rfl,ny rfl rfl (by decide) ik iB⟩,R,rfl⟩;refine(AO (aV:=[1,2,a+1+1+1,b+1+1+1,p+3]) (fa:=3) (eb:=4) (la:=5) (by simp[bt]) (by simp[bt,aMq]) (by simp[bt,GU,GS])).trans ?_;simp only[fh,fm,jF,p6,show∀x:Nat,x+3=x+1+1+1 from λ _=>rfl,ml,AP,jk,en,i1,yt,iu,wc,fZ,gI]
end Go.VI
