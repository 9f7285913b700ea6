import Derived.Test.YtflnccklneafnaaGreatDoorZTPQ4
import Derived.Lib.ItoaLen
open And renaming intro→o
open BitVec renaming ofInt→sP
open Bool renaming false_eq_true→fK,and_eq_true→cO,and_self→NN,not_eq_true'→rj,and_eq_false_iff→OB,true_and→jQ,false_and→ly,and_true→Ah,and_false→yb,not_true→J_,not_false→rF,not_eq_true→GC
open Eq renaming trans→fZ
open Go.IntKind renaming i64→n0,i32→sz
open Go.Lib renaming indexByte→JY,itoa→Ag
open Go.Utf8 renaming encode→HT
open Int renaming toNat_natCast→oe,cast_ofNat_Int→PK,natCast_zero→gZ,eq_ofNat_of_zero_le→jk,natCast_one→Ln,natCast_add→Dv,tmod_eq_emod_of_nonneg→LG,reduceEq→GX
open List renaming replicate→cy,range→hg,range'→lN,map_cons→fk,mem_cons→mU,getElem?_map→fA,getElem?_eq_some_iff→bF,getElem?_drop→q5,getElem?_append_left→en,getElem?_append_right→ha,getElem?_eq_getElem→eT,length_append→dd,replicate_succ→EK,flatten_cons→s0,drop_drop→If,foldl_cons→zo,getElem_mem→mr,length_cons→cT,append_assoc→dV,getElem?_set_ne→dC,set_getElem_self→BN,getElem?_set_self→ks,append_nil→c_,set_append_right→xB,set_set→vn,nil_append→gM,length_map→lX,mem_of_getElem?→jG,length_nil→dx,length_set→jI,take→eo,mem_cons_of_mem→xK,length_take→gE,length_replicate→mv,length_drop→ic,getElem?_replicate→Ni,mem_append→fT,getElem?_eq_none→sl,length_pos_iff→NF,ext_getElem?→Fh,getElem?_cons_succ→jM,mem_map→FG,map_nil→fp,take_zero→nc,take_succ_cons→vM,getD_eq_getElem?_getD→oV,drop_zero→iy,drop_eq_getElem_cons→ji,drop_length→nd,length_eq_one_iff→Ww,take_append_drop→JL,all_cons→CA,append_eq_nil_iff→Pd,flatMap_nil→sy,map_map→wa,flatMap_cons→PH,not_mem_nil→ya,cons_append→uy,set_cons_zero→CH,flatten_nil→CI,take_of_length_le→rH,drop→eI,any_eq_false→QW,map_append→pP,drop_eq_nil_of_le→Ll,map_set→uM,map_take→uN,map_drop→rK,take_succ_eq_append_getElem→GO,getElem?_take_of_lt→Rx,mem_of_mem_drop→uQ,filter→rS,mem_of_mem_take→DI,mem_replicate→RQ,mem_cons_self→LS,getD→G',mem_singleton→yP
open List.cons renaming injEq→BQ
open Nat renaming le_refl→cQ,le_trans→sd,add_zero→fc,zero_add→cq,sub_self→qk,not_le→e8,add_comm→qv,zero_le→ig,not_lt_zero→rz,sub_zero→qy,mod_eq_of_lt→Dg,reduceAdd→c2
open Ne renaming symm→ba
open Option renaming map_eq_some_iff→c0,getD_some→iM,map_some→d',map→G1
open Option.some renaming inj→qf,injEq→bj
open UInt8 renaming ofNat→h6,toNat_ofNat'→Q9
namespace Go.VI
open Go.Proofs
set_option maxRecDepth 100000
set_option maxHeartbeats 40000000
set_option linter.unusedVariables false
set_option linter.unusedSimpArgs false
set_option linter.defProp false
def aIn(w h:Nat)(hw:1≤w∧w≤132)(aO:1≤h∧h≤60)(g:List (List bh))(aP:g.length=h)(rL:jV w g)(a:eh)(p q k:Nat)(lE:p<q)(bn:q≤h)(LA:1≤k)(az:p+k≤q)(H:aa):
  cn 144 [.agg [w,h,.i (.ae 1 (bX g) false)],p,q,↑(-(k:Int)),.agg [a.c1,a.a_,a.cY]] H (.be [.agg [w,h,.x (.d H.length 0 0 h)],.x (.d (H.length+1) 0 0 0),↑(0:Int)]) (H++[.ax 5 0 0 (aX (rN w a.a_ p q k g)),.ax 5 0 0 []]):=af' (c:=1) (d:=6) rfl rfl rfl rfl (by decide) (by
 have ao:=λ H=>Lw w h hw aO g aP rL H
 have aI:=λ H=>GQ w a H
 have uO:(bX g).length=h:=by rw[f',aP]
 have aM:(aX g).length=h:=by rw[gj,aP]
 have du:((aX g).drop p).take (q-p-k)=aX ((g.drop p).take (q-p-k)):=by rw[GS,GR]
 have aga:((g.drop p).take (q-p-k)).length=q-p-k:=by rw[gE,ic];omega
 have ca:(e' (aX g) p (q-p-k)).length=h:=by rw[BS R,aM]
 have an:=aIm w h hw aO.2 a p (q-p) k ((q:Int)-(p:Int)) R (aX g) aM k 0 [] R (by simp;omega);have b0:aX (cy k (dq w a.a_))++aX ((g.drop p).take (q-p-k))=aX (cy k (dq w a.a_)++(g.drop p).take (q-p-k)):=Dy _ _;have kx:(e' (aX g) p (q-p-k)).take p++(aX (cy k (dq w a.a_)++(g.drop p).take (q-p-k))++(e' (aX g) p (q-p-k)).drop q)=aX (rN w a.a_ p q k g):=by rw[Rt R (cQ _),Lz R R,GR,GS,Dy,Dy,rN]
 have dc:(aX (cy k (dq w a.a_))).length=k:=by rw[gj,mv]
 have hY:(aX (cy k (dq w a.a_)++(g.drop p).take (q-p-k))).length=q-p:=by rw[gj,dd,aga,mv];omega
 have hx:(aX ((g.drop p).take (q-p-k))).length=q-p-k:=by rw[gj,aga]
 rw[gM,mv]at an;simp only[gZ,dx,show aX []=[]from rfl]at an;have IU:(aX (rN w a.a_ p q k g)).length=h:=by rw[gj,af9 az R,aP]
 have bg:0- -(k:Int)=k:=R;have aZ:((q:Int)-(p:Int)+-(k:Int)).toNat=q-p-k:=R;have ak:max (0-((q:Int)-(p:Int))) (min (-(k:Int)) ((q:Int)-(p:Int)))=-(k:Int):=R;generalize aX (rN w a.a_ p q k g)=AG at*;generalize aX (cy k (dq w a.a_)++(g.drop p).take (q-p-k))=j' at*;generalize aX ((g.drop p).take (q-p-k))=na at*;generalize aX (cy k (dq w a.a_))=BW at*;have GV:(e' (aX g) p (q-p-k)).take p++(j'++(e' (aX g) p (q-p-k)).drop (p+j'.length))=AG:=by rw[hY,show p+(q-p)=q by omega];exact kx
 rw[bp tp];simp(disch:=omega)only[au,simprocAttr,C4,c',ao,aI,an,ak,bg,aZ,GV,b0,du,ne_eq,qy,QP];exact⟨_,rfl,by rfl,by rfl⟩)
def o7(l:List bh)(bc n:Nat)(a:eh):List bh:=(da (da l bc) (bc+min n (l.length-bc))).take bc++((da (da l bc) (bc+min n (l.length-bc))).drop (bc+min n (l.length-bc))++dq (min n (l.length-bc)) a.a_)
def Rv{l:List bh}{bc n:Nat}{a:eh}(ah:bc<l.length):(o7 l bc n a).length=l.length:=by simp only[o7,dd,gE,ic,wz,wy];omega
def aIo{l:List bh}(an:l.length≤132)(av:hp l=true)(bc n:Nat)(ah:bc<l.length)(j:1≤n)(aF:n<1000000)(a:eh)(H:aa):
  cn 166 [.i (.ae 5 (b_ l) false),bc,n,.agg [a.c1,a.a_,a.cY]] H (.be [.ref H.length 0 0 l.length,↑(0:Int)]) (H++[.ae 5 0 (b_ (o7 l bc n a)) false]):=Dw (c:=4) rfl rfl rfl (by
 have rm:=λ H=>Lr R an av bc ((l.length:Int)-1) R R H
 have aO:=Dx l an bc l.length rfl R 1 [.box [.i (.v (.int .i64 (a.c1))),.i (.v (.int .i64 (a.a_))),.i (.v (.int .i64 (a.cY)))],.ae 5 0 (b_ l) false] rfl;have hm:min (n:Int) ((l.length:Int)-bc)=((min n (l.length-bc):Nat):Int):=R;have ak:=λ H=>GJ (min n (l.length-bc)) a.a_ R H
 have az:1≤min n (l.length-bc)∧min n (l.length-bc)≤l.length-bc:=R;have al:=Rv (n:=n) (a:=a) ah;have vG:=wz l bc;have LB:=Dx (da l bc) R (bc+min n (l.length-bc)) l.length vG.symm R 1 [.box [.i (.v (.int .i64 (a.c1))),.i (.v (.int .i64 (a.a_))),.i (.v (.int .i64 (a.cY)))],.ae 5 0 (b_ (da l bc)) false] rfl;rw[Dv]at LB;have xY:=wz (da l bc) (bc+min n (l.length-bc));rw[vG]at xY;have yx:=λ H=>Rl ((da (da l bc) (bc+min n (l.length-bc))).take bc) ((da (da l bc) (bc+min n (l.length-bc))).drop (bc+min n (l.length-bc))) (dq (min n (l.length-bc)) a.a_) l.length (by
  have:=al;simpa only[o7,dd]using this) R H
 rw[show(da (da l bc) (bc+min n (l.length-bc))).take bc++((da (da l bc) (bc+min n (l.length-bc))).drop (bc+min n (l.length-bc))++dq (min n (l.length-bc)) a.a_)=o7 l bc n a from rfl]at yx;have kx:¬(n:Int)<1:=R;generalize o7 l bc n a=x at*;have O_:=eO x;generalize da (da l bc) (bc+min n (l.length-bc))=aj at*;generalize da l bc=cr at*;generalize min n (l.length-bc)=m at*;have ai:((bc:Int)+m).toNat=bc+m:=R;have aM:l.length-(bc+m)=aj.length-(bc+m):=R;rw[nI Tryz.func166 rfl aek.1];simp(disch:=first|omega|(simp only[dW,eO,nM,vG,xY,al];omega))only[au,simprocAttr,aFu,c',cN,rm,aO,LB,hm,ak,yx,kx,ai,AE,Lu,Lv,eO,nM,qy];exact⟨_,rfl,by rfl⟩)
def pS(l:List bh)(p q:Nat)(a:eh):List bh:=if p=q then l else(da (da l p) q).take p++(dq (q-p) a.a_++(da (da l p) q).drop q)
def Rw{l:List bh}{p q:Nat}{a:eh}(lE:p≤q)(bn:q≤l.length):(pS l p q a).length=l.length:=by
 unfold pS;split
 ·rfl
 ·simp only[dd,gE,ic,wz,wy];omega
def aIp{l:List bh}(aV:0<l.length)(an:l.length≤132)(av:hp l=true)(p q:Nat)(lE:p≤q)(bn:q≤l.length)(a:eh)(H:aa):
  cn 213 [.i (.ae 5 (b_ l) false),p,q,.agg [a.c1,a.a_,a.cY]] H (.be [.ref H.length 0 0 l.length,↑(0:Int)]) (H++[.ae 5 0 (b_ (pS l p q a)) false]):=by
 have rm:=λ H=>Lr aV an av p l.length R R H
 have al:=Rw (a:=a) lE bn;have agb:¬(q:Int)<p:=R;have Ji:¬(l.length:Int)<q:=R;by_cases he:p=q
 ·refine Dw (c:=1) rfl rfl rfl ?_;subst he;rw[pS,if_pos rfl];rw[bp QF];simp(disch:=first|omega|(simp only[dW,eO];omega))only[au,simprocAttr,aeO,c',cN,rm,agb,Ji,eO];exact⟨_,rfl,by rfl⟩
 ·refine Dw (c:=4) rfl rfl rfl ?_;have gp:¬(p:Int)=q:=R;have aO:=Dx l an p l.length rfl R 1 [.box [.i (.v (.int .i64 (a.c1))),.i (.v (.int .i64 (a.a_))),.i (.v (.int .i64 (a.cY)))],.ae 5 0 (b_ l) false] rfl;have vG:=wz l p;have LB:=Dx (da l p) R q l.length vG.symm R 1 [.box [.i (.v (.int .i64 (a.c1))),.i (.v (.int .i64 (a.a_))),.i (.v (.int .i64 (a.cY)))],.ae 5 0 (b_ (da l p)) false] rfl;have xY:=wz (da l p) q;rw[vG]at xY;have ak:=λ H=>GJ (q-p) a.a_ R H
  have hm:(q:Int)-p=((q-p:Nat):Int):=R;unfold pS at al⊢;rw[if_neg he]at al⊢;have yx:=λ H=>Rl ((da (da l p) q).take p) (dq (q-p) a.a_) ((da (da l p) q).drop q) l.length (by
   have:=al;simpa only[dd]using this) R H
  generalize sh:(da (da l p) q).take p++(dq (q-p) a.a_++(da (da l p) q).drop q)=x at*;have O_:=eO x;generalize da (da l p) q=aj at*;generalize da l p=cr at*;rw[bp QF];simp(disch:=first|omega|(simp only[dW,eO,nM,vG,xY,al];omega))only[au,simprocAttr,aeO,c',cN,rm,aO,LB,hm,ak,yx,agb,Ji,gp,AE,Lu,Lv,eO,nM,qy];exact⟨_,rfl,by rfl⟩
def rP(l:List bh)(w:Nat):List bh:=if l.length≤w then l++dq (w-l.length) (-1)else k8 (l.take w)
def agc(l:List bh)(w:Nat):(rP l w).length=w:=by
 unfold rP;split
 ·rw[dd,wy];omega
 ·rw[GL,gE];omega
def aIq{l:List bh}(aV:0<l.length)(an:l.length≤132)(av:hp l=true)(w:Nat)(m_:1≤w)(hw:w≤132)(H:aa):
  ct 59 [.i (.ae 5 (b_ l) false),w] H (.i (.ae 5 (b_ (rP l w)) false)):=cu (by
 have nx:=λ H=>Lm aV an av H
 have cg:=λ h H=>Lq (b_ l) h H
 rw[eO]at cg;unfold rP;by_cases hle:l.length≤w
 ·rw[if_pos hle];have vC:(l.length:Int)≤w:=R;have hm:(w:Int)-l.length=((w-l.length:Nat):Int):=R;have ak:=λ H=>GJ (w-l.length) (-1) R H
  have FSq:=nM (w-l.length) (-1);have aIr:=wy (w-l.length) (-1);refine bw Kw ?_;simp(disch:=first|omega|(simp only[dW,eO,FSq,aIr];omega))only[au,simprocAttr,Qi,cN,nx,cg,ak,hm,vC,eO,afZ,FSq];exact⟨_,rfl⟩
 ·rw[if_neg hle];have vC:¬(l.length:Int)≤w:=R;have al:(l.take w).length=w:=by rw[gE];omega
  have qF:=AE l w;unfold k8;rw[al];have aP:(l.take w)[w-1]?=l[w-1]?:=Rx R;have Rm:∃c,l[w-1]?=some c:=⟨l[w-1],eT R⟩;obtain⟨c,xQ⟩:=Rm;rw[aP,xQ];have bZ:=ww xQ;have GN:((w:Int)-1).toNat=w-1:=R;have gS:=λ k a_=>Ls l k a_
  by_cases jW:c.w=2
  ·rw[jW]at bZ;simp only[jW,if_true];rw[←List.take_set];refine bw Kw ?_;simp(disch:=first|omega|(simp only[dW,eO,al];omega))only[au,simprocAttr,Qi,cN,nx,cg,vC,bZ,GN,Lp,Ls,AE,eO,qy];exact⟨_,rfl⟩
  ·simp only[jW,if_false];refine bw Kw ?_;simp(disch:=first|omega|(simp only[dW,eO,al];omega))only[au,simprocAttr,Qi,cN,nx,cg,vC,bZ,jW,GN,AE,eO,qy];exact⟨_,rfl⟩)
def Dz(l:List bh):bS:=.dG (.ae 5 (b_ l) false)
def mK(g:List (List bh))(k:Nat):List bS:=(g.take k).map Dz++aX (g.drop k)
def aIs(g:List (List bh)):mK g 0=aX g:=by simp[mK]
def agd(g:List (List bh))(k:Nat):(mK g k).length=g.length:=by simp only[mK,dd,lX,gj,gE,ic];omega
def aIt{g:List (List bh)}{k:Nat}(h:k<g.length):(mK g k)[k]?=some (.own (b_ g[k])):=by
 have j:((g.take k).map Dz).length=k:=by rw[lX,gE];omega
 rw[mK,ha R,j,qk,aX,fA,q5];simp[h]
def aIu{g:List (List bh)}{k:Nat}(h:k<g.length):(mK g k).set k (.dG (.ae 5 (b_ g[k]) false))=mK g (k+1):=by
 have j:((g.take k).map Dz).length=k:=by rw[lX,gE];omega
 rw[mK,xB _ _ R,j,qk,ji h,mK,GO h];simp only[aX,fk,CH,pP,fp,dV,ck];rfl
def aIv{g:List (List bh)}{k:Nat}(h:g.length≤k):mK g (k+1)=mK g k:=by simp only[mK];rw[rH R,rH h,Ll R,Ll h]
def Ry(g:List (List bh))(w k:Nat):List bh:=match g[k]? with
 |some l=>rP l w
 |none=>dq w (-1)
def DA(g:List (List bh))(w k:Nat):bS:=match g[k]? with
 |some l=>Dz (rP l w)
 |none=>.own (b_ (dq w (-1)))
def pT(g:List (List bh))(w:Nat):Nat→List (List bh)
 |0=>[]
 |k+1=>pT g w k++[Ry g w k]
def qG(g:List (List bh))(w:Nat):Nat→List bS
 |0=>[]
 |k+1=>qG g w k++[DA g w k]
def LC(g:List (List bh))(w:Nat):∀k,(pT g w k).length=k
 |0=>rfl
 |k+1=>by rw[pT,dd,LC g w k];rfl
def LD(g:List (List bh))(w:Nat):∀k,(qG g w k).length=k
 |0=>rfl
 |k+1=>by rw[qG,dd,LD g w k];rfl
def Rz(z:Nat):∀{a b:List bS} {x y:List aD},lJ z a=some x→lJ z b=some y→lJ z (a++b)=some (x++y)
 |[],b,x,y,j,J=>by cases j;exact J
 |.own r::a,b,x,y,j,J=>by simp only[lJ,c0]at j;obtain⟨lT,j,rfl⟩:=j;simp only[uy,lJ,Rz z j J,d']
 |.dG r::a,b,x,y,j,J=>by simp only[lJ,c0]at j;obtain⟨lT,j,rfl⟩:=j;simp only[uy,lJ,Rz z j J,d']
def age(g:List (List bh))(w:Nat):∀k,lJ 5 (qG g w k)=some ((pT g w k).map λ r=>aD.ae 5 (b_ r) false)
 |0=>rfl
 |k+1=>by rw[qG,pT,pP];refine Rz 5 (age g w k) ?_;unfold DA Ry;cases g[k]?<;>rfl
def aIw(gW aV w h:Nat)(m_:1≤gW∧gW≤132)(vL:aV≤60)(hw:1≤w∧w≤132)(aO:h≤60)(g:List (List bh))(aP:g.length=aV)(rL:jV gW g):∀(m ab:Nat),ab+m=h→
  hT Al 0 [(1,w),(3,.ptr 0 0 0 0),(6,.ptr 2 0 0 0),(10,.aR (.func 76) [] [.ptr 3 0 0 0,.ptr 4 0 0 0]),(11,.ptr 5 0 0 0),(35,h),(36,ab)] [.box [gW,aV,.x (.d 1 0 0 aV)],.ax 5 0 0 (mK g ab),.box [↑(0:Int),↑(0:Int),.i (.ae 0 [] true)],.box [w],.box [↑(-1:Int),↑(-1:Int),↑(0:Int)],.box [w,h,.x (.d 6 0 0 (ab))],.ax 5 0 0 (qG g w ab)] 0 [(1,w),(3,.ptr 0 0 0 0),(6,.ptr 2 0 0 0),(10,.aR (.func 76) [] [.ptr 3 0 0 0,.ptr 4 0 0 0]),(11,.ptr 5 0 0 0),(35,h),(36,h),(37,false)] [.box [gW,aV,.x (.d 1 0 0 aV)],.ax 5 0 0 (mK g h),.box [↑(0:Int),↑(0:Int),.i (.ae 0 [] true)],.box [w],.box [↑(-1:Int),↑(-1:Int),↑(0:Int)],.box [w,h,.x (.d 6 0 0 (h))],.ax 5 0 0 (qG g w h)]:=by
 intro m;induction m with
 |zero=>intro ab a';obtain rfl:ab=h:=R;have an:=LD g w ab;have hx:=agd g ab;generalize qG g w ab=x at*;generalize mK g ab=y at*;refine(cF Al 0).trans ?_;simp(disch:=omega)only[au,simprocAttr,Kr,c',cN,KR]
 |succ m a8=>
  intro ab a';have e:=a8 (ab+1) R;have an:=LD g w ab;have hx:=agd g ab;rw[qG]at e;by_cases bf:ab<g.length
  ·have RA:(ab:Int)<aV:=R;have oc:=aIt bf;have jd:=aIu bf;obtain⟨n2,ia⟩:=rL _ (mr bf);have aK:=λ H=>aIq (l:=g[ab]) R R ia w hw.1 hw.2 H
   have fe:(b_ g[ab]).length≤132:=by rw[eO];omega
   rw[show DA g w ab=.dG (.ae 5 (b_ (rP g[ab] w)) false)by simp[DA,bf,Dz]]at e;have hk:(b_ (rP g[ab] w)).length=w:=by rw[eO,agc]
   refine fZ ?_ e;clear e a8;generalize b_ (rP g[ab] w)=z at*;generalize b_ g[ab]=fr at*;generalize qG g w ab=x at*;generalize mK g (ab+1)=aRE at*;generalize mK g ab=y at*;refine(cF Al 0).trans ?_;simp(disch:=omega)only[au,simprocAttr,Kr,c',cN,oc,jd,aK,RA,ne_eq,KR]
  ·have RA:¬(ab:Int)<aV:=R;rw[aIv R,show DA g w ab=.own (b_ (dq w (-1)))by simp[DA,bf]]at e;have ak:=GP w ⟨-1,-1,0⟩ hw.1 hw.2 (c:=3) (d:=4) (H:=[.box [.i (.v (.int .i64 (gW))),.i (.v (.int .i64 (aV))),.x (.d 1 0 0 aV)],.ax 5 0 0 (mK g ab),.box [.i (.v (.int .i64 0)),.i (.v (.int .i64 0)),.i (.ae 0 [] true)],.box [.i (.v (.int .i64 (w)))],.box [.i (.v (.int .i64 (-1))),.i (.v (.int .i64 (-1))),.i (.v (.int .i64 (0)))],.box [.i (.v (.int .i64 (w))),.i (.v (.int .i64 (h))),.x (.d 6 0 0 (ab))],.ax 5 0 0 (qG g w ab)]) (by decide) rfl rfl;have fe:=nM w (-1);simp only at ak;refine fZ ?_ e;clear e a8;generalize b_ (dq w (-1))=z at*;generalize qG g w ab=x at*;generalize mK g ab=y at*;refine(cF Al 0).trans ?_;simp(disch:=omega)only[au,simprocAttr,Kr,c',cN,CJ,ak,RA,fe,ne_eq,KR]
def AH(g:List (List bh)):(g.map λ r=>aD.ae 5 (b_ r) false).map (λ y=>[y])=bX g:=by simp[bX]
def agf(gW aV w h:Nat)(m_:1≤gW∧gW≤132)(vL:1≤aV∧aV≤60)(hw:1≤w∧w≤132)(aO:1≤h∧h≤60)(g:List (List bh))(aP:g.length=aV)(rL:jV gW g)(H:aa):
  ct 25 [.agg [gW,aV,.i (.ae 1 (bX g) false)],w,h] H (.be [.agg [w,h,.i (.ae 1 (bX (pT g w h)) false)],↑(0:Int)]):=cu (by
 have ao:=λ H=>Lw gW aV m_ vL g aP rL H
 have aI:=λ H=>GQ w ⟨-1,-1,0⟩ H
 have bE:=λ H=>Rn w h hw aO H
 have an:=aIw gW aV w h m_ vL.2 hw aO.2 g aP rL h 0 R;rw[aIs,show qG g w 0=[]from rfl]at an;simp only[gZ]at an aI;have uO:(bX g).length=aV:=by rw[f',aP]
 have aM:(aX g).length=aV:=by rw[gj,aP]
 have p7:=LD g w h;have EF:=age g w h;have aIx:=AH (pT g w h);have aRF:(bX (pT g w h)).length=h:=by rw[f',LC]
 generalize qG g w h=aW at*;generalize (pT g w h).map (λ r=>aD.ae 5 (b_ r) false)=X at*;refine bw Al ?_;simp(disch:=omega)only[au,simprocAttr,Kr,c',cN,ao,aI,bE,af1,an,EF,aIx,KR];exact⟨_,rfl⟩)
def tw(g:List (List (List bh))):List (List aD):=g.map λ r=>[.ae 1 (bX r) false]
def AIq(g:List (List (List bh))):(tw g).length=g.length:=by simp[tw]
def agh{g:List (List (List bh))}{k:Nat}{r:List (List bh)}(h:g[k]?=some r):(tw g)[k]?=some [.ae 1 (bX r) false]:=by simp[tw,h]
def aIy(a b:List (List bh)):bX a++bX b=bX (a++b):=by simp[bX]
def aIz(g:List (List (List bh)))(aP:g.length<100000):∀(m k a:Nat),k+m=g.length→a+(g.drop k).flatten.length<1000000→
  hT uE 0 [(0,.i (.ae 1 (tw g) false)),(3,a),(9,.i (.ae 1 (tw g) false)),(10,g.length),(11,k)] [] 0 [(0,.i (.ae 1 (tw g) false)),(3,↑(a+(g.drop k).flatten.length:Nat)),(9,.i (.ae 1 (tw g) false)),(10,g.length),(11,g.length),(12,false)] []:=by
 intro m;induction m with
 |zero=>intro k a az aB;obtain rfl:k=g.length:=R;rw[nd,CI,dx,fc];refine(cF uE 0).trans ?_;simp(disch:=omega)only[au,simprocAttr,Gx,nG,c',AIq,QT]
 |succ m a8=>intro k a az aB;have bf:k<g.length:=R;have bZ:=agh (eT bf);rw[ji bf,s0,dd]at aB⊢;have e:=a8 (k+1) (a+g[k].length) R R;rw[show a+(g[k].length+(g.drop (k+1)).flatten.length)=a+g[k].length+(g.drop (k+1)).flatten.length by omega];refine fZ ?_ e;clear e a8;rw[Dv a];generalize g[k]=r at*;have aF:¬((a:Int)+r.length<0):=R;refine(cF uE 0).trans ?_;simp(disch:=omega)only[au,simprocAttr,Gx,nG,c',bZ,aF,AIq,f',QT]
def aIA(g:List (List (List bh)))(aP:g.length<100000):∀(m k:Nat) (a:List (List bh)),k+m=g.length→a.length+(g.drop k).flatten.length<1000000→
  hT uE 1 [(6,.ref 0 0 0 a.length),(25,.i (.ae 1 (tw g) false)),(26,g.length),(27,k)] [.ae 1 0 (bX a) false] 2 [(6,.ref 0 0 0 (a++(g.drop k).flatten).length),(25,.i (.ae 1 (tw g) false)),(26,.i (.v (.int .i64 (g.length)))),(27,.i (.v (.int .i64 (g.length)))),(28,.i (.v (.bool (false))))] [.ae 1 0 (bX (a++(g.drop k).flatten)) false]:=by
 intro m;induction m with
 |zero=>intro k a az aB;obtain rfl:k=g.length:=R;rw[nd,CI,c_];refine(cF uE 1).trans ?_;simp(disch:=first|omega|(simp only[dW,AIq,f'];omega))only[au,simprocAttr,Gx,nG,c',AIq,f',QU]
 |succ m a8=>intro k a az aB;have bf:k<g.length:=R;have bZ:=agh (eT bf);rw[ji bf,s0]at aB⊢;rw[dd]at aB;have e:=a8 (k+1) (a++g[k]) R (by rw[dd];omega);rw[←dV];refine fZ ?_ e;clear e a8;generalize g[k]=r at*;rw[dd];refine(cF uE 1).trans ?_;simp(disch:=first|omega|(simp only[dW,AIq,f'];omega))only[au,simprocAttr,Gx,nG,c',bZ,AIq,f',aIy,QU]
def aIB(n:Nat)(h:n≤1000000)(H:aa):dj E (b4 E) 222 [.i (.ae 0 [] true),.i (.v (.int .i64 (n)))] H=some (.ref H.length 0 0 0,H++[.ae 1 0 [] false]):=by rw[F3 (show E.ext 222=some (qx 1)from rfl)];exact vZ (E:={E with ext:=λ _=>none}) (c:=0) (x:=.ae 1 0 [] false) rfl rfl rfl ⟨[.ae 1 0 [] false],by simp[qx];omega,rfl⟩
def aIC(g:List (List (List bh)))(aP:g.length<100000)(aS:g.flatten.length<1000000)(H:aa):dj E (b4 E) 208 [.i (.ae 1 (tw g) false)] H=
  some (.i (.ae 1 (bX g.flatten) false),H):=gX rfl rfl rfl (by
 have j:=aIz g aP g.length 0 0 R (by rw[iy];omega);have J:=aIA g aP g.length 0 [] R (by rw[iy,dx];omega);rw[iy,cq]at j;rw[iy,gM,show bX []=[]from rfl,dx]at J;have aw:=λ H=>aIB g.flatten.length R H
 simp only[gZ]at j J;have an:=f' g.flatten;generalize al:g.flatten.length=n at*;generalize bX g.flatten=y at*;rw[bp uE];simp(disch:=omega)only[au,simprocAttr,Gx,nG,c',j,J,aw,AIq,QT,QU];exact⟨_,rfl⟩)
def aID(a b:List (List bh))(aS:a.length+b.length<1000000)(H:aa):dj E (b4 E) 208 [.i (.ae 1 [[.ae 1 (bX a) false],[.ae 1 (bX b) false]] false)] H=
  some (.i (.ae 1 (bX (a++b)) false),H):=by
 have h:=aIC [a,b] (by simp) (by simp;omega) H;simp only[s0,CI,c_]at h;exact h
def aIE(a:List (List bh))(n:Nat):(bX a).drop n=bX (a.drop n):=by simp[bX,rK]
def uP(l:List (List bh))(n:Nat):List (List bh):=l.drop (l.length-n)
def agi(l:List (List bh))(n:Nat):(uP l n).length≤n:=by rw[uP,ic];omega
def aIF(g:List (List bh))(aP:g.length<1000000)(n:Nat)(aF:n<1000000)(H:aa):ct 207 [.i (.ae 1 (bX g) false),n] H (.i (.ae 1 (bX (uP g n)) false)):=cu (by
 have hA:¬(n:Int)<0:=R;have hm:max 0 ((g.length:Int)-n)=((g.length-n:Nat):Int):=R;have an:=f' g;have aM:(bX g).drop (g.length-n)=bX (uP g n):=aIE _ _;have ft:=f' (uP g n);have sJ:(uP g n).length=g.length-(g.length-n):=by rw[uP,ic]
 generalize uP g n=z at*;refine bw aeK ?_;simp(disch:=omega)only[au,simprocAttr,aFT,c',hA,hm,aM,an];exact⟨_,rfl⟩)
def aIG(g:List (List bh))(aP:g.length≤1000)(ai:∀r∈g,r.length≤132):∀(m k:Nat),k+m=g.length→
  hT C' 0 [(3,.x (.d 0 0 0 g.length)),(9,.i (.ae 1 (bX g) false)),(10,g.length),(11,k)] [.ax 5 0 0 (ot g k)] 0 [(3,.x (.d 0 0 0 g.length)),(9,.i (.ae 1 (bX g) false)),(10,g.length),(11,g.length),(12,false)] [.ax 5 0 0 (aX g)]:=by
 intro m;induction m with
 |zero=>intro k az;obtain rfl:k=g.length:=R;rw[af4];have aM:=gj g;generalize aX g=x at*;refine(cF C' 0).trans ?_;simp(disch:=omega)only[au,simprocAttr,QE,c',cN,f',QS]
 |succ m a8=>
  intro k az;have bf:k<g.length:=R;have bZ:=AD (eT bf);have oc:=af5 bf;have jd:=af6 bf;have fe:=ai _ (mr bf);have cg:=λ H=>Lq (b_ (g[k]'bf)) (by rw[eO];omega) H
  have an:=eO (g[k]'bf);have ft:=af2 (g:=g) (k:=k) R;have e:=a8 (k+1) R;refine fZ ?_ e;clear e a8;rw[←jd];generalize ot g k=y at*;generalize b_ g[k]=z at*;refine(cF C' 0).trans ?_;simp(disch:=omega)only[au,simprocAttr,QE,c',cN,bZ,oc,cg,an,ne_eq,f',QS]
def DB(g:List (List bh)):lJ 5 (aX g)=some (g.map λ r=>aD.ae 5 (b_ r) false):=by have h:=Pz 5 (g.map b_);rw[wa,wa]at h;exact h
def aIH(g:List (List bh))(aP:g.length≤1000)(ai:∀r∈g,r.length≤132)(H:aa):ct 206 [.i (.ae 1 (bX g) false)] H (.i (.ae 1 (bX g) false)):=cu (by
 have an:=aIG g aP ai g.length 0 R;rw[af3]at an;simp only[gZ]at an;have aM:=gj g;have xE:(cy g.length [aD.ae 5 [] false]).map p_=cy g.length (.dG (.ae 5 [] false)):=by simp[p_]
 have aK:=DB g;have hm:=AH g;generalize g.map (λ r=>aD.ae 5 (b_ r) false)=X at*;generalize aX g=y at*;refine bw C' ?_;simp(disch:=first|omega|(simp only[dW,f',aM];omega))only[au,simprocAttr,QE,c',cN,an,xE,aK,hm,f',QS];exact⟨_,rfl⟩)
def tx(b aj:List (List bh)):List (List bh):=uP (b++aj) 500
def aII(b aj:List (List bh))(ak:b.length≤500)(b':aj.length≤60)(ai:∀r∈b++aj,r.length≤132)(H:aa):
  ct 145 [.i (.ae 1 (bX b) false),.i (.ae 1 (bX aj) false)] H (.i (.ae 1 (bX (tx b aj)) false)):=cu (by
 have ao:=λ H=>aID b aj R H
 have aI:∀H:aa,dj E (b4 E) 207 [.i (.ae 1 (bX (b++aj)) false),.i (.v (.int .i64 (500)))] H=some (.i (.ae 1 (bX (tx b aj)) false),H):=λ H=>aIF (b++aj) (by rw[dd];omega) 500 R H
 have bE:=λ H=>aIH (tx b aj) (sd (agi _ _) R) (λ r h=>ai r (uQ h)) H
 generalize tx b aj=z at*;generalize b++aj=y at*;refine bw ad' ?_;simp(disch:=omega)only[au,simprocAttr,aFk,nG,c',ao,aI,bE];exact⟨_,rfl⟩)
structure fO where
 r:Int
 c:Int
 p:Bool
 deriving DecidableEq
structure gv where
 w:Int
 h:Int
 cz:Int
 b8:Int
 c4:Bool
def hU(b:gv):Prop:=(1≤b.w∧b.w≤132)∧(1≤b.h∧b.h≤60)∧0≤b.cz∧b.cz<b.b8∧b.b8≤b.h
def eB(n bU aA:Int):Int:=max bU (min n aA)
def pU{n bU aA:Int}(h:bU≤aA):bU≤eB n bU aA∧eB n bU aA≤aA:=by unfold eB;omega
def yz{b:gv}(h:hU b)(H:aa):ct 60 [.agg [b.w,b.h,b.cz,b.b8,b.c4]] H (↑(0:Int)):=cu (by
 obtain⟨⟨j,J⟩,⟨aw,bb⟩,bu,dw,gx⟩:=h;refine bw adv ?_;simp(disch:=omega)only[au,simprocAttr,aEN];exact⟨_,rfl⟩)
def ty(a b c:Int)(H:aa):ct 118 [a,b,c] H (↑(eB a b c)):=cu (by
 refine bw adY ?_;simp(disch:=omega)only[au,simprocAttr,aFa];exact⟨_,rfl⟩)
def gk(c:fO)(b:gv):fO:=⟨eB c.r 0 (b.h-1),eB c.c 0 (b.w-1),c.p⟩
def DC(c:fO){b:gv}(h:hU b)(H:aa):ct 61 [.agg [c.r,c.c,c.p],.agg [b.w,b.h,b.cz,b.b8,b.c4]] H (.agg [↑((gk c b).r),↑((gk c b).c),c.p]):=cu (by
 obtain⟨⟨j,J⟩,⟨aw,bb⟩,bu,dw,gx⟩:=h;have ao:=λ H=>ty c.r 0 (b.h-1) H
 have aI:=λ H=>ty c.c 0 (b.w-1) H
 refine bw adw ?_;simp(disch:=omega)only[au,simprocAttr,aEO,ao,aI];exact⟨_,rfl⟩)
def GW(r:Int)(b:gv):Bool:=decide (b.cz≤r) &&decide (r<b.b8)
def aIJ(r:Int)(b:gv)(H:aa):ct 205 [r,.agg [b.w,b.h,b.cz,b.b8,b.c4]] H (↑(GW r b)):=cu (by
 unfold GW;by_cases j:b.cz≤r<;>by_cases J:r<b.b8<;>simp only[j,J,decide_true,decide_false,Ah,yb,jQ,ly]<;>(
 refine bw aeJ ?_;simp(disch:=omega)only[au,simprocAttr,aFS,j,J];exact⟨_,rfl⟩))
def aIK(x y z:aD):∃L,b4 E 200 [.ptr 0 0 0 0,.aR (.func 118) [] []] [.box [.i x,.i y,.i z]]=some (.be [],.box [.i x,.i y,.i z]::L):=by rw[bp aeG];simp(disch:=omega)only[au,simprocAttr,aFP];exact⟨_,rfl⟩
def aIL(x y z:aD)(A B C:Chunk):ct 200 [.ptr 3 0 0 0,.aR (.func 118) [] []] [A,B,C,.box [.i x,.i y,.i z]] (.be []):=by obtain⟨L,h⟩:=aIK x y z;unfold ct dj;simp[e0,axF,bz,bd,reach,Chunk.refs,cB,co,bt,Chunk.cL,h,dm,ef]
def aIM(x y z:aD):∃L,b4 E 142 [.ptr 0 0 0 0,.aR (.func 118) [] []] [.box [.i x,.i y,.i z]]=some (.be [],.box [.i x,.i y,.i z]::L):=by rw[bp ad9];simp(disch:=omega)only[au,simprocAttr,aFi];exact⟨_,rfl⟩
def aIN(x y z:aD)(A B C:Chunk):ct 142 [.ptr 3 0 0 0,.aR (.func 118) [] []] [A,B,C,.box [.i x,.i y,.i z]] (.be []):=by obtain⟨L,h⟩:=aIM x y z;unfold ct dj;simp[e0,axD,bz,bd,reach,Chunk.refs,cB,co,bt,Chunk.cL,h,dm,ef]
def aIO(c:fO){b:gv}(h:hU b)(H:aa):ct 141 [.agg [c.r,c.c,c.p],.agg [b.w,b.h,b.cz,b.b8,b.c4],.aR (.func 200) [] []] H (.agg [↑((gk c b).r),↑((gk c b).c),false]):=cu (by
 have ao:=λ H=>yz h H
 have aI:=λ H=>DC c h H
 refine bw C3 ?_;simp(disch:=omega)only[au,simprocAttr,Gr,aCN,ao,aI,aIL];exact⟨_,rfl⟩)
def aIP(c:fO){b:gv}(h:hU b)(H:aa):ct 141 [.agg [c.r,c.c,c.p],.agg [b.w,b.h,b.cz,b.b8,b.c4],.aR (.func 142) [] []] H (.agg [↑((gk c b).r),↑((gk c b).c),false]):=cu (by
 have ao:=λ H=>yz h H
 have aI:=λ H=>DC c h H
 refine bw C3 ?_;simp(disch:=omega)only[au,simprocAttr,Gr,aCd,ao,aI,aIN];exact⟨_,rfl⟩)
def DD(r:Int)(b:gv):Int:=if GW r b=true then b.cz else 0
def DE(r:Int)(b:gv):Int:=if GW r b=true then b.b8-1 else b.h-1
def wB(r n:Int)(b:gv):Int:=eB (r-eB n (-1000) 1000) (DD r b) (DE r b)
def aIQ(r c n:Int){b:gv}(h:hU b)(ai:0≤r∧r<b.h):∃L,b4 E 204 [.ptr 0 0 0 0,.aR (.func 118) [] [],.ptr 1 0 0 0,.ptr 2 0 0 0] [.box [.i (.v (.int .i64 (r))),.i (.v (.int .i64 (c))),.i (.v (.bool (false)))],.box [.i (.v (.int .i64 (b).w)),.i (.v (.int .i64 (b).h)),.i (.v (.int .i64 (b).cz)),.i (.v (.int .i64 (b).b8)),.i (.v (.bool (b).c4))],.box [.i (.v (.int .i64 (n)))]]=some (.be [],.box [.i (.v (.int .i64 (wB r n b))),.i (.v (.int .i64 (c))),.i (.v (.bool (false)))]::.box [.i (.v (.int .i64 (b).w)),.i (.v (.int .i64 (b).h)),.i (.v (.int .i64 (b).cz)),.i (.v (.int .i64 (b).b8)),.i (.v (.bool (b).c4))]::.box [.i (.v (.int .i64 (n)))]::L):=by
 obtain⟨⟨j,J⟩,⟨aw,bb⟩,bu,dw,gx⟩:=h;have ao:=λ H=>aIJ r b H
 have aI:=λ H=>ty n (-1000) 1000 H
 have bE:=λ H=>ty (r-eB n (-1000) 1000) (DD r b) (DE r b) H
 have c6:=pU (n:=n) (show(-1000:Int)≤1000 by decide);unfold wB;unfold DD DE at*;generalize eB n (-1000) 1000=q at*;cases aP:GW r b<;>simp only[aP,if_true,if_false,fK]at ao bE⊢<;>(
 rw[bp aeI];simp(disch:=omega)only[au,simprocAttr,aFR,Kj,ao,aI,bE];exact⟨_,rfl⟩)
def aIR(r c n:Int){b:gv}(h:hU b)(ai:0≤r∧r<b.h)(A B C:Chunk):
  cn 204 [.ptr 5 0 0 0,.aR (.func 118) [] [],.ptr 0 0 0 0,.ptr 1 0 0 0] [.box [b.w,b.h,b.cz,b.b8,b.c4],.box [n],A,B,C,.box [r,c,false]] (.be []) [.box [b.w,b.h,b.cz,b.b8,b.c4],.box [n],A,B,C,.box [↑(wB r n b),c,false]]:=by
 obtain⟨L,h⟩:=aIQ r c n h ai;unfold cn dj;simp[e0,axI,bz,bd,reach,Chunk.refs,cB,co,bt,Chunk.cL,h,dm,ef]
def yA(c:fO){b:gv}(h:hU b):(0≤(gk c b).r∧(gk c b).r<b.h)∧0≤(gk c b).c∧(gk c b).c<b.w:=by obtain⟨⟨j,J⟩,⟨aw,bb⟩,_⟩:=h;have ao:=pU (n:=c.r) (show 0≤b.h-1 by omega);have aI:=pU (n:=c.c) (show 0≤b.w-1 by omega);simp only[gk];omega
def aIS(c:fO)(n:Int){b:gv}(h:hU b):∃L,b4 E 141 [.agg [.i (.v (.int .i64 (c.r))),.i (.v (.int .i64 (c.c))),.i (.v (.bool (c.p)))],.agg [.i (.v (.int .i64 (b).w)),.i (.v (.int .i64 (b).h)),.i (.v (.int .i64 (b).cz)),.i (.v (.int .i64 (b).b8)),.i (.v (.bool (b).c4))],.aR (.func 204) [] [.ptr 0 0 0 0,.ptr 1 0 0 0]] [.box [.i (.v (.int .i64 (b).w)),.i (.v (.int .i64 (b).h)),.i (.v (.int .i64 (b).cz)),.i (.v (.int .i64 (b).b8)),.i (.v (.bool (b).c4))],.box [.i (.v (.int .i64 (n)))]]=
  some (.agg [.i (.v (.int .i64 (wB (gk c b).r n b))),.i (.v (.int .i64 ((gk c b).c))),.i (.v (.bool (false)))],.box [.i (.v (.int .i64 (b).w)),.i (.v (.int .i64 (b).h)),.i (.v (.int .i64 (b).cz)),.i (.v (.int .i64 (b).b8)),.i (.v (.bool (b).c4))]::.box [.i (.v (.int .i64 (n)))]::L):=by
 have ao:=λ H=>yz h H
 have aI:=λ H=>DC c h H
 have bE:=λ A B C=>aIR (gk c b).r (gk c b).c n h (yA c h).1 A B C
 rw[bp C3];simp(disch:=omega)only[au,simprocAttr,Gr,ac8,ao,aI,bE];exact⟨_,rfl⟩
def aIT(c:fO)(n:Int){b:gv}(h:hU b)(A C:Chunk):
  ct 141 [.agg [c.r,c.c,c.p],.agg [b.w,b.h,b.cz,b.b8,b.c4],.aR (.func 204) [] [.ptr 2 0 0 0,.ptr 1 0 0 0]] [A,.box [n],.box [b.w,b.h,b.cz,b.b8,b.c4],C] (.agg [↑(wB (gk c b).r n b),↑((gk c b).c),false]):=by
 obtain⟨L,h⟩:=aIS c n h;unfold ct dj;simp[e0,PO,bz,bd,reach,Chunk.refs,cB,co,bt,Chunk.cL,h,dm,ef]
def iB(c:fO)(n:Int)(b:gv):fO:=⟨wB (gk c b).r n b,(gk c b).c,false⟩
def RB(c:fO)(n:Int){b:gv}(h:hU b)(H:aa):ct 143 [.agg [c.r,c.c,c.p],n,.agg [b.w,b.h,b.cz,b.b8,b.c4]] H (.agg [↑((iB c n b).r),↑((iB c n b).c),↑((iB c n b).p)]):=cu (by
 have ao:=λ A C=>aIT c n h A C
 refine bw ad_ ?_;simp(disch:=omega)only[au,simprocAttr,aFj,ao];exact⟨_,rfl⟩)
def wC(c n:Int)(b:gv):Int:=eB (c+eB n (-1000) 1000) 0 (b.w-1)
def aIU(r c n:Int){b:gv}(h:hU b)(ah:0≤c∧c<b.w):∃L,b4 E 203 [.ptr 0 0 0 0,.aR (.func 118) [] [],.ptr 1 0 0 0,.ptr 2 0 0 0] [.box [.i (.v (.int .i64 (r))),.i (.v (.int .i64 (c))),.i (.v (.bool (false)))],.box [.i (.v (.int .i64 (n)))],.box [.i (.v (.int .i64 (b).w)),.i (.v (.int .i64 (b).h)),.i (.v (.int .i64 (b).cz)),.i (.v (.int .i64 (b).b8)),.i (.v (.bool (b).c4))]]=some (.be [],.box [.i (.v (.int .i64 (r))),.i (.v (.int .i64 (wC c n b))),.i (.v (.bool (false)))]::.box [.i (.v (.int .i64 (n)))]::.box [.i (.v (.int .i64 (b).w)),.i (.v (.int .i64 (b).h)),.i (.v (.int .i64 (b).cz)),.i (.v (.int .i64 (b).b8)),.i (.v (.bool (b).c4))]::L):=by
 obtain⟨⟨j,J⟩,⟨aw,bb⟩,bu,dw,gx⟩:=h;have aI:=λ H=>ty n (-1000) 1000 H
 have bE:=λ H=>ty (c+eB n (-1000) 1000) 0 (b.w-1) H
 have c6:=pU (n:=n) (show(-1000:Int)≤1000 by decide);unfold wC;generalize eB n (-1000) 1000=q at*;rw[bp aeH];simp(disch:=omega)only[au,simprocAttr,aFQ,Kj,aI,bE];exact⟨_,rfl⟩
def aIV(r c n:Int){b:gv}(h:hU b)(ah:0≤c∧c<b.w)(A B C:Chunk):
  cn 203 [.ptr 5 0 0 0,.aR (.func 118) [] [],.ptr 0 0 0 0,.ptr 1 0 0 0] [.box [n],.box [b.w,b.h,b.cz,b.b8,b.c4],A,B,C,.box [r,c,false]] (.be []) [.box [n],.box [b.w,b.h,b.cz,b.b8,b.c4],A,B,C,.box [r,↑(wC c n b),false]]:=by
 obtain⟨L,h⟩:=aIU r c n h ah;unfold cn dj;simp[e0,axH,bz,bd,reach,Chunk.refs,cB,co,bt,Chunk.cL,h,dm,ef]
def aIW(c:fO)(n:Int){b:gv}(h:hU b):∃L,b4 E 141 [.agg [.i (.v (.int .i64 (c.r))),.i (.v (.int .i64 (c.c))),.i (.v (.bool (c.p)))],.agg [.i (.v (.int .i64 (b).w)),.i (.v (.int .i64 (b).h)),.i (.v (.int .i64 (b).cz)),.i (.v (.int .i64 (b).b8)),.i (.v (.bool (b).c4))],.aR (.func 203) [] [.ptr 0 0 0 0,.ptr 1 0 0 0]] [.box [.i (.v (.int .i64 (n)))],.box [.i (.v (.int .i64 (b).w)),.i (.v (.int .i64 (b).h)),.i (.v (.int .i64 (b).cz)),.i (.v (.int .i64 (b).b8)),.i (.v (.bool (b).c4))]]=
  some (.agg [.i (.v (.int .i64 ((gk c b).r))),.i (.v (.int .i64 (wC (gk c b).c n b))),.i (.v (.bool (false)))],.box [.i (.v (.int .i64 (n)))]::.box [.i (.v (.int .i64 (b).w)),.i (.v (.int .i64 (b).h)),.i (.v (.int .i64 (b).cz)),.i (.v (.int .i64 (b).b8)),.i (.v (.bool (b).c4))]::L):=by
 have ao:=λ H=>yz h H
 have aI:=λ H=>DC c h H
 have bE:=λ A B C=>aIV (gk c b).r (gk c b).c n h (yA c h).2 A B C
 rw[bp C3];simp(disch:=omega)only[au,simprocAttr,Gr,ac7,ao,aI,bE];exact⟨_,rfl⟩
def aIX(c:fO)(n:Int){b:gv}(h:hU b)(A C:Chunk):
  ct 141 [.agg [c.r,c.c,c.p],.agg [b.w,b.h,b.cz,b.b8,b.c4],.aR (.func 203) [] [.ptr 1 0 0 0,.ptr 2 0 0 0]] [A,.box [n],.box [b.w,b.h,b.cz,b.b8,b.c4],C] (.agg [↑((gk c b).r),↑(wC (gk c b).c n b),false]):=by
 obtain⟨L,h⟩:=aIW c n h;unfold ct dj;simp[e0,PO,bz,bd,reach,Chunk.refs,cB,co,bt,Chunk.cL,h,dm,ef]
def ni(c:fO)(n:Int)(b:gv):fO:=⟨(gk c b).r,wC (gk c b).c n b,false⟩
def aIY(c:fO)(n:Int){b:gv}(h:hU b)(H:aa):ct 140 [.agg [c.r,c.c,c.p],n,.agg [b.w,b.h,b.cz,b.b8,b.c4]] H (.agg [↑((ni c n b).r),↑((ni c n b).c),↑((ni c n b).p)]):=cu (by
 have ao:=λ A C=>aIX c n h A C
 refine bw ad8 ?_;simp(disch:=omega)only[au,simprocAttr,aFh,ao];exact⟨_,rfl⟩)
def toR(row:Int)(b:gv):Int:=if b.c4=true then eB (b.cz+(eB row 1 1000-1)) b.cz (b.b8-1)else eB (eB row 1 1000-1) 0 (b.h-1)
def k9(bc:Int)(b:gv):Int:=eB (eB bc 1 1000-1) 0 (b.w-1)
def aIZ(r c row bc:Int)(p:Bool){b:gv}(h:hU b):∃L,b4 E 223 [.ptr 0 0 0 0,.aR (.func 118) [] [],.ptr 1 0 0 0,.ptr 2 0 0 0,.ptr 3 0 0 0] [.box [.i (.v (.int .i64 (r))),.i (.v (.int .i64 (c))),.i (.v (.bool (p)))],.box [.i (.v (.int .i64 (row)))],.box [.i (.v (.int .i64 (bc)))],.box [.i (.v (.int .i64 (b).w)),.i (.v (.int .i64 (b).h)),.i (.v (.int .i64 (b).cz)),.i (.v (.int .i64 (b).b8)),.i (.v (.bool (b).c4))]]=some (.be [],.box [.i (.v (.int .i64 (toR row b))),.i (.v (.int .i64 (k9 bc b))),.i (.v (.bool (p)))]::.box [.i (.v (.int .i64 (row)))]::.box [.i (.v (.int .i64 (bc)))]::.box [.i (.v (.int .i64 (b).w)),.i (.v (.int .i64 (b).h)),.i (.v (.int .i64 (b).cz)),.i (.v (.int .i64 (b).b8)),.i (.v (.bool (b).c4))]::L):=by
 obtain⟨⟨j,J⟩,⟨aw,bb⟩,bu,dw,gx⟩:=h;have ao:=λ H=>ty row 1 1000 H
 have aI:=λ H=>ty bc 1 1000 H
 have bE:=λ H=>ty (eB bc 1 1000-1) 0 (b.w-1) H
 have c6:=λ H=>ty (eB row 1 1000-1) 0 (b.h-1) H
 have lq:=λ H=>ty (b.cz+(eB row 1 1000-1)) b.cz (b.b8-1) H
 have Cl:=pU (n:=row) (show(1:Int)≤1000 by decide);have RC:=pU (n:=bc) (show(1:Int)≤1000 by decide);unfold toR k9;generalize eB row 1 1000=q at*;generalize eB bc 1 1000=cw at*;cases aP:b.c4<;>simp only[if_true,if_false,fK]<;>(
 rw[bp aeT];simp(disch:=omega)only[au,simprocAttr,aF1,Kj,ao,aI,bE,c6,lq,aP];exact⟨_,rfl⟩)
def aI0(r c row bc:Int)(p:Bool){b:gv}(h:hU b)(A B C:Chunk):
  cn 223 [.ptr 6 0 0 0,.aR (.func 118) [] [],.ptr 0 0 0 0,.ptr 1 0 0 0,.ptr 2 0 0 0] [.box [row],.box [bc],.box [b.w,b.h,b.cz,b.b8,b.c4],A,B,C,.box [r,c,p]] (.be []) [.box [row],.box [bc],.box [b.w,b.h,b.cz,b.b8,b.c4],A,B,C,.box [↑(toR row b),↑(k9 bc b),p]]:=by
 obtain⟨L,h⟩:=aIZ r c row bc p h;unfold cn dj;simp[e0,axL,bz,bd,reach,Chunk.refs,cB,co,bt,Chunk.cL,h,dm,ef]
def aI1(c:fO)(row bc:Int){b:gv}(h:hU b):∃L,b4 E 141 [.agg [.i (.v (.int .i64 (c.r))),.i (.v (.int .i64 (c.c))),.i (.v (.bool (c.p)))],.agg [.i (.v (.int .i64 (b).w)),.i (.v (.int .i64 (b).h)),.i (.v (.int .i64 (b).cz)),.i (.v (.int .i64 (b).b8)),.i (.v (.bool (b).c4))],.aR (.func 223) [] [.ptr 0 0 0 0,.ptr 1 0 0 0,.ptr 2 0 0 0]] [.box [.i (.v (.int .i64 (row)))],.box [.i (.v (.int .i64 (bc)))],.box [.i (.v (.int .i64 (b).w)),.i (.v (.int .i64 (b).h)),.i (.v (.int .i64 (b).cz)),.i (.v (.int .i64 (b).b8)),.i (.v (.bool (b).c4))]]=
  some (.agg [.i (.v (.int .i64 (toR row b))),.i (.v (.int .i64 (k9 bc b))),.i (.v (.bool (false)))],.box [.i (.v (.int .i64 (row)))]::.box [.i (.v (.int .i64 (bc)))]::.box [.i (.v (.int .i64 (b).w)),.i (.v (.int .i64 (b).h)),.i (.v (.int .i64 (b).cz)),.i (.v (.int .i64 (b).b8)),.i (.v (.bool (b).c4))]::L):=by
 have ao:=λ H=>yz h H
 have aI:=λ H=>DC c h H
 have bE:=λ A B C=>aI0 (gk c b).r (gk c b).c row bc false h A B C
 rw[bp C3];simp(disch:=omega)only[au,simprocAttr,Gr,ac',ao,aI,bE];exact⟨_,rfl⟩
def aI2(c:fO)(row bc:Int){b:gv}(h:hU b)(A C:Chunk):
  ct 141 [.agg [c.r,c.c,c.p],.agg [b.w,b.h,b.cz,b.b8,b.c4],.aR (.func 223) [] [.ptr 1 0 0 0,.ptr 2 0 0 0,.ptr 3 0 0 0]] [A,.box [row],.box [bc],.box [b.w,b.h,b.cz,b.b8,b.c4],C] (.agg [↑(toR row b),↑(k9 bc b),false]):=by
 obtain⟨L,h⟩:=aI1 c row bc h;unfold ct dj;simp[e0,PO,bz,bd,reach,Chunk.refs,cB,co,bt,Chunk.cL,h,dm,ef]
def aI3(c:fO)(row bc:Int){b:gv}(h:hU b)(H:aa):ct 210 [.agg [c.r,c.c,c.p],row,bc,.agg [b.w,b.h,b.cz,b.b8,b.c4]] H (.agg [↑(toR row b),↑(k9 bc b),false]):=cu (by
 have ao:=λ A C=>aI2 c row bc h A C
 refine bw aeM ?_;simp(disch:=omega)only[au,simprocAttr,aFV,ao];exact⟨_,rfl⟩)
def uR(c:fO)(b:gv):fO:=⟨(gk c b).r,(gk c b).c,c.p &&decide ((gk c b).c=b.w-1)⟩
def RD(c:fO){b:gv}(h:hU b)(H:aa):ct 26 [.agg [c.r,c.c,c.p],.agg [b.w,b.h,b.cz,b.b8,b.c4]] H (.agg [↑((uR c b).r),↑((uR c b).c),↑((uR c b).p)]):=cu (by
 have ao:=λ H=>yz h H
 have aI:=λ H=>DC c h H
 have bE:=yA c h;obtain⟨⟨j,J⟩,⟨aw,bb⟩,bu,dw,gx⟩:=h;unfold uR;cases av:c.p<;>by_cases bn:(gk c b).c=b.w-1<;>simp only[bn,decide_true,decide_false,jQ,ly]<;>rw[av]at aI<;>(
 refine bw adk ?_;simp(disch:=omega)only[au,simprocAttr,aED,ao,aI,bn];exact⟨_,rfl⟩))
def agj(a b:fO):j1 Tryz.prog .eql 30 (.agg [.i (.v (.int .i64 (a.r))),.i (.v (.int .i64 (a.c))),.i (.v (.bool (a.p)))]) (.agg [.i (.v (.int .i64 (b.r))),.i (.v (.int .i64 (b.c))),.i (.v (.bool (b.p)))])=some (.i (.v (.bool (decide (a=b))))):=by rw[Xk];unfold i6;simp only;rw[if_neg (by simp only[ye];decide)];simp only[yc,yd];obtain⟨r,c,p⟩:=a;obtain⟨ht,cp,lj⟩:=b;by_cases j:r=ht<;>by_cases J:c=cp<;>by_cases aw:p=lj<;>simp[oA,pg,oz,qP,U.bool,j,J,aw]
def jw(c:fO)(b:gv):fO:=⟨(gk c b).r,(gk c b).c,false⟩
def o8(c:fO)(b:gv):fO×Bool:=if iB (jw c b) (-1) b=jw c b∧(jw c b).r=b.b8-1 then(jw c b,true)else(iB (jw c b) (-1) b,false)
def rQ(c:fO)(b:gv):fO×Bool:=if iB (jw c b) 1 b=jw c b∧(jw c b).r=b.cz then(jw c b,true)else(iB (jw c b) 1 b,false)
def aI4(c:fO){b:gv}(h:hU b)(H:aa):ct 135 [.agg [c.r,c.c,c.p],.agg [b.w,b.h,b.cz,b.b8,b.c4]] H (.be [.agg [↑((o8 c b).1.r),↑((o8 c b).1.c),↑((o8 c b).1.p)],.i (.v (.int .i64 (if(o8 c b).2=true then 1 else 0)))]):=cu (by
 have ao:=λ H=>aIO c h H
 have aI:=λ H=>RB (jw c b) (-1) h H
 have bE:=agj (iB (jw c b) (-1) b) (jw c b);have c6:=λ H=>yz h H
 have lq:=(yA c h).1;rw[show(gk c b).r=(jw c b).r from rfl]at ao lq;rw[show(gk c b).c=(jw c b).c from rfl,show false=(jw c b).p from rfl]at ao;unfold o8;obtain⟨⟨j,J⟩,⟨aw,bb⟩,bu,dw,gx⟩:=h;generalize jw c b=aj at*;generalize iB aj (-1) b=ue at*;by_cases bn:ue=aj
 ·simp only[bn,decide_true,true_and]at aI bE⊢;by_cases ai:aj.r=b.b8-1
  ·simp only[ai,if_true];simp only[ai]at ao aI bE;refine bw KE ?_;simp(disch:=omega)only[au,simprocAttr,Qr,ao,aI,bE,c6];exact⟨_,rfl⟩
  ·simp only[ai,if_false,fK];refine bw KE ?_;simp(disch:=omega)only[au,simprocAttr,Qr,ao,aI,bE,c6,ai];exact⟨_,rfl⟩
 ·simp only[bn,decide_false,false_and,if_false,fK]at bE⊢;refine bw KE ?_;simp(disch:=omega)only[au,simprocAttr,Qr,ao,aI,bE,c6];exact⟨_,rfl⟩)
def aI5(c:fO){b:gv}(h:hU b)(H:aa):ct 105 [.agg [c.r,c.c,c.p],.agg [b.w,b.h,b.cz,b.b8,b.c4]] H (.be [.agg [↑((rQ c b).1.r),↑((rQ c b).1.c),↑((rQ c b).1.p)],.i (.v (.int .i64 (if(rQ c b).2=true then 1 else 0)))]):=cu (by
 have ao:=λ H=>aIP c h H
 have aI:=λ H=>RB (jw c b) 1 h H
 have bE:=agj (iB (jw c b) 1 b) (jw c b);have c6:=λ H=>yz h H
 rw[show(gk c b).r=(jw c b).r from rfl,show(gk c b).c=(jw c b).c from rfl,show false=(jw c b).p from rfl]at ao;unfold rQ;generalize jw c b=aj at*;generalize iB aj 1 b=ue at*;by_cases bn:ue=aj
 ·simp only[bn,decide_true,true_and]at aI bE⊢;by_cases ai:aj.r=b.cz
  ·simp only[ai,if_true];simp only[ai]at ao aI bE;refine bw KA ?_;simp(disch:=omega)only[au,simprocAttr,Qm,ao,aI,bE,c6];exact⟨_,rfl⟩
  ·simp only[ai,if_false,fK];refine bw KA ?_;simp(disch:=omega)only[au,simprocAttr,Qm,ao,aI,bE,c6,ai];exact⟨_,rfl⟩
 ·simp only[bn,decide_false,false_and,if_false,fK]at bE⊢;refine bw KA ?_;simp(disch:=omega)only[au,simprocAttr,Qm,ao,aI,bE,c6];exact⟨_,rfl⟩)
def dl(l:List Bool):List (List aD):=l.map λ b=>[.v (.bool b)]
def kF(l:List Bool):(dl l).length=l.length:=by simp[dl]
def LF{l:List Bool}{k:Nat}(h:k<l.length):(dl l)[k]?=some [.v (.bool l[k])]:=by simp[dl,h]
def agk(l:List Bool)(k:Nat)(b:Bool):(dl l).set k [.v (.bool b)]=dl (l.set k b):=by simp[dl,uM]
def wD:List Bool→Nat→Int→Option Nat
 |[],_,_=>none
 |b::r,k,bc=>if bc<k∧b=true then some k else wD r (k+1) bc
def ou(l:List Bool)(bc:Int):Int:=match wD l 0 bc with
 |some k=>k
 |none=>max 0 ((l.length:Int)-1)
def agl:∀{l:List Bool} {k:Nat} {bc:Int} {i:Nat},wD l k bc=some i→i<k+l.length
 |b::r,k,bc,i,h=>by
  simp only[wD]at h;split at h
  ·cases h;simp
  ·have:=agl h;simp only[cT];omega
def aI6(l:List Bool)(bc:Int)(an:l.length≤1000):∀m k,k+m=l.length→
  d_ E 0 100 (e4 Tryz.f100 0) [(0,.i (.ae 1 (dl l) false)),(1,.i (.v (.int .i64 (bc)))),(7,.i (.v (.int .i64 (l.length)))),(8,.i (.v (.int .i64 (k))))] []=(match wD (l.drop k) k bc with
   |some i=>some (.ret,[(4,.i (.v (.int .i64 (i))))],[])
   |none=>some (.exit 0,[(0,.i (.ae 1 (dl l) false)),(1,.i (.v (.int .i64 (bc)))),(7,.i (.v (.int .i64 (l.length)))),(8,.i (.v (.int .i64 (l.length)))),(9,.i (.v (.bool (false))))],[])):=by
 intro m;induction m with
 |zero=>intro k az;obtain rfl:k=l.length:=R;rw[nd];simp only[wD];rw[cF Ar 0];simp(disch:=omega)only[au,simprocAttr,Gj,eN,kF,Gy]
 |succ m a8=>
  intro k az;have bf:k<l.length:=R;have bZ:=LF bf;have e:=a8 (k+1) R;rw[ji bf];simp only[wD];by_cases j:bc<k
  ·cases ak:l[k]with
   |true=>rw[ak]at bZ;simp only[j,and_self,if_true];clear e a8;rw[cF Ar 0];simp(disch:=omega)only[au,simprocAttr,Gj,eN,bZ,j,kF,Gy]
   |false=>rw[ak]at bZ;simp only[fK,and_false,if_false];refine fZ ?_ e;clear e a8;rw[cF Ar 0];simp(disch:=omega)only[au,simprocAttr,Gj,eN,bZ,j,kF,Gy]
  ·simp only[j,false_and,if_false];refine fZ ?_ e;clear e a8;rw[cF Ar 0];simp(disch:=omega)only[au,simprocAttr,Gj,eN,bZ,j,kF,Gy]
def agm(l:List Bool)(bc:Int)(an:l.length≤1000)(H:aa):ct 100 [.i (.ae 1 (dl l) false),bc] H (↑(ou l bc)):=cu (by
 have h:=aI6 l bc an l.length 0 R;rw[iy]at h;simp only[gZ]at h;unfold ou;cases aF:wD l 0 bc<;>rw[aF]at h<;>simp only at h⊢<;>(
 refine bw Ar ?_;simp(disch:=omega)only[au,simprocAttr,Gj,eN,h,kF,Gy];exact⟨_,rfl⟩))
def rR(l:List Bool):Nat→Int
 |0=>0
 |n+1=>if l.getD n false=true then n else rR l n
def agn(l:List Bool):∀n:Nat,0≤rR l n∧rR l n≤n
 |0=>by simp[rR]
 |n+1=>by have:=agn l n;simp only[rR];split<;>omega
def aI7(l:List Bool)(an:l.length≤1000)(n:Nat)(aF:n≤l.length):∀m k,k+m=n→
  hT C9 0 [(0,.i (.ae 1 (dl l) false)),(5,↑(rR l k)),(11,n),(12,k)] [] 0 [(0,.i (.ae 1 (dl l) false)),(5,↑(rR l n)),(11,n),(12,n),(13,false)] []:=by
 intro m;induction m with
 |zero=>intro k az;obtain rfl:k=n:=R;generalize rR l k=x at*;refine(cF C9 0).trans ?_;simp(disch:=omega)only[au,simprocAttr,Qx,eN,kF,QR]
 |succ m a8=>
  intro k az;have bf:k<l.length:=R;have Tv:k<n:=R;have bZ:=LF bf;have e:=a8 (k+1) R;simp only[rR]at e;have aM:l.getD k false=l[k]:=by simp[bf]
  rw[aM]at e;refine fZ ?_ e;clear e a8;generalize rR l k=x at*;cases ak:l[k]<;>rw[ak]at bZ<;>simp only[if_true,if_false,fK]<;>(
  refine(cF C9 0).trans ?_;simp(disch:=omega)only[au,simprocAttr,Qx,eN,bZ,kF,QR])
def qH(l:List Bool)(bc:Int):Int:=rR l (min l.length (max bc 0).toNat)
def aI8(l:List Bool)(bc:Int)(an:l.length≤1000)(H:aa):ct 174 [.i (.ae 1 (dl l) false),bc] H (↑(qH l bc)):=cu (by
 have h:=aI7 l an (min l.length (max bc 0).toNat) R (min l.length (max bc 0).toNat) 0 R;have hm:min (l.length:Int) (max bc 0)=((min l.length (max bc 0).toNat:Nat):Int):=R;rw[show rR l 0=0 from rfl]at h;simp only[gZ]at h;unfold qH;generalize min l.length (max bc 0).toNat=n at*;generalize rR l n=x at*;refine bw C9 ?_;simp(disch:=omega)only[au,simprocAttr,Qx,eN,h,hm,kF,QR];exact⟨_,rfl⟩)
def aI9(rows:List (List aD))(h:rows.length≤1000000000)(H:aa):dj E (b4 E) 46 [.i (.ae 1 rows false)] H=some (.ref H.length 0 0 rows.length,H++[.ae 1 0 rows false]):=by rw[F3 (show E.ext 46=some (l8 1)from rfl)];exact vZ (E:={E with ext:=λ _=>none}) (c:=0) (x:=.ae 1 0 rows false) rfl rfl rfl ⟨[.ae 1 0 rows false],by simp[l8,h],rfl⟩
def ago(l:List Bool)(bc:Nat)(ah:bc<l.length)(an:l.length≤1000)(on:Bool)(H:aa):ct 108 [.i (.ae 1 (dl l) false),bc,on] H (.i (.ae 1 (dl (l.set bc on)) false)):=cu (by
 have cg:=λ h H=>aI9 (dl l) h H
 rw[kF]at cg;have bZ:=LF ah;have jd:=agk l bc on;have hx:=kF (l.set bc on);rw[jI]at hx;generalize dl (l.set bc on)=y at*;refine bw adS ?_;simp(disch:=omega)only[au,simprocAttr,aE7,eN,cg,bZ,jd,kF];exact⟨_,rfl⟩)
def iW(w k:Nat):List Bool:=(hg w).map λ i=>decide (i<k) &&decide (i%8=0)
def wE(w k:Nat):(iW w k).length=w:=by simp[iW]
def aI_(w:Nat):cy w [aD.v (.bool false)]=dl (iW w 0):=by
 apply Fh;intro i;by_cases h:i<w
 ·rw[Ni,if_pos h];simp[dl,iW,h]
 ·rw[Ni,if_neg h];simp[dl,iW,h]
def aI'{w k:Nat}(h:k<w):(dl (iW w k)).set k [.v (.bool (decide (k%8=0)))]=dl (iW w (k+1)):=by
 rw[agk]
 congr 1
 apply Fh;intro i;by_cases aA:i=k
 ·subst aA;rw[ks (by rw[wE];exact h)];simp[iW,h]
 ·rw[dC (ba aA)];by_cases hw:i<w
  ·have:decide (i<k)=decide (i<k+1):=by by_cases j:i<k<;>simp[j]<;>omega
   simp[iW,hw,this]
  ·simp[iW,hw]
def aJa(w:Nat)(hw:w≤132):∀(m k:Nat),k+m=w→
  hT CN 0 [(3,.ref 0 0 0 w),(10,w),(11,k)] [.ae 1 0 (dl (iW w k)) false] 0 [(3,.ref 0 0 0 w),(10,w),(11,w),(12,false)] [.ae 1 0 (dl (iW w w)) false]:=by
 intro m;induction m with
 |zero=>
  intro k az;obtain rfl:k=w:=R;have an:(dl (iW k k)).length=k:=by rw[kF,wE]
  generalize dl (iW k k)=x at*;refine(cF CN 0).trans ?_;simp(disch:=omega)only[au,simprocAttr,Qd,eN,QI]
 |succ m a8=>
  intro k az;have fY:k<w:=R;have e:=a8 (k+1) R;have aB:=LF (l:=iW w k) (k:=k) (by rw[wE];exact fY);have aS:=aI' fY;have an:(dl (iW w k)).length=w:=by rw[kF,wE]
  have hm:Int.tmod (k:Int) 8=((k%8:Nat):Int):=by rw[LG R];omega
  have aM:decide (((k%8:Nat):Int)=0)=decide (k%8=0):=by by_cases h:k%8=0<;>simp[h]<;>omega
  refine fZ ?_ e;clear e a8;generalize dl (iW w (k+1))=y at*;generalize dl (iW w k)=x at*;generalize k%8=q at*;refine(cF CN 0).trans ?_;simp(disch:=omega)only[au,simprocAttr,Qd,eN,aB,aS,an,hm,aM,QI]
def agp(w:Nat)(hw:w≤132)(H:aa):cn 18 [w] H (.ref H.length 0 0 w) (H++[.ae 1 0 (dl (iW w w)) false]):=vZ (c:=0) rfl rfl rfl (by
 have h:=aJa w hw w 0 R;simp only[gZ]at h;have an:(dl (iW w w)).length=w:=by rw[kF,wE]
 have aV:=aI_ w;generalize dl (iW w w)=y at*;generalize dl (iW w 0)=x at*;have ao:min (w:Int) 1000=w:=R;have aI:max (0:Int) w=w:=R;rw[nI Tryz.func18 rfl CN.1];simp(disch:=omega)only[au,simprocAttr,Qd,eN,h,aV,an,ao,aI,QI];exact⟨_,rfl,by rfl⟩)
def wF(l:List Bool)(w:Nat):List Bool:=l.take w++(iW w w).drop (min l.length w)
def agq(l:List Bool)(w:Nat):(wF l w).length=w:=by rw[wF,dd,gE,ic,wE];omega
def aJb(l:List Bool)(an:l.length≤1000)(w:Nat)(hw:w≤132)(H:aa):ct 27 [.i (.ae 1 (dl l) false),w] H (.i (.ae 1 (dl (wF l w)) false)):=cu (by
 have ao:=λ H=>agp w hw H
 have hl:(dl (iW w w)).length=w:=by rw[kF,wE]
 have al:(dl l).take w++(dl (iW w w)).drop (min l.length w)=dl (wF l w):=by simp[dl,wF,uN,rK]
 have aZ:(dl (wF l w)).length=w:=by rw[kF,agq]
 generalize dl (wF l w)=y at*;generalize dl (iW w w)=x at*;refine bw adl ?_;simp(disch:=omega)only[au,simprocAttr,aEE,eN,ao,al,hl,kF,cq];exact⟨_,rfl⟩)
structure k_ where
 (ins io kG c4 wr kH fP kI:Bool) (dn s1 dM:Int)
 deriving DecidableEq
def RE(m:k_)(on:Bool):Nat→k_
 |0=>{m with ins:=on}|1=>{m with io:=on}|2=>{m with kG:=on}|3=>{m with c4:=on}
 |4=>{m with wr:=on}|5=>{m with kH:=on}|6=>{m with fP:=on}|7=>{m with kI:=on}|_=>m
def yB(p n:Int):Option Nat:=
 if p=0 then(if n=4 then some 0 else if n=20 then some 1 else none)
 else if p=63 then(if n=1 then some 2 else if n=6 then some 3 else if n=7 then some 4 else if n=25 then some 5 else if n=47∨n=1047∨n=1049 then some 6 else if n=2048 then some 7 else none)
 else none
def hf(p:Int)(on:Bool)(m:k_)(n:Int):k_:=match yB p n with
 |some k=>RE m on k
 |none=>m
def aJc{p n:Int}{k:Nat}(h:yB p n=some k):k<8:=by
 unfold yB at h
 repeat' split at h
 all_goals first|cases h|skip
 all_goals omega
def aJd(p n:Int):(p=0∧n=4)∨(p=0∧n=20)∨(p=0∧n≠4∧n≠20)∨(p≠0∧p≠63)∨(p=63∧n=1)∨(p=63∧n=6)∨(p=63∧n=7)∨(p=63∧n=25)∨(p=63∧n=47)∨(p=63∧n=1047)∨(p=63∧n=1049)∨(p=63∧n=2048)∨
 (p=63∧n≠1∧n≠6∧n≠7∧n≠25∧n≠47∧n≠1047∧n≠1049∧n≠2048):=R
def DF(c:Nat):Option Nat→U
 |some k=>.ptr c 0 0 k
 |none=>.i (.v (.pointer none))
def aJe(p n:Int)(m:k_):∃L,b4 E 209 [.i (.v (.int .i64 (n))),.ptr 0 0 0 0,.ptr 1 0 0 0] [.box [.i (.v (.int .u8 p))],.box [.i (.v (.bool (m).ins)),.i (.v (.bool (m).io)),.i (.v (.bool (m).kG)),.i (.v (.bool (m).c4)),.i (.v (.bool (m).wr)),.i (.v (.bool (m).kH)),.i (.v (.bool (m).fP)),.i (.v (.bool (m).kI)),.i (.v (.int .u8 (m).dn)),.i (.v (.int .u8 (m).s1)),.i (.v (.int .i64 (m).dM))]]=some (DF 1 (yB p n),.box [.i (.v (.int .u8 p))]::.box [.i (.v (.bool (m).ins)),.i (.v (.bool (m).io)),.i (.v (.bool (m).kG)),.i (.v (.bool (m).c4)),.i (.v (.bool (m).wr)),.i (.v (.bool (m).kH)),.i (.v (.bool (m).fP)),.i (.v (.bool (m).kI)),.i (.v (.int .u8 (m).dn)),.i (.v (.int .u8 (m).s1)),.i (.v (.int .i64 (m).dM))]::L):=by
 rcases aJd p n with⟨rfl,rfl⟩|⟨rfl,rfl⟩|⟨rfl,j,J⟩|⟨j,J⟩|⟨rfl,rfl⟩|⟨rfl,rfl⟩|⟨rfl,rfl⟩|⟨rfl,rfl⟩|⟨rfl,rfl⟩|⟨rfl,rfl⟩|⟨rfl,rfl⟩|⟨rfl,rfl⟩|⟨rfl,j,J,aw,bb,bu,dw,gx,gD⟩
 all_goals simp only[yB, *,GX,if_true,if_false,or_true,true_or,or_false,false_or,ne_eq,not_false_eq_true]
 all_goals (
  rw[bp aeL];simp(disch:=omega)only[au,simprocAttr,aFU];exact⟨_,rfl⟩)
structure aJf where
 (aG:fO) (a:eh) (c4:Bool) (dn s1 dM:Int)
structure M where
 (w h:Nat) (G O:List (List bh)) (aG:fO) (bP:aJf) (a:eh) (md:k_) (cz b8:Int) (cv:List Bool) (fL:Bool) (back:List (List bh)) (bm:df) (eH:List Int) (di:List UInt8)
def GY:Bool→List (List bh)→aD
 |true,[]=>.ae 0 [] true
 |true,a::l=>.ae 1 (bX (a::l)) false
 |false,l=>.ae 1 (bX l) false
def aJg:∀(b:Bool) (l:List (List bh)),h7 (some 1) (GY b l)=.ae 1 (bX l) false
 |true,[]=>rfl
 |true,_::_=>rfl
 |false,_=>rfl
def aT(m:M)(a af b ag:Nat):List U:=[.i (.v (.int .i64 m.w)),.i (.v (.int .i64 m.h)),.x (.d a af 0 m.h),.i (.v (.int .i64 m.w)),.i (.v (.int .i64 m.h)),.x (.d b ag 0 m.h),.i (.v (.int .i64 m.aG.r)),.i (.v (.int .i64 m.aG.c)),.i (.v (.bool m.aG.p)),.i (.v (.int .i64 m.bP.aG.r)),.i (.v (.int .i64 m.bP.aG.c)),.i (.v (.bool m.bP.aG.p)),.i (.v (.int .i64 m.bP.a.c1)),.i (.v (.int .i64 m.bP.a.a_)),.i (.v (.int .i64 m.bP.a.cY)),.i (.v (.bool m.bP.c4)),.i (.v (.int .u8 m.bP.dn)),.i (.v (.int .u8 m.bP.s1)),.i (.v (.int .i64 m.bP.dM)),.i (.v (.int .i64 m.a.c1)),.i (.v (.int .i64 m.a.a_)),.i (.v (.int .i64 m.a.cY)),.i (.v (.bool m.md.ins)),.i (.v (.bool m.md.io)),.i (.v (.bool m.md.kG)),.i (.v (.bool m.md.c4)),.i (.v (.bool m.md.wr)),.i (.v (.bool m.md.kH)),.i (.v (.bool m.md.fP)),.i (.v (.bool m.md.kI)),.i (.v (.int .u8 m.md.dn)),.i (.v (.int .u8 m.md.s1)),.i (.v (.int .i64 m.md.dM)),.i (.v (.int .i64 m.cz)),.i (.v (.int .i64 m.b8)),.i (.ae 1 (dl m.cv) false),.i (GY m.fL m.back),.i (.v (.int .i64 m.bm.bK)),.i (.str m.bm.b5),.i (.str m.bm.b2),.i (.str (dQ m.eH)),.i (.str m.di)]
def aJh(m:M)(a af b ag:Nat):(aT m a af b ag).length=42:=rfl
def aJi(m:M)(a af b ag:Nat):(aT m a af b ag).all one=true:=rfl
def bC(m:M)(a af b ag:Nat):bz (aT m a af b ag)=[a,b]:=rfl
def aJj(m:M)(a af b ag:Nat):(aT m a af b ag)[0]?=some (.i (.v (.int .i64 m.w))):=rfl
def aJk(m:M)(a af b ag:Nat):(aT m a af b ag)[1]?=some (.i (.v (.int .i64 m.h))):=rfl
def aJl(m:M)(a af b ag:Nat):(aT m a af b ag)[2]?=some (.x (.d a af 0 m.h)):=rfl
def aJm(m:M)(a af b ag:Nat):(aT m a af b ag)[5]?=some (.x (.d b ag 0 m.h)):=rfl
def aJn(m:M)(a af b ag:Nat):(aT m a af b ag)[6]?=some (.i (.v (.int .i64 m.aG.r))):=rfl
def aJo(m:M)(a af b ag:Nat):(aT m a af b ag)[7]?=some (.i (.v (.int .i64 m.aG.c))):=rfl
def aJp(m:M)(a af b ag:Nat):(aT m a af b ag)[8]?=some (.i (.v (.bool m.aG.p))):=rfl
def aJq(m:M)(a af b ag:Nat):(aT m a af b ag)[9]?=some (.i (.v (.int .i64 m.bP.aG.r))):=rfl
def aJr(m:M)(a af b ag:Nat):(aT m a af b ag)[10]?=some (.i (.v (.int .i64 m.bP.aG.c))):=rfl
def aJs(m:M)(a af b ag:Nat):(aT m a af b ag)[11]?=some (.i (.v (.bool m.bP.aG.p))):=rfl
def aJt(m:M)(a af b ag:Nat):(aT m a af b ag)[12]?=some (.i (.v (.int .i64 m.bP.a.c1))):=rfl
def aJu(m:M)(a af b ag:Nat):(aT m a af b ag)[13]?=some (.i (.v (.int .i64 m.bP.a.a_))):=rfl
def aJv(m:M)(a af b ag:Nat):(aT m a af b ag)[14]?=some (.i (.v (.int .i64 m.bP.a.cY))):=rfl
def aJw(m:M)(a af b ag:Nat):(aT m a af b ag)[15]?=some (.i (.v (.bool m.bP.c4))):=rfl
def aJx(m:M)(a af b ag:Nat):(aT m a af b ag)[16]?=some (.i (.v (.int .u8 m.bP.dn))):=rfl
def aJy(m:M)(a af b ag:Nat):(aT m a af b ag)[17]?=some (.i (.v (.int .u8 m.bP.s1))):=rfl
def aJz(m:M)(a af b ag:Nat):(aT m a af b ag)[18]?=some (.i (.v (.int .i64 m.bP.dM))):=rfl
def aJA(m:M)(a af b ag:Nat):(aT m a af b ag)[19]?=some (.i (.v (.int .i64 m.a.c1))):=rfl
def aJB(m:M)(a af b ag:Nat):(aT m a af b ag)[20]?=some (.i (.v (.int .i64 m.a.a_))):=rfl
def aJC(m:M)(a af b ag:Nat):(aT m a af b ag)[21]?=some (.i (.v (.int .i64 m.a.cY))):=rfl
def aJD(m:M)(a af b ag:Nat):(aT m a af b ag)[22]?=some (.i (.v (.bool m.md.ins))):=rfl
def aJE(m:M)(a af b ag:Nat):(aT m a af b ag)[23]?=some (.i (.v (.bool m.md.io))):=rfl
def aJF(m:M)(a af b ag:Nat):(aT m a af b ag)[25]?=some (.i (.v (.bool m.md.c4))):=rfl
def aJG(m:M)(a af b ag:Nat):(aT m a af b ag)[26]?=some (.i (.v (.bool m.md.wr))):=rfl
def aJH(m:M)(a af b ag:Nat):(aT m a af b ag)[28]?=some (.i (.v (.bool m.md.fP))):=rfl
def aJI(m:M)(a af b ag:Nat):(aT m a af b ag)[33]?=some (.i (.v (.int .i64 m.cz))):=rfl
def aJJ(m:M)(a af b ag:Nat):(aT m a af b ag)[34]?=some (.i (.v (.int .i64 m.b8))):=rfl
def aJK(m:M)(a af b ag:Nat):(aT m a af b ag)[35]?=some (.i (.ae 1 (dl m.cv) false)):=rfl
def aJL(m:M)(a af b ag:Nat):(aT m a af b ag)[36]?=some (.i (GY m.fL m.back)):=rfl
def aJM(m:M)(a af b ag:Nat):(aT m a af b ag)[37]?=some (.i (.v (.int .i64 m.bm.bK))):=rfl
def aJN(m:M)(a af b ag:Nat):(aT m a af b ag)[38]?=some (.i (.str m.bm.b5)):=rfl
def aJO(m:M)(a af b ag:Nat):(aT m a af b ag)[39]?=some (.i (.str m.bm.b2)):=rfl
def aJP(m:M)(a af b ag:Nat):(aT m a af b ag)[40]?=some (.i (.str (dQ m.eH))):=rfl
def aJQ(m:M)(a af b ag:Nat):(aT m a af b ag)[41]?=some (.i (.str m.di)):=rfl
def aJR(m:M)(a af b ag:Nat):eo 3 (eI 6 (aT m a af b ag))=[.i (.v (.int .i64 m.aG.r)),.i (.v (.int .i64 m.aG.c)),.i (.v (.bool m.aG.p))]:=rfl
def aJS(m:M)(a af b ag:Nat):eo 3 (eI 9 (aT m a af b ag))=[.i (.v (.int .i64 m.bP.aG.r)),.i (.v (.int .i64 m.bP.aG.c)),.i (.v (.bool m.bP.aG.p))]:=rfl
def aJT(m:M)(a af b ag:Nat):eo 3 (eI 12 (aT m a af b ag))=[.i (.v (.int .i64 m.bP.a.c1)),.i (.v (.int .i64 m.bP.a.a_)),.i (.v (.int .i64 m.bP.a.cY))]:=rfl
def aJU(m:M)(a af b ag:Nat):eo 2 (eI 16 (aT m a af b ag))=[.i (.v (.int .u8 m.bP.dn)),.i (.v (.int .u8 m.bP.s1))]:=rfl
def aJV(m:M)(a af b ag:Nat):eo 3 (eI 19 (aT m a af b ag))=[.i (.v (.int .i64 m.a.c1)),.i (.v (.int .i64 m.a.a_)),.i (.v (.int .i64 m.a.cY))]:=rfl
def aJW(m:M)(a af b ag:Nat):eo 11 (eI 22 (aT m a af b ag))=[.i (.v (.bool m.md.ins)),.i (.v (.bool m.md.io)),.i (.v (.bool m.md.kG)),.i (.v (.bool m.md.c4)),.i (.v (.bool m.md.wr)),.i (.v (.bool m.md.kH)),.i (.v (.bool m.md.fP)),.i (.v (.bool m.md.kI)),.i (.v (.int .u8 m.md.dn)),.i (.v (.int .u8 m.md.s1)),.i (.v (.int .i64 m.md.dM))]:=rfl
def aJX(m:M)(a af b ag:Nat):eo 2 (eI 30 (aT m a af b ag))=[.i (.v (.int .u8 m.md.dn)),.i (.v (.int .u8 m.md.s1))]:=rfl
def aJY(m:M)(a af b ag:Nat):eo 3 (aT m a af b ag)=[.i (.v (.int .i64 m.w)),.i (.v (.int .i64 m.h)),.x (.d a af 0 m.h)]:=rfl
def aJZ(m:M)(a af b ag:Nat):eo 3 (eI 3 (aT m a af b ag))=[.i (.v (.int .i64 m.w)),.i (.v (.int .i64 m.h)),.x (.d b ag 0 m.h)]:=rfl
def aJ0(m:M)(a af b ag:Nat):eo 3 (eI 37 (aT m a af b ag))=[.i (.v (.int .i64 m.bm.bK)),.i (.str m.bm.b5),.i (.str m.bm.b2)]:=rfl
def aJ1(m:M)(a af b ag:Nat):eo 42 (aT m a af b ag)=aT m a af b ag:=rfl
def aJ2(m:M)(a af b ag:Nat)(c gc:Nat):.i (.v (.int .i64 m.w))::.i (.v (.int .i64 m.h))::.x (.d c gc 0 m.h)::eI 3 (aT m a af b ag)=aT m c gc b ag:=rfl
def aJ3(m:M)(a af b ag:Nat)(c gc:Nat):eo 3 (aT m a af b ag)++[.i (.v (.int .i64 m.w)),.i (.v (.int .i64 m.h)),.x (.d c gc 0 m.h)]++eI 6 (aT m a af b ag)=aT m a af c gc:=rfl
def aJ4(m:M)(a af b ag:Nat)(x:Int):eo 6 (aT m a af b ag)++[.i (.v (.int .i64 x))]++eI 7 (aT m a af b ag)=aT {m with aG:={m.aG with r:=x}} a af b ag:=rfl
def aJ5(m:M)(a af b ag:Nat)(x:Int):eo 7 (aT m a af b ag)++[.i (.v (.int .i64 x))]++eI 8 (aT m a af b ag)=aT {m with aG:={m.aG with c:=x}} a af b ag:=rfl
def aJ6(m:M)(a af b ag:Nat)(x:Bool):eo 8 (aT m a af b ag)++[.i (.v (.bool x))]++eI 9 (aT m a af b ag)=aT {m with aG:={m.aG with p:=x}} a af b ag:=rfl
def aJ7(m:M)(a af b ag:Nat)(x y:Int)(z:Bool):eo 6 (aT m a af b ag)++[.i (.v (.int .i64 x)),.i (.v (.int .i64 y)),.i (.v (.bool z))]++eI 9 (aT m a af b ag)=aT {m with aG:=⟨x,y,z⟩} a af b ag:=rfl
def aJ8(m:M)(a af b ag:Nat)(r c:Int)(p:Bool)(x y z:Int)(aj:Bool)(s t u:Int):eo 9 (aT m a af b ag)++[.i (.v (.int .i64 r)),.i (.v (.int .i64 c)),.i (.v (.bool p)),.i (.v (.int .i64 x)),.i (.v (.int .i64 y)),.i (.v (.int .i64 z)),.i (.v (.bool aj)),.i (.v (.int .u8 s)),.i (.v (.int .u8 t)),.i (.v (.int .i64 u))]++eI 19 (aT m a af b ag)=aT {m with bP:=⟨⟨r,c,p⟩,⟨x,y,z⟩,aj,s,t,u⟩} a af b ag:=rfl
def aJ9(m:M)(a af b ag:Nat)(x y z:Int):eo 19 (aT m a af b ag)++[.i (.v (.int .i64 x)),.i (.v (.int .i64 y)),.i (.v (.int .i64 z))]++eI 22 (aT m a af b ag)=aT {m with a:=⟨x,y,z⟩} a af b ag:=rfl
def aJ_(m:M)(a af b ag:Nat)(gh gr n3 n4 agr n6 ags agt:Bool)(x y z:Int):eo 22 (aT m a af b ag)++[.i (.v (.bool gh)),.i (.v (.bool gr)),.i (.v (.bool n3)),.i (.v (.bool n4)),.i (.v (.bool agr)),.i (.v (.bool n6)),.i (.v (.bool ags)),.i (.v (.bool agt)),.i (.v (.int .u8 x)),.i (.v (.int .u8 y)),.i (.v (.int .i64 z))]++eI 33 (aT m a af b ag)=aT {m with md:=⟨gh,gr,n3,n4,agr,n6,ags,agt,x,y,z⟩} a af b ag:=rfl
def aJ'(m:M)(a af b ag:Nat)(x:Bool):eo 25 (aT m a af b ag)++[.i (.v (.bool x))]++eI 26 (aT m a af b ag)=aT {m with md:={m.md with c4:=x}} a af b ag:=rfl
def aKa(m:M)(a af b ag:Nat)(x y:Int):eo 30 (aT m a af b ag)++[.i (.v (.int .u8 x)),.i (.v (.int .u8 y))]++eI 32 (aT m a af b ag)=aT {m with md:={m.md with dn:=x,s1:=y}} a af b ag:=rfl
def aKb(m:M)(a af b ag:Nat)(x:Int):eo 32 (aT m a af b ag)++[.i (.v (.int .i64 x))]++eI 33 (aT m a af b ag)=aT {m with md:={m.md with dM:=x}} a af b ag:=rfl
def aKc(m:M)(a af b ag:Nat)(x:Int):eo 33 (aT m a af b ag)++[.i (.v (.int .i64 x))]++eI 34 (aT m a af b ag)=aT {m with cz:=x} a af b ag:=rfl
def aKd(m:M)(a af b ag:Nat)(x:Int):eo 34 (aT m a af b ag)++[.i (.v (.int .i64 x))]++eI 35 (aT m a af b ag)=aT {m with b8:=x} a af b ag:=rfl
def aKe(m:M)(a af b ag:Nat)(x:List Bool):eo 35 (aT m a af b ag)++[.i (.ae 1 (dl x) false)]++eI 36 (aT m a af b ag)=aT {m with cv:=x} a af b ag:=rfl
def aKf(m:M)(a af b ag:Nat)(x:List (List bh)):eo 36 (aT m a af b ag)++[.i (.ae 1 (bX x) false)]++eI 37 (aT m a af b ag)=aT {m with fL:=false,back:=x} a af b ag:=rfl
def aKg(m:M)(a af b ag:Nat):eo 36 (aT m a af b ag)++[.i (.ae 0 [] true)]++eI 37 (aT m a af b ag)=aT {m with fL:=true,back:=[]} a af b ag:=rfl
def aKh(m:M)(a af b ag:Nat)(x:Int)(y z:List UInt8):eo 37 (aT m a af b ag)++[.i (.v (.int .i64 x)),.i (.str y),.i (.str z)]++eI 40 (aT m a af b ag)=aT {m with bm:=⟨x,y,z⟩} a af b ag:=rfl
def aKi(m:M)(a af b ag:Nat)(x:List Int):eo 40 (aT m a af b ag)++[.i (.str (dQ x))]++eI 41 (aT m a af b ag)=aT {m with eH:=x} a af b ag:=rfl
def aKj(m:M)(a af b ag:Nat)(x:List UInt8):eo 41 (aT m a af b ag)++[.i (.str x)]++eI 42 (aT m a af b ag)=aT {m with di:=x} a af b ag:=rfl
def bM:=o @aJh (o @aJi (o @aJj (o @aJk (o @aJl (o @aJm (o @aJn (o @aJo (o @aJp (o @aJq (o @aJr (o @aJs (o @aJt (o @aJu (o @aJv (o @aJw (o @aJx (o @aJy (o @aJz (o @aJA (o @aJB (o @aJC (o @aJD (o @aJE (o @aJF (o @aJG (o @aJH (o @aJI (o @aJJ (o @aJK (o @aJL (o @aJM (o @aJN (o @aJO (o @aJP (o @aJQ (o @aJR (o @aJS (o @aJT (o @aJU (o @aJV (o @aJW (o @aJX (o @aJY (o @aJZ (o @aJ0 (o @aJ1 (o @aJ2 (o @aJ3 (o @aJ4 (o @aJ5 (o @aJ6 (o @aJ7 (o @aJ8 (o @aJ9 (o @aJ_ (o @aJ' (o @aKa (o @aKb (o @aKc (o @aKd (o @aKe (o @aKf (o @aKg (o @aJg (o @aKh (o @aKi (@aKj)))))))))))))))))))))))))))))))))))))))))))))))))))))))))))))))))))
def jx(aU:Nat→Option Nat)(m:M)(a af b ag bY bV:Nat)(j:aU a=some bY)(J:aU b=some bV):cB aU (aT m a af b ag)=aT m bY af bV ag:=by simp[aT,cB,co,cP.c,cP.to,j,J]
def bT{B:Nat}{H:aa}{m:M}{a af b ag:Nat}(j:a<B)(J:b<B):ew B H (aT m a af b ag)=aT m a af b ag:=by simp[aT,ew,ee,cP.c,j,J]
def jy(c:List U):(Chunk.box c).refs=bz c:=rfl
def iq(aU:Nat→Option Nat)(c:List U):(Chunk.box c).cL aU=.box (cB aU c):=rfl
def RF{m:M}{a af b ag:Nat}{T:aa}{X Y:Chunk}(j:T[a]?=some X)(J:T[b]?=some Y)(aw:X.refs=[])(bb:Y.refs=[])(cU:a≠b):
  reach (.box (aT m (a+1) af (b+1) ag)::T) 64 [0] []=[0,a+1,b+1]:=by
 have bG:=e8.2 (bF.1 j).1;have bH:=e8.2 (bF.1 J).1;simp[reach,jy,bC,j,J,aw,bb,bG,bH,ba cU]
def AJ{f:Nat}{br:List U}{r:U}{m b1:M}{X Y:Chunk}{a af b ag:Nat}{T:aa}(he:E.ext f=none)(aB:bz br=[])(ai:bd r=[])
  (h:∃L,b4 E f (.ptr 0 0 0 0::br) [.box (aT m 1 af 2 ag),X,Y]=some (r,.box (aT b1 1 af 2 ag)::X::Y::L))
  (j:T[a]?=some X)(J:T[b]?=some Y)(aw:X.refs=[])(bb:Y.refs=[])(cU:a≠b):
  cn f (.ptr 0 0 0 0::br) (.box (aT m (a+1) af (b+1) ag)::T) r (.box (aT b1 (a+1) af (b+1) ag)::T):=by
 obtain⟨L,h⟩:=h;have bG:=(bF.1 j).1;have bH:=(bF.1 J).1;have wt:∀aU,cB aU br=br:=λ aU=>(ga aU).2 br aB
 have ia:∀aU,co aU r=r:=λ aU=>(ga aU).1 r ai
 have ol:=λ aU=>k7 aw aU
 have yC:=λ aU=>k7 bb aU
 have dc:=RF (m:=m) (af:=af) (ag:=ag) j J aw bb cU;have nC:bt [0,a+1,b+1] (a+1)=some 1:=by simp[bt]
 have ri:bt [0,a+1,b+1] (b+1)=some 2:=by simp[bt,ba cU]
 have kr:bt [0,a+1,b+1] 0=some 0:=rfl;have ao:=jx (bt [0,a+1,b+1]) m (a+1) af (b+1) ag 1 2 nC ri;have aI:=jx (dm [0,a+1,b+1] (T.length+1) []) b1 1 af 2 ag (a+1) (b+1) rfl rfl;have AK:reach (.box (aT b1 1 af 2 ag)::X::Y::L) 64 [1,2] []=[1,2]:=by simp[reach,aw,bb]
 have s1:=yy j;have s2:=yy J;unfold cn dj;simp only[e0,he,bz,bd,aB,c_,dc];simp[cB,co,wt,kr,j,J,iq,ol,yC,ao,h,jy,bC,ai,aw,bb,AK,aI,ia,ef,s1,s2]
def agu{m:M}{af ag aE aH:Nat}{x y:List bS}:∃L,b4 E 91 [.ptr 0 0 0 0] [.box (aT (m) 1 af 2 ag),.ax 5 af aE x,.ax 5 ag aH y]=some (.be [],.box (aT ({m with aG:={m.aG with c:=0,p:=false}}) 1 af 2 ag)::.ax 5 af aE x::.ax 5 ag aH y::L):=by rw[bp adG];simp(disch:=omega)only[au,simprocAttr,aEX,bM];exact⟨_,rfl⟩
def GZ{m:M}{a b af ag aE aH:Nat}{x y:List bS}{T:aa}(j:T[a]?=some (.ax 5 af aE x))(J:T[b]?=some (.ax 5 ag aH y))(cU:a≠b):cn 91 [.ptr 0 0 0 0] (.box (aT (m) (a+1) af (b+1) ag)::T) (.be []) (.box (aT ({m with aG:={m.aG with c:=0,p:=false}}) (a+1) af (b+1) ag)::T):=AJ rfl rfl rfl agu j J rfl rfl cU
def agv{m:M}{af ag aE aH:Nat}{x y:List bS}:∃L,b4 E 106 [.ptr 0 0 0 0] [.box (aT (m) 1 af 2 ag),.ax 5 af aE x,.ax 5 ag aH y]=some (.agg [.i (.v (.int .i64 ((m).w))),.i (.v (.int .i64 ((m).h))),.i (.v (.int .i64 ((m).cz))),.i (.v (.int .i64 ((m).b8))),.i (.v (.bool ((m).md.c4)))],.box (aT (m) 1 af 2 ag)::.ax 5 af aE x::.ax 5 ag aH y::L):=by rw[bp adR];simp(disch:=omega)only[au,simprocAttr,aE6,bM];exact⟨_,rfl⟩
def G0{m:M}{a b af ag aE aH:Nat}{x y:List bS}{T:aa}(j:T[a]?=some (.ax 5 af aE x))(J:T[b]?=some (.ax 5 ag aH y))(cU:a≠b):ct 106 [.ptr 0 0 0 0] (.box (aT (m) (a+1) af (b+1) ag)::T) (.agg [m.w,m.h,m.cz,m.b8,m.md.c4]):=AJ rfl rfl rfl agv j J rfl rfl cU
def cj(m:M):gv:=⟨m.w,m.h,m.cz,m.b8,m.md.c4⟩
def aKk{m:M}{af ag aE aH:Nat}{x y:List bS}(n:Int):∃L,b4 E 93 [.ptr 0 0 0 0,.i (.v (.int .i64 (n)))] [.box (aT (m) 1 af 2 ag),.ax 5 af aE x,.ax 5 ag aH y]=some (.be [],.box (aT ({m with aG:={m.aG with c:=n,p:=false}}) 1 af 2 ag)::.ax 5 af aE x::.ax 5 ag aH y::L):=by rw[bp adI];simp(disch:=omega)only[au,simprocAttr,aEY,bM];exact⟨_,rfl⟩
def LH{m:M}{a b af ag aE aH:Nat}{x y:List bS}{T:aa}(j:T[a]?=some (.ax 5 af aE x))(J:T[b]?=some (.ax 5 ag aH y))(cU:a≠b)(n:Int):cn 93 [.ptr 0 0 0 0,n] (.box (aT (m) (a+1) af (b+1) ag)::T) (.be []) (.box (aT ({m with aG:={m.aG with c:=n,p:=false}}) (a+1) af (b+1) ag)::T):=AJ rfl rfl rfl (aKk n) j J rfl rfl cU
def aKl{m:M}{af ag aE aH:Nat}{x y:List bS}(h:hU (cj m))(n:Int):∃L,b4 E 159 [.ptr 0 0 0 0,.i (.v (.int .i64 (n)))] [.box (aT (m) 1 af 2 ag),.ax 5 af aE x,.ax 5 ag aH y]=some (.be [],.box (aT ({m with aG:=iB m.aG n (cj m)}) 1 af 2 ag)::.ax 5 af aE x::.ax 5 ag aH y::L):=by
 have ao:=G0 (m:=m) (a:=0) (b:=1) (af:=af) (ag:=ag) (T:=[.ax 5 af aE x,.ax 5 ag aH y]) rfl rfl (by decide);simp only[cq]at ao;have aI:=λ H=>RB m.aG n h H
 simp only[cj]at aI;rw[bp aef];simp(disch:=omega)only[au,simprocAttr,aFp,bM,ao,aI,cj];exact⟨_,rfl⟩
def agw{m:M}{af ag aE aH:Nat}{x y:List bS}(h:hU (cj m))(n:Int):∃L,b4 E 99 [.ptr 0 0 0 0,.i (.v (.int .i64 (n)))] [.box (aT (m) 1 af 2 ag),.ax 5 af aE x,.ax 5 ag aH y]=some (.be [],.box (aT ({m with aG:=ni m.aG n (cj m)}) 1 af 2 ag)::.ax 5 af aE x::.ax 5 ag aH y::L):=by
 have ao:=G0 (m:=m) (a:=0) (b:=1) (af:=af) (ag:=ag) (T:=[.ax 5 af aE x,.ax 5 ag aH y]) rfl rfl (by decide);simp only[cq]at ao;have aI:=λ H=>aIY m.aG n h H
 simp only[cj]at aI;rw[bp adN];simp(disch:=omega)only[au,simprocAttr,aE2,bM,ao,aI,cj];exact⟨_,rfl⟩
def aKm{m:M}{a b af ag aE aH:Nat}{x y:List bS}{T:aa}(j:T[a]?=some (.ax 5 af aE x))(J:T[b]?=some (.ax 5 ag aH y))(cU:a≠b)(h:hU (cj m))(n:Int):cn 99 [.ptr 0 0 0 0,n] (.box (aT (m) (a+1) af (b+1) ag)::T) (.be []) (.box (aT ({m with aG:=ni m.aG n (cj m)}) (a+1) af (b+1) ag)::T):=AJ rfl rfl rfl (agw h n) j J rfl rfl cU
def RG{m:M}{af ag aE aH:Nat}{x y:List bS}(h:hU (cj m))(r c:Int):∃L,b4 E 147 [.ptr 0 0 0 0,.i (.v (.int .i64 (r))),.i (.v (.int .i64 (c)))] [.box (aT (m) 1 af 2 ag),.ax 5 af aE x,.ax 5 ag aH y]=some (.be [],.box (aT ({m with aG:=⟨toR r (cj m),k9 c (cj m),false⟩}) 1 af 2 ag)::.ax 5 af aE x::.ax 5 ag aH y::L):=by
 have ao:=G0 (m:=m) (a:=0) (b:=1) (af:=af) (ag:=ag) (T:=[.ax 5 af aE x,.ax 5 ag aH y]) rfl rfl (by decide);simp only[cq]at ao;have aI:=λ H=>aI3 m.aG r c h H
 simp only[cj]at aI;rw[bp aea];simp(disch:=omega)only[au,simprocAttr,aFl,bM,ao,aI,cj];exact⟨_,rfl⟩
def agx{m:M}{a b af ag aE aH:Nat}{x y:List bS}{T:aa}(j:T[a]?=some (.ax 5 af aE x))(J:T[b]?=some (.ax 5 ag aH y))(cU:a≠b)(h:hU (cj m))(r c:Int):cn 147 [.ptr 0 0 0 0,r,c] (.box (aT (m) (a+1) af (b+1) ag)::T) (.be []) (.box (aT ({m with aG:=⟨toR r (cj m),k9 c (cj m),false⟩}) (a+1) af (b+1) ag)::T):=AJ rfl rfl rfl (RG h r c) j J rfl rfl cU
def agy{m:M}{af ag aE aH:Nat}{x y:List bS}:∃L,b4 E 103 [.ptr 0 0 0 0] [.box (aT (m) 1 af 2 ag),.ax 5 af aE x,.ax 5 ag aH y]=some (.be [],.box (aT ({m with bP:=⟨m.aG,m.a,m.md.c4,m.md.dn,m.md.s1,m.md.dM⟩}) 1 af 2 ag)::.ax 5 af aE x::.ax 5 ag aH y::L):=by rw[bp adP];simp(disch:=omega)only[au,simprocAttr,aE4,bM];exact⟨_,rfl⟩
def agz{m:M}{a b af ag aE aH:Nat}{x y:List bS}{T:aa}(j:T[a]?=some (.ax 5 af aE x))(J:T[b]?=some (.ax 5 ag aH y))(cU:a≠b):cn 103 [.ptr 0 0 0 0] (.box (aT (m) (a+1) af (b+1) ag)::T) (.be []) (.box (aT ({m with bP:=⟨m.aG,m.a,m.md.c4,m.md.dn,m.md.s1,m.md.dM⟩}) (a+1) af (b+1) ag)::T):=AJ rfl rfl rfl (agy) j J rfl rfl cU
def agA{m:M}{af ag aE aH:Nat}{x y:List bS}:∃L,b4 E 104 [.ptr 0 0 0 0] [.box (aT (m) 1 af 2 ag),.ax 5 af aE x,.ax 5 ag aH y]=some (.be [],.box (aT ({m with aG:=m.bP.aG,a:=m.bP.a,md:={m.md with c4:=m.bP.c4,dn:=m.bP.dn,s1:=m.bP.s1,dM:=m.bP.dM}}) 1 af 2 ag)::.ax 5 af aE x::.ax 5 ag aH y::L):=by rw[bp adQ];simp(disch:=omega)only[au,simprocAttr,aE5,bM];exact⟨_,rfl⟩
def agB{m:M}{a b af ag aE aH:Nat}{x y:List bS}{T:aa}(j:T[a]?=some (.ax 5 af aE x))(J:T[b]?=some (.ax 5 ag aH y))(cU:a≠b):cn 104 [.ptr 0 0 0 0] (.box (aT (m) (a+1) af (b+1) ag)::T) (.be []) (.box (aT ({m with aG:=m.bP.aG,a:=m.bP.a,md:={m.md with c4:=m.bP.c4,dn:=m.bP.dn,s1:=m.bP.s1,dM:=m.bP.dM}}) (a+1) af (b+1) ag)::T):=AJ rfl rfl rfl (agA) j J rfl rfl cU
def hq(aj:Nat)(m:M)(A af B ag:Nat)(T:aa):Prop:=∃a b aE aH,A=a+aj∧B=b+aj∧T[a]?=some (.ax 5 af aE (aX m.G))∧T[b]?=some (.ax 5 ag aH (aX m.O))∧a≠b∧2≤T.length∧(∀x,T[0]?=some x→x.refs=[])∧(∀x,T[1]?=some x→x.refs=[])
def agC:∀(aW:List Nat) (xs:List Chunk) (H:aa) (pB:List Nat) (cS:List Chunk),aW.length=xs.length→ef H (aW++pB) (xs++cS)=ef (ef H aW xs) pB cS
 |[],[],H,pB,cS,_=>rfl
 |c::aW,x::xs,H,pB,cS,h=>by simp only[uy,ef];exact agC aW xs _ pB cS (by simpa using h)
def agD:∀(aW:List Nat) (xs:List Chunk) (H:aa),aW.map (λ c=>H[c]?)=xs.map some→ef H aW xs=H
 |[],[],H,_=>rfl
 |c::aW,x::xs,H,h=>by simp only[fk,BQ]at h;simp only[ef];rw[yy h.1];exact agD aW xs H h.2
 |[],x::xs,H,h=>by simp at h
 |c::aW,[],H,h=>rfl
def qI(p:Nat)(m:M)(H:aa):Prop:=∃A af B ag aE aH,H[p]?=some (.box (aT m A af B ag))∧H[A]?=some (.ax 5 af aE (aX m.G))∧H[B]?=some (.ax 5 ag aH (aX m.O))∧A≠B
def h3:Chunk→Prop
 |.ax ..=>False
 |_=>True
def sK(p:Nat)(H ap:aa):Prop:=H.length≤ap.length∧(∀k x,H[k]?=some x→k≠p→h3 x→ap[k]?=some x)∧∀k x,H[k]?=some x→k≠p→x.refs=[]→∃lT,ap[k]?=some lT∧lT.refs=[]
def RH{c:Nat}:∀(aW S:List Nat),c∉aW→bt (aW++S) c=(bt S c).map (·+aW.length)
 |[],S,_=>by simp
 |d::aW,S,h=>by
  simp only[mU,not_or]at h;simp only[uy,bt,if_neg h.1,RH aW S h.2,cT,Option.map_map]
  congr 1
def aKn{aW:List Nat}{n:Nat}{K:List Nat}{i c:Nat}(h:aW[i]?=some c):dm aW n K i=some c:=by unfold dm;rw[h]
def aKo{aW:List Nat}{n:Nat}{K:List Nat}{i:Nat}(h:aW.length≤i):dm aW n K i=(bt K i).map (·+n):=by unfold dm;rw[sl h]
def yD{f:Nat}{br uS:List U}{r:U}{m b1:M}{aW Z:List Nat}{X:List Chunk}{p A af B ag aE aH:Nat}{H:aa}
  (he:E.ext f=none)(ai:bd r=[])
  (av:H[p]?=some (.box (aT m A af B ag)))(b0:H[A]?=some (.ax 5 af aE (aX m.G)))(cM:H[B]?=some (.ax 5 ag aH (aX m.O)))(iC:A≠B)
  (dc:reach H 64 (bz br) []=aW++[p,A,B])(gR:cB (bt (aW++[p,A,B])) br=uS)
  (ol:aW.map (λ c=>((H[c]?).map (Chunk.cL (bt (aW++[p,A,B])))).getD (.iter [] 0))=X)
  (aRG:p∉aW)(aKp:A∉aW)(aKq:B∉aW)
  (aKr:∀back:Nat→Option Nat,(∀i c,(aW++[p])[i]?=some c→back i=some c)→aW.map (λ c=>H[c]?)=(X.map (Chunk.cL back)).map some)
  (wG:∀z∈Z,z<aW.length+3)
  (jt:∀fi cJ eg cK cW,hq (aW.length+1) b1 fi cJ eg cK cW→reach (X++.box (aT b1 fi cJ eg cK)::cW) 64 (X.flatMap Chunk.refs++[fi,eg]) []=Z++[fi,eg])
  (h:∀af aE ag aH,∃fi cJ eg cK cW,b4 E f uS (X++[.box (aT m (aW.length+1) af (aW.length+2) ag),.ax 5 af aE (aX m.G),.ax 5 ag aH (aX m.O)])=some (r,X++.box (aT b1 fi cJ eg cK)::cW)∧hq (aW.length+1) b1 fi cJ eg cK cW):
  ∃ap,cn f br H r ap∧qI p b1 ap∧sK p H ap:=by
 obtain⟨fi,cJ,eg,cK,cW,h,cd⟩:=h af aE ag aH;have jt:=jt fi cJ eg cK cW cd;obtain⟨a,b,o9,nN,rfl,rfl,aB,ak,cU,an,aV,j⟩:=cd;have agE:p≠A:=λ e=>by rw[e,b0]at av;cases av
 have agF:p≠B:=λ e=>by rw[e,cM]at av;cases av
 have LI:X.length=aW.length:=by rw[←ol,lX]
 match cW,an,aB,ak,aV,j,h,jt with
 |t0::t1::gT,an,aB,ak,aV,j,h,jt=>
  have aV:=aV t0 rfl;have j:=j t1 rfl;have ia:∀aU,co aU r=r:=λ aU=>(ga aU).1 r ai
  have ch:bt (aW++[p,A,B]) A=some (aW.length+1):=by rw[RH aW _ aKp];simp[bt,ba agE,qv]
  have cw:bt (aW++[p,A,B]) B=some (aW.length+2):=by rw[RH aW _ aKq];simp[bt,ba agF,ba iC,qv]
  have hm:(aW++[p,A,B]).map (λ c=>((H[c]?).map (Chunk.cL (bt (aW++[p,A,B])))).getD (.iter [] 0))=X++[.box (aT m (aW.length+1) af (aW.length+2) ag),.ax 5 af aE (aX m.G),.ax 5 ag aH (aX m.O)]:=by rw[pP,ol];simp only[fk,fp,av,b0,cM,d',iM,iq,jx _ m A af B ag _ _ ch cw];rfl
  have xS:(aW++[p,A,B]).length=aW.length+3:=by simp
  have aKs:¬(X++.box (aT b1 (a+(aW.length+1)) cJ (b+(aW.length+1)) cK)::t0::t1::gT).length<aW.length+3:=by simp[LI]
  have qF:(X++.box (aT b1 (a+(aW.length+1)) cJ (b+(aW.length+1)) cK)::t0::t1::gT).take (aW.length+3)=X++[.box (aT b1 (a+(aW.length+1)) cJ (b+(aW.length+1)) cK),t0,t1]:=by rw[List.take_append,rH R,LI,show aW.length+3-aW.length=3 by omega];rfl
  have aKt:(X++[.box (aT b1 (a+(aW.length+1)) cJ (b+(aW.length+1)) cK),t0,t1]).flatMap Chunk.refs=X.flatMap Chunk.refs++[a+(aW.length+1),b+(aW.length+1)]:=by simp[jy,bC,aV,j]
  unfold cn dj;simp only[e0,he,dc,gR,hm,h,xS,aKs,if_false,qF,ai,gM,aKt,jt,ia];have gU:(Z++[a+(aW.length+1),b+(aW.length+1)]).filter (λ i=>decide (aW.length+3≤i))=[a+(aW.length+1),b+(aW.length+1)].filter (λ i=>decide (aW.length+3≤i)):=by rw[List.filter_append,List.filter_eq_nil_iff.2 (λ z bg=>by have:=wG z bg;simp;omega),gM]
  rw[gU];generalize AL:[a+(aW.length+1),b+(aW.length+1)].filter (λ i=>decide (aW.length+3≤i))=K;generalize fm:dm (aW++[p,A,B]) H.length K=back;have pA:∀i c,(aW++[p,A,B])[i]?=some c→back i=some c:=λ i c h=>by rw[←fm];exact aKn h
  have jJ:∀i,aW.length+3≤i→back i=(bt K i).map (·+H.length):=λ i h=>by rw[←fm];exact aKo (by rw[xS];exact h)
  have hid:=agD _ _ H (aKr back λ i c aA=>pA i c (by rw[show aW++[p,A,B]=(aW++[p])++[A,B]by simp,en (bF.1 aA).1];exact aA))
  rw[pP,agC _ _ _ _ _ (by simp[LI]),hid];have g1:(aW++[p,A,B])[aW.length+1]?=some A:=by rw[ha R];simp
  have g2:(aW++[p,A,B])[aW.length+2]?=some B:=by rw[ha R];simp
  have fo:=pA _ _ g1;have dE:=pA _ _ g2;have agG:=(bF.1 av).1;have agH:=(bF.1 b0).1;have agI:=(bF.1 cM).1;simp only[fk,fp,iq,ef,k7 aV,k7 j];have fin:∀(yE yF:Nat) (W:List Chunk),back (a+(aW.length+1))=some yE→back (b+(aW.length+1))=some yF→
    (((H.set p (.box (aT b1 yE cJ yF cK))).set A t0).set B t1++W)[yE]?=some (.ax 5 cJ o9 (aX b1.G))→(((H.set p (.box (aT b1 yE cJ yF cK))).set A t0).set B t1++W)[yF]?=some (.ax 5 cK nN (aX b1.O))→yE≠yF→
    W=K.map (λ i=>(((X++.box (aT b1 (a+(aW.length+1)) cJ (b+(aW.length+1)) cK)::t0::t1::gT)[i]?).map (Chunk.cL back)).getD (.iter [] 0))→
    ∃ap,some (r,((H.set p (.box (cB back (aT b1 (a+(aW.length+1)) cJ (b+(aW.length+1)) cK)))).set A t0).set B t1++K.map (λ i=>(((X++.box (aT b1 (a+(aW.length+1)) cJ (b+(aW.length+1)) cK)::t0::t1::gT)[i]?).map (Chunk.cL back)).getD (.iter [] 0)))=some (r,ap)∧qI p b1 ap∧sK p H ap:=by
   intro yE yF W gg fN rs aKu aKv aKw;rw[jx back b1 _ cJ _ cK _ _ gg fN,←aKw];refine⟨_,rfl,⟨yE,cJ,yF,cK,o9,nN,?_,rs,aKu,aKv⟩,by simp,λ k x az RI al=>?_,λ k x az RI al=>?_⟩
   ·rw[en (by simp;exact agG),dC (ba agF),dC (ba agE),ks agG]
   ·have kj:=(bF.1 az).1;have gh:A≠k:=λ e=>by subst e;rw[b0]at az;cases az;exact al
    have gr:B≠k:=λ e=>by subst e;rw[cM]at az;cases az;exact al
    rw[en (by simp;exact kj),dC gr,dC gh,dC (ba RI),az]
   ·have kj:=(bF.1 az).1;rw[en (by simp;exact kj)];by_cases gr:B=k
    ·subst gr;exact⟨t1,by rw[ks (by simp;exact kj)],j⟩
    ·rw[dC gr];by_cases gh:A=k
     ·subst gh;exact⟨t0,by rw[ks (by simp;exact kj)],aV⟩
     ·exact⟨x,by rw[dC gh,dC (ba RI),az],al⟩
  have DG:∀i,(X++.box (aT b1 (a+(aW.length+1)) cJ (b+(aW.length+1)) cK)::t0::t1::gT)[i+(aW.length+1)]?=(t0::t1::gT)[i]?:=λ i=>by rw[ha R,LI,show i+(aW.length+1)-aW.length=i+1 by omega,jM]
  have LJ:∀(y:Chunk) W,(((H.set p y).set A t0).set B t1++W)[A]?=some t0:=λ y W=>by rw[en (by simp;exact agH),dC (ba iC),ks (by simp;exact agH)]
  have LK:∀(y:Chunk) W,(((H.set p y).set A t0).set B t1++W)[B]?=some t1:=λ y W=>by rw[en (by simp;exact agI),ks (by simp;exact agI)]
  have DH:∀(y:Chunk) W i,(((H.set p y).set A t0).set B t1++W)[H.length+i]?=W[i]?:=λ y W i=>by rw[ha (by simp)];simp
  have gA:back (0+(aW.length+1))=some A:=by rw[cq];exact fo
  have ca:back (1+(aW.length+1))=some B:=by rw[qv 1];exact dE
  have hn:¬aW.length+3≤0+(aW.length+1):=R;have gh:¬aW.length+3≤1+(aW.length+1):=R;have tz:∀k,aW.length+3≤k+2+(aW.length+1):=λ k=>R
  rcases a with _|_|a<;>rcases b with _|_|b
  ·exact absurd rfl cU
  ·cases aB;cases ak;have pF:K=[]:=by rw[←AL];simp only[rS,hn,gh,decide_false]
   subst pF;exact fin A B [] gA ca (LJ _ _) (LK _ _) iC rfl
  ·cases aB;have pF:K=[b+2+(aW.length+1)]:=by rw[←AL];simp only[rS,hn,tz,decide_false,decide_true]
   subst pF;refine fin A (H.length+0) [.ax 5 cK nN (aX b1.O)] gA (by rw[jJ _ (tz b)];simp[bt]) (LJ _ _) (by rw[DH];rfl) R ?_;simp only[fk,fp];rw[DG];exact(congrArg (λ z=>[(G1 (Chunk.cL back) z).getD (.iter [] 0)]) ak).symm
  ·cases aB;cases ak;have pF:K=[]:=by rw[←AL];simp only[rS,hn,gh,decide_false]
   subst pF;exact fin B A [] ca gA (LK _ _) (LJ _ _) (ba iC) rfl
  ·exact absurd rfl cU
  ·cases aB;have pF:K=[b+2+(aW.length+1)]:=by rw[←AL];simp only[rS,cq,gh,tz,decide_false,decide_true]
   subst pF;refine fin B (H.length+0) [.ax 5 cK nN (aX b1.O)] ca (by rw[jJ _ (tz b)];simp[bt]) (LK _ _) (by rw[DH];rfl) R ?_;simp only[fk,fp];rw[DG];exact(congrArg (λ z=>[(G1 (Chunk.cL back) z).getD (.iter [] 0)]) ak).symm
  ·cases ak;have pF:K=[a+2+(aW.length+1)]:=by rw[←AL];simp only[rS,hn,tz,decide_false,decide_true]
   subst pF;refine fin (H.length+0) A [.ax 5 cJ o9 (aX b1.G)] (by rw[jJ _ (tz a)];simp[bt]) gA (by rw[DH];rfl) (LJ _ _) R ?_;simp only[fk,fp];rw[DG];exact(congrArg (λ z=>[(G1 (Chunk.cL back) z).getD (.iter [] 0)]) aB).symm
  ·cases ak;have pF:K=[a+2+(aW.length+1)]:=by rw[←AL];simp only[rS,cq,gh,tz,decide_false,decide_true]
   subst pF;refine fin (H.length+0) B [.ax 5 cJ o9 (aX b1.G)] (by rw[jJ _ (tz a)];simp[bt]) ca (by rw[DH];rfl) (LK _ _) R ?_;simp only[fk,fp];rw[DG];exact(congrArg (λ z=>[(G1 (Chunk.cL back) z).getD (.iter [] 0)]) aB).symm
  ·have pF:K=[a+2+(aW.length+1),b+2+(aW.length+1)]:=by rw[←AL];simp only[rS,tz,decide_true]
   subst pF;have gp:¬b=a:=R;refine fin (H.length+0) (H.length+1) [.ax 5 cJ o9 (aX b1.G),.ax 5 cK nN (aX b1.O)] (by rw[jJ _ (tz a)];simp[bt]) (by rw[jJ _ (tz b)];simp[bt,gp,qv]) (by rw[DH];rfl) (by rw[DH];rfl) R ?_;simp only[fk,fp];rw[DG,DG];have bG:=congrArg (λ z=>(G1 (Chunk.cL back) z).getD (.iter [] 0)) aB;have bH:=congrArg (λ z=>(G1 (Chunk.cL back) z).getD (.iter [] 0)) ak;exact(congr (congrArg (λ u v=>[u,v]) bG) bH).symm
def aKx(T cW:aa):Prop:=T.length≤cW.length∧(∀(k:Nat) (x:Chunk),T[k]?=some x→h3 x→cW[k]?=some x)∧∀(k:Nat) (x:Chunk),T[k]?=some x→x.refs=[]→∃lT:Chunk,cW[k]?=some lT∧lT.refs=[]
def eb(m:M)(L:aa):Prop:=∃A af B ag T,L=.box (aT m A af B ag)::T∧hq 1 m A af B ag T
def hr(f:Nat)(br:List U)(m:M)(r:U)(b1:M):Prop:=∀af aE ag aH,∃L,b4 E f (.ptr 0 0 0 0::br) [.box (aT m 1 af 2 ag),.ax 5 af aE (aX m.G),.ax 5 ag aH (aX m.O)]=some (r,L)∧eb b1 L
def agJ{m:M}{A af B ag:Nat}{T:aa}(h:hq 1 m A af B ag T):reach (.box (aT m A af B ag)::T) 64 [A,B] []=[A,B]:=by obtain⟨a,b,aE,aH,rfl,rfl,aB,ak,cU,_⟩:=h;have bG:=e8.2 (bF.1 aB).1;have bH:=e8.2 (bF.1 ak).1;simp[reach,Chunk.refs,aB,ak,bG,bH,ba cU]
def RJ{f:Nat}{br:List U}{r:U}{m b1:M}(he:E.ext f=none)(gR:bz br=[])(ai:bd r=[])(h:hr f br m r b1){A af B ag:Nat}{T:aa}(cd:hq 1 m A af B ag T):
  ∃bY cJ bV cK cW,cn f (.ptr 0 0 0 0::br) (.box (aT m A af B ag)::T) r (.box (aT b1 (bY+1) cJ (bV+1) cK)::cW)∧hq 1 b1 (bY+1) cJ (bV+1) cK cW∧aKx T cW:=by
 obtain⟨a,b,aE,aH,rfl,rfl,aB,ak,cU,an,aV,j⟩:=cd;have dc:=RF (m:=m) (af:=af) (ag:=ag) aB ak rfl rfl cU;obtain⟨ap,e,⟨A,cJ,B,cK,o9,nN,cC,i2,i3,i4⟩,bG,bH,cG⟩:=yD (f:=f) (br:=.ptr 0 0 0 0::br) (uS:=.ptr 0 0 0 0::br) (r:=r) (m:=m) (b1:=b1) (aW:=[]) (Z:=[]) (X:=[]) (p:=0) (A:=a+1) (B:=b+1) (H:=.box (aT m (a+1) af (b+1) ag)::T) he ai rfl aB ak R
  (by simp only[bz,bd,gR,c_];exact dc) (by simp only[cB,co,(ga _).2 br gR];rfl) rfl (by simp) (by simp) (by simp) (λ _ _=>rfl) (by simp) (λ _ _ _ _ _ h=>agJ h) (λ af aE ag aH=>by
   obtain⟨L,e,fi,cJ,eg,cK,cW,rfl,i⟩:=h af aE ag aH;exact⟨fi,cJ,eg,cK,cW,e,i⟩)
 match ap,cC,i2,i3,bG,bH,cG,e with
 |y::cW,cC,i2,i3,bG,bH,cG,e=>
  cases cC
  match A,B,i2,i3,i4,e with
  |0,_,i2,_,_,_=>cases i2
  |_+1,0,_,i3,_,_=>cases i3
  |bY+1,bV+1,i2,i3,i4,e=>
   refine⟨bY,cJ,bV,cK,cW,e,⟨bY,bV,o9,nN,rfl,rfl,i2,i3,R,?_,?_,?_⟩,?_,?_,?_⟩
   ·exact sd an (by simpa using bG)
   ·intro x al;obtain⟨eQ,mu⟩:∃eQ,T[0]?=some eQ:=⟨T[0],eT R⟩;obtain⟨lT,gg,fN⟩:=cG 1 eQ mu R (aV eQ mu);rw[jM,al]at gg;cases gg;exact fN
   ·intro x al;obtain⟨eQ,mu⟩:∃eQ,T[1]?=some eQ:=⟨T[1],eT R⟩;obtain⟨lT,gg,fN⟩:=cG 2 eQ mu R (j eQ mu);rw[jM,al]at gg;cases gg;exact fN
   ·simpa using bG
   ·exact λ k x az aF=>bH (k+1) x az R aF
   ·exact λ k x az aF=>cG (k+1) x az R aF
mutual
theorem agK {B:Nat} {H:aa}:∀a:U,bd a=[]→bd (ee B H a)=[]
 |.dead,_=>by simp[ee,bd]
 |.i x,_=>by simp[ee,bd]
 |.agg l,h=>by simp only[ee,bd]at h⊢;exact AM l h
 |.ref _ _ _ _,h=>by simp[bd]at h
 |.ptr _ _ _ _,h=>by simp[bd]at h
 |.dA _,h=>by simp[bd]at h
 |.x _,h=>by simp[bd]at h
 |.aR f a b,h=>by
  simp only[ee,bd,Pd]at h⊢
  exact⟨AM a h.1,AM b h.2⟩
 |.be l,h=>by simp only[ee,bd]at h⊢;exact AM l h
theorem AM {B:Nat} {H:aa}:∀l:List U,bz l=[]→bz (ew B H l)=[]
 |[],_=>by simp[ew,bz]
 |a::l,h=>by
  simp only[ew,bz,Pd]at h⊢
  exact⟨agK a h.1,AM l h.2⟩
end
def agL{B:Nat}{H:aa}:∀l:List (aD×U),w9 l=[]→w9 (u_ B H l)=[]
 |[],_=>by simp[u_,w9]
 |a::l,h=>by simp only[u_,w9,Pd]at h⊢;exact⟨agK a.2 h.1,agL l h.2⟩
def LL{B:Nat}{H:aa}{c:Nat}{x:Chunk}(h:x.refs=[]):(dN B H c x).refs=[]:=by
 cases x with
 |box l=>exact AM l h
 |map l=>exact agL l h
 |cZ t l=>exact AM l h
 |ae=>simp only[dN];split<;>rfl
 |ax=>simp only[dN];split<;>rfl
 |_=>rfl
def aKy{n:Nat}{m:M}{A af B ag:Nat}{T:aa}(cd:hq 1 m A af B ag T):∃cJ cK cW,(Chunk.box (ew n (.box (aT m A af B ag)::T) (aT m A af B ag))::ep n (.box (aT m A af B ag)::T) 1 T)=.box (aT m A cJ B cK)::cW∧hq 1 m A cJ B cK cW:=by
 obtain⟨a,b,aE,aH,rfl,rfl,aB,ak,cU,an,aV,j⟩:=cd;have e:ew n (.box (aT m (a+1) af (b+1) ag)::T) (aT m (a+1) af (b+1) ag)=aT m (a+1) (if a+1<n then af else 0) (b+1) (if b+1<n then ag else 0):=by by_cases ca:a+1<n<;>by_cases cc:b+1<n<;>simp[aT,ew,ee,cP.c,aB,ak,qS,ca,cc]
 have g:∀k,(ep n (.box (aT m (a+1) af (b+1) ag)::T) 1 T)[k]?=(T[k]?).map (dN n (.box (aT m (a+1) af (b+1) ag)::T) (1+k)):=ul _ _ T 1;refine⟨_,_,_,by rw[e],a,b,if a+1<n then aE else 0,if b+1<n then aH else 0,rfl,rfl,?_,?_,cU,by rw[pK];exact an,λ x al=>?_,λ x al=>?_⟩
 ·rw[g,aB,d',qv 1 a];by_cases ca:a+1<n<;>simp only[dN,ca,if_true,if_false]
 ·rw[g,ak,d',qv 1 b];by_cases ca:b+1<n<;>simp only[dN,ca,if_true,if_false]
 ·rw[g]at al;obtain⟨eQ,q,rfl⟩:=c0.1 al;exact LL (aV eQ q)
 ·rw[g]at al;obtain⟨eQ,q,rfl⟩:=c0.1 al;exact LL (j eQ q)
def yG{n:Nat}{m:M}{A af B ag:Nat}{T:aa}(cd:hq 1 m A af B ag T):eb m (Chunk.box (ew n (.box (aT m A af B ag)::T) (aT m A af B ag))::ep n (.box (aT m A af B ag)::T) 1 T):=by obtain⟨cJ,cK,cW,e,i⟩:=aKy (n:=n) cd;exact⟨_,_,_,_,_,e,i⟩
def nO{m:M}{a af b ag aE aH:Nat}{x y:Chunk}{T:aa}(j:(x::y::T)[a]?=some (.ax 5 af aE (aX m.G)))(J:(x::y::T)[b]?=some (.ax 5 ag aH (aX m.O)))(cU:a≠b)(al:x.refs=[])(aZ:y.refs=[]):hq 1 m (a+1) af (b+1) ag (x::y::T):=
 ⟨a,b,aE,aH,rfl,rfl,j,J,cU,by simp,λ z h=>by cases h;exact al,λ z h=>by cases h;exact aZ⟩
def qJ(w:Nat)(a_:Int)(p q:Nat)(k:Int)(g:List (List bh)):List (List bh):=if 0≤k then rM w a_ p q k.toNat g else rN w a_ p q (-k).toNat g
def jn(p:Nat)(k:Int)(g:List (List bh)):List (List bh):=if 0≤k then rO p k.toNat g else[]
def aKz(w h:Nat)(hw:1≤w∧w≤132)(aO:1≤h∧h≤60)(g:List (List bh))(aP:g.length=h)(rL:jV w g)(a:eh)(p q:Nat)(k:Int)(lE:p<q)(bn:q≤h)(LA:-((q:Int)-p)≤k)(BM:k≤(q:Int)-p)(H:aa):
  ∃n,(jn p k g).length=n∧cn 144 [.agg [w,h,.i (.ae 1 (bX g) false)],p,q,k,.agg [a.c1,a.a_,a.cY]] H (.be [.agg [w,h,.x (.d H.length 0 0 h)],.x (.d (H.length+1) 0 0 n),↑(0:Int)]) (H++[.ax 5 0 0 (aX (qJ w a.a_ p q k g)),.ax 5 0 0 (aX (jn p k g))]):=by
 by_cases aV:0≤k
 ·obtain⟨ab,rfl⟩:=jk aV;refine⟨ab,?_,?_⟩
  ·rw[jn,if_pos aV,oe,rO,gE,ic];omega
  ·rw[qJ,jn,if_pos aV,if_pos aV,oe];exact aIk w h hw aO g aP rL a p q ab lE bn R H
 ·obtain⟨ab,a'⟩:=jk (show 0≤-k by omega);obtain rfl:k=-(ab:Int):=R;refine⟨0,?_,?_⟩
  ·rw[jn,if_neg aV];rfl
  ·rw[qJ,jn,if_neg aV,if_neg aV,a',oe];exact aIn w h hw aO g aP rL a p q ab lE bn R R H
structure bk (m:M):Prop where
 w:1≤m.w∧m.w≤132
 h:1≤m.h∧m.h≤60
 G:m.G.length=m.h∧jV m.w m.G
 O:m.O.length=m.h∧jV m.w m.O
 aG:(0≤m.aG.r∧m.aG.r<m.h)∧(0≤m.aG.c∧m.aG.c<m.w)∧(m.aG.p=true→m.aG.c=m.w-1)
 bP:(0≤m.bP.aG.r∧m.bP.aG.r<m.h)∧(0≤m.bP.aG.c∧m.bP.aG.c<m.w)∧(m.bP.aG.p=true→m.bP.aG.c=m.w-1)
 a:ik m.a=true
 aE:ik m.bP.a=true
 cZ:0≤m.cz∧m.cz<m.b8∧m.b8≤m.h
 cv:m.cv.length=m.w
 back:m.back.length≤500∧∀r∈m.back,1≤r.length∧r.length≤132∧hp r=true
 bK:(m.md.dn=66∨m.md.dn=48)∧(m.md.s1=66∨m.md.s1=48)∧(m.md.dM=0∨m.md.dM=1)
 hF:(m.bP.dn=66∨m.bP.dn=48)∧(m.bP.s1=66∨m.bP.s1=48)∧(m.bP.dM=0∨m.bP.dM=1)
 eH:m.eH.length≤100000
 di:m.di.length≤1000
def bk.cj{m:M}(h:bk m):hU (cj m):=⟨by have:=h.w;exact⟨by show(1:Int)≤(m.w:Int);omega,by show(m.w:Int)≤132;omega⟩,by have:=h.h;exact⟨by show(1:Int)≤(m.h:Int);omega,by show(m.h:Int)≤60;omega⟩,h.cZ⟩
def k'(m:M)(fw hO:Int)(kn:Bool):M:=
 {m with G:=qJ m.w m.a.a_ fw.toNat m.b8.toNat (eB hO (-(m.b8-fw)) (m.b8-fw)) m.G,fL:=m.fL &&!(kn &&(decide (m.cz=0) &&!m.md.fP)),back:=if kn &&(decide (m.cz=0) &&!m.md.fP)then tx m.back (jn fw.toNat (eB hO (-(m.b8-fw)) (m.b8-fw)) m.G)else m.back}
def G2{m:M}(hm:bk m)(fw hO:Int)(kn:Bool)(bq:0≤fw∧fw<m.b8):hr 107 [.i (.v (.int .i64 (fw))),.i (.v (.int .i64 (hO))),.i (.v (.bool (kn)))] m (.be []) (k' m fw hO kn):=by
 intro af aE ag aH;obtain⟨t,rfl⟩:=jk bq.1;obtain⟨q,bn⟩:=jk (show 0≤m.b8 by omega);obtain⟨aRH,aRI,aRJ⟩:=hm.cZ;obtain⟨gg,fN⟩:=hm.w;obtain⟨j,J⟩:=hm.h;have kJ:=pU (n:=hO) (show-(m.b8-t)≤m.b8-t by omega);obtain⟨n,aF,ao⟩:∃n,(jn t (eB hO (-(m.b8-t)) (m.b8-t)) m.G).length=n∧∀H,dj E (b4 E) 144 [.agg [.i (.v (.int .i64 (m.w))),.i (.v (.int .i64 (m.h))),.i (.ae 1 (bX m.G) false)],.i (.v (.int .i64 (t))),.i (.v (.int .i64 (m.b8))),.i (.v (.int .i64 (eB hO (-(m.b8-t)) (m.b8-t)))),.agg [.i (.v (.int .i64 (m.a.c1))),.i (.v (.int .i64 (m.a.a_))),.i (.v (.int .i64 (m.a.cY)))]] H=some (.be [.agg [.i (.v (.int .i64 (m.w))),.i (.v (.int .i64 (m.h))),.x (.d H.length 0 0 m.h)],.x (.d (H.length+1) 0 0 n),.i (.v (.int .i64 (0)))],H++[.ax 5 0 0 (aX (qJ m.w m.a.a_ t q (eB hO (-(m.b8-t)) (m.b8-t)) m.G)),.ax 5 0 0 (aX (jn t (eB hO (-(m.b8-t)) (m.b8-t)) m.G))]):=by refine⟨_,rfl,λ H=>?_⟩;obtain⟨n,aF,e⟩:=aKz m.w m.h hm.w hm.h m.G hm.G.1 hm.G.2 m.a t q (eB hO (-(m.b8-t)) (m.b8-t)) R R R R H;rw[aF,bn];rw[bn]at e;exact e
 have j8:=DB m.G;have kw:=AH m.G;have aKA:(bX m.G).length=m.h:=by rw[f',hm.G.1]
 have aKB:(aX m.G).length=m.h:=by rw[gj,hm.G.1]
 have aKC:(jn t (eB hO (-(m.b8-t)) (m.b8-t)) m.G).length≤60:=by
  have j:=hm.G.1;have J:=hm.h.2
  unfold jn rO;split
  ·rw[gE,ic];omega
  ·simp
 have hOr:∀r∈jn t (eB hO (-(m.b8-t)) (m.b8-t)) m.G,r.length≤132:=by
  intro r ai;unfold jn rO at ai;split at ai
  ·have:=(hm.G.2 r (uQ (DI ai))).1;have:=hm.w.2;omega
  ·simp at ai
 have aI:=λ H=>aII m.back (jn t (eB hO (-(m.b8-t)) (m.b8-t)) m.G) hm.back.1 aKC (λ r ai=>by
  rcases fT.1 ai with h|h
  ·exact(hm.back.2 r h).2.1
  ·exact hOr r h) H
 have zf:=DB (jn t (eB hO (-(m.b8-t)) (m.b8-t)) m.G);have BG:=AH (jn t (eB hO (-(m.b8-t)) (m.b8-t)) m.G);have p7:(bX (jn t (eB hO (-(m.b8-t)) (m.b8-t)) m.G)).length=n:=by rw[f',aF]
 have ft:(aX (jn t (eB hO (-(m.b8-t)) (m.b8-t)) m.G)).length=n:=by rw[gj,aF]
 have fh:max (0-(m.b8-t)) (min hO (m.b8-t))=eB hO (-(m.b8-t)) (m.b8-t):=by unfold eB;rw[Int.zero_sub]
 have aKD:m.b8.toNat=q:=by rw[bn];rfl
 unfold k';simp only[oe,aKD];generalize eB hO (-(m.b8-t)) (m.b8-t)=L at*;generalize qJ m.w m.a.a_ t q L m.G=G3 at*;generalize tx m.back (jn t L m.G)=P at*;generalize (jn t L m.G).map (λ r=>aD.ae 5 (b_ r) false)=aRK at*;generalize aX (jn t L m.G)=aRL at*;generalize bX (jn t L m.G)=aRM at*;generalize m.G.map (λ r=>aD.ae 5 (b_ r) false)=aKE at*;generalize lS:aX m.G=aRN at*;have fin:∀{b1:M} {af ag aE aH:Nat} {z y:Chunk} {T:aa},b1.O=m.O→b1.G=G3→z.refs=[]→eb b1 (.box (aT b1 4 af 2 ag)::z::.ax 5 ag aH (aX m.O)::y::.ax 5 af aE (aX G3)::T):=λ{b1 af ag aE aH z y T} ao aI bg=>⟨_,_,_,_,_,rfl,nO (a:=3) (b:=1) (by rw[aI];rfl) (by rw[ao];rfl) (by decide) bg rfl⟩
 have ai:((lN 4 2).all λ c=>!(c==3||c==1000003))=true:=rfl;cases kn with
 |false=>rw[bp Gl];simp(disch:=omega)only[au,simprocAttr,KB,c',bM,bT,ai,ao,aI,fh,j8,kw,zf,BG];refine⟨_,rfl,?_⟩;exact fin rfl rfl rfl
 |true=>
  by_cases aV:m.cz=0
  ·have aM:decide (m.cz=0)=true:=by simp[aV]
   cases AN:m.md.fP with
   |false=>simp only[aM,rF,Ah,if_true];rw[bp Gl];simp(disch:=omega)only[au,simprocAttr,KB,c',bM,bT,ai,ao,aI,fh,j8,kw,zf,BG,AN];refine⟨_,rfl,?_⟩;exact fin rfl rfl rfl
   |true=>simp only[aM,J_,yb,if_false,fK];rw[bp Gl];simp(disch:=omega)only[au,simprocAttr,KB,c',bM,bT,ai,ao,aI,fh,j8,kw,zf,BG,AN];refine⟨_,rfl,?_⟩;exact fin rfl rfl rfl
  ·have aM:decide (m.cz=0)=false:=by simp[aV]
   simp only[aM,ly,yb,if_false,fK];rw[bp Gl];simp(disch:=omega)only[au,simprocAttr,KB,c',bM,bT,ai,ao,aI,fh,j8,kw,zf,BG];refine⟨_,rfl,?_⟩;exact fin rfl rfl rfl
inductive eJ:List bh→Prop
 |nil:eJ []
 |one {c l}:iU c=true→c.w=1→eJ l→eJ (c::l)
 |two {c l}:iU c=true→c.w=2→eJ l→eJ (c::cont c.a::l)
def RL:∀(n:Nat) (l:List bh),l.length≤n→hp l=true→eJ l
 |_,[],_,_=>.nil
 |0,_::_,h,_=>by simp at h
 |n+1,[c],_,h=>by simp only[hp,cO,decide_eq_true_eq]at h;exact .one h.1 h.2 .nil
 |n+1,c::d::l,an,h=>by
  by_cases hw:c.w=1
  ·rw[Rg hw,cO]at h;exact .one h.1 hw (RL n _ (by simpa using an) h.2)
  ·rw[Rh hw]at h;simp only[cO,decide_eq_true_eq]at h;obtain⟨⟨j,J,rfl⟩,aw⟩:=h;exact .two j J (RL n _ (by simp at an;omega) aw)
def eJ.p{l:List bh}(h:eJ l):hp l=true:=by
 induction h with
 |nil=>rfl
 |one j J _ a8=>rw[Rg J,j,a8];rfl
 |two j J _ a8=>rw[Rh R,j,a8,J];simp
def wH{l:List bh}:hp l=true↔eJ l:=⟨RL _ l (cQ _),eJ.p⟩
def eJ.iP{a b:List bh}(h:eJ a)(ak:eJ b):eJ (a++b):=by
 induction h with
 |nil=>exact ak
 |one j J _ a8=>exact .one j J a8
 |two j J _ a8=>exact .two j J a8
def RM{a_:Int}(h:-1≤a_∧a_≤255):iU (qD a_)=true:=by
 have j:ik ⟨-1,a_,0⟩=true:=by simp only[ik,cO,decide_eq_true_eq];omega
 have J:(o5 [32] &&decide (Ds [32]=1))=true:=by decide
 simp only[iU,qD,j,Ah];exact J
def eJ.o_{a_:Int}(h:-1≤a_∧a_≤255):∀n,eJ (dq n a_)
 |0=>.nil
 |n+1=>by rw[dq,EK];exact .one (RM h) rfl (eJ.o_ h n)
def DJ{a:eh}(h:ik a=true):-1≤a.a_∧a.a_≤255:=by simp only[ik,cO,decide_eq_true_eq]at h;omega
def agM{c:bh}(h:iU c=true):ik c.a=true:=by simp only[iU,cO]at h;exact h.2
def LM(c:bh)(l:List bh)(k:Nat):da (c::l) (k+2)=c::da l (k+1):=by
 unfold da;rw[jM];cases l[k+1]? with
 |none=>rfl
 |some d=>simp only[Nat.zero_lt_succ,true_and];split<;>rfl
def agN(l:List bh):da l 0=l:=by unfold da;split<;>simp
def eJ.gW{l:List bh}(h:eJ l){d:bh}(aM:l[0]?=some d):d.w≠0:=by
 cases h with
 |nil=>cases aM
 |one j J _=>cases aM;omega
 |two j J _=>cases aM;omega
def agO{c:bh}{l:List bh}(h:eJ l):da (c::l) 1=c::l:=by
 unfold da;rw[jM];cases e:l[0]? with
 |none=>rfl
 |some d=>simp only[h.gW e,and_false,if_false]
def eJ.pV{l:List bh}(h:eJ l):∀k,eJ ((da l k).take k)∧eJ ((da l k).drop k):=by
 induction h with
 |nil=>intro k;simp[da];exact .nil
 |@one c l j J aw a8=>
  intro k
  match k with
  |0=>rw[agN];exact⟨.nil,.one j J aw⟩
  |1=>rw[agO aw];exact⟨.one j J .nil,aw⟩
  |k+2=>rw[LM];exact⟨.one j J (a8 (k+1)).1,(a8 (k+1)).2⟩
 |@two c l j J aw a8=>
  intro k
  match k with
  |0=>rw[agN];exact⟨.nil,.two j J aw⟩
  |1=>have e:da (c::cont c.a::l) 1=qD c.a.a_::qD c.a.a_::l:=rfl;rw[e];have ak:=RM (DJ (agM j));exact⟨.one ak rfl .nil,.one ak rfl aw⟩
  |2=>rw[LM,agO aw];exact⟨.two j J .nil,aw⟩
  |k+3=>rw[LM,LM];exact⟨.two j J (a8 (k+1)).1,(a8 (k+1)).2⟩
def eJ.bi{l:List bh}(h:eJ l)(k:Nat):eJ (da l k):=by have j:=h.pV k;rw[←JL k (da l k)];exact j.1.iP j.2
def G4{l:List bh}{ab k:Nat}(h:ab<k):(da l k).take ab=l.take ab:=by
 unfold da;split
 ·split
  ·rw[List.take_set_of_le R,List.take_set_of_le R]
  ·rfl
 ·rfl
def eJ.fix{l:List bh}(h:eJ l):∀n,eJ (k8 (l.take n)):=by
 induction h with
 |nil=>intro n;simp[k8];exact .nil
 |@one c l j J aw a8=>
  intro n
  match n with
  |0=>simp[k8];exact .nil
  |n+1=>
   have e:k8 (c::l.take n)=c::k8 (l.take n):=by
    cases an:l.take n with
    |nil=>simp[k8,J]
    |cons d r=>
     simp only[k8,cT,Nat.add_sub_cancel,jM];cases (d::r)[r.length]? with
     |none=>rfl
     |some x=>simp only;split<;>rfl
   rw[vM,e];exact .one j J (a8 n)
 |@two c l j J aw a8=>
  intro n;have ak:=RM (DJ (agM j))
  match n with
  |0=>simp[k8];exact .nil
  |1=>simp[k8,J];exact .one ak rfl .nil
  |n+2=>
   have e:k8 (c::cont c.a::l.take n)=c::cont c.a::k8 (l.take n):=by
    cases an:l.take n with
    |nil=>simp[k8,cont]
    |cons d r=>
     simp only[k8,cT,Nat.add_sub_cancel,jM];cases (d::r)[r.length]? with
     |none=>rfl
     |some x=>simp only;split<;>rfl
   rw[vM,vM,e];exact .two j J (a8 n)
def eJ.aKF{A B C:List bh}(h:eJ (A++(B++C)))(k:Nat):eJ (k8 (A++(B++C.take k))):=by have aw:=h.fix (A.length+(B.length+k));rwa [List.take_length_add_append,List.take_length_add_append]at aw
def eJ.mJ{l:List bh}(h:eJ l)(bc n:Nat){a:eh}(aB:ik a=true):eJ (mJ l bc n a):=
 ((h.pV bc).1.iP ((eJ.o_ (DJ aB) (min n (l.length-bc))).iP (h.pV bc).2)).aKF _
def eJ.o7{l:List bh}(h:eJ l){bc n:Nat}(ah:bc<l.length)(aF:1≤n){a:eh}(aB:ik a=true):eJ (o7 l bc n a):=by have j:=h.pV bc;have J:=(h.bi bc).pV (bc+min n (l.length-bc));unfold Go.VI.o7;rw[G4 R];exact j.1.iP (J.2.iP (eJ.o_ (DJ aB) _))
def eJ.pS{l:List bh}(h:eJ l){p q:Nat}(lE:p≤q){a:eh}(aB:ik a=true):eJ (pS l p q a):=by
 unfold Go.VI.pS;split
 ·exact h
 ·have j:=h.pV p;have J:=(h.bi p).pV q;rw[G4 R];exact j.1.iP ((eJ.o_ (DJ aB) _).iP J.2)
def eJ.rP{l:List bh}(h:eJ l)(w:Nat):eJ (rP l w):=by
 unfold Go.VI.rP;split
 ·exact h.iP (eJ.o_ (by decide) _)
 ·exact h.fix w
def eJ.o6{l:List bh}(h:eJ l){bc:Nat}{t:List Int}{w:Int}{a:eh}(hw:w=1∨w=2)(ah:(bc:Int)+w≤l.length)(bq:iU ⟨t,w,a⟩=true):eJ (o6 l bc t w a):=by
 unfold Go.VI.o6;have j:=h.pV bc;have z:iA l bc 1=da l bc:=rfl;rcases hw with rfl|rfl
 ·rw[if_neg (by decide)];have J:=(h.bi bc).pV (bc+1);have e:(iA l bc 2).set bc ⟨t,1,a⟩=(da l bc).take bc++(⟨t,1,a⟩::(da (da l bc) (bc+1)).drop (bc+1)):=by
   have an:bc<(iA l bc 2).length:=by rw[wA];omega
   rw[List.set_eq_take_append_cons_drop,if_pos an];show(da (da l bc) (bc+1)).take bc++_=_;rw[G4 R];rfl
  rw[e];exact j.1.iP (.one bq rfl J.2)
 ·rw[if_pos rfl];have J:=((h.bi bc).bi (bc+1)).pV (bc+2);have e:((iA l bc 3).set bc ⟨t,2,a⟩).set (bc+1) (cont a)=(da l bc).take bc++(⟨t,2,a⟩::cont a::(da (da (da l bc) (bc+1)) (bc+2)).drop (bc+2)):=by
   have an:bc+1<(iA l bc 3).length:=by rw[wA];omega
   have al:iA l bc 3=da (da (da l bc) (bc+1)) (bc+2):=rfl;rw[al]at an⊢;have aZ:(da (da (da l bc) (bc+1)) (bc+2)).take bc=(da l bc).take bc:=by rw[G4 R,G4 R]
   generalize da (da (da l bc) (bc+1)) (bc+2)=x at*;have ao:x.set bc ⟨t,2,a⟩=x.take bc++⟨t,2,a⟩::x.drop (bc+1):=by rw[List.set_eq_take_append_cons_drop,if_pos R]
   rw[ao,xB _ _ (by rw[gE];omega),gE,show bc+1-min bc x.length=1 by omega,ji an,List.set_cons_succ,CH,aZ]
  rw[e];exact j.1.iP (.two bq rfl J.2)
def uT(c:fO)(w h:Nat):Prop:=(0≤c.r∧c.r<h)∧(0≤c.c∧c.c<w)∧(c.p=true→c.c=w-1)
def bk.jX{m:M}(h:bk m){c:fO}(ah:uT c m.w m.h):bk {m with aG:=c}:=
 {w:=h.w,h:=h.h,G:=h.G,O:=h.O,aG:=ah,bP:=h.bP,a:=h.a,aE:=h.aE,cZ:=h.cZ,cv:=h.cv,back:=h.back,bK:=h.bK,hF:=h.hF,eH:=h.eH,di:=h.di}
def bk.b8{m:M}(h:bk m):hU (Go.VI.cj m):=h.cj
def aKG{r n:Int}{b:gv}(h:hU b)(ai:0≤r∧r<b.h):0≤wB r n b∧wB r n b<b.h:=by
 obtain⟨_,⟨aw,bb⟩,bu,dw,gx⟩:=h;unfold wB;have an:DD r b≤DE r b∧0≤DD r b∧DE r b<b.h:=by unfold DD DE;split<;>omega
 have:=pU (n:=r-eB n (-1000) 1000) an.1;omega
def AO(c:fO)(n:Int){m:M}(h:bk m):uT (iB c n (cj m)) m.w m.h:=by have ak:=h.cj;have j:=yA c ak;have J:=aKG (n:=n) ak j.1;exact⟨J,j.2,by simp[iB]⟩
def LN(c:fO)(n:Int){m:M}(h:bk m):uT (ni c n (cj m)) m.w m.h:=by have ak:=h.cj;have j:=yA c ak;have hw:=h.w;have J:=pU (n:=(gk c (cj m)).c+eB n (-1000) 1000) (show(0:Int)≤(cj m).w-1 by show(0:Int)≤(m.w:Int)-1;omega);refine⟨j.1,?_,by simp[ni]⟩;show 0≤wC _ _ _∧wC _ _ _<(m.w:Int);unfold wC;have aw:(cj m).w=(m.w:Int):=rfl;rw[aw]at J⊢;omega
def G5(r c:Int){m:M}(h:bk m):uT ⟨toR r (cj m),k9 c (cj m),false⟩ m.w m.h:=by
 have hw:=h.w;have aO:=h.h;have bq:=h.cZ;have ao:(cj m).w=(m.w:Int):=rfl;have aI:(cj m).h=(m.h:Int):=rfl;have bE:(cj m).cz=m.cz:=rfl;have c6:(cj m).b8=m.b8:=rfl;have j:=pU (n:=eB c 1 1000-1) (show(0:Int)≤(cj m).w-1 by rw[ao];omega);refine⟨?_,?_,by simp⟩
 ·show 0≤toR r (cj m)∧toR r (cj m)<(m.h:Int);unfold toR;split
  ·have:=pU (n:=(cj m).cz+(eB r 1 1000-1)) (show(cj m).cz≤(cj m).b8-1 by rw[bE,c6];omega);rw[bE,c6]at this⊢;omega
  ·have:=pU (n:=eB r 1 1000-1) (show(0:Int)≤(cj m).h-1 by rw[aI];omega);rw[aI]at this⊢;omega
 ·show 0≤k9 c (cj m)∧k9 c (cj m)<(m.w:Int);unfold k9;rw[ao]at j⊢;omega
def agP(c:fO){m:M}(h:bk m):uT (uR c (cj m)) m.w m.h:=by have j:=yA c h.cj;refine⟨j.1,j.2,λ e=>?_⟩;simp only[uR,cO,decide_eq_true_eq]at e;exact e.2
def agQ(c:fO){m:M}(h:bk m):uT (jw c (cj m)) m.w m.h:=by have j:=yA c h.cj;exact⟨j.1,j.2,by simp[jw]⟩
def RN(c:fO){m:M}(h:bk m):uT (o8 c (cj m)).1 m.w m.h:=by
 unfold o8;split
 ·exact agQ c h
 ·exact AO _ _ h
def RO(c:fO){m:M}(h:bk m):uT (rQ c (cj m)).1 m.w m.h:=by
 unfold rQ;split
 ·exact agQ c h
 ·exact AO _ _ h
def RP{w:Nat}{a:eh}(aB:ik a=true):(dq w a.a_).length=w∧hp (dq w a.a_)=true:=⟨wy _ _,(eJ.o_ (DJ aB) w).p⟩
def aKH{w:Nat}{a:eh}(aB:ik a=true){p q k:Nat}{g:List (List bh)}(h:jV w g):jV w (rM w a.a_ p q k g):=by
 intro r ai;simp only[rM,fT,RQ]at ai;rcases ai with j|(j|⟨_,rfl⟩)|j
 ·exact h r (DI j)
 ·exact h r (uQ (DI j))
 ·exact RP aB
 ·exact h r (uQ j)
def aKI{w:Nat}{a:eh}(aB:ik a=true){p q k:Nat}{g:List (List bh)}(h:jV w g):jV w (rN w a.a_ p q k g):=by
 intro r ai;simp only[rN,fT,RQ]at ai;rcases ai with j|(⟨_,rfl⟩|j)|j
 ·exact h r (DI j)
 ·exact RP aB
 ·exact h r (uQ (DI j))
 ·exact h r (uQ j)
def bk.yH{m:M}(h:bk m){fw n:Int}{kn:Bool}(bq:0≤fw∧fw<m.b8):bk (k' m fw n kn):=by
 obtain⟨t1,t2,t3⟩:=h.cZ;have an:=pU (n:=n) (show-(m.b8-fw)≤m.b8-fw by omega);have la:=h.G;have aRO:=h.w;have aKJ:(qJ m.w m.a.a_ fw.toNat m.b8.toNat (eB n (-(m.b8-fw)) (m.b8-fw)) m.G).length=m.h∧jV m.w (qJ m.w m.a.a_ fw.toNat m.b8.toNat (eB n (-(m.b8-fw)) (m.b8-fw)) m.G):=by
  generalize eB n (-(m.b8-fw)) (m.b8-fw)=k at*;unfold qJ;split
  ·exact⟨by rw[af8 R R];exact la.1,aKH h.a la.2⟩
  ·exact⟨by rw[af9 R R];exact la.1,aKI h.a la.2⟩
 have cM:(k' m fw n kn).back.length≤500∧∀r∈(k' m fw n kn).back,1≤r.length∧r.length≤132∧hp r=true:=by
  unfold k';simp only;generalize eB n (-(m.b8-fw)) (m.b8-fw)=k at*;split
  ·refine⟨agi _ _,λ r ai=>?_⟩;rcases fT.1 (uQ ai)with j|j
   ·exact h.back.2 r j
   ·unfold jn rO at j;split at j
    ·have:=la.2 r (uQ (DI j));exact⟨R,R,this.2⟩
    ·simp at j
  ·exact h.back
 exact{w:=h.w,h:=h.h,G:=aKJ,O:=h.O,aG:=h.aG,bP:=h.bP,a:=h.a,aE:=h.aE,cZ:=h.cZ,cv:=h.cv,back:=cM,bK:=h.bK,hF:=h.hF,eH:=h.eH,di:=h.di}
def mL(m:M):M:=if(o8 m.aG (cj m)).2=true then k' {m with aG:=(o8 m.aG (cj m)).1} m.cz 1 true else{m with aG:=(o8 m.aG (cj m)).1}
def bk.feed{m:M}(h:bk m):bk (mL m):=by
 unfold mL;split
 ·exact(h.jX (RN m.aG h)).yH ⟨h.cZ.1,h.cZ.2.1⟩
 ·exact h.jX (RN m.aG h)
def AP{f B:Nat}{ng:List ResultVar}{K:Fr→aa→Option (eD×Fr×aa)}{x:Option (eD×Fr×aa)}{r:U}{b1:M}(P:Fr→aa→Prop)(j:∃I H,x=some (.normal,I,H)∧P I H)
  (J:∀I H,P I H→∃L,vS E f B ng (vQ K (some (.normal,I,H)))=some (r,L)∧eb b1 L):∃L,vS E f B ng (vQ K x)=some (r,L)∧eb b1 L:=by
 obtain⟨I,H,rfl,h⟩:=j;exact J I H h
def h4(m:M)(H:aa):Prop:=∃a af b ag T,H=.box (aT m (a+1) af (b+1) ag)::T∧hq 1 m (a+1) af (b+1) ag T
def mb{f:Nat}{br:List U}{r:U}{m b1:M}(he:E.ext f=none)(gR:bz br=[])(ai:bd r=[])(h:hr f br m r b1){H:aa}(aQ:h4 m H):∃ap,cn f (.ptr 0 0 0 0::br) H r ap∧h4 b1 ap:=by obtain⟨a,af,b,ag,T,rfl,i⟩:=aQ;obtain⟨bY,cJ,bV,cK,cW,e,zu,_⟩:=RJ he gR ai h i;exact⟨_,e,bY,cJ,bV,cK,cW,rfl,zu⟩
def h4.iX{n:Nat}{m:M}{H:aa}(h:h4 m H):eb m (ep n H 0 H):=by obtain⟨a,af,b,ag,T,rfl,i⟩:=h;exact yG i
def h4.dF{m:M}{af ag aE aH:Nat}{T:aa}:h4 m (.box (aT m 1 af 2 ag)::.ax 5 af aE (aX m.G)::.ax 5 ag aH (aX m.O)::T):=⟨0,af,1,ag,_,rfl,nO rfl rfl (by decide) rfl rfl⟩
def eb.dF{m:M}{af ag aE aH:Nat}{T:aa}:eb m (.box (aT m 1 af 2 ag)::.ax 5 af aE (aX m.G)::.ax 5 ag aH (aX m.O)::T):=⟨_,_,_,_,_,rfl,nO (a:=0) (b:=1) rfl rfl (by decide) rfl rfl⟩
def G6{m:M}(hm:bk m):hr 92 [] m (.be []) (mL m):=by
 intro af aE ag aH;have ak:=hm.cj;have ao:=λ z=>G0 (m:=m) (a:=0) (b:=1) (af:=af) (ag:=ag) (T:=.ax 5 af aE (aX m.G)::.ax 5 ag aH (aX m.O)::z) rfl rfl (by decide)
 have aI:=λ H=>aI4 m.aG ak H
 unfold mL;have aS:=hm.jX (RN m.aG hm);obtain⟨c,ah⟩:∃c,o8 m.aG (cj m)=c:=⟨_,rfl⟩;rw[ah]at aI aS⊢;simp only[cq,c2,cj]at ao aI;obtain⟨⟨G7,td,kK⟩,k⟩:=c;simp only at*;cases k with
 |false=>simp only[fK,if_false]at aI⊢;rw[bp Qk];simp(disch:=omega)only[au,simprocAttr,adH,bM,bT,bC,ao,aI];exact⟨_,rfl,eb.dF⟩
 |true=>simp only[if_true]at aI⊢;obtain⟨bY,cJ,bV,cK,cW,bE,i3,cG⟩:=RJ (f:=107) rfl rfl rfl (G2 aS m.cz 1 true ⟨hm.cZ.1,hm.cZ.2.1⟩) (nO (m:={m with aG:=⟨G7,td,kK⟩}) (a:=0) (b:=1) (af:=af) (ag:=ag) (aE:=aE) (aH:=aH) (x:=.ax 5 af aE (aX m.G)) (y:=.ax 5 ag aH (aX m.O)) (T:=[.box [.i (.v (.int .i64 (G7))),.i (.v (.int .i64 (td))),.i (.v (.bool (kK)))]]) rfl rfl (by decide) rfl rfl);simp only[cq,c2]at bE;rw[bp Qk];simp(disch:=omega)only[au,simprocAttr,adH,bM,bT,bC,ao,aI,bE];exact⟨_,rfl,yG i3⟩
def agR{m:M}{af ag aE aH:Nat}{x y:List bS}{r:Nat}{bR:List (List aD)}(ai:m.aG.r=r)(aO:r<m.h)(al:x[r]?=some (.own bR)):∃L,b4 E 96 [.ptr 0 0 0 0] [.box (aT m 1 af 2 ag),.ax 5 af aE x,.ax 5 ag aH y]=some (.x (.h 1 af aE r),.box (aT m 1 af 2 ag)::.ax 5 af aE x::.ax 5 ag aH y::L):=by rw[bp adL];simp(disch:=omega)only[au,simprocAttr,aE0,c',bM,bT,bC,ai,al];exact⟨_,rfl⟩
def agS{f:Nat}{m:M}{X Y:Chunk}{a af b ag s r:Nat}{T:aa}(he:E.ext f=none)
  (h:∃L,b4 E f [.ptr 0 0 0 0] [.box (aT m 1 af 2 ag),X,Y]=some (.x (.h 1 af s r),.box (aT m 1 af 2 ag)::X::Y::L))
  (j:T[a]?=some X)(J:T[b]?=some Y)(aw:X.refs=[])(bb:Y.refs=[])(cU:a≠b):
  cn f [.ptr 0 0 0 0] (.box (aT m (a+1) af (b+1) ag)::T) (.x (.h (a+1) af s r)) (.box (aT m (a+1) af (b+1) ag)::T):=by
 obtain⟨L,h⟩:=h;have ol:=λ aU=>k7 aw aU
 have yC:=λ aU=>k7 bb aU
 have dc:=RF (m:=m) (af:=af) (ag:=ag) j J aw bb cU;have nC:bt [0,a+1,b+1] (a+1)=some 1:=by simp[bt]
 have ri:bt [0,a+1,b+1] (b+1)=some 2:=by simp[bt,ba cU]
 have kr:bt [0,a+1,b+1] 0=some 0:=rfl;have ao:=jx (bt [0,a+1,b+1]) m (a+1) af (b+1) ag 1 2 nC ri;have aI:=jx (dm [0,a+1,b+1] (T.length+1) []) m 1 af 2 ag (a+1) (b+1) rfl rfl;have bE:∀n,dm [0,a+1,b+1] n [] 1=some (a+1):=λ n=>rfl
 have AK:reach (.box (aT m 1 af 2 ag)::X::Y::L) 64 [1,1,2] []=[1,2]:=by simp[reach,aw,bb]
 have s1:=yy j;have s2:=yy J;unfold cn dj;simp only[e0,he,bz,bd,c_,dc];simp[cB,co,kr,j,J,iq,ol,yC,ao,h,jy,bC,bd,cP.c,cP.to,aw,bb,AK,aI,bE,ef,s1,s2]
def aKK{m:M}{af ag aE aH n:Nat}{x y:List bS}{r:Nat}{bR:List (List aD)}(ai:m.aG.r=r)(aO:r<m.h)(al:r<x.length)(aF:bR.length=n):∃L,b4 E 94 [.ptr 0 0 0 0,.ref 3 0 0 n,.i (.v (.int .i64 (0)))] [.box (aT m 1 af 2 ag),.ax 5 af aE x,.ax 5 ag aH y,.ae 5 0 bR false]=some (.be [],.box (aT m 1 af 2 ag)::.ax 5 af (aE+1) (x.set r (.own bR))::.ax 5 ag aH y::.gone::L):=by subst aF;rw[bp adJ];simp(disch:=omega)only[au,simprocAttr,aEZ,c',bM,bT,bC,ai,ne_eq];exact⟨_,rfl⟩
def agT{m:M}{a af b ag aE aH n c:Nat}{x y:List bS}{r:Nat}{bR:List (List aD)}{T:aa}(ai:m.aG.r=r)(aO:r<m.h)(al:r<x.length)(aF:bR.length=n)
  (j:T[a]?=some (.ax 5 af aE x))(J:T[b]?=some (.ax 5 ag aH y))(ah:T[c]?=some (.ae 5 0 bR false))(cU:a≠b):
  cn 94 [.ptr 0 0 0 0,.ref (c+1) 0 0 n,↑(0:Int)] (.box (aT m (a+1) af (b+1) ag)::T) (.be []) (.box (aT m (a+1) af (b+1) ag)::(T.set a (.ax 5 af (aE+1) (x.set r (.own bR)))).set c .gone):=by
 obtain⟨L,h⟩:=aKK (af:=af) (ag:=ag) (aE:=aE) (aH:=aH) (y:=y) ai aO al aF;have agU:a≠c:=λ e=>by subst e;rw[j]at ah;cases ah
 have agV:b≠c:=λ e=>by subst e;rw[J]at ah;cases ah
 have bG:=e8.2 (bF.1 j).1;have bH:=e8.2 (bF.1 J).1;have cG:=e8.2 (bF.1 ah).1;have dc:reach (.box (aT m (a+1) af (b+1) ag)::T) 64 [0,c+1] []=[0,a+1,b+1,c+1]:=by simp[reach,jy,bC,j,J,ah,bG,bH,cG,ba cU,ba agU,ba agV,Chunk.refs]
 have kr:bt [0,a+1,b+1,c+1] 0=some 0:=rfl;have nC:bt [0,a+1,b+1,c+1] (a+1)=some 1:=by simp[bt]
 have ri:bt [0,a+1,b+1,c+1] (b+1)=some 2:=by simp[bt,ba cU]
 have yI:bt [0,a+1,b+1,c+1] (c+1)=some 3:=by simp[bt,ba agU,ba agV]
 have ao:=jx (bt [0,a+1,b+1,c+1]) m (a+1) af (b+1) ag 1 2 nC ri;have aI:=jx (dm [0,a+1,b+1,c+1] (T.length+1) []) m 1 af 2 ag (a+1) (b+1) rfl rfl;have AK:reach (.box (aT m 1 af 2 ag)::.ax 5 af (aE+1) (x.set r (.own bR))::.ax 5 ag aH y::.gone::L) 64 [1,2] []=[1,2]:=by simp[reach,Chunk.refs]
 have s2:((T.set a (.ax 5 af (aE+1) (x.set r (.own bR)))).set b (.ax 5 ag aH y))=T.set a (.ax 5 af (aE+1) (x.set r (.own bR))):=yy (by rw[dC cU];exact J);unfold cn dj;simp only[e0,show E.ext 94=none from rfl,bz,bd,c_,ck,dc];simp[cB,co,kr,yI,j,J,ah,iq,Chunk.cL,ao,h,jy,bC,bd,Chunk.refs,show bz []=[]from rfl,AK,aI,ef,s2]
def agW(g:List (List bh))(r:Nat)(y:bS)(n:List bh):((aX g).set r y).set r (.own (b_ n))=aX (g.set r n):=by rw[vn,Ly]
def DK{T:aa}{k a:Nat}{y:Chunk}(h:∀x:Chunk,T[k]?=some x→x.refs=[])(aZ:y.refs=[]):∀x:Chunk,(T.set a y)[k]?=some x→x.refs=[]:=by
 intro x al;rw[List.getElem?_set]at al;split at al
 ·split at al
  ·cases al;exact aZ
  ·cases al
 ·exact h x al
def agX{T W:aa}{k:Nat}(az:k<T.length)(h:∀x:Chunk,T[k]?=some x→x.refs=[]):∀x:Chunk,(T++W)[k]?=some x→x.refs=[]:=by intro x al;rw[en az]at al;exact h x al
def agY{m:M}{a af b ag:Nat}{T:aa}(aA:hq 1 m (a+1) af (b+1) ag T)(ah:0≤m.aG.r∧m.aG.r<m.h)(la:m.G.length=m.h):
  ∃aE row,m.G[m.aG.r.toNat]?=some row∧(.box (aT m (a+1) af (b+1) ag)::T)[a+1]?=some (.ax 5 af aE (aX m.G))∧T[a]?=some (.ax 5 af aE (aX m.G))∧(aX m.G)[m.aG.r.toNat]?=some (.own (b_ row))∧
   cn 96 [.ptr 0 0 0 0] (.box (aT m (a+1) af (b+1) ag)::T) (.x (.h (a+1) af aE m.aG.r.toNat)) (.box (aT m (a+1) af (b+1) ag)::T)∧
   ∀new:List bh,∃gT,cn 94 [.ptr 0 0 0 0,.ref (T.length+1) 0 0 new.length,↑(0:Int)] (.box (aT m (a+1) af (b+1) ag)::(T.set a (.ax 5 af aE ((aX m.G).set m.aG.r.toNat (.dG (.ae 5 (b_ row) false))))++[.ae 5 0 (b_ new) false])) (.be []) (.box (aT m (a+1) af (b+1) ag)::gT)∧hq 1 {m with G:=m.G.set m.aG.r.toNat new} (a+1) af (b+1) ag gT:=by
 obtain⟨bY,bV,aE,aH,AQ,AR,aB,ak,cU,an,aV,j⟩:=aA;obtain rfl:a=bY:=R;obtain rfl:b=bV:=R;obtain⟨r,ai⟩:=jk ah.1;have wI:m.aG.r.toNat=r:=by rw[ai];rfl
 have DL:r<m.h:=R;have bZ:m.G[r]?=some m.G[r]:=eT R;have oc:=Rs (g:=m.G) (k:=r) R;have DM:=(bF.1 aB).1;have G8:=(bF.1 ak).1;rw[wI];refine⟨aE,m.G[r],bZ,aB,aB,oc,agS rfl (agR ai DL oc) aB ak rfl rfl cU,λ new=>?_⟩;have ch:(T.set a (.ax 5 af aE ((aX m.G).set r (.dG (.ae 5 (b_ m.G[r]) false))))++[.ae 5 0 (b_ new) false])[a]?=some (.ax 5 af aE ((aX m.G).set r (.dG (.ae 5 (b_ m.G[r]) false)))):=by rw[en (by simp;exact DM),ks DM]
 have cw:(T.set a (.ax 5 af aE ((aX m.G).set r (.dG (.ae 5 (b_ m.G[r]) false))))++[.ae 5 0 (b_ new) false])[b]?=some (.ax 5 ag aH (aX m.O)):=by rw[en (by simp;exact G8),dC cU,ak]
 have fl:(T.set a (.ax 5 af aE ((aX m.G).set r (.dG (.ae 5 (b_ m.G[r]) false))))++[.ae 5 0 (b_ new) false])[T.length]?=some (.ae 5 0 (b_ new) false):=by rw[ha (by simp)];simp
 have e:=agT (n:=new.length) (c:=T.length) ai DL (by rw[jI,gj];omega) (eO new) ch cw fl cU;rw[agW]at e;refine⟨_,e,a,b,aE+1,aH,rfl,rfl,?_,?_,cU,?_,?_,?_⟩
 ·rw[dC R,ks (by simp;omega)]
 ·rw[dC R,dC cU,cw]
 ·simp;omega
 ·exact DK (DK (agX (by simp;omega) (DK aV rfl)) rfl) rfl
 ·exact DK (DK (agX (by simp;omega) (DK j rfl)) rfl) rfl
def LO{m:M}(ah:0≤m.aG.r∧m.aG.r<m.h)(la:m.G.length=m.h):
  ∃row r,m.aG.r.toNat=r∧m.aG.r=(r:Int)∧r<m.h∧m.G[r]?=some row∧(aX m.G)[r]?=some (.own (b_ row))∧
   (∀af ag aE aH,ct 96 [.ptr 0 0 0 0] [.box (aT m 1 af 2 ag),.ax 5 af aE (aX m.G),.ax 5 ag aH (aX m.O)] (.x (.h 1 af aE r)))∧
   ∀(new:List bh) (n:Nat),new.length=n→∀af ag aE aH,cn 94 [.ptr 0 0 0 0,.ref 3 0 0 n,↑(0:Int)] [.box (aT m 1 af 2 ag),.ax 5 af aE ((aX m.G).set r (.dG (.ae 5 (b_ row) false))),.ax 5 ag aH (aX m.O),.ae 5 0 (b_ new) false] (.be []) [.box (aT m 1 af 2 ag),.ax 5 af (aE+1) (aX (m.G.set r new)),.ax 5 ag aH (aX m.O),.gone]:=by
 obtain⟨r,ai⟩:=jk ah.1;have DL:r<m.h:=R;have oc:=Rs (g:=m.G) (k:=r) R;refine⟨m.G[r],r,by rw[ai];rfl,ai,DL,eT R,oc,λ af ag aE aH=>?_,λ new n aF af ag aE aH=>?_⟩
 ·exact agS (a:=0) (b:=1) (T:=[.ax 5 af aE (aX m.G),.ax 5 ag aH (aX m.O)]) rfl (agR ai DL oc) rfl rfl rfl rfl (by decide)
 ·have e:=agT (a:=0) (b:=1) (c:=2) (af:=af) (ag:=ag) (n:=n) (T:=[.ax 5 af aE ((aX m.G).set r (.dG (.ae 5 (b_ m.G[r]) false))),.ax 5 ag aH (aX m.O),.ae 5 0 (b_ new) false]) ai DL (by rw[jI,gj];omega) (by rw[eO];exact aF) rfl rfl rfl (by decide);rw[agW]at e;exact e
def fx(m:M):List bh:=m.G.getD m.aG.r.toNat []
def yJ(m:M)(p q:Nat):M:={m with aG:={m.aG with p:=false},G:=m.G.set m.aG.r.toNat (pS (fx m) p q m.a)}
def LP{m:M}(hm:bk m)(p q:Nat)(lE:p≤q)(bn:q≤m.w):hr 181 [.i (.v (.int .i64 (p))),.i (.v (.int .i64 (q)))] m (.be []) (yJ m p q):=by
 intro af aE ag aH;obtain⟨row,r,j,J,aw,bb,bu,ao,aI⟩:=LO (m:={m with aG:={m.aG with p:=false}}) hm.aG.1 hm.G.1;have bZ:=hm.G.2 row (jG bb);have hw:=hm.w;have bE:=λ H=>aIp (l:=row) R R bZ.2 p q lE R m.a H
 rw[bZ.1]at bE;have c6:=aI (pS row p q m.a) m.w (by rw[Rw lE R];exact bZ.1);unfold yJ fx;simp only at j J aw bb bu ao c6;rw[j,oV,bb,iM];have an:=eO row;have hx:=gj m.G;rw[bp aev];simp(disch:=omega)only[au,simprocAttr,aFF,cN,bM,bT,bC,bu,ao,bE,c6];exact⟨_,rfl,⟨_,_,_,_,_,rfl,nO (a:=0) (b:=1) rfl rfl (by decide) rfl rfl⟩⟩
def eb.three{m:M}{af ag aE aH:Nat}{T:aa}:eb m (.box (aT m 1 af 2 ag)::.ax 5 af aE (aX m.G)::.ax 5 ag aH (aX m.O)::T):=eb.dF
def aKL{w:Nat}{g:List (List bh)}(h:jV w g){new:List bh}(aF:new.length=w∧hp new=true)(r:Nat):jV w (g.set r new):=by
 intro l an;rcases List.mem_or_eq_of_mem_set an with j|rfl
 ·exact h l j
 ·exact aF
def bk.LQ{m:M}(h:bk m){G:List (List bh)}(la:G.length=m.h∧jV m.w G):bk {m with G:=G}:=
 {w:=h.w,h:=h.h,G:=la,O:=h.O,aG:=h.aG,bP:=h.bP,a:=h.a,aE:=h.aE,cZ:=h.cZ,cv:=h.cv,back:=h.back,bK:=h.bK,hF:=h.hF,eH:=h.eH,di:=h.di}
def bk.kr{m:M}(h:bk m):bk {m with aG:={m.aG with p:=false}}:=h.jX ⟨h.aG.1,h.aG.2.1,by simp⟩
def bk.row{m:M}(h:bk m):(fx m).length=m.w∧hp (fx m)=true:=by have j:=h.aG.1;have J:=h.G.1;rw[fx,oV,eT R,iM];exact h.G.2 _ (mr _)
def bk.uU{m:M}(h:bk m){new:List bh}(aF:new.length=m.w∧hp new=true)(r:Nat):bk {m with G:=m.G.set r new}:=h.LQ ⟨by rw[jI];exact h.G.1,aKL h.G.2 aF r⟩
def bk.wJ{m:M}(h:bk m){p q:Nat}(lE:p≤q)(bn:q≤m.w):bk (yJ m p q):=by have j:=h.row;exact h.kr.uU ⟨by rw[Rw lE R];exact j.1,((wH.1 j.2).pS lE h.a).p⟩ _
def sL(m:M)(ins:Bool)(n:Nat):M:={m with aG:={m.aG with p:=false},G:=m.G.set m.aG.r.toNat (if ins=true then mJ (fx m) m.aG.c.toNat n m.a else o7 (fx m) m.aG.c.toNat n m.a)}
def bk.G9{m:M}(h:bk m){ins:Bool}{n:Nat}(aF:1≤n):bk (sL m ins n):=by
 have j:=h.row;have J:=h.aG.2.1;have ah:m.aG.c.toNat<(fx m).length:=R;refine h.kr.uU ?_ _;cases ins with
 |true=>exact⟨by rw[if_pos rfl,mJ,GL,GM ah];exact j.1,by rw[if_pos rfl];exact((wH.1 j.2).mJ _ _ h.a).p⟩
 |false=>exact⟨by rw[if_neg (by simp),Rv ah];exact j.1,by rw[if_neg (by simp)];exact((wH.1 j.2).o7 ah aF h.a).p⟩
def aKM{m:M}(hm:bk m)(n:Nat)(aF:1≤n∧n<1000000):hr 164 [.aR (.func 95) [] [],.i (.v (.int .i64 (n)))] m (.be []) (sL m true n):=by
 intro af aE ag aH;obtain⟨row,r,j,J,aw,bb,bu,ao,aI⟩:=LO (m:={m with aG:={m.aG with p:=false}}) hm.aG.1 hm.G.1;have bZ:=hm.G.2 row (jG bb);have hw:=hm.w;have ah:=hm.aG.2.1;obtain⟨c,e9⟩:=jk ah.1;have bE:=λ H=>af0 (l:=row) R bZ.2 c n R aF.1 aF.2 m.a H
 rw[bZ.1,←e9]at bE;have c6:=aI (mJ row c n m.a) m.w (by rw[mJ,GL,GM R];exact bZ.1);unfold sL fx;simp only at j J aw bb bu ao c6;rw[j,oV,bb,iM,e9,oe];have an:=eO row;have hx:=gj m.G;rw[bp Qw];simp(disch:=omega)only[au,simprocAttr,aei,cN,bM,bT,bC,acs,bu,ao,bE,c6];exact⟨_,rfl,eb.three⟩
def aKN{m:M}(hm:bk m)(n:Nat)(aF:1≤n∧n<1000000):hr 164 [.aR (.func 166) [] [],.i (.v (.int .i64 (n)))] m (.be []) (sL m false n):=by
 intro af aE ag aH;obtain⟨row,r,j,J,aw,bb,bu,ao,aI⟩:=LO (m:={m with aG:={m.aG with p:=false}}) hm.aG.1 hm.G.1;have bZ:=hm.G.2 row (jG bb);have hw:=hm.w;have ah:=hm.aG.2.1;obtain⟨c,e9⟩:=jk ah.1;have bE:=λ H=>aIo (l:=row) R bZ.2 c n R aF.1 aF.2 m.a H
 rw[bZ.1,←e9]at bE;have c6:=aI (o7 row c n m.a) m.w (by rw[Rv R];exact bZ.1);unfold sL fx;simp only at j J aw bb bu ao c6;rw[j,oV,bb,iM,e9,oe];have an:=eO row;have hx:=gj m.G;rw[bp Qw];simp(disch:=omega)only[au,simprocAttr,aei,cN,bM,bT,bC,aCw,bu,ao,bE,c6];exact⟨_,rfl,eb.three⟩
def tA(m:M)(n:Int):M:=if n=0 then yJ m m.aG.c.toNat m.w else if n=1 then yJ m 0 (m.aG.c.toNat+1)else if n=2 then yJ m 0 m.w else m
def bk.era{m:M}(h:bk m){n:Int}:bk (tA m n):=by
 have ah:=h.aG.2.1;unfold tA;split
 ·exact h.wJ R (cQ _)
 ·split
  ·exact h.wJ R R
  ·split
   ·exact h.wJ R (cQ _)
   ·exact h
def agZ{m:M}(hm:bk m)(n:Int):hr 176 [.i (.v (.int .i64 (n)))] m (.be []) (tA m n):=by
 intro af aE ag aH;have ah:=hm.aG.2.1;obtain⟨c,e9⟩:=jk ah.1;have hw:=hm.w;unfold tA;by_cases aV:n=0
 ·obtain⟨H1,ao,fo⟩:=mb (f:=181) rfl rfl rfl (LP hm c m.w R (cQ _)) (h4.dF (m:=m) (af:=af) (ag:=ag) (aE:=aE) (aH:=aH) (T:=[]));subst aV;rw[if_pos rfl,e9,oe];rw[←e9]at ao;rw[bp Gv];simp(disch:=omega)only[au,simprocAttr,KL,bM,bT,bC,ao];exact⟨_,rfl,fo.iX⟩
 ·rw[if_neg aV];by_cases j:n=1
  ·obtain⟨H1,ao,fo⟩:=mb (f:=181) rfl rfl rfl (LP hm 0 (c+1) R R) (h4.dF (m:=m) (af:=af) (ag:=ag) (aE:=aE) (aH:=aH) (T:=[]));subst j;rw[if_pos rfl,e9,oe];simp only[gZ,Dv,Ln]at ao;rw[←e9]at ao;rw[bp Gv];simp(disch:=omega)only[au,simprocAttr,KL,bM,bT,bC,ao];exact⟨_,rfl,fo.iX⟩
  ·rw[if_neg j];by_cases J:n=2
   ·obtain⟨H1,ao,fo⟩:=mb (f:=181) rfl rfl rfl (LP hm 0 m.w R R) (h4.dF (m:=m) (af:=af) (ag:=ag) (aE:=aE) (aH:=aH) (T:=[]));subst J;rw[if_pos rfl];simp only[gZ]at ao;rw[bp Gv];simp(disch:=omega)only[au,simprocAttr,KL,bM,bT,bC,ao];exact⟨_,rfl,fo.iX⟩
   ·rw[if_neg J];rw[bp Gv];simp(disch:=omega)only[au,simprocAttr,KL,bM,bT,bC];exact⟨_,rfl,eb.dF⟩
def AS(m:M)(p q:Nat):M:={m with G:=il m.w m.a.a_ p q m.G}
def aKO{w:Nat}{a:eh}(aB:ik a=true){p q:Nat}{g:List (List bh)}(h:jV w g):jV w (il w a.a_ p q g):=by
 intro r ai;simp only[il,fT,RQ]at ai;rcases ai with j|⟨_,rfl⟩|j
 ·exact h r (DI j)
 ·exact RP aB
 ·exact h r (uQ j)
def bk.rows{m:M}(h:bk m){p q:Nat}(lE:p≤q)(bn:q≤m.h):bk (AS m p q):=h.LQ ⟨by rw[Rr lE (by rw[h.G.1];exact bn)];exact h.G.1,aKO h.a h.G.2⟩
def RR{m:M}(hm:bk m)(p q:Nat)(lE:p≤q)(bn:q≤m.h):hr 212 [.i (.v (.int .i64 (p))),.i (.v (.int .i64 (q)))] m (.be []) (AS m p q):=by
 intro af aE ag aH;have ao:=λ H=>aIi m.w m.h hm.w hm.h m.G hm.G.1 hm.G.2 m.a p q lE bn H
 have j8:=DB m.G;have kw:=AH m.G;have aKA:(bX m.G).length=m.h:=by rw[f',hm.G.1]
 have aKB:(aX m.G).length=m.h:=by rw[gj,hm.G.1]
 unfold AS;generalize il m.w m.a.a_ p q m.G=G3 at*;have fin:∀{b1:M} {af ag aE aH:Nat} {z y:Chunk} {T:aa},b1.O=m.O→b1.G=G3→z.refs=[]→eb b1 (.box (aT b1 4 af 2 ag)::z::.ax 5 ag aH (aX m.O)::y::.ax 5 af aE (aX G3)::T):=λ{b1 af ag aE aH z y T} ao aI bg=>⟨_,_,_,_,_,rfl,nO (a:=3) (b:=1) (by rw[aI];rfl) (by rw[ao];rfl) (by decide) bg rfl⟩
 have ai:((lN 4 1).all λ c=>!(c==3||c==1000003))=true:=rfl;generalize m.G.map (λ r=>aD.ae 5 (b_ r) false)=aKE at*;rw[bp aeN];simp(disch:=omega)only[au,simprocAttr,aFW,bM,bT,bC,ai,ao,j8,kw];refine⟨_,rfl,?_⟩;exact fin rfl rfl rfl
def uV(m:M)(n:Int):M:=if n=0 then AS m (m.aG.r.toNat+1) m.h else if n=1 then AS m 0 m.aG.r.toNat else if n=2 then AS m 0 m.h else if n=3 then{m with fL:=true,back:=[]}else m
def yK(m:M)(n:Int):M:=tA (uV m n) n
def bk.aKP{m:M}(h:bk m):bk {m with fL:=true,back:=[]}:=
 {w:=h.w,h:=h.h,G:=h.G,O:=h.O,aG:=h.aG,bP:=h.bP,a:=h.a,aE:=h.aE,cZ:=h.cZ,cv:=h.cv,back:=⟨by simp,by simp⟩,bK:=h.bK,hF:=h.hF,eH:=h.eH,di:=h.di}
def bk.uV{m:M}(h:bk m){n:Int}:bk (uV m n):=by
 have ah:=h.aG.1;unfold Go.VI.uV;split
 ·exact h.rows R (cQ _)
 ·split
  ·exact h.rows R R
  ·split
   ·exact h.rows R (cQ _)
   ·split
    ·exact h.aKP
    ·exact h
def bk.aKQ{m:M}(h:bk m){n:Int}:bk (yK m n):=h.uV.era
def aKR{m:M}(hm:bk m)(n:Int):hr 175 [.i (.v (.int .i64 (n)))] m (.be []) (yK m n):=by
 intro af aE ag aH;have ah:=hm.aG.1;obtain⟨c,e9⟩:=jk ah.1;have aO:=hm.h;have he:=agZ (hm.uV (n:=n)) n;unfold yK;unfold uV at he⊢;by_cases aV:n=0
 ·subst aV;rw[if_pos rfl]at he⊢;obtain⟨H1,ao,fo⟩:=mb (f:=212) rfl rfl rfl (RR hm (m.aG.r.toNat+1) m.h R R) (h4.dF (m:=m) (af:=af) (ag:=ag) (aE:=aE) (aH:=aH) (T:=[]));obtain⟨bx,aI,dE⟩:=mb (f:=176) rfl rfl rfl he fo;rw[e9,oe]at ao;simp only[gZ,Dv,Ln]at ao;rw[←e9]at ao;rw[bp C_];simp(disch:=omega)only[au,simprocAttr,Gu,bM,bT,bC,ao,aI];exact⟨_,rfl,dE.iX⟩
 ·rw[if_neg aV]at he⊢;by_cases j:n=1
  ·subst j;rw[if_pos rfl]at he⊢;obtain⟨H1,ao,fo⟩:=mb (f:=212) rfl rfl rfl (RR hm 0 m.aG.r.toNat R R) (h4.dF (m:=m) (af:=af) (ag:=ag) (aE:=aE) (aH:=aH) (T:=[]));obtain⟨bx,aI,dE⟩:=mb (f:=176) rfl rfl rfl he fo;rw[show((m.aG.r.toNat:Nat):Int)=m.aG.r by omega]at ao;simp only[gZ]at ao;rw[bp C_];simp(disch:=omega)only[au,simprocAttr,Gu,bM,bT,bC,ao,aI];exact⟨_,rfl,dE.iX⟩
  ·rw[if_neg j]at he⊢;by_cases J:n=2
   ·subst J;rw[if_pos rfl]at he⊢;obtain⟨H1,ao,fo⟩:=mb (f:=212) rfl rfl rfl (RR hm 0 m.h R R) (h4.dF (m:=m) (af:=af) (ag:=ag) (aE:=aE) (aH:=aH) (T:=[]));obtain⟨bx,aI,dE⟩:=mb (f:=176) rfl rfl rfl he fo;simp only[gZ]at ao;rw[bp C_];simp(disch:=omega)only[au,simprocAttr,Gu,bM,bT,bC,ao,aI];exact⟨_,rfl,dE.iX⟩
   ·rw[if_neg J]at he⊢;by_cases aw:n=3
    ·subst aw;rw[if_pos rfl]at he⊢;obtain⟨bx,aI,dE⟩:=mb (f:=176) rfl rfl rfl he (h4.dF (m:={m with fL:=true,back:=[]}) (af:=af) (ag:=ag) (aE:=aE) (aH:=aH) (T:=[]));rw[bp C_];simp(disch:=omega)only[au,simprocAttr,Gu,bM,bT,bC,aI];exact⟨_,rfl,dE.iX⟩
    ·rw[if_neg aw]at he⊢;obtain⟨bx,aI,dE⟩:=mb (f:=176) rfl rfl rfl he (h4.dF (m:=m) (af:=af) (ag:=ag) (aE:=aE) (aH:=aH) (T:=[]));rw[bp C_];simp(disch:=omega)only[au,simprocAttr,Gu,bM,bT,bC,aI];exact⟨_,rfl,dE.iX⟩
def aKS(x:Int)(aV:0≤x)(j:x≤9999)(a:List UInt8)(n:Nat)(aF:n=a.length)(an:n<1000000)(g:Nat)(T:aa):
  cn 196 [.ref 0 g 0 n,x,↑(10:Int)] (.ae 1 g (dP a) false::T) (.ref 0 (g+1) 0 (n+(jT x).length)) (.ae 1 (g+1) (dP (a++jT x)) false::T):=
 aGN x aV R aF an rfl
def fmtG:Bool→List Int→List UInt8
 |_,[]=>[]
 |true,n::l=>jT n++fmtG false l
 |false,n::l=>59::(jT n++fmtG false l)
def ag0(a:List UInt8):dP a++[[.v (.int .u8 59)]]=dP (a++[59]):=aGH a 59 59 rfl
theorem LR(s:List UInt8)(l:List Int)(an:l.length<1000)(RS:∀n∈l,n≤9999)(k:Nat)(az:k≤l.length)(out:List UInt8)(b':out.length≤21*k+1):
  hT qz 0 [(2,.i (.str s)),(8,.ref 0 0 0 out.length),(45,.i (.ae 1 (b3 l) false)),(46,l.length),(47,k)] [.ae 1 0 (dP out) false] 1 [(2,.i (.str s)),(8,.ref 0 0 0 (out++fmtG (decide (k=0)) (l.drop k)).length),(45,.i (.ae 1 (b3 l) false)),(46,.i (.v (.int .i64 l.length))),(47,.i (.v (.int .i64 l.length))),(48,.i (.v (.bool false)))] [.ae 1 0 (dP (out++fmtG (decide (k=0)) (l.drop k))) false]:=by
 refine(cF qz 0).trans ?_;by_cases bf:k<l.length
 ·have bZ:=Az bf;have gy:l[k]≤9999:=RS _ (mr bf);have nb:(jT l[k]).length≤20:=Q7 _ R;have hA:¬0≤l[k]→jT l[k]=[]:=λ h=>by rw[jT,if_neg h]
  have ui:=aKS l[k];by_cases aV:k=0
  ·have a8:=LR s l an RS (k+1) bf (out++jT l[k]) (by rw[dd];omega);rw[show decide (k+1=0)=false by simp,dV]at a8;rw[ji bf,show decide (k=0)=true by simpa using aV,fmtG,←a8];clear a8;generalize l[k]=n at*;by_cases aF:0≤n
   ·have ui:=ui aF gy;simp(disch:=first|omega|(simp only[dW,cm,ea];omega))only[au,simprocAttr,k4,dk,bB,bZ,aF,ui,cm,ea,lz]
   ·rw[hA aF,c_];simp(disch:=first|omega|(simp only[dW,cm,ea];omega))only[au,simprocAttr,k4,dk,bB,bZ,aF,cm,ea,lz]
  ·have a8:=LR s l an RS (k+1) bf (out++([59]++jT l[k])) (by simp only[dd,cX];omega);rw[show decide (k+1=0)=false by simp,dV,dV]at a8;rw[ji bf,show decide (k=0)=false by simpa using aV,fmtG];have RT:=a8;simp only[ck]at RT;rw[←RT];clear a8 RT;have LA:0<k:=R;generalize l[k]=n at*;by_cases aF:0≤n
   ·have ui:=ui aF gy (out++[59]) (out.length+1) (by simp) R;have ao:out.length+((jT n).length+1)=out.length+1+(jT n).length:=R;simp(disch:=first|omega|(simp only[dW,cm,ea];omega))only[au,simprocAttr,k4,dk,bB,bZ,LA,aF,ui,ag0,cm,ea,dV,lz];rw[ao]
   ·rw[hA aF];simp(disch:=first|omega|(simp only[dW,cm,ea];omega))only[au,simprocAttr,k4,dk,bB,bZ,LA,aF,ag0,cm,ea,dV,lz]
 ·obtain rfl:k=l.length:=R;rw[nd];simp only[fmtG,c_];simp(disch:=first|omega|(simp only[dW];omega))only[au,simprocAttr,k4,dk,bB]
termination_by l.length-k
def o'(p:Int)(l:List Int)(s:List UInt8):List UInt8×Int:=
 if(p≠0∧qB p=false)∨uI s=false∨l=[-1]then([],1)else if l.any mI then([],1)else if kf l s=false then([],5)else
  ((if p=0 then[]else[h6 p.toNat])++fmtG true l++s,0)
def pW(r:List UInt8×Int):U:=.be [.i (.str r.1),.i (.v (.int .i64 r.2))]
def G_(l:List Int)(b:Bool)(gy:∀n∈l,n≤9999):(fmtG b l).length≤21*l.length:=by
 induction l generalizing b with
 |nil=>cases b<;>simp[fmtG]
 |cons n l a8=>
  have:=a8 false λ n aF=>gy n (xK _ aF)
  have nb:=Q7 n (by have:=gy n (LS ..);omega);cases b<;>simp only[fmtG,cT,dd]<;>omega
def aKT{p:Int}(h:0≤p∧p<256):((h6 p.toNat).toNat:Int)=p:=by have:p.toNat<256:=R;rw[Q9];have:p.toNat%2^8=p.toNat:=Dg R;omega
def yL{l:List Int}{s:List UInt8}(h:kf l s=true):∀n∈l,n≤9999:=by intro n aF;simp only[kf,cO,rj]at h;have:=QW.1 h.2 n aF;simpa[o4]using this
def DN{l:List Int}{s:List UInt8}(h:kf l s=true):l.length≤16∧s.length≤2:=by simp only[kf,cO,decide_eq_true_eq]at h;exact h.1
def aKU(p:Int)(av:0≤p∧p<256)(l:List Int)(s:List UInt8)(an:(l.length:Int)<9223372036854775808)(aS:(s.length:Int)<9223372036854775808):
  gi 130 [.i (.v (.int .u8 p)),.i (.ae 1 (b3 l) false),.i (.str s)] (pW (o' p l s)):=by
 have hl:0<l.length→(b3 l)[0]?=some [.v (.int .i64 (l.headD 0))]:=λ h=>by cases l with|nil=>cases h|cons a l=>rfl
 unfold o';cases bq:uI s with
 |false=>
  by_cases aV:p=0
  ·refine bw qz ?_;rw[if_pos (.inr (.inl rfl))];unfold pW;simp(disch:=omega)only[au,simprocAttr,k4,dk,bB,hl,mE,l_,l',nK,mC,cm,ea,mH,l9,ma,bq,aV,lz];exact⟨_,rfl⟩
  ·cases bi:qB p with
   |true=>refine bw qz ?_;rw[if_pos (.inr (.inl rfl))];unfold pW;simp(disch:=omega)only[au,simprocAttr,k4,dk,bB,hl,mE,l_,l',nK,mC,cm,ea,mH,l9,ma,bq,aV,bi,lz];exact⟨_,rfl⟩
   |false=>refine bw qz ?_;rw[if_pos (.inr (.inl rfl))];unfold pW;simp(disch:=omega)only[au,simprocAttr,k4,dk,bB,hl,mE,l_,l',nK,mC,cm,ea,mH,l9,ma,bq,aV,bi,lz];exact⟨_,rfl⟩
 |true=>
  obtain⟨b,rfl⟩:∃b:UInt8,p=b.toNat:=⟨h6 p.toNat,(aKT av).symm⟩;have ak:h6 ((b.toNat:Int)).toNat=b:=by simp
  rw[ak];by_cases aV:(b.toNat:Int)=0
  ·have rT:kf l s=true→d_ E 0 130 (e4 Tryz.f130 0) [(2,.i (.str s)),(8,.ref 0 0 0 0),(45,.i (.ae 1 (b3 l) false)),(46,.i (.v (.int .i64 l.length))),(47,.i (.v (.int .i64 0)))] [.ae 1 0 [] false]=
     some (.exit 1,[(2,.i (.str s)),(8,.ref 0 0 0 ([]++fmtG true l).length),(45,.i (.ae 1 (b3 l) false)),(46,.i (.v (.int .i64 l.length))),(47,.i (.v (.int .i64 l.length))),(48,.i (.v (.bool false)))],[.ae 1 0 (dP ([]++fmtG true l)) false]):=
    λ h=>LR s l (by have:=DN h;omega) (yL h) 0 (ig _) [] (by simp)
   rw[show(if(b.toNat:Int)=0 then([]:List UInt8)else[b])=[]from if_pos aV];have bg:=aV;generalize (b.toNat:Int)=p at*;subst aV;have aV:=trivial;by_cases j:l.length=1
   ·obtain⟨n,wK⟩:∃n,l=[n]:=Ww.1 j;have hl:(b3 l)[0]?=some [.v (.int .i64 n)]:=by rw[wK];rfl
    by_cases aF:n=-1
    ·subst aF;refine bw qz ?_;rw[if_pos (.inr (.inr wK))];unfold pW;simp(disch:=omega)only[au,simprocAttr,k4,dk,bB,hl,mE,l_,l',nK,mC,cm,ea,mH,l9,ma,bq,aV,lz];exact⟨_,rfl⟩
    ·have hY:l≠[-1]:=λ h=>aF (by rw[wK]at h;simpa using h)
     clear wK;rw[if_neg (by rintro(h|h|h)<;>first|exact absurd rfl h.1|(cases h;done)|exact hY h|(rw[bi]at h;cases h.2))];unfold pW;refine bw qz ?_;cases pX:l.any mI with
   |true=>rw[if_pos rfl];simp(disch:=omega)only[au,simprocAttr,k4,dk,bB,hl,mE,l_,l',nK,mC,cm,ea,mH,l9,ma,bq,aV,aF,pX,lz];exact⟨_,rfl⟩
   |false=>
    rw[if_neg (by simp)];cases kJ:kf l s with
    |false=>rw[if_pos rfl];simp(disch:=omega)only[au,simprocAttr,k4,dk,bB,hl,mE,l_,l',nK,mC,cm,ea,mH,l9,ma,bq,aV,aF,pX,kJ,lz];exact⟨_,rfl⟩
    |true=>
     rw[if_neg (by simp)];have rT:=rT kJ;have RU:=DN kJ;have hlen:([]++fmtG true l).length≤21*l.length+1:=by have:=G_ l true (yL kJ);simp only[dd,cX];omega
     generalize []++fmtG true l=out at*;simp(disch:=omega)only[au,simprocAttr,k4,dk,bB,hl,mE,l_,l',nK,mC,cm,ea,mH,l9,ma,bq,aV,aF,pX,kJ,rT,lz];exact⟨_,rfl⟩
   ·have hY:l≠[-1]:=λ h=>j (by rw[h];rfl)
    have hl:=trivial;have gz:¬(l.length:Int)=1:=by omega
    rw[if_neg (by rintro(h|h|h)<;>first|exact absurd rfl h.1|(cases h;done)|exact hY h|(rw[bi]at h;cases h.2))];unfold pW;refine bw qz ?_;cases pX:l.any mI with
   |true=>rw[if_pos rfl];simp(disch:=omega)only[au,simprocAttr,k4,dk,bB,hl,mE,l_,l',nK,mC,cm,ea,mH,l9,ma,bq,aV,gz,pX,lz];exact⟨_,rfl⟩
   |false=>
    rw[if_neg (by simp)];cases kJ:kf l s with
    |false=>rw[if_pos rfl];simp(disch:=omega)only[au,simprocAttr,k4,dk,bB,hl,mE,l_,l',nK,mC,cm,ea,mH,l9,ma,bq,aV,gz,pX,kJ,lz];exact⟨_,rfl⟩
    |true=>
     rw[if_neg (by simp)];have rT:=rT kJ;have RU:=DN kJ;have hlen:([]++fmtG true l).length≤21*l.length+1:=by have:=G_ l true (yL kJ);simp only[dd,cX];omega
     generalize []++fmtG true l=out at*;simp(disch:=omega)only[au,simprocAttr,k4,dk,bB,hl,mE,l_,l',nK,mC,cm,ea,mH,l9,ma,bq,aV,gz,pX,kJ,rT,lz];exact⟨_,rfl⟩
  ·have rT:kf l s=true→d_ E 0 130 (e4 Tryz.f130 0) [(2,.i (.str s)),(8,.ref 0 0 0 1),(45,.i (.ae 1 (b3 l) false)),(46,.i (.v (.int .i64 l.length))),(47,.i (.v (.int .i64 0)))] [.ae 1 0 [[.v (.int .u8 b.toNat)]] false]=
     some (.exit 1,[(2,.i (.str s)),(8,.ref 0 0 0 ([b]++fmtG true l).length),(45,.i (.ae 1 (b3 l) false)),(46,.i (.v (.int .i64 l.length))),(47,.i (.v (.int .i64 l.length))),(48,.i (.v (.bool false)))],[.ae 1 0 (dP ([b]++fmtG true l)) false]):=
    λ h=>LR s l (by have:=DN h;omega) (yL h) 0 (ig _) [b] (by simp)
   rw[show(if(b.toNat:Int)=0 then([]:List UInt8)else[b])=[b]from if_neg aV];by_cases bi:qB b.toNat=true;rotate_left
   ·rw[GC]at bi;rw[if_pos (.inl ⟨aV,bi⟩)];unfold pW;refine bw qz ?_;simp(disch:=omega)only[au,simprocAttr,k4,dk,bB,hl,mE,l_,l',nK,mC,cm,ea,mH,l9,ma,bq,aV,bi,lz];exact⟨_,rfl⟩
   by_cases j:l.length=1
   ·obtain⟨n,wK⟩:∃n,l=[n]:=Ww.1 j;have hl:(b3 l)[0]?=some [.v (.int .i64 n)]:=by rw[wK];rfl
    by_cases aF:n=-1
    ·subst aF;refine bw qz ?_;rw[if_pos (.inr (.inr wK))];unfold pW;simp(disch:=omega)only[au,simprocAttr,k4,dk,bB,hl,mE,l_,l',nK,mC,cm,ea,mH,l9,ma,bq,aV,bi,lz];exact⟨_,rfl⟩
    ·have hY:l≠[-1]:=λ h=>aF (by rw[wK]at h;simpa using h)
     clear wK;rw[if_neg (by rintro(h|h|h)<;>first|exact absurd rfl h.1|(cases h;done)|exact hY h|(rw[bi]at h;cases h.2))];unfold pW;refine bw qz ?_;cases pX:l.any mI with
   |true=>rw[if_pos rfl];simp(disch:=omega)only[au,simprocAttr,k4,dk,bB,hl,mE,l_,l',nK,mC,cm,ea,mH,l9,ma,bq,aV,bi,aF,pX,lz];exact⟨_,rfl⟩
   |false=>
    rw[if_neg (by simp)];cases kJ:kf l s with
    |false=>rw[if_pos rfl];simp(disch:=omega)only[au,simprocAttr,k4,dk,bB,hl,mE,l_,l',nK,mC,cm,ea,mH,l9,ma,bq,aV,bi,aF,pX,kJ,lz];exact⟨_,rfl⟩
    |true=>
     rw[if_neg (by simp)];have rT:=rT kJ;have RU:=DN kJ;have hlen:([b]++fmtG true l).length≤21*l.length+1:=by have:=G_ l true (yL kJ);simp only[dd,cX];omega
     generalize [b]++fmtG true l=out at*;simp(disch:=omega)only[au,simprocAttr,k4,dk,bB,hl,mE,l_,l',nK,mC,cm,ea,mH,l9,ma,bq,aV,bi,aF,pX,kJ,rT,lz];exact⟨_,rfl⟩
   ·have hY:l≠[-1]:=λ h=>j (by rw[h];rfl)
    have hl:=trivial;have gz:¬(l.length:Int)=1:=by omega
    rw[if_neg (by rintro(h|h|h)<;>first|exact absurd rfl h.1|(cases h;done)|exact hY h|(rw[bi]at h;cases h.2))];unfold pW;refine bw qz ?_;cases pX:l.any mI with
   |true=>rw[if_pos rfl];simp(disch:=omega)only[au,simprocAttr,k4,dk,bB,hl,mE,l_,l',nK,mC,cm,ea,mH,l9,ma,bq,aV,bi,gz,pX,lz];exact⟨_,rfl⟩
   |false=>
    rw[if_neg (by simp)];cases kJ:kf l s with
    |false=>rw[if_pos rfl];simp(disch:=omega)only[au,simprocAttr,k4,dk,bB,hl,mE,l_,l',nK,mC,cm,ea,mH,l9,ma,bq,aV,bi,gz,pX,kJ,lz];exact⟨_,rfl⟩
    |true=>
     rw[if_neg (by simp)];have rT:=rT kJ;have RU:=DN kJ;have hlen:([b]++fmtG true l).length≤21*l.length+1:=by have:=G_ l true (yL kJ);simp only[dd,cX];omega
     generalize [b]++fmtG true l=out at*;simp(disch:=omega)only[au,simprocAttr,k4,dk,bB,hl,mE,l_,l',nK,mC,cm,ea,mH,l9,ma,bq,aV,bi,gz,pX,kJ,rT,lz];exact⟨_,rfl⟩
def aKV(p:Int)(av:0≤p∧p<256)(l:List Int)(s:List UInt8)(an:(l.length:Int)<9223372036854775808)(aS:(s.length:Int)<9223372036854775808)(H:aa):
 ct 130 [.i (.v (.int .u8 p)),.i (.ae 1 (b3 l) false),.i (.str s)] H (pW (o' p l s)):=gX rfl rfl rfl (aKU p av l s an aS)
def bW(l:List Int)(i d:Int):Int:=if i<0 then d else if l.length≤i then d else if l.getD i.toNat 0≤0 then d else l.getD i.toNat 0
def kk(l:List Int)(i d:Int)(an:l.length<100000)(H:aa):ct 155 [.i (.ae 1 (b3 l) false),i,d] H (↑(bW l i d)):=cu (by
 unfold bW;by_cases j:i<0
 ·rw[if_pos j];refine bw Gt ?_;simp(disch:=omega)only[au,simprocAttr,KI,bB,cm];exact⟨_,rfl⟩
 ·rw[if_neg j];by_cases J:(l.length:Int)≤i
  ·rw[if_pos J];refine bw Gt ?_;simp(disch:=omega)only[au,simprocAttr,KI,bB,cm];exact⟨_,rfl⟩
  ·rw[if_neg J];have bf:i.toNat<l.length:=R;have bZ:=Az bf;have aP:l.getD i.toNat 0=l[i.toNat]:=by simp[G',bf]
   rw[aP];generalize l[i.toNat]=n at*;by_cases aw:n≤0
   ·rw[if_pos aw];refine bw Gt ?_;simp(disch:=omega)only[au,simprocAttr,KI,bB,cm,bZ];exact⟨_,rfl⟩
   ·rw[if_neg aw];refine bw Gt ?_;simp(disch:=omega)only[au,simprocAttr,KI,bB,cm,bZ];exact⟨_,rfl⟩)
def ag1(m:M)(af ag:Nat):cB (bt [0,1,2]) (aT m 1 af 2 ag)=aT m 1 af 2 ag:=rfl
def rU(m:M)(c:Int):M:={m with aG:={m.aG with c:=c,p:=false}}
def nP(f:List Bool→Int→Int):Nat→M→M
 |0,m=>m
 |k+1,m=>nP f k (rU m (f m.cv m.aG.c))
def ag2{l:List Bool}(an:1≤l.length)(c:Int):0≤ou l c∧ou l c<l.length:=by
 unfold ou;cases h:wD l 0 c with
 |none=>simp only;omega
 |some k=>have:=agl h;simp only;omega
def aKW{l:List Bool}(an:1≤l.length){c:Int}(ah:0≤c∧c<l.length):0≤qH l c∧qH l c<l.length:=by unfold qH;have:=agn l (min l.length (max c 0).toNat);omega
def bk.bc{m:M}(h:bk m){c:Int}(ah:0≤c∧c<m.w):bk (rU m c):=h.jX ⟨h.aG.1,ah,by simp⟩
def aKX(N:Nat)(kx:N≤132)(af aE ag aH:Nat)(x y:List bS):∀(k:Nat) (m:M) (ab:Nat),m.cv.length≤1000→ab+k=N→
  d_ E 3 172 (e4 Tryz.f172 0) [(0,.ptr 0 0 0 0),(2,.aR (.func 100) [] []),(13,.i (.v (.int .i64 (N)))),(14,.i (.v (.int .i64 (ab))))] [.box (aT m 1 af 2 ag),.ax 5 af aE x,.ax 5 ag aH y]=
   some (.exit 0,[(0,.ptr 0 0 0 0),(2,.aR (.func 100) [] []),(13,.i (.v (.int .i64 (N)))),(14,.i (.v (.int .i64 (N)))),(15,.i (.v (.bool (false))))],[.box (aT (nP ou k m) 1 af 2 ag),.ax 5 af aE x,.ax 5 ag aH y]):=by
 intro k;induction k with
 |zero=>
  intro m ab bq a';obtain rfl:ab=N:=by omega
  rw[cF yl 0];simp(disch:=omega)only[au,simprocAttr,C8,eN,bM,bT,bC,De];rfl
 |succ k a8=>
  intro m ab bq a';have e:=a8 (rU m (ou m.cv m.aG.c)) (ab+1) bq R;have ao:=λ H=>agm m.cv m.aG.c bq H
  have aI:=λ c=>LH (m:=m) (a:=0) (b:=1) (af:=af) (ag:=ag) (T:=[.ax 5 af aE x,.ax 5 ag aH y]) rfl rfl (by decide) c
  simp only[cq,c2]at aI;refine fZ ?_ e;unfold rU;clear e a8;rw[cF yl 0];simp(disch:=omega)only[au,simprocAttr,C8,eN,bM,bT,bC,acv,ao,aI,De];rfl
def aKY(N:Nat)(kx:N≤132)(af aE ag aH:Nat)(x y:List bS):∀(k:Nat) (m:M) (ab:Nat),m.cv.length≤1000→ab+k=N→
  d_ E 3 172 (e4 Tryz.f172 0) [(0,.ptr 0 0 0 0),(2,.aR (.func 174) [] []),(13,.i (.v (.int .i64 (N)))),(14,.i (.v (.int .i64 (ab))))] [.box (aT m 1 af 2 ag),.ax 5 af aE x,.ax 5 ag aH y]=
   some (.exit 0,[(0,.ptr 0 0 0 0),(2,.aR (.func 174) [] []),(13,.i (.v (.int .i64 (N)))),(14,.i (.v (.int .i64 (N)))),(15,.i (.v (.bool (false))))],[.box (aT (nP qH k m) 1 af 2 ag),.ax 5 af aE x,.ax 5 ag aH y]):=by
 intro k;induction k with
 |zero=>
  intro m ab bq a';obtain rfl:ab=N:=by omega
  rw[cF yl 0];simp(disch:=omega)only[au,simprocAttr,C8,eN,bM,bT,bC,De];rfl
 |succ k a8=>
  intro m ab bq a';have e:=a8 (rU m (qH m.cv m.aG.c)) (ab+1) bq R;have ao:=λ H=>aI8 m.cv m.aG.c bq H
  have aI:=λ c=>LH (m:=m) (a:=0) (b:=1) (af:=af) (ag:=ag) (T:=[.ax 5 af aE x,.ax 5 ag aH y]) rfl rfl (by decide) c
  simp only[cq,c2]at aI;refine fZ ?_ e;unfold rU;clear e a8;rw[cF yl 0];simp(disch:=omega)only[au,simprocAttr,C8,eN,bM,bT,bC,aCx,ao,aI,De];rfl
def bk.ag3:∀(k:Nat) {m:M},bk m→bk (nP ou k m)
 |0,_,h=>h
 |k+1,m,h=>bk.ag3 k (h.bc (by have j:=h.cv;have J:=h.w;have:=ag2 (l:=m.cv) R m.aG.c;omega))
def bk.ag4:∀(k:Nat) {m:M},bk m→bk (nP qH k m)
 |0,_,h=>h
 |k+1,m,h=>bk.ag4 k (h.bc (by have j:=h.cv;have J:=h.w;have:=aKW (l:=m.cv) R (c:=m.aG.c) (by have:=h.aG.2.1;omega);omega))
def RV(f:List Bool→Int→Int):∀(k:Nat) (m:M),(nP f k m).G=m.G∧(nP f k m).O=m.O
 |0,m=>⟨rfl,rfl⟩
 |k+1,m=>RV f k _
def aKZ{m:M}(hm:bk m)(n:Nat)(aF:n<1000000):hr 172 [.i (.v (.int .i64 (n))),.aR (.func 100) [] []] m (.be []) (nP ou (min n m.w) m):=by
 intro af aE ag aH;have hw:=hm.w;have bq:=hm.cv;have an:=aKX (min n m.w) R af aE ag aH (aX m.G) (aX m.O) (min n m.w) m 0 R R;have zG:min (n:Int) (m.w:Int)=((min n m.w:Nat):Int):=by omega
 have rc:=RV ou (min n m.w) m;simp only[gZ]at an;generalize min n m.w=N at*;generalize nP ou N m=b1 at*;rw[bp yl];simp(disch:=first|omega|(simp only[dW];omega))only[au,simprocAttr,C8,eN,bM,bT,bC,ag1,zG,an,De];refine⟨_,rfl,?_⟩;rw[←rc.1,←rc.2];exact eb.dF
def aK0{m:M}(hm:bk m)(n:Nat)(aF:n<1000000):hr 172 [.i (.v (.int .i64 (n))),.aR (.func 174) [] []] m (.be []) (nP qH (min n m.w) m):=by
 intro af aE ag aH;have hw:=hm.w;have bq:=hm.cv;have an:=aKY (min n m.w) R af aE ag aH (aX m.G) (aX m.O) (min n m.w) m 0 R R;have zG:min (n:Int) (m.w:Int)=((min n m.w:Nat):Int):=by omega
 have rc:=RV qH (min n m.w) m;simp only[gZ]at an;generalize min n m.w=N at*;generalize nP qH N m=b1 at*;rw[bp yl];simp(disch:=first|omega|(simp only[dW];omega))only[au,simprocAttr,C8,eN,bM,bT,bC,ag1,zG,an,De];refine⟨_,rfl,?_⟩;rw[←rc.1,←rc.2];exact eb.dF
def AT(m:M)(n:Int):M:=if n=0 then{m with cv:=m.cv.set m.aG.c.toNat false}else if n=3 then{m with cv:=cy m.w false}else m
def bk.RW{m:M}(h:bk m){l:List Bool}(an:l.length=m.w):bk {m with cv:=l}:=
 {w:=h.w,h:=h.h,G:=h.G,O:=h.O,aG:=h.aG,bP:=h.bP,a:=h.a,aE:=h.aE,cZ:=h.cZ,cv:=an,back:=h.back,bK:=h.bK,hF:=h.hF,eH:=h.eH,di:=h.di}
def bk.RX{m:M}(h:bk m){n:Int}:bk (AT m n):=by
 unfold AT;split
 ·exact h.RW (by rw[jI];exact h.cv)
 ·split
  ·exact h.RW mv
  ·exact h
def aK1{m:M}(hm:bk m)(n:Int):hr 182 [.i (.v (.int .i64 (n)))] m (.be []) (AT m n):=by
 intro af aE ag aH;have ah:=hm.aG.2.1;obtain⟨c,e9⟩:=jk ah.1;have hw:=hm.w;have bq:=hm.cv;unfold AT;by_cases aV:n=0
 ·subst aV;rw[if_pos rfl,e9,oe];have ao:=λ H=>ago m.cv c R R false H
  rw[←e9]at ao;rw[bp KM];simp(disch:=omega)only[au,simprocAttr,Qy,eN,bM,bT,bC,ao];exact⟨_,rfl,eb.dF⟩
 ·rw[if_neg aV];by_cases aw:n=3
  ·subst aw;rw[if_pos rfl];have xE:cy m.w [aD.v (.bool false)]=dl (cy m.w false):=by simp[dl]
   have fe:(dl (cy m.w false)).length=m.w:=by rw[kF,mv]
   generalize cy m.w false=aW at*;rw[bp KM];simp(disch:=omega)only[au,simprocAttr,Qy,eN,bM,bT,bC,xE];refine⟨_,rfl,?_⟩;exact eb.dF
  ·rw[if_neg aw];rw[bp KM];simp(disch:=omega)only[au,simprocAttr,Qy,eN,bM,bT,bC];exact⟨_,rfl,eb.dF⟩
def RY(m:M)(n:Int):List UInt8:=if n=5 then[27,91,48,110]else if n=6 then[27,91]++Ag (if m.md.c4=true then m.aG.r+1-m.cz else m.aG.r+1)++[59]++Ag (m.aG.c+1)++[82]else[]
def AU(m:M)(n:Int):M:=if m.di.length+(RY m n).length≤1000 then{m with di:=m.di++RY m n}else m
def bk.RZ{m:M}(h:bk m){n:Int}:bk (AU m n):=by
 unfold AU;split
 ·rename_i j;exact{w:=h.w,h:=h.h,G:=h.G,O:=h.O,aG:=h.aG,bP:=h.bP,a:=h.a,aE:=h.aE,cZ:=h.cZ,cv:=h.cv,back:=h.back,bK:=h.bK,hF:=h.hF,eH:=h.eH,di:=by rw[dd];exact j}
 ·exact h
def R0(n:Int)(h:-9223372036854775808≤n∧n≤9223372036854775807)(H:aa):ct 214 [n] H (.i (.str (Ag n))):=
 Pm (show E.ext 214=some x_ from rfl) rfl rfl ⟨[],by simp only[x_];rw[if_pos h]⟩
def aK2{m:M}(hm:bk m)(n:Int):hr 183 [.i (.v (.int .i64 (n)))] m (.be []) (AU m n):=by
 intro af aE ag aH;have ah:=hm.aG;have hw:=hm.w;have aO:=hm.h;have bq:=hm.cZ;have ai:=hm.di;unfold AU RY;by_cases bu:n=5
 ·subst bu;simp only[if_true];by_cases an:m.di.length+[27,91,48,(110:UInt8)].length≤1000
  ·rw[if_pos an];simp only[cX]at an;rw[bp ym];simp(disch:=omega)only[au,simprocAttr,Au,bM,bT,bC];exact⟨_,rfl,eb.dF⟩
  ·rw[if_neg an];simp only[cX]at an;rw[bp ym];simp(disch:=omega)only[au,simprocAttr,Au,bM,bT,bC];exact⟨_,rfl,eb.dF⟩
 ·rw[if_neg bu];by_cases dw:n=6
  ·subst dw;rw[if_pos rfl];have aI:=λ H=>R0 (m.aG.c+1) R H
   have eS:=Lib.itoa_length_le (m.aG.c+1) R R;cases LU:m.md.c4 with
   |false=>
    simp only[fK,if_false];have ao:=λ H=>R0 (m.aG.r+1) R H
    have c7:=Lib.itoa_length_le (m.aG.r+1) R R;generalize Ag (m.aG.r+1)=s1 at*;generalize Ag (m.aG.c+1)=s2 at*;by_cases an:m.di.length+([27,91]++s1++[59]++s2++[(82:UInt8)]).length≤1000
    ·rw[if_pos an];simp only[dd,cX]at an;rw[bp ym];simp(disch:=omega)only[au,simprocAttr,Au,bM,bT,bC,LU,ao,aI];exact⟨_,rfl,eb.dF⟩
    ·rw[if_neg an];simp only[dd,cX]at an;rw[bp ym];simp(disch:=omega)only[au,simprocAttr,Au,bM,bT,bC,LU,ao,aI];exact⟨_,rfl,eb.dF⟩
   |true=>
    simp only[if_true];have ao:=λ H=>R0 (m.aG.r+1-m.cz) R H
    have c7:=Lib.itoa_length_le (m.aG.r+1-m.cz) R R;generalize Ag (m.aG.r+1-m.cz)=s1 at*;generalize Ag (m.aG.c+1)=s2 at*;by_cases an:m.di.length+([27,91]++s1++[59]++s2++[(82:UInt8)]).length≤1000
    ·rw[if_pos an];simp only[dd,cX]at an;rw[bp ym];simp(disch:=omega)only[au,simprocAttr,Au,bM,bT,bC,LU,ao,aI];exact⟨_,rfl,eb.dF⟩
    ·rw[if_neg an];simp only[dd,cX]at an;rw[bp ym];simp(disch:=omega)only[au,simprocAttr,Au,bM,bT,bC,LU,ao,aI];exact⟨_,rfl,eb.dF⟩
  ·rw[if_neg dw];rw[if_pos (by simpa using ai),c_];rw[bp ym];simp(disch:=omega)only[au,simprocAttr,Au,bM,bT,bC,c_];exact⟨_,rfl,eb.dF⟩
def ag5{l:List Int}{i d:Int}(h:1≤d):1≤bW l i d:=by
 unfold bW
 repeat' split
 all_goals omega
def DO(m:M)(l:List Int):M:=if bW l 0 1<min (bW l 1 m.h) m.h then{m with cz:=bW l 0 1-1,b8:=min (bW l 1 m.h) m.h,aG:=⟨toR 1 (cj {m with cz:=bW l 0 1-1,b8:=min (bW l 1 m.h) m.h}),k9 1 (cj {m with cz:=bW l 0 1-1,b8:=min (bW l 1 m.h) m.h}),false⟩}else m
def bk.ag6{m:M}(h:bk m){t b:Int}(an:0≤t∧t<b∧b≤m.h):bk {m with cz:=t,b8:=b}:=
 {w:=h.w,h:=h.h,G:=h.G,O:=h.O,aG:=h.aG,bP:=h.bP,a:=h.a,aE:=h.aE,cZ:=an,cv:=h.cv,back:=h.back,bK:=h.bK,hF:=h.hF,eH:=h.eH,di:=h.di}
def bk.R1{m:M}(h:bk m){l:List Int}:bk (DO m l):=by
 unfold DO;split
 ·have j:=ag5 (l:=l) (i:=0) (show(1:Int)≤1 by omega);have J:=h.ag6 (t:=bW l 0 1-1) (b:=min (bW l 1 m.h) m.h) R;exact J.jX (G5 1 1 J)
 ·exact h
def aK3{m:M}(hm:bk m)(l:List Int)(an:l.length<100000):hr 184 [.i (.ae 1 (b3 l) false)] m (.be []) (DO m l):=by
 intro af aE ag aH;have j:=ag5 (l:=l) (i:=0) (show(1:Int)≤1 by omega);have aO:=hm.h;have ao:=λ H=>kk l 0 1 an H
 have aI:=λ H=>kk l 1 m.h an H
 unfold DO;have aS:bW l 0 1<min (bW l 1 m.h) m.h→bk {m with cz:=bW l 0 1-1,b8:=min (bW l 1 m.h) m.h}:=λ h=>hm.ag6 R
 generalize bW l 0 1=p at*;generalize bW l 1 m.h=q at*;by_cases bf:p<min q (m.h:Int)
 ·rw[if_pos bf];have gq:=aS bf;have bE:=agx (m:={m with cz:=p-1,b8:=min q m.h}) (a:=0) (b:=1) (af:=af) (ag:=ag) (T:=[.ax 5 af aE (aX m.G),.ax 5 ag aH (aX m.O)]) rfl rfl (by decide) gq.cj 1 1;simp only[cq,c2]at bE;rw[bp KN];simp(disch:=omega)only[au,simprocAttr,aew,bB,bM,bT,bC,ao,aI,bE,bf];exact⟨_,rfl,eb.dF⟩
 ·rw[if_neg bf];rw[bp KN];simp(disch:=omega)only[au,simprocAttr,aew,bB,bM,bT,bC,ao,aI,bf];exact⟨_,rfl,eb.dF⟩
def AV(k:Nat):Int:=[1,2,3,4,5,7,8,9].getD k 0
def aK4(k:Nat)(h:k<8):([.i (.v (.int .i64 (1))),.i (.v (.int .i64 (2))),.i (.v (.int .i64 (3))),.i (.v (.int .i64 (4))),.i (.v (.int .i64 (5))),.i (.v (.int .i64 (7))),.i (.v (.int .i64 (8))),.i (.v (.int .i64 (9)))]:List U)[k*1]?=some (.i (.v (.int .i64 (AV k)))):=by
 match k,h with
 |0,_|1,_|2,_|3,_|4,_|5,_|6,_|7,_=>rfl
def tB(n:Int):Int×Int:=
 if n=1 then(1,0)else if n=2 then(2,0)else if n=3 then(4,0)else if n=4 then(8,0)else if n=5 then(16,0)else if n=7 then(32,0)else if n=8 then(64,0)else if n=9 then(128,0)else
 if n=22 then(0,3)else if n=23 then(0,4)else if n=24 then(0,8)else if n=25 then(0,16)else if n=27 then(0,32)else if n=28 then(0,64)else if n=29 then(0,128)else(0,0)
def aK5(n:Int)(ak:0≤n∧n≤1000000)(aF:∀k<8,¬n=AV k∧¬n=20+AV k):∀m k:Nat,k+m=8→
  hT C5 0 [(0,n),(3,↑(0:Int)),(6,.agg [↑(1:Int),↑(2:Int),↑(3:Int),↑(4:Int),↑(5:Int),↑(7:Int),↑(8:Int),↑(9:Int)]),(7,k)] [] 0 [(0,n),(3,↑(0:Int)),(6,.agg [↑(1:Int),↑(2:Int),↑(3:Int),↑(4:Int),↑(5:Int),↑(7:Int),↑(8:Int),↑(9:Int)]),(7,↑(8:Int)),(8,false)] []:=by
 intro m;induction m with
 |zero=>intro k az;obtain rfl:k=8:=R;refine(cF C5 0).trans ?_;simp(disch:=omega)only[au,simprocAttr,Qt,QQ]
 |succ m a8=>
  intro k az;have fY:k<8:=R;have aA:=aK4 k fY;obtain⟨j,J⟩:=aF k fY;have ah:0≤AV k∧AV k≤9:=by
   match k,fY with
   |0,_|1,_|2,_|3,_|4,_|5,_|6,_|7,_=>decide
  have e:=a8 (k+1) R;refine fZ ?_ e;clear e a8 aF;generalize AV k=c at*;refine(cF C5 0).trans ?_;simp(disch:=omega)only[au,simprocAttr,Qt,aA,j,J,QQ]
def aK6{n a b:Int}(h:(match call E 200 151 [.i (.v (.int .i64 (n)))] []with|some (.be [.i (.v (.int .i64 x)),.i (.v (.int .i64 y))],_)=>decide (x=a) &&decide (y=b)|_=>false)=true):gi 151 [n] (.be [a,b]):=by
 split at h
 ·rename_i x y L fh;simp only[cO,decide_eq_true_eq]at h;obtain⟨rfl,rfl⟩:=h;exact⟨L,WL fh⟩
 ·cases h
def aK7(n:Int)(ak:0≤n∧n≤1000000):gi 151 [n] (.be [↑((tB n).1),↑((tB n).2)]):=by
 by_cases h:n=1∨n=2∨n=3∨n=4∨n=5∨n=7∨n=8∨n=9∨n=21∨n=22∨n=23∨n=24∨n=25∨n=27∨n=28∨n=29
 ·rcases h with rfl|rfl|rfl|rfl|rfl|rfl|rfl|rfl|rfl|rfl|rfl|rfl|rfl|rfl|rfl|rfl<;>exact aK6 aJ
 ·have aK:tB n=(0,0):=by
   unfold tB
   repeat' (rw[if_neg R])
  rw[aK];have an:=aK5 n ak (λ k az=>by
   match k,az with
   |0,_|1,_|2,_|3,_|4,_|5,_|6,_|7,_=>simp[AV];omega) 8 0 R
  simp only[gZ]at an;have aK8:¬n=22:=R;refine bw C5 ?_;simp(disch:=omega)only[au,simprocAttr,Qt,an,aK8,F6,QQ];exact⟨_,rfl⟩
def aK9(n:Int)(ak:0≤n∧n≤1000000)(H:aa):ct 151 [n] H (.be [↑((tB n).1),↑((tB n).2)]):=gX rfl rfl rfl (aK7 n ak)
def ov(n b:Int):Int×Bool:=if 0≤n-b∧n-b≤7 then(n-b,true)else if 60≤n-b∧n-b≤67 then(n-b-52,true)else if n-b=9 then(-1,true)else(0,false)
def ag7(n b:Int)(aF:0≤n∧n≤1000000)(ak:0≤b∧b≤100)(H:aa):ct 152 [n,b] H (.be [↑((ov n b).1),↑((ov n b).2)]):=cu (by
 have hw:n0.wrap (n-b)=n-b:=Xe R R;unfold ov;generalize az:n-b=k at*;have aRP:-100≤k∧k≤1000000:=R;clear hw aF ak;by_cases j:0≤k∧k≤7
 ·rw[if_pos j];refine bw At ?_;simp(disch:=omega)only[au,simprocAttr,C6,az];exact⟨_,rfl⟩
 ·rw[if_neg j];by_cases J:60≤k∧k≤67
  ·rw[if_pos J];refine bw At ?_;simp(disch:=omega)only[au,simprocAttr,C6,az];exact⟨_,rfl⟩
  ·rw[if_neg J];by_cases aw:k=9
   ·rw[if_pos aw];refine bw At ?_;simp(disch:=omega)only[au,simprocAttr,C6,az];exact⟨_,rfl⟩
   ·rw[if_neg aw];by_cases bb:k<0
    ·refine bw At ?_;simp(disch:=omega)only[au,simprocAttr,C6,az];exact⟨_,rfl⟩
    ·by_cases bu:k<60
     ·have dw:7<k:=R;refine bw At ?_;simp(disch:=omega)only[au,simprocAttr,C6,az];exact⟨_,rfl⟩
     ·have dw:67<k:=R;refine bw At ?_;simp(disch:=omega)only[au,simprocAttr,C6,az];exact⟨_,rfl⟩)
def ag8(H:aa):ct 16 [] H (.agg [↑(-1:Int),↑(-1:Int),↑(0:Int)]):=cu (by
 refine bw adh ?_;simp(disch:=omega)only[au,simprocAttr,aEA];exact⟨_,rfl⟩)
def R2{a:eh}(h:ik a=true):(-1≤a.c1∧a.c1≤255)∧(-1≤a.a_∧a.a_≤255)∧0≤a.cY∧a.cY≤255:=by simp only[ik,cO,decide_eq_true_eq]at h;exact⟨h.1.1,h.1.2,h.2⟩
def ag9{a:eh}(h:ik a=true)(H:aa):ct 30 [.agg [a.c1,a.a_,a.cY]] H (↑(0:Int)):=cu (by
 obtain⟨⟨j,J⟩,⟨aw,bb⟩,bu,dw⟩:=R2 h;have eS:d_ E 0 30 (e4 Tryz.f30 0) [(1,.ptr 0 0 0 0),(9,.agg [.i (.v (.int .i64 (a.c1))),.i (.v (.int .i64 (a.a_)))]),(10,.i (.v (.int .i64 (2))))] [.box [.i (.v (.int .i64 (a.c1))),.i (.v (.int .i64 (a.a_))),.i (.v (.int .i64 (a.cY)))]]=some (.exit 0,[(1,.ptr 0 0 0 0),(9,.agg [.i (.v (.int .i64 (a.c1))),.i (.v (.int .i64 (a.a_)))]),(10,.i (.v (.int .i64 (2)))),(11,.i (.v (.bool (false))))],[.box [.i (.v (.int .i64 (a.c1))),.i (.v (.int .i64 (a.a_))),.i (.v (.int .i64 (a.cY)))]]):=by rw[cF CQ 0];simp(disch:=omega)only[au,simprocAttr,Ks,KS]
 have c7:d_ E 0 30 (e4 Tryz.f30 0) [(1,.ptr 0 0 0 0),(9,.agg [.i (.v (.int .i64 (a.c1))),.i (.v (.int .i64 (a.a_)))]),(10,.i (.v (.int .i64 (1))))] [.box [.i (.v (.int .i64 (a.c1))),.i (.v (.int .i64 (a.a_))),.i (.v (.int .i64 (a.cY)))]]=some (.exit 0,[(1,.ptr 0 0 0 0),(9,.agg [.i (.v (.int .i64 (a.c1))),.i (.v (.int .i64 (a.a_)))]),(10,.i (.v (.int .i64 (2)))),(11,.i (.v (.bool (false))))],[.box [.i (.v (.int .i64 (a.c1))),.i (.v (.int .i64 (a.a_))),.i (.v (.int .i64 (a.cY)))]]):=by refine fZ ?_ eS;rw[cF CQ 0];simp(disch:=omega)only[au,simprocAttr,Ks,KS]
 have oE:d_ E 0 30 (e4 Tryz.f30 0) [(1,.ptr 0 0 0 0),(9,.agg [.i (.v (.int .i64 (a.c1))),.i (.v (.int .i64 (a.a_)))]),(10,.i (.v (.int .i64 (0))))] [.box [.i (.v (.int .i64 (a.c1))),.i (.v (.int .i64 (a.a_))),.i (.v (.int .i64 (a.cY)))]]=some (.exit 0,[(1,.ptr 0 0 0 0),(9,.agg [.i (.v (.int .i64 (a.c1))),.i (.v (.int .i64 (a.a_)))]),(10,.i (.v (.int .i64 (2)))),(11,.i (.v (.bool (false))))],[.box [.i (.v (.int .i64 (a.c1))),.i (.v (.int .i64 (a.a_))),.i (.v (.int .i64 (a.cY)))]]):=by refine fZ ?_ c7;rw[cF CQ 0];simp(disch:=omega)only[au,simprocAttr,Ks,KS]
 clear c7 eS;refine bw CQ ?_;simp(disch:=omega)only[au,simprocAttr,Ks,oE,KS];exact⟨_,rfl⟩)
def wL(a:Int)(l:List Int):b3 (a::l)=[.v (.int .i64 a)]::b3 l:=rfl
def gC:List Int→Int×Int
 |a::b::l=>if a=5∧b≤255 then(b,2)else match l with
  |c::d::_=>if a=2∧max b (max c d)≤255 then(16+36*(b*5).tdiv 255+6*(c*5).tdiv 255+(d*5).tdiv 255,4)else(0,0)
  |_=>(0,0)
 |_=>(0,0)
def DP{b:Int}(h:0≤b∧b≤255):0≤(b*5).tdiv 255∧(b*5).tdiv 255≤5:=by rw[Int.tdiv_eq_ediv_of_nonneg R];omega
def aK_(l:List Int)(an:l.length≤100000)(av:∀x∈l,0≤x∧x≤1000000)(H:aa):ct 150 [.i (.ae 1 (b3 l) false)] H (.be [↑((gC l).1),↑((gC l).2)]):=cu (by
 match l,an,av with
 |[],an,av=>refine bw tq ?_;simp(disch:=omega)only[au,simprocAttr,uD,bB,cm,show b3 []=[]from rfl];exact⟨_,rfl⟩
 |[a],an,av=>refine bw tq ?_;simp(disch:=omega)only[au,simprocAttr,uD,bB,cm,wL,show b3 []=[]from rfl];exact⟨_,rfl⟩
 |a::b::l,an,av=>
  have j:=av a (by simp);have J:=av b (by simp);have hx:(l.length:Int)≤100000:=by simp at an;omega
  by_cases bu:a=5∧b≤255
  ·simp only[gC,if_pos bu];obtain⟨rfl,bu⟩:=bu;refine bw tq ?_;simp(disch:=omega)only[au,simprocAttr,uD,bB,cm,wL];exact⟨_,rfl⟩
  ·by_cases aB:a=5
   ·have ak:¬b≤255:=λ h=>bu ⟨aB,h⟩
    have e:gC (a::b::l)=(0,0):=by
     subst aB;cases l with
     |nil=>simp[gC,ak]
     |cons c r=>cases r<;>simp[gC,ak]
    rw[e];subst aB;by_cases aRQ:(2:Int)≤l.length
    ·refine bw tq ?_;simp(disch:=omega)only[au,simprocAttr,uD,bB,cm,wL];exact⟨_,rfl⟩
    ·refine bw tq ?_;simp(disch:=omega)only[au,simprocAttr,uD,bB,cm,wL];exact⟨_,rfl⟩
   ·rcases l with _|⟨c,_|⟨d,r⟩⟩
    ·have e:gC [a,b]=(0,0):=by simp[gC,aB]
     rw[e];refine bw tq ?_;simp(disch:=omega)only[au,simprocAttr,uD,bB,cm,wL,show b3 []=[]from rfl];exact⟨_,rfl⟩
    ·have e:gC [a,b,c]=(0,0):=by simp[gC,aB]
     rw[e];refine bw tq ?_;simp(disch:=omega)only[au,simprocAttr,uD,bB,cm,wL,show b3 []=[]from rfl];exact⟨_,rfl⟩
    ·have aw:=av c (by simp);have bb:=av d (by simp);have IU:(r.length:Int)≤100000:=by simp at an;omega
     by_cases J:a=2∧max b (max c d)≤255
     ·have e:gC (a::b::c::d::r)=(16+36*(b*5).tdiv 255+6*(c*5).tdiv 255+(d*5).tdiv 255,4):=by simp only[gC,aB,false_and,if_false,if_pos J]
      rw[e];obtain⟨rfl,J⟩:=J;have ch:=DP (b:=b) R;have cw:=DP (b:=c) R;have fl:=DP (b:=d) R;refine bw tq ?_;simp(disch:=omega)only[au,simprocAttr,uD,bB,cm,wL];exact⟨_,rfl⟩
     ·have e:gC (a::b::c::d::r)=(0,0):=by simp only[gC,aB,false_and,if_false,if_neg J]
      rw[e];by_cases wt:a=2
      ·subst wt;have ak:¬max b (max c d)≤255:=λ h=>J ⟨rfl,h⟩
       refine bw tq ?_;simp(disch:=omega)only[au,simprocAttr,uD,bB,cm,wL];exact⟨_,rfl⟩
      ·refine bw tq ?_;simp(disch:=omega)only[au,simprocAttr,uD,bB,cm,wL];exact⟨_,rfl⟩)
def kL(l:List Int):List Int:=l.map λ n=>max n 0
def aK'{l:List Int}{k:Nat}(h:k<l.length):kL (l.take k)++[max l[k] 0]=kL (l.take (k+1)):=by rw[GO h];simp only[kL,pP,fk,fp]
def R3(l:List Int):(kL l).length=l.length:=by simp[kL]
def aLa(a:eh)(l:List Int)(an:l.length≤100000)(ak:∀x∈l,x≤1000000):∀(m k:Nat),k+m=l.length→
  hT o3 0 [(2,.ptr 0 0 0 0),(4,.ptr 1 0 0 0),(5,.ref 2 0 0 k),(22,.i (.ae 1 (b3 l) false)),(23,l.length),(24,k)] [.box [a.c1,a.a_,a.cY],.box [↑(0:Int),↑(0:Int),↑(0:Int)],.ae 1 0 (b3 (kL (l.take k))) false] 0 [(2,.ptr 0 0 0 0),(4,.ptr 1 0 0 0),(5,.ref 2 0 0 l.length),(22,.i (.ae 1 (b3 l) false)),(23,l.length),(24,l.length),(25,false)] [.box [a.c1,a.a_,a.cY],.box [↑(0:Int),↑(0:Int),↑(0:Int)],.ae 1 0 (b3 (kL l)) false]:=by
 intro m;induction m with
 |zero=>intro k az;obtain rfl:k=l.length:=R;rw[List.take_length];have al:=cm (kL l);rw[R3]at al;generalize b3 (kL l)=x at*;refine(cF o3 0).trans ?_;simp(disch:=omega)only[au,simprocAttr,sH,bB,cm,Dd]
 |succ m a8=>intro k az;have bf:k<l.length:=R;have bZ:=Az bf;have aS:=ae5 (kL (l.take k)) (max l[k] 0);rw[aK' bf]at aS;have al:=cm (kL (l.take k));rw[R3,gE,show min k l.length=k by omega]at al;have fm:=ak _ (mr bf);have e:=a8 (k+1) R;refine fZ ?_ e;clear e a8;generalize b3 (kL (l.take (k+1)))=y at*;generalize b3 (kL (l.take k))=x at*;generalize l[k]=n at*;refine(cF o3 0).trans ?_;simp(disch:=omega)only[au,simprocAttr,sH,bB,bZ,aS,cm,Dd]
def LV(a b:Int):Int:=n0.wrap ((sP n0.bits a|||sP n0.bits b).toNat:Int)
def LW(a b:Int):Int:=n0.wrap ((sP n0.bits a &&&~~~sP n0.bits b).toNat:Int)
def aLb(a b:Int):j0 .or .i64 a b=some (LV a b):=rfl
def aLc(a b:Int):j0 .andNot .i64 a b=some (LW a b):=rfl
def DQ(a:eh)(n:Int):eh:=⟨if(ov n 30).2=true then(ov n 30).1 else a.c1,if(ov n 40).2=true then(ov n 40).1 else a.a_,LW (LV a.cY (tB n).1) (tB n).2⟩
def jz:Nat→List Int→eh→eh
 |0,_,a=>a
 |_,[],a=>a
 |f+1,n::r,a=>if n=0 then jz f r ⟨-1,-1,0⟩else if n=38∨n=48 then(if(gC r).2=0 then a else jz f (r.drop (gC r).2.toNat) (if n=38 then{a with c1:=(gC r).1}else{a with a_:=(gC r).1}))else jz f r (DQ a n)
def AW(L:List Int)(a:eh)(x:Option (eD×Fr×aa)):Prop:=
 (∃t:Int,x=some (.exit 2,[(2,.ptr 0 0 0 0),(4,.ptr 1 0 0 0),(5,.i (.ae 1 (b3 L) false)),(8,.i (.v (.int .i64 (t)))),(43,.i (.v (.bool (false))))],[.box [.i (.v (.int .i64 (a).c1)),.i (.v (.int .i64 (a).a_)),.i (.v (.int .i64 (a).cY))],.box [.i (.v (.int .i64 (0))),.i (.v (.int .i64 (0))),.i (.v (.int .i64 (0)))]]))∨
 (∃I,x=some (.ret,(4,.ptr 1 0 0 0)::I,[.box [.i (.v (.int .i64 (a).c1)),.i (.v (.int .i64 (a).a_)),.i (.v (.int .i64 (a).cY))],.box [.i (.v (.int .i64 (a).c1)),.i (.v (.int .i64 (a).a_)),.i (.v (.int .i64 (a).cY))]]))
def aLd{r:List Int}(h:(gC r).2≠0):0<(gC r).2∧(gC r).2≤r.length:=by
 match r with
 |[]=>simp[gC]at h
 |[a]=>simp[gC]at h
 |[a,b]=>simp only[gC]at h⊢;split<;>simp_all
 |[a,b,c]=>simp only[gC]at h⊢;split<;>simp_all
 |a::b::c::d::r=>
  simp only[gC]at h⊢;split
  ·simp;omega
  ·split
   ·simp;omega
   ·simp_all
def aLe(l:List Int)(k:Nat):(b3 l).drop k=b3 (l.drop k):=by simp[b3,rK]
def ag_(L:List Int)(an:L.length≤100001)(ak:∀x∈L,0≤x∧x≤1000000):∀(f i:Nat) (a:eh),L.length≤i+f→i≤L.length→
  AW L (jz f (L.drop i) a) (d_ E 0 110 (e4 Tryz.f110 1) [(2,.ptr 0 0 0 0),(4,.ptr 1 0 0 0),(5,.i (.ae 1 (b3 L) false)),(8,.i (.v (.int .i64 (i))))] [.box [.i (.v (.int .i64 (a).c1)),.i (.v (.int .i64 (a).a_)),.i (.v (.int .i64 (a).cY))],.box [.i (.v (.int .i64 (0))),.i (.v (.int .i64 (0))),.i (.v (.int .i64 (0)))]]):=by
 have fin:∀(f:Nat) (a:eh),AW L (jz f (L.drop L.length) a) (d_ E 0 110 (e4 Tryz.f110 1) [(2,.ptr 0 0 0 0),(4,.ptr 1 0 0 0),(5,.i (.ae 1 (b3 L) false)),(8,.i (.v (.int .i64 (L.length))))] [.box [.i (.v (.int .i64 (a).c1)),.i (.v (.int .i64 (a).a_)),.i (.v (.int .i64 (a).cY))],.box [.i (.v (.int .i64 (0))),.i (.v (.int .i64 (0))),.i (.v (.int .i64 (0)))]]):=by
  intro f a;have e:jz f (L.drop L.length) a=a:=by rw[nd];cases f<;>rfl
  rw[e];refine .inl ⟨L.length,?_⟩;rw[cF o3 1];simp(disch:=omega)only[au,simprocAttr,sH,bB,cm,uG]
 intro f;induction f with
 |zero=>intro i a j J;obtain rfl:i=L.length:=R;exact fin 0 a
 |succ f a8=>
  intro i a j J;by_cases aA:i=L.length
  ·subst aA;exact fin _ a
  ·have bf:i<L.length:=R;have bZ:=Az bf;have aF:=ak _ (mr bf);have aS:1+(i:Int)=((i+1:Nat):Int):=R;have DR:(i:Int)+1=((i+1:Nat):Int):=R;rw[ji bf];generalize L[i]=n at*;by_cases aV:n=0
   ·have e:=a8 (i+1) ⟨-1,-1,0⟩ R R;have bn:jz (f+1) (n::L.drop (i+1)) a=jz f (L.drop (i+1)) ⟨-1,-1,0⟩:=by rw[jz,if_pos aV]
    rw[bn];subst aV;generalize jz f (L.drop (i+1)) ⟨-1,-1,0⟩=A at*;refine Eq.mp (congrArg (AW L A) ?_) e;refine Eq.symm ?_;rw[cF o3 1];simp(disch:=omega)only[au,simprocAttr,sH,bB,bZ,ag8,cm,uG]
   ·have n2:(L.drop (i+1)).length=L.length-(i+1):=ic;have aM:=aLe L (i+1);have ft:=cm (L.drop (i+1));rw[n2]at ft;by_cases ah:n=38∨n=48
    ·have aI:=λ H=>aK_ (L.drop (i+1)) R (λ x al=>ak x (uQ al)) H
     by_cases hu:(gC (L.drop (i+1))).2=0
     ·have bn:jz (f+1) (n::L.drop (i+1)) a=a:=by rw[jz,if_neg aV,if_pos ah,if_pos hu]
      rw[bn];rw[hu]at aI;refine .inr ?_;generalize (gC (L.drop (i+1))).1=z at*;generalize b3 (L.drop (i+1))=aW at*;rcases ah with ah|ah<;>(
       subst ah;rw[cF o3 1];simp(disch:=omega)only[au,simprocAttr,sH,bB,bZ,aI,aM,cm,uG];exact⟨_,rfl⟩)
     ·have hle:=aLd hu;obtain⟨u,Ch⟩:=jk (Int.le_of_lt hle.1);have ag':¬(u:Int)=0:=R;rw[n2]at hle;have e:=a8 (i+u+1) (if n=38 then{a with c1:=(gC (L.drop (i+1))).1}else{a with a_:=(gC (L.drop (i+1))).1}) R R;have bn:jz (f+1) (n::L.drop (i+1)) a=jz f (L.drop (i+u+1)) (if n=38 then{a with c1:=(gC (L.drop (i+1))).1}else{a with a_:=(gC (L.drop (i+1))).1}):=by rw[jz,if_neg aV,if_pos ah,if_neg hu,Ch,oe,If,show i+1+u=i+u+1 by omega]
      rw[bn];rw[Ch]at aI;have Wq:(i:Int)+u+1=((i+u+1:Nat):Int):=R;rw[←Wq]at e;generalize (gC (L.drop (i+1))).1=z at*;generalize b3 (L.drop (i+1))=aW at*;rcases ah with ah|ah
      ·subst ah;simp only[if_true]at e⊢;refine Eq.mp (congrArg (AW L _) ?_) e;refine Eq.symm ?_;rw[cF o3 1];simp(disch:=omega)only[au,simprocAttr,sH,bB,bZ,aI,aM,ag',cm,uG]
      ·subst ah;simp only[show¬(48:Int)=38 by decide,if_false]at e⊢;refine Eq.mp (congrArg (AW L _) ?_) e;refine Eq.symm ?_;rw[cF o3 1];simp(disch:=omega)only[au,simprocAttr,sH,bB,bZ,aI,aM,ag',cm,uG]
    ·have e:=a8 (i+1) (DQ a n) R R;have bn:jz (f+1) (n::L.drop (i+1)) a=jz f (L.drop (i+1)) (DQ a n):=by rw[jz,if_neg aV,if_neg ah]
     rw[bn];have ao:=λ H=>aK9 n aF H
     have aI:=λ H=>ag7 n 30 aF R H
     have bE:=λ H=>ag7 n 40 aF R H
     have aRR:¬n=38:=λ h=>ah (.inl h)
     have aRS:¬n=48:=λ h=>ah (.inr h)
     generalize jz f (L.drop (i+1)) (DQ a n)=A at*;refine Eq.mp (congrArg (AW L A) ?_) e;refine Eq.symm ?_;unfold DQ;generalize tB n=cY at*;generalize ov n 30=ud at*;generalize ov n 40=Fg at*;obtain⟨aRT,aLf⟩:=ud;obtain⟨aRU,aLg⟩:=Fg;cases aLf<;>cases aLg<;>simp only[if_true,if_false,fK]at aI bE⊢<;>(
      rw[cF o3 1];simp(disch:=omega)only[au,simprocAttr,sH,bB,bZ,ao,aI,bE,aLb,aLc,cm,uG])
def wM(a:eh)(l:List Int):eh:=if l=[]then jz 1 [0] a else jz l.length (kL l) a
def R4:List (Int×Int):=[(1,0),(2,0),(4,0),(8,0),(16,0),(32,0),(64,0),(128,0),(0,3),(0,4),(0,8),(0,16),(0,32),(0,64),(0,128),(0,0)]
def aLh{p:Prop} [Decidable p]{a b:Int×Int}{l:List (Int×Int)}(j:a∈l)(J:b∈l):(if p then a else b)∈l:=by split<;>assumption
def aLi(n:Int):tB n∈R4:=by
 unfold tB
 repeat' apply aLh
 all_goals simp[R4]
def aLj:∀a:Nat,a<256→∀p∈R4,0≤LW (LV a p.1) p.2∧LW (LV a p.1) p.2≤255:=by decide+kernel
def aLk{x y z:Int}(j:-1≤x∧x≤255)(J:-1≤y∧y≤255)(aw:0≤z∧z≤255):ik ⟨x,y,z⟩=true:=by simp only[ik,cO,decide_eq_true_eq];omega
def aLl{a:eh}(h:ik a=true)(n:Int):ik (DQ a n)=true:=by
 obtain⟨j,J,aw⟩:=R2 h;obtain⟨k,az⟩:=jk aw.1;have aK:=aLj k R _ (aLi n);rw[←az]at aK;have s1:(ov n 30).2=true→-1≤(ov n 30).1∧(ov n 30).1≤255:=by
  unfold ov
  repeat' split
  all_goals (simp only;intro h;first|omega|cases h)
 have s2:(ov n 40).2=true→-1≤(ov n 40).1∧(ov n 40).1≤255:=by
  unfold ov
  repeat' split
  all_goals (simp only;intro h;first|omega|cases h)
 refine aLk ?_ ?_ aK
 ·split
  ·rename_i h;exact s1 h
  ·exact j
 ·split
  ·rename_i h;exact s2 h
  ·exact J
def aLm{r:List Int}(av:∀x∈r,0≤x)(h:(gC r).2≠0):0≤(gC r).1∧(gC r).1≤255:=by
 match r,av with
 |[],_=>simp[gC]at h
 |[a],_=>simp[gC]at h
 |[a,b],av=>have J:=av b (by simp);simp only[gC]at h⊢;split<;>simp_all
 |[a,b,c],av=>have J:=av b (by simp);simp only[gC]at h⊢;split<;>simp_all
 |a::b::c::d::r,av=>
  have J:=av b (by simp);have aw:=av c (by simp);have bb:=av d (by simp);simp only[gC]at h⊢;split
  ·rename_i bu;exact⟨J,bu.2⟩
  ·split
   ·rename_i bu;have ch:=DP (b:=b) R;have cw:=DP (b:=c) R;have fl:=DP (b:=d) R;simp only;omega
   ·exact⟨by simp,by simp⟩
def Ha:∀(f:Nat) (l:List Int) (a:eh),(∀x∈l,0≤x)→ik a=true→ik (jz f l a)=true
 |0,_,a,_,h=>by cases ‹List Int›<;>exact h
 |f+1,[],a,_,h=>h
 |f+1,n::r,a,av,h=>by
  have pR:∀x∈r,0≤x:=λ x al=>av x (xK _ al)
  rw[jz];split
  ·exact Ha f r _ pR (by decide)
  ·split
   ·split
    ·exact h
    ·rename_i hu;have ah:=aLm pR hu;obtain⟨j,J,aw⟩:=R2 h;refine Ha f _ _ (λ x al=>pR x (uQ al)) ?_;split<;>simp only[ik,cO,decide_eq_true_eq]<;>omega
   ·exact Ha f r _ pR (aLl h n)
def aLn{a:eh}(h:ik a=true)(l:List Int):ik (wM a l)=true:=by
 unfold wM;split
 ·exact Ha _ _ _ (by simp) h
 ·refine Ha _ _ _ (λ x al=>?_) h;simp only[kL,FG]at al;obtain⟨y,_,rfl⟩:=al;omega
def aLo(a:eh)(l:List Int)(an:l.length≤100000)(ak:∀x∈l,x≤1000000)(H:aa):ct 110 [.agg [a.c1,a.a_,a.cY],.i (.ae 1 (b3 l) false)] H (.agg [↑((wM a l).c1),↑((wM a l).a_),↑((wM a l).cY)]):=cu (by
 have j:=aLa a l an ak l.length 0 R;simp only[gZ,nc,show b3 (kL [])=[]from rfl]at j;by_cases aF:l=[]
 ·subst aF;have J:=ag_ [0] (by simp) (by simp) 1 0 a (by simp) (by simp);simp only[gZ,iy]at J;rw[show wM a []=jz 1 [0] a from rfl];generalize jz 1 [0] a=A at*;simp only[show b3 []=[]from rfl,show kL []=[]from rfl,dx,gZ,show b3 [0]=[[.v (.int .i64 0)]]from rfl,cT]at j J⊢;rcases J with⟨t,J⟩|⟨I,J⟩
  ·refine bw o3 ?_;simp(disch:=omega)only[au,simprocAttr,sH,bB,j,J,Dd,uG];exact⟨_,rfl⟩
  ·refine bw o3 ?_;simp(disch:=omega)only[au,simprocAttr,sH,bB,j,J,Dd,uG];exact⟨_,rfl⟩
 ·have BE:=R3 l;have J:=ag_ (kL l) R (λ x al=>by
   simp only[kL,FG]at al;obtain⟨y,aZ,rfl⟩:=al;have:=ak y aZ;omega) (kL l).length 0 a R R
  rw[iy,BE]at J;simp only[gZ]at J;rw[show wM a l=jz l.length (kL l) a from if_neg aF];generalize jz l.length (kL l) a=A at*;have hS:0<l.length:=NF.2 aF;have fe:=cm (kL l);rw[BE]at fe;unfold AW at J;rw[BE]at*;generalize b3 (kL l)=aW at*;have gp:¬(l.length:Int)=0:=R;rcases J with⟨t,J⟩|⟨I,J⟩
  ·refine bw o3 ?_;simp(disch:=omega)only[au,simprocAttr,sH,bB,j,J,gp,cm,Dd,uG];exact⟨_,rfl⟩
  ·refine bw o3 ?_;simp(disch:=omega)only[au,simprocAttr,sH,bB,j,J,gp,cm,Dd,uG];exact⟨_,rfl⟩)
def pY(m:k_)(s:List UInt8)(c:Int):k_:=if c=66∨c=48 then(if s=[40]then{m with dn:=c}else if s=[41]then{m with s1:=c}else m)else m
def aLp(m:k_)(s:List UInt8)(c:Int)(H:aa):ct 102 [.agg [m.ins,m.io,m.kG,m.c4,m.wr,m.kH,m.fP,m.kI,.i (.v (.int .u8 (m).dn)),.i (.v (.int .u8 (m).s1)),m.dM],.i (.str s),.i (.v (.int .u8 (c)))] H (.agg [↑((pY m s c).ins),↑((pY m s c).io),↑((pY m s c).kG),↑((pY m s c).c4),↑((pY m s c).wr),↑((pY m s c).kH),↑((pY m s c).fP),↑((pY m s c).kI),.i (.v (.int .u8 (pY m s c).dn)),.i (.v (.int .u8 (pY m s c).s1)),↑((pY m s c).dM)]):=cu (by
 unfold pY;by_cases ah:c=66∨c=48
 ·rw[if_pos ah];by_cases j:s=[40]
  ·subst j;rw[if_pos rfl];rcases ah with rfl|rfl<;>(
    refine bw Gk ?_;simp(disch:=omega)only[au,simprocAttr,Kz];exact⟨_,rfl⟩)
  ·rw[if_neg j];by_cases J:s=[41]
   ·subst J;rw[if_pos rfl];rcases ah with rfl|rfl<;>(
     refine bw Gk ?_;simp(disch:=omega)only[au,simprocAttr,Kz,BQ,show¬(41:UInt8)=40 by decide];exact⟨_,rfl⟩)
   ·rw[if_neg J];rcases ah with rfl|rfl<;>(
     refine bw Gk ?_;simp(disch:=omega)only[au,simprocAttr,Kz,j,J];exact⟨_,rfl⟩)
 ·rw[if_neg ah];have j:¬c=66:=λ h=>ah (.inl h)
  have J:¬c=48:=λ h=>ah (.inr h)
  refine bw Gk ?_;simp(disch:=omega)only[au,simprocAttr,Kz];exact⟨_,rfl⟩)
def aha(m:k_)(i:Int)(aA:i=0∨i=1)(H:aa):ct 101 [.agg [m.ins,m.io,m.kG,m.c4,m.wr,m.kH,m.fP,m.kI,.i (.v (.int .u8 (m).dn)),.i (.v (.int .u8 (m).s1)),m.dM],i] H (.agg [↑(({m with dM:=i}).ins),↑(({m with dM:=i}).io),↑(({m with dM:=i}).kG),↑(({m with dM:=i}).c4),↑(({m with dM:=i}).wr),↑(({m with dM:=i}).kH),↑(({m with dM:=i}).fP),↑(({m with dM:=i}).kI),.i (.v (.int .u8 ({m with dM:=i}).dn)),.i (.v (.int .u8 ({m with dM:=i}).s1)),↑(({m with dM:=i}).dM)]):=cu (by
 rcases aA with rfl|rfl<;>(
  refine bw adO ?_;simp(disch:=omega)only[au,simprocAttr,aE3];exact⟨_,rfl⟩))
def qK:k_:=⟨false,false,false,false,true,true,false,false,66,66,0⟩
def aLq(H:aa):ct 17 [] H (.agg [qK.ins,qK.io,qK.kG,qK.c4,qK.wr,qK.kH,qK.fP,qK.kI,.i (.v (.int .u8 (qK).dn)),.i (.v (.int .u8 (qK).s1)),qK.dM]):=cu (by
 refine bw adi ?_;simp(disch:=omega)only[au,simprocAttr,aEB];exact⟨_,rfl⟩)
def aLr(s:List UInt8)(c:Int)(aS:s.length≤1000)(H:aa):ct 98 [.i (.str s),.i (.v (.int .u8 (c)))] H (↑(JY s c.toNat.toUInt8)):=cu (by
 have ao:∀H:aa,dj E (b4 E) 139 [.i (.str s),.i (.v (.int .u8 (c)))] H=some (.i (.v (.int .i64 (JY s c.toNat.toUInt8))),H):=λ H=>Pm (show E.ext 139=some v8 from rfl) rfl rfl ⟨[],by simp[v8]⟩
 refine bw adM ?_;simp(disch:=omega)only[au,simprocAttr,aE1,ao];exact⟨_,rfl⟩)
def R5:List UInt8:=[48,49,50,51,52,53,54,55,56,57,65,66,67,68,69,70]
def Hb(out:Int)(b:UInt8):Int:=sz.wrap (sz.wrap (out*16)+sz.wrap (JY R5 ((b.toNat:Int).toNat.toUInt8)))
def aLs{s:List UInt8}{k:Nat}(h:k<s.length):(s.map λ b=>[aD.v (.int .u8 b.toNat)])[k]?=some [.v (.int .u8 s[k].toNat)]:=by simp[h]
def Hc:List Int:=[160,9670,9618,9225,9228,9229,9226,176,177,9252,9227,9496,9488,9484,9492,9532,9146,9147,9472,9148,9149,9500,9508,9524,9516,9474,8804,8805,960,8800,163,183]
def DS:List UInt8:=[48,48,65,48,50,53,67,54,50,53,57,50,50,52,48,57,50,52,48,67,50,52,48,68,50,52,48,65,48,48,66,48,48,48,66,49,50,52,50,52,50,52,48,66,50,53,49,56,50,53,49,48,50,53,48,67,50,53,49,52,50,53,51,67,50,51,66,65,50,51,66,66,50,53,48,48,50,51,66,67,50,51,66,68,50,53,49,67,50,53,50,52,50,53,51,52,50,53,50,67,50,53,48,50,50,50,54,52,50,50,54,53,48,51,67,48,50,50,54,48,48,48,65,51,48,48,66,55]
def DT(m:k_):Int:=if m.dM=1 then m.s1 else m.dn
def mapM(m:k_)(r:Int):Int:=if DT m≠48∨r<95∨r>126 then r else Hc.getD (r-95).toNat 0
def aLt:∀n,n<32→((DS.drop (4*n)).take 4).foldl Hb 0=Hc.getD n 0:=by decide+kernel
def aLu(s:List UInt8)(aS:s.length<1000):∀(m k:Nat) (out:Int),k+m=s.length→
  hT wg 0 [(6,.i (.v (.int .i32 out))),(38,.ref 0 0 0 s.length),(39,s.length),(40,k)] [.ae 1 0 ((s).map λ b=>[aD.v (.int .u8 b.toNat)]) false] 0 [(6,.i (.v (.int .i32 ((s.drop k).foldl Hb out)))),(38,.ref 0 0 0 s.length),(39,s.length),(40,s.length),(41,false)] [.ae 1 0 ((s).map λ b=>[aD.v (.int .u8 b.toNat)]) false]:=by
 intro m;induction m with
 |zero=>intro k out az;obtain rfl:k=s.length:=R;rw[nd,List.foldl_nil];generalize bn:((s).map λ b=>[aD.v (.int .u8 b.toNat)])=q;refine(cF wg 0).trans ?_;simp(disch:=omega)only[au,simprocAttr,CT,dk,KU]
 |succ m a8=>
  intro k out az;have bf:k<s.length:=R;have bZ:=aLs bf;have e:=a8 (k+1) (Hb out s[k]) R;rw[ji bf,zo];have ao:=λ c H=>aLr R5 c (by decide) H
  refine fZ ?_ e;clear e a8;generalize bn:((s).map λ b=>[aD.v (.int .u8 b.toNat)])=q at bZ⊢;unfold Hb;unfold R5 at*;refine(cF wg 0).trans ?_;simp(disch:=omega)only[au,simprocAttr,CT,dk,bZ,ao,KU]
def aLv(r:Int)(j:95≤r)(J:r≤126):List.foldl Hb 0 (eo (((r-95)*4+4).toNat-((r-95)*4).toNat) (eI ((r-95)*4).toNat DS))=Hc.getD (r-95).toNat 0:=by have:=aLt (r-95).toNat R;rw[show((r-95)*4+4).toNat-((r-95)*4).toNat=4 by omega,show((r-95)*4).toNat=4*(r-95).toNat by omega];exact this
def aLw(m:k_)(r:Int)(ai:-2147483648≤r∧r≤2147483647)(H:aa):ct 52 [.agg [m.ins,m.io,m.kG,m.c4,m.wr,m.kH,m.fP,m.kI,.i (.v (.int .u8 (m).dn)),.i (.v (.int .u8 (m).s1)),m.dM],.i (.v (.int .i32 r))] H (.i (.v (.int .i32 (mapM m r)))):=cu (by
 have rn:(mapM m r=r∧(DT m≠48∨r<95∨r>126))∨(mapM m r=Hc.getD (r-95).toNat 0∧DT m=48∧95≤r∧r≤126):=by
  unfold mapM;by_cases h:DT m≠48∨r<95∨r>126
  ·exact .inl ⟨if_pos h,h⟩
  ·exact .inr ⟨if_neg h,R⟩
 rcases rn with⟨he,h⟩|⟨he,h⟩
 ·rw[he];unfold DT at h;by_cases aS:m.dM=1
  ·rw[if_pos aS]at h;rcases h with h|h|h<;>by_cases bb:m.s1=48<;>by_cases bu:r<95<;>first|(exfalso;omega)|(
    refine bw wg ?_;simp(disch:=omega)only[au,simprocAttr,CT,dk];exact⟨_,rfl⟩)
  ·rw[if_neg aS]at h;rcases h with h|h|h<;>by_cases bb:m.dn=48<;>by_cases bu:r<95<;>first|(exfalso;omega)|(
    refine bw wg ?_;simp(disch:=omega)only[au,simprocAttr,CT,dk];exact⟨_,rfl⟩)
 ·rw[he,←aLv r h.2.1 h.2.2];obtain⟨aB,aRV,aRW⟩:=h;have bn:((DS.drop ((r-95)*4).toNat).take (((r-95)*4+4).toNat-((r-95)*4).toNat)).length=4:=by rw[gE,ic,show DS.length=128 from rfl];omega
  have an:=aLu _ (by rw[bn];decide) 4 0 0 (by rw[bn]);rw[iy,bn]at an;simp only[gZ,PK]at an;have uO:DS.length=128:=rfl;unfold DT at aB;unfold DS at*;by_cases aS:m.dM=1
  ·rw[if_pos aS]at aB;refine bw wg ?_;simp(disch:=omega)only[au,simprocAttr,CT,dk,an,bn,lX,KU];exact⟨_,rfl⟩
  ·rw[if_neg aS]at aB;refine bw wg ?_;simp(disch:=omega)only[au,simprocAttr,CT,dk,an,bn,lX,KU];exact⟨_,rfl⟩)
def aLx(p n:Int)(m:k_)(z:List U)(T:aa):cn 209 [n,.ptr 2 0 0 0,.ptr 0 0 0 0] (.box [m.ins,m.io,m.kG,m.c4,m.wr,m.kH,m.fP,m.kI,.i (.v (.int .u8 (m).dn)),.i (.v (.int .u8 (m).s1)),m.dM]::.box z::.box [.i (.v (.int .u8 (p)))]::T) (DF 0 (yB p n)) (.box [m.ins,m.io,m.kG,m.c4,m.wr,m.kH,m.fP,m.kI,.i (.v (.int .u8 (m).dn)),.i (.v (.int .u8 (m).s1)),m.dM]::.box z::.box [.i (.v (.int .u8 (p)))]::T):=by
 obtain⟨L,h⟩:=aJe p n m;cases aK:yB p n with
 |none=>rw[aK]at h;simp[cn,dj,e0,ab6,bz,bd,reach,bt,cB,co,Chunk.cL,Chunk.refs,h,DF,dm,ef]
 |some k=>rw[aK]at h;simp[cn,dj,e0,ab6,bz,bd,reach,bt,cB,co,Chunk.cL,Chunk.refs,h,DF,dm,ef]
def aLy(c g r k:Nat):j1 E.P .neq 235 (.ptr c g r k) (.i (.v (.pointer none)))=some (.i (.v (.bool true))):=aJ
def aLz:j1 E.P .neq 235 (.i (.v (.pointer none))) (.i (.v (.pointer none)))=some (.i (.v (.bool false))):=aJ
def aLA(m:k_)(p n:Int)(on:Bool):hT yk 0 [(3,on),(4,.ptr 0 0 0 0),(8,.ptr 1 0 0 0),(9,.aR (.func 209) [] [.ptr 2 0 0 0,.ptr 0 0 0 0]),(14,.i (.ae 1 [[.v (.int .i64 n)]] false)),(15,↑(1:Int)),(16,↑(1:Int))] [.box [m.ins,m.io,m.kG,m.c4,m.wr,m.kH,m.fP,m.kI,.i (.v (.int .u8 (m).dn)),.i (.v (.int .u8 (m).s1)),m.dM],.box [false,false,false,false,false,false,false,false,.i (.v (.int .u8 0)),.i (.v (.int .u8 0)),↑(0:Int)],.box [.i (.v (.int .u8 (p)))]] 0 ([(3,.i (.v (.bool (on)))),(4,.ptr 0 0 0 0),(8,.ptr 1 0 0 0),(9,.aR (.func 209) [] [.ptr 2 0 0 0,.ptr 0 0 0 0]),(14,.i (.ae 1 [[.v (.int .i64 n)]] false)),(15,.i (.v (.int .i64 (1)))),(16,.i (.v (.int .i64 (1))))]++[(17,.i (.v (.bool (false))))]) [.box [m.ins,m.io,m.kG,m.c4,m.wr,m.kH,m.fP,m.kI,.i (.v (.int .u8 (m).dn)),.i (.v (.int .u8 (m).s1)),m.dM],.box [false,false,false,false,false,false,false,false,.i (.v (.int .u8 0)),.i (.v (.int .u8 0)),↑(0:Int)],.box [.i (.v (.int .u8 (p)))]]:=by
 refine(cF yk 0).trans ?_;simp(disch:=omega)only[au,simprocAttr,KG,bB,KZ]
 try rfl
def aLB(m:k_)(p n:Int)(on:Bool):hT yk 0 [(3,on),(4,.ptr 0 0 0 0),(8,.ptr 1 0 0 0),(9,.aR (.func 209) [] [.ptr 2 0 0 0,.ptr 0 0 0 0]),(14,.i (.ae 1 [[.v (.int .i64 n)]] false)),(15,↑(1:Int)),(16,↑(0:Int))] [.box [m.ins,m.io,m.kG,m.c4,m.wr,m.kH,m.fP,m.kI,.i (.v (.int .u8 (m).dn)),.i (.v (.int .u8 (m).s1)),m.dM],.box [false,false,false,false,false,false,false,false,.i (.v (.int .u8 0)),.i (.v (.int .u8 0)),↑(0:Int)],.box [.i (.v (.int .u8 (p)))]] 0 ([(3,.i (.v (.bool (on)))),(4,.ptr 0 0 0 0),(8,.ptr 1 0 0 0),(9,.aR (.func 209) [] [.ptr 2 0 0 0,.ptr 0 0 0 0]),(14,.i (.ae 1 [[.v (.int .i64 n)]] false)),(15,.i (.v (.int .i64 (1)))),(16,.i (.v (.int .i64 (1))))]++[(17,.i (.v (.bool (false))))]) [.box [↑((hf p on m n).ins),↑((hf p on m n).io),↑((hf p on m n).kG),↑((hf p on m n).c4),↑((hf p on m n).wr),↑((hf p on m n).kH),↑((hf p on m n).fP),↑((hf p on m n).kI),.i (.v (.int .u8 (hf p on m n).dn)),.i (.v (.int .u8 (hf p on m n).s1)),↑((hf p on m n).dM)],.box [false,false,false,false,false,false,false,false,.i (.v (.int .u8 0)),.i (.v (.int .u8 0)),↑(0:Int)],.box [.i (.v (.int .u8 (p)))]]:=by
 refine fZ ?_ (aLA (hf p on m n) p n on);have ao:=λ z T=>aLx p n m z T
 unfold hf;cases aK:yB p n with
 |none=>rw[aK]at ao;simp only[DF]at ao⊢;refine(cF yk 0).trans ?_;simp(disch:=omega)only[au,simprocAttr,KG,bB,Qa,ao,aLz,KZ]
 |some k=>
  have az:=aJc aK;rw[aK]at ao;simp only[DF]at ao⊢
  match k,az with
  |0,_|1,_|2,_|3,_|4,_|5,_|6,_|7,_=>simp only[RE];refine(cF yk 0).trans ?_;simp(disch:=omega)only[au,simprocAttr,KG,bB,Qa,ao,aLy,KZ]
def aLC(m:k_)(p n:Int)(on:Bool)(H:aa):ct 146 [.agg [m.ins,m.io,m.kG,m.c4,m.wr,m.kH,m.fP,m.kI,.i (.v (.int .u8 (m).dn)),.i (.v (.int .u8 (m).s1)),m.dM],.i (.v (.int .u8 (p))),.i (.ae 1 [[.v (.int .i64 n)]] false),on] H (.agg [↑((hf p on m n).ins),↑((hf p on m n).io),↑((hf p on m n).kG),↑((hf p on m n).c4),↑((hf p on m n).wr),↑((hf p on m n).kH),↑((hf p on m n).fP),↑((hf p on m n).kI),.i (.v (.int .u8 (hf p on m n).dn)),.i (.v (.int .u8 (hf p on m n).s1)),↑((hf p on m n).dM)]):=cu (by
 have an:=aLB m p n on;generalize hf p on m n=b1 at*;refine bw yk ?_;simp(disch:=omega)only[au,simprocAttr,KG,bB,an,ck,KZ];exact⟨_,rfl⟩)
def LX(a b:Int):Int:=n0.wrap ((sP n0.bits a &&&sP n0.bits b).toNat:Int)
def Hd(a b:Int):j0 .and .i64 a b=some (LX a b):=rfl
def AX(a:eh):Bool:=!decide (LX a.cY 64=0)
def hV(m:M):Int:=if m.aG.p=true then m.aG.c else m.aG.c-1
def hs(m:M):Int:=if 0≤hV m∧((fx m).getD (hV m).toNat (cont m.a)).w=0 then hV m-1 else hV m
def mc(r:Int)(a:eh)(c:bh):bh:=if(AX a &&!AX c.a)=true then c else if c.t.length<4 then{c with t:=c.t++[r]}else c
def rV(m:M)(r:Int):M:=if hs m<0 then m else{m with G:=m.G.set m.aG.r.toNat ((fx m).set (hs m).toNat (mc r m.a ((fx m).getD (hs m).toNat (cont m.a))))}
def eJ.at{l:List bh}(h:eJ l):∀(k:Nat) (c:bh),l[k]?=some c→(c.w≠0∧iU c=true)∨(c.w=0∧∃ab d,k=ab+1∧l[ab]?=some d∧d.w=2∧iU d=true):=by
 induction h with
 |nil=>intro k c az;simp at az
 |@one gA l j J aw a8=>
  intro k c az
  match k,az with
  |0,az=>cases az;exact .inl ⟨R,j⟩
  |k+1,az=>
   rcases a8 k c (by simpa using az)with h|⟨hw,ab,d,a',aM⟩
   ·exact .inl h
   ·exact .inr ⟨hw,ab+1,d,R,by simpa using aM⟩
 |@two gA l j J aw a8=>
  intro k c az
  match k,az with
  |0,az=>cases az;exact .inl ⟨R,j⟩
  |1,az=>cases az;exact .inr ⟨rfl,0,gA,rfl,rfl,J,j⟩
  |k+2,az=>
   rcases a8 k c (by simpa using az)with h|⟨hw,ab,d,a',aM⟩
   ·exact .inl h
   ·exact .inr ⟨hw,ab+2,d,R,by simpa using aM⟩
def ahb{m:M}(hm:bk m)(h:0≤hs m):∃c,(fx m)[(hs m).toNat]?=some c∧iU c=true∧hs m<m.w:=by
 have ai:=hm.row;have ah:=hm.aG.2.1;have j:0≤hV m∧hV m<m.w:=by unfold hs at h;unfold hV at*;split at h<;>split at h<;>(try split)<;>omega
 have J:(fx m)[(hV m).toNat]?=some ((fx m).getD (hV m).toNat (cont m.a)):=by rw[oV,eT R,iM]
 rcases(wH.1 ai.2).at _ _ J with⟨hw,av⟩|⟨hw,ab,d,a',aM,aLD,av⟩
 ·have e:hs m=hV m:=by unfold hs;rw[if_neg (λ h=>hw h.2)]
  rw[e];exact⟨_,J,av,j.2⟩
 ·have e:hs m=hV m-1:=by unfold hs;rw[if_pos ⟨j.1,hw⟩]
  rw[e,show(hV m-1).toNat=ab by omega];exact⟨d,aM,av,R⟩
def aLE{m:M}(hm:bk m){r:Int}{c:bh}(jt:0≤hs m)(ah:(fx m)[(hs m).toNat]?=some c)(he:mc r m.a c=c):rV m r=m:=by
 have j:=hm.aG.1;have J:=hm.G.1;have ao:(fx m).set (hs m).toNat c=fx m:=by obtain⟨h,e⟩:=bF.1 ah;rw[←e];exact BN h
 have aI:m.G.set m.aG.r.toNat (fx m)=m.G:=by
  have e:fx m=m.G[m.aG.r.toNat]' R:=by rw[fx,oV,eT R,iM]
  rw[e];exact BN _
 unfold rV;rw[if_neg R,oV,ah,iM,he,ao,aI]
def aLF{m:M}{r:Int}{c:bh}(jt:0≤hs m)(ah:(fx m)[(hs m).toNat]?=some c):rV m r={m with G:=m.G.set m.aG.r.toNat ((fx m).set (hs m).toNat (mc r m.a c))}:=by unfold rV;rw[if_neg R,oV,ah,iM]
def aLG{m:M}(hm:bk m)(j:0≤hV m):∃gA,(fx m)[(hV m).toNat]?=some gA∧((gA.w≠0∧hs m=hV m∧iU gA=true)∨(gA.w=0∧hs m=hV m-1∧0≤hV m-1∧∃c,(fx m)[(hV m-1).toNat]?=some c∧iU c=true)):=by
 have ai:=hm.row;have ah:=hm.aG.2.1;have J:hV m<m.w:=by unfold hV;split<;>omega
 have aw:(fx m)[(hV m).toNat]?=some ((fx m).getD (hV m).toNat (cont m.a)):=by rw[oV,eT R,iM]
 refine⟨_,aw,?_⟩;rcases(wH.1 ai.2).at _ _ aw with⟨hw,av⟩|⟨hw,ab,d,a',aM,aLD,av⟩
 ·exact .inl ⟨hw,by unfold hs;rw[if_neg (λ h=>hw h.2)],av⟩
 ·exact .inr ⟨hw,by unfold hs;rw[if_pos ⟨j,hw⟩],R,d,by rw[show(hV m-1).toNat=ab by omega];exact aM,av⟩
def aLH{m:M}(hm:bk m)(r:Int)(ai:-2147483648≤r∧r≤2147483647)(hmk:yv r=true):hr 90 [.i (.v (.int .i32 (r)))] m (.be []) (rV m r):=by
 intro af aE ag aH;obtain⟨row,bR,j,J,aw,bb,bu,ao,_⟩:=LO hm.aG.1 hm.G.1;have pZ:fx m=row:=by rw[fx,j,oV,bb,iM]
 have bZ:=hm.row;rw[pZ]at bZ;have hw:=hm.w;have ah:=hm.aG.2.1;have fe:=eO row;rw[bZ.1]at fe;have hx:=gj m.G;rw[bp adF];simp(disch:=omega)only[au,simprocAttr,sG,cN,bM,bT,bC,bu,ao];refine AP (λ I H=>(∃t,I=(0,.ptr 0 0 0 0)::(1,.i (.v (.int .i32 (r))))::(4,.x (.h 1 af aE bR))::(5,.i (.v (.int .i64 (hV m))))::t)∧H=[.box (aT m 1 af 2 ag),.ax 5 af aE (aX m.G),.ax 5 ag aH (aX m.O)]) ?_ ?_
 ·unfold hV;cases av:m.aG.p with
  |true=>simp(disch:=omega)only[au,simprocAttr,sG,cN,bM,bT,bC,av];exact⟨_,_,rfl,⟨_,rfl⟩,rfl⟩
  |false=>simp(disch:=omega)only[au,simprocAttr,sG,cN,bM,bT,bC,av];exact⟨_,_,rfl,⟨_,rfl⟩,rfl⟩
 rintro I H ⟨⟨t,rfl⟩,rfl⟩;have pA:-1≤hV m∧hV m<m.w:=by unfold hV;split<;>omega
 by_cases bn:0≤hV m
 ·obtain⟨gA,gf,eX⟩:=aLG hm bn;rw[pZ]at gf eX;have aLI:=ww gf;simp(disch:=omega)only[au,simprocAttr,sG,cN,bM,bT,bC,bu,aLI];refine AP (λ I H=>(∃t,I=(0,.ptr 0 0 0 0)::(1,.i (.v (.int .i32 (r))))::(4,.x (.h 1 af aE bR))::(5,.i (.v (.int .i64 (hs m))))::t)∧H=[.box (aT m 1 af 2 ag),.ax 5 af aE (aX m.G),.ax 5 ag aH (aX m.O)]) ?_ ?_
  ·rcases eX with⟨m_,az,_⟩|⟨m_,az,BM,_⟩
   ·rw[az];simp(disch:=omega)only[au,simprocAttr,sG,cN,bM,bT,bC,m_];exact⟨_,_,rfl,⟨_,rfl⟩,rfl⟩
   ·rw[az];simp(disch:=omega)only[au,simprocAttr,sG,cN,bM,bT,bC,m_];exact⟨_,_,rfl,⟨_,rfl⟩,rfl⟩
  rintro I H ⟨⟨t,rfl⟩,rfl⟩;obtain⟨c,LY,GH,jt⟩:∃c,(fx m)[(hs m).toNat]?=some c∧iU c=true∧0≤hs m:=by
   rcases eX with⟨_,az,av⟩|⟨_,az,BM,c,ah,av⟩
   ·exact⟨gA,by rw[az,pZ];exact gf,av,R⟩
   ·exact⟨c,by rw[az,pZ];exact ah,av,R⟩
  have NW:=(ahb hm jt);obtain⟨_,_,_,aRX⟩:=NW;have jd:=aLF (r:=r) jt LY;have oL:=λ he=>aLE (r:=r) hm jt LY he
  rw[pZ]at LY jd;have DU:=ww LY;obtain⟨b,dJ,bq⟩:=Dr (Dt GH).1;have ahc:=(Dt GH).1;rw[bq]at ahc;have c6:=λ H=>aHJ ahc r ai hmk H
  have LZ:(c.t.length<4)=(dJ.length<3):=by rw[bq,cT];exact propext R
  rw[bq]at DU;rw[j]at jd;have ahd:∀s:List UInt8,hW (E.kinds 9) [aD.str s]=[aD.str s]:=λ s=>rfl
  generalize hs m=K at*;by_cases aB:LX m.a.cY 64=0
  ·by_cases hlen:dJ.length<3
   ·have he:mc r m.a c=⟨b::(dJ++[r]),c.w,c.a⟩:=by unfold mc AX;rw[if_neg (by simp[aB]),if_pos (by rw[LZ];exact hlen),bq];rfl
    rw[jd,he];simp only[if_pos hlen]at c6;have aS:=Rk row K.toNat (b::(dJ++[r])) c.w c.a;have aP:=Ly m.G bR (row.set K.toNat ⟨b::(dJ++[r]),c.w,c.a⟩);simp(disch:=omega)only[au,simprocAttr,sG,cN,bM,bT,bC,bu,DU,Hd,aB,c6,ahd,ck,aS,aP];exact⟨_,rfl,eb.dF⟩
   ·have he:mc r m.a c=c:=by unfold mc AX;rw[if_neg (by simp[aB]),if_neg (by rw[LZ];exact hlen)]
    rw[oL he];simp only[if_neg hlen]at c6;simp(disch:=omega)only[au,simprocAttr,sG,cN,bM,bT,bC,bu,DU,Hd,aB,c6];exact⟨_,rfl,eb.dF⟩
  ·by_cases ak:LX c.a.cY 64=0
   ·have he:mc r m.a c=c:=by unfold mc AX;simp[aB,ak]
    rw[oL he];simp(disch:=omega)only[au,simprocAttr,sG,cN,bM,bT,bC,bu,DU,Hd,aB,ak];exact⟨_,rfl,eb.dF⟩
   ·by_cases hlen:dJ.length<3
    ·have he:mc r m.a c=⟨b::(dJ++[r]),c.w,c.a⟩:=by unfold mc AX;rw[if_neg (by simp[aB,ak]),if_pos (by rw[LZ];exact hlen),bq];rfl
     rw[jd,he];simp only[if_pos hlen]at c6;have aS:=Rk row K.toNat (b::(dJ++[r])) c.w c.a;have aP:=Ly m.G bR (row.set K.toNat ⟨b::(dJ++[r]),c.w,c.a⟩);simp(disch:=omega)only[au,simprocAttr,sG,cN,bM,bT,bC,bu,DU,Hd,aB,ak,c6,ahd,ck,aS,aP];exact⟨_,rfl,eb.dF⟩
    ·have he:mc r m.a c=c:=by unfold mc AX;rw[if_neg (by simp[aB,ak]),if_neg (by rw[LZ];exact hlen)]
     rw[oL he];simp only[if_neg hlen]at c6;simp(disch:=omega)only[au,simprocAttr,sG,cN,bM,bT,bC,bu,DU,Hd,aB,ak,c6];exact⟨_,rfl,eb.dF⟩
 ·have az:hs m<0:=by unfold hs;rw[if_neg (λ h=>bn h.1)];omega
  unfold rV;rw[if_pos az];simp(disch:=omega)only[au,simprocAttr,sG,cN,bM,bT,bC,bn];exact⟨_,rfl,eb.dF⟩
def eJ.aLJ{l:List bh}(h:eJ l):∀(k:Nat) (c cp:bh),l[k]?=some c→c.w≠0→cp.w=c.w→cp.a=c.a→iU cp=true→eJ (l.set k cp):=by
 induction h with
 |nil=>intro k c cp az;simp at az
 |@one gA l j J aw a8=>
  intro k c cp az hw ql aB av
  match k,az with
  |0,az=>cases az;exact .one av R aw
  |k+1,az=>exact .one j J (a8 k c cp (by simpa using az) hw ql aB av)
 |@two gA l j J aw a8=>
  intro k c cp az hw ql aB av
  match k,az with
  |0,az=>cases az;rw[CH,←aB];exact .two av R aw
  |1,az=>cases az;exact absurd rfl hw
  |k+2,az=>exact .two j J (a8 k c cp (by simpa using az) hw ql aB av)
def aLK{c:bh}(h:iU c=true):c.w≠0:=by obtain⟨j,J,_⟩:=Dt h;obtain⟨b,dJ,bq⟩:=Dr j;rw[bq]at j J;have:=(AC j).2.1;simp only[Ds]at J;omega
def aLL{c:bh}(h:iU c=true){r:Int}(hm:yv r=true)(aP:gH r=true)(a:eh):iU (mc r a c)=true∧(mc r a c).w=c.w∧(mc r a c).a=c.a:=by
 unfold mc;split
 ·exact⟨h,rfl,rfl⟩
 ·split
  ·rename_i an;refine⟨?_,rfl,rfl⟩;obtain⟨j,J,aw⟩:=Dt h;obtain⟨b,dJ,bq⟩:=Dr j;have E0:=J;rw[bq]at j J an;obtain⟨bG,bH,cG,eZ⟩:=AC j;simp only[cT]at an;simp only[CA,cO]at bG;simp only[iU,bq,uy,o5,Ds,cO,decide_eq_true_eq,List.all_append,CA,List.all_nil,dd,cX,Ah];refine⟨⟨⟨⟨bG.1,bG.2,aP⟩,⟨bH,cG,hm⟩,R⟩,J⟩,aw⟩
  ·exact⟨h,rfl,rfl⟩
def bk.mark{m:M}(h:bk m){r:Int}(hm:yv r=true)(aP:gH r=true):bk (rV m r):=by
 unfold rV;split
 ·exact h
 ·rename_i az;obtain⟨c,ah,av,_⟩:=ahb h R;rw[oV,ah,iM];have ai:=h.row;obtain⟨ch,cw,fl⟩:=aLL av hm aP m.a;exact h.uU ⟨by rw[jI];exact ai.1,((wH.1 ai.2).aLJ _ c _ ah (aLK av) cw fl ch).p⟩ _
def aLM{r:Int}(h:gH r=true):(HT r).data.toList=dQ [r]:=by
 simp only[gH,cO,decide_eq_true_eq,rj,OB,decide_eq_false_iff_not]at h;obtain⟨n,rfl⟩:=jk h.1.1;have bi:Utf8.valid (n:Int)=true:=by unfold Utf8.valid;simp;omega
 unfold HT dQ eU;simp only[bi,if_true,oe,PH,sy,c_];rw[if_neg (show¬((n:Int)<0∨(55296≤(n:Int)∧(n:Int)≤57343)∨1114111<(n:Int))by omega)];by_cases j:n<128
 ·rw[if_pos j,if_pos (show(n:Int)≤127 by omega)];rfl
 ·rw[if_neg j,if_neg (show¬(n:Int)≤127 by omega)];by_cases J:n<2048
  ·rw[if_pos J,if_pos (show(n:Int)≤2047 by omega)];simp only[f_,fk,fp];rw[show(192+(n:Int)/64).toNat=192+n/64 by omega,show(128+(n:Int)%64).toNat=128+n%64 by omega]
  ·rw[if_neg J,if_neg (show¬(n:Int)≤2047 by omega)];by_cases aw:n<65536
   ·rw[if_pos aw,if_pos (show(n:Int)≤65535 by omega)];simp only[f_,fk,fp];rw[show(224+(n:Int)/4096).toNat=224+n/4096 by omega,show(128+(n:Int)/64%64).toNat=128+n/64%64 by omega,show(128+(n:Int)%64).toNat=128+n%64 by omega]
   ·rw[if_neg aw,if_neg (show¬(n:Int)≤65535 by omega)];simp only[f_,fk,fp];rw[show(240+(n:Int)/262144).toNat=240+n/262144 by omega,show(128+(n:Int)/4096%64).toNat=128+n/4096%64 by omega,show(128+(n:Int)/64%64).toNat=128+n/64%64 by omega,show(128+(n:Int)%64).toNat=128+n%64 by omega]
def nj(m:M):M:=rU m 0
def qL(m:M):M:=if(m.aG.p &&m.md.wr)=true then mL (nj m)else m
def uW(m:M)(w:Int):M:=if m.w<m.aG.c+w then(if m.md.wr=true then mL (nj m)else rU m (m.w-w))else m
def wN(m:M)(w:Int):M:=if m.md.ins=true then{m with G:=m.G.set m.aG.r.toNat (mJ (fx m) m.aG.c.toNat w.toNat m.a)}else m
def AY(m:M)(r w:Int):M:={m with G:=m.G.set m.aG.r.toNat (o6 (fx m) m.aG.c.toNat [r] w m.a)}
def He(m:M)(w:Int):M:=if m.aG.c+w=m.w then{m with aG:={m.aG with c:=m.w-1,p:=m.md.wr}}else{m with aG:={m.aG with c:=m.aG.c+w}}
def wO(m:M):M:={m with aG:={m.aG with p:=false}}
def DV(m:M)(r:Int):M:=if wid r<0∨m.w<wid r then m else if wid r=0 then rV m r else He (AY (wN (uW (wO (qL m)) (wid r)) (wid r)) r (wid r)) (wid r)
def R6(m:M):(mL m).w=m.w∧(mL m).h=m.h∧(mL m).md=m.md∧(mL m).a=m.a∧(mL m).aG.c=(o8 m.aG (cj m)).1.c:=by unfold mL;split<;>exact⟨rfl,rfl,rfl,rfl,rfl⟩
def aLN{m:M}(h:bk m)(aV:m.aG.c=0):(mL m).aG.c=0:=by
 rw[(R6 m).2.2.2.2];have hw:=h.w;have e:(gk m.aG (cj m)).c=0:=by show eB m.aG.c 0 ((m.w:Int)-1)=0;rw[aV];unfold eB;omega
 unfold o8 jw;split
 ·exact e
 ·show(gk _ (cj m)).c=0;show eB (gk m.aG (cj m)).c 0 ((m.w:Int)-1)=0;rw[e];unfold eB;omega
def bk.me{m:M}(h:bk m):bk (nj m):=h.bc (by have:=h.w;omega)
def bk.yM{m:M}(h:bk m):bk (qL m)∧(qL m).w=m.w:=by
 unfold qL;split
 ·exact⟨h.me.feed,(R6 _).1⟩
 ·exact⟨h,rfl⟩
def bk.wO{m:M}(h:bk m):bk (wO m):=h.kr
def bk.h5{m:M}(h:bk m){w:Int}(hw:1≤w∧w≤m.w)(av:m.aG.p=false):bk (uW m w)∧(uW m w).w=m.w∧(uW m w).aG.c+w≤m.w∧(uW m w).aG.p=false:=by
 have ah:=h.aG.2.1;unfold uW;split
 ·split
  ·refine⟨h.me.feed,(R6 _).1,by rw[aLN h.me rfl];omega,?_⟩;unfold mL o8;split<;>split<;>rfl
  ·exact⟨h.bc R,rfl,by simp only[rU];omega,rfl⟩
 ·exact⟨h,rfl,R,av⟩
def bk.L0{m:M}(h:bk m){w:Int}:bk (wN m w)∧(wN m w).w=m.w∧(wN m w).aG=m.aG:=by
 unfold wN;split
 ·have j:=h.row;have J:=h.aG.2.1;have ah:m.aG.c.toNat<(fx m).length:=R;exact⟨h.uU ⟨by rw[mJ,GL,GM ah];exact j.1,((wH.1 j.2).mJ _ _ h.a).p⟩ _,rfl,rfl⟩
 ·exact⟨h,rfl,rfl⟩
def ahe{r:Int}(aP:gH r=true)(hw:1≤wid r){a:eh}(aB:ik a=true):iU ⟨[r],wid r,a⟩=true∧o5 [r]=true:=by
 have j:o5 [r]=true:=by simp[o5,aP,hw]
 exact⟨by simp only[iU,j,Ds,aB,decide_true,NN],j⟩
def bk.R7{m:M}(h:bk m){r:Int}(aP:gH r=true)(hw:1≤wid r)(ah:m.aG.c+wid r≤m.w):bk (AY m r (wid r))∧(AY m r (wid r)).w=m.w∧(AY m r (wid r)).aG=m.aG:=by
 have j:=h.row;have J:=h.aG.2.1;have jW:wid r=1∨wid r=2:=by have:=Q0 r;omega
 exact⟨h.uU ⟨by rw[afY];exact j.1,((wH.1 j.2).o6 jW (by rw[j.1];omega) (ahe aP hw h.a).1).p⟩ _,rfl,rfl⟩
def bk.R8{m:M}(h:bk m){w:Int}(hw:1≤w)(ah:m.aG.c+w≤m.w)(av:m.aG.p=false):bk (He m w):=by
 have J:=h.aG;unfold He;split
 ·exact h.jX ⟨J.1,by simp only;omega,λ _=>rfl⟩
 ·exact h.jX ⟨J.1,by simp only;omega,by simp[av]⟩
def bk.R9{m:M}(h:bk m){r:Int}(aP:gH r=true):bk (DV m r):=by
 have aLO:=Q0 r;unfold DV;split
 ·exact h
 ·split
  ·rename_i aV;exact h.mark (ae4 aV) aP
  ·have b0:=h.yM;have NX:=b0.1.wO;have cM:=NX.h5 (w:=wid r) (by show 1≤wid r∧wid r≤(qL m).w;rw[b0.2];omega) rfl;have aq:=cM.1.L0 (w:=wid r);have lS:=aq.1.R7 aP R (by rw[aq.2.2,aq.2.1,cM.2.1];exact cM.2.2.1);exact lS.1.R8 R (by rw[lS.2.2,aq.2.2,lS.2.1,aq.2.1,cM.2.1];exact cM.2.2.1) (by rw[lS.2.2,aq.2.2];exact cM.2.2.2)
def aLP{m:M}(hm:bk m)(r:Int)(ai:-2147483648≤r∧r≤2147483647)(aP:gH r=true):hr 51 [.i (.v (.int .i32 (r)))] m (.be []) (DV m r):=by
 intro af aE ag aH;have vT:=λ H=>QZ r H
 have aLO:=Q0 r;have hw:=hm.w;unfold DV;by_cases j:wid r<0∨m.w<wid r
 ·rw[if_pos j];rcases j with j|j
  ·rw[bp Gf];simp(disch:=omega)only[au,simprocAttr,og,cN,bM,bT,bC,vT];exact⟨_,rfl,eb.dF⟩
  ·rw[bp Gf];simp(disch:=omega)only[au,simprocAttr,og,cN,bM,bT,bC,vT];exact⟨_,rfl,eb.dF⟩
 ·rw[if_neg j];have aRY:¬wid r<0:=λ h=>j (.inl h)
  have aRZ:¬(m.w:Int)<wid r:=λ h=>j (.inr h)
  by_cases aV:wid r=0
  ·rw[if_pos aV];obtain⟨H1,ao,fo⟩:=mb (f:=90) rfl rfl rfl (aLH hm r ai (ae4 aV)) (h4.dF (m:=m) (af:=af) (ag:=ag) (aE:=aE) (aH:=aH) (T:=[]));rw[bp Gf];simp(disch:=omega)only[au,simprocAttr,og,cN,bM,bT,bC,vT,aV,ao];exact⟨_,rfl,fo.iX⟩
  ·rw[if_neg aV];rw[bp Gf];simp(disch:=omega)only[au,simprocAttr,og,cN,bM,bT,bC,vT];generalize ahf:wid r=w at*;refine AP (λ I H=>(∃t,I=(0,.ptr 0 0 0 0)::(1,.i (.v (.int .i32 (r))))::(4,.i (.v (.int .i64 (w))))::(5,.i (.v (.int .i64 (m.w))))::t)∧h4 (qL m) H) ?_ ?_
   ·cases av:m.aG.p with
    |false=>
     have e:qL m=m:=by unfold qL;rw[if_neg (by simp[av])]
     rw[e];simp(disch:=omega)only[au,simprocAttr,og,cN,bM,bT,bC,av];exact⟨_,_,rfl,⟨_,rfl⟩,h4.dF⟩
    |true=>
     cases AZ:m.md.wr with
     |false=>
      have e:qL m=m:=by unfold qL;rw[if_neg (by simp[AZ])]
      rw[e];simp(disch:=omega)only[au,simprocAttr,og,cN,bM,bT,bC,av,AZ];exact⟨_,_,rfl,⟨_,rfl⟩,h4.dF⟩
     |true=>
      have e:qL m=mL (nj m):=by unfold qL;rw[if_pos (by simp[av,AZ])]
      rw[e];have ao:=GZ (m:=m) (a:=0) (b:=1) (af:=af) (ag:=ag) (T:=[.ax 5 af aE (aX m.G),.ax 5 ag aH (aX m.O)]) rfl rfl (by decide);obtain⟨bx,aI,dE⟩:=mb (f:=92) rfl rfl rfl (G6 hm.me) (h4.dF (m:=nj m) (af:=af) (ag:=ag) (aE:=aE) (aH:=aH) (T:=[]));simp only[cq,c2]at ao;simp only[nj,rU]at aI;simp(disch:=omega)only[au,simprocAttr,og,cN,bM,bT,bC,av,AZ,ao,aI];exact⟨_,_,rfl,⟨_,rfl⟩,dE⟩
   have b0:=hm.yM;obtain⟨hb,xF⟩:=b0;generalize qL m=m1 at*;rintro I H ⟨⟨t,rfl⟩,a,af,b,ag,T,rfl,aA⟩;have gL:=hb.aG.2.1;simp(disch:=omega)only[au,simprocAttr,og,cN,bM,bT,bC];obtain⟨m2,wP⟩:∃m2,wO m1=m2:=⟨_,rfl⟩;have gq:bk m2:=by rw[←wP];exact hb.wO
   have jW:m2.w=m.w:=by rw[←wP];exact xF
   have pR:m2.aG.p=false:=by rw[←wP];rfl
   have fq:m2.aG.c=m1.aG.c:=by rw[←wP];rfl
   have ia:m2.md.wr=m1.md.wr:=by rw[←wP];rfl
   replace aA:hq 1 m2 (a+1) af (b+1) ag T:=by rw[←wP];exact aA
   rw[wP,show({m1 with aG:=⟨m1.aG.r,m1.aG.c,false⟩}:M)=m2 from wP,←fq,←ia];rw[←fq]at gL;clear wP fq ia hb;refine AP (λ I H=>(∃t,I=(0,.ptr 0 0 0 0)::(1,.i (.v (.int .i32 (r))))::(4,.i (.v (.int .i64 (w))))::(5,.i (.v (.int .i64 (m.w))))::t)∧h4 (uW m2 w) H) ?_ ?_
   ·unfold uW;rw[jW];by_cases bf:(m.w:Int)<m2.aG.c+w
    ·rw[if_pos bf];have ahg:=aA;obtain⟨bY,bV,o9,nN,AQ,AR,wQ,nk,wR,_⟩:=aA;obtain rfl:a=bY:=R;obtain rfl:b=bV:=R;cases AZ:m2.md.wr with
     |true=>have ao:=GZ (m:=m2) (af:=af) (ag:=ag) wQ nk wR;obtain⟨bx,aI,dE⟩:=mb (f:=92) rfl rfl rfl (G6 gq.me) (H:=.box (aT (nj m2) (a+1) af (b+1) ag)::T) ⟨a,af,b,ag,T,rfl,ahg⟩;simp only[nj,rU]at aI;simp(disch:=omega)only[au,simprocAttr,og,cN,bM,bT,bC,AZ,bf,ao,aI];exact⟨_,_,rfl,⟨_,rfl⟩,dE⟩
     |false=>have ao:=LH (m:=m2) (af:=af) (ag:=ag) wQ nk wR ((m.w:Int)-w);simp(disch:=omega)only[au,simprocAttr,og,cN,bM,bT,bC,AZ,bf,ao];exact⟨_,_,rfl,⟨_,rfl⟩,a,af,b,ag,T,rfl,ahg⟩
    ·rw[if_neg bf];simp(disch:=omega)only[au,simprocAttr,og,cN,bM,bT,bC,bf];exact⟨_,_,rfl,⟨_,rfl⟩,a,af,b,ag,T,rfl,aA⟩
   have cM:=gq.h5 (w:=w) (by rw[jW];omega) pR;obtain⟨ow,rW,xD,aLQ⟩:=cM;rw[jW]at rW xD;generalize uW m2 w=m3 at*;clear aA gq jW pR gL;rintro I H ⟨⟨t2,rfl⟩,a2,yN,dE,wS,gT,rfl,aA⟩;have R_:=ow.aG.2.1;rw[rW]at R_;obtain⟨wn,R'⟩:=jk (show 0≤w by omega);obtain⟨iX,s6⟩:=jk R_.1;simp(disch:=omega)only[au,simprocAttr,og,cN,bM,bT,bC];refine AP (λ I H=>(∃t,I=(0,.ptr 0 0 0 0)::(1,.i (.v (.int .i32 (r))))::(4,.i (.v (.int .i64 (w))))::(5,.i (.v (.int .i64 (m.w))))::t)∧h4 (wN m3 w) H) ?_ ?_
   ·unfold wN;cases hy:m3.md.ins with
    |false=>simp only[fK,if_false];simp(disch:=omega)only[au,simprocAttr,og,cN,bM,bT,bC,hy];exact⟨_,_,rfl,⟨_,rfl⟩,a2,yN,dE,wS,gT,rfl,aA⟩
    |true=>
     simp only[if_true];obtain⟨aR0,row,bZ,du,s4,ku,Sa,Sb⟩:=agY aA ow.aG.1 ow.G.1;have Hf:fx m3=row:=by rw[fx,oV,bZ,iM]
     have pZ:=ow.row;rw[Hf,rW]at pZ;have bE:=λ H=>af0 (l:=row) R pZ.2 iX wn R R R m3.a H
     have n7:(mJ row iX wn m3.a).length=m.w:=by rw[mJ,GL,GM R];exact pZ.1
     obtain⟨xM,Hg,L1⟩:=Sb (mJ row iX wn m3.a);rw[n7]at Hg;rw[pZ.1,←s6,←R']at bE;rw[Hf,s6,R',oe,oe];rw[←R'];have fe:=eO row;have hx:=gj m3.G;rw[←s6]at*;obtain⟨nk,G8,DM,Sc⟩:(∃aH,gT[dE]?=some (.ax 5 wS aH (aX m3.O)))∧¬gT.length≤dE∧¬gT.length≤a2∧¬dE=a2:=by obtain⟨bY,bV,o9,nN,AQ,AR,wQ,nk,wR,_⟩:=aA;obtain rfl:a2=bY:=R;obtain rfl:dE=bV:=R;exact⟨⟨nN,nk⟩,e8.2 (bF.1 nk).1,e8.2 (bF.1 wQ).1,ba wR⟩
     obtain⟨aR1,nk⟩:=nk;have bg:∀x:Nat,(x+1+1000000==0)=false:=λ x=>rfl
     simp(disch:=omega)only[au,simprocAttr,og,cN,bM,bT,bC,hy,Sa,du,s4,ku,bE,Hg,jI,nk,DM,G8,Sc,bg,rF,NN];exact⟨_,_,rfl,⟨_,rfl⟩,a2,yN,dE,wS,xM,rfl,L1⟩
   have aq:=ow.L0 (w:=w);obtain⟨nl,DW,ahh⟩:=aq;rw[rW]at DW;rw[←ahh]at xD aLQ R_ s6;generalize wN m3 w=m4 at*;clear aA ow rW ahh;rintro I H ⟨⟨t3,rfl⟩,a,af,b,ag,T,rfl,aA⟩;obtain⟨aR2,row,bZ,du,s4,ku,Sa,Sb⟩:=agY aA nl.aG.1 nl.G.1;have Hf:fx m4=row:=by rw[fx,oV,bZ,iM]
   have pZ:=nl.row;rw[Hf,DW]at pZ;have EL:=ahe aP (show 1≤wid r by omega) nl.a;have bE:=λ H=>aH2 (l:=row) R R pZ.2 iX (b:=r) (dJ:=[]) EL.2 (by rw[ahf];omega) R m4.a H
   have n7:(o6 row iX [r] w m4.a).length=m.w:=by rw[afY];exact pZ.1
   obtain⟨xM,Hg,L1⟩:=Sb (o6 row iX [r] w m4.a);rw[n7]at Hg;rw[pZ.1,←s6,ahf]at bE;have aLR:AY m4 r w={m4 with G:=m4.G.set m4.aG.r.toNat (o6 row iX [r] w m4.a)}:=by unfold AY;rw[Hf,s6,oe]
   have jH:=aLM aP;have fe:=eO row;have hx:=gj m4.G;obtain⟨nk,G8,DM,Sc⟩:(∃aH,T[b]?=some (.ax 5 ag aH (aX m4.O)))∧¬T.length≤b∧¬T.length≤a∧¬b=a:=by obtain⟨bY,bV,o9,nN,AQ,AR,wQ,nk,wR,_⟩:=aA;obtain rfl:a=bY:=R;obtain rfl:b=bV:=R;exact⟨⟨nN,nk⟩,e8.2 (bF.1 nk).1,e8.2 (bF.1 wQ).1,ba wR⟩
   obtain⟨aR3,nk⟩:=nk;have bg:∀x:Nat,(x+1+1000000==0)=false:=λ x=>rfl
   rw[aLR];simp(disch:=omega)only[au,simprocAttr,og,cN,bM,bT,bC,Sa,du,s4,ku,jH,bE,Hg,jI,nk,DM,G8,Sc,bg,rF,NN];unfold He;simp only[DW];by_cases L2:m4.aG.c+w=m.w
   ·rw[if_pos L2];simp(disch:=omega)only[au,simprocAttr,og,cN,bM,bT,bC,L2];exact⟨_,rfl,yG L1⟩
   ·rw[if_neg L2];simp(disch:=omega)only[au,simprocAttr,og,cN,bM,bT,bC,L2];exact⟨_,rfl,yG L1⟩
def Hh(m:M):M:=if m.md.io=true then nj m else m
def DX(m:M)(c:Int):M:=
 if c=8 then{m with aG:=ni m.aG (-1) (cj m)}else if c=9 then rU m (ou m.cv m.aG.c)else if c=10∨c=11∨c=12 then Hh (mL m)
 else if c=13 then nj m else if c=14 then{m with md:={m.md with dM:=1}}else if c=15 then{m with md:={m.md with dM:=0}}else m
def bk.L3{m:M}(h:bk m){d:k_}(aM:(d.dn=66∨d.dn=48)∧(d.s1=66∨d.s1=48)∧(d.dM=0∨d.dM=1)):bk {m with md:=d}:=
 {w:=h.w,h:=h.h,G:=h.G,O:=h.O,aG:=h.aG,bP:=h.bP,a:=h.a,aE:=h.aE,cZ:=h.cZ,cv:=h.cv,back:=h.back,bK:=aM,hF:=h.hF,eH:=h.eH,di:=h.di}
def bk.io{m:M}(h:bk m):bk (Hh m):=by
 unfold Hh;split
 ·exact h.me
 ·exact h
def bk.Sd{m:M}(h:bk m)(c:Int):bk (DX m c):=by
 have hw:=h.w;have bq:=h.cv;have aS:=h.bK;unfold DX;split
 ·exact h.jX (LN _ _ h)
 ·split
  ·exact h.bc (by have:=ag2 (l:=m.cv) R m.aG.c;omega)
  ·split
   ·exact h.feed.io
   ·split
    ·exact h.me
    ·split
     ·exact h.L3 ⟨aS.1,aS.2.1,.inr rfl⟩
     ·split
      ·exact h.L3 ⟨aS.1,aS.2.1,.inl rfl⟩
      ·exact h
def aLS{m:M}(hm:bk m)(c:Int):hr 53 [.i (.v (.int .u8 (c)))] m (.be []) (DX m c):=by
 intro af aE ag aH;have hw:=hm.w;have bq:=hm.cv;unfold DX;by_cases gD:c=8
 ·subst gD;rw[if_pos rfl];have ao:=aKm (m:=m) (a:=0) (b:=1) (af:=af) (ag:=ag) (T:=[.ax 5 af aE (aX m.G),.ax 5 ag aH (aX m.O)]) rfl rfl (by decide) hm.cj (-1);simp only[cq,c2]at ao;rw[bp wh];simp(disch:=omega)only[au,simprocAttr,yg,eN,bM,bT,bC,ao];exact⟨_,rfl,eb.dF⟩
 ·rw[if_neg gD];by_cases gy:c=9
  ·subst gy;rw[if_pos rfl];have ao:=LH (m:=m) (a:=0) (b:=1) (af:=af) (ag:=ag) (T:=[.ax 5 af aE (aX m.G),.ax 5 ag aH (aX m.O)]) rfl rfl (by decide) (ou m.cv m.aG.c);have aI:=λ H=>agm m.cv m.aG.c R H
   simp only[cq,c2]at ao;rw[bp wh];simp(disch:=omega)only[au,simprocAttr,yg,eN,bM,bT,bC,ao,aI];exact⟨_,rfl,eb.dF⟩
  ·rw[if_neg gy];by_cases si:c=10∨c=11∨c=12
   ·rw[if_pos si];obtain⟨H1,ao,fo⟩:=mb (f:=92) rfl rfl rfl (G6 hm) (h4.dF (m:=m) (af:=af) (ag:=ag) (aE:=aE) (aH:=aH) (T:=[]));obtain⟨a,kl,b,km,T,rfl,aA⟩:=fo;generalize mL m=m1 at*;unfold Hh;obtain⟨bY,bV,o9,nN,AQ,AR,wQ,nk,wR,cd⟩:=aA;obtain rfl:a=bY:=R;obtain rfl:b=bV:=R;have aI:=GZ (m:=m1) (af:=kl) (ag:=km) wQ nk wR;have aA:hq 1 m1 (a+1) kl (b+1) km T:=⟨a,b,o9,nN,rfl,rfl,wQ,nk,wR,cd⟩;cases n7:m1.md.io with
    |false=>
     simp only[fK,if_false];rcases si with rfl|rfl|rfl<;>(
      rw[bp wh];simp(disch:=omega)only[au,simprocAttr,yg,eN,bM,bT,bC,ao,n7];exact⟨_,rfl,yG aA⟩)
    |true=>
     simp only[if_true];rcases si with rfl|rfl|rfl<;>(
      rw[bp wh];simp(disch:=omega)only[au,simprocAttr,yg,eN,bM,bT,bC,ao,aI,n7];exact⟨_,rfl,yG (m:=nj m1) aA⟩)
   ·rw[if_neg si];have aR4:¬c=10:=λ h=>si (.inl h)
    have aR5:¬c=11:=λ h=>si (.inr (.inl h))
    have aR6:¬c=12:=λ h=>si (.inr (.inr h))
    by_cases ahi:c=13
    ·subst ahi;rw[if_pos rfl];have ao:=GZ (m:=m) (a:=0) (b:=1) (af:=af) (ag:=ag) (T:=[.ax 5 af aE (aX m.G),.ax 5 ag aH (aX m.O)]) rfl rfl (by decide);simp only[cq,c2]at ao;rw[bp wh];simp(disch:=omega)only[au,simprocAttr,yg,eN,bM,bT,bC,ao];exact⟨_,rfl,eb.dF⟩
    ·rw[if_neg ahi];by_cases ahj:c=14
     ·subst ahj;rw[if_pos rfl];have ao:=λ H=>aha m.md 1 (.inr rfl) H
      rw[bp wh];simp(disch:=omega)only[au,simprocAttr,yg,eN,bM,bT,bC,ao];exact⟨_,rfl,eb.dF⟩
     ·rw[if_neg ahj];by_cases ahk:c=15
      ·subst ahk;rw[if_pos rfl];have ao:=λ H=>aha m.md 0 (.inl rfl) H
       rw[bp wh];simp(disch:=omega)only[au,simprocAttr,yg,eN,bM,bT,bC,ao];exact⟨_,rfl,eb.dF⟩
      ·rw[if_neg ahk];rw[bp wh];simp(disch:=omega)only[au,simprocAttr,yg,eN,bM,bT,bC];exact⟨_,rfl,eb.dF⟩
def p0(n:Int):Bool:=decide (n=47∨n=1047∨n=1049)
def L4(H:aa):ct 149 [] H (.i (.ae 1 [[.v (.int .i64 47)],[.v (.int .i64 1047)],[.v (.int .i64 1049)]] false)):=cu (by
 refine bw aec ?_;simp(disch:=omega)only[au,simprocAttr,aFm,bB];exact⟨_,rfl⟩)
def Se{n:Int}(h:¬n=47):d_ E 0 211 (e4 Tryz.f211 0) [(0,.i (.ae 1 [[.v (.int .i64 47)],[.v (.int .i64 1047)],[.v (.int .i64 1049)]] false)),(1,.i (.v (.int .i64 (n)))),(7,.i (.v (.int .i64 (3)))),(8,.i (.v (.int .i64 (0))))] []=d_ E 0 211 (e4 Tryz.f211 0) [(0,.i (.ae 1 [[.v (.int .i64 47)],[.v (.int .i64 1047)],[.v (.int .i64 1049)]] false)),(1,.i (.v (.int .i64 (n)))),(7,.i (.v (.int .i64 (3)))),(8,.i (.v (.int .i64 (1))))] []:=by rw[cF sI 0];simp(disch:=omega)only[au,simprocAttr,wj,bB,wk]
def ahl{n:Int}(h:¬n=1047):d_ E 0 211 (e4 Tryz.f211 0) [(0,.i (.ae 1 [[.v (.int .i64 47)],[.v (.int .i64 1047)],[.v (.int .i64 1049)]] false)),(1,.i (.v (.int .i64 (n)))),(7,.i (.v (.int .i64 (3)))),(8,.i (.v (.int .i64 (1))))] []=d_ E 0 211 (e4 Tryz.f211 0) [(0,.i (.ae 1 [[.v (.int .i64 47)],[.v (.int .i64 1047)],[.v (.int .i64 1049)]] false)),(1,.i (.v (.int .i64 (n)))),(7,.i (.v (.int .i64 (3)))),(8,.i (.v (.int .i64 (2))))] []:=by rw[cF sI 0];simp(disch:=omega)only[au,simprocAttr,wj,bB,wk]
def aLT{n:Int}(h:¬n=1049):d_ E 0 211 (e4 Tryz.f211 0) [(0,.i (.ae 1 [[.v (.int .i64 47)],[.v (.int .i64 1047)],[.v (.int .i64 1049)]] false)),(1,.i (.v (.int .i64 (n)))),(7,.i (.v (.int .i64 (3)))),(8,.i (.v (.int .i64 (2))))] []=d_ E 0 211 (e4 Tryz.f211 0) [(0,.i (.ae 1 [[.v (.int .i64 47)],[.v (.int .i64 1047)],[.v (.int .i64 1049)]] false)),(1,.i (.v (.int .i64 (n)))),(7,.i (.v (.int .i64 (3)))),(8,.i (.v (.int .i64 (3))))] []:=by rw[cF sI 0];simp(disch:=omega)only[au,simprocAttr,wj,bB,wk]
def aLU{n:Int}:hT sI 0 [(0,.i (.ae 1 [[.v (.int .i64 47)],[.v (.int .i64 1047)],[.v (.int .i64 1049)]] false)),(1,n),(7,↑(3:Int)),(8,↑(3:Int))] [] 0 [(0,.i (.ae 1 [[.v (.int .i64 47)],[.v (.int .i64 1047)],[.v (.int .i64 1049)]] false)),(1,n),(7,↑(3:Int)),(8,↑(3:Int)),(9,false)] []:=by refine(cF sI 0).trans ?_;simp(disch:=omega)only[au,simprocAttr,wj,bB,wk]
def aLV{n:Int}(h:n=47):d_ E 0 211 (e4 Tryz.f211 0) [(0,.i (.ae 1 [[.v (.int .i64 47)],[.v (.int .i64 1047)],[.v (.int .i64 1049)]] false)),(1,.i (.v (.int .i64 (n)))),(7,.i (.v (.int .i64 (3)))),(8,.i (.v (.int .i64 (0))))] []=some (.ret,[(4,.i (.v (.int .i64 (0))))],[]):=by rw[cF sI 0];simp(disch:=omega)only[au,simprocAttr,wj,bB,wk]
def aLW{n:Int}(h:n=1047):d_ E 0 211 (e4 Tryz.f211 0) [(0,.i (.ae 1 [[.v (.int .i64 47)],[.v (.int .i64 1047)],[.v (.int .i64 1049)]] false)),(1,.i (.v (.int .i64 (n)))),(7,.i (.v (.int .i64 (3)))),(8,.i (.v (.int .i64 (1))))] []=some (.ret,[(4,.i (.v (.int .i64 (1))))],[]):=by rw[cF sI 0];simp(disch:=omega)only[au,simprocAttr,wj,bB,wk]
def aLX{n:Int}(h:n=1049):d_ E 0 211 (e4 Tryz.f211 0) [(0,.i (.ae 1 [[.v (.int .i64 47)],[.v (.int .i64 1047)],[.v (.int .i64 1049)]] false)),(1,.i (.v (.int .i64 (n)))),(7,.i (.v (.int .i64 (3)))),(8,.i (.v (.int .i64 (2))))] []=some (.ret,[(4,.i (.v (.int .i64 (2))))],[]):=by rw[cF sI 0];simp(disch:=omega)only[au,simprocAttr,wj,bB,wk]
def aLY(n:Int):∃ab:Int,((p0 n=true∧0≤ab∧ab≤3)∨(p0 n=false∧ab=-1))∧∀H,ct 211 [.i (.ae 1 [[.v (.int .i64 47)],[.v (.int .i64 1047)],[.v (.int .i64 1049)]] false),n] H ab:=by
 have key:(∃ab:Int,(p0 n=true∧0≤ab∧ab≤3)∧d_ E 0 211 (e4 Tryz.f211 0) [(0,.i (.ae 1 [[.v (.int .i64 47)],[.v (.int .i64 1047)],[.v (.int .i64 1049)]] false)),(1,.i (.v (.int .i64 (n)))),(7,.i (.v (.int .i64 (3)))),(8,.i (.v (.int .i64 (0))))] []=some (.ret,[(4,.i (.v (.int .i64 (ab))))],[]))∨(p0 n=false∧d_ E 0 211 (e4 Tryz.f211 0) [(0,.i (.ae 1 [[.v (.int .i64 47)],[.v (.int .i64 1047)],[.v (.int .i64 1049)]] false)),(1,.i (.v (.int .i64 (n)))),(7,.i (.v (.int .i64 (3)))),(8,.i (.v (.int .i64 (0))))] []=some (.exit 0,[(0,.i (.ae 1 [[.v (.int .i64 47)],[.v (.int .i64 1047)],[.v (.int .i64 1049)]] false)),(1,.i (.v (.int .i64 (n)))),(7,.i (.v (.int .i64 (3)))),(8,.i (.v (.int .i64 (3)))),(9,.i (.v (.bool (false))))],[])):=by
  by_cases aV:n=47
  ·exact .inl ⟨0,⟨by simp[p0,aV],R⟩,aLV aV⟩
  ·by_cases j:n=1047
   ·exact .inl ⟨1,⟨by simp[p0,j],R⟩,(Se aV).trans (aLW j)⟩
   ·by_cases J:n=1049
    ·exact .inl ⟨2,⟨by simp[p0,J],R⟩,(Se aV).trans ((ahl j).trans (aLX J))⟩
    ·exact .inr ⟨by simp[p0,aV,j,J],(Se aV).trans ((ahl j).trans ((aLT J).trans aLU))⟩
 rcases key with⟨ab,a',e⟩|⟨aB,e⟩
 ·refine⟨ab,.inl a',λ H=>gX rfl rfl rfl ?_⟩;rw[bp sI];simp(disch:=omega)only[au,simprocAttr,wj,bB,e,wk];exact⟨_,rfl⟩
 ·refine⟨-1,.inr ⟨aB,rfl⟩,λ H=>gX rfl rfl rfl ?_⟩;rw[bp sI];simp(disch:=omega)only[au,simprocAttr,wj,bB,e,wk];exact⟨_,rfl⟩
def aLZ(n:Int)(H:aa):ct 148 [.i (.ae 1 [[.v (.int .i64 47)],[.v (.int .i64 1047)],[.v (.int .i64 1049)]] false),n] H (↑(p0 n)):=cu (by
 obtain⟨ab,a',e⟩:=aLY n;rcases a' with⟨aB,j,J⟩|⟨aB,j⟩
 ·rw[aB];refine bw Qs ?_;simp(disch:=omega)only[au,simprocAttr,aeb,bB,e];exact⟨_,rfl⟩
 ·rw[aB];subst j;refine bw Qs ?_;simp(disch:=omega)only[au,simprocAttr,aeb,bB,e];exact⟨_,rfl⟩)
def DY(m:M)(a af b ag:Nat):(aT m a af b ag).set 35 (.i (h7 ((E.kinds 42).getD 35 none) (.ae 1 (dl m.cv) false)))=aT m a af b ag:=rfl
def DZ(m:M)(a af b ag:Nat):(aT m a af b ag).set 36 (.i (h7 ((E.kinds 42).getD 36 none) (GY m.fL m.back)))=aT {m with fL:=false} a af b ag:=by
 obtain⟨w,h,G,O,aG,bP,at',md,cz,b8,cv,fL,back,bm,eH,di⟩:=m;cases fL with
 |false=>rfl
 |true=>cases back<;>rfl
def Sf{m:M}{a af b ag c gc w h:Nat}(hw:w=m.w)(aO:h=m.h):.i (.v (.int .i64 (w)))::.i (.v (.int .i64 (h)))::.x (.d c gc 0 h)::eI 3 (aT m a af b ag)=aT m c gc b ag:=by subst hw aO;rfl
def Sg{m:M}{a af b ag c gc w h:Nat}(hw:w=m.w)(aO:h=m.h):.i (.v (.int .i64 (w)))::.i (.v (.int .i64 (h)))::.x (.d a af 0 h)::.i (.v (.int .i64 (w)))::.i (.v (.int .i64 (h)))::.x (.d c gc 0 h)::eI 6 (aT m a af b ag)=aT m a af c gc:=by subst hw aO;rfl
def yO(m:M):M:={m with aG:=m.bP.aG,a:=m.bP.a,md:={m.md with c4:=m.bP.c4,dn:=m.bP.dn,s1:=m.bP.s1,dM:=m.bP.dM}}
def D0(m:M):M:={m with bP:=⟨m.aG,m.a,m.md.c4,m.md.dn,m.md.s1,m.md.dM⟩}
def D1(m:M)(p n:Int)(on:Bool):M:=
 let d:=hf p on m.md n
 if p=0 then{m with md:=d}else
 if n=6 then{m with md:=d,aG:=⟨toR 1 (cj {m with md:=d}),k9 1 (cj {m with md:=d}),false⟩}else
 if p0 n=false∨d.fP=m.md.fP then{m with md:=d}else
 if n=1049 then(if d.fP=true then{m with md:=d,bP:=⟨m.aG,m.a,m.md.c4,m.md.dn,m.md.s1,m.md.dM⟩,G:=iV m.w m.h,O:=m.G}else yO {m with md:=d,G:=m.O,O:=m.G})
 else{m with md:=d,G:=m.O,O:=m.G}
def aL0(p:Int)(on:Bool)(m:k_)(n:Int):(hf p on m n).dn=m.dn∧(hf p on m n).s1=m.s1∧(hf p on m n).dM=m.dM:=by
 unfold hf;split
 ·unfold RE;split<;>exact⟨rfl,rfl,rfl⟩
 ·exact⟨rfl,rfl,rfl⟩
def bk.hf{m:M}(h:bk m)(p n:Int)(on:Bool):bk {m with md:=hf p on m.md n}:=by obtain⟨j,J,aw⟩:=aL0 p on m.md n;exact h.L3 (by rw[j,J,aw];exact h.bK)
def bk.D2{m:M}(h:bk m):bk (yO m):=
 {w:=h.w,h:=h.h,G:=h.G,O:=h.O,aG:=h.bP,bP:=h.bP,a:=h.aE,aE:=h.aE,cZ:=h.cZ,cv:=h.cv,back:=h.back,bK:=h.hF,hF:=h.hF,eH:=h.eH,di:=h.di}
def bk.Hi{m:M}(h:bk m):bk (D0 m):=
 {w:=h.w,h:=h.h,G:=h.G,O:=h.O,aG:=h.aG,bP:=h.aG,a:=h.a,aE:=h.a,cZ:=h.cZ,cv:=h.cv,back:=h.back,bK:=h.bK,hF:=h.bK,eH:=h.eH,di:=h.di}
def bk.Sh{m:M}(h:bk m){G O:List (List bh)}(la:G.length=m.h∧jV m.w G)(qE:O.length=m.h∧jV m.w O):bk {m with G:=G,O:=O}:=
 {w:=h.w,h:=h.h,G:=la,O:=qE,aG:=h.aG,bP:=h.bP,a:=h.a,aE:=h.aE,cZ:=h.cZ,cv:=h.cv,back:=h.back,bK:=h.bK,hF:=h.hF,eH:=h.eH,di:=h.di}
def Si(w h:Nat):(iV w h).length=h∧jV w (iV w h):=by refine⟨mv,λ r ai=>?_⟩;obtain⟨_,rfl⟩:=RQ.1 ai;exact⟨wy _ _,(eJ.o_ (by decide) w).p⟩
def bk.mod{m:M}(h:bk m)(p n:Int)(on:Bool):bk (D1 m p n on):=by
 have j:=h.hf p n on;unfold D1;simp only;split
 ·exact j
 ·split
  ·exact j.jX (G5 1 1 j)
  ·split
   ·exact j
   ·split
    ·split
     ·have J:=(j.Sh (G:=iV m.w m.h) (O:=m.G) (Si _ _) h.G);exact{w:=h.w,h:=h.h,G:=J.G,O:=J.O,aG:=h.aG,bP:=h.aG,a:=h.a,aE:=h.a,cZ:=h.cZ,cv:=h.cv,back:=h.back,bK:=j.bK,hF:=h.bK,eH:=h.eH,di:=h.di}
     ·exact(j.Sh h.O h.G).D2
    ·exact j.Sh h.O h.G
def aL1(n:Nat):(n+1==n||n==n+999999)=false:=by simp
def aL2{m:M}(hm:bk m)(p n:Int)(av:p=0∨p=63)(on:Bool):hr 109 [.i (.v (.int .u8 (p))),.i (.v (.int .i64 (n))),.i (.v (.bool (on)))] m (.be []) (D1 m p n on):=by
 intro af aE ag aH;have ao:=λ H=>aLC m.md p n on H
 have aI:=λ H=>aLZ n H
 have zH:=hm.hf p n on;unfold D1;simp only;generalize hf p on m.md n=d at*;by_cases s7:p=0
 ·rw[if_pos s7];subst s7;rw[bp CY];simp(disch:=omega)only[au,simprocAttr,rG,bB,bM,bT,bC,DY,DZ,ao,c_];exact⟨_,rfl,eb.dF⟩
 ·rw[if_neg s7];obtain rfl:p=63:=R;by_cases dw:n=6
  ·rw[if_pos dw];subst dw;rw[show p0 6=false from rfl]at aI;have bE:=λ z=>agx (m:={m with md:=d}) (a:=0) (b:=1) (af:=af) (ag:=ag) (T:=.ax 5 af aE (aX m.G)::.ax 5 ag aH (aX m.O)::z) rfl rfl (by decide) zH.cj 1 1
   simp only[cq,c2]at bE;rw[bp CY];simp(disch:=omega)only[au,simprocAttr,rG,bB,bM,bT,bC,DY,DZ,ao,aI,bE,L4,c_];exact⟨_,rfl,eb.dF⟩
  ·rw[if_neg dw];by_cases aB:p0 n=false∨d.fP=m.md.fP
   ·rw[if_pos aB];cases cU:p0 n with
    |false=>rw[cU]at aI;rw[bp CY];simp(disch:=omega)only[au,simprocAttr,rG,bB,bM,bT,bC,DY,DZ,ao,aI,L4,c_];exact⟨_,rfl,eb.dF⟩
    |true=>
     have AN:d.fP=m.md.fP:=by rcases aB with h|h;rw[cU]at h;cases h;exact h
     rw[cU]at aI;have Sj:(d.fP==m.md.fP)=true:=by rw[AN];exact beq_self_eq_true _
     rw[bp CY];simp(disch:=omega)only[au,simprocAttr,rG,bB,bM,bT,bC,DY,DZ,ao,aI,Sj,L4,c_];exact⟨_,rfl,eb.dF⟩
   ·rw[if_neg aB];have cU:p0 n=true:=by cases h:p0 n;exact absurd (.inl h) aB;rfl
    have Sj:(d.fP==m.md.fP)=false:=by simp;exact λ h=>aB (.inr h)
    rw[cU]at aI;rw[bp CY];simp(disch:=omega)only[au,simprocAttr,rG,bB,bM,bT,bC,DY,DZ,ao,aI,L4,c_];obtain⟨m3,ow⟩:∃m3,({m with md:=d}:M)=m3:=⟨_,rfl⟩;have Sk:m3.md=d:=by rw[←ow]
    have ahm:m3.aG=m.aG:=by rw[←ow]
    have aR7:m3.a=m.a:=by rw[←ow]
    have rW:m3.w=m.w:=by rw[←ow]
    have aL3:m3.h=m.h:=by rw[←ow]
    refine AP (λ I H=>(∃t,I=(0,.ptr 0 0 0 0)::(2,.i (.v (.int .i64 (n))))::(8,.ptr 3 0 0 0)::t)∧∃T,H=.box (aT m3 1 af 2 ag)::.ax 5 af aE (aX m.G)::.ax 5 ag aH (aX m.O)::.box (aT {m with fL:=false} 1 af 2 ag)::T) ?_ ?_
    ·rw[←ow];simp(disch:=omega)only[au,simprocAttr,rG,bB,Sj];exact⟨_,_,rfl,⟨_,rfl⟩,_,rfl⟩
    rintro I H ⟨⟨t,rfl⟩,T,rfl⟩;simp(disch:=omega)only[au,simprocAttr,rG,bB,bM,bT,bC];have rc:m3.G=m.G∧m3.O=m.O:=by rw[←ow];exact⟨rfl,rfl⟩
    obtain⟨m4,nl⟩:∃m4:M,m4=if n=1049∧d.fP=true then{m3 with bP:=⟨m3.aG,m3.a,m.md.c4,m.md.dn,m.md.s1,m.md.dM⟩}else m3:=⟨_,rfl⟩
    refine AP (λ I H=>(∃t,I=(0,.ptr 0 0 0 0)::(2,.i (.v (.int .i64 (n))))::t)∧∃T,H=.box (aT m4 1 af 2 ag)::.ax 5 af aE (aX m.G)::.ax 5 ag aH (aX m.O)::T) ?_ ?_
    ·by_cases A0:n=1049
     ·subst A0;cases ft:d.fP with
      |true=>
       rw[if_pos ⟨rfl,ft⟩]at nl;have L5:m3.md.fP=true:=by rw[Sk];exact ft
       have bE:=λ x z=>agz (m:={m3 with md:=m.md}) (a:=0) (b:=1) (af:=af) (ag:=ag) (T:=.ax 5 af aE (aX m.G)::.ax 5 ag aH (aX m.O)::x::z) rfl rfl (by decide)
       simp only[cq,c2]at bE;rw[nl];have al:(⟨m3.md.ins,m3.md.io,m3.md.kG,m3.md.c4,m3.md.wr,m3.md.kH,true,m3.md.kI,m3.md.dn,m3.md.s1,m3.md.dM⟩:k_)=m3.md:=by rw[←L5]
       simp(disch:=omega)only[au,simprocAttr,rG,bB,bM,bT,bC,L5,bE];rw[al];exact⟨_,_,rfl,⟨_,rfl⟩,_,rfl⟩
      |false=>
       rw[if_neg (by simp[ft])]at nl;have L5:m3.md.fP=false:=by rw[Sk];exact ft
       rw[nl];simp(disch:=omega)only[au,simprocAttr,rG,bB,bM,bT,bC,L5];exact⟨_,_,rfl,⟨_,rfl⟩,_,rfl⟩
     ·rw[if_neg (λ h=>A0 h.1)]at nl;rw[nl];simp(disch:=omega)only[au,simprocAttr,rG,bB,bM,bT,bC];exact⟨_,_,rfl,⟨_,rfl⟩,_,rfl⟩
    rintro I H ⟨⟨t,rfl⟩,T,rfl⟩;have ahn:m4.md=d:=by rw[nl];split<;>exact Sk
    have DW:m4.w=m.w∧m4.h=m.h:=by rw[nl];split<;>exact⟨rW,aL3⟩
    have fin:∀{T:aa},eb {m4 with G:=m.O,O:=m.G} (.box (aT m4 2 ag 1 af)::.ax 5 af aE (aX m.G)::.ax 5 ag aH (aX m.O)::T):=⟨_,_,_,_,_,rfl,nO (m:={m4 with G:=m.O,O:=m.G}) (a:=1) (b:=0) rfl rfl (by decide) rfl rfl⟩;by_cases A0:n=1049
    ·rw[if_pos A0];subst A0;cases ft:d.fP with
     |true=>
      have Sl:m4.md.fP=true:=by rw[ahn];exact ft
      have c6:=λ H=>af7 m.w m.h hm.w hm.h H
      rw[←DW.1,←DW.2]at c6;have e:({m with md:=d,bP:=⟨m.aG,m.a,m.md.c4,m.md.dn,m.md.s1,m.md.dM⟩,G:=iV m.w m.h,O:=m.G}:M)={m4 with G:=iV m4.w m4.h,O:=m.G}:=by rw[if_pos ⟨rfl,ft⟩]at nl;rw[nl,←ow]
      simp only[if_true];rw[e];have g1:∀x y:Chunk,(T++[x]++[y])[T.length]?=some x:=λ x y=>by simp
      have g2:∀x y z:Chunk,(T++[x]++[y]).set T.length z=T++[z]++[y]:=λ x y z=>by simp
      have g3:∀x y a b:Chunk,(a::b::(T++[x]++[y]))[T.length+3]?=some y:=λ x y a b=>by rw[show T.length+3=(T.length+1)+1+1 from rfl,jM,jM,ha (by simp)];simp
      simp(disch:=omega)only[au,simprocAttr,rG,bB,bM,bT,bC,Sf,Sg,Sl,c6,g1,g2,aL1,Nat.add_sub_cancel_left];have cd:hq 1 {m4 with G:=iV m4.w m4.h,O:=m.G} (T.length+3+1) 0 (0+1) af (.ax 5 af aE (aX m.G)::.ax 5 ag aH (aX m.O)::(T++[.box [.i (.v (.int .i64 (m4.w))),.i (.v (.int .i64 (m4.h))),.x (.d (T.length+1+1+1+1) 0 0 m4.h)]]++[.ax 5 0 0 (aX (iV m4.w m4.h))])):=nO (aE:=0) (g3 _ _ _ _) rfl R rfl rfl;exact⟨_,rfl,yG cd⟩
     |false=>
      have Sl:m4.md.fP=false:=by rw[ahn];exact ft
      simp only[fK,if_false];rw[if_neg (by simp[ft])]at nl;have lq:=λ z=>agB (m:=m4) (a:=1) (b:=0) (af:=ag) (ag:=af) (T:=.ax 5 af aE (aX m.G)::.ax 5 ag aH (aX m.O)::z) rfl rfl (by decide)
      simp only[cq,c2]at lq;simp(disch:=omega)only[au,simprocAttr,rG,bB,bM,bT,bC,Sf,Sg,Sl,lq];subst nl ow;unfold yO;simp only at ft⊢;rw[ft];refine⟨_,rfl,_,_,_,_,_,rfl,?_⟩;exact nO (a:=1) (b:=0) rfl rfl (by decide) rfl rfl
    ·rw[if_neg A0];rw[if_neg (λ h=>A0 h.1)]at nl;simp(disch:=omega)only[au,simprocAttr,rG,bB,bM,bT,bC,Sf,Sg];subst nl ow;exact⟨_,rfl,fin⟩
def iD(w h:Nat):M:=⟨w,h,iV w h,iV w h,⟨0,0,false⟩,⟨⟨0,0,false⟩,⟨-1,-1,0⟩,false,66,66,0⟩,⟨-1,-1,0⟩,qK,0,h,iW w w,false,[],⟨0,[],[]⟩,[],[]⟩
def l4(w h:Nat)(hw:1≤w∧w≤132)(aO:1≤h∧h≤60):∃a b L,b4 E 7 [.i (.v (.int .i64 (w))),.i (.v (.int .i64 (h)))] []=some (.be [.agg (aT (iD w h) a 0 b 0),.i (.v (.int .i64 (0)))],L)∧a≠b∧L[a]?=some (.ax 5 0 0 (aX (iV w h)))∧L[b]?=some (.ax 5 0 0 (aX (iV w h))):=by
 have ao:=λ H=>af7 w h hw aO H
 have aI:=λ H=>agp w hw.2 H
 have an:(dl (iW w w)).length=w:=by rw[kF,wE]
 have hx:(aX (iV w h)).length=h:=Lx w h;unfold iD qK;generalize iW w w=cZ at*;generalize iV w h=o_ at*;rw[bp ade];simp(disch:=omega)only[au,simprocAttr,aEx,ao,aI,aLq,ag8];exact⟨1,3,_,rfl,by decide,by rfl,by rfl⟩
def aL4{g:Nat}{br:List U}{a b:Nat}{m:M}{x y:Chunk}{v:aD}{H:aa}(he:E.ext g=none)(ai:bz br=[])(al:x.refs=[])(aZ:y.refs=[])(cU:a≠b)(ah:∃L,b4 E g br []=some (.be [.agg (aT m a 0 b 0),.i v],L)∧L[a]?=some x∧L[b]?=some y):
  cn g br H (.be [.agg (aT m H.length 0 (H.length+1) 0),.i v]) (H++[x,y]):=by
 obtain⟨L,ah,fh,tv⟩:=ah;have j:=(ga (bt [])).2 br ai;have l6:=k7 al;have GU:=k7 aZ;have iw:bd (.be [.agg (aT m a 0 b 0),.i v])=[a,b]:=rfl;have bG:=e8.2 (bF.1 fh).1;have bH:=e8.2 (bF.1 tv).1;have dc:reach L 64 [a,b] []=[a,b]:=by simp[reach,fh,tv,al,aZ,cU,ba cU,bG,bH]
 have ao:=jx (dm [] H.length [a,b]) m a 0 b 0 H.length (H.length+1) (by simp[dm,bt]) (by simp[dm,bt,ba cU,qv]);unfold cn dj;rw[ai];simp only[e0,he,reach,j,fp,ah,dx,rz,if_false,nc,sy,c_,iw,dc];simp[co,cB,ao,fh,tv,l6,GU,ef]
def aho(w h:Nat)(hw:1≤w∧w≤132)(aO:1≤h∧h≤60)(H:aa):cn 7 [w,h] H (.be [.agg (aT (iD w h) H.length 0 (H.length+1) 0),↑(0:Int)]) (H++[.ax 5 0 0 (aX (iV w h)),.ax 5 0 0 (aX (iV w h))]):=by obtain⟨a,b,L,j,J,aw,bb⟩:=l4 w h hw aO;exact aL4 rfl rfl rfl rfl J ⟨L,j,aw,bb⟩
def bk.new{w h:Nat}(hw:1≤w∧w≤132)(aO:1≤h∧h≤60):bk (iD w h):=
 {w:=hw,h:=aO,G:=Si w h,O:=Si w h,aG:=⟨by simp only[iD];omega,by simp only[iD];omega,by simp[iD]⟩,bP:=⟨by simp only[iD];omega,by simp only[iD];omega,by simp[iD]⟩,a:=(by decide:ik ⟨-1,-1,0⟩=true),aE:=(by decide:ik ⟨-1,-1,0⟩=true),cZ:=by simp only[iD];omega,cv:=wE w w,back:=⟨by simp[iD],by simp[iD]⟩,bK:=by simp[iD,qK],hF:=by simp[iD],eH:=by simp[iD],di:=by simp[iD]}
def Hj(m:M):M:=if(rQ m.aG (cj m)).2=true then k' {m with aG:=(rQ m.aG (cj m)).1} m.cz (-1) false else{m with aG:=(rQ m.aG (cj m)).1}
def D3(m:M)(s:List UInt8)(c:Int):M:=
 if s≠[]then{m with md:=pY m.md s c}else
 if c=55 then D0 m else if c=56 then yO m else if c=69 then mL (nj m)else if c=68 then mL m else if c=77 then Hj m
 else if c=72 then{m with cv:=m.cv.set m.aG.c.toNat true}else if c=99 then{iD m.w m.h with bm:=m.bm,di:=m.di}else m
def bk.rev{m:M}(h:bk m):bk (Hj m):=by
 unfold Hj;split
 ·exact(h.jX (RO m.aG h)).yH ⟨h.cZ.1,h.cZ.2.1⟩
 ·exact h.jX (RO m.aG h)
def bk.Sm{m:M}(h:bk m)(s:List UInt8)(c:Int):bk (D3 m s c):=by
 have aS:=h.bK;unfold D3;split
 ·refine h.L3 ?_;unfold pY;split
  ·split
   ·refine⟨?_,aS.2⟩;simp only;omega
   ·split
    ·refine⟨aS.1,?_,aS.2.2⟩;simp only;omega
    ·exact aS
  ·exact aS
 ·repeat' split
  ·exact h.Hi
  ·exact h.D2
  ·exact h.me.feed
  ·exact h.feed
  ·exact h.rev
  ·exact h.RW (by rw[jI];exact h.cv)
  ·have aF:=bk.new h.w h.h;exact{w:=aF.w,h:=aF.h,G:=aF.G,O:=aF.O,aG:=aF.aG,bP:=aF.bP,a:=aF.a,aE:=aF.aE,cZ:=aF.cZ,cv:=aF.cv,back:=aF.back,bK:=aF.bK,hF:=aF.hF,eH:=aF.eH,di:=h.di}
  ·exact h
def Sn(m m2:M)(a af b ag a2 yN dE wS:Nat):aT m2 a2 yN dE wS++eI 42 (aT m a af b ag)=aT m2 a2 yN dE wS:=rfl
def aL5{m:M}(hm:bk m)(s:List UInt8)(c:Int):hr 54 [.i (.str s),.i (.v (.int .u8 (c)))] m (.be []) (D3 m s c):=by
 intro af aE ag aH;have hw:=hm.w;have bq:=hm.cv;have e9:=hm.aG.2.1;unfold D3;by_cases aS:s=[]
 ·rw[if_neg (λ h=>h aS)];subst aS;by_cases ahp:c=55
  ·subst ahp;rw[if_pos rfl];have ao:=agz (m:=m) (a:=0) (b:=1) (af:=af) (ag:=ag) (T:=[.ax 5 af aE (aX m.G),.ax 5 ag aH (aX m.O)]) rfl rfl (by decide);simp only[cq,c2]at ao;rw[bp tm];simp(disch:=omega)only[au,simprocAttr,uB,eN,bM,bT,bC,ao];exact⟨_,rfl,eb.dF⟩
  ·rw[if_neg ahp];by_cases ahq:c=56
   ·subst ahq;rw[if_pos rfl];have ao:=agB (m:=m) (a:=0) (b:=1) (af:=af) (ag:=ag) (T:=[.ax 5 af aE (aX m.G),.ax 5 ag aH (aX m.O)]) rfl rfl (by decide);simp only[cq,c2]at ao;rw[bp tm];simp(disch:=omega)only[au,simprocAttr,uB,eN,bM,bT,bC,ao];exact⟨_,rfl,eb.dF⟩
   ·rw[if_neg ahq];by_cases ahr:c=69
    ·subst ahr;rw[if_pos rfl];have ao:=GZ (m:=m) (a:=0) (b:=1) (af:=af) (ag:=ag) (T:=[.ax 5 af aE (aX m.G),.ax 5 ag aH (aX m.O)]) rfl rfl (by decide);obtain⟨bx,aI,dE⟩:=mb (f:=92) rfl rfl rfl (G6 hm.me) (h4.dF (m:=nj m) (af:=af) (ag:=ag) (aE:=aE) (aH:=aH) (T:=[]));simp only[cq,c2]at ao;simp only[nj,rU]at aI;rw[bp tm];simp(disch:=omega)only[au,simprocAttr,uB,eN,bM,bT,bC,ao,aI];exact⟨_,rfl,dE.iX⟩
    ·rw[if_neg ahr];by_cases ahs:c=68
     ·subst ahs;rw[if_pos rfl];obtain⟨bx,aI,dE⟩:=mb (f:=92) rfl rfl rfl (G6 hm) (h4.dF (m:=m) (af:=af) (ag:=ag) (aE:=aE) (aH:=aH) (T:=[]));rw[bp tm];simp(disch:=omega)only[au,simprocAttr,uB,eN,bM,bT,bC,aI];exact⟨_,rfl,dE.iX⟩
     ·rw[if_neg ahs];by_cases aht:c=77
      ·subst aht;rw[if_pos rfl];have ao:=λ z=>G0 (m:=m) (a:=0) (b:=1) (af:=af) (ag:=ag) (T:=.ax 5 af aE (aX m.G)::.ax 5 ag aH (aX m.O)::z) rfl rfl (by decide)
       have aI:=λ H=>aI5 m.aG hm.cj H
       unfold Hj;have Lt:=hm.jX (RO m.aG hm);obtain⟨q,bn⟩:∃q,rQ m.aG (cj m)=q:=⟨_,rfl⟩;rw[bn]at aI Lt⊢;simp only[cq,c2,cj]at ao aI;obtain⟨⟨G7,td,kK⟩,k⟩:=q;simp only at*;cases k with
       |false=>simp only[fK,if_false]at aI⊢;rw[bp tm];simp(disch:=omega)only[au,simprocAttr,uB,eN,bM,bT,bC,ao,aI];exact⟨_,rfl,eb.dF⟩
       |true=>simp only[if_true]at aI⊢;obtain⟨bY,cJ,bV,cK,cW,bE,i3,cG⟩:=RJ (f:=107) rfl rfl rfl (G2 Lt m.cz (-1) false ⟨hm.cZ.1,hm.cZ.2.1⟩) (nO (m:={m with aG:=⟨G7,td,kK⟩}) (a:=0) (b:=1) (af:=af) (ag:=ag) (aE:=aE) (aH:=aH) (x:=.ax 5 af aE (aX m.G)) (y:=.ax 5 ag aH (aX m.O)) (T:=[.box [.i (.v (.int .i64 (G7))),.i (.v (.int .i64 (td))),.i (.v (.bool (kK)))]]) rfl rfl (by decide) rfl rfl);simp only[cq,c2]at bE;rw[bp tm];simp(disch:=omega)only[au,simprocAttr,uB,eN,bM,bT,bC,ao,aI,bE,show(0-1:Int)=-1 from rfl];exact⟨_,rfl,yG i3⟩
      ·rw[if_neg aht];by_cases ahu:c=72
       ·subst ahu;rw[if_pos rfl];have ao:=λ H=>ago m.cv m.aG.c.toNat R R true H
        rw[show((m.aG.c.toNat:Nat):Int)=m.aG.c by omega]at ao;rw[bp tm];simp(disch:=omega)only[au,simprocAttr,uB,eN,bM,bT,bC,ao];exact⟨_,rfl,eb.dF⟩
       ·rw[if_neg ahu];by_cases ahv:c=99
        ·subst ahv;rw[if_pos rfl];have ao:=λ H=>aho m.w m.h hm.w hm.h H
         obtain⟨hn,hA⟩:∃hn,iD m.w m.h=hn:=⟨_,rfl⟩;rw[hA]at ao⊢;have hmk:(aT ({hn with fL:=false,bm:=⟨m.bm.bK,m.bm.b5,m.bm.b2⟩,di:=m.di}:M) 4 0 5 0).set 36 (.i (h7 ((E.kinds 42).getD 36 none) (GY false hn.back)))=aT ({hn with fL:=false,bm:=⟨m.bm.bK,m.bm.b5,m.bm.b2⟩,di:=m.di}:M) 4 0 5 0:=rfl;have aL6:(aT ({hn with fL:=false,bm:=⟨m.bm.bK,m.bm.b5,m.bm.b2⟩,di:=m.di}:M) 4 0 5 0).set 35 (.i (h7 ((E.kinds 42).getD 35 none) (.ae 1 (dl hn.cv) false)))=aT ({hn with fL:=false,bm:=⟨m.bm.bK,m.bm.b5,m.bm.b2⟩,di:=m.di}:M) 4 0 5 0:=rfl;rw[bp tm];have ai:((lN 4 2).all λ c=>!(c==3||c==1000003))=true:=rfl;simp(disch:=omega)only[au,simprocAttr,uB,eN,bM,bT,bC,DY,DZ,Sn,ai,ao,hmk,aL6,c_];subst hA;refine⟨_,rfl,_,_,_,_,_,rfl,?_⟩;exact nO (a:=3) (b:=4) rfl rfl (by decide) rfl rfl
        ·rw[if_neg ahv];rw[bp tm];simp(disch:=omega)only[au,simprocAttr,uB,eN,bM,bT,bC];exact⟨_,rfl,eb.dF⟩
 ·rw[if_pos aS];have ao:=λ H=>aLp m.md s c H
  have DR:(s==[])=false:=by simpa using aS
  rw[bp tm];simp(disch:=omega)only[au,simprocAttr,uB,eN,bM,bT,bC,ao,aS,DR];exact⟨_,rfl,eb.dF⟩
def Hk(aj:Nat)(m:M)(L:aa):Prop:=∃A af B ag T,L=.box (aT m A af B ag)::T∧hq aj m A af B ag T
def So{n aj:Nat}{m:M}{A af B ag:Nat}{T H:aa}(aQ:∀k,H[k+aj]?=T[k]?)(cd:hq aj m A af B ag T):Hk aj m (Chunk.box (ew n H (aT m A af B ag))::ep n H aj T):=by
 obtain⟨a,b,aE,aH,rfl,rfl,aB,ak,cU,an,aV,j⟩:=cd;have L6:H[a+aj]?=_:=(aQ a).trans aB;have L7:H[b+aj]?=_:=(aQ b).trans ak;have e:ew n H (aT m (a+aj) af (b+aj) ag)=aT m (a+aj) (if a+aj<n then af else 0) (b+aj) (if b+aj<n then ag else 0):=by by_cases ca:a+aj<n<;>by_cases cc:b+aj<n<;>simp[aT,ew,ee,cP.c,L6,L7,qS,ca,cc]
 have g:∀k,(ep n H aj T)[k]?=(T[k]?).map (dN n H (aj+k)):=ul _ _ T aj;refine⟨_,_,_,_,_,by rw[e],a,b,if a+aj<n then aE else 0,if b+aj<n then aH else 0,rfl,rfl,?_,?_,cU,by rw[pK];exact an,λ x al=>?_,λ x al=>?_⟩
 ·rw[g,aB,d',qv aj a];by_cases ca:a+aj<n<;>simp only[dN,ca,if_true,if_false]
 ·rw[g,ak,d',qv aj b];by_cases ca:b+aj<n<;>simp only[dN,ca,if_true,if_false]
 ·rw[g]at al;obtain⟨eQ,q,rfl⟩:=c0.1 al;exact LL (aV eQ q)
 ·rw[g]at al;obtain⟨eQ,q,rfl⟩:=c0.1 al;exact LL (j eQ q)
def Hl{P:aa}{m b1:M}{A af B ag:Nat}{T ap:aa}(lZ:∀x∈P,h3 x)(cd:hq (P.length+1) m A af B ag T)(j:qI P.length b1 ap)(J:sK P.length (P++.box (aT m A af B ag)::T) ap):
  ∃fi cJ eg cK cW,ap=P++.box (aT b1 fi cJ eg cK)::cW∧hq (P.length+1) b1 fi cJ eg cK cW:=by
 obtain⟨fi,cJ,eg,cK,aE,aH,cC,i2,i3,i4⟩:=j;obtain⟨bG,bH,cG⟩:=J;have yw:=(bF.1 cC).1;have zQ:ap.take P.length=P:=by
  apply Fh;intro k;by_cases az:k<P.length
  ·rw[Rx az];have e:=bH k P[k] (by rw[en az];exact eT az) R (lZ _ (mr az));rw[e];exact(eT az).symm
  ·rw[sl (by rw[gE];omega),sl R]
 obtain⟨ao,aI⟩:=bF.1 cC;have aL7:ap=P++.box (aT b1 fi cJ eg cK)::ap.drop (P.length+1):=by
  conv=>lhs;rw[←JL P.length ap,zQ,ji ao,aI]
 have aP:∀k,(ap.drop (P.length+1))[k]?=ap[k+(P.length+1)]?:=λ k=>by rw[q5,qv]
 have place:∀{c g s:Nat} {rows:List bS},ap[c]?=some (.ax 5 g s rows)→∃k,c=k+(P.length+1):=λ{c g s rows} h=>by
  rcases Nat.lt_trichotomy c P.length with ah|ah|ah
  ·have e:=bH c P[c] (by rw[en ah];exact eT ah) R (lZ _ (mr ah));rw[h]at e;have:=lZ _ (mr ah);rw[←qf e]at this;exact this.elim
  ·subst ah;rw[cC]at h;cases h
  ·exact⟨c-(P.length+1),R⟩
 obtain⟨bY,rfl⟩:=place i2;obtain⟨bV,rfl⟩:=place i3;obtain⟨a,b,aR8,aR9,rfl,rfl,aB,ak,cU,an,aV,j⟩:=cd;have du:∀k,(P++.box (aT m (a+(P.length+1)) af (b+(P.length+1)) ag)::T)[k+(P.length+1)]?=T[k]?:=λ k=>by rw[ha R,show k+(P.length+1)-P.length=k+1 by omega,jM]
 have ahw:∀k,k<T.length→(∀x:Chunk,T[k]?=some x→x.refs=[])→∀x:Chunk,(ap.drop (P.length+1))[k]?=some x→x.refs=[]:=λ k az al x sh=>by obtain⟨lT,gg,fN⟩:=cG (k+(P.length+1)) T[k] (by rw[du];exact eT az) R (al _ (eT az));rw[aP,gg]at sh;cases sh;exact fN
 refine⟨_,_,_,_,_,aL7,bY,bV,aE,aH,rfl,rfl,by rw[aP];exact i2,by rw[aP];exact i3,R,?_,ahw 0 R aV,ahw 1 R j⟩;rw[ic];simp only[dd,cT]at bG;omega
def A1(aU:Nat→Option Nat):∀a b:List U,cB aU (a++b)=cB aU a++cB aU b
 |[],b=>rfl
 |x::a,b=>by simp only[uy,cB,A1 aU a b]
def A2:∀a b:List U,bz (a++b)=bz a++bz b
 |[],b=>rfl
 |x::a,b=>by simp only[uy,bz,A2 a b,dV]
structure uX (H:aa) (p:Nat) (m:M) (A af B ag:Nat):Prop where
 av:H[p]?=some (.box (aT m A af B ag))
 b0:∃aE,H[A]?=some (.ax 5 af aE (aX m.G))
 cM:∃aH,H[B]?=some (.ax 5 ag aH (aX m.O))
 iC:A≠B
def uX.lt{H:aa}{p:Nat}{m:M}{A af B ag:Nat}(h:uX H p m A af B ag):¬H.length≤p∧¬H.length≤A∧¬H.length≤B∧p≠A∧p≠B:=by
 obtain⟨aE,b0⟩:=h.b0;obtain⟨aH,cM⟩:=h.cM;refine⟨e8.2 (bF.1 h.av).1,e8.2 (bF.1 b0).1,e8.2 (bF.1 cM).1,λ e=>?_,λ e=>?_⟩
 ·subst e;have:=h.av;rw[b0]at this;cases this
 ·subst e;have:=h.av;rw[cM]at this;cases this
def fG(X:aa)(f:Nat)(br:List U)(m:M)(r:U)(b1:M):Prop:=∀af aE ag aH,∃L,b4 E f br (X++[.box (aT m (X.length+1) af (X.length+2) ag),.ax 5 af aE (aX m.G),.ax 5 ag aH (aX m.O)])=some (r,X++L)∧Hk (X.length+1) b1 L
def hr.kK{f:Nat}{br:List U}{m b1:M}{r:U}(h:hr f br m r b1):fG [] f (.ptr 0 0 0 0::br) m r b1:=λ af aE ag aH=>by obtain⟨L,e,A,cJ,B,cK,T,rfl,i⟩:=h af aE ag aH;exact⟨_,e,A,cJ,B,cK,T,rfl,i⟩
def Hm{f:Nat}{br:List U}{r:U}{m b1:M}{H:aa}{p A af B ag:Nat}(he:E.ext f=none)(gR:bz br=[])(ai:bd r=[])(h:hr f br m r b1)(aQ:uX H p m A af B ag):
  ∃ap,cn f (.ptr p 0 0 0::br) H r ap∧qI p b1 ap∧sK p H ap:=by
 obtain⟨c7,eS,qM,gh,gr⟩:=aQ.lt;obtain⟨av,⟨aE,b0⟩,⟨aH,cM⟩,iC⟩:=aQ;refine yD (uS:=.ptr 0 0 0 0::br) (aW:=[]) (Z:=[]) (X:=[]) he ai av b0 cM iC ?_ ?_ rfl (by simp) (by simp) (by simp) (λ _ _=>rfl) (by simp) (λ _ _ _ _ _ h=>agJ h) (λ af aE ag aH=>?_)
 ·simp[bz,bd,gR,reach,av,b0,cM,jy,bC,c7,eS,qM,ba gh,ba gr,ba iC,Chunk.refs]
 ·simp only[cB,co,(ga _).2 br gR];simp[bt]
 ·obtain⟨L,e,A,cJ,B,cK,T,rfl,i⟩:=h af aE ag aH;exact⟨A,cJ,B,cK,T,e,i⟩
def Hn{f:Nat}{br:List U}{r:U}{m b1:M}{H:aa}{q p A af B ag:Nat}(he:E.ext f=none)(gR:bz br=[])(ai:bd r=[])(h:fG [.box [.ptr 1 0 0 0]] f (br++[.ptr 0 0 0 0]) m r b1)(aQ:uX H p m A af B ag)(bn:H[q]?=some (.box [.ptr p 0 0 0])):
  ∃ap,cn f (br++[.ptr q 0 0 0]) H r ap∧qI p b1 ap∧sK p H ap:=by
 obtain⟨c7,eS,qM,gh,gr⟩:=aQ.lt;obtain⟨av,⟨aE,b0⟩,⟨aH,cM⟩,iC⟩:=aQ;have aL8:=e8.2 (bF.1 bn).1;have Sp:q≠p:=λ e=>by subst e;rw[bn]at av;cases av
 have ahx:q≠A:=λ e=>by subst e;rw[bn]at b0;cases b0
 have ahy:q≠B:=λ e=>by subst e;rw[bn]at cM;cases cM
 refine yD (uS:=br++[.ptr 0 0 0 0]) (aW:=[q]) (Z:=[1]) (X:=[.box [.ptr 1 0 0 0]]) he ai av b0 cM iC ?_ ?_ ?_ (by simp[ba Sp]) (by simp[ba ahx]) (by simp[ba ahy]) ?_ (by simp) ?_ (λ af aE ag aH=>?_)
 ·simp[A2,bz,bd,gR,reach,bn,av,b0,cM,jy,bC,aL8,c7,eS,qM,ba gh,ba gr,ba iC,ba Sp,ba ahx,ba ahy,Chunk.refs]
 ·rw[A1,(ga _).2 br gR];simp[cB,co,bt]
 ·simp[bn,iq,cB,co,bt,ba Sp]
 ·intro back ak;have e:=ak 1 p rfl;simp[bn,iq,cB,co,e]
 ·intro fi cJ eg cK cW cd;obtain⟨a,b,aE,aH,rfl,rfl,aB,ak,cU,_⟩:=cd;have bG:=e8.2 (bF.1 aB).1;have bH:=e8.2 (bF.1 ak).1;simp[reach,jy,bC,bz,bd,aB,ak,bG,bH,ba cU,Chunk.refs]
 ·obtain⟨L,e,A,cJ,B,cK,T,rfl,i⟩:=h af aE ag aH;exact⟨A,cJ,B,cK,T,e,i⟩
def pb{f g:Nat}{br:List U}{r:U}{m b1:M}{H:aa}{k ab p A af B ag:Nat}(he:E.ext f=none)(gR:bz br=[])(ai:bd r=[])(h:fG [.box [.aR (.func g) [] [.ptr 1 0 0 0]],.box [.ptr 2 0 0 0]] f (br++[.ptr 0 0 0 0]) m r b1)(aQ:uX H p m A af B ag)(az:H[k]?=some (.box [.aR (.func g) [] [.ptr ab 0 0 0]]))(a':H[ab]?=some (.box [.ptr p 0 0 0]))(ir:k≠ab):
  ∃ap,cn f (br++[.ptr k 0 0 0]) H r ap∧qI p b1 ap∧sK p H ap:=by
 obtain⟨c7,eS,qM,gh,gr⟩:=aQ.lt;obtain⟨av,⟨aE,b0⟩,⟨aH,cM⟩,iC⟩:=aQ;have kj:=e8.2 (bF.1 az).1;have jY:k≠p:=λ e=>by subst e;rw[az]at av;cases av
 have kM:k≠A:=λ e=>by subst e;rw[az]at b0;cases b0
 have kN:k≠B:=λ e=>by subst e;rw[az]at cM;cases cM
 have p1:=e8.2 (bF.1 a').1;have nm:ab≠p:=λ e=>by subst e;rw[a']at av;cases av
 have nn:ab≠A:=λ e=>by subst e;rw[a']at b0;cases b0
 have np:ab≠B:=λ e=>by subst e;rw[a']at cM;cases cM
 refine yD (uS:=br++[.ptr 0 0 0 0]) (aW:=[k,ab]) (Z:=[1,2]) (X:=[.box [.aR (.func g) [] [.ptr 1 0 0 0]],.box [.ptr 2 0 0 0]]) he ai av b0 cM iC ?_ ?_ ?_ (by simp[ba jY,ba nm]) (by simp[ba kM,ba nn]) (by simp[ba kN,ba np]) ?_ (by simp) ?_ (λ af aE ag aH=>?_)
 ·simp[A2,bz,bd,gR,reach,av,b0,cM,jy,bC,c7,eS,qM,ba gh,ba gr,ba iC,Chunk.refs,az,kj,ba jY,ba kM,ba kN,a',p1,ba nm,ba nn,ba np,ir,ba ir]
 ·rw[A1,(ga _).2 br gR];simp[cB,co,bt,az,kj,ba jY,ba kM,ba kN,a',p1,ba nm,ba nn,ba np,ir,ba ir]
 ·simp[iq,cB,co,bt,az,kj,ba jY,ba kM,ba kN,a',p1,ba nm,ba nn,ba np,ir,ba ir]
 ·intro back ak;have ao:=ak 1 ab rfl;have aI:=ak 2 p rfl;simp[iq,cB,co,az,a',ao,aI]
 ·intro fi cJ eg cK cW cd;obtain⟨a,b,aE,aH,rfl,rfl,aB,ak,cU,_⟩:=cd;have bG:=e8.2 (bF.1 aB).1;have bH:=e8.2 (bF.1 ak).1;simp[reach,jy,bC,bz,bd,aB,ak,bG,bH,ba cU,Chunk.refs]
 ·obtain⟨L,e,A,cJ,B,cK,T,rfl,i⟩:=h af aE ag aH;exact⟨A,cJ,B,cK,T,e,i⟩
def A3{f g:Nat}{br:List U}{r:U}{m b1:M}{H:aa}{k p A af B ag:Nat}(he:E.ext f=none)(gR:bz br=[])(ai:bd r=[])(h:fG [.box [.aR (.func g) [.ptr 1 0 0 0] []]] f (br++[.ptr 0 0 0 0]) m r b1)(aQ:uX H p m A af B ag)(az:H[k]?=some (.box [.aR (.func g) [.ptr p 0 0 0] []])):
  ∃ap,cn f (br++[.ptr k 0 0 0]) H r ap∧qI p b1 ap∧sK p H ap:=by
 obtain⟨c7,eS,qM,gh,gr⟩:=aQ.lt;obtain⟨av,⟨aE,b0⟩,⟨aH,cM⟩,iC⟩:=aQ;have kj:=e8.2 (bF.1 az).1;have jY:k≠p:=λ e=>by subst e;rw[az]at av;cases av
 have kM:k≠A:=λ e=>by subst e;rw[az]at b0;cases b0
 have kN:k≠B:=λ e=>by subst e;rw[az]at cM;cases cM
 refine yD (uS:=br++[.ptr 0 0 0 0]) (aW:=[k]) (Z:=[1]) (X:=[.box [.aR (.func g) [.ptr 1 0 0 0] []]]) he ai av b0 cM iC ?_ ?_ ?_ (by simp[ba jY]) (by simp[ba kM]) (by simp[ba kN]) ?_ (by simp) ?_ (λ af aE ag aH=>?_)
 ·simp[A2,bz,bd,gR,reach,av,b0,cM,jy,bC,c7,eS,qM,ba gh,ba gr,ba iC,Chunk.refs,az,kj,ba jY,ba kM,ba kN]
 ·rw[A1,(ga _).2 br gR];simp[cB,co,bt,az,kj,ba jY,ba kM,ba kN]
 ·simp[iq,cB,co,bt,az,kj,ba jY,ba kM,ba kN]
 ·intro back ak;have ao:=ak 1 p rfl;simp[iq,cB,co,az,ao]
 ·intro fi cJ eg cK cW cd;obtain⟨a,b,aE,aH,rfl,rfl,aB,ak,cU,_⟩:=cd;have bG:=e8.2 (bF.1 aB).1;have bH:=e8.2 (bF.1 ak).1;simp[reach,jy,bC,bz,bd,aB,ak,bG,bH,ba cU,Chunk.refs]
 ·obtain⟨L,e,A,cJ,B,cK,T,rfl,i⟩:=h af aE ag aH;exact⟨A,cJ,B,cK,T,e,i⟩
def aL9{f g:Nat}{br:List U}{r:U}{m b1:M}{H:aa}{k ab p A af B ag:Nat}(he:E.ext f=none)(gR:bz br=[])(ai:bd r=[])(h:fG [.box [.aR (.func g) [] [.ptr 1 0 0 0]],.box [.ptr 2 0 0 0]] f (br++[.ptr 0 0 0 0,.ptr 1 0 0 0]) m r b1)(aQ:uX H p m A af B ag)(az:H[k]?=some (.box [.aR (.func g) [] [.ptr ab 0 0 0]]))(a':H[ab]?=some (.box [.ptr p 0 0 0]))(ir:k≠ab):
  ∃ap,cn f (br++[.ptr k 0 0 0,.ptr ab 0 0 0]) H r ap∧qI p b1 ap∧sK p H ap:=by
 obtain⟨c7,eS,qM,gh,gr⟩:=aQ.lt;obtain⟨av,⟨aE,b0⟩,⟨aH,cM⟩,iC⟩:=aQ;have kj:=e8.2 (bF.1 az).1;have jY:k≠p:=λ e=>by subst e;rw[az]at av;cases av
 have kM:k≠A:=λ e=>by subst e;rw[az]at b0;cases b0
 have kN:k≠B:=λ e=>by subst e;rw[az]at cM;cases cM
 have p1:=e8.2 (bF.1 a').1;have nm:ab≠p:=λ e=>by subst e;rw[a']at av;cases av
 have nn:ab≠A:=λ e=>by subst e;rw[a']at b0;cases b0
 have np:ab≠B:=λ e=>by subst e;rw[a']at cM;cases cM
 refine yD (uS:=br++[.ptr 0 0 0 0,.ptr 1 0 0 0]) (aW:=[k,ab]) (Z:=[1,2]) (X:=[.box [.aR (.func g) [] [.ptr 1 0 0 0]],.box [.ptr 2 0 0 0]]) he ai av b0 cM iC ?_ ?_ ?_ (by simp[ba jY,ba nm]) (by simp[ba kM,ba nn]) (by simp[ba kN,ba np]) ?_ (by simp) ?_ (λ af aE ag aH=>?_)
 ·simp[A2,bz,bd,gR,reach,av,b0,cM,jy,bC,c7,eS,qM,ba gh,ba gr,ba iC,Chunk.refs,az,kj,ba jY,ba kM,ba kN,a',p1,ba nm,ba nn,ba np,ir,ba ir]
 ·rw[A1,(ga _).2 br gR];simp[cB,co,bt,az,kj,ba jY,ba kM,ba kN,a',p1,ba nm,ba nn,ba np,ir,ba ir]
 ·simp[iq,cB,co,bt,az,kj,ba jY,ba kM,ba kN,a',p1,ba nm,ba nn,ba np,ir,ba ir]
 ·intro back ak;have ao:=ak 1 ab rfl;have aI:=ak 2 p rfl;simp[iq,cB,co,az,a',ao,aI]
 ·intro fi cJ eg cK cW cd;obtain⟨a,b,aE,aH,rfl,rfl,aB,ak,cU,_⟩:=cd;have bG:=e8.2 (bF.1 aB).1;have bH:=e8.2 (bF.1 ak).1;simp[reach,jy,bC,bz,bd,aB,ak,bG,bH,ba cU,Chunk.refs]
 ·obtain⟨L,e,A,cJ,B,cK,T,rfl,i⟩:=h af aE ag aH;exact⟨A,cJ,B,cK,T,e,i⟩
def aL_{f g d:Nat}{br:List U}{r:U}{m b1:M}{H:aa}{k i ab p A af B ag:Nat}(he:E.ext f=none)(gR:bz br=[])(ai:bd r=[])(h:fG [.box [.aR (.func g) [] [.ptr 1 0 0 0,.ptr 2 0 0 0]],.box [.aR (.func d) [] [.ptr 2 0 0 0]],.box [.ptr 3 0 0 0]] f (br++[.ptr 0 0 0 0]) m r b1)(aQ:uX H p m A af B ag)(az:H[k]?=some (.box [.aR (.func g) [] [.ptr i 0 0 0,.ptr ab 0 0 0]]))(aA:H[i]?=some (.box [.aR (.func d) [] [.ptr ab 0 0 0]]))(a':H[ab]?=some (.box [.ptr p 0 0 0]))(rX:k≠i)(ir:k≠ab)(rY:i≠ab):
  ∃ap,cn f (br++[.ptr k 0 0 0]) H r ap∧qI p b1 ap∧sK p H ap:=by
 obtain⟨c7,eS,qM,gh,gr⟩:=aQ.lt;obtain⟨av,⟨aE,b0⟩,⟨aH,cM⟩,iC⟩:=aQ;have kj:=e8.2 (bF.1 az).1;have jY:k≠p:=λ e=>by subst e;rw[az]at av;cases av
 have kM:k≠A:=λ e=>by subst e;rw[az]at b0;cases b0
 have kN:k≠B:=λ e=>by subst e;rw[az]at cM;cases cM
 have A4:=e8.2 (bF.1 aA).1;have ip:i≠p:=λ e=>by subst e;rw[aA]at av;cases av
 have wT:i≠A:=λ e=>by subst e;rw[aA]at b0;cases b0
 have wU:i≠B:=λ e=>by subst e;rw[aA]at cM;cases cM
 have p1:=e8.2 (bF.1 a').1;have nm:ab≠p:=λ e=>by subst e;rw[a']at av;cases av
 have nn:ab≠A:=λ e=>by subst e;rw[a']at b0;cases b0
 have np:ab≠B:=λ e=>by subst e;rw[a']at cM;cases cM
 refine yD (uS:=br++[.ptr 0 0 0 0]) (aW:=[k,i,ab]) (Z:=[1,2,3]) (X:=[.box [.aR (.func g) [] [.ptr 1 0 0 0,.ptr 2 0 0 0]],.box [.aR (.func d) [] [.ptr 2 0 0 0]],.box [.ptr 3 0 0 0]]) he ai av b0 cM iC ?_ ?_ ?_ (by simp[ba jY,ba ip,ba nm]) (by simp[ba kM,ba wT,ba nn]) (by simp[ba kN,ba wU,ba np]) ?_ (by simp) ?_ (λ af aE ag aH=>?_)
 ·simp[A2,bz,bd,gR,reach,av,b0,cM,jy,bC,c7,eS,qM,ba gh,ba gr,ba iC,Chunk.refs,az,kj,ba jY,ba kM,ba kN,aA,A4,ba ip,ba wT,ba wU,a',p1,ba nm,ba nn,ba np,rX,ba rX,ir,ba ir,rY,ba rY]
 ·rw[A1,(ga _).2 br gR];simp[cB,co,bt,az,kj,ba jY,ba kM,ba kN,aA,A4,ba ip,ba wT,ba wU,a',p1,ba nm,ba nn,ba np,rX,ba rX,ir,ba ir,rY,ba rY]
 ·simp[iq,cB,co,bt,az,kj,ba jY,ba kM,ba kN,aA,A4,ba ip,ba wT,ba wU,a',p1,ba nm,ba nn,ba np,rX,ba rX,ir,ba ir,rY,ba rY]
 ·intro back ak;have ao:=ak 1 i rfl;have aI:=ak 2 ab rfl;have bE:=ak 3 p rfl;simp[iq,cB,co,az,aA,a',ao,aI,bE]
 ·intro fi cJ eg cK cW cd;obtain⟨a,b,aE,aH,rfl,rfl,aB,ak,cU,_⟩:=cd;have bG:=e8.2 (bF.1 aB).1;have bH:=e8.2 (bF.1 ak).1;simp[reach,jy,bC,bz,bd,aB,ak,bG,bH,ba cU,Chunk.refs]
 ·obtain⟨L,e,A,cJ,B,cK,T,rfl,i⟩:=h af aE ag aH;exact⟨A,cJ,B,cK,T,e,i⟩
def aL'{f g d:Nat}{br:List U}{r:U}{m b1:M}{H:aa}{k i ab p A af B ag:Nat}(he:E.ext f=none)(gR:bz br=[])(ai:bd r=[])(h:fG [.box [.aR (.func g) [] [.ptr 1 0 0 0]],.box [.aR (.func d) [] [.ptr 2 0 0 0]],.box [.ptr 3 0 0 0]] f (br++[.ptr 0 0 0 0]) m r b1)(aQ:uX H p m A af B ag)(az:H[k]?=some (.box [.aR (.func g) [] [.ptr i 0 0 0]]))(aA:H[i]?=some (.box [.aR (.func d) [] [.ptr ab 0 0 0]]))(a':H[ab]?=some (.box [.ptr p 0 0 0]))(rX:k≠i)(ir:k≠ab)(rY:i≠ab):
  ∃ap,cn f (br++[.ptr k 0 0 0]) H r ap∧qI p b1 ap∧sK p H ap:=by
 obtain⟨c7,eS,qM,gh,gr⟩:=aQ.lt;obtain⟨av,⟨aE,b0⟩,⟨aH,cM⟩,iC⟩:=aQ;have kj:=e8.2 (bF.1 az).1;have jY:k≠p:=λ e=>by subst e;rw[az]at av;cases av
 have kM:k≠A:=λ e=>by subst e;rw[az]at b0;cases b0
 have kN:k≠B:=λ e=>by subst e;rw[az]at cM;cases cM
 have A4:=e8.2 (bF.1 aA).1;have ip:i≠p:=λ e=>by subst e;rw[aA]at av;cases av
 have wT:i≠A:=λ e=>by subst e;rw[aA]at b0;cases b0
 have wU:i≠B:=λ e=>by subst e;rw[aA]at cM;cases cM
 have p1:=e8.2 (bF.1 a').1;have nm:ab≠p:=λ e=>by subst e;rw[a']at av;cases av
 have nn:ab≠A:=λ e=>by subst e;rw[a']at b0;cases b0
 have np:ab≠B:=λ e=>by subst e;rw[a']at cM;cases cM
 refine yD (uS:=br++[.ptr 0 0 0 0]) (aW:=[k,i,ab]) (Z:=[1,2,3]) (X:=[.box [.aR (.func g) [] [.ptr 1 0 0 0]],.box [.aR (.func d) [] [.ptr 2 0 0 0]],.box [.ptr 3 0 0 0]]) he ai av b0 cM iC ?_ ?_ ?_ (by simp[ba jY,ba ip,ba nm]) (by simp[ba kM,ba wT,ba nn]) (by simp[ba kN,ba wU,ba np]) ?_ (by simp) ?_ (λ af aE ag aH=>?_)
 ·simp[A2,bz,bd,gR,reach,av,b0,cM,jy,bC,c7,eS,qM,ba gh,ba gr,ba iC,Chunk.refs,az,kj,ba jY,ba kM,ba kN,aA,A4,ba ip,ba wT,ba wU,a',p1,ba nm,ba nn,ba np,rX,ba rX,ir,ba ir,rY,ba rY]
 ·rw[A1,(ga _).2 br gR];simp[cB,co,bt,az,kj,ba jY,ba kM,ba kN,aA,A4,ba ip,ba wT,ba wU,a',p1,ba nm,ba nn,ba np,rX,ba rX,ir,ba ir,rY,ba rY]
 ·simp[iq,cB,co,bt,az,kj,ba jY,ba kM,ba kN,aA,A4,ba ip,ba wT,ba wU,a',p1,ba nm,ba nn,ba np,rX,ba rX,ir,ba ir,rY,ba rY]
 ·intro back ak;have ao:=ak 1 i rfl;have aI:=ak 2 ab rfl;have bE:=ak 3 p rfl;simp[iq,cB,co,az,aA,a',ao,aI,bE]
 ·intro fi cJ eg cK cW cd;obtain⟨a,b,aE,aH,rfl,rfl,aB,ak,cU,_⟩:=cd;have bG:=e8.2 (bF.1 aB).1;have bH:=e8.2 (bF.1 ak).1;simp[reach,jy,bC,bz,bd,aB,ak,bG,bH,ba cU,Chunk.refs]
 ·obtain⟨L,e,A,cJ,B,cK,T,rfl,i⟩:=h af aE ag aH;exact⟨A,cJ,B,cK,T,e,i⟩
def D4{f:Nat}{br:List U}{m b1:M}{r:U}(la:b1.G=m.G)(qE:b1.O=m.O)(h:∀(af ag aE aH:Nat) (x y:List bS),∃L,b4 E f (.ptr 0 0 0 0::br) [.box (aT m 1 af 2 ag),.ax 5 af aE x,.ax 5 ag aH y]=some (r,.box (aT b1 1 af 2 ag)::.ax 5 af aE x::.ax 5 ag aH y::L)):hr f br m r b1:=λ af aE ag aH=>by obtain⟨L,e⟩:=h af ag aE aH (aX m.G) (aX m.O);refine⟨_,e,?_⟩;rw[←la,←qE];exact eb.dF
def Sq(m:M):hr 91 [] m (.be []) (nj m):=D4 rfl rfl λ _ _ _ _ _ _=>agu
def Sr{m:M}(h:bk m)(n:Int):hr 159 [.i (.v (.int .i64 (n)))] m (.be []) {m with aG:=iB m.aG n (cj m)}:=D4 rfl rfl λ _ _ _ _ _ _=>aKl h.cj n
def ahz{m:M}(h:bk m)(n:Int):hr 99 [.i (.v (.int .i64 (n)))] m (.be []) {m with aG:=ni m.aG n (cj m)}:=D4 rfl rfl λ _ _ _ _ _ _=>agw h.cj n
def aMa{m:M}(h:bk m)(r c:Int):hr 147 [.i (.v (.int .i64 (r))),.i (.v (.int .i64 (c)))] m (.be []) {m with aG:=⟨toR r (cj m),k9 c (cj m),false⟩}:=D4 rfl rfl λ _ _ _ _ _ _=>RG h.cj r c
def aMb(m:M):hr 103 [] m (.be []) (D0 m):=D4 rfl rfl λ _ _ _ _ _ _=>agy
def aMc(m:M):hr 104 [] m (.be []) (yO m):=D4 rfl rfl λ _ _ _ _ _ _=>agA
def pc{f:Nat}{br:List U}{r:U}{m b1:M}(he:E.ext f=none)(gR:bz br=[])(ai:bd r=[])(h:hr f br m r b1){x:Chunk}(al:h3 x){A af B ag:Nat}{T:aa}(cd:hq 2 m A af B ag T):
  ∃bY cJ bV cK cW,cn f (.ptr 1 0 0 0::br) (x::.box (aT m A af B ag)::T) r (x::.box (aT b1 (bY+2) cJ (bV+2) cK)::cW)∧hq 2 b1 (bY+2) cJ (bV+2) cK cW:=by
 have tC:=cd;obtain⟨a,b,aE,aH,rfl,rfl,aB,ak,cU,_⟩:=cd;obtain⟨ap,e,j,J⟩:=Hm (H:=x::.box (aT m (a+2) af (b+2) ag)::T) (p:=1) (A:=a+2) (B:=b+2) (af:=af) (ag:=ag) he gR ai h ⟨rfl,⟨aE,aB⟩,⟨aH,ak⟩,R⟩;obtain⟨fi,cJ,eg,cK,cW,rfl,i⟩:=Hl (P:=[x]) (λ y aZ=>by rw[yP.1 aZ];exact al) tC j J;obtain⟨bY,bV,o9,nN,rfl,rfl,i⟩:=i;exact⟨bY,cJ,bV,cK,cW,e,bY,bV,o9,nN,rfl,rfl,i⟩
def aMd{m:M}{a af b ag aE aH:Nat}{x y:Chunk}{T:aa}(j:(x::y::T)[a]?=some (.ax 5 af aE (aX m.G)))(J:(x::y::T)[b]?=some (.ax 5 ag aH (aX m.O)))(cU:a≠b)(al:x.refs=[])(aZ:y.refs=[]):hq 2 m (a+2) af (b+2) ag (x::y::T):=
 ⟨a,b,aE,aH,rfl,rfl,j,J,cU,by simp,λ z h=>by cases h;exact al,λ z h=>by cases h;exact aZ⟩
def nQ{m:M}{af ag aE aH:Nat}{T:aa}:hq 2 m 2 af 3 ag (.ax 5 af aE (aX m.G)::.ax 5 ag aH (aX m.O)::T):=aMd (a:=0) (b:=1) rfl rfl (by decide) rfl rfl
def mM{n:Nat}{x:Chunk}{m:M}{A af B ag:Nat}{T:aa}(cd:hq 2 m A af B ag T):Hk 2 m (Chunk.box (ew n (x::.box (aT m A af B ag)::T) (aT m A af B ag))::ep n (x::.box (aT m A af B ag)::T) 2 T):=So (λ k=>rfl) cd
def aMe{m:M}(hm:bk m)(n:Int)(aF:1≤n∧n≤100000):fG [.box [.ptr 1 0 0 0]] 167 [.i (.v (.int .i64 (n))),.ptr 0 0 0 0] m (.be []) ({m with aG:=ni m.aG (0-n) (cj m)}):=by intro af aE ag aH;have hw:=hm.w;have e9:=hm.aG.2.1;obtain⟨bY,cJ,bV,cK,cW,ao,cC⟩:=pc rfl rfl rfl (ahz hm (0-n)) (x:=.box [.ptr 1 0 0 0]) trivial (nQ (m:=m) (af:=af) (ag:=ag) (aE:=aE) (aH:=aH) (T:=[]));simp only[cX,cq,c2,ck];rw[bp ael];simp(disch:=omega)only[au,simprocAttr,aFv,bM,bT,bC,ao];exact⟨_,rfl,mM cC⟩
def ahA{m:M}(hm:bk m)(n:Int)(aF:1≤n∧n≤100000):fG [.box [.ptr 1 0 0 0]] 158 [.i (.v (.int .i64 (n))),.ptr 0 0 0 0] m (.be []) ({m with aG:=iB m.aG (0-n) (cj m)}):=by intro af aE ag aH;have hw:=hm.w;have e9:=hm.aG.2.1;obtain⟨bY,cJ,bV,cK,cW,ao,cC⟩:=pc rfl rfl rfl (Sr hm (0-n)) (x:=.box [.ptr 1 0 0 0]) trivial (nQ (m:=m) (af:=af) (ag:=ag) (aE:=aE) (aH:=aH) (T:=[]));simp only[cX,cq,c2,ck];rw[bp aee];simp(disch:=omega)only[au,simprocAttr,aFo,bM,bT,bC,ao];exact⟨_,rfl,mM cC⟩
def aMf{m:M}(hm:bk m)(n:Int)(aF:1≤n∧n≤100000):fG [.box [.ptr 1 0 0 0]] 163 [.i (.v (.int .i64 (n))),.ptr 0 0 0 0] m (.be []) (sL m true n.toNat):=by intro af aE ag aH;have hw:=hm.w;have e9:=hm.aG.2.1;obtain⟨k,rfl⟩:=jk (show 0≤n by omega);obtain⟨bY,cJ,bV,cK,cW,ao,cC⟩:=pc rfl rfl rfl (aKM hm k R) (x:=.box [.ptr 1 0 0 0]) trivial (nQ (m:=m) (af:=af) (ag:=ag) (aE:=aE) (aH:=aH) (T:=[]));simp only[cX,cq,c2,ck];rw[bp aeh];simp(disch:=omega)only[au,simprocAttr,aFs,bM,bT,bC,ao];exact⟨_,rfl,mM cC⟩
def aMg{m:M}(hm:bk m)(n:Int)(aF:1≤n∧n≤100000):fG [.box [.ptr 1 0 0 0]] 165 [.i (.v (.int .i64 (n))),.ptr 0 0 0 0] m (.be []) (sL m false n.toNat):=by intro af aE ag aH;have hw:=hm.w;have e9:=hm.aG.2.1;obtain⟨k,rfl⟩:=jk (show 0≤n by omega);obtain⟨bY,cJ,bV,cK,cW,ao,cC⟩:=pc rfl rfl rfl (aKN hm k R) (x:=.box [.ptr 1 0 0 0]) trivial (nQ (m:=m) (af:=af) (ag:=ag) (aE:=aE) (aH:=aH) (T:=[]));simp only[cX,cq,c2,ck];rw[bp aej];simp(disch:=omega)only[au,simprocAttr,aFt,bM,bT,bC,ao];exact⟨_,rfl,mM cC⟩
def aMh{m:M}(hm:bk m)(n:Int)(aF:1≤n∧n≤100000):fG [.box [.ptr 1 0 0 0]] 170 [.i (.v (.int .i64 (n))),.ptr 0 0 0 0] m (.be []) ({m with aG:=⟨toR n (cj m),k9 (m.aG.c+1) (cj m),false⟩}):=by intro af aE ag aH;have hw:=hm.w;have e9:=hm.aG.2.1;obtain⟨bY,cJ,bV,cK,cW,ao,cC⟩:=pc rfl rfl rfl (aMa hm n (m.aG.c+1)) (x:=.box [.ptr 1 0 0 0]) trivial (nQ (m:=m) (af:=af) (ag:=ag) (aE:=aE) (aH:=aH) (T:=[]));simp only[cX,cq,c2,ck];rw[bp aeo];simp(disch:=omega)only[au,simprocAttr,aFy,bM,bT,bC,ao];exact⟨_,rfl,mM cC⟩
def aMi{m:M}(hm:bk m)(n:Int)(aF:1≤n∧n≤100000):fG [.box [.ptr 1 0 0 0]] 171 [.i (.v (.int .i64 (n))),.ptr 0 0 0 0] m (.be []) (nP ou (min n.toNat m.w) m):=by intro af aE ag aH;have hw:=hm.w;have e9:=hm.aG.2.1;obtain⟨k,rfl⟩:=jk (show 0≤n by omega);obtain⟨bY,cJ,bV,cK,cW,ao,cC⟩:=pc rfl rfl rfl (aKZ hm k R) (x:=.box [.ptr 1 0 0 0]) trivial (nQ (m:=m) (af:=af) (ag:=ag) (aE:=aE) (aH:=aH) (T:=[]));simp only[cX,cq,c2,ck];rw[bp aep];simp(disch:=omega)only[au,simprocAttr,aFz,bM,bT,bC,ao];exact⟨_,rfl,mM cC⟩
def aMj{m:M}(hm:bk m)(n:Int)(aF:1≤n∧n≤100000):fG [.box [.ptr 1 0 0 0]] 173 [.i (.v (.int .i64 (n))),.ptr 0 0 0 0] m (.be []) (nP qH (min n.toNat m.w) m):=by intro af aE ag aH;have hw:=hm.w;have e9:=hm.aG.2.1;obtain⟨k,rfl⟩:=jk (show 0≤n by omega);obtain⟨bY,cJ,bV,cK,cW,ao,cC⟩:=pc rfl rfl rfl (aK0 hm k R) (x:=.box [.ptr 1 0 0 0]) trivial (nQ (m:=m) (af:=af) (ag:=ag) (aE:=aE) (aH:=aH) (T:=[]));simp only[cX,cq,c2,ck];rw[bp aeq];simp(disch:=omega)only[au,simprocAttr,aFA,bM,bT,bC,ao];exact⟨_,rfl,mM cC⟩
def aMk{m:M}(hm:bk m)(n:Int)(aF:1≤n∧n≤100000):fG [.box [.ptr 1 0 0 0]] 178 [.i (.v (.int .i64 (n))),.ptr 0 0 0 0] m (.be []) (k' m m.cz n true):=by intro af aE ag aH;have hw:=hm.w;have e9:=hm.aG.2.1;obtain⟨bY,cJ,bV,cK,cW,ao,cC⟩:=pc rfl rfl rfl (G2 hm m.cz n true ⟨hm.cZ.1,hm.cZ.2.1⟩) (x:=.box [.ptr 1 0 0 0]) trivial (nQ (m:=m) (af:=af) (ag:=ag) (aE:=aE) (aH:=aH) (T:=[]));simp only[cX,cq,c2,ck];rw[bp aes];simp(disch:=omega)only[au,simprocAttr,aFC,bM,bT,bC,ao];exact⟨_,rfl,mM cC⟩
def aMl{m:M}(hm:bk m)(n:Int)(aF:1≤n∧n≤100000):fG [.box [.ptr 1 0 0 0]] 179 [.i (.v (.int .i64 (n))),.ptr 0 0 0 0] m (.be []) (k' m m.cz (0-n) false):=by intro af aE ag aH;have hw:=hm.w;have e9:=hm.aG.2.1;obtain⟨bY,cJ,bV,cK,cW,ao,cC⟩:=pc rfl rfl rfl (G2 hm m.cz (0-n) false ⟨hm.cZ.1,hm.cZ.2.1⟩) (x:=.box [.ptr 1 0 0 0]) trivial (nQ (m:=m) (af:=af) (ag:=ag) (aE:=aE) (aH:=aH) (T:=[]));simp only[cX,cq,c2,ck];rw[bp aet];simp(disch:=omega)only[au,simprocAttr,aFD,bM,bT,bC,ao];exact⟨_,rfl,mM cC⟩
def ahB{f:Nat}{br:List U}{r:U}{m b1:M}{x:Chunk}{X Y:List bS}{af ag aE aH:Nat}(he:E.ext f=none)(aB:bz br=[])(ai:bd r=[])
  (h:∃L,b4 E f (.ptr 0 0 0 0::br) [.box (aT m 1 af 2 ag),.ax 5 af aE X,.ax 5 ag aH Y]=some (r,.box (aT b1 1 af 2 ag)::.ax 5 af aE X::.ax 5 ag aH Y::L)):
  cn f (.ptr 1 0 0 0::br) [x,.box (aT m 2 af 3 ag),.ax 5 af aE X,.ax 5 ag aH Y] r [x,.box (aT b1 2 af 3 ag),.ax 5 af aE X,.ax 5 ag aH Y]:=by
 obtain⟨L,h⟩:=h;have wt:∀aU,cB aU br=br:=λ aU=>(ga aU).2 br aB
 have ia:∀aU,co aU r=r:=λ aU=>(ga aU).1 r ai
 have ol:=λ aU=>k7 (show(Chunk.ax 5 af aE X).refs=[]from rfl) aU
 have yC:=λ aU=>k7 (show(Chunk.ax 5 ag aH Y).refs=[]from rfl) aU
 have dc:reach [x,.box (aT m 2 af 3 ag),.ax 5 af aE X,.ax 5 ag aH Y] 64 [1] []=[1,2,3]:=by simp[reach,jy,bC,Chunk.refs]
 have ao:=jx (bt [1,2,3]) m 2 af 3 ag 1 2 (by simp[bt]) (by simp[bt]);have aI:=jx (dm [1,2,3] 4 []) b1 1 af 2 ag 2 3 rfl rfl;have AK:reach (.box (aT b1 1 af 2 ag)::.ax 5 af aE X::.ax 5 ag aH Y::L) 64 [1,2] []=[1,2]:=by simp[reach,Chunk.refs]
 have nC:bt [1,2,3] 1=some 0:=by simp[bt]
 unfold cn dj;simp only[e0,he,bz,bd,aB,c_,dc];simp[cB,co,wt,nC,iq,ol,yC,ao,h,jy,bC,ai,Chunk.refs,AK,aI,ia,ef]
def A5(m:M)(n:Int):M:={m with aG:=uR ⟨m.aG.r,n-1,false⟩ (cj m)}
def uY(m:M)(n:Int):M:=if m.cz≤m.aG.r∧m.aG.r<m.b8 then nj (k' m m.aG.r n false)else m
def L8(m:M)(n:Int):M:=nj {m with aG:=iB m.aG n (cj m)}
def L9(m:M)(n:Int):M:=yJ m m.aG.c.toNat (min (m.aG.c+n) m.w).toNat
def aMm{m:M}(hm:bk m)(n:Int)(aF:0≤n):hr 181 [.i (.v (.int .i64 (m.aG.c))),.i (.v (.int .i64 (min (m.aG.c+n) m.w)))] m (.be []) (L9 m n):=by have ah:=hm.aG.2.1;have e:=LP hm m.aG.c.toNat (min (m.aG.c+n) m.w).toNat R R;rw[Int.toNat_of_nonneg ah.1,Int.toNat_of_nonneg R]at e;exact e
def aMn{m:M}(hm:bk m)(n:Int)(aF:1≤n∧n≤100000):fG [.box [.ptr 1 0 0 0]] 161 [.i (.v (.int .i64 (n))),.ptr 0 0 0 0] m (.be []) (A5 m n):=by
 intro af aE ag aH;have hw:=hm.w;have e9:=hm.aG.2.1;have c8:=λ H=>RD ⟨m.aG.r,n-1,false⟩ hm.cj H
 simp only[cj]at c8;have ao:=ahB (x:=.box [.ptr 1 0 0 0]) rfl rfl rfl (agv (m:=m) (af:=af) (ag:=ag) (aE:=aE) (aH:=aH) (x:=aX m.G) (y:=aX m.O));unfold A5;simp only[cX,cq,c2,ck];rw[bp aeg];simp(disch:=omega)only[au,simprocAttr,aFr,bM,bT,bC,ao,c8,cj];exact⟨_,rfl,_,_,_,_,_,rfl,nQ⟩
def ahC{m:M}(hm:bk m)(n:Int)(aF:-100000≤n∧n≤100000):fG [.box [.ptr 1 0 0 0]] 162 [.i (.v (.int .i64 (n))),.ptr 0 0 0 0] m (.be []) (uY m n):=by
 intro af aE ag aH;have hw:=hm.w;have e9:=hm.aG.2.1;unfold uY;have aR_:=hm.cZ;by_cases ca:m.cz≤m.aG.r
 ·by_cases cc:m.aG.r<m.b8
  ·rw[if_pos ⟨ca,cc⟩];obtain⟨bY,cJ,bV,cK,cW,ao,cC⟩:=pc rfl rfl rfl (G2 hm m.aG.r n false ⟨R,cc⟩) (x:=.box [.ptr 1 0 0 0]) trivial (nQ (m:=m) (af:=af) (ag:=ag) (aE:=aE) (aH:=aH) (T:=[]));obtain⟨a2,yN,dE,wS,gT,aI,i2⟩:=pc rfl rfl rfl (Sq (k' m m.aG.r n false)) (x:=.box [.ptr 1 0 0 0]) trivial cC;simp only[cX,cq,c2,ck];rw[bp KK];simp(disch:=omega)only[au,simprocAttr,Qv,bM,bT,bC,ao,aI,ca,cc];exact⟨_,rfl,mM i2⟩
  ·rw[if_neg R];simp only[cX,cq,c2,ck];rw[bp KK];simp(disch:=omega)only[au,simprocAttr,Qv,bM,bT,bC,ca,cc];exact⟨_,rfl,_,_,_,_,_,rfl,nQ⟩
 ·rw[if_neg R];simp only[cX,cq,c2,ck];rw[bp KK];simp(disch:=omega)only[au,simprocAttr,Qv,bM,bT,bC,ca];exact⟨_,rfl,_,_,_,_,_,rfl,nQ⟩
def aMo{m:M}(hm:bk m)(n:Int)(aF:1≤n∧n≤100000):fG [.box [.ptr 1 0 0 0]] 169 [.i (.v (.int .i64 (n))),.ptr 0 0 0 0] m (.be []) (L8 m n):=by intro af aE ag aH;have hw:=hm.w;have e9:=hm.aG.2.1;unfold L8;obtain⟨bY,cJ,bV,cK,cW,ao,cC⟩:=pc rfl rfl rfl (Sr hm n) (x:=.box [.ptr 1 0 0 0]) trivial (nQ (m:=m) (af:=af) (ag:=ag) (aE:=aE) (aH:=aH) (T:=[]));obtain⟨a2,yN,dE,wS,gT,aI,i2⟩:=pc rfl rfl rfl (Sq {m with aG:=iB m.aG n (cj m)}) (x:=.box [.ptr 1 0 0 0]) trivial cC;simp only[cX,cq,c2,ck];rw[bp aen];simp(disch:=omega)only[au,simprocAttr,aFx,bM,bT,bC,ao,aI];exact⟨_,rfl,mM i2⟩
def aMp{m:M}(hm:bk m)(n:Int)(aF:1≤n∧n≤100000):fG [.box [.ptr 1 0 0 0]] 180 [.i (.v (.int .i64 (n))),.ptr 0 0 0 0] m (.be []) (L9 m n):=by intro af aE ag aH;have hw:=hm.w;have e9:=hm.aG.2.1;obtain⟨bY,cJ,bV,cK,cW,ao,cC⟩:=pc rfl rfl rfl (aMm hm n R) (x:=.box [.ptr 1 0 0 0]) trivial (nQ (m:=m) (af:=af) (ag:=ag) (aE:=aE) (aH:=aH) (T:=[]));simp only[cX,cq,c2,ck];rw[bp aeu];simp(disch:=omega)only[au,simprocAttr,aFE,bM,bT,bC,ao];exact⟨_,rfl,mM cC⟩
def aMq{m:M}(hm:bk m)(l:List Int):fG [.box [.ptr 1 0 0 0]] 185 [.i (.ae 1 (b3 l) false),.ptr 0 0 0 0] m (.be []) (D0 m):=by intro af aE ag aH;have hw:=hm.w;have e9:=hm.aG.2.1;obtain⟨bY,cJ,bV,cK,cW,ao,cC⟩:=pc rfl rfl rfl (aMb m) (x:=.box [.ptr 1 0 0 0]) trivial (nQ (m:=m) (af:=af) (ag:=ag) (aE:=aE) (aH:=aH) (T:=[]));simp only[cX,cq,c2,ck];rw[bp Qz];simp(disch:=omega)only[au,simprocAttr,aFG,bM,bT,bC,ao];exact⟨_,rfl,mM cC⟩
def aMr{m:M}(hm:bk m)(l:List Int):fG [.box [.ptr 1 0 0 0]] 186 [.i (.ae 1 (b3 l) false),.ptr 0 0 0 0] m (.be []) (yO m):=by intro af aE ag aH;have hw:=hm.w;have e9:=hm.aG.2.1;obtain⟨bY,cJ,bV,cK,cW,ao,cC⟩:=pc rfl rfl rfl (aMc m) (x:=.box [.ptr 1 0 0 0]) trivial (nQ (m:=m) (af:=af) (ag:=ag) (aE:=aE) (aH:=aH) (T:=[]));simp only[cX,cq,c2,ck];rw[bp QA];simp(disch:=omega)only[au,simprocAttr,aFH,bM,bT,bC,ao];exact⟨_,rfl,mM cC⟩
def A6{P:aa}{f k:Nat}{br:List U}{r:U}{m b1:M}(az:k=P.length)(lZ:∀x∈P,h3 x)(he:E.ext f=none)(gR:bz br=[])(ai:bd r=[])(h:hr f br m r b1){A af B ag:Nat}{T:aa}(cd:hq (P.length+1) m A af B ag T):
  ∃fi cJ eg cK cW,cn f (.ptr k 0 0 0::br) (P++.box (aT m A af B ag)::T) r (P++.box (aT b1 fi cJ eg cK)::cW)∧hq (P.length+1) b1 fi cJ eg cK cW:=by
 subst az;have tC:=cd;obtain⟨a,b,aE,aH,rfl,rfl,aB,ak,cU,_⟩:=cd;have du:∀k,(P++.box (aT m (a+(P.length+1)) af (b+(P.length+1)) ag)::T)[k+(P.length+1)]?=T[k]?:=λ k=>by rw[ha R,show k+(P.length+1)-P.length=k+1 by omega,jM]
 obtain⟨ap,e,j,J⟩:=Hm (H:=P++.box (aT m (a+(P.length+1)) af (b+(P.length+1)) ag)::T) (p:=P.length) (af:=af) (ag:=ag) he gR ai h ⟨by rw[ha (cQ _),qk];rfl,⟨aE,(du a).trans aB⟩,⟨aH,(du b).trans ak⟩,R⟩;obtain⟨fi,cJ,eg,cK,cW,rfl,i⟩:=Hl lZ tC j J;exact⟨fi,cJ,eg,cK,cW,e,i⟩
def p2{P:aa}{f q:Nat}{br:List U}{r:U}{m b1:M}(bn:P[q]?=some (.box [.ptr P.length 0 0 0]))(lZ:∀x∈P,h3 x)(he:E.ext f=none)(gR:bz br=[])(ai:bd r=[])(h:fG [.box [.ptr 1 0 0 0]] f (br++[.ptr 0 0 0 0]) m r b1){A af B ag:Nat}{T:aa}(cd:hq (P.length+1) m A af B ag T):
  ∃fi cJ eg cK cW,cn f (br++[.ptr q 0 0 0]) (P++.box (aT m A af B ag)::T) r (P++.box (aT b1 fi cJ eg cK)::cW)∧hq (P.length+1) b1 fi cJ eg cK cW:=by
 have tC:=cd;obtain⟨a,b,aE,aH,rfl,rfl,aB,ak,cU,_⟩:=cd;have du:∀k,(P++.box (aT m (a+(P.length+1)) af (b+(P.length+1)) ag)::T)[k+(P.length+1)]?=T[k]?:=λ k=>by rw[ha R,show k+(P.length+1)-P.length=k+1 by omega,jM]
 obtain⟨ap,e,j,J⟩:=Hn (H:=P++.box (aT m (a+(P.length+1)) af (b+(P.length+1)) ag)::T) (q:=q) (p:=P.length) (af:=af) (ag:=ag) he gR ai h ⟨by rw[ha (cQ _),qk];rfl,⟨aE,(du a).trans aB⟩,⟨aH,(du b).trans ak⟩,R⟩ (by rw[en (bF.1 bn).1];exact bn);obtain⟨fi,cJ,eg,cK,cW,rfl,i⟩:=Hl lZ tC j J;exact⟨fi,cJ,eg,cK,cW,e,i⟩
def lb(aj:Nat){m:M}{af ag aE aH:Nat}{T:aa}:hq aj m (0+aj) af (1+aj) ag (.ax 5 af aE (aX m.G)::.ax 5 ag aH (aX m.O)::T):=
 ⟨0,1,aE,aH,rfl,rfl,rfl,rfl,by decide,by simp,λ z h=>by cases h;rfl,λ z h=>by cases h;rfl⟩
def p3{n:Nat}{x y:Chunk}{m:M}{A af B ag:Nat}{T:aa}(cd:hq 3 m A af B ag T):Hk 3 m (Chunk.box (ew n (x::y::.box (aT m A af B ag)::T) (aT m A af B ag))::ep n (x::y::.box (aT m A af B ag)::T) 3 T):=So (λ k=>rfl) cd
def L_(m:M)(n:Int):M:=nj {m with aG:=iB m.aG (0-n) (cj m)}
def aMs{m:M}(hm:bk m)(n:Int)(aF:1≤n∧n≤100000):fG [.box [.aR (.func 158) [] [.ptr 1 0 0 0]],.box [.ptr 2 0 0 0]] 168 [.i (.v (.int .i64 (n))),.ptr 0 0 0 0,.ptr 1 0 0 0] m (.be []) (L_ m n):=by intro af aE ag aH;obtain⟨lF,kl,lG,km,gP,ao,cC⟩:=p2 (P:=[.box [.aR (.func 158) [] [.ptr 1 0 0 0]],.box [.ptr 2 0 0 0]]) (q:=1) (br:=[.i (.v (.int .i64 (n)))]) rfl (by simp[h3]) rfl rfl rfl (ahA hm n aF) (lb 3 (m:=m) (af:=af) (ag:=ag) (aE:=aE) (aH:=aH) (T:=[]));obtain⟨yE,yN,yF,wS,gT,aI,i2⟩:=A6 (P:=[.box [.aR (.func 158) [] [.ptr 1 0 0 0]],.box [.ptr 2 0 0 0]]) (k:=2) rfl (by simp[h3]) rfl rfl rfl (Sq {m with aG:=iB m.aG (0-n) (cj m)}) cC;unfold L_;simp only[cX,cq,c2,ck];simp only[cX,cq,c2,ck]at ao cC;simp only[cX,cq,c2,ck]at aI i2;rw[bp aem];simp(disch:=omega)only[au,simprocAttr,aFw,bM,bT,bC,ao,aI,P9];exact⟨_,rfl,p3 i2⟩
def aMt{m:M}(hm:bk m)(n:Int)(aF:1≤n∧n≤100000):fG [.box [.aR (.func 162) [] [.ptr 1 0 0 0]],.box [.ptr 2 0 0 0]] 177 [.i (.v (.int .i64 (n))),.ptr 0 0 0 0] m (.be []) (uY m (0-n)):=by intro af aE ag aH;obtain⟨lF,kl,lG,km,gP,ao,cC⟩:=p2 (P:=[.box [.aR (.func 162) [] [.ptr 1 0 0 0]],.box [.ptr 2 0 0 0]]) (q:=1) (br:=[.i (.v (.int .i64 (0-n)))]) rfl (by simp[h3]) rfl rfl rfl (ahC hm (0-n) R) (lb 3 (m:=m) (af:=af) (ag:=ag) (aE:=aE) (aH:=aH) (T:=[]));simp only[cX,cq,c2,ck];simp only[cX,cq,c2,ck]at ao cC;rw[bp aer];simp(disch:=omega)only[au,simprocAttr,aFB,bM,bT,bC,ao,P_];exact⟨_,rfl,p3 cC⟩
def ahD{m:M}(hm:bk m)(l:List Int)(an:l.length<100000)(aF:1≤bW l 0 1∧bW l 0 1≤100000):fG [.box [.aR (.func 158) [] [.ptr 1 0 0 0]],.box [.ptr 2 0 0 0]] 154 [.i (.ae 1 (b3 l) false),.ptr 0 0 0 0] m (.be []) ({m with aG:=iB m.aG (0-(bW l 0 1)) (cj m)}):=by
 intro af aE ag aH;have c8:=λ H=>kk l 0 1 an H
 obtain⟨lF,kl,lG,km,gP,ao,cC⟩:=p2 (P:=[.box [.aR (.func 158) [] [.ptr 1 0 0 0]],.box [.ptr 2 0 0 0]]) (q:=1) (br:=[.i (.v (.int .i64 (bW l 0 1)))]) rfl (by simp[h3]) rfl rfl rfl (ahA hm (bW l 0 1) aF) (lb 3 (m:=m) (af:=af) (ag:=ag) (aE:=aE) (aH:=aH) (T:=[]));simp only[cX,cq,c2,ck];simp only[cX,cq,c2,ck]at ao cC;rw[bp nh];simp(disch:=omega)only[au,simprocAttr,oh,bB,bM,bT,bC,c8,ao,P9];exact⟨_,rfl,p3 cC⟩
def ahE{m:M}(hm:bk m)(l:List Int)(an:l.length<100000)(aF:1≤bW l 0 1∧bW l 0 1≤100000):fG [.box [.aR (.func 161) [] [.ptr 1 0 0 0]],.box [.ptr 2 0 0 0]] 154 [.i (.ae 1 (b3 l) false),.ptr 0 0 0 0] m (.be []) (A5 m (bW l 0 1)):=by
 intro af aE ag aH;have c8:=λ H=>kk l 0 1 an H
 obtain⟨lF,kl,lG,km,gP,ao,cC⟩:=p2 (P:=[.box [.aR (.func 161) [] [.ptr 1 0 0 0]],.box [.ptr 2 0 0 0]]) (q:=1) (br:=[.i (.v (.int .i64 (bW l 0 1)))]) rfl (by simp[h3]) rfl rfl rfl (aMn hm (bW l 0 1) aF) (lb 3 (m:=m) (af:=af) (ag:=ag) (aE:=aE) (aH:=aH) (T:=[]));simp only[cX,cq,c2,ck];simp only[cX,cq,c2,ck]at ao cC;rw[bp nh];simp(disch:=omega)only[au,simprocAttr,oh,bB,bM,bT,bC,c8,ao,acF];exact⟨_,rfl,p3 cC⟩
def aMu{m:M}(hm:bk m)(l:List Int)(an:l.length<100000)(aF:1≤bW l 0 1∧bW l 0 1≤100000):fG [.box [.aR (.func 163) [] [.ptr 1 0 0 0]],.box [.ptr 2 0 0 0]] 154 [.i (.ae 1 (b3 l) false),.ptr 0 0 0 0] m (.be []) (sL m true (bW l 0 1).toNat):=by
 intro af aE ag aH;have c8:=λ H=>kk l 0 1 an H
 obtain⟨lF,kl,lG,km,gP,ao,cC⟩:=p2 (P:=[.box [.aR (.func 163) [] [.ptr 1 0 0 0]],.box [.ptr 2 0 0 0]]) (q:=1) (br:=[.i (.v (.int .i64 (bW l 0 1)))]) rfl (by simp[h3]) rfl rfl rfl (aMf hm (bW l 0 1) aF) (lb 3 (m:=m) (af:=af) (ag:=ag) (aE:=aE) (aH:=aH) (T:=[]));simp only[cX,cq,c2,ck];simp only[cX,cq,c2,ck]at ao cC;rw[bp nh];simp(disch:=omega)only[au,simprocAttr,oh,bB,bM,bT,bC,c8,ao,acG];exact⟨_,rfl,p3 cC⟩
def aMv{m:M}(hm:bk m)(l:List Int)(an:l.length<100000)(aF:1≤bW l 0 1∧bW l 0 1≤100000):fG [.box [.aR (.func 165) [] [.ptr 1 0 0 0]],.box [.ptr 2 0 0 0]] 154 [.i (.ae 1 (b3 l) false),.ptr 0 0 0 0] m (.be []) (sL m false (bW l 0 1).toNat):=by
 intro af aE ag aH;have c8:=λ H=>kk l 0 1 an H
 obtain⟨lF,kl,lG,km,gP,ao,cC⟩:=p2 (P:=[.box [.aR (.func 165) [] [.ptr 1 0 0 0]],.box [.ptr 2 0 0 0]]) (q:=1) (br:=[.i (.v (.int .i64 (bW l 0 1)))]) rfl (by simp[h3]) rfl rfl rfl (aMg hm (bW l 0 1) aF) (lb 3 (m:=m) (af:=af) (ag:=ag) (aE:=aE) (aH:=aH) (T:=[]));simp only[cX,cq,c2,ck];simp only[cX,cq,c2,ck]at ao cC;rw[bp nh];simp(disch:=omega)only[au,simprocAttr,oh,bB,bM,bT,bC,c8,ao,acI];exact⟨_,rfl,p3 cC⟩
def aMw{m:M}(hm:bk m)(l:List Int)(an:l.length<100000)(aF:1≤bW l 0 1∧bW l 0 1≤100000):fG [.box [.aR (.func 167) [] [.ptr 1 0 0 0]],.box [.ptr 2 0 0 0]] 154 [.i (.ae 1 (b3 l) false),.ptr 0 0 0 0] m (.be []) ({m with aG:=ni m.aG (0-(bW l 0 1)) (cj m)}):=by
 intro af aE ag aH;have c8:=λ H=>kk l 0 1 an H
 obtain⟨lF,kl,lG,km,gP,ao,cC⟩:=p2 (P:=[.box [.aR (.func 167) [] [.ptr 1 0 0 0]],.box [.ptr 2 0 0 0]]) (q:=1) (br:=[.i (.v (.int .i64 (bW l 0 1)))]) rfl (by simp[h3]) rfl rfl rfl (aMe hm (bW l 0 1) aF) (lb 3 (m:=m) (af:=af) (ag:=ag) (aE:=aE) (aH:=aH) (T:=[]));simp only[cX,cq,c2,ck];simp only[cX,cq,c2,ck]at ao cC;rw[bp nh];simp(disch:=omega)only[au,simprocAttr,oh,bB,bM,bT,bC,c8,ao,acJ];exact⟨_,rfl,p3 cC⟩
def aMx{m:M}(hm:bk m)(l:List Int)(an:l.length<100000)(aF:1≤bW l 0 1∧bW l 0 1≤100000):fG [.box [.aR (.func 169) [] [.ptr 1 0 0 0]],.box [.ptr 2 0 0 0]] 154 [.i (.ae 1 (b3 l) false),.ptr 0 0 0 0] m (.be []) (L8 m (bW l 0 1)):=by
 intro af aE ag aH;have c8:=λ H=>kk l 0 1 an H
 obtain⟨lF,kl,lG,km,gP,ao,cC⟩:=p2 (P:=[.box [.aR (.func 169) [] [.ptr 1 0 0 0]],.box [.ptr 2 0 0 0]]) (q:=1) (br:=[.i (.v (.int .i64 (bW l 0 1)))]) rfl (by simp[h3]) rfl rfl rfl (aMo hm (bW l 0 1) aF) (lb 3 (m:=m) (af:=af) (ag:=ag) (aE:=aE) (aH:=aH) (T:=[]));simp only[cX,cq,c2,ck];simp only[cX,cq,c2,ck]at ao cC;rw[bp nh];simp(disch:=omega)only[au,simprocAttr,oh,bB,bM,bT,bC,c8,ao,acL];exact⟨_,rfl,p3 cC⟩
def aMy{m:M}(hm:bk m)(l:List Int)(an:l.length<100000)(aF:1≤bW l 0 1∧bW l 0 1≤100000):fG [.box [.aR (.func 170) [] [.ptr 1 0 0 0]],.box [.ptr 2 0 0 0]] 154 [.i (.ae 1 (b3 l) false),.ptr 0 0 0 0] m (.be []) ({m with aG:=⟨toR (bW l 0 1) (cj m),k9 (m.aG.c+1) (cj m),false⟩}):=by
 intro af aE ag aH;have c8:=λ H=>kk l 0 1 an H
 obtain⟨lF,kl,lG,km,gP,ao,cC⟩:=p2 (P:=[.box [.aR (.func 170) [] [.ptr 1 0 0 0]],.box [.ptr 2 0 0 0]]) (q:=1) (br:=[.i (.v (.int .i64 (bW l 0 1)))]) rfl (by simp[h3]) rfl rfl rfl (aMh hm (bW l 0 1) aF) (lb 3 (m:=m) (af:=af) (ag:=ag) (aE:=aE) (aH:=aH) (T:=[]));simp only[cX,cq,c2,ck];simp only[cX,cq,c2,ck]at ao cC;rw[bp nh];simp(disch:=omega)only[au,simprocAttr,oh,bB,bM,bT,bC,c8,ao,acM];exact⟨_,rfl,p3 cC⟩
def aMz{m:M}(hm:bk m)(l:List Int)(an:l.length<100000)(aF:1≤bW l 0 1∧bW l 0 1≤100000):fG [.box [.aR (.func 171) [] [.ptr 1 0 0 0]],.box [.ptr 2 0 0 0]] 154 [.i (.ae 1 (b3 l) false),.ptr 0 0 0 0] m (.be []) (nP ou (min (bW l 0 1).toNat m.w) m):=by
 intro af aE ag aH;have c8:=λ H=>kk l 0 1 an H
 obtain⟨lF,kl,lG,km,gP,ao,cC⟩:=p2 (P:=[.box [.aR (.func 171) [] [.ptr 1 0 0 0]],.box [.ptr 2 0 0 0]]) (q:=1) (br:=[.i (.v (.int .i64 (bW l 0 1)))]) rfl (by simp[h3]) rfl rfl rfl (aMi hm (bW l 0 1) aF) (lb 3 (m:=m) (af:=af) (ag:=ag) (aE:=aE) (aH:=aH) (T:=[]));simp only[cX,cq,c2,ck];simp only[cX,cq,c2,ck]at ao cC;rw[bp nh];simp(disch:=omega)only[au,simprocAttr,oh,bB,bM,bT,bC,c8,ao,acN];exact⟨_,rfl,p3 cC⟩
def aMA{m:M}(hm:bk m)(l:List Int)(an:l.length<100000)(aF:1≤bW l 0 1∧bW l 0 1≤100000):fG [.box [.aR (.func 173) [] [.ptr 1 0 0 0]],.box [.ptr 2 0 0 0]] 154 [.i (.ae 1 (b3 l) false),.ptr 0 0 0 0] m (.be []) (nP qH (min (bW l 0 1).toNat m.w) m):=by
 intro af aE ag aH;have c8:=λ H=>kk l 0 1 an H
 obtain⟨lF,kl,lG,km,gP,ao,cC⟩:=p2 (P:=[.box [.aR (.func 173) [] [.ptr 1 0 0 0]],.box [.ptr 2 0 0 0]]) (q:=1) (br:=[.i (.v (.int .i64 (bW l 0 1)))]) rfl (by simp[h3]) rfl rfl rfl (aMj hm (bW l 0 1) aF) (lb 3 (m:=m) (af:=af) (ag:=ag) (aE:=aE) (aH:=aH) (T:=[]));simp only[cX,cq,c2,ck];simp only[cX,cq,c2,ck]at ao cC;rw[bp nh];simp(disch:=omega)only[au,simprocAttr,oh,bB,bM,bT,bC,c8,ao,acP];exact⟨_,rfl,p3 cC⟩
def aMB{m:M}(hm:bk m)(l:List Int)(an:l.length<100000)(aF:1≤bW l 0 1∧bW l 0 1≤100000):fG [.box [.aR (.func 178) [] [.ptr 1 0 0 0]],.box [.ptr 2 0 0 0]] 154 [.i (.ae 1 (b3 l) false),.ptr 0 0 0 0] m (.be []) (k' m m.cz (bW l 0 1) true):=by
 intro af aE ag aH;have c8:=λ H=>kk l 0 1 an H
 obtain⟨lF,kl,lG,km,gP,ao,cC⟩:=p2 (P:=[.box [.aR (.func 178) [] [.ptr 1 0 0 0]],.box [.ptr 2 0 0 0]]) (q:=1) (br:=[.i (.v (.int .i64 (bW l 0 1)))]) rfl (by simp[h3]) rfl rfl rfl (aMk hm (bW l 0 1) aF) (lb 3 (m:=m) (af:=af) (ag:=ag) (aE:=aE) (aH:=aH) (T:=[]));simp only[cX,cq,c2,ck];simp only[cX,cq,c2,ck]at ao cC;rw[bp nh];simp(disch:=omega)only[au,simprocAttr,oh,bB,bM,bT,bC,c8,ao,acS];exact⟨_,rfl,p3 cC⟩
def aMC{m:M}(hm:bk m)(l:List Int)(an:l.length<100000)(aF:1≤bW l 0 1∧bW l 0 1≤100000):fG [.box [.aR (.func 179) [] [.ptr 1 0 0 0]],.box [.ptr 2 0 0 0]] 154 [.i (.ae 1 (b3 l) false),.ptr 0 0 0 0] m (.be []) (k' m m.cz (0-(bW l 0 1)) false):=by
 intro af aE ag aH;have c8:=λ H=>kk l 0 1 an H
 obtain⟨lF,kl,lG,km,gP,ao,cC⟩:=p2 (P:=[.box [.aR (.func 179) [] [.ptr 1 0 0 0]],.box [.ptr 2 0 0 0]]) (q:=1) (br:=[.i (.v (.int .i64 (bW l 0 1)))]) rfl (by simp[h3]) rfl rfl rfl (aMl hm (bW l 0 1) aF) (lb 3 (m:=m) (af:=af) (ag:=ag) (aE:=aE) (aH:=aH) (T:=[]));simp only[cX,cq,c2,ck];simp only[cX,cq,c2,ck]at ao cC;rw[bp nh];simp(disch:=omega)only[au,simprocAttr,oh,bB,bM,bT,bC,c8,ao,acT];exact⟨_,rfl,p3 cC⟩
def aMD{m:M}(hm:bk m)(l:List Int)(an:l.length<100000)(aF:1≤bW l 0 1∧bW l 0 1≤100000):fG [.box [.aR (.func 180) [] [.ptr 1 0 0 0]],.box [.ptr 2 0 0 0]] 154 [.i (.ae 1 (b3 l) false),.ptr 0 0 0 0] m (.be []) (L9 m (bW l 0 1)):=by
 intro af aE ag aH;have c8:=λ H=>kk l 0 1 an H
 obtain⟨lF,kl,lG,km,gP,ao,cC⟩:=p2 (P:=[.box [.aR (.func 180) [] [.ptr 1 0 0 0]],.box [.ptr 2 0 0 0]]) (q:=1) (br:=[.i (.v (.int .i64 (bW l 0 1)))]) rfl (by simp[h3]) rfl rfl rfl (aMp hm (bW l 0 1) aF) (lb 3 (m:=m) (af:=af) (ag:=ag) (aE:=aE) (aH:=aH) (T:=[]));simp only[cX,cq,c2,ck];simp only[cX,cq,c2,ck]at ao cC;rw[bp nh];simp(disch:=omega)only[au,simprocAttr,oh,bB,bM,bT,bC,c8,ao,acU];exact⟨_,rfl,p3 cC⟩
def ahF{n:Nat}{x y z:Chunk}{m:M}{A af B ag:Nat}{T:aa}(cd:hq 4 m A af B ag T):Hk 4 m (Chunk.box (ew n (x::y::z::.box (aT m A af B ag)::T) (aT m A af B ag))::ep n (x::y::z::.box (aT m A af B ag)::T) 4 T):=So (λ k=>rfl) cd
def aME{P:aa}{f g k ab:Nat}{br:List U}{r:U}{m b1:M}(az:P[k]?=some (.box [.aR (.func g) [] [.ptr ab 0 0 0]]))(a':P[ab]?=some (.box [.ptr P.length 0 0 0]))(lZ:∀x∈P,h3 x)(he:E.ext f=none)(gR:bz br=[])(ai:bd r=[])(h:fG [.box [.aR (.func g) [] [.ptr 1 0 0 0]],.box [.ptr 2 0 0 0]] f (br++[.ptr 0 0 0 0]) m r b1){A af B ag:Nat}{T:aa}(cd:hq (P.length+1) m A af B ag T)(ir:k≠ab):
  ∃fi cJ eg cK cW,cn f (br++[.ptr k 0 0 0]) (P++.box (aT m A af B ag)::T) r (P++.box (aT b1 fi cJ eg cK)::cW)∧hq (P.length+1) b1 fi cJ eg cK cW:=by
 have tC:=cd;obtain⟨a,b,aE,aH,rfl,rfl,aB,ak,cU,_⟩:=cd;have du:∀k,(P++.box (aT m (a+(P.length+1)) af (b+(P.length+1)) ag)::T)[k+(P.length+1)]?=T[k]?:=λ k=>by rw[ha R,show k+(P.length+1)-P.length=k+1 by omega,jM]
 obtain⟨ap,e,j,J⟩:=pb (H:=P++.box (aT m (a+(P.length+1)) af (b+(P.length+1)) ag)::T) (k:=k) (ab:=ab) (p:=P.length) (af:=af) (ag:=ag) he gR ai h ⟨by rw[ha (cQ _),qk];rfl,⟨aE,(du a).trans aB⟩,⟨aH,(du b).trans ak⟩,R⟩ (by rw[en (bF.1 az).1];exact az) (by rw[en (bF.1 a').1];exact a') ir;obtain⟨fi,cJ,eg,cK,cW,rfl,i⟩:=Hl lZ tC j J;exact⟨fi,cJ,eg,cK,cW,e,i⟩
def aMF{P:aa}{f g k ab:Nat}{br:List U}{r:U}{m b1:M}(az:P[k]?=some (.box [.aR (.func g) [] [.ptr ab 0 0 0]]))(a':P[ab]?=some (.box [.ptr P.length 0 0 0]))(lZ:∀x∈P,h3 x)(he:E.ext f=none)(gR:bz br=[])(ai:bd r=[])(h:fG [.box [.aR (.func g) [] [.ptr 1 0 0 0]],.box [.ptr 2 0 0 0]] f (br++[.ptr 0 0 0 0,.ptr 1 0 0 0]) m r b1){A af B ag:Nat}{T:aa}(cd:hq (P.length+1) m A af B ag T)(ir:k≠ab):
  ∃fi cJ eg cK cW,cn f (br++[.ptr k 0 0 0,.ptr ab 0 0 0]) (P++.box (aT m A af B ag)::T) r (P++.box (aT b1 fi cJ eg cK)::cW)∧hq (P.length+1) b1 fi cJ eg cK cW:=by
 have tC:=cd;obtain⟨a,b,aE,aH,rfl,rfl,aB,ak,cU,_⟩:=cd;have du:∀k,(P++.box (aT m (a+(P.length+1)) af (b+(P.length+1)) ag)::T)[k+(P.length+1)]?=T[k]?:=λ k=>by rw[ha R,show k+(P.length+1)-P.length=k+1 by omega,jM]
 obtain⟨ap,e,j,J⟩:=aL9 (H:=P++.box (aT m (a+(P.length+1)) af (b+(P.length+1)) ag)::T) (k:=k) (ab:=ab) (p:=P.length) (af:=af) (ag:=ag) he gR ai h ⟨by rw[ha (cQ _),qk];rfl,⟨aE,(du a).trans aB⟩,⟨aH,(du b).trans ak⟩,R⟩ (by rw[en (bF.1 az).1];exact az) (by rw[en (bF.1 a').1];exact a') ir;obtain⟨fi,cJ,eg,cK,cW,rfl,i⟩:=Hl lZ tC j J;exact⟨fi,cJ,eg,cK,cW,e,i⟩
def aMG{m:M}(hm:bk m)(l:List Int)(an:l.length<100000)(aF:1≤bW l 0 1∧bW l 0 1≤100000):fG [.box [.aR (.func 159) [.ptr 1 0 0 0] []]] 154 [.i (.ae 1 (b3 l) false),.ptr 0 0 0 0] m (.be []) ({m with aG:=iB m.aG (bW l 0 1) (cj m)}):=by
 intro af aE ag aH;have c8:=λ H=>kk l 0 1 an H
 obtain⟨lF,kl,lG,km,gP,ao,cC⟩:=A6 (P:=[.box [.aR (.func 159) [.ptr 1 0 0 0] []]]) (k:=1) (br:=[.i (.v (.int .i64 (bW l 0 1)))]) rfl (by simp[h3]) rfl rfl rfl (Sr hm (bW l 0 1)) (lb 2 (m:=m) (af:=af) (ag:=ag) (aE:=aE) (aH:=aH) (T:=[]));simp only[cX,cq,c2,ck];simp only[cX,cq,c2,ck]at ao cC;rw[bp nh];simp(disch:=omega)only[au,simprocAttr,oh,bB,bM,bT,bC,c8,ao,Ko];exact⟨_,rfl,mM cC⟩
def ahG{m:M}(hm:bk m)(l:List Int)(an:l.length<100000)(aF:1≤bW l 0 1∧bW l 0 1≤100000):fG [.box [.aR (.func 99) [.ptr 1 0 0 0] []]] 154 [.i (.ae 1 (b3 l) false),.ptr 0 0 0 0] m (.be []) ({m with aG:=ni m.aG (bW l 0 1) (cj m)}):=by
 intro af aE ag aH;have c8:=λ H=>kk l 0 1 an H
 obtain⟨lF,kl,lG,km,gP,ao,cC⟩:=A6 (P:=[.box [.aR (.func 99) [.ptr 1 0 0 0] []]]) (k:=1) (br:=[.i (.v (.int .i64 (bW l 0 1)))]) rfl (by simp[h3]) rfl rfl rfl (ahz hm (bW l 0 1)) (lb 2 (m:=m) (af:=af) (ag:=ag) (aE:=aE) (aH:=aH) (T:=[]));simp only[cX,cq,c2,ck];simp only[cX,cq,c2,ck]at ao cC;rw[bp nh];simp(disch:=omega)only[au,simprocAttr,oh,bB,bM,bT,bC,c8,ao,Kh];exact⟨_,rfl,mM cC⟩
def aMH{m:M}(hm:bk m)(l:List Int)(an:l.length<100000)(aF:0≤bW l 0 0∧bW l 0 0≤100000):fG [.box [.aR (.func 175) [.ptr 1 0 0 0] []]] 157 [.i (.ae 1 (b3 l) false),.ptr 0 0 0 0] m (.be []) (yK m (bW l 0 0)):=by
 intro af aE ag aH;have c8:=λ H=>kk l 0 0 an H
 obtain⟨lF,kl,lG,km,gP,ao,cC⟩:=A6 (P:=[.box [.aR (.func 175) [.ptr 1 0 0 0] []]]) (k:=1) (br:=[.i (.v (.int .i64 (bW l 0 0)))]) rfl (by simp[h3]) rfl rfl rfl (aKR hm (bW l 0 0)) (lb 2 (m:=m) (af:=af) (ag:=ag) (aE:=aE) (aH:=aH) (T:=[]));simp only[cX,cq,c2,ck];simp only[cX,cq,c2,ck]at ao cC;rw[bp C7];simp(disch:=omega)only[au,simprocAttr,KJ,bB,bM,bT,bC,c8,ao,acQ];exact⟨_,rfl,mM cC⟩
def aMI{m:M}(hm:bk m)(l:List Int)(an:l.length<100000)(aF:0≤bW l 0 0∧bW l 0 0≤100000):fG [.box [.aR (.func 176) [.ptr 1 0 0 0] []]] 157 [.i (.ae 1 (b3 l) false),.ptr 0 0 0 0] m (.be []) (tA m (bW l 0 0)):=by
 intro af aE ag aH;have c8:=λ H=>kk l 0 0 an H
 obtain⟨lF,kl,lG,km,gP,ao,cC⟩:=A6 (P:=[.box [.aR (.func 176) [.ptr 1 0 0 0] []]]) (k:=1) (br:=[.i (.v (.int .i64 (bW l 0 0)))]) rfl (by simp[h3]) rfl rfl rfl (agZ hm (bW l 0 0)) (lb 2 (m:=m) (af:=af) (ag:=ag) (aE:=aE) (aH:=aH) (T:=[]));simp only[cX,cq,c2,ck];simp only[cX,cq,c2,ck]at ao cC;rw[bp C7];simp(disch:=omega)only[au,simprocAttr,KJ,bB,bM,bT,bC,c8,ao,P'];exact⟨_,rfl,mM cC⟩
def aMJ{m:M}(hm:bk m)(l:List Int)(an:l.length<100000)(aF:0≤bW l 0 0∧bW l 0 0≤100000):fG [.box [.aR (.func 182) [.ptr 1 0 0 0] []]] 157 [.i (.ae 1 (b3 l) false),.ptr 0 0 0 0] m (.be []) (AT m (bW l 0 0)):=by
 intro af aE ag aH;have c8:=λ H=>kk l 0 0 an H
 obtain⟨lF,kl,lG,km,gP,ao,cC⟩:=A6 (P:=[.box [.aR (.func 182) [.ptr 1 0 0 0] []]]) (k:=1) (br:=[.i (.v (.int .i64 (bW l 0 0)))]) rfl (by simp[h3]) rfl rfl rfl (aK1 hm (bW l 0 0)) (lb 2 (m:=m) (af:=af) (ag:=ag) (aE:=aE) (aH:=aH) (T:=[]));simp only[cX,cq,c2,ck];simp only[cX,cq,c2,ck]at ao cC;rw[bp C7];simp(disch:=omega)only[au,simprocAttr,KJ,bB,bM,bT,bC,c8,ao,acW];exact⟨_,rfl,mM cC⟩
def aMK{m:M}(hm:bk m)(l:List Int)(an:l.length<100000)(aF:0≤bW l 0 0∧bW l 0 0≤100000):fG [.box [.aR (.func 183) [.ptr 1 0 0 0] []]] 157 [.i (.ae 1 (b3 l) false),.ptr 0 0 0 0] m (.be []) (AU m (bW l 0 0)):=by
 intro af aE ag aH;have c8:=λ H=>kk l 0 0 an H
 obtain⟨lF,kl,lG,km,gP,ao,cC⟩:=A6 (P:=[.box [.aR (.func 183) [.ptr 1 0 0 0] []]]) (k:=1) (br:=[.i (.v (.int .i64 (bW l 0 0)))]) rfl (by simp[h3]) rfl rfl rfl (aK2 hm (bW l 0 0)) (lb 2 (m:=m) (af:=af) (ag:=ag) (aE:=aE) (aH:=aH) (T:=[]));simp only[cX,cq,c2,ck];simp only[cX,cq,c2,ck]at ao cC;rw[bp C7];simp(disch:=omega)only[au,simprocAttr,KJ,bB,bM,bT,bC,c8,ao,acX];exact⟨_,rfl,mM cC⟩
def aML{m:M}(hm:bk m)(l:List Int)(an:l.length<100000)(aF:1≤bW l 0 1∧bW l 0 1≤100000):fG [.box [.aR (.func 168) [] [.ptr 1 0 0 0,.ptr 2 0 0 0]],.box [.aR (.func 158) [] [.ptr 2 0 0 0]],.box [.ptr 3 0 0 0]] 154 [.i (.ae 1 (b3 l) false),.ptr 0 0 0 0] m (.be []) (L_ m (bW l 0 1)):=by
 intro af aE ag aH;have c8:=λ H=>kk l 0 1 an H
 obtain⟨lF,kl,lG,km,gP,ao,cC⟩:=aMF (P:=[.box [.aR (.func 168) [] [.ptr 1 0 0 0,.ptr 2 0 0 0]],.box [.aR (.func 158) [] [.ptr 2 0 0 0]],.box [.ptr 3 0 0 0]]) (k:=1) (ab:=2) (br:=[.i (.v (.int .i64 (bW l 0 1)))]) rfl rfl (by simp[h3]) rfl rfl rfl (aMs hm (bW l 0 1) aF) (lb 4 (m:=m) (af:=af) (ag:=ag) (aE:=aE) (aH:=aH) (T:=[])) (by decide);simp only[cX,cq,c2,ck];simp only[cX,cq,c2,ck]at ao cC;rw[bp nh];simp(disch:=omega)only[au,simprocAttr,oh,bB,bM,bT,bC,c8,ao,acK];exact⟨_,rfl,ahF cC⟩
def aMM{m:M}(hm:bk m)(l:List Int)(an:l.length<100000)(aF:1≤bW l 0 1∧bW l 0 1≤100000):fG [.box [.aR (.func 177) [] [.ptr 1 0 0 0]],.box [.aR (.func 162) [] [.ptr 2 0 0 0]],.box [.ptr 3 0 0 0]] 154 [.i (.ae 1 (b3 l) false),.ptr 0 0 0 0] m (.be []) (uY m (0-bW l 0 1)):=by
 intro af aE ag aH;have c8:=λ H=>kk l 0 1 an H
 obtain⟨lF,kl,lG,km,gP,ao,cC⟩:=aME (P:=[.box [.aR (.func 177) [] [.ptr 1 0 0 0]],.box [.aR (.func 162) [] [.ptr 2 0 0 0]],.box [.ptr 3 0 0 0]]) (k:=1) (ab:=2) (br:=[.i (.v (.int .i64 (bW l 0 1)))]) rfl rfl (by simp[h3]) rfl rfl rfl (aMt hm (bW l 0 1) aF) (lb 4 (m:=m) (af:=af) (ag:=ag) (aE:=aE) (aH:=aH) (T:=[])) (by decide);simp only[cX,cq,c2,ck];simp only[cX,cq,c2,ck]at ao cC;rw[bp nh];simp(disch:=omega)only[au,simprocAttr,oh,bB,bM,bT,bC,c8,ao,acR];exact⟨_,rfl,ahF cC⟩
def aMN{m:M}(hm:bk m)(l:List Int)(an:l.length<100000)(aF:1≤bW l 0 1∧bW l 0 1≤100000):fG [.box [.aR (.func 162) [] [.ptr 1 0 0 0]],.box [.ptr 2 0 0 0]] 154 [.i (.ae 1 (b3 l) false),.ptr 0 0 0 0] m (.be []) (uY m (bW l 0 1)):=by
 intro af aE ag aH;have c8:=λ H=>kk l 0 1 an H
 obtain⟨lF,kl,lG,km,gP,ao,cC⟩:=p2 (P:=[.box [.aR (.func 162) [] [.ptr 1 0 0 0]],.box [.ptr 2 0 0 0]]) (q:=1) (br:=[.i (.v (.int .i64 (bW l 0 1)))]) rfl (by simp[h3]) rfl rfl rfl (ahC hm (bW l 0 1) R) (lb 3 (m:=m) (af:=af) (ag:=ag) (aE:=aE) (aH:=aH) (T:=[]));simp only[cX,cq,c2,ck];simp only[cX,cq,c2,ck]at ao cC;rw[bp nh];simp(disch:=omega)only[au,simprocAttr,oh,bB,bM,bT,bC,c8,ao,P_];exact⟨_,rfl,p3 cC⟩
def ahH{m:M}(hm:bk m)(l:List Int)(an:l.length<100000):fG [.box [.ptr 1 0 0 0]] 160 [.i (.ae 1 (b3 l) false),.ptr 0 0 0 0] m (.be []) ({m with aG:=⟨toR (bW l 0 1) (cj m),k9 (bW l 1 1) (cj m),false⟩}):=by
 intro af aE ag aH;have c8:=λ H=>kk l 0 1 an H
 have Ss:=λ H=>kk l 1 1 an H
 have ao:=ahB (x:=.box [.ptr 1 0 0 0]) rfl rfl rfl (RG (m:=m) (af:=af) (ag:=ag) (aE:=aE) (aH:=aH) (x:=aX m.G) (y:=aX m.O) hm.cj (bW l 0 1) (bW l 1 1));simp only[cX,cq,c2,ck];rw[bp Qu];simp(disch:=omega)only[au,simprocAttr,aFq,bB,bM,bT,bC,c8,Ss,ao];exact⟨_,rfl,_,_,_,_,_,rfl,nQ⟩
def aMO{m:M}{af ag aE aH:Nat}{x y:List bS}(g:Nat):b4 E 153 [.aR (.func g) [] [.ptr 0 0 0 0]] [.box [.ptr 1 0 0 0],.box (aT m (1+1) af (1+2) ag),.ax 5 af aE x,.ax 5 ag aH y]=some (.aR (.func 154) [] [.ptr 4 0 0 0],[.box [.ptr 1 0 0 0],.box (aT m (1+1) af (1+2) ag),.ax 5 af aE x,.ax 5 ag aH y,.box [.aR (.func g) [] [.ptr 0 0 0 0]]]):=by rw[bp Gs];simp(disch:=omega)only[au,simprocAttr,KH,bM,bT]
def aMP{m:M}{af ag aE aH:Nat}{x y:List bS}(g:Nat)(T:aa):cn 153 [.aR (.func g) [] [.ptr 3 0 0 0]] (.box (aT (m) 1 af 2 ag)::.ax 5 af aE x::.ax 5 ag aH y::.box [.ptr 0 0 0 0]::T) (.aR (.func 154) [] [.ptr (T.length+4) 0 0 0]) (.box (aT (m) 1 af 2 ag)::.ax 5 af aE x::.ax 5 ag aH y::.box [.ptr 0 0 0 0]::(T++[.box [.aR (.func g) [] [.ptr 3 0 0 0]]])):=by
 have h:=aMO (m:=m) (af:=af) (ag:=ag) (aE:=aE) (aH:=aH) (x:=x) (y:=y) g;have ao:=jx (bt [3,0,1,2]) m 1 af 2 ag 2 3 rfl rfl;have aI:=jx (dm [3,0,1,2] (T.length+1+1+1+1) [4]) m 2 af 3 ag 1 2 rfl rfl;simp only[c2]at h;unfold cn dj;have q:∀n,dm [3,0,1,2] n [4] 0=some 3∧dm [3,0,1,2] n [4] 1=some 0∧dm [3,0,1,2] n [4] 4=some (0+n):=λ n=>⟨rfl,rfl,rfl⟩
 simp[e0,J',bz,bd,reach,Chunk.refs,bC,cB,co,Chunk.cL,ao,show bt [3,0,1,2] 3=some 0 from rfl,show bt [3,0,1,2] 0=some 1 from rfl,h,aI,q,ef]
def aMQ{m:M}{af ag aE aH:Nat}{x y:List bS}(g:Nat):b4 E 153 [.aR (.func g) [.ptr 0 0 0 0] []] [.box (aT m (0+1) af (0+2) ag),.ax 5 af aE x,.ax 5 ag aH y]=some (.aR (.func 154) [] [.ptr 3 0 0 0],[.box (aT m (0+1) af (0+2) ag),.ax 5 af aE x,.ax 5 ag aH y,.box [.aR (.func g) [.ptr 0 0 0 0] []]]):=by rw[bp Gs];simp(disch:=omega)only[au,simprocAttr,KH,bM,bT]
def aMR{m:M}{af ag aE aH:Nat}{x y:List bS}(g:Nat)(T:aa):cn 153 [.aR (.func g) [.ptr 0 0 0 0] []] (.box (aT (m) 1 af 2 ag)::.ax 5 af aE x::.ax 5 ag aH y::.box [.ptr 0 0 0 0]::T) (.aR (.func 154) [] [.ptr (T.length+4) 0 0 0]) (.box (aT (m) 1 af 2 ag)::.ax 5 af aE x::.ax 5 ag aH y::.box [.ptr 0 0 0 0]::(T++[.box [.aR (.func g) [.ptr 0 0 0 0] []]])):=by
 have h:=aMQ (m:=m) (af:=af) (ag:=ag) (aE:=aE) (aH:=aH) (x:=x) (y:=y) g;have ao:=jx (bt [0,1,2]) m 1 af 2 ag 1 2 rfl rfl;have aI:=jx (dm [0,1,2] (T.length+1+1+1+1) [3]) m 1 af 2 ag 1 2 rfl rfl;simp only[c2]at h;unfold cn dj;have q:∀n,dm [0,1,2] n [3] 0=some 0∧dm [0,1,2] n [3] 3=some (0+n):=λ n=>⟨rfl,rfl⟩
 simp[e0,J',bz,bd,reach,Chunk.refs,bC,cB,co,Chunk.cL,ao,show bt [0,1,2] 0=some 0 from rfl,h,aI,q,ef]
def aMS{m:M}{af ag aE aH:Nat}{x y:List bS}(g:Nat):b4 E 156 [.aR (.func g) [.ptr 0 0 0 0] []] [.box (aT m (0+1) af (0+2) ag),.ax 5 af aE x,.ax 5 ag aH y]=some (.aR (.func 157) [] [.ptr 3 0 0 0],[.box (aT m (0+1) af (0+2) ag),.ax 5 af aE x,.ax 5 ag aH y,.box [.aR (.func g) [.ptr 0 0 0 0] []]]):=by rw[bp aed];simp(disch:=omega)only[au,simprocAttr,aFn,bM,bT]
def aMT{m:M}{af ag aE aH:Nat}{x y:List bS}(g:Nat)(T:aa):cn 156 [.aR (.func g) [.ptr 0 0 0 0] []] (.box (aT (m) 1 af 2 ag)::.ax 5 af aE x::.ax 5 ag aH y::.box [.ptr 0 0 0 0]::T) (.aR (.func 157) [] [.ptr (T.length+4) 0 0 0]) (.box (aT (m) 1 af 2 ag)::.ax 5 af aE x::.ax 5 ag aH y::.box [.ptr 0 0 0 0]::(T++[.box [.aR (.func g) [.ptr 0 0 0 0] []]])):=by
 have h:=aMS (m:=m) (af:=af) (ag:=ag) (aE:=aE) (aH:=aH) (x:=x) (y:=y) g;have ao:=jx (bt [0,1,2]) m 1 af 2 ag 1 2 rfl rfl;have aI:=jx (dm [0,1,2] (T.length+1+1+1+1) [3]) m 1 af 2 ag 1 2 rfl rfl;simp only[c2]at h;unfold cn dj;have q:∀n,dm [0,1,2] n [3] 0=some 0∧dm [0,1,2] n [3] 3=some (0+n):=λ n=>⟨rfl,rfl⟩
 simp[e0,axE,bz,bd,reach,Chunk.refs,bC,cB,co,Chunk.cL,ao,show bt [0,1,2] 0=some 0 from rfl,h,aI,q,ef]
def aMU{m:M}{af ag aE aH:Nat}{x y:List bS}(g d:Nat):b4 E 153 [.aR (.func g) [] [.ptr 0 0 0 0,.ptr 1 0 0 0]] [.box [.aR (.func d) [] [.ptr 1 0 0 0]],.box [.ptr 2 0 0 0],.box (aT m (2+1) af (2+2) ag),.ax 5 af aE x,.ax 5 ag aH y]=some (.aR (.func 154) [] [.ptr 5 0 0 0],[.box [.aR (.func d) [] [.ptr 1 0 0 0]],.box [.ptr 2 0 0 0],.box (aT m (2+1) af (2+2) ag),.ax 5 af aE x,.ax 5 ag aH y,.box [.aR (.func g) [] [.ptr 0 0 0 0,.ptr 1 0 0 0]]]):=by rw[bp Gs];simp(disch:=omega)only[au,simprocAttr,KH,bM,bT]
def aMV{m:M}{af ag aE aH:Nat}{x y:List bS}(g d:Nat)(T:aa):cn 153 [.aR (.func g) [] [.ptr 4 0 0 0,.ptr 3 0 0 0]] (.box (aT (m) 1 af 2 ag)::.ax 5 af aE x::.ax 5 ag aH y::.box [.ptr 0 0 0 0]::.box [.aR (.func d) [] [.ptr 3 0 0 0]]::T) (.aR (.func 154) [] [.ptr (T.length+5) 0 0 0]) (.box (aT (m) 1 af 2 ag)::.ax 5 af aE x::.ax 5 ag aH y::.box [.ptr 0 0 0 0]::.box [.aR (.func d) [] [.ptr 3 0 0 0]]::(T++[.box [.aR (.func g) [] [.ptr 4 0 0 0,.ptr 3 0 0 0]]])):=by
 have h:=aMU (m:=m) (af:=af) (ag:=ag) (aE:=aE) (aH:=aH) (x:=x) (y:=y) g d;have ao:=jx (bt [4,3,0,1,2]) m 1 af 2 ag 3 4 rfl rfl;have aI:=jx (dm [4,3,0,1,2] (T.length+1+1+1+1+1) [5]) m 3 af 4 ag 1 2 rfl rfl;simp only[c2]at h;unfold cn dj;have q:∀n,dm [4,3,0,1,2] n [5] 0=some 4∧dm [4,3,0,1,2] n [5] 1=some 3∧dm [4,3,0,1,2] n [5] 2=some 0∧dm [4,3,0,1,2] n [5] 5=some (0+n):=λ n=>⟨rfl,rfl,rfl,rfl⟩
 simp[e0,J',bz,bd,reach,Chunk.refs,bC,cB,co,Chunk.cL,ao,show bt [4,3,0,1,2] 4=some 0 from rfl,show bt [4,3,0,1,2] 3=some 1 from rfl,show bt [4,3,0,1,2] 0=some 2 from rfl,h,aI,q,ef]
def aMW{m:M}{af ag aE aH:Nat}{x y:List bS}(g d:Nat):b4 E 153 [.aR (.func g) [] [.ptr 0 0 0 0]] [.box [.aR (.func d) [] [.ptr 1 0 0 0]],.box [.ptr 2 0 0 0],.box (aT m (2+1) af (2+2) ag),.ax 5 af aE x,.ax 5 ag aH y]=some (.aR (.func 154) [] [.ptr 5 0 0 0],[.box [.aR (.func d) [] [.ptr 1 0 0 0]],.box [.ptr 2 0 0 0],.box (aT m (2+1) af (2+2) ag),.ax 5 af aE x,.ax 5 ag aH y,.box [.aR (.func g) [] [.ptr 0 0 0 0]]]):=by rw[bp Gs];simp(disch:=omega)only[au,simprocAttr,KH,bM,bT]
def aMX{m:M}{af ag aE aH:Nat}{x y:List bS}(g d:Nat)(fD c5:Chunk)(T:aa):cn 153 [.aR (.func g) [] [.ptr 6 0 0 0]] (.box (aT (m) 1 af 2 ag)::.ax 5 af aE x::.ax 5 ag aH y::.box [.ptr 0 0 0 0]::fD::c5::.box [.aR (.func d) [] [.ptr 3 0 0 0]]::T) (.aR (.func 154) [] [.ptr (T.length+7) 0 0 0]) (.box (aT (m) 1 af 2 ag)::.ax 5 af aE x::.ax 5 ag aH y::.box [.ptr 0 0 0 0]::fD::c5::.box [.aR (.func d) [] [.ptr 3 0 0 0]]::(T++[.box [.aR (.func g) [] [.ptr 6 0 0 0]]])):=by
 have h:=aMW (m:=m) (af:=af) (ag:=ag) (aE:=aE) (aH:=aH) (x:=x) (y:=y) g d;have ao:=jx (bt [6,3,0,1,2]) m 1 af 2 ag 3 4 rfl rfl;have aI:=jx (dm [6,3,0,1,2] (T.length+1+1+1+1+1+1+1) [5]) m 3 af 4 ag 1 2 rfl rfl;simp only[c2]at h;unfold cn dj;have q:∀n,dm [6,3,0,1,2] n [5] 0=some 6∧dm [6,3,0,1,2] n [5] 1=some 3∧dm [6,3,0,1,2] n [5] 2=some 0∧dm [6,3,0,1,2] n [5] 5=some (0+n):=λ n=>⟨rfl,rfl,rfl,rfl⟩
 simp[e0,J',bz,bd,reach,Chunk.refs,bC,cB,co,Chunk.cL,ao,show bt [6,3,0,1,2] 6=some 0 from rfl,show bt [6,3,0,1,2] 3=some 1 from rfl,show bt [6,3,0,1,2] 0=some 2 from rfl,h,aI,q,ef]
def A7(m:M)(af ag aE aH:Nat)(x y:List bS):aa:=[.box (aT m 1 af 2 ag),.ax 5 af aE x,.ax 5 ag aH y,.box [.ptr 0 0 0 0],.box [.aR (.func 158) [] [.ptr 3 0 0 0]],.box [.aR (.func 161) [] [.ptr 3 0 0 0]],.box [.aR (.func 162) [] [.ptr 3 0 0 0]],.map [(.v (.int .u8 64),.aR (.func 154) [] [.ptr 8 0 0 0]),(.v (.int .u8 65),.aR (.func 154) [] [.ptr 10 0 0 0]),(.v (.int .u8 66),.aR (.func 154) [] [.ptr 11 0 0 0]),(.v (.int .u8 67),.aR (.func 154) [] [.ptr 13 0 0 0]),(.v (.int .u8 68),.aR (.func 154) [] [.ptr 15 0 0 0]),(.v (.int .u8 69),.aR (.func 154) [] [.ptr 16 0 0 0]),(.v (.int .u8 70),.aR (.func 154) [] [.ptr 17 0 0 0]),(.v (.int .u8 71),.aR (.func 154) [] [.ptr 5 0 0 0]),(.v (.int .u8 72),.aR (.func 160) [] [.ptr 3 0 0 0]),(.v (.int .u8 73),.aR (.func 154) [] [.ptr 19 0 0 0]),(.v (.int .u8 74),.aR (.func 157) [] [.ptr 21 0 0 0]),(.v (.int .u8 75),.aR (.func 157) [] [.ptr 22 0 0 0]),(.v (.int .u8 76),.aR (.func 154) [] [.ptr 23 0 0 0]),(.v (.int .u8 77),.aR (.func 154) [] [.ptr 24 0 0 0]),(.v (.int .u8 80),.aR (.func 154) [] [.ptr 9 0 0 0]),(.v (.int .u8 83),.aR (.func 154) [] [.ptr 25 0 0 0]),(.v (.int .u8 84),.aR (.func 154) [] [.ptr 26 0 0 0]),(.v (.int .u8 88),.aR (.func 154) [] [.ptr 27 0 0 0]),(.v (.int .u8 90),.aR (.func 154) [] [.ptr 20 0 0 0]),(.v (.int .u8 96),.aR (.func 154) [] [.ptr 5 0 0 0]),(.v (.int .u8 97),.aR (.func 154) [] [.ptr 14 0 0 0]),(.v (.int .u8 100),.aR (.func 154) [] [.ptr 18 0 0 0]),(.v (.int .u8 101),.aR (.func 154) [] [.ptr 12 0 0 0]),(.v (.int .u8 102),.aR (.func 160) [] [.ptr 3 0 0 0]),(.v (.int .u8 103),.aR (.func 157) [] [.ptr 28 0 0 0]),(.v (.int .u8 110),.aR (.func 157) [] [.ptr 29 0 0 0]),(.v (.int .u8 114),.aR (.func 184) [.ptr 0 0 0 0] []),(.v (.int .u8 115),.aR (.func 185) [] [.ptr 3 0 0 0]),(.v (.int .u8 117),.aR (.func 186) [] [.ptr 3 0 0 0])],.box [.aR (.func 163) [] [.ptr 3 0 0 0]],.box [.aR (.func 165) [] [.ptr 3 0 0 0]],.box [.aR (.func 159) [.ptr 0 0 0 0] []],.box [.aR (.func 158) [] [.ptr 3 0 0 0]],.box [.aR (.func 158) [] [.ptr 3 0 0 0]],.box [.aR (.func 99) [.ptr 0 0 0 0] []],.box [.aR (.func 99) [.ptr 0 0 0 0] []],.box [.aR (.func 167) [] [.ptr 3 0 0 0]],.box [.aR (.func 168) [] [.ptr 4 0 0 0,.ptr 3 0 0 0]],.box [.aR (.func 169) [] [.ptr 3 0 0 0]],.box [.aR (.func 170) [] [.ptr 3 0 0 0]],.box [.aR (.func 171) [] [.ptr 3 0 0 0]],.box [.aR (.func 173) [] [.ptr 3 0 0 0]],.box [.aR (.func 175) [.ptr 0 0 0 0] []],.box [.aR (.func 176) [.ptr 0 0 0 0] []],.box [.aR (.func 177) [] [.ptr 6 0 0 0]],.box [.aR (.func 162) [] [.ptr 3 0 0 0]],.box [.aR (.func 178) [] [.ptr 3 0 0 0]],.box [.aR (.func 179) [] [.ptr 3 0 0 0]],.box [.aR (.func 180) [] [.ptr 3 0 0 0]],.box [.aR (.func 182) [.ptr 0 0 0 0] []],.box [.aR (.func 183) [.ptr 0 0 0 0] []]]
def aMY{m:M}{af ag aE aH:Nat}{x y:List bS}:b4 E 111 [.ptr 0 0 0 0] [.box (aT m 1 af 2 ag),.ax 5 af aE x,.ax 5 ag aH y]=some (.dA 7,A7 m af ag aE aH x y):=by rw[bp adT];simp(maxSteps:=9000000) (disch:=omega)only[au,simprocAttr,aE8,bM,bT,Xv,kp,hH,gm,kR,nr,aCq,aCv,aMP,aMR,aMV,aMX,aMT];rfl
def aMZ(m:M)(af ag aE aH:Nat)(x y:List bS):reach (A7 m af ag aE aH x y) 64 [7,1,2] []=[7,8,3,0,1,2,10,11,13,15,16,4,17,5,19,21,22,23,6,24,9,25,26,27,20,14,18,12,28,29]:=aJ
def Ho:List Nat:=[7,8,3,10,11,13,15,16,4,17,5,19,21,22,23,6,24,9,25,26,27,20,14,18,12,28,29]
def ahI(m:M)(af ag aE aH:Nat):aa:=Ho.map λ i=>(((A7 m af ag aE aH (aX m.G) (aX m.O))[i]?).map (Chunk.cL (dm [0,1,2] 4 Ho))).getD (.iter [] 0)
def aM0{m:M}{af ag aE aH:Nat}{c:List U}:cn 111 [.ptr 0 0 0 0] [.box (aT m 1 af 2 ag),.ax 5 af aE (aX m.G),.ax 5 ag aH (aX m.O),.box c] (.dA 4) ([.box (aT m 1 af 2 ag),.ax 5 af aE (aX m.G),.ax 5 ag aH (aX m.O),.box c]++ahI m af ag aE aH):=by
 have dc:reach [.box (aT m 1 af 2 ag),.ax 5 af aE (aX m.G),.ax 5 ag aH (aX m.O),.box c] 64 [0] []=[0,1,2]:=aJ;have ol:=λ aU=>k7 (show(Chunk.ax 5 af aE (aX m.G)).refs=[]from rfl) aU
 have yC:=λ aU=>k7 (show(Chunk.ax 5 ag aH (aX m.O)).refs=[]from rfl) aU
 have ao:=jx (bt [0,1,2]) m 1 af 2 ag 1 2 rfl rfl;have aI:=jx (dm [0,1,2] 4 Ho) m 1 af 2 ag 1 2 rfl rfl;have an:[0,1,2].map (λ k=>(([Chunk.box (aT m 1 af 2 ag),.ax 5 af aE (aX m.G),.ax 5 ag aH (aX m.O),.box c][k]?).map (Chunk.cL (bt [0,1,2]))).getD (.iter [] 0))=[.box (aT m 1 af 2 ag),.ax 5 af aE (aX m.G),.ax 5 ag aH (aX m.O)]:=by simp[iq,ol,yC,ao]
 have jt:=aMZ m af ag aE aH (aX m.G) (aX m.O);have aK:(bd (.dA 7)++((A7 m af ag aE aH (aX m.G) (aX m.O)).take 3).flatMap Chunk.refs)=[7,1,2]:=aJ;have aM1:([7,8,3,0,1,2,10,11,13,15,16,4,17,5,19,21,22,23,6,24,9,25,26,27,20,14,18,12,28,29]:List Nat).filter (λ i=>decide (3≤i))=Ho:=by decide
 have bq:((A7 m af ag aE aH (aX m.G) (aX m.O)).take 3).map (Chunk.cL (dm [0,1,2] 4 Ho))=[.box (aT m 1 af 2 ag),.ax 5 af aE (aX m.G),.ax 5 ag aH (aX m.O)]:=by simp[A7,iq,ol,yC,aI]
 have sJ:(A7 m af ag aE aH (aX m.G) (aX m.O)).length=30:=rfl;unfold cn dj;simp only[e0,axB,bz,bd,c_,dc,an,cB,co,show bt [0,1,2] 0=some 0 from rfl,aMY,iM];simp only[bd]at aK;simp only[sJ,cX,c2,Nat.reduceLT,if_false,aK,jt,aM1,bq];rfl
def yQ:List (aD×U):=[(.v (.int .u8 64),.aR (.func 154) [] [.ptr 5 0 0 0]),(.v (.int .u8 65),.aR (.func 154) [] [.ptr 7 0 0 0]),(.v (.int .u8 66),.aR (.func 154) [] [.ptr 8 0 0 0]),(.v (.int .u8 67),.aR (.func 154) [] [.ptr 9 0 0 0]),(.v (.int .u8 68),.aR (.func 154) [] [.ptr 10 0 0 0]),(.v (.int .u8 69),.aR (.func 154) [] [.ptr 11 0 0 0]),(.v (.int .u8 70),.aR (.func 154) [] [.ptr 13 0 0 0]),(.v (.int .u8 71),.aR (.func 154) [] [.ptr 14 0 0 0]),(.v (.int .u8 72),.aR (.func 160) [] [.ptr 6 0 0 0]),(.v (.int .u8 73),.aR (.func 154) [] [.ptr 15 0 0 0]),(.v (.int .u8 74),.aR (.func 157) [] [.ptr 16 0 0 0]),(.v (.int .u8 75),.aR (.func 157) [] [.ptr 17 0 0 0]),(.v (.int .u8 76),.aR (.func 154) [] [.ptr 18 0 0 0]),(.v (.int .u8 77),.aR (.func 154) [] [.ptr 20 0 0 0]),(.v (.int .u8 80),.aR (.func 154) [] [.ptr 21 0 0 0]),(.v (.int .u8 83),.aR (.func 154) [] [.ptr 22 0 0 0]),(.v (.int .u8 84),.aR (.func 154) [] [.ptr 23 0 0 0]),(.v (.int .u8 88),.aR (.func 154) [] [.ptr 24 0 0 0]),(.v (.int .u8 90),.aR (.func 154) [] [.ptr 25 0 0 0]),(.v (.int .u8 96),.aR (.func 154) [] [.ptr 14 0 0 0]),(.v (.int .u8 97),.aR (.func 154) [] [.ptr 26 0 0 0]),(.v (.int .u8 100),.aR (.func 154) [] [.ptr 27 0 0 0]),(.v (.int .u8 101),.aR (.func 154) [] [.ptr 28 0 0 0]),(.v (.int .u8 102),.aR (.func 160) [] [.ptr 6 0 0 0]),(.v (.int .u8 103),.aR (.func 157) [] [.ptr 29 0 0 0]),(.v (.int .u8 110),.aR (.func 157) [] [.ptr 30 0 0 0]),(.v (.int .u8 114),.aR (.func 184) [.ptr 0 0 0 0] []),(.v (.int .u8 115),.aR (.func 185) [] [.ptr 6 0 0 0]),(.v (.int .u8 117),.aR (.func 186) [] [.ptr 6 0 0 0])]
def St:aa:=[.box [.aR (.func 163) [] [.ptr 6 0 0 0]],.box [.ptr 0 0 0 0],.box [.aR (.func 159) [.ptr 0 0 0 0] []],.box [.aR (.func 158) [] [.ptr 6 0 0 0]],.box [.aR (.func 99) [.ptr 0 0 0 0] []],.box [.aR (.func 167) [] [.ptr 6 0 0 0]],.box [.aR (.func 168) [] [.ptr 12 0 0 0,.ptr 6 0 0 0]],.box [.aR (.func 158) [] [.ptr 6 0 0 0]],.box [.aR (.func 169) [] [.ptr 6 0 0 0]],.box [.aR (.func 161) [] [.ptr 6 0 0 0]],.box [.aR (.func 171) [] [.ptr 6 0 0 0]],.box [.aR (.func 175) [.ptr 0 0 0 0] []],.box [.aR (.func 176) [.ptr 0 0 0 0] []],.box [.aR (.func 177) [] [.ptr 19 0 0 0]],.box [.aR (.func 162) [] [.ptr 6 0 0 0]],.box [.aR (.func 162) [] [.ptr 6 0 0 0]],.box [.aR (.func 165) [] [.ptr 6 0 0 0]],.box [.aR (.func 178) [] [.ptr 6 0 0 0]],.box [.aR (.func 179) [] [.ptr 6 0 0 0]],.box [.aR (.func 180) [] [.ptr 6 0 0 0]],.box [.aR (.func 173) [] [.ptr 6 0 0 0]],.box [.aR (.func 99) [.ptr 0 0 0 0] []],.box [.aR (.func 170) [] [.ptr 6 0 0 0]],.box [.aR (.func 158) [] [.ptr 6 0 0 0]],.box [.aR (.func 182) [.ptr 0 0 0 0] []],.box [.aR (.func 183) [.ptr 0 0 0 0] []]]
def aM2(m:M)(af ag aE aH:Nat):ahI m af ag aE aH=.map yQ::St:=aJ
def yR(m:M)(c:Int)(l:List Int):M:=
 if c=64 then sL m true (bW l 0 1).toNat else
 if c=65 then{m with aG:=iB m.aG (bW l 0 1) (cj m)}else
 if c=66 then{m with aG:=iB m.aG (0-bW l 0 1) (cj m)}else
 if c=67 then{m with aG:=ni m.aG (bW l 0 1) (cj m)}else
 if c=68 then{m with aG:=ni m.aG (0-bW l 0 1) (cj m)}else
 if c=69 then L_ m (bW l 0 1)else
 if c=70 then L8 m (bW l 0 1)else
 if c=71 then A5 m (bW l 0 1)else
 if c=72 then{m with aG:=⟨toR (bW l 0 1) (cj m),k9 (bW l 1 1) (cj m),false⟩}else
 if c=73 then nP ou (min (bW l 0 1).toNat m.w) m else
 if c=74 then yK m (bW l 0 0)else
 if c=75 then tA m (bW l 0 0)else
 if c=76 then uY m (0-bW l 0 1)else
 if c=77 then uY m (bW l 0 1)else
 if c=80 then sL m false (bW l 0 1).toNat else
 if c=83 then k' m m.cz (bW l 0 1) true else
 if c=84 then k' m m.cz (0-bW l 0 1) false else
 if c=88 then L9 m (bW l 0 1)else
 if c=90 then nP qH (min (bW l 0 1).toNat m.w) m else
 if c=96 then A5 m (bW l 0 1)else
 if c=97 then{m with aG:=ni m.aG (bW l 0 1) (cj m)}else
 if c=100 then{m with aG:=⟨toR (bW l 0 1) (cj m),k9 (m.aG.c+1) (cj m),false⟩}else
 if c=101 then{m with aG:=iB m.aG (0-bW l 0 1) (cj m)}else
 if c=102 then{m with aG:=⟨toR (bW l 0 1) (cj m),k9 (bW l 1 1) (cj m),false⟩}else
 if c=103 then AT m (bW l 0 0)else
 if c=110 then AU m (bW l 0 0)else
 if c=114 then DO m l else
 if c=115 then D0 m else
 if c=117 then yO m else
 m
def ahJ{m b1:M}{H ap:aa}(h:h4 m H)(j:qI 0 b1 ap)(J:sK 0 H ap):h4 b1 ap:=by
 obtain⟨a,af,b,ag,T,rfl,a0,cV,aE,aH,AQ,AR,aB,ak,cU,an,mu,ch⟩:=h;obtain⟨A,cJ,B,cK,o9,nN,cC,i2,i3,i4⟩:=j;obtain⟨bG,bH,cG⟩:=J
 match ap,cC,i2,i3,bG,bH,cG with
 |y::cW,cC,i2,i3,bG,bH,cG=>
  cases cC
  match A,B,i2,i3,i4 with
  |0,_,i2,_,_=>cases i2
  |_+1,0,_,i3,_=>cases i3
  |bY+1,bV+1,i2,i3,i4=>
   refine⟨bY,cJ,bV,cK,cW,rfl,bY,bV,o9,nN,rfl,rfl,i2,i3,R,sd an (by simpa using bG),?_,?_⟩
   ·intro x al;obtain⟨eQ,gW⟩:∃eQ,T[0]?=some eQ:=⟨T[0],eT R⟩;obtain⟨lT,gg,fN⟩:=cG 1 eQ gW R (mu eQ gW);rw[jM,al]at gg;cases gg;exact fN
   ·intro x al;obtain⟨eQ,gW⟩:∃eQ,T[1]?=some eQ:=⟨T[1],eT R⟩;obtain⟨lT,gg,fN⟩:=cG 2 eQ gW R (ch eQ gW);rw[jM,al]at gg;cases gg;exact fN
def D5(m:M)(af ag aE aH:Nat)(c:List U):aa:=.box (aT m 1 af 2 ag)::.ax 5 af aE (aX m.G)::.ax 5 ag aH (aX m.O)::.box c::.map yQ::St
def iY{m:M}{af ag aE aH:Nat}{c:List U}:uX (D5 m af ag aE aH c) 0 m 1 af 2 ag:=⟨rfl,⟨aE,rfl⟩,⟨aH,rfl⟩,by decide⟩
def L':List Nat:=[154,157,160,184,185,186]
def ahK(m:M)(l:List Int)(H:aa)(c:Int)(f:Nat)(ox kK:List U):Prop:=(f∈L'∧((ox=[]∧∃k,kK=[.ptr k 0 0 0])∨(ox=[.ptr 0 0 0 0]∧kK=[])))∧∃ap,dj E (b4 E) f (ox++.i (.ae 1 (b3 l) false)::kK) H=some (.be [],ap)∧h4 (yR m c l) ap
def iZ{m b1:M}{l:List Int}{c:Int}{f:Nat}{ox kK:List U}{af ag aE aH:Nat}{q:List U}(aK:f∈L'∧((ox=[]∧∃k,kK=[.ptr k 0 0 0])∨(ox=[.ptr 0 0 0 0]∧kK=[])))(he:b1=yR m c l)(h:∃ap,cn f (ox++.i (.ae 1 (b3 l) false)::kK) (D5 m af ag aE aH q) (.be []) ap∧qI 0 b1 ap∧sK 0 (D5 m af ag aE aH q) ap):ahK m l (D5 m af ag aE aH q) c f ox kK:=by obtain⟨ap,j,J,aw⟩:=h;exact⟨aK,ap,j,he▸ahJ h4.dF J aw⟩
def aM3{m:M}(hm:bk m)(l:List Int)(an:l.length<100000)(j:1≤bW l 0 1∧bW l 0 1≤100000)(aV:0≤bW l 0 0∧bW l 0 0≤100000)(af ag aE aH:Nat)(q:List U)(p:aD×U)(av:p∈yQ):∃(c:Int) (f:Nat) (ox kK:List U),p=(.v (.int .u8 c),.aR (.func f) ox kK)∧ahK m l (D5 m af ag aE aH q) c f ox kK:=by
 simp only[yQ,mU,ya,or_false]at av;rcases av with rfl|rfl|rfl|rfl|rfl|rfl|rfl|rfl|rfl|rfl|rfl|rfl|rfl|rfl|rfl|rfl|rfl|rfl|rfl|rfl|rfl|rfl|rfl|rfl|rfl|rfl|rfl|rfl|rfl
 ·exact⟨64,_,_,_,rfl,iZ ⟨by decide,.inl ⟨rfl,_,rfl⟩⟩ rfl (pb (br:=[.i (.ae 1 (b3 l) false)]) (k:=5) (ab:=6) rfl rfl rfl (aMu hm l an j) iY rfl rfl (by decide))⟩
 ·exact⟨65,_,_,_,rfl,iZ ⟨by decide,.inl ⟨rfl,_,rfl⟩⟩ rfl (A3 (br:=[.i (.ae 1 (b3 l) false)]) (k:=7) rfl rfl rfl (aMG hm l an j) iY rfl)⟩
 ·exact⟨66,_,_,_,rfl,iZ ⟨by decide,.inl ⟨rfl,_,rfl⟩⟩ rfl (pb (br:=[.i (.ae 1 (b3 l) false)]) (k:=8) (ab:=6) rfl rfl rfl (ahD hm l an j) iY rfl rfl (by decide))⟩
 ·exact⟨67,_,_,_,rfl,iZ ⟨by decide,.inl ⟨rfl,_,rfl⟩⟩ rfl (A3 (br:=[.i (.ae 1 (b3 l) false)]) (k:=9) rfl rfl rfl (ahG hm l an j) iY rfl)⟩
 ·exact⟨68,_,_,_,rfl,iZ ⟨by decide,.inl ⟨rfl,_,rfl⟩⟩ rfl (pb (br:=[.i (.ae 1 (b3 l) false)]) (k:=10) (ab:=6) rfl rfl rfl (aMw hm l an j) iY rfl rfl (by decide))⟩
 ·exact⟨69,_,_,_,rfl,iZ ⟨by decide,.inl ⟨rfl,_,rfl⟩⟩ rfl (aL_ (br:=[.i (.ae 1 (b3 l) false)]) (k:=11) (i:=12) (ab:=6) rfl rfl rfl (aML hm l an j) iY rfl rfl rfl (by decide) (by decide) (by decide))⟩
 ·exact⟨70,_,_,_,rfl,iZ ⟨by decide,.inl ⟨rfl,_,rfl⟩⟩ rfl (pb (br:=[.i (.ae 1 (b3 l) false)]) (k:=13) (ab:=6) rfl rfl rfl (aMx hm l an j) iY rfl rfl (by decide))⟩
 ·exact⟨71,_,_,_,rfl,iZ ⟨by decide,.inl ⟨rfl,_,rfl⟩⟩ rfl (pb (br:=[.i (.ae 1 (b3 l) false)]) (k:=14) (ab:=6) rfl rfl rfl (ahE hm l an j) iY rfl rfl (by decide))⟩
 ·exact⟨72,_,_,_,rfl,iZ ⟨by decide,.inl ⟨rfl,_,rfl⟩⟩ rfl (Hn (br:=[.i (.ae 1 (b3 l) false)]) (q:=6) rfl rfl rfl (ahH hm l an) iY rfl)⟩
 ·exact⟨73,_,_,_,rfl,iZ ⟨by decide,.inl ⟨rfl,_,rfl⟩⟩ rfl (pb (br:=[.i (.ae 1 (b3 l) false)]) (k:=15) (ab:=6) rfl rfl rfl (aMz hm l an j) iY rfl rfl (by decide))⟩
 ·exact⟨74,_,_,_,rfl,iZ ⟨by decide,.inl ⟨rfl,_,rfl⟩⟩ rfl (A3 (br:=[.i (.ae 1 (b3 l) false)]) (k:=16) rfl rfl rfl (aMH hm l an aV) iY rfl)⟩
 ·exact⟨75,_,_,_,rfl,iZ ⟨by decide,.inl ⟨rfl,_,rfl⟩⟩ rfl (A3 (br:=[.i (.ae 1 (b3 l) false)]) (k:=17) rfl rfl rfl (aMI hm l an aV) iY rfl)⟩
 ·exact⟨76,_,_,_,rfl,iZ ⟨by decide,.inl ⟨rfl,_,rfl⟩⟩ rfl (aL' (br:=[.i (.ae 1 (b3 l) false)]) (k:=18) (i:=19) (ab:=6) rfl rfl rfl (aMM hm l an j) iY rfl rfl rfl (by decide) (by decide) (by decide))⟩
 ·exact⟨77,_,_,_,rfl,iZ ⟨by decide,.inl ⟨rfl,_,rfl⟩⟩ rfl (pb (br:=[.i (.ae 1 (b3 l) false)]) (k:=20) (ab:=6) rfl rfl rfl (aMN hm l an j) iY rfl rfl (by decide))⟩
 ·exact⟨80,_,_,_,rfl,iZ ⟨by decide,.inl ⟨rfl,_,rfl⟩⟩ rfl (pb (br:=[.i (.ae 1 (b3 l) false)]) (k:=21) (ab:=6) rfl rfl rfl (aMv hm l an j) iY rfl rfl (by decide))⟩
 ·exact⟨83,_,_,_,rfl,iZ ⟨by decide,.inl ⟨rfl,_,rfl⟩⟩ rfl (pb (br:=[.i (.ae 1 (b3 l) false)]) (k:=22) (ab:=6) rfl rfl rfl (aMB hm l an j) iY rfl rfl (by decide))⟩
 ·exact⟨84,_,_,_,rfl,iZ ⟨by decide,.inl ⟨rfl,_,rfl⟩⟩ rfl (pb (br:=[.i (.ae 1 (b3 l) false)]) (k:=23) (ab:=6) rfl rfl rfl (aMC hm l an j) iY rfl rfl (by decide))⟩
 ·exact⟨88,_,_,_,rfl,iZ ⟨by decide,.inl ⟨rfl,_,rfl⟩⟩ rfl (pb (br:=[.i (.ae 1 (b3 l) false)]) (k:=24) (ab:=6) rfl rfl rfl (aMD hm l an j) iY rfl rfl (by decide))⟩
 ·exact⟨90,_,_,_,rfl,iZ ⟨by decide,.inl ⟨rfl,_,rfl⟩⟩ rfl (pb (br:=[.i (.ae 1 (b3 l) false)]) (k:=25) (ab:=6) rfl rfl rfl (aMA hm l an j) iY rfl rfl (by decide))⟩
 ·exact⟨96,_,_,_,rfl,iZ ⟨by decide,.inl ⟨rfl,_,rfl⟩⟩ rfl (pb (br:=[.i (.ae 1 (b3 l) false)]) (k:=14) (ab:=6) rfl rfl rfl (ahE hm l an j) iY rfl rfl (by decide))⟩
 ·exact⟨97,_,_,_,rfl,iZ ⟨by decide,.inl ⟨rfl,_,rfl⟩⟩ rfl (A3 (br:=[.i (.ae 1 (b3 l) false)]) (k:=26) rfl rfl rfl (ahG hm l an j) iY rfl)⟩
 ·exact⟨100,_,_,_,rfl,iZ ⟨by decide,.inl ⟨rfl,_,rfl⟩⟩ rfl (pb (br:=[.i (.ae 1 (b3 l) false)]) (k:=27) (ab:=6) rfl rfl rfl (aMy hm l an j) iY rfl rfl (by decide))⟩
 ·exact⟨101,_,_,_,rfl,iZ ⟨by decide,.inl ⟨rfl,_,rfl⟩⟩ rfl (pb (br:=[.i (.ae 1 (b3 l) false)]) (k:=28) (ab:=6) rfl rfl rfl (ahD hm l an j) iY rfl rfl (by decide))⟩
 ·exact⟨102,_,_,_,rfl,iZ ⟨by decide,.inl ⟨rfl,_,rfl⟩⟩ rfl (Hn (br:=[.i (.ae 1 (b3 l) false)]) (q:=6) rfl rfl rfl (ahH hm l an) iY rfl)⟩
 ·exact⟨103,_,_,_,rfl,iZ ⟨by decide,.inl ⟨rfl,_,rfl⟩⟩ rfl (A3 (br:=[.i (.ae 1 (b3 l) false)]) (k:=29) rfl rfl rfl (aMJ hm l an aV) iY rfl)⟩
 ·exact⟨110,_,_,_,rfl,iZ ⟨by decide,.inl ⟨rfl,_,rfl⟩⟩ rfl (A3 (br:=[.i (.ae 1 (b3 l) false)]) (k:=30) rfl rfl rfl (aMK hm l an aV) iY rfl)⟩
 ·exact⟨114,_,_,_,rfl,iZ ⟨by decide,.inr ⟨rfl,rfl⟩⟩ rfl (Hm (br:=[.i (.ae 1 (b3 l) false)]) rfl rfl rfl (aK3 hm l an) iY)⟩
 ·exact⟨115,_,_,_,rfl,iZ ⟨by decide,.inl ⟨rfl,_,rfl⟩⟩ rfl (Hn (br:=[.i (.ae 1 (b3 l) false)]) (q:=6) rfl rfl rfl (aMq hm l) iY rfl)⟩
 ·exact⟨117,_,_,_,rfl,iZ ⟨by decide,.inl ⟨rfl,_,rfl⟩⟩ rfl (Hn (br:=[.i (.ae 1 (b3 l) false)]) (q:=6) rfl rfl rfl (aMr hm l) iY rfl)⟩
def ahL{k:aD}:∀{es:List (aD×U)} {v:U},hH k es=some (some v)→∃p∈es,gm k p.1=some true∧p.2=v
 |[],v,h=>by simp[hH]at h
 |(ab,x)::r,v,h=>by
  simp only[hH]at h;cases aS:gm k ab with
  |none=>rw[aS]at h;cases h
  |some b=>
   rw[aS]at h;cases b with
   |true=>cases h;exact⟨_,LS,aS,rfl⟩
   |false=>obtain⟨p,j,J⟩:=ahL h;exact⟨p,xK _ j,J⟩
def ahM(c:Int):∀{es:List (aD×U)},(∀p∈es,∃d,p.1=.v (.int .u8 d))→∃aj,hH (.v (.int .u8 c)) es=some aj
 |[],_=>⟨none,rfl⟩
 |(ab,x)::r,h=>by
  obtain⟨d,aM⟩:=h _ LS;simp only at aM;subst aM;simp only[hH,gm,if_true];by_cases e:c=d
  ·simp only[e,decide_true];exact⟨_,rfl⟩
  ·simp only[e,decide_false];exact ahM c λ p av=>h p (xK _ av)
def aM4:∀p∈yQ,∃d,p.1=.v (.int .u8 d):=by intro p av;simp only[yQ,mU,ya,or_false]at av;rcases av with rfl|rfl|rfl|rfl|rfl|rfl|rfl|rfl|rfl|rfl|rfl|rfl|rfl|rfl|rfl|rfl|rfl|rfl|rfl|rfl|rfl|rfl|rfl|rfl|rfl|rfl|rfl|rfl|rfl<;>exact⟨_,rfl⟩
def aM5{c:Int}(h:hH (.v (.int .u8 c)) yQ=some none)(m:M)(l:List Int):yR m c l=m:=by have h:=Mu.1 h;simp only[yQ,mU,ya,or_false,forall_eq_or_imp,forall_eq,gm,if_true,bj,decide_eq_false_iff_not]at h;simp only[yR,h,if_false]
def uZ(e:dy):U:=.agg (kP (Dj e))
end Go.VI
