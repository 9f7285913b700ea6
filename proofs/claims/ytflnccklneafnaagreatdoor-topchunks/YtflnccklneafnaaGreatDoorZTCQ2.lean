import Derived.Test.YtflnccklneafnaaGreatDoorZTCQ1
import Derived.Tactics
import Derived.TacticsIn
import Derived.OrdersIn
import Derived.LoopN
import Derived.LoopNIn
import Derived.RangeFuncLeaves
import Derived.RangeFuncRecord
import Derived.RangeFuncSeq
import Derived.Below
import Derived.Scope
import Derived.ChangeSame
import Derived.ChangeSlices
import Derived.WideShapes
import Derived.RowKit
import Derived.WideKeyArgs
import Derived.ChangeArms
import Derived.ChangeReads
import Derived.ChangeMaps5
import Derived.Lib.Bytealg
import Derived.Lib.ItoaNum
import Derived.Lib.SlTrimSet
import Derived.Lib.ValidU
open Array renaming getElem?_toList→mH,getD_eq_getD_getElem?→di,getElem?_eq_some_iff→jY,length_toList→uW,getElem?_push→HT,getElem?_eq_getElem→qM,eq_empty_of_size_eq_zero→y9,replicate→y_,getElem?_append_left→xc,toList_map→MD,size_append→MR,getElem?_append_right→TN,getElem?_replicate→NY
open Bool renaming false_eq_true→fF,and_eq_true→cR,or_eq_true→w2,and_self→M_,not_eq_true'→qW,or_false→xv,false_or→IR,and_eq_false_iff→NX
open Go.Builtin renaming firstCells→iD,append_→qO,copy_→EI
open Go.Call renaming operands→Nv
open Go.Instr renaming sureAddr→yL
open Go.Region renaming before→pT,binds→vh,ready→E5
open Go.Result renaming andThen_ok→eg
open Go.RowKit renaming Below→IV
open Go.RowKit.Below renaming heap_alloc→zB
open Go.Sem renaming run_bind→dT,run_pure→eE,run→tL
open Go.Value renaming cells→tE,oneCell'→Ma
open Go.World renaming cell?→rP,putObj_heap_other→Fk,size_alloc→N4
open List renaming replicate→cB,range'→lF,length_eq_zero_iff→pX,map_cons→fh,mem_cons→ng,pairwise_cons→uR,getElem?_map→fw,getElem?_eq_some_iff→bF,getElem?_take→nJ,getElem?_drop→rQ,getElem?_append_left→ei,getElem?_append_right→hd,getElem?_eq_getElem→eX,length_append→dp,foldl_cons→yX,all_eq_true→oo,length_cons→cQ,append_assoc→dU,mapM_cons→Me,getElem?_set_ne→dw,set_getElem_self→Br,getElem?_set_self→kl,append_nil→c8,set_append_right→yY,set_set→uY,nil_append→gJ,getElem?_append→tI,mem_of_getElem?→kn,length_nil→dr,getElem_of_mem→Es,length_set→jC,take→ek,getElem?_cons_zero→p6,size_toArray→H8,length_take→hE,length_drop→iG,mem_append→fS,getElem?_eq_none→rW,length_pos_iff→M2,ext_getElem?→EO,getElem?_cons_succ→jF,nodup_cons→EQ,mem_filter→Nk,map_congr_left→zn,getD_cons_zero→BW,pairwise_append→NI,length→BY,set_comm→nT,set_append_left→vj,mem_map→Fa,map_nil→fm,take_zero→mQ,take_succ_cons→vk,mem_range→zv,getD_eq_getElem?_getD→oF,drop_zero→il,drop_eq_getElem_cons→jq,drop_length→mR,length_eq_one_iff→VM
open List.cons renaming injEq→Bu
open Nat renaming lt_of_lt_of_le→wO,le_refl→cL,le_trans→rN,add_zero→e7,mul_le_mul_right→jX,add_mul→hc,zero_add→cp,mul_comm→uT,div_add_mod→yR,add_assoc→tB,mul_one→HC,sub_self→rR,min_eq_left→MX,not_le→e',add_comm→qb,zero_le→jp,not_lt_zero→q8,le_max_left→B8,le_max_right→B9
open Ne renaming symm→a'
open Option renaming map_eq_some_iff→c0,bind_eq_some_iff→Bo,getD_some→i1,map_some→en,ext→zF
open Option.some renaming inj→pY,injEq→bg
open Prod.mk renaming injEq→bw
namespace Go.VI
set_option maxRecDepth 100000
set_option maxHeartbeats 40000000
set_option linter.unusedVariables false
set_option linter.unusedSimpArgs false
set_option linter.defProp false
section
variable{E:Env}{ad:b'}{ab:b8}{H:aa}{w:World}
def aj4(ap:b5 E ad ab H w){t t2 d':TypeId}{z:Nat}{s x v:U}{cP lj:Value}{an:aa}(h:ts E H t t2 z s x=some (v,an))(fQ:a6 ad ab H s cP)(rx:a6 ad ab H x lj):
  ∃u aq,(qO #[t,t2] d' #[cP,lj]).run E.P w=.ok u aq∧ci E ad ab H w an aq λ aL aB=>a6 aL aB an v u:=by
 unfold ts at h;split at h;rotate_left
 ·cases h
 rename_i ho;obtain⟨e,b,dX,he,bf,aj,hzero,e9,nN,pc,ze⟩:=Ih ho;obtain⟨lg,MP,EE⟩:=TC hzero pc ze;have Ii:=Tn (P:=E.P) (t:=t2) (.inl nN);unfold uM at h;split at h;rotate_left
 ·cases h
 rename_i d new H1 xh;obtain⟨g2,off,s2,c7,_,mN,b9,fy,rfl,ew,a2,Ij,rfl,mh,j4,pk,_⟩:=Ie E.P ap rx xh;have fk:d<H.length:=(bF.1 mN).1;have ph:∀(i:Nat) (y:bT),i<new.length→c7[off+i]?=some y→l9 ad ab w z d (off+i) y (ew.getD i undef):=λ i y ax aY=>pk i y (by rw[fy i ax];exact aY)
 let MQ:List (List aC):=cB new.length []
 have nO:MQ.length=new.length:=by simp[MQ]
 have grow:∀(base:Option Addr) (sl cap:Nat) (gL:Array Value),(∀aq:World,aq.heap=w.heap→(iD 1 sl (.slice base sl cap)).run E.P aq=.ok gL aq)→gL.size=sl→cap<sl+new.length→sl+new.length<1073741824→
   ∃aq iE iH,(qO #[t,t2] d' #[.slice base sl cap,.slice a2 new.length Ij]).run E.P w=.ok (.slice (some ⟨w.heap.size,0,none⟩) (sl+new.length) iE) aq∧sl+new.length≤iE∧aq.heap=w.heap.push (.cells iH e)∧aq.os=w.os∧aq.tape=w.tape∧aq.output=w.output∧
    iE≤iH.size∧(∀ac,ac<sl→iH.getD ac undef=gL.getD ac undef)∧(∀ac,ac<new.length→iH.getD (sl+ac) undef=ew.getD ac undef):=by
  intro base sl cap gL j I av ba;obtain⟨aq,iE,g1,g2,g3,g4,g5,g6⟩:=To (w:=w) (d':=d') (t2:=t2) (rows:=([]:List (List aC))) (new:=MQ) (y:=.slice a2 new.length Ij) he bf aj MP Ii (λ aq _=>by rw[nO];exact BC aq) (by rw[nO];exact av) (by rw[nO];exact ba) e9 j (by rw[nO];exact mh) EE;rw[nO]at g1 g2 g3;refine⟨aq,iE,_,g1,g2,g3,g4,g5,g6,?_,λ ac a_=>?_,λ ac a_=>?_⟩
  ·simp only[MR,I,j4,Tm,EE];omega
  ·simp[di,Array.append_assoc,xc (show ac<gL.size by omega)]
  ·rw[di,Array.append_assoc,TN R,I,show sl+ac-sl=ac by omega,xc R,←di]
 have BD:∀{aq:World} {ai:Obj},aq.heap=w.heap.push ai→∀b,b<w.heap.size→aq.heap[b]?=w.heap[b]?:=by intro aq ai hw b aj;rw[hw,HT,if_neg R]
 split at h
 ·rename_i aw;split at h;rotate_left
  ·cases h
  rename_i hlen;simp only[bg,bw]at h;obtain⟨rfl,rfl⟩:=h;obtain⟨a,rfl⟩:∃a,cP=.slice a 0 0:=by
   cases iA fQ with
   |nil aw ex a cap ak=>exact⟨a,by rw[ak rfl]⟩
   |sl aw rows ex b off cap cs elem bj dA cc ag ak ah j I=>exact⟨_,by rw[ak rfl];rfl⟩
  have MS:(H.set d (Chunk.az z g2 (s2+1) (e5 c7 off new.length))).length=H.length:=by simp
  by_cases aW:new.length=0
  ·have xi:new=[]:=pX.1 aW;subst xi;have sO:ew=#[]:=y9 j4;refine⟨_,w,Ey he bf Ii (BC w) (cL _) (by rw[←sO];exact mh w rfl),?_⟩;obtain⟨ef,dW,ou,gM,mO,_⟩:=BB ap mN (g1:=g2) (s1:=s2+1) (tM:=e5 c7 off 0) (.inr ⟨rfl,R,by rw[rV]⟩) (by rw[rV];exact cL _) (λ i y aY=>by rw[rV]at aY;exact aY);obtain⟨eY,ev,h5,gQ,j3,pj⟩:=MO ou z a;exact⟨eY,ev,h5,gM.trans gQ,mO.trans j3,pj⟩
  ·obtain⟨aq,iE,iH,bG,bC,cE,eU,lR,u_,BE,_,u'⟩:=grow a 0 0 #[] (λ aq _=>by cases a<;>simp[iD,loadCells,loadCellsFrom]) rfl R R;rw[cp]at bG;refine⟨_,aq,bG,?_⟩;rw[MS];have fZ:ab (⟨H.length,0⟩:fb)=none:=by
    cases h:ab (⟨H.length,0⟩:fb)with
    |none=>rfl
    |some p=>have:=ap.Bc (c:=H.length) (b:=p.1) (n:=p.2) h;omega
   refine Bx ap (c:=H.length) (d:=d) (p:=0) (rows:=[]) (cs:=#[]) (ew:=ew) (fe:=w.heap.size) (iH:=iH) (ao:=e) (u6:=(0,0)) (aq:=aq) (n:=new.length) (off:=off) (eB:=new) (g1:=0) (s1:=0) (z:=z) (g2:=g2) (s2:=s2) (c7:=c7)
     R mN b9 (by simp) (by rw[hd (by simp)];simp) (by rw[ei (by simpa using fk)];simp[fk]) (λ e j I=>?_) (λ h=>R) (w8 cE) (pb _) R (.inr (cL _)) (λ b aj _=>BD cE b aj) (by rw[cE];simp) eU lR u_
    ph (λ ac y a_=>by simp at a_) (λ ac y a_=>?_) (λ aB gV=>?_)
   ·by_cases av:e<H.length
    · rw[ei (by simpa using av),dw (a' I)]
    · rw[rW (by simp;omega),rW R]
   ·have ld:=(bF.1 a_).1;exact .inl ⟨ac,ld,R,by rw[←fy ac ld];exact a_,by have:=u' ac ld;rwa [cp]at this⟩
   ·have ol:(H.set d (Chunk.az z g2 (s2+1) (e5 c7 off new.length))++[Chunk.az z 0 0 new])[H.length]?=some (.az z 0 0 new):=by rw[hd (by simp)];simp
    refine .x _ _ ⟨by simp,⟨_,_,rfl⟩,λ c_ aU dD eB h=>?_⟩ (.d ol);rw[hd (by simp)]at h;simp at h;obtain⟨rfl,rfl,rfl,rfl⟩:=h;exact⟨cL _,λ _=>⟨R,_,_,rfl,.inr ⟨_,_,gV,R,R,.inl rfl⟩⟩⟩
 ·rename_i c g len;unfold A6 at h;split at h;rotate_left
  ·cases h
  rename_i c_ aU dD rows zf;split at h;rotate_left
  ·cases h
  rename_i MT;obtain⟨rfl,rfl,e2,hlen,pg⟩:=MT;simp only[bg,bw]at h;obtain⟨rfl,rfl⟩:=h;have nl:H[c]?=some (.az z g dD rows):=by rw[dw (a' e2)]at zf;exact zf
  have ch:c<H.length:=(bF.1 nl).1;obtain⟨_,a,cap,rfl,fi⟩:=((xb fQ).2.2 _ _ _ _ nl).2 rfl;have EF:((H.set d (Chunk.az z g2 (s2+1) (e5 c7 off new.length))).set c (.az z (g+1) 0 (rows.take len++new)))[c]?=some (.az z (g+1) 0 (rows.take len++new)):=by simp[ch]
  have EG:((H.set d (Chunk.az z g2 (s2+1) (e5 c7 off new.length))).set c (.az z (g+1) 0 (rows.take len++new)))[d]?=some (.az z g2 (s2+1) (e5 c7 off new.length)):=by rw[dw e2];simp[fk]
  have qR:∀e,e≠c→e≠d→((H.set d (Chunk.az z g2 (s2+1) (e5 c7 off new.length))).set c (.az z (g+1) 0 (rows.take len++new)))[e]?=H[e]?:=λ e j I=>by rw[dw (a' j),dw (a' I)]
  have zg:∀(aL:b') (aB:b8) (a:Option Addr) (cap:Nat),D_ aB c (len+new.length) 0 (len+new.length) (.slice a (len+new.length) cap)→a6 aL aB ((H.set d (Chunk.az z g2 (s2+1) (e5 c7 off new.length))).set c (.az z (g+1) 0 (rows.take len++new))) (.x (.d c (g+1) 0 (len+new.length))) (.slice a (len+new.length) cap):=by intro aL aB a cap ah;refine .x _ _ ⟨by simpa using ch,⟨_,_,rfl⟩,λ c_ aU dD eB h=>?_⟩ (.az EF);rw[EF]at h;cases h;refine⟨cL _,λ _=>?_⟩;rw[show(rows.take len++new).length=len+new.length by simp;omega];exact ah
  have MU:∀(ac:Nat) (y:bT),(rows.take len++new)[ac]?=some y→(∃i,i<new.length∧ac=len+i∧new[i]?=some y)∨(ac<len∧rows[ac]?=some y):=by
   intro ac y a_;rw[tI]at a_;have ao:(rows.take len).length=len:=by simp;omega
   rw[ao]at a_;split at a_
   ·rename_i be;rw[nJ,if_pos be]at a_;exact .inr ⟨be,a_⟩
   ·exact .inl ⟨ac-len,(bF.1 a_).1,R,a_⟩
  by_cases aW:new.length=0
  ·have xi:new=[]:=pX.1 aW;subst xi;have sO:ew=#[]:=y9 j4;have jZ:len≤cap:=by
    rcases fi with⟨j,I⟩|⟨_,_,_,av,_⟩
    · rcases ap.b6 _ _ nl with⟨_,cy⟩|⟨b,cs,elem,bj,cm,_⟩
      ·subst cy;simp at hlen;omega
      ·rw[j]at cm;cases cm
    · omega
   refine⟨_,w,Ey he bf Ii (BC w) jZ (by rw[←sO];exact mh w rfl),?_⟩;obtain⟨ef,dW,ou,gM,mO,ao,aH⟩:=BB ap mN (g1:=g2) (s1:=s2+1) (tM:=e5 c7 off 0) (.inr ⟨rfl,R,by rw[rV]⟩) (by rw[rV];exact cL _) (λ i y aY=>by rw[rV]at aY;exact aY);subst ao aH;obtain⟨eY,ev,h5,gQ,j3,bN,c'⟩:=BB ou zf (g1:=g+1) (s1:=0) (tM:=rows.take len++[]) (.inl R) (by simp;omega) (λ i y aY=>by
    rw[c8,nJ]at aY;split at aY
    · exact aY
    · cases aY)
   subst bN c';refine⟨_,_,h5,gM.trans gQ,mO.trans j3,zg _ _ _ _ ⟨by simp,_,_,rfl,?_⟩⟩;rcases fi with j|⟨b,m,j,I,av,ba⟩
   ·exact .inl j
   ·exact .inr ⟨b,m,j,by simp;omega,av,ba⟩
  ·rcases ap.b6 _ _ nl with⟨cm,cy⟩|⟨cT,cs,elem,bj,cb,sG,gH,eu,eh⟩
   ·subst cy;obtain rfl:len=0:=by simpa using hlen
    obtain rfl:cap=0:=by
      rcases fi with⟨_,I⟩|⟨_,_,j,_⟩
      ·exact I
      ·rw[cm]at j;cases j
    obtain⟨aq,iE,iH,bG,bC,cE,eU,lR,u_,BE,_,u'⟩:=grow a 0 0 #[] (λ aq _=>by cases a<;>simp[iD,loadCells,loadCellsFrom]) rfl R R;refine⟨_,aq,bG,?_⟩;refine Bx ap (c:=c) (d:=d) (p:=0) (rows:=[]) (cs:=#[]) (ew:=ew) (fe:=w.heap.size) (iH:=iH) (ao:=e) (u6:=(0,0)) (aq:=aq) (n:=new.length) (off:=off) (eB:=ek 0 []++new) (g1:=g+1) (s1:=0) (z:=z) (g2:=g2) (s2:=s2) (c7:=c7)
      e2 mN b9 (by simp) EF EG qR (λ _=>⟨_,_,_,_,nl,.inl R⟩) (w8 cE) (pb _) (by simp;omega) (.inr (cL _)) (λ b aj _=>BD cE b aj) (by rw[cE];simp) eU lR u_ ph (λ ac y a_=>by simp at a_) (λ ac y a_=>?_) (λ aB gV=>?_)
    · rcases MU ac y a_ with⟨i,ax,rfl,aY⟩|⟨j,_⟩
      ·exact .inl ⟨i,ax,rfl,by rw[←fy i ax];exact aY,u' i ax⟩
      ·omega
    · exact zg _ _ _ _ ⟨R,_,_,rfl,.inr ⟨_,_,gV,R,R,.inl rfl⟩⟩
   ·rcases fi with⟨j,_⟩|⟨bR,m,j,pi,kr,tN⟩
    · rw[cb]at j;cases j
    rw[cb]at j;cases j;by_cases MV:len+new.length≤cap
    · rcases tN with rfl|⟨_,I⟩;rotate_left
      ·omega
      have rU:∀v∈ew.toList,v.oneCell'=true:=by
       intro v bh;obtain⟨ac,a_,rfl⟩:=Es bh;have ld:ac<ew.size:=by simpa using a_
       have:=(pk ac _ (eX R)).one;simpa[di,ld]using this
      obtain⟨aq,hC,bG,bC,cE,eU,lR,u_,BE,sP,u'⟩:=u0 E.P cT (0+len*1) elem bj ew.toList 0 cs w sG gH (by simp;omega) rU;refine⟨_,aq,Tq he bf Ii (BC w) MV (mh w rfl) bG,?_⟩;have kp:∀ac,hC.getD ac undef=if len≤ac∧ac<len+new.length then ew.getD (ac-len) undef else cs.getD ac undef:=by
       intro ac;rw[di,u'];simp only[e7,uW,j4,cp,HC];split
       ·rw[mH,di]
       ·rw[di]
      refine Bx ap (c:=c) (d:=d) (p:=len) (rows:=rows) (cs:=cs) (ew:=ew) (fe:=cT) (iH:=hC) (ao:=elem) (u6:=bj) (aq:=aq) (n:=new.length) (off:=off) (eB:=rows.take len++new) (g1:=g+1) (s1:=0) (z:=z) (g2:=g2) (s2:=s2) (c7:=c7)
       e2 mN b9 (by simp) EF EG qR (λ _=>⟨_,_,_,_,nl,.inl R⟩) bC (by rw[sP];exact gH) (by rw[sP];simp;omega) (.inl (by rw[sP];exact cb)) (λ b aj aE=>cE b λ e=>aE _ (e▸cb)) (by rw[eU];exact cL _) lR u_ BE ph eh (λ ac y a_=>?_) (λ aB gV=>?_)
      ·rcases MU ac y a_ with⟨i,ax,rfl,aY⟩|⟨j,I⟩
       ·exact .inl ⟨i,ax,rfl,by rw[←fy i ax];exact aY,by rw[kp,if_pos R,show len+i-len=i by omega]⟩
       ·exact .inr ⟨R,I,by rw[kp,if_neg R]⟩
      ·exact zg _ _ _ _ ⟨R,_,_,rfl,.inr ⟨_,_,gV,R,by rw[sP];omega,.inl rfl⟩⟩
    · obtain⟨gL,cr,rX,va⟩:∃gL:Array Value,(∀aq:World,aq.heap=w.heap→(iD 1 len (.slice a len cap)).run E.P aq=.ok gL aq)∧gL.size=len∧∀(ac:Nat) (y:bT),(rows.take len)[ac]?=some y→l9 ad ab w z c ac y (gL.getD ac undef):=by
       have aR:lC z H (.x (.d c g 0 len))=some (c,(rows.drop 0).take len,H.set c (.az z g (dD+1) (e5 rows 0 len))):=by simp only[lC,uL,nl];rw[if_pos ⟨trivial,trivial,R⟩]
       obtain⟨g3,aQs,tO,aQt,mf,cm,cy,fc,iW,gL,a3,aQu,l_,wP,TO,aj5,_⟩:=Ie E.P ap fQ aR;have Ik:((rows.drop 0).take len).length=len:=by simp;omega
       simp only[U.x.injEq,cN.d.injEq]at mf;obtain⟨_,_,rfl,_⟩:=mf;rw[Ik]at wP TO;refine⟨gL,wP,TO,λ ac y a_=>?_⟩;have:=aj5 ac y (by simpa using a_);rwa [cp]at this
      obtain⟨aq,iE,iH,bG,bC,cE,eU,lR,u_,BE,sP,u'⟩:=grow a len cap gL cr rX R pg;refine⟨_,aq,bG,?_⟩;refine Bx ap (c:=c) (d:=d) (p:=len) (rows:=rows.take len) (cs:=gL) (ew:=ew) (fe:=w.heap.size) (iH:=iH) (ao:=e) (u6:=(0,0)) (aq:=aq) (n:=new.length) (off:=off) (eB:=rows.take len++new) (g1:=g+1) (s1:=0) (z:=z) (g2:=g2) (s2:=s2) (c7:=c7)
       e2 mN b9 (by simp) EF EG qR (λ _=>⟨_,_,_,_,nl,.inl R⟩) (w8 cE) (pb _) (by simp;omega) (.inr (cL _)) (λ b aj _=>BD cE b aj) (by rw[cE];simp) eU lR u_ ph va (λ ac y a_=>?_) (λ aB gV=>?_)
      ·rcases MU ac y a_ with⟨i,ax,rfl,aY⟩|⟨j,I⟩
       ·exact .inl ⟨i,ax,rfl,by rw[←fy i ax];exact aY,u' i ax⟩
       ·exact .inr ⟨R,by rw[nJ,if_pos j];exact I,sP ac j⟩
      ·exact zg _ _ _ _ ⟨R,_,_,rfl,.inr ⟨_,_,gV,R,R,.inl rfl⟩⟩
 ·cases h
def aj6(ap:b5 E ad ab H w){t t2 d':TypeId}{z:Nat}{x y v:U}{EH lj:Value}{an:aa}(h:qx E H t z x y=some (v,an))(rd:a6 ad ab H x EH)(rx:a6 ad ab H y lj):
  ∃u aq,(EI #[t,t2] d' #[EH,lj]).run E.P w=.ok u aq∧ci E ad ab H w an aq λ aL aB=>a6 aL aB an v u:=by
 unfold qx at h;split at h;rotate_left
 ·cases h
 rename_i ho;obtain⟨e,b,dX,he,bf,aj,hzero,e9,nN,pc,ze⟩:=Ih ho;unfold yC at h;split at h;rotate_left
 ·cases h
 rename_i d new H1 xh;obtain⟨g2,off,s2,c7,_,mN,b9,fy,rfl,ew,a2,Ij,rfl,mh,j4,pk,_⟩:=Ie E.P ap rx xh;have fk:d<H.length:=(bF.1 mN).1;have ph:∀(i:Nat) (y:bT),i<new.length→c7[off+i]?=some y→l9 ad ab w z d (off+i) y (ew.getD i undef):=λ i y ax aY=>pk i y (by rw[fy i ax];exact aY)
 split at h;rotate_left
 ·cases h
 rename_i c g p len;unfold A7 at h;split at h;rotate_left
 ·cases h
 rename_i c_ aU dD rows zf;split at h;rotate_left
 ·cases h
 rename_i MT;obtain⟨rfl,rfl,e2,hlen,MW⟩:=MT;simp only[bg,bw]at h;obtain⟨rfl,rfl⟩:=h;have nl:H[c]?=some (.az z g dD rows):=by rw[dw (a' e2)]at zf;exact zf
 have ch:c<H.length:=(bF.1 nl).1;obtain⟨_,a,cap,rfl,fi⟩:=((xb rd).2.2 _ _ _ _ nl).2 rfl;have zh:Nat.min new.length len=new.length:=MX MW;by_cases aW:new.length=0
 ·have xi:new=[]:=pX.1 aW;subst xi;have sO:ew=#[]:=y9 j4;have zi:(iD 1 0 (.slice a2 0 Ij)).run E.P w=.ok #[] w:=by rw[←sO];exact mh w rfl
  refine⟨.int .i64 0,w,?_,?_⟩
  ·have hm:Nat.min 0 len=0:=Nat.zero_min _;cases a<;>simp[EI,run_underlying (h3 he),(gG bf w).1,BC w,hm,zi,storeCells,goInt]
  ·obtain⟨ef,dW,ou,gM,mO,ao,aH⟩:=BB ap mN (g1:=g2) (s1:=s2+1) (tM:=e5 c7 off 0) (.inr ⟨rfl,R,by rw[rV]⟩) (by rw[rV];exact cL _) (λ i y aY=>by rw[rV]at aY;exact aY);subst ao aH;have ov:rows.take p++(([]:List bT)++rows.drop (p+([]:List bT).length))=rows:=by simp
   obtain⟨eY,ev,h5,gQ,j3,bN,c'⟩:=BB ou zf (g1:=g) (s1:=dD+1) (tM:=rows.take p++(([]:List bT)++rows.drop (p+([]:List bT).length))) (.inr ⟨rfl,R,by rw[ov]⟩) (by rw[ov];exact cL _) (λ i y aY=>by rw[ov]at aY;exact aY);subst bN c';exact⟨_,_,h5,gM.trans gQ,mO.trans j3,.i _ _ (.v _ rfl)⟩
 ·rcases ap.b6 _ _ nl with⟨cm,cy⟩|⟨cT,cs,elem,bj,cb,sG,gH,eu,eh⟩
  ·subst cy;simp at hlen;omega
  ·rcases fi with⟨j,_⟩|⟨bR,m,j,pi,kr,tN⟩
   ·rw[cb]at j;cases j
   rw[cb]at j;cases j;rcases tN with rfl|⟨j,_⟩;rotate_left
   ·omega
   have rU:∀v∈ew.toList,v.oneCell'=true:=by
    intro v bh;obtain⟨ac,a_,rfl⟩:=Es bh;have ld:ac<ew.size:=by simpa using a_
    have:=(pk ac _ (eX R)).one;simpa[di,ld]using this
   obtain⟨aq,hC,bG,bC,cE,eU,lR,u_,BE,sP,u'⟩:=u0 E.P cT p elem bj ew.toList 0 cs w sG gH (by simp;omega) rU;refine⟨.int .i64 new.length,aq,?_,?_⟩
   ·simp[EI,run_underlying (h3 he),(gG bf w).1,BC w,zh,mh w rfl,bG,goInt]
   have kp:∀ac,hC.getD ac undef=if p≤ac∧ac<p+new.length then ew.getD (ac-p) undef else cs.getD ac undef:=by
    intro ac;rw[di,u'];simp only[e7,uW,j4];split
    ·rw[mH,di]
    ·rw[di]
   have fj:(rows.take p++(new++rows.drop (p+new.length))).length=rows.length:=by simp;omega
   refine Bx ap (c:=c) (d:=d) (p:=p) (rows:=rows) (cs:=cs) (ew:=ew) (fe:=cT) (iH:=hC) (ao:=elem) (u6:=bj) (aq:=aq) (n:=new.length) (off:=off) (eB:=rows.take p++(new++rows.drop (p+new.length))) (g1:=g) (s1:=dD+1) (z:=z) (g2:=g2) (s2:=s2) (c7:=c7)
    e2 mN b9 (by simp) (by simp[ch]) (by rw[dw e2];simp[fk]) (λ e j I=>by rw[dw (a' j),dw (a' I)]) (λ _=>⟨_,_,_,_,nl,.inr ⟨rfl,rfl,R,fj,by rw[sP];exact cb⟩⟩)
    bC (by rw[sP];exact gH) (by rw[sP,fj];exact eu) (.inl (by rw[sP];exact cb)) (λ b aj aE=>cE b λ e=>aE _ (e▸cb)) (by rw[eU];exact cL _) lR u_ BE ph eh (λ ac y a_=>?_) (λ aB _=>.i _ _ (.v _ rfl))
   rw[tI]at a_;have ao:(rows.take p).length=p:=by simp;omega
   rw[ao]at a_;split at a_
   ·rename_i be;rw[nJ,if_pos be]at a_;exact .inr ⟨R,a_,by rw[kp,if_neg R]⟩
   ·rename_i be;rw[tI]at a_;split at a_
    ·rename_i I;refine .inl ⟨ac-p,I,R,by rw[←fy _ I];exact a_,?_⟩;rw[kp,if_pos R]
    ·rename_i I;rw[rQ,show p+new.length+(ac-p-new.length)=ac by omega]at a_;exact .inr ⟨R,a_,by rw[kp,if_neg R]⟩
end
section
variable{E:Env}{ad:b'}{ab:b8}{H:aa}{w:World}
def aj7(ap:b5 E ad ab H w){z:Nat}(bf:0<z)(a:Option Addr):ci E ad ab H w (H++[.sl z 0 [] true]) w λ aL aB=>a6 aL aB (H++[.sl z 0 [] true]) (.ref H.length 0 0 0) (.slice a 0 0):=by
 have fy:ab H.length=none:=by
  cases h:ab H.length with
  |none=>rfl
  |some p=>have:=ap.Bc (b:=p.1) (n:=p.2) h;omega
 have hm:e6 ad ab H ad ab (H++[.sl z 0 [] true]):=mG (λ _ _ h=>h) (by simp) λ c ag=>iX.same (by rw[ei ag]) (λ _=>rfl)
 refine⟨ad,ab,⟨ap.dR,λ c x ak=>?_,ap.inj,λ c b n h=>by have:=ap.sep c b n h;exact⟨this.1,this.2.1,by simp;omega⟩,ap.e4⟩,Trans.refl _ _ _,hm,?_⟩
 ·by_cases ag:c<H.length
  ·rw[ei ag]at ak;exact(ap.b6 c x ak).mono (λ _=>rfl) (λ _ _ h=>h) hm (λ _ _ _ _=>rfl)
  ·have:c=H.length:=by have:=(bF.1 ak).1;simp at this;omega
   subst this;simp at ak;subst ak;exact⟨λ e=>R,λ i r h=>by simp at h,.inl ⟨fy,rfl⟩⟩
 ·refine .ref _ _ _ _ _ (by simp) (λ h2 c7 hB h=>?_) (λ _ _ _ h=>by simp at h) ⟨_,_,rfl⟩ (λ _ _ _ _ h=>R);simp at h;obtain⟨rfl,rfl,rfl⟩:=h;exact⟨by simp,_,_,rfl,.inl ⟨fy,rfl⟩⟩
def aj8(ap:b5 E ad ab H w){aq:World}{cs:Array Value}{elem:TypeId}(hw:aq.heap=w.heap.push (.cells cs elem))(b9:aq.os=w.os)(bp:aq.tape=w.tape)(hu:aq.output=w.output)
  {c z g:Nat}{ha:List (List aC)}{ii:Bool}(aO:H[c]?=some (.sl z g ha ii)){rows:List (List aC)}{ex:Bool}(bf:0<z)(aI:Flat z rows)(ag:km ad rows.flatten cs)(hle:rows.length*z≤cs.size)(ak:ex=false)
  {n cap:Nat}(aE:n≤rows.length)(jZ:rows.length≤cap)(eS:cap*z≤cs.size):
  ci E ad ab H w (H.set c (.sl z (g+1) rows ex)) aq λ aL aB=>a6 aL aB (H.set c (.sl z (g+1) rows ex)) (.ref c (g+1) 0 n) (.slice (some ⟨w.heap.size,0,none⟩) n cap):=by
 subst ak;have ch:c<H.length:=(bF.1 aO).1;have hold:∀b,b<w.heap.size→aq.heap[b]?=w.heap[b]?:=by intro b aj;rw[hw,HT,if_neg R]
 let aB:=fM ab c w.heap.size cs.size
 have hn:∀(d:fb) b n,aB d=some (b,n)→(d=⟨c,0⟩∧b=w.heap.size∧n=cs.size)∨(d≠⟨c,0⟩∧ab d=some (b,n)):=by
  intro d b n h;simp only[aB,fM]at h;split at h
  ·cases h;exact .inl ⟨by assumption,rfl,rfl⟩
  ·exact .inr ⟨by assumption,h⟩
 have hm:e6 ad ab H ad aB (H.set c (.sl z (g+1) rows false)):=by
  refine mG (λ _ _ h=>h) (by simp) λ d aM=>?_
  by_cases eF:d=c
  ·subst eF;intro y aY;rcases fx aY with⟨_,rfl⟩|⟨e,_⟩
   ·exact .inr ⟨z,g,ha,ii,aO,R⟩
   ·exact absurd rfl e
  ·exact iX.same (by rw[dw (a' eF)]) (λ r=>by simp[aB,fM,eF])
 refine⟨ad,aB,⟨λ b ai aj=>?_,λ d x aM=>?_,λ d ig b n dP j I=>?_,λ d b n h=>?_,ap.e4⟩,⟨b9,bp,hu,by rw[hw];simp,λ b aj _=>hold b aj,λ _ _ h=>h,λ _ h=>.inl h,λ d b n h=>?_⟩,hm,?_⟩
 ·have:=ap.dR b ai aj;have be:b<w.heap.size:=(jY.1 this).1;rw[hold b be];exact this
 ·rcases fx aM with⟨rfl,rfl⟩|⟨j,I⟩
  ·exact⟨λ e=>R,aI,.inr ⟨w.heap.size,cs,elem,(0,0),by simp[aB,fM],w8 hw,pb _,hle,(λ h=>by cases h),km.rows aI ag⟩⟩
  ·exact(ap.b6 _ _ I).mono (λ r=>by simp[aB,fM,j]) (λ _ _ h=>h) hm (λ r b n h=>hold b (ap.sep _ _ _ h).2.1)
 ·rcases hn _ _ _ j with⟨rfl,rfl,rfl⟩|⟨ao,aH⟩
  ·rcases hn _ _ _ I with⟨e,_,_⟩|⟨_,bN⟩
   ·exact e.symm
   ·have:=(ap.sep _ _ _ bN).2.1;omega
  ·rcases hn _ _ _ I with⟨e,rfl,_⟩|⟨_,bN⟩
   ·have:=(ap.sep _ _ _ aH).2.1;omega
   ·exact ap.inj _ _ _ _ _ aH bN
 ·rcases hn _ _ _ h with⟨rfl,rfl,rfl⟩|⟨_,ao⟩
  ·refine⟨?_,by rw[hw];simp,by simpa using ch⟩;cases cc:ad w.heap.size with
   |none=>rfl
   |some ai=>have:=ap.dR _ _ cc;simp at this
  ·have:=ap.sep _ _ _ ao;exact⟨this.1,by rw[hw];simp;omega,by simpa using this.2.2⟩
 ·rcases hn _ _ _ h with⟨rfl,rfl,rfl⟩|⟨_,ao⟩
  ·exact .inl (cL _)
  ·exact .inr ⟨_,_,ao⟩
 ·refine .ref _ _ _ _ _ (by simpa using ch) (λ h2 c7 hB h=>?_) (λ _ _ _ h=>?_) ⟨_,_,rfl⟩ (λ _ _ _ _ h=>?_)
  ·rcases fx h with⟨_,e⟩|⟨e,_⟩
   ·cases e;exact⟨R,_,_,rfl,.inr ⟨w.heap.size,cs.size,by simp[aB,fM],R,by simpa using eS,.inl (by simp)⟩⟩
   ·exact absurd rfl e
  ·rcases fx h with⟨_,e⟩|⟨e,_⟩
   ·cases e
   ·exact absurd rfl e
  ·rcases fx h with⟨_,e⟩|⟨e,_⟩
   ·cases e;omega
   ·exact absurd rfl e
def TP(ap:b5 E ad ab H w){c z g:Nat}{ha:List (List aC)}{ii:Bool}(aO:H[c]?=some (.sl z g ha ii)){b6:Chunk}(kQ:∃rows ex,b6=.sl z (g+1) rows ex)
  {aq:World}(nk:∀bR,(∀n,ab c≠some (bR,n))→aq.heap[bR]?=w.heap[bR]?)(eu:aq.heap.size=w.heap.size)(b9:aq.os=w.os)(bp:aq.tape=w.tape)(hu:aq.output=w.output)
  (ho:e6 ad ab H ad ab (H.set c b6)→oh ad ab (H.set c b6) aq c b6){Q:b'→b8→Prop}(eT:e6 ad ab H ad ab (H.set c b6)→Q ad ab):ci E ad ab H w (H.set c b6) aq Q:=by
 obtain⟨rows,ex,rfl⟩:=kQ;have ch:c<H.length:=(bF.1 aO).1;have hm:e6 ad ab H ad ab (H.set c (.sl z (g+1) rows ex)):=by
  refine mG (λ _ _ h=>h) (by simp) λ d aM=>?_
  by_cases eF:d=c
  ·subst eF;intro y aY;rcases fx aY with⟨_,rfl⟩|⟨e,_⟩
   ·exact .inr ⟨z,g,ha,ii,aO,R⟩
   ·exact absurd rfl e
  ·exact iX.same (by rw[dw (a' eF)]) (λ _=>rfl)
 refine⟨ad,ab,⟨λ bR ai aj=>?_,λ d x aM=>?_,ap.inj,λ d bR dP aM=>?_,ap.e4⟩,⟨b9,bp,hu,by rw[eu];exact cL _,λ bR aj aE=>nk bR (λ n=>aE c n),λ _ _ h=>h,λ _ h=>.inl h,λ _ _ _ h=>.inr ⟨_,_,h⟩⟩,hm,eT hm⟩
 ·rw[nk bR (λ n e=>by have:=(ap.sep _ _ _ e).1;rw[this]at aj;cases aj)];exact ap.dR _ _ aj
 ·rcases fx aM with⟨rfl,rfl⟩|⟨j,I⟩
  ·exact ho hm
  ·exact(ap.b6 _ _ I).mono (λ _=>rfl) (λ _ _ h=>h) hm λ r bR dP av=>nk _ λ n e=>j (congrArg fb.c (ap.inj _ _ _ _ _ av e))
 ·have:=ap.sep _ _ _ aM;exact⟨this.1,by rw[eu];exact this.2.1,by simpa using this.2.2⟩
def aj9{a b:List aC}{xs cP:Array Value}(aA:km ad a xs)(aj:km ad b cP)(al:xs.size=a.length)(rest:Array Value)(MY:cP.size=b.length):km ad (a++b) (xs++cP++rest):=by
 intro ac v bh;rw[tI]at bh;rw[di,Array.append_assoc];split at bh
 ·rename_i a_;have:=aA ac v bh;rw[xc R,←di];exact this
 ·rename_i a_;have I:=(bF.1 bh).1;have:=aj _ v bh;rw[TN R,xc R,al,←di];exact this
def MZ(ap:b5 E ad ab H w){t t2 d':TypeId}{s x v:U}{cP lj:Value}{an:aa}(h:hz E H t t2 s x=some (v,an))(fQ:a6 ad ab H s cP)(rx:a6 ad ab H x lj):
  ∃u aq,(qO #[t,t2] d' #[cP,lj]).run E.P w=.ok u aq∧ci E ad ab H w an aq λ aL aB=>a6 aL aB an v u:=by
 unfold hz at h;split at h;rotate_left
 ·cases h
 rename_i e he;split at h;rotate_left
 ·cases h
 rename_i z b dX c_ new M0 bf aj hzero ph;split at h;rotate_left
 ·cases h
 rename_i ag;obtain⟨gI,ff,w9,HZ,pc,ze⟩:=ag;have nN:=Tn HZ;obtain⟨lg,MP,EE⟩:=TC hzero pc ze;obtain⟨ew,ol,mh,j4,pk,qS⟩:=Ml (P:=E.P) ap rx ph gI ff;have grow:∀(rows:List (List aC)) (base:Option Addr) (cap:Nat) (gL:Array Value),(∀aq:World,aq.heap=w.heap→(iD z rows.length (.slice base rows.length cap)).run E.P aq=.ok gL aq)→gL.size=rows.length*z→
   km ad rows.flatten gL→Flat z rows→cap<rows.length+new.length→rows.length+new.length<1073741824→∀M1,M1=.slice base rows.length cap→
   ∃u aq iE cs,(qO #[t,t2] d' #[M1,lj]).run E.P w=.ok u aq∧u=.slice (some ⟨w.heap.size,0,none⟩) (rows.length+new.length) iE∧aq.heap=w.heap.push (.cells cs e)∧aq.os=w.os∧aq.tape=w.tape∧aq.output=w.output∧
    km ad (rows++new).flatten cs∧(rows++new).length*z≤cs.size∧rows.length+new.length≤iE∧iE*z≤cs.size:=by
  intro rows base cap gL j I av ba bs dq M1 EJ;subst EJ;obtain⟨aq,iE,g1,g2,g3,g4,g5,g6⟩:=To (w:=w) (d':=d') (t2:=t2) (rows:=rows) (new:=new) he bf aj MP nN (λ aq _=>ol aq) bs dq w9 j mh EE;refine⟨_,aq,iE,_,g1,rfl,g3,g4,g5,g6,?_,?_,g2,?_⟩
  ·rw[List.flatten_append];exact aj9 av pk (by rw[I,ba.length]) _ (by rw[j4,qS.length])
  ·simp only[MR,I,j4,dp,hc];omega
  ·simp only[MR,I,j4,Tm,EE];rw[←hc,←hc];exact jX _ R
 split at h
 ·rename_i aw rows ex;split at h;rotate_left
  ·cases h
  rename_i ay;obtain⟨Bq,fR,uX⟩:=ay;subst Bq;simp only[bg,bw]at h;obtain⟨rfl,rfl⟩:=h;have lM:=iA fQ;have EJ:∃a,cP=.slice a rows.length rows.length:=by
   cases lM with
   |nil aw ex a cap ak=>exact⟨a,by rw[ak rfl];rfl⟩
   |sl aw rows ex b off cap cs elem bj dA cc ag ak ah j I=>exact⟨_,by rw[ak rfl]⟩
  obtain⟨a,rfl⟩:=EJ;by_cases fy:new=[]
  ·subst fy;have EK:rows=[]:=fR.elim id λ q=>absurd rfl q.2
   subst EK;have sO:ew=#[]:=y9 (by rw[j4];simp);refine⟨_,w,Ey he bf nN (ol w) (cL _) (by rw[←sO];exact mh w rfl),?_⟩;exact aj7 ap ff a
  ·have hL:0<new.length:=M2.2 fy;have hold:∃gL:Array Value,(∀aq:World,aq.heap=w.heap→(iD z rows.length (.slice a rows.length rows.length)).run E.P aq=.ok gL aq)∧gL.size=rows.length*z∧km ad rows.flatten gL∧Flat z rows:=by
    rcases fR with ao|⟨rfl,_⟩
    ·subst ao;refine⟨#[],λ aq _=>?_,by simp,λ ac v h=>by simp at h,λ i r h=>by simp at h⟩;cases a<;>simp[iD,loadCells,loadCellsFrom]
    ·obtain⟨gL,cr,rX,va,BF,Il⟩:=HQ (P:=E.P) ap.dR ff lM;exact⟨gL,rX,va,BF,Il⟩
   obtain⟨gL,cr,rX,va,BF⟩:=hold;obtain⟨u,aq,iE,cs,g1,rfl,g3,g4,g5,g6,g7,g8,g9,g10⟩:=grow rows a rows.length gL cr rX va BF R uX _ rfl;have hex:(rows.isEmpty &&new.isEmpty)=false:=by
    cases new with
    |nil=>exact absurd rfl fy
    |cons=>simp
   rw[hex];refine⟨_,aq,g1,?_⟩;have:=y0 ap g3 g4 g5 g6 (ex:=false) (n:=rows.length+new.length) (cap:=iE) ff (BF.append qS) g7 g8 (λ h=>by cases h) (pb _) (by simp) (by simp;omega) g10;exact this
 ·rename_i c g off len;cases fQ with
  |ref c g off len v ch aR aI au aP=>
  split at h
  ·rename_i aw aU rows ex aO;split at h;rotate_left
   ·cases h
   rename_i ay;obtain⟨rfl,rfl,rfl,uX⟩:=ay;simp only[bg,bw]at h;obtain⟨rfl,rfl⟩:=h;obtain⟨hle,a,cap,rfl,fi⟩:=aR _ _ _ aO;obtain⟨Im,hq,kQ⟩:=ap.b6 _ _ aO;have M3:0<aw:=ff;have EL:Flat aw rows:=hq;have vb:c<H.length:=ch;have Io:len≤rows.length:=R;have zg:∀(aL:b') (aB:b8) (eB:List (List aC)) (fY:Bool) (a:Option Addr) (cap:Nat),eB.length=len+new.length→sC aB c aw eB 0 (len+new.length) (.slice a (len+new.length) cap)→a6 aL aB (H.set c (.sl aw (g+1) eB fY)) (.ref c (g+1) 0 (len+new.length)) (.slice a (len+new.length) cap):=by
    intro aL aB eB fY a cap al iY;refine .ref _ _ _ _ _ (by simpa using vb) (λ h2 c7 hB h=>?_) (λ _ _ _ h=>?_) ⟨_,_,rfl⟩ (λ _ _ _ _ h=>?_)
    ·rcases fx h with⟨_,e⟩|⟨e,_⟩
     ·cases e;exact iY
     ·exact absurd rfl e
    ·rcases fx h with⟨_,e⟩|⟨e,_⟩
     ·cases e
     ·exact absurd rfl e
    ·rcases fx h with⟨_,e⟩|⟨e,_⟩
     ·cases e;omega
     ·exact absurd rfl e
   have Bn:(rows.take len++new).length=len+new.length:=by simp;omega
   have M4:Flat aw (rows.take len++new):=(Flat.take EL).append qS;by_cases MV:len+new.length≤cap
   ·rcases fi with⟨cb,fZ⟩|⟨cT,hf,cb,pi,kr,tN⟩
    ·subst fZ;have hD:len=0:=R;have hp:new=[]:=pX.1 R;subst hD hp;have sO:ew=#[]:=y9 (by rw[j4];simp);refine⟨_,w,Ey he bf nN (ol w) (cL _) (by rw[←sO];exact mh w rfl),?_⟩;have Mv:rows=[]:=by
      rcases kQ with⟨_,j⟩|⟨b,_,_,_,j,_⟩
      ·exact j
      ·rw[cb]at j;cases j
     subst Mv;refine TP ap aO ⟨_,_,rfl⟩ (λ _ _=>rfl) rfl rfl rfl rfl (λ hm=>?_) (λ hm=>zg _ _ _ _ _ _ (by simp) ⟨by simp,_,_,rfl,.inl ⟨cb,rfl⟩⟩);exact⟨Im,λ i r h=>by simp at h,.inl ⟨cb,by simp⟩⟩
    ·rcases kQ with⟨j,_⟩|⟨bR,cs,elem,bj,j,hw,gH,eu,rS,eh⟩
     ·rw[cb]at j;cases j
     rw[cb]at j;cases j;have TQ:∀(aq:World) (hC:Array Value) (EM:Bool),aq.heap[cT]?=some (.cells hC elem bj)→(∀bR,bR≠cT→aq.heap[bR]?=w.heap[bR]?)→aq.heap.size=w.heap.size→aq.os=w.os→aq.tape=w.tape→aq.output=w.output→hC.size=cs.size→
       km ad (rows.take len++new).flatten hC→(EM=true→cs.size=(len+new.length)*aw)→(len+new.length)*aw≤cs.size→∀a,(a=some ⟨cT,0*aw,none⟩∨(len+new.length=0∧cap=0))→
       ci E ad ab H w (H.set c (.sl aw (g+1) (rows.take len++new) EM)) aq λ aL aB=>a6 aL aB (H.set c (.sl aw (g+1) (rows.take len++new) EM)) (.ref c (g+1) 0 (len+new.length)) (.slice a (len+new.length) cap):=by
      intro aq hC EM cz i2 i3 i4 i5 aj_ Ip i8 i9 aj' a aka;refine TP ap aO ⟨_,_,rfl⟩ (λ bR jk=>i2 bR (λ e=>jk _ (e▸cb))) i3 i4 i5 aj_ (λ hm=>?_) (λ hm=>zg _ _ _ _ _ _ Bn ⟨R,_,_,rfl,.inr ⟨cT,cs.size,cb,R,kr,aka⟩⟩);exact⟨Im,M4,.inr ⟨cT,hC,elem,bj,by rw[Ip];exact cb,cz,by rw[Ip];exact gH,by rw[Ip,Bn];exact aj',λ ak=>by rw[Ip,Bn];exact i9 ak,km.rows M4 i8⟩⟩
     have TR:(ex &&rows.isEmpty &&new.isEmpty)=true→cs.size=(len+new.length)*aw:=by intro ak;simp only[cR,List.isEmpty_iff]at ak;obtain⟨⟨j,rfl⟩,rfl⟩:=ak;have:=rS j;simp at this Io⊢;subst Io;simp[this]
     have akb:km ad (rows.take len).flatten cs:=by
      intro ac v bh;have TS:Flat aw (rows.take len):=Flat.take EL;have a_:=(bF.1 bh).1;rw[TS.length]at a_;obtain⟨r,a2,ao,aH,bN⟩:=HP M3 TS a_;rw[bh]at bN;cases bN;rw[nJ]at ao;split at ao
      ·have:=eh _ _ _ _ ao aH;rwa [show ac/aw*aw+ac%aw=ac by rw[uT];exact yR _ _]at this
      ·cases ao
     have L4:(rows.take len).flatten.length=len*aw:=by rw[(Flat.take EL).length,hE,MX Io]
     rcases tN with rfl|⟨j,I⟩
     ·have MW:len*aw+ew.size≤cs.size:=by rw[j4,←hc];have:(len+new.length)*aw≤(0+cap)*aw:=jX _ R;omega
      have rU:∀v∈ew.toList,v.oneCell'=true:=by
       intro v bh;obtain⟨ac,a_,rfl⟩:=Es bh;have ld:ac<ew.size:=by simpa using a_
       have M5:ac<new.flatten.length:=by rw[qS.length,←j4];exact ld
       have:=En (pk ac _ (eX M5));simpa[di,ld]using this
      obtain⟨aq,hC,s1,s2,tO,EN,M6,M7,M8,BG,M9⟩:=u0 E.P cT (0*aw+len*aw) elem bj ew.toList 0 cs w hw gH (by simp;omega) rU;refine⟨_,aq,Tq he bf nN (ol w) MV (mh w rfl) s1,?_⟩;refine TQ aq hC _ s2 tO EN M6 M7 M8 BG ?_ TR (by rw[hc];omega) _ (.inl rfl);intro ac v bh;rw[di,M9];simp only[Nat.zero_mul,cp,e7,uW];rw[List.flatten_append,tI,L4]at bh;split at bh
      ·rw[if_neg R,←di];exact akb ac v bh
      ·have av:=(bF.1 bh).1;rw[qS.length,←j4]at av;rw[if_pos R,mH,←di];exact pk _ v bh
     ·subst j I;have hp:new=[]:=pX.1 R;subst hp;have sO:ew=#[]:=y9 (by rw[j4];simp);refine⟨_,w,Ey he bf nN (ol w) (cL _) (by rw[←sO];exact mh w rfl),?_⟩;exact TQ w cs _ hw (λ _ _=>rfl) rfl rfl rfl rfl rfl (by intro ac v h;simp at h) TR (by simp) a (.inr ⟨rfl,rfl⟩)
   ·have hold:∃gL:Array Value,(∀aq:World,aq.heap=w.heap→(iD aw (rows.take len).length (.slice a (rows.take len).length cap)).run E.P aq=.ok gL aq)∧gL.size=(rows.take len).length*aw∧km ad (rows.take len).flatten gL:=by
     have al:(rows.take len).length=len:=by simp;omega
     by_cases hD:len=0
     ·subst hD;refine⟨#[],λ aq _=>?_,by simp,λ ac v h=>by simp at h⟩;cases a<;>simp[iD,loadCells,loadCellsFrom]
     ·rcases fi with⟨cb,fZ⟩|⟨cT,hf,cb,pi,kr,tN⟩
      ·exfalso;rcases kQ with⟨_,j⟩|⟨b,_,_,_,j,_⟩
       ·subst j;simp at hle;omega
       ·rw[cb]at j;cases j
      ·rcases kQ with⟨j,_⟩|⟨bR,cs,elem,bj,j,hw,gH,eu,rS,eh⟩
       ·rw[cb]at j;cases j
       rw[cb]at j;cases j;rcases tN with rfl|⟨j,_⟩
       ·obtain⟨cK,d1,d2,d3⟩:=S8 (P:=E.P) (ad:=ad) M3 EL hw eu eh 0 len R;refine⟨cK,λ aq p4=>by rw[al];exact d1 aq p4,by rw[al];exact d2,by simpa using d3⟩
       ·omega
    obtain⟨gL,cr,rX,va⟩:=hold;have al:(rows.take len).length=len:=by simp;omega
    obtain⟨u,aq,iE,cs,g1,rfl,g3,g4,g5,g6,g7,g8,g9,g10⟩:=grow (rows.take len) a cap gL cr rX va (Flat.take EL) (by rw[al];omega) (by rw[al];exact uX) (.slice a len cap) (by rw[al]);rw[al]at g1 g9;have akc:0<new.length:=by
     rcases fi with⟨cb,fZ⟩|⟨cT,hf,cb,pi,kr,tN⟩
     ·rcases kQ with⟨_,j⟩|⟨b,_,_,_,j,_⟩
      ·subst j;simp at Io;omega
      ·rw[cb]at j;cases j
     ·omega
    have hex:(ex &&rows.isEmpty &&new.isEmpty)=false:=by
     cases new with
     |nil=>simp at akc
     |cons=>simp
    rw[hex];exact⟨_,aq,g1,aj8 ap g3 g4 g5 g6 aO (ex:=false) M3 M4 g7 g8 rfl R R g10⟩
  ·rename_i aw aU rows ex aO;split at h;rotate_left
   ·cases h
   rename_i ay;obtain⟨rfl,rfl,rfl,rfl,rfl,akd,ake⟩:=ay;simp only[bg,bw]at h;obtain⟨rfl,rfl⟩:=h;obtain⟨hle,lM⟩:=aI _ _ _ aO;have ao:(rows.drop 0).take rows.length=rows:=by simp
   rw[ao]at lM;simp only[cp,decide_true,M_]at lM;have EJ:∃a,cP=.slice a rows.length rows.length:=by
    generalize ij:rows=bP at lM;cases lM with
    |nil aw ex a cap ak=>exact⟨a,by rw[ak rfl];rfl⟩
    |sl aw rows ex b off cap cs elem bj dA cc ag ak ah j I=>exact⟨_,by rw[ak rfl]⟩
   obtain⟨a,rfl⟩:=EJ;have hL:0<new.length:=M2.2 akd;obtain⟨gL,cr,rX,va,BF,Il⟩:=HQ (P:=E.P) ap.dR ff lM;obtain⟨u,aq,iE,cs,g1,rfl,g3,g4,g5,g6,g7,g8,g9,g10⟩:=grow rows a rows.length gL rX va BF Il R ake _ rfl;refine⟨_,aq,g1,?_⟩;have:=y0 ap g3 g4 g5 g6 (ex:=false) (n:=rows.length+new.length) (cap:=iE) ff (Il.append qS) g7 g8 (λ h=>by cases h) (pb _) (by simp) (by simp;omega) g10;exact this
  ·cases h
 ·cases h
def akf(ap:b5 E ad ab H w){t t2 d':TypeId}{z:Nat}{s x v:U}{cP lj:Value}{an:aa}(h:qy E H t t2 z s x=some (v,an))(fQ:a6 ad ab H s cP)(rx:a6 ad ab H x lj):
  ∃u aq,(qO #[t,t2] d' #[cP,lj]).run E.P w=.ok u aq∧ci E ad ab H w an aq λ aL aB=>a6 aL aB an v u:=by
 unfold qy at h;split at h
 ·exact MZ ap h fQ rx
 ·exact aj4 ap h fQ rx
def TT{P:Program}(a:Addr):∀(n i:Nat) (acc cs:Array Value),(loadCellsFrom a i n acc).run P w=.ok cs w→acc.size≤cs.size∧(∀ac,ac<acc.size→cs[ac]?=acc[ac]?)∧
  ∀m,m≤n→∃cK,(loadCellsFrom a i m acc).run P w=.ok cK w∧cK.size=acc.size+m∧∀ac,ac<acc.size+m→cK[ac]?=cs[ac]?
 |0,i,acc,cs,h=>by simp only[loadCellsFrom,eE]at h;cases h;exact⟨cL _,λ _ _=>rfl,λ m hm=>⟨acc,by rw[Nat.le_zero.1 hm];rfl,R,λ _ _=>rfl⟩⟩
 |n+1,i,acc,cs,h=>by
  have bh:∃v,(load (a.add i)).run P w=.ok v w∧(loadCellsFrom a (i+1) n (acc.push v)).run P w=.ok cs w:=by
   simp only[loadCellsFrom,dT]at h;rw[run_load]at h⊢;split at h
   ·rename_i v ag;exact⟨v,rfl,h⟩
   ·rename_i ag;split at h
    ·rename_i v _ aN;exact⟨v,rfl,h⟩
    ·cases h
  obtain⟨v,j,I⟩:=bh;obtain⟨bG,bC,cE⟩:=TT a n (i+1) (acc.push v) cs I;simp only[Array.size_push]at bG bC cE;have eU:∀ac,ac<acc.size→cs[ac]?=acc[ac]?:=λ ac a_=>by rw[bC ac R,Array.getElem?_push_lt a_,qM a_]
  refine⟨R,eU,λ m hm=>?_⟩;cases m with
  |zero=>exact⟨acc,rfl,rfl,λ ac a_=>(eU ac a_).symm⟩
  |succ m=>obtain⟨cK,ao,aH,bN⟩:=cE m R;exact⟨cK,by simp only[loadCellsFrom,dT,j,eg];exact ao,R,λ ac a_=>bN ac R⟩
def akg{P:Program}{size n N l cap:Nat}{a:Option Addr}{cs:Array Value}(h:(iD size N (.slice a l cap)).run P w=.ok cs w)(aR:cs.size=N*size)(aE:n≤N):
  ∃cK,(iD size n (.slice a l cap)).run P w=.ok cK w∧cK.size=n*size∧∀ac,ac<n*size→cK[ac]?=cs[ac]?:=by
 have hle:n*size≤N*size:=jX _ aE;cases a with
 |none=>simp only[iD,eE]at h;cases h;simp only[Array.size_empty,H8,dr]at aR;exact⟨#[],by simp[iD],by simp;omega,λ _ _=>rfl⟩
 |some a=>simp only[iD,loadCells]at h⊢;obtain⟨_,_,av⟩:=TT a _ 0 #[] cs h;obtain⟨cK,ao,aH,bN⟩:=av _ hle;exact⟨cK,ao,by simpa using aH,λ ac a_=>bN ac (by simpa using a_)⟩
def akh{x:U}{r:Nat×List (List aC)×Bool}(h:hH H x=some r):kL H x=some r:=by
 unfold kL;split
 ·simp[hH]at h
 ·exact h
def aki{x:U}{y:Value}(rx:a6 ad ab H x y){r:Nat×List (List aC)×Bool}(h:hH H x=some r):∃a l cap,y=.slice a l cap:=by
 unfold hH at h;split at h
 ·obtain⟨a,cap,rfl⟩:=El (iA rx);exact⟨_,_,_,rfl⟩
 ·obtain⟨a,cap,rfl⟩:=L' rx;exact⟨_,_,_,rfl⟩
 ·cases h
def akj(ap:b5 E ad ab H w){t t2 d':TypeId}{d x v:U}{EH lj:Value}{an:aa}(h:nc E H t d x=some (v,an))(rd:a6 ad ab H d EH)(rx:a6 ad ab H x lj):
  ∃u aq,(EI #[t,t2] d' #[EH,lj]).run E.P w=.ok u aq∧ci E ad ab H w an aq λ aL aB=>a6 aL aB an v u:=by
 unfold nc at h;split at h;rotate_left
 ·cases h
 rename_i e he;split at h;rotate_left
 ·cases h
 rename_i z c g off len c_ new M0 bf EK;split at h;rotate_left
 ·cases h
 rename_i ag;obtain⟨gI,ff⟩:=ag;unfold yD at h;split at h;rotate_left
 ·cases h
 rename_i aw aU rows ex aO;split at h;rotate_left
 ·cases h
 rename_i aP;obtain⟨rfl,rfl⟩:=aP;simp only[bg,bw]at h;obtain⟨rfl,rfl⟩:=h;obtain⟨aD,sl,aQv,rfl⟩:=aki rx EK;obtain⟨ew,ol,mh,j4,pk,qS⟩:=Ml (P:=E.P) ap rx (akh EK) gI ff;obtain⟨cK,zi,me,akk⟩:=akg (n:=min new.length len) (mh w rfl) j4 (Nat.min_le_left _ _);obtain⟨Im,hq,kQ⟩:=ap.b6 _ _ aO;have hq:Flat aw rows:=hq;cases rd with
 |ref c g off len v ch aR aI au Bd=>
  obtain⟨hle,a,cap,rfl,fi⟩:=aR _ _ _ aO;have hlen:(new.take len).length=min new.length len:=by simp[Nat.min_comm]
  have TU:∀(i:Nat) (r:List aC),(rows.take off++(new.take len++rows.drop (off+min new.length len)))[i]?=some r→
    (off≤i∧i<off+min new.length len∧new[i-off]?=some r)∨(¬(off≤i∧i<off+min new.length len)∧rows[i]?=some r):=by
   intro i r ax;rw[tI]at ax;have ao:(rows.take off).length=off:=by simp;omega
   rw[ao]at ax;split at ax
   ·rename_i be;rw[nJ,if_pos be]at ax;exact .inr ⟨R,ax⟩
   ·rename_i be;rw[tI,hlen]at ax;split at ax
    ·rename_i I;rw[nJ]at ax;split at ax
     ·exact .inl ⟨R,R,ax⟩
     ·cases ax
    ·rename_i I;rw[rQ]at ax;rw[show off+min new.length len+(i-off-min new.length len)=i by omega]at ax;exact .inr ⟨R,ax⟩
  have fj:(rows.take off++(new.take len++rows.drop (off+min new.length len))).length=rows.length:=by simp only[dp,hE,iG];omega
  have TV:Flat aw (rows.take off++(new.take len++rows.drop (off+min new.length len))):=by
   intro i r ax;rcases TU i r ax with⟨_,_,h⟩|⟨_,h⟩
   ·exact qS _ _ h
   ·exact hq _ _ h
  by_cases hp:min new.length len=0
  ·have ov:rows.take off++(new.take len++rows.drop (off+min new.length len))=rows:=by have:new.take len=[]:=pX.1 (by rw[hlen];exact hp);rw[this,hp];simp
   rw[ov];have jA:H.set c (.sl aw g rows ex)=H:=by
    apply EO;intro i;by_cases ax:i=c
    ·subst ax;rw[kl ch,aO]
    ·rw[dw (a' ax)]
   rw[jA,hp];have lL:cK=#[]:=y9 (by rw[me,hp];simp);subst lL;refine⟨.int .i64 0,w,?_,.refl ap (.i _ _ (.v _ rfl))⟩;have hm:Nat.min new.length len=0:=hp;rw[hp]at zi;cases a<;>simp[EI,run_underlying (h3 he),(gG bf w).1,ol w,hm,zi,storeCells,goInt]
  ·rcases fi with⟨cb,fZ⟩|⟨cT,hf,cb,pi,kr,tN⟩
   ·exfalso;rcases kQ with⟨_,j⟩|⟨b,_,_,_,j,_⟩
    ·subst j;simp at hle;omega
    ·rw[cb]at j;cases j
   ·rcases kQ with⟨j,_⟩|⟨bR,cs,elem,bj,j,hw,gH,eu,rS,eh⟩
    ·rw[cb]at j;cases j
    rw[cb]at j;cases j;rcases tN with rfl|⟨j,I⟩;rotate_left
    ·omega
    have MW:off*aw+cK.size≤cs.size:=by rw[me,←hc];have:(off+min new.length len)*aw≤rows.length*aw:=jX _ R;omega
    have TW:∀ac,ac<min new.length len*aw→cK[ac]?=ew[ac]?:=akk;have aQw:cK.size≤ew.size:=by rw[me,j4];exact jX _ R
    have rU:∀v∈cK.toList,v.oneCell'=true:=by
     intro v bh;obtain⟨ac,a_,rfl⟩:=Es bh;have ld:ac<cK.size:=by simpa using a_
     have Bj:ac<ew.size:=R;have M5:ac<new.flatten.length:=by rw[qS.length,←j4];exact Bj
     have bs:=En (pk ac _ (eX M5));have dq:=TW ac (by rw[←me];exact ld);rw[qM ld,qM Bj]at dq;have gn:cK[ac]=ew[ac]:=by simpa using dq
     simp only[Array.getElem_toList,gn];simpa[di,Bj]using bs
    obtain⟨aq,hC,s1,s2,tO,EN,M6,M7,M8,BG,M9⟩:=u0 E.P cT (off*aw) elem bj cK.toList 0 cs w hw gH (by simp;omega) rU;refine⟨.int .i64 (min new.length len:Nat),aq,?_,?_⟩
    ·have hm:Nat.min new.length len=min new.length len:=rfl;simp[EI,run_underlying (h3 he),(gG bf w).1,ol w,hm,zi,s1,goInt]
    ·refine wrote ap cb aO tO EN M6 M7 M8 ?_ (λ hm=>?_) (λ _=>.i _ _ (.v _ rfl))
     ·intro y aY;rcases fx aY with⟨_,rfl⟩|⟨e,_⟩
      ·exact .inl ⟨rows,ex,aO,rfl,fj⟩
      ·exact absurd rfl e
     ·have kp:∀ac,hC.getD ac undef=if off*aw≤ac∧ac<off*aw+min new.length len*aw then ew.getD (ac-off*aw) undef else cs.getD ac undef:=by
       intro ac;rw[di,M9];simp only[e7,uW,me];split
       ·rw[mH,TW _ R,di]
       ·rw[di]
      refine⟨Im,TV,.inr ⟨cT,hC,elem,bj,by rw[BG];exact cb,s2,by rw[BG];exact gH,by rw[BG,fj];exact eu,λ he=>by rw[BG,fj];exact rS he,λ i r k a ax aA=>?_⟩⟩;have ay:k<aw:=by have:=(bF.1 aA).1;rw[TV _ _ ax]at this;exact this
      rw[kp];rcases TU i r ax with⟨j,I,av⟩|⟨j,av⟩
      ·have ao:off*aw≤i*aw:=jX _ j;have aH:(i+1)*aw≤(off+min new.length len)*aw:=jX _ I;rw[hc,hc]at aH;rw[if_pos R];have bN:i*aw+k-off*aw=(i-off)*aw+k:=by rw[Nat.sub_mul];omega
       rw[bN];exact(km.rows qS pk) _ _ _ _ av aA
      ·rw[if_neg]
       ·exact eh _ _ _ _ av aA
       ·rintro⟨cm,cy⟩;apply j;constructor
        ·apply Decidable.byContradiction;intro fc;have:(i+1)*aw≤off*aw:=jX _ R;rw[hc]at this;omega
        ·apply Decidable.byContradiction;intro fc;have:(off+min new.length len)*aw≤i*aw:=jX _ R;rw[hc]at this;omega
def M':Next→Option Value
 |.value v=>some v
 |.skip=>some undef
 |_=>none
def TX{J:Fr}{a:Act}{ai:Oper}{v:U}{an:aa}(h:dc E J H ai.op=some (v,an))(ap:b5 E ad ab H w)(aI:eW ad ab H J a.tmps):
  ∃tP x aq,(execOp a.eval ai).run E.P w=.ok tP aq∧M' tP=some x∧ci E ad ab H w an aq λ aL aB=>a6 aL aB an v x:=by
 obtain⟨dst,op,d',pos,after,guard⟩:=ai;simp only at h;cases op<;>(try(first|(simp only[dc]at h;done)|(simp only[dc]at h;cases h;done)))
 case alloc e=>
  simp only[dc]at h;split at h
  ·rename_i z bf;split at h
   ·rename_i b9;split at h
    ·split at h
     ·rename_i akl;simp only[bg,bw]at h;obtain⟨rfl,rfl⟩:=h;have HB:=bf;simp only[kG,c0]at HB;obtain⟨dX,kq,_⟩:=HB;obtain⟨i,ax,u3⟩:=Bo.1 kq;have w5:(zeroValue e).run E.P w=.ok dX w:=by simp[zeroValue,run_typeInfo w ax,u3]
      obtain⟨x,aq,j,I⟩:=ajb ap (ajc kq akl) e;refine⟨.value x,x,aq,?_,rfl,I⟩;have:(Instr.alloc e true (.tuple #[])).run E.P w=.ok x aq:=by have gq:(do pure (.pointer (some (←newVar e dX))):Sem Value).run E.P w=.ok x aq:=j;simp only[Instr.alloc,dT,w5,eg];simpa using gq
      simp only[execOp,dT,this,eg,eE]
     ·cases h
    ·simp only[bg,bw]at h;obtain⟨rfl,rfl⟩:=h;obtain⟨dX,w5,sE⟩:=w4 bf w;have ah:a6 ad ab H z dX:=by rw[sE];exact sD dX
     obtain⟨x,aq,j,I⟩:=S9 ap ah b9 e;refine⟨.value x,x,aq,?_,rfl,I⟩;have:(Instr.alloc e true (.tuple #[])).run E.P w=.ok x aq:=by have gq:(do pure (.pointer (some (←newVar e dX))):Sem Value).run E.P w=.ok x aq:=j;simp only[Instr.alloc,dT,w5,eg];simpa using gq
     simp only[execOp,dT,this,eg,eE]
   ·cases h
  ·cases h
 case box e x=>
  simp only[dc]at h;unfold yF at h;split at h
  ·rename_i v0 H1 bf;split at h
   ·rename_i b9;simp only[bg,bw]at h;obtain⟨rfl,rfl⟩:=h;obtain⟨ef,dW,ou,gM,mO,Na⟩:=Ti ap bf (eD ap aI x);obtain⟨y,aq,j,eY,ev,h5,gQ,j3,pj⟩:=S9 ou Na b9 e;exact⟨.value y,y,aq,by simp only[execOp,dT,j,eg,eE],rfl,eY,ev,h5,gM.trans gQ,mO.trans j3,pj⟩
   ·cases h
  ·cases h
 case buildSlice t n parts=>
  simp only[dc]at h;have TY:Bp ad ab H (parts.toList.map λ p=>(p.1,bn E J p.2)) (parts.map λ p=>(p.1,a.eval p.2)).toList:=⟨by simp,λ k p q au bm=>by
   simp only[fw,c0,MD]at au bm;obtain⟨kk,sL,rfl⟩:=au;obtain⟨mf,sM,rfl⟩:=bm;rw[sL]at sM;cases sM;exact⟨rfl,eD ap aI _⟩⟩
  split at h
  ·obtain⟨x,aq,j,I⟩:=S' (jz:=parts.map λ p=>(p.1,a.eval p.2)) ap h TY;exact⟨.value x,x,aq,by simp only[execOp,dT];rw[j];simp only[eg,eE],rfl,I⟩
  ·obtain⟨x,aq,j,I⟩:=aj2 (jz:=parts.map λ p=>(p.1,a.eval p.2)) ap h TY;exact⟨.value x,x,aq,by simp only[execOp,dT];rw[j];simp only[eg,eE],rfl,I⟩
 case slice t x bS ax kI=>
  cases kI with
  |none=>simp only[dc]at h;cases h
  |some m=>
   simp only[dc]at h;split at h
   ·rename_i y H1 bf;simp only[c0,bw]at h;obtain⟨v1,j,rfl,rfl⟩:=h;obtain⟨eY,ev,h5,gQ,j3,pj⟩:=yZ ap (eD ap aI x) bf;have Bv:=aI.mono j3;obtain⟨u,bG,bC⟩:=SS j h5 (.i _ _ pj) (Bl h5 Bv bS) (Bl h5 Bv ax) (Bl h5 Bv (some m));exact⟨.value u,u,w,by simp only[execOp,dT];rw[bG];simp only[eg,eE],rfl,eY,ev,h5,gQ,j3,bC⟩
   ·cases h
 case store t p x=>
  simp only[dc]at h;unfold wF at h;split at h
  ·rename_i v0 H1 bf;simp only[c0,bw]at h;obtain⟨bu,j,rfl,rfl⟩:=h;obtain⟨ef,dW,ou,gM,mO,Na⟩:=Ti ap bf (eD ap aI x);obtain⟨aq,I,eY,ev,h5,gQ,j3,_⟩:=ajs ou j (mO _ _ (eD ap aI p)) Na;exact⟨.skip,undef,aq,by simp only[execOp,dT,I,eg,eE],rfl,eY,ev,h5,gM.trans gQ,mO.trans j3,.dead _⟩
  ·cases h
 case range t x=>
  simp only[dc]at h;split at h
  ·rename_i l ak;split at h
   ·rename_i bp;simp only[bg,bw]at h;obtain⟨rfl,rfl⟩:=h;have r:=eD ap aI x;rw[ak]at r;obtain⟨y,aq,j,I⟩:=ajL (l:=l) ap bp;exact⟨.value y,y,aq,by simp only[execOp,dT,p0 r,j,eg,eE],rfl,I⟩
   ·cases h
  ·cases h
 case makeMap t r=>
  cases r with
  |some r=>simp only[dc]at h;cases h
  |none=>
   simp only[dc]at h;split at h
   ·simp only[bg,bw]at h;obtain⟨rfl,rfl⟩:=h
    let W:World:={w with heap:=w.heap.push (.map #[] 0)}
    refine⟨.value (.map (some w.heap.size)),.map (some w.heap.size),W,by simp[execOp,Instr.makeMap,newObj,tL,W],rfl,?_⟩;refine TB (aq:=W) (ai:=.map #[] 0) ap rfl rfl rfl rfl _ (λ hm=>?_) (λ hm=>?_)
    ·exact⟨w.heap.size,#[],0,by simp[fM],by simp[W],l8.nil⟩
    ·exact .dv _ _ (by simp) (λ es h=>⟨w.heap.size,0,by simp[fM],rfl⟩) (λ _ _ h=>by simp at h) (λ _ _ h=>by simp at h) rfl (λ _ _ _ _ h=>by simp at h)
   ·cases h
 case mapUpdate t m k x=>simp only[dc]at h;obtain⟨aq,I,rfl,av⟩:=TA ap h (eD ap aI m) (eD ap aI k) (eD ap aI x);exact⟨.skip,undef,aq,by simp only[execOp,dT,I,eg,eE],rfl,av.imp λ _ _ _ _ _=>.dead _⟩
 case insert t m k x=>simp only[dc]at h;obtain⟨aq,I,rfl,av⟩:=TA ap h (eD ap aI m) (eD ap aI k) (eD ap aI x);exact⟨.skip,undef,aq,by simp only[execOp,dT,I,eg,eE],rfl,av.imp λ _ _ _ _ _=>.dead _⟩
 case next it b=>
  simp only[dc]at h;split at h
  ·rename_i c g r ak;have bP:=eD ap aI it;rw[ak]at bP;split at h
   ·rename_i s pos aO;obtain⟨f',gi⟩:=ajO ap d' bP aO;split at h
    ·rename_i au;simp only[bg,bw]at h;obtain⟨rfl,rfl⟩:=h;obtain⟨y,aq,j,I⟩:=f' au;exact⟨.value y,y,aq,by simp only[execOp,dT,j,eg,eE],rfl,I⟩
    ·rename_i au;simp only[bg,bw]at h;obtain⟨rfl,rfl⟩:=h;obtain⟨y,j,I⟩:=gi au;exact⟨.value y,y,w,by simp only[execOp,dT,j,eg,eE],rfl,ci.refl ap I⟩
   ·cases h
  ·cases h
 case makeSlice t l c=>
  simp only[dc]at h;split at h
  ·obtain⟨x,aq,j,I⟩:=Tk ap h (eD ap aI l) (eD ap aI c);exact⟨.value x,x,aq,by simp only[execOp,dT,j,eg,eE],rfl,I⟩
  ·obtain⟨x,aq,j,I⟩:=aj0 ap h (eD ap aI l) (eD ap aI c);exact⟨.value x,x,aq,by simp only[execOp,dT,j,eg,eE],rfl,I⟩
 case convert s d x=>
  simp only[dc]at h;split at h
  ·rename_i l al;split at h
   ·rename_i ag;obtain⟨gI,w9⟩:=ag;have r:=eD ap aI x;rw[al]at r;obtain⟨y,aq,j,I⟩:=ajA ap gI w9 h;exact⟨.value y,y,aq,by simp only[execOp,dT,p0 r,j,eg,eE],rfl,I⟩
   ·cases h
  ·cases h
 case call c=>
  obtain⟨callee,args,e1⟩:=c;cases callee with
  |value f=>simp[dc]at h
  |invoke r m=>simp[dc]at h
  |builtin b=>
   simp only[dc]at h;split at h
   ·rename_i s x t t2 pn vc;have pn:=HM pn;have vc:=HM vc;subst pn vc;split at h
    ·obtain⟨u,aq,j,I⟩:=MZ (d':=d') ap h (eD ap aI s) (eD ap aI x);exact⟨.value u,u,aq,by simp[execOp,resolve,invoke,builtin,j],rfl,I⟩
    ·obtain⟨u,aq,j,I⟩:=akf (d':=d') ap h (eD ap aI s) (eD ap aI x);exact⟨.value u,u,aq,by simp[execOp,resolve,invoke,builtin,j],rfl,I⟩
   ·rename_i d x t t2 pn vc;have pn:=HM pn;have vc:=HM vc;subst pn vc;split at h
    ·obtain⟨u,aq,j,I⟩:=akj (d':=d') (t2:=t2) ap h (eD ap aI d) (eD ap aI x);exact⟨.value u,u,aq,by simp[execOp,resolve,invoke,builtin,j],rfl,I⟩
    ·obtain⟨u,aq,j,I⟩:=aj6 (d':=d') (t2:=t2) ap h (eD ap aI d) (eD ap aI x);exact⟨.value u,u,aq,by simp[execOp,resolve,invoke,builtin,j],rfl,I⟩
   ·cases h
end
def tQ(aS:Nat→Option Nat):∀l:List U,cx aS l=l.map (co aS)
 |[]=>by simp[cx]
 |a::l=>by simp[cx,tQ aS l]
def Iq(aS:Nat→Option Nat)(ab:b8)(H:aa)(aB:b8)(an:aa):Prop:=
 ∀c cl,aS c=some cl→cl<an.length∧(∀r,aB ⟨cl,r⟩=ab ⟨c,r⟩)∧an[cl]?=(H[c]?).map (Chunk.cI aS)
def EP{aS:Nat→Option Nat}{x:Option Chunk}{aw g:Nat}{rows:List (List aC)}{ex:Bool}(h:x.map (Chunk.cI aS)=some (.sl aw g rows ex)):x=some (.sl aw g rows ex):=by
 cases x with
 |none=>simp at h
 |some y=>cases y<;>simp[Chunk.cI]at h<;>simp[h]
def TZ{aS:Nat→Option Nat}{x:Option Chunk}{aw g:Nat}{rows:List (List aC)}{ex:Bool}(h:x.map (Chunk.cI aS)=some (.bj aw g rows ex)):x=some (.bj aw g rows ex):=by
 cases x with
 |none=>simp at h
 |some y=>cases y<;>simp[Chunk.cI]at h<;>simp[h]
def T0(aS:Nat→Option Nat):∀es:List (aC×U),yG aS es=es.map λ p=>(p.1,co aS p.2)
 |[]=>rfl
 |p::r=>by simp[yG,T0 aS r]
def akm{aS:Nat→Option Nat}{x:Option Chunk}{es:List (aC×U)}(h:x.map (Chunk.cI aS)=some (.map es)):∃yK,x=some (.map yK)∧es=yG aS yK:=by
 cases x with
 |none=>cases h
 |some x=>cases x<;>simp[Chunk.cI]at h;exact⟨_,rfl,h.symm⟩
def akn{aS:Nat→Option Nat}{x:Option Chunk}{t:Nat}{cells:List U}(h:x.map (Chunk.cI aS)=some (.cY t cells)):∃pZ,x=some (.cY t pZ)∧cells=cx aS pZ:=by
 cases x with
 |none=>cases h
 |some x=>cases x<;>simp[Chunk.cI]at h;obtain⟨rfl,rfl⟩:=h;exact⟨_,rfl,rfl⟩
def ako{aS:Nat→Option Nat}{x:Option Chunk}{t:Nat}{l:List UInt8}(h:x.map (Chunk.cI aS)=some (.ju t l)):x=some (.ju t l):=by
 cases x with
 |none=>cases h
 |some x=>cases x<;>simp_all [Chunk.cI]
def akp{aS:Nat→Option Nat}{x:Option Chunk}{s:List UInt8}{p:Nat}(h:x.map (Chunk.cI aS)=some (.iter s p)):x=some (.iter s p):=by
 cases x with
 |none=>simp at h
 |some y=>cases y<;>simp[Chunk.cI]at h<;>simp[h]
def akq{aS:Nat→Option Nat}{x:Option Chunk}{cells:List U}(h:x.map (Chunk.cI aS)=some (.box cells)):∃pZ,x=some (.box pZ)∧cells=cx aS pZ:=by
 cases x with
 |none=>simp at h
 |some y=>cases y<;>simp[Chunk.cI]at h<;>simp[h]
section
variable{E:Env}{ad:b'}{ab:b8}{H:aa}{w:World}
def Ir{aS:Nat→Option Nat}{x:Option Chunk}{z g s:Nat}{rows:List bT}(h:x.map (Chunk.cI aS)=some (.az z g s rows)):x=some (.az z g s rows):=by
 cases x with
 |none=>simp at h
 |some y=>cases y<;>simp[Chunk.cI]at h<;>simp[h]
def akr{aS:Nat→Option Nat}{x:Option Chunk}{g:Nat}{rows:List (List aC)}(h:x.map (Chunk.cI aS)=some (.fd g rows)):x=some (.fd g rows):=by
 cases x with
 |none=>simp at h
 |some y=>cases y<;>simp[Chunk.cI]at h<;>simp[h]
def aks{aS:Nat→Option Nat}{an:aa}{k:cN}{cl:Nat}{v:Value}(h:qF ad H k v)(av:an[cl]?=(H[k.c]?).map (Chunk.cI aS)):qF ad an (k.to cl) v:=by
 intro g c off len rows e aO;cases k with
 |d gr g0 cH hf=>cases e;rw[av]at aO;exact h _ _ _ _ _ rfl (akr aO)
 |_=>cases e
def akt{aS:Nat→Option Nat}{aB:b8}{an:aa}{k:cN}{cl:Nat}{v:Value}(h:kO ab H k v)(j:cl<an.length)(I:∀r,aB ⟨cl,r⟩=ab ⟨k.c,r⟩)(av:an[cl]?=(H[k.c]?).map (Chunk.cI aS)):kO aB an (k.to cl) v:=by
 cases k with
 |d c g off len=>obtain⟨cm,cy,fc⟩:=h;refine⟨j,cy,λ z aU s rows aO=>?_⟩;rw[av]at aO;obtain⟨ao,aH⟩:=fc _ _ _ _ (Ir aO);refine⟨ao,λ e=>?_⟩;have mP:aB ⟨cl,0⟩=ab ⟨c,0⟩:=I 0;have:=aH e;unfold D_ at*;rw[mP];exact this
 |e c g r=>obtain⟨cm,cy,fc⟩:=h;refine⟨j,cy,λ z aU s rows aO=>?_⟩;rw[av]at aO;obtain⟨ao,aH⟩:=fc _ _ _ _ (Ir aO);have mP:aB ⟨cl,0⟩=ab ⟨c,0⟩:=I 0;exact⟨ao,λ e=>by rw[mP];exact aH e⟩
 |h c g s r=>obtain⟨cm,cy,fc⟩:=h;refine⟨j,cy,λ z aU s rows aO=>?_⟩;rw[av]at aO;obtain⟨ao,aH⟩:=fc _ _ _ _ (Ir aO);have mP:aB ⟨cl,r+1⟩=ab ⟨c,r+1⟩:=I (r+1);refine⟨ao,λ e k_ bP ah=>?_⟩;have:=aH e k_ bP ah;unfold uP at*;rw[mP];exact this
 |p c g s r i k=>obtain⟨cm,cy,fc⟩:=h;refine⟨j,cy,λ z aU s rows aO=>?_⟩;rw[av]at aO;obtain⟨ao,aH⟩:=fc _ _ _ _ (Ir aO);have mP:aB ⟨cl,r+1⟩=ab ⟨c,r+1⟩:=I (r+1);exact⟨ao,λ e k_ bP ah ax=>by rw[mP];exact aH e k_ bP ah ax⟩
def vd{aS:Nat→Option Nat}{aB:b8}{an:aa}(qT:Iq aS ab H aB an){a:U}{v:Value}(r:a6 ad ab H a v):a6 ad aB an (co aS a) v:=by
 induction r with
 |dead v=>exact .dead v
 |i x v h=>simp only[co];exact .i x v h
 |agg cells cs al _ a8=>
  simp only[co,tQ];refine .agg _ _ (by simpa using al) λ k a aA=>?_
  simp only[fw,c0]at aA;obtain⟨b,aj,rfl⟩:=aA;exact a8 k b aj
 |aQ fn first ft eI cs al hm _ _ nH nI=>
  simp only[co,tQ];refine .aQ _ _ _ _ _ (by simpa using al) (by simpa using hm) (λ k a aA=>?_) (λ k a aA=>?_)
  ·simp only[fw,c0]at aA;obtain⟨b,aj,rfl⟩:=aA;exact nH k b aj
  ·simp only[fw,c0]at aA;obtain⟨b,aj,rfl⟩:=aA;exact nI k b aj
 |bd vs xs al _ a8=>
  simp only[co,tQ];refine .bd _ _ (by simpa using al) λ k a aA=>?_
  simp only[fw,c0]at aA;obtain⟨b,aj,rfl⟩:=aA;exact a8 k b aj
 |ref c g off len v ag aR aI au aP=>
  simp only[co];cases h:aS c with
  |none=>exact .dead v
  |some cl=>
   obtain⟨j,mP,av⟩:=qT c cl h;have I:aB cl=ab c:=mP 0;refine .ref cl g off len v j (λ aw rows ex aO=>?_) (λ aw rows ex aO=>?_) au (λ aw aU rows ex aO=>?_)
   ·rw[av]at aO;have:=aR _ _ _ (EP aO);unfold sC at*;rw[I];exact this
   ·rw[av]at aO;exact aI _ _ _ (TZ aO)
   ·rw[av]at aO;exact aP _ _ _ _ (EP aO)
 |dv c v ag hm bp hu au bf=>
  simp only[co];cases h:aS c with
  |none=>exact .dead v
  |some cl=>
   obtain⟨j,mP,av⟩:=qT c cl h;have I:aB cl=ab c:=mP 0;refine .dv cl v j (λ es aO=>?_) (λ t cells aO=>?_) (λ t l aO=>?_) au (λ aw g rows ex aO=>by rw[av]at aO;exact bf _ _ _ _ (EP aO))
   ·rw[av]at aO;rw[I];obtain⟨gr,fZ,_⟩:=akm aO;exact hm _ fZ
   ·rw[av]at aO;rw[I];obtain⟨gr,fZ,_⟩:=akn aO;exact bp _ _ fZ
   ·rw[av]at aO;rw[I];exact hu _ _ (ako aO)
 |ptr c g r k v ag aj aR aI ax au aP=>
  simp only[co];cases h:aS c with
  |none=>exact .dead v
  |some cl=>
   obtain⟨j,mP,av⟩:=qT c cl h;have I:aB cl=ab c:=mP 0;refine .ptr cl g r k v j (λ cells aO=>?_) (λ aw rows ex aO=>?_) (λ aw rows ex row aO ah=>?_) (λ s p aO=>?_) au (λ aw aU rows ex aO=>?_)
   ·rw[av]at aO;obtain⟨gr,fZ,_⟩:=akq aO;rw[I];exact aj _ fZ
   ·rw[av]at aO;rw[I];exact aR _ _ _ (EP aO)
   ·rw[av]at aO;exact aI _ _ _ _ (TZ aO) ah
   ·rw[av]at aO;rw[I];exact ax _ _ (akp aO)
   ·rw[av]at aO;exact aP _ _ _ _ (EP aO)
 |x k v h aI=>
  simp only[co];cases ay:aS k.c with
  |none=>exact .dead v
  |some cl=>obtain⟨j,mP,av⟩:=qT k.c cl ay;exact .x _ _ (akt h j mP av) (aks aI av)
def Nb{aS:Nat→Option Nat}{aB:b8}{an:aa}(qT:Iq aS ab H aB an){c cl:Nat}(o_:∀r,aB ⟨cl,r⟩=ab ⟨c,r⟩){x:Chunk}(h:oh ad ab H w c x):oh ad aB an w cl (Chunk.cI aS x):=by
 have he:aB cl=ab c:=o_ 0;cases x with
 |box cells=>obtain⟨b,cs,elem,bj,j,I,av,ba,bs⟩:=h;refine⟨b,cs,elem,bj,by rw[he];exact j,I,av,by rw[tQ];simpa using ba,λ k a aA=>?_⟩;rw[tQ]at aA;simp only[fw,c0]at aA;obtain⟨b,aj,rfl⟩:=aA;exact vd qT (bs k b aj)
 |sl aw g rows ex=>
  obtain⟨j,I,av⟩:=h;refine⟨λ e=>he.trans (j e),I,?_⟩;rcases av with⟨ba,bs⟩|⟨b,cs,elem,bj,ba,bs⟩
  ·exact .inl ⟨by rw[he];exact ba,bs⟩
  ·exact .inr ⟨b,cs,elem,bj,by rw[he];exact ba,bs⟩
 |bj aw g rows ex=>exact(he.trans h:aB cl=none)
 |iter s p=>obtain⟨b,j,I⟩:=h;exact⟨b,by rw[he];exact j,I⟩
 |map es=>obtain⟨b,hl,aJ,j,I,av⟩:=h;exact⟨b,hl,aJ,by rw[he];exact j,I,by rw[T0];exact av.to λ a v r=>vd qT r⟩
 |cY t cells=>obtain⟨b,cs,j,I,ba,bs⟩:=h;refine⟨b,cs,by rw[he];exact j,I,by rw[tQ];simpa using ba,λ k a aA=>?_⟩;rw[tQ]at aA;simp only[fw,c0]at aA;obtain⟨b,aj,rfl⟩:=aA;exact vd qT (bs k b aj)
 |ju t l=>obtain⟨b,cs,j,I,av⟩:=h;exact⟨b,cs,by rw[he];exact j,I,av⟩
 |gone=>exact(he.trans h:aB cl=none)
 |fd=>exact(he.trans h:aB cl=none)
 |az z g s rows=>
  rcases h with⟨j,I⟩|⟨b,cs,elem,bj,j,I,av,ba,bs⟩
  ·exact .inl ⟨by rw[he];exact j,I⟩
  ·refine .inr ⟨b,cs,elem,bj,by rw[he];exact j,I,av,ba,λ r y aY=>?_⟩;have:=bs r y aY;have e:aB ⟨cl,r+1⟩=ab ⟨c,r+1⟩:=o_ (r+1);cases y with
   |own bP=>obtain⟨bG,bC⟩:=this;refine⟨bG,?_⟩;rw[e];exact bC
   |dK q=>exact this
   |dead=>exact this
def nP:∀{aV:List Nat} {c i:Nat},bt aV c=some i→aV[i]?=some c
 |[],c,i,h=>by simp[bt]at h
 |d::aV,c,i,h=>by
  simp only[bt]at h;split at h
  ·rename_i e;cases h;simp[e]
  ·simp only[c0]at h;obtain⟨ac,a_,rfl⟩:=h;simpa using nP a_
def zj:∀{aV:List Nat} {c i:Nat},aV.Nodup→aV[i]?=some c→bt aV c=some i
 |[],c,i,_,h=>by simp at h
 |d::aV,c,0,aE,h=>by simp at h;simp[bt,h]
 |d::aV,c,i+1,aE,h=>by
  simp only[jF]at h;have hm:=kn h;have gh:c≠d:=λ e=>by subst e;exact(EQ.1 aE).1 hm
  simp[bt,gh,zj (EQ.1 aE).2 h]
def T1{aV:List Nat}{c:Nat}(h:bt aV c=none):c∉aV:=by
 induction aV with
 |nil=>simp
 |cons d aV a8=>
  simp only[bt]at h;split at h
  ·cases h
  ·rename_i gh;simp only[Option.map_eq_none_iff]at h;simp[gh,a8 h]
def BH(H:aa):∀(n:Nat) (l seen:List Nat),seen.Nodup→(∀c∈seen,c<H.length)→(reach H n l seen).Nodup∧∀c∈reach H n l seen,c<H.length
 |0,l,seen,j,I=>by simp only[reach];exact⟨j,I⟩
 |n+1,[],seen,j,I=>by simp only[reach];exact⟨j,I⟩
 |n+1,c::r,seen,j,I=>by
  simp only[reach];split
  ·exact BH H n r seen j I
  ·rename_i ag;simp only[not_or,e']at ag;refine BH H n _ _ ?_ ?_
   ·rw[List.nodup_append];exact⟨j,by simp,λ a aA b aj=>by simp at aj;subst aj;exact λ e=>ag.1 (e▸aA)⟩
   ·intro d aM;simp at aM;rcases aM with aM|rfl
    ·exact I d aM
    ·exact ag.2
def xj:∀(aV:List Nat) (xs:List Chunk) (H:aa),(ea H aV xs).length=H.length
 |[],xs,H=>by cases xs<;>rfl
 |c::aV,[],H=>rfl
 |c::aV,x::xs,H=>by simp only[ea];rw[xj aV xs];simp
def Nc:∀(aV:List Nat) (xs:List Chunk) (H:aa),aV.Nodup→xs.length=aV.length→(∀c∈aV,c<H.length)→∀c,(ea H aV xs)[c]?=match bt aV c with|some i=>xs[i]?|none=>H[c]?
 |[],xs,H,_,_,_,c=>by cases xs<;>simp[ea,bt]
 |d::aV,[],H,_,h,_,c=>by simp at h
 |d::aV,x::xs,H,aE,al,be,c=>by
  simp only[ea];rw[Nc aV xs (H.set d x) (EQ.1 aE).2 (by simpa using al) (λ c ag=>by simpa using be c (by simp[ag])) c];simp only[bt];by_cases e2:c=d
  ·subst e2;have:bt aV c=none:=by
    cases h:bt aV c with
    |none=>rfl
    |some i=>exact absurd (kn (nP h)) (EQ.1 aE).1
   rw[this];have ER:=be c (by simp);simp[ER]
  ·simp only[e2,if_false];cases h:bt aV c with
   |none=>simp[dw (a' e2)]
   |some i=>simp
def ow(ad:b')(ab:b8)(H:aa)(args:List U)(vs:Array Value):Prop:=vs.size=args.length∧∀(k:Nat) (a:U),args[k]?=some a→a6 ad ab H a (vs.getD k undef)
def nQ(E:Env)(aJ:dy):Prop:=∀f args H r an,aJ f args H=some (r,an)→∀ad ab w vs,b5 E ad ab H w→ow ad ab H args vs→
 Calls E.P f vs w λ e aq=>∃x,e=.returned x∧ci E ad ab H w an aq λ aL aB=>a6 aL aB an r x
def zk(E:Env):Prop:=∀f h,E.ext f=some h→∀args H r an,h args H=some (r,an)→∀ad ab w vs,b5 E ad ab H w→ow ad ab H args vs→
 Calls E.P f vs w λ e aq=>∃x,e=.returned x∧ci E ad ab H w an aq λ aL aB=>a6 aL aB an r x
def aku{aJ:dy}(ch:nQ E aJ)(sQ:zk E):nQ E (eV E aJ):=by
 intro f args H r an h;unfold eV at h;split at h
 ·rename_i g aP;exact sQ f g aP args H r an h
 ·exact ch f args H r an h
def BI:∀{ad:b'} {ab:b8} {H:aa} (ap:b5 E ad ab H w) {args hA:List U} {H1:aa} (f:Nat→Value),dk H args=some (hA,H1)→(∀(k:Nat) (a:U),args[k]?=some a→a6 ad ab H a (f k))→
  ci E ad ab H w H1 w λ aL aB=>hA.length=args.length∧∀(k:Nat) (a:U),hA[k]?=some a→a6 aL aB H1 a (f k)
 |ad,ab,H,ap,[],hA,H1,f,h,r=>by simp only[dk,bg,bw]at h;obtain⟨rfl,rfl⟩:=h;exact ci.refl ap ⟨rfl,λ k a h=>by simp at h⟩
 |ad,ab,H,ap,a::l,hA,H1,f,h,r=>by
  have rest:∀{bE:List U} {bu:aa},dk H l=some (bE,bu)→ci E ad ab H w bu w λ aL aB=>bE.length=l.length∧∀(k:Nat) (b:U),bE[k]?=some b→a6 aL aB bu b (f (k+1)):=
   λ h=>BI ap (λ k=>f (k+1)) h (λ k b aj=>r (k+1) b (by simpa using aj))
  have other:∀{bE:List U} {bu:aa},dk H l=some (bE,bu)→hA=a::bE→H1=bu→ci E ad ab H w H1 w λ aL aB=>hA.length=(a::l).length∧∀(k:Nat) (b:U),hA[k]?=some b→a6 aL aB H1 b (f k):=by
   intro bE bu h ao aH;subst ao aH;refine(rest h).imp λ aL aB _ hm bm=>⟨by simp[bm.1],λ k b aj=>?_⟩
   cases k with
   |zero=>simp at aj;subst aj;exact hm _ _ (r 0 a rfl)
   |succ k=>exact bm.2 k b (by simpa using aj)
  cases a with
  |ref c g off len=>
   simp only[dk]at h;split at h
   ·rename_i x bu j;split at h
    ·rename_i bE ox I;simp only[bg,bw]at h;obtain⟨rfl,rfl⟩:=h;refine(yZ ap (r 0 _ rfl) j).trans λ ef dW dm _ hm ak=>?_
     refine(BI dm (λ k=>f (k+1)) I (λ k b aj=>hm _ _ (r (k+1) b (by simpa using aj)))).imp λ eY ev cc gB bm=>⟨by simp[bm.1],λ k b aj=>?_⟩
     cases k with
     |zero=>simp at aj;subst aj;exact .i _ _ (ak.mono cc)
     |succ k=>exact bm.2 k b (by simpa using aj)
    ·cases h
   ·cases h
  |x q=>
   simp only[dk]at h;split at h
   ·rename_i x bu j;split at h
    ·rename_i bE ox I;simp only[bg,bw]at h;obtain⟨rfl,rfl⟩:=h;refine(yZ ap (r 0 _ rfl) j).trans λ ef dW dm _ hm ak=>?_
     refine(BI dm (λ k=>f (k+1)) I (λ k b aj=>hm _ _ (r (k+1) b (by simpa using aj)))).imp λ eY ev cc gB bm=>⟨by simp[bm.1],λ k b aj=>?_⟩
     cases k with
     |zero=>simp at aj;subst aj;exact .i _ _ (ak.mono cc)
     |succ k=>exact bm.2 k b (by simpa using aj)
    ·cases h
   ·cases h
  |agg cells=>
   simp only[dk]at h;split at h
   ·rename_i xs bu j;split at h
    ·rename_i bE ox I;simp only[bg,bw]at h;obtain⟨rfl,rfl⟩:=h;have ik:=r 0 _ rfl;have bh:∃cs:Array Value,f 0=.agg cs∧cs.size=cells.length∧∀(k:Nat) (a:U),cells[k]?=some a→a6 ad ab H a (cs.getD k undef):=by
      generalize f 0=v at ik;cases ik with
      |agg _ cs al h=>exact⟨cs,rfl,al,h⟩
     obtain⟨cs,ES,al,eS⟩:=bh;refine(HU ap (λ k=>cs.getD k undef) eS j).trans λ ef dW dm _ hm ak=>?_
     refine(BI dm (λ k=>f (k+1)) I (λ k b aj=>hm _ _ (r (k+1) b (by simpa using aj)))).imp λ eY ev cc gB bm=>⟨by simp[bm.1],λ k b aj=>?_⟩
     cases k with
     |zero=>
      simp at aj;subst aj;rw[ES];refine .agg _ _ (by simp[kH,ak.1,al]) λ k a aA=>?_
      simp only[kH,fw,c0]at aA;obtain⟨x,lJ,rfl⟩:=aA;exact .i _ _ ((ak.2 k x lJ).mono cc)
     |succ k=>exact bm.2 k b (by simpa using aj)
    ·cases h
   ·split at h
    ·rename_i bE bu j;simp only[bg,bw]at h;exact other j h.1.symm h.2.symm
    ·cases h
  |dead|i|ptr|dv|aQ|bd=>
   simp only[dk]at h;split at h
   ·rename_i bE bu j;simp only[bg,bw]at h;exact other j h.1.symm h.2.symm
   ·cases h
def T2:∀(br:List (Option Nat)) (l:List U),(jx br l).length=l.length
 |[],l=>rfl
 |k::br,[]=>rfl
 |k::br,a::l=>by cases a<;>simp[jx,T2 br l]
def T3:∀(br:List (Option Nat)) (l:List U) (i:Nat) (y:U),(jx br l)[i]?=some y→∃x,l[i]?=some x∧(y=x∨∃k z,x=.i z∧y=.i (hZ k z))
 |[],l,i,y,h=>⟨y,h,.inl rfl⟩
 |k::br,[],i,y,h=>by simp[jx]at h
 |k::br,a::l,0,y,h=>by
  cases a<;>simp[jx]at h<;>subst h
  case i z=>exact⟨_,rfl,.inr ⟨k,z,rfl,rfl⟩⟩
  all_goals exact⟨_,rfl,.inl rfl⟩
 |k::br,a::l,i+1,y,h=>by
  have:(jx br l)[i]?=some y:=by cases a<;>simpa[jx]using h
  simpa using T3 br l i y this
def akv{br:List (Option Nat)}{a:U}{v:Value}(r:a6 ad ab H a v):a6 ad ab H (rC br a) v:=by
 cases r with
 |i x v h=>exact .i _ _ (y1 h)
 |agg cells cs al h=>
  refine .agg _ _ (by rw[T2];exact al) λ k a aA=>?_
  obtain⟨x,ak,rfl|⟨dx,z,rfl,rfl⟩⟩:=T3 _ _ _ _ aA
  ·exact h k _ ak
  ·exact .i _ _ (y1 (iA (h k _ ak)))
 |dead v=>exact .dead v
 |ref c g ai n v j I av ba bs=>exact .ref c g ai n v j I av ba bs
 |ptr c g r k v j I av ba bs dq gn=>exact .ptr c g r k v j I av ba bs dq gn
 |dv c v j I av ba bs dq=>exact .dv c v j I av ba bs dq
 |x k v h aI=>exact .x k v h aI
 |aQ fn a b eI cs j I av ba=>exact .aQ fn a b eI cs j I av ba
 |bd vs xs al h=>exact .bd vs xs al h
def Nd:∀(br:List (List (Option Nat))) (l:List U),(nC br l).length=l.length
 |[],l=>rfl
 |k::br,[]=>rfl
 |k::br,a::l=>by simp[nC,Nd br l]
def Nf:∀(br:List (List (Option Nat))) (l:List U) (f:Nat→Value),(∀(k:Nat) (a:U),l[k]?=some a→a6 ad ab H a (f k))→∀(k:Nat) (a:U),(nC br l)[k]?=some a→a6 ad ab H a (f k)
 |[],l,f,h=>h
 |k::br,[],f,h=>h
 |xk::br,b::l,f,h=>λ k a aA=>by
  cases k with
  |zero=>simp[nC]at aA;subst aA;exact akv (h 0 b rfl)
  |succ k=>exact Nf br l (λ k=>f (k+1)) (λ k a h1=>h (k+1) a (by simpa using h1)) k a (by simpa[nC]using aA)
def akw(ap:b5 E ad ab H w)(x:Chunk):e6 ad ab H ad ab (H++[x]):=by
 refine mG (λ _ _ h=>h) (by simp) λ c ag=>?_
 exact iX.same (by rw[ei ag]) (λ _=>rfl)
def Ng(ap:b5 E ad ab H w){a:U}{v:Value}(z:Nat)(r:a6 ad ab H a v):ci E ad ab H w (iU z H a).2 w λ aL aB=>a6 aL aB (iU z H a).2 (iU z H a).1 v:=by
 unfold iU;split
 ·rename_i aw;cases aM:decide (z<1000)
  ·have bh:∃a,v=.slice a 0 0:=by
    have:=iA r;cases this with
    |nil _ _ a cap h=>exact⟨a,by rw[h rfl]⟩
    |sl _ _ _ b off cap cs elem bj dA cc ag ak ah j I=>exact⟨_,by rw[ak rfl];rfl⟩
   obtain⟨a,rfl⟩:=bh;exact MO ap (z-1000) a
  simp only[yA];have hm:=akw ap (.sl z 0 [] false);have cb:ab H.length=none:=by
   cases h:ab H.length with
   |none=>rfl
   |some p=>have:=ap.Bc (b:=p.1) (n:=p.2) h;omega
  have bh:∃a,v=.slice a 0 0:=by
   have:=iA r;cases this with
   |nil _ _ a cap h=>exact⟨a,by rw[h rfl]⟩
   |sl _ _ _ b off cap cs elem bj dA cc ag ak ah j I=>exact⟨_,by rw[ak rfl];rfl⟩
  obtain⟨a,rfl⟩:=bh;refine⟨ad,ab,⟨ap.dR,λ c x ak=>?_,ap.inj,λ c b n h=>?_,ap.e4⟩,Trans.refl _ _ _,hm,?_⟩
  ·by_cases ag:c<H.length
   ·rw[ei ag]at ak;exact(ap.b6 c x ak).mono (λ _=>rfl) (λ _ _ h=>h) hm (λ _ _ _ _=>rfl)
   ·have:c=H.length:=by have:=(bF.1 ak).1;simp at this;omega
    subst this;simp at ak;subst ak;exact⟨λ _=>cb,λ i r h=>by simp at h,.inl ⟨cb,rfl⟩⟩
  ·have:=ap.sep c b n h;exact⟨this.1,this.2.1,by simp;omega⟩
  ·refine .ref _ _ _ _ _ (by simp) (λ h2 c7 hB h=>?_) (λ _ _ _ h=>by simp at h) ⟨_,_,rfl⟩ (λ _ _ _ _ h=>R);simp at h;obtain⟨rfl,rfl,rfl⟩:=h;exact⟨by simp,a,0,rfl,.inl ⟨cb,rfl⟩⟩
 ·exact ci.refl ap r
def akx(ap:b5 E ad ab H w){a:U}{v:Value}(k:List (Option Nat))(r:a6 ad ab H a v):ci E ad ab H w (k7 k H a).2 w λ aL aB=>a6 aL aB (k7 k H a).2 (k7 k H a).1 v:=by
 unfold k7;split
 ·exact Ng ap _ r
 ·exact ci.refl ap r
def Nh:∀{ad:b'} {ab:b8} (br:List (List (Option Nat))) (l:List U) {H:aa} (ap:b5 E ad ab H w) (f:Nat→Value),(∀(k:Nat) (a:U),l[k]?=some a→a6 ad ab H a (f k))→
  ci E ad ab H w (eR br l H).2 w λ aL aB=>(eR br l H).1.length=l.length∧∀(k:Nat) (a:U),(eR br l H).1[k]?=some a→a6 aL aB (eR br l H).2 a (f k)
 |ad,ab,[],l,H,ap,f,h=>by simp only[eR,true_and];exact ci.refl ap h
 |ad,ab,xk::br,[],H,ap,f,h=>by simp only[eR,true_and];exact ci.refl ap h
 |ad,ab,xk::br,b::l,H,ap,f,h=>by
  simp only[eR];refine(akx ap xk (h 0 b rfl)).trans λ ef dW dm _ hm ak=>?_
  refine(Nh br l dm (λ k=>f (k+1)) (λ k a h1=>hm _ _ (h (k+1) a (by simpa using h1)))).imp λ aL aB _ gB bm=>⟨by simp[bm.1],λ k a aA=>?_⟩
  cases k with
  |zero=>simp at aA;subst aA;exact gB _ _ ak
  |succ k=>exact bm.2 k a (by simpa using aA)
def aky(ap:b5 E ad ab H w){g:FuncId}{args hA:List U}{H1:aa}(f:Nat→Value)(h:iV E g H args=some (hA,H1))(r:∀(k:Nat) (a:U),args[k]?=some a→a6 ad ab H a (f k)):
  ci E ad ab H w H1 w λ aL aB=>hA.length=args.length∧∀(k:Nat) (a:U),hA[k]?=some a→a6 aL aB H1 a (f k):=by
 unfold iV at h;split at h
 ·simp only[bg]at h;have:=Nh (E.gF g) args ap f r;rw[h]at this;exact this
 ·split at h
  ·rename_i bE bu au;simp only[bg,bw]at h;obtain⟨rfl,rfl⟩:=h;exact(BI ap f au r).imp λ aL aB _ _ bm=>⟨by rw[Nd];exact bm.1,Nf _ _ f bm.2⟩
  ·cases h
end
section
variable{E:Env}{ad:b'}{ab:b8}{H:aa}{w:World}
def ve(H:aa)(aV:List Nat):aa:=aV.map λ c=>((H[c]?).map (Chunk.cI (bt aV))).getD (.iter [] 0)
def nR(ab:b8)(aV:List Nat):b8:=λ i=>match aV[i.c]? with|some c=>ab ⟨c,i.r⟩|none=>none
def fb.ext'{i ac:fb}(j:i.c=ac.c)(I:i.r=ac.r):i=ac:=by cases i;cases ac;simp_all
def T4{aV:List Nat}(be:∀c∈aV,c<H.length){i c:Nat}(h:aV[i]?=some c):(ve H aV)[i]?=(H[c]?).map (Chunk.cI (bt aV)):=by have ag:=be c (kn h);simp[ve,h,ag]
def ET{aV:List Nat}(aE:aV.Nodup)(be:∀c∈aV,c<H.length):Iq (bt aV) ab H (nR ab aV) (ve H aV):=by intro c i h;have ax:=nP h;refine⟨by simp[ve];exact(bF.1 ax).1,λ r=>by simp[nR,ax],T4 be ax⟩
def T5(ap:b5 E ad ab H w){aV:List Nat}(aE:aV.Nodup)(be:∀c∈aV,c<H.length):b5 E ad (nR ab aV) (ve H aV) w:=by
 refine⟨ap.dR,λ i x ak=>?_,λ i ac b n dP j I=>?_,λ i b n h=>?_,ap.e4⟩
 ·have y2:i<aV.length:=by have:=(bF.1 ak).1;simpa[ve]using this
  have ax:=eX y2;rw[T4 be ax]at ak;simp only[c0]at ak;obtain⟨y,aY,rfl⟩:=ak;exact Nb (ET aE be) (λ r=>by simp[nR,ax]) (ap.b6 _ _ aY)
 ·unfold nR at j I;split at j
  ·rename_i c ag;split at I
   ·rename_i d aM;have:=ap.inj _ _ _ _ _ j I;simp only[fb.mk.injEq]at this;obtain⟨rfl,ah⟩:=this;have ao:=zj aE ag;have aH:=zj aE aM;rw[ao]at aH;exact fb.ext' (pY aH) ah
   ·cases I
  ·cases j
 ·unfold nR at h;split at h
  ·rename_i c ag;have:=ap.sep _ _ _ h;exact⟨this.1,this.2.1,by simp[ve];exact(bF.1 ag).1⟩
  ·cases h
def akz(ap:b5 E ad ab H w){aV:List Nat}(aE:aV.Nodup)(be:∀c∈aV,c<H.length){L:aa}{aq:World}{aL:b'}{aB:b8}(BJ:b5 E aL aB L aq)(dn:Trans ad (nR ab aV) w aL aB aq)
  (hm:e6 ad (nR ab aV) (ve H aV) aL aB L)(e_:aV.length≤L.length){K:List Nat}(jl:K.Nodup)(Is:∀i∈K,aV.length≤i)(Ni:∀i∈K,i<L.length){qU:aa}
  (gR:qU=ea H aV ((L.take aV.length).map (Chunk.cI (df aV H.length K)))++K.map λ i=>((L[i]?).map (Chunk.cI (df aV H.length K))).getD (.iter [] 0)):
  ∃jG,b5 E aL jG qU aq∧Trans ad ab w aL jG aq∧e6 ad ab H aL jG qU∧∀r x,a6 aL aB L r x→a6 aL jG qU (co (df aV H.length K) r) x:=by
 let aS:=df aV H.length K
 let jG:b8:=λ c=>match bt aV c.c with
  |some i=>aB ⟨i,c.r⟩
  |none=>if c.c<H.length then ab c else match K[c.c-H.length]? with
   |some i=>aB ⟨i,c.r⟩
   |none=>none
 have vf:((L.take aV.length).map (Chunk.cI aS)).length=aV.length:=by simp;omega
 have p8:∀c,qU[c]?=match bt aV c with
   |some i=>(L[i]?).map (Chunk.cI aS)
   |none=>if c<H.length then H[c]? else match K[c-H.length]? with
    |some i=>(L[i]?).map (Chunk.cI aS)
    |none=>none:=by
  intro c;rw[gR];by_cases ag:c<H.length
  ·rw[ei (by rw[xj];exact ag),Nc _ _ _ aE vf be];cases au:bt aV c with
   |none=>simp[ag]
   |some i=>have ax:=(bF.1 (nP au)).1;simp[nJ,ax,aS]
  ·rw[hd (by rw[xj];omega),xj];have au:bt aV c=none:=by
    cases h:bt aV c with
    |none=>rfl
    |some i=>exact absurd (be c (kn (nP h))) ag
   rw[au];simp only[ag,if_false,fw];cases ay:K[c-H.length]? with
   |none=>rfl
   |some i=>have:=Ni i (kn ay);simp[this,aS]
 have aQx:qU.length=H.length+K.length:=by rw[gR];simp[xj]
 have qT:Iq aS aB L jG qU:=by
  intro i c h;have aN:(aV[i]?=some c)∨(aV[i]?=none∧∃ac,bt K i=some ac∧c=ac+H.length):=by
   simp only[aS,df]at h;split at h
   ·rename_i d aM;cases h;exact .inl aM
   ·rename_i aM;simp only[c0]at h;obtain⟨ac,a_,rfl⟩:=h;exact .inr ⟨aM,ac,a_,rfl⟩
  rcases aN with dj|⟨_,ac,a_,rfl⟩
  ·have au:=zj aE dj;have ag:=be c (kn dj);exact⟨R,λ r=>by simp[jG,au],by rw[p8,au]⟩
  ·have BK:=nP a_;have jH:=(bF.1 BK).1;have au:bt aV (ac+H.length)=none:=by
    cases h:bt aV (ac+H.length)with
    |none=>rfl
    |some i=>have:=be _ (kn (nP h));omega
   have e:¬(ac+H.length<H.length):=R;refine⟨R,λ r=>by simp[jG,au,BK];intro h;omega,by rw[p8,au];simp[BK];intro h;omega⟩
 have own:∀(i:fb) b n,aB i=some (b,n)→w.heap.size≤b∨∃(c:fb) (m:Nat),c.c∈aV∧ab c=some (b,m):=by
  intro i b n h;rcases dn.own i b n h with j|⟨ac,m,j⟩
  ·exact .inl j
  ·unfold nR at j;split at j
   ·rename_i c ag;exact .inr ⟨⟨c,_⟩,m,kn ag,j⟩
   ·cases j
 have frame:∀(c:fb),c.c∉aV→∀b n,ab c=some (b,n)→aq.heap[b]?=w.heap[b]?:=by
  intro c akA b n h;refine dn.frame b (ap.sep _ _ _ h).2.1 λ i m ax=>?_
  unfold nR at ax;split at ax
  ·rename_i d aM;have:=ap.inj _ _ _ _ _ h ax;subst this;exact akA (kn aM)
  ·cases ax
 have EU:∀(c:fb) b n,jG c=some (b,n)→(∃i,aB ⟨i,c.r⟩=some (b,n)∧((bt aV c.c=some i)∨(bt aV c.c=none∧H.length≤c.c∧K[c.c-H.length]?=some i)))∨(c.c∉aV∧bt aV c.c=none∧c.c<H.length∧ab c=some (b,n)):=by
  intro c b n h;simp only[jG]at h;split at h
  ·rename_i i ax;exact .inl ⟨i,h,.inl ax⟩
  ·rename_i au;split at h
   ·rename_i ag;exact .inr ⟨T1 au,au,ag,h⟩
   ·rename_i ag;split at h
    ·rename_i i ax;exact .inl ⟨i,h,.inr ⟨au,R,ax⟩⟩
    ·cases h
 have T6:∀(i:fb) b n (c:fb) m,aB i=some (b,n)→c.c∉aV→ab c=some (b,m)→False:=by
  intro i b n c m j ag I;rcases own i b n j with av|⟨d,bZ,aM,av⟩
  ·have:=(ap.sep _ _ _ I).2.1;omega
  ·have:=ap.inj _ _ _ _ _ I av;subst this;exact ag aM
 have T7:e6 ad ab H aL jG qU:=by
  intro a v r;have It:=λ a v (r:a6 ad ab H a v)=>vd (an:=qU) (aB:=jG) qT (hm _ _ (vd (ET aE be) r))
  induction r with
  |dead v=>exact .dead v
  |i x v h=>exact .i x v (h.mono dn.dR)
  |agg cells cs al _ a8=>exact .agg cells cs al a8
  |aQ fn first ft eI cs al hm _ _ nH nI=>exact .aQ fn first ft eI cs al hm nH nI
  |bd vs xs al _ a8=>exact .bd vs xs al a8
  |ref c g off len v ag aR aI au aP=>
   cases hL:bt aV c with
   |some i=>
    have:=It _ _ (.ref c g off len v ag aR aI au aP);have aj:aS i=some c:=by simp[aS,df,nP hL]
    simp only[co,hL]at this;rw[aj]at this;exact this
   |none=>
    have aO:qU[c]?=H[c]?:=by rw[p8,hL];simp[ag]
    have cb:jG c=ab c:=by simp[jG,hL,ag]
    refine .ref c g off len v R (λ aw rows ex h=>?_) (λ aw rows ex h=>?_) au (λ aw aU rows ex h=>?_)
    ·rw[aO]at h;have:=aR _ _ _ h;unfold sC at*;rw[cb];exact this
    ·rw[aO]at h;exact⟨(aI _ _ _ h).1,(aI _ _ _ h).2.mono dn.dR⟩
    ·rw[aO]at h;exact aP _ _ _ _ h
  |dv c v ag hm bp hu au bf=>
   cases hL:bt aV c with
   |some i=>
    have:=It _ _ (.dv c v ag hm bp hu au bf);have aj:aS i=some c:=by simp[aS,df,nP hL]
    simp only[co,hL]at this;rw[aj]at this;exact this
   |none=>
    have aO:qU[c]?=H[c]?:=by rw[p8,hL];simp[ag]
    have cb:jG c=ab c:=by simp[jG,hL,ag]
    refine .dv c v R (λ es h=>?_) (λ t cells h=>?_) (λ t l h=>?_) au (λ aw g rows ex h=>by rw[aO]at h;exact bf _ _ _ _ h)
    ·rw[aO]at h;rw[cb];exact hm _ h
    ·rw[aO]at h;rw[cb];exact bp _ _ h
    ·rw[aO]at h;rw[cb];exact hu _ _ h
  |x k v h aI=>
   cases hL:bt aV k.c with
   |some i=>
    have:=It _ _ (.x k v h aI);have aj:aS i=some k.c:=by simp[aS,df,nP hL]
    simp only[co,hL]at this;have po:(k.to i).c=i:=by cases k<;>rfl
    have Mt:(k.to i).to k.c=k:=by cases k<;>rfl
    rw[po,aj]at this;simp only[Mt]at this;exact this
   |none=>
    have ag:=h.lt;have aO:qU[k.c]?=H[k.c]?:=by rw[p8,hL];simp[ag]
    refine .x _ _ (h.step R ?_) (aI.to dn.dR λ g rows e=>by rw[←aO];exact e);intro z g s rows lc;rw[aO]at lc;exact .inl ⟨s,rows,lc,by simp[jG,hL,ag],rfl,.inr ⟨rfl,λ r bP ah=>⟨bP,ah,rfl,by simp[jG,hL,ag]⟩⟩⟩
  |ptr c g r k v ag aj aR aI ax au aP=>
   cases hL:bt aV c with
   |some i=>
    have:=It _ _ (.ptr c g r k v ag aj aR aI ax au aP);have aj:aS i=some c:=by simp[aS,df,nP hL]
    simp only[co,hL]at this;rw[aj]at this;exact this
   |none=>
    have aO:qU[c]?=H[c]?:=by rw[p8,hL];simp[ag]
    have cb:jG c=ab c:=by simp[jG,hL,ag]
    refine .ptr c g r k v R (λ cells h=>?_) (λ aw rows ex h=>?_) (λ aw rows ex row h ah=>?_) (λ s p h=>?_) au (λ aw aU rows ex h=>?_)
    ·rw[aO]at h;rw[cb];exact aj _ h
    ·rw[aO]at h;rw[cb];exact aR _ _ _ h
    ·rw[aO]at h;exact(aI _ _ _ _ h ah).mono dn.dR
    ·rw[aO]at h;rw[cb];exact ax _ _ h
    ·rw[aO]at h;exact aP _ _ _ _ h
 refine⟨jG,⟨BJ.dR,λ c x ak=>?_,λ c cl b n dP j I=>?_,λ c b n h=>?_,BJ.e4⟩,⟨dn.os,dn.tape,dn.output,dn.size,λ b aj BL=>?_,dn.dR,λ b aj=>?_,λ c b n h=>?_⟩,T7,λ r x ah=>vd qT ah⟩
 ·rw[p8]at ak;split at ak
  ·rename_i i ax;simp only[c0]at ak;obtain⟨y,aY,rfl⟩:=ak;exact Nb qT (λ r=>by simp[jG,ax]) (BJ.b6 _ _ aY)
  ·rename_i au;split at ak
   ·rename_i ag;exact(ap.b6 _ _ ak).mono (λ r=>by simp[jG,au,ag]) dn.dR T7 (λ r b n h=>frame ⟨c,r⟩ (T1 au) b n h)
   ·rename_i ag;split at ak
    ·rename_i i ax;simp only[c0]at ak;obtain⟨y,aY,rfl⟩:=ak;exact Nb qT (λ r=>by simp[jG,au,ag,ax]) (BJ.b6 _ _ aY)
    ·cases ak
 ·rcases EU _ _ _ j with⟨i,ao,d1⟩|⟨f',oy,c4,ao⟩
  ·rcases EU _ _ _ I with⟨ac,aH,d2⟩|⟨gi,qV,eN,aH⟩
   ·have T8:=BJ.inj _ _ _ _ _ ao aH;simp only[fb.mk.injEq]at T8;obtain⟨rfl,ij⟩:=T8;refine fb.ext' ?_ ij;rcases d1 with d1|⟨_,c4,d1⟩
    ·rcases d2 with d2|⟨_,eN,d2⟩
     ·have hs:=nP d1;have a2:=nP d2;rw[hs]at a2;exact pY a2
     ·have hs:=(bF.1 (nP d1)).1;have a2:=Is i (kn d2);omega
    ·rcases d2 with d2|⟨_,eN,d2⟩
     ·have hs:=(bF.1 (nP d2)).1;have a2:=Is i (kn d1);omega
     ·have hs:=zj jl d1;have a2:=zj jl d2;rw[hs]at a2;have:=pY a2;omega
   ·exact(T6 _ _ _ _ _ ao gi aH).elim
  ·rcases EU _ _ _ I with⟨ac,aH,d2⟩|⟨gi,qV,eN,aH⟩
   ·exact(T6 _ _ _ _ _ aH f' ao).elim
   ·exact ap.inj _ _ _ _ _ ao aH
 ·rcases EU _ _ _ h with⟨i,ao,d1⟩|⟨f',oy,c4,ao⟩
  ·have:=BJ.sep _ _ _ ao;refine⟨this.1,this.2.1,?_⟩;rcases d1 with d1|⟨_,c4,d1⟩
   ·have:=be c.c (kn (nP d1));omega
   ·have:=(bF.1 d1).1;omega
  ·have aR:=ap.sep _ _ _ ao;refine⟨?_,by have:=dn.size;omega,R⟩;cases cc:aL b with
   |none=>rfl
   |some ai=>
    exfalso;rcases dn.qG b (by rw[cc];simp)with j|j|⟨i,m,j⟩
    ·rw[aR.1]at j;exact j rfl
    ·omega
    ·unfold nR at j;split at j
     ·rename_i d aM;have:=ap.inj _ _ _ _ _ ao j;subst this;exact f' (kn aM)
     ·cases j
 ·refine dn.frame b aj λ i m ax=>?_
  unfold nR at ax;split at ax
  ·exact BL _ _ ax
  ·cases ax
 ·rcases dn.qG b aj with j|j|⟨i,m,j⟩
  ·exact .inl j
  ·exact .inr (.inl j)
  ·unfold nR at j;split at j
   ·exact .inr (.inr ⟨_,_,j⟩)
   ·cases j
 ·rcases EU _ _ _ h with⟨i,ao,d1⟩|⟨f',oy,c4,ao⟩
  ·rcases own _ _ _ ao with j|⟨d,m,_,j⟩
   ·exact .inl j
   ·exact .inr ⟨_,_,j⟩
  ·exact .inr ⟨_,_,ao⟩
def akB{aJ:dy}(ch:nQ E aJ)(sQ:zk E):nQ E (k9 E aJ):=by
 intro f args H r an h ad ab w vs ap bY;unfold k9 at h;have akC:∀hA H1,iV E f H args=some (hA,H1)→ci E ad ab H w H1 w λ aL aB=>ow aL aB H1 hA vs:=by
  intro hA H1 au;exact(aky ap _ au bY.2).imp λ aL aB _ _ bm=>⟨by rw[bm.1];exact bY.1,bm.2⟩
 split at h
 ·cases h
 ·rename_i hA H1 au;obtain⟨ef,dW,dm,lN,gW,Iu⟩:=akC hA H1 au;simp only at h;split at h
  ·cases h
  ·rename_i ik L e_;split at h
   ·cases h
   ·rename_i hlen;simp only[bg,bw]at h;obtain⟨rfl,rfl⟩:=h;obtain⟨EV,xl⟩:=BH H1 64 (bx hA) [] (by simp) (by simp);generalize dj:reach H1 64 (bx hA) []=aV at*;have Nj:ow ef (nR dW aV) (ve H1 aV) (cx (bt aV) hA) vs:=by refine⟨by rw[tQ];simpa using Iu.1,λ k a aA=>?_⟩;rw[tQ]at aA;simp only[fw,c0]at aA;obtain⟨b,aj,rfl⟩:=aA;exact vd (ET EV xl) (Iu.2 k b aj)
    refine(aku ch sQ f _ _ _ _ e_ ef (nR dW aV) w vs (T5 dm EV xl) Nj).mono λ e aq he=>?_
    obtain⟨x,ak,eY,ev,bG,bC,cE,eU⟩:=he;obtain⟨pq,akD⟩:=BH L 64 (bc ik++(L.take aV.length).flatMap Chunk.refs) [] (by simp) (by simp);obtain⟨jG,fe,dz,Iv,BM⟩:=akz dm EV xl bG bC cE R (K:=(reach L 64 (bc ik++(L.take aV.length).flatMap Chunk.refs) []).filter λ i=>decide (aV.length≤i))
     (pq.filter _) (λ i ax=>by simpa using(Nk.1 ax).2) (λ i ax=>akD i (Nk.1 ax).1) rfl
    exact⟨x,ak,eY,jG,fe,lN.trans dz,gW.trans Iv,BM _ _ eU⟩
end
section
variable{E:Env}{ad:b'}{ab:b8}{H:aa}{w:World}
def T9{l m:List U}{xs cP:Array Value}(h:ow ad ab H l xs)(k:ow ad ab H m cP):ow ad ab H (l++m) (xs++cP):=by
 refine⟨by simp[h.1,k.1],λ ac a aA=>?_⟩;rw[tI]at aA;rw[di];split at aA
 ·rename_i a_;have:=h.2 _ _ aA;rw[xc (by rw[h.1];exact a_),←di];exact this
 ·rename_i a_;have:=k.2 _ _ aA;rw[TN (by rw[h.1];omega),h.1,←di];exact this
def akE{J:Fr}{a:Act}(ap:b5 E ad ab H w)(aI:eW ad ab H J a.tmps)(l:Array Operand):ow ad ab H (l.toList.map (bn E J)) (l.map a.eval):=by refine⟨by simp,λ k b aj=>?_⟩;simp only[fw,c0,mH]at aj;obtain⟨x,ak,rfl⟩:=aj;have be:=(jY.1 ak).1;rw[getD_map _ _ _ be,(jY.1 ak).2];exact eD ap aI x
def zl(E:Env):Prop:=∀g fn,E.oa g=some fn→∀(v:Value) (w:World),v.oneCell'=true→Calls E.P g #[v] w λ e aq=>e=.returned (.func (.func fn) #[] #[.pointer (some ⟨w.heap.size,0,none⟩)])∧∃t,aq=w.alloc (.cells #[v] t)
def akF(h:∀f,E.oa f=none):zl E:=λ g fn aP=>by rw[h]at aP;cases aP
def akG{a:U}{v:Value}(r:a6 ad ab H a v)(h:one a=true):v.oneCell'=true∧cw a=[a]∧v.cells=#[v]:=by
 have j:cw a=[a]:=by cases a<;>simp[one]at h<;>rfl
 have I:(cw a).all one=true:=by rw[j];simp[h]
 obtain⟨ao,aH,bN⟩:=tD r I;have b9:v.oneCell'=true:=by
  cases r with
  |i x v ak=>exact En ak
  |ref c g off len v ag aR aI au aP=>obtain⟨a,m,rfl⟩:=au;rfl
  |ptr c g r k v ag aj aR aI ax au aP=>obtain⟨a,rfl⟩:=au;rfl
  |dv c v ag hm bp hu au bf=>exact au
  |x k v ak aI=>exact ak.one
  |aQ=>rfl
  |_=>simp[one]at h
 exact⟨b9,j,by cases v<;>simp_all [tE,Ma]⟩
def akH{x y:Value}(h:D2 x y=true):x=y:=by
 unfold D2 at h;split at h
 ·split at h
  ·simp only[cR,decide_eq_true_eq]at h;rw[h.1,h.2]
  ·cases h
 ·split at h
  ·rw[eq_of_beq h]
  ·cases h
 ·split at h
  ·rfl
  ·cases h
 ·split at h
  ·rfl
  ·cases h
 ·split at h
  ·rfl
  ·cases h
 ·exact @of_decide_eq_true _ (Classical.propDecidable _) h
def akI(x:Value):D2 x x=true:=by unfold D2;split<;>simp
mutual
theorem Iw:∀{x y:aC},lE x y=true→x=y
 |.v x,y,h=>by
  cases y with
  |v y=>simp only[lE]at h;rw[akH h]
  |_=>simp[lE]at h
 |.str a,y,h=>by
  cases y with
  |str b=>simp only[lE]at h;rw[eq_of_beq h]
  |_=>simp[lE]at h
 |.sl z r e,y,h=>by
  cases y with
  |sl c_ hk k_=>simp only[lE,cR]at h;rw[eq_of_beq h.1,BN h.2.1,eq_of_beq h.2.2]
  |_=>simp[lE]at h
 |.gd c ai,y,h=>by
  cases y with
  |gd cl rI=>simp only[lE,cR]at h;rw[Nl h.1,eq_of_beq h.2]
  |_=>simp[lE]at h
 |.mp a,y,h=>by
  cases y with
  |mp b=>simp only[lE,decide_eq_true_eq]at h;rw[h]
  |_=>simp[lE]at h
theorem Nl:∀{x y:List aC},uO x y=true→x=y
 |[],y,h=>by
  cases y with
  |nil=>rfl
  |cons=>simp[uO]at h
 |a::r,y,h=>by
  cases y with
  |nil=>simp[uO]at h
  |cons b t=>simp only[uO,cR]at h;rw[Iw h.1,Nl h.2]
theorem BN:∀{x y:List (List aC)},rH x y=true→x=y
 |[],y,h=>by
  cases y with
  |nil=>rfl
  |cons=>simp[rH]at h
 |a::r,y,h=>by
  cases y with
  |nil=>simp[rH]at h
  |cons b t=>simp only[rH,cR]at h;rw[Nl h.1,BN h.2]
end
mutual
theorem Ix:∀x:aC,lE x x=true
 |.v x=>by simp[lE,akI]
 |.str a=>by simp[lE]
 |.sl z r e=>by simp[lE,Iy r]
 |.gd c ai=>by simp[lE,Nn c]
 |.mp a=>by simp[lE]
theorem Nn:∀x:List aC,uO x x=true
 |[]=>rfl
 |a::r=>by simp[uO,Ix a,Nn r]
theorem Iy:∀x:List (List aC),rH x x=true
 |[]=>rfl
 |a::r=>by simp[rH,Nn a,Iy r]
end
def akJ{x y:Fn}(h:Ho x y=true):x=y:=of_decide_eq_true h
def akK(x:Fn):Ho x x=true:=by simp[Ho]
mutual
theorem T_:∀{x y:U},ix x y=true→x=y
 |.dead,y,h=>by
  cases y with
  |dead=>rfl
  |_=>simp[ix]at h
 |.i x,y,h=>by
  cases y with
  |i y=>simp only[ix]at h;rw[Iw h]
  |_=>simp[ix]at h
 |.agg a,y,h=>by
  cases y with
  |agg b=>simp only[ix]at h;rw[zm h]
  |_=>simp[ix]at h
 |.ref a b c d,y,h=>by
  cases y with
  |ref bW bR cl ig=>simp only[ix,cR,beq_iff_eq]at h;obtain⟨rfl,rfl,rfl,rfl⟩:=h;rfl
  |_=>simp[ix]at h
 |.ptr a b c d,y,h=>by
  cases y with
  |ptr bW bR cl ig=>simp only[ix,cR,beq_iff_eq]at h;obtain⟨rfl,rfl,rfl,rfl⟩:=h;rfl
  |_=>simp[ix]at h
 |.dv a,y,h=>by
  cases y with
  |dv b=>simp only[ix]at h;rw[eq_of_beq h]
  |_=>simp[ix]at h
 |.x a,y,h=>by
  cases y with
  |x b=>simp only[ix,decide_eq_true_eq]at h;rw[h]
  |_=>simp[ix]at h
 |.aQ f a b,y,h=>by
  cases y with
  |aQ Hp bW bR=>simp only[ix,cR]at h;rw[akJ h.1,zm h.2.1,zm h.2.2]
  |_=>simp[ix]at h
 |.bd a,y,h=>by
  cases y with
  |bd b=>simp only[ix]at h;rw[zm h]
  |_=>simp[ix]at h
theorem zm:∀{x y:List U},qB x y=true→x=y
 |[],y,h=>by
  cases y with
  |nil=>rfl
  |cons=>simp[qB]at h
 |a::r,y,h=>by
  cases y with
  |nil=>simp[qB]at h
  |cons b t=>simp only[qB,cR]at h;rw[T_ h.1,zm h.2]
end
mutual
theorem T':∀x:U,ix x x=true
 |.dead=>rfl
 |.i x=>by simp[ix,Ix]
 |.agg a=>by simp[ix,BO a]
 |.ref a b c d=>by simp[ix]
 |.ptr a b c d=>by simp[ix]
 |.dv a=>by simp[ix]
 |.x a=>by simp[ix]
 |.aQ f a b=>by simp[ix,akK,BO a,BO b]
 |.bd a=>by simp[ix,BO a]
theorem BO:∀x:List U,qB x x=true
 |[]=>rfl
 |a::r=>by simp[qB,T' a,BO r]
end
def Ua:∀{x y:List (aC×U)},wJ x y=true→x=y
 |[],[],_=>rfl
 |[],_::_,h=>by simp[wJ]at h
 |_::_,[],h=>by simp[wJ]at h
 |(a,bW)::r,(b,bR)::t,h=>by simp only[wJ,cR]at h;rw[Iw h.1.1,T_ h.1.2,Ua h.2]
def Ub:∀x:List (aC×U),wJ x x=true
 |[]=>rfl
 |a::r=>by simp[wJ,Ix,T',Ub r]
def akL{x y:bT}(h:D3 x y=true):x=y:=by
 unfold D3 at h;split at h
 ·rw[BN h]
 ·rw[Iw h]
 ·rfl
 ·cases h
def akM(x:bT):D3 x x=true:=by cases x<;>simp[D3,Iy,Ix]
def Uc:∀{x y:List bT},wI x y=true→x=y
 |[],[],_=>rfl
 |[],_::_,h=>by simp[wI]at h
 |_::_,[],h=>by simp[wI]at h
 |a::r,b::t,h=>by simp only[wI,cR]at h;rw[akL h.1,Uc h.2]
def Ud:∀x:List bT,wI x x=true
 |[]=>rfl
 |a::r=>by simp[wI,akM,Ud r]
def akN{x y:Chunk}(h:D4 x y=true):x=y:=by
 unfold D4 at h;split at h
 ·rw[zm h]
 ·simp only[cR,beq_iff_eq]at h;obtain⟨rfl,rfl,av,rfl⟩:=h;rw[BN av]
 ·simp only[cR,beq_iff_eq]at h;obtain⟨rfl,rfl,av,rfl⟩:=h;rw[BN av]
 ·simp only[cR,beq_iff_eq]at h;obtain⟨rfl,rfl⟩:=h;rfl
 ·rw[Ua h]
 ·simp only[cR,beq_iff_eq]at h;obtain⟨rfl,I⟩:=h;rw[zm I]
 ·simp only[cR,beq_iff_eq]at h;obtain⟨rfl,rfl⟩:=h;rfl
 ·rfl
 ·simp only[cR,beq_iff_eq]at h;obtain⟨rfl,I⟩:=h;rw[BN I]
 ·simp only[cR,beq_iff_eq]at h;obtain⟨rfl,rfl,rfl,ba⟩:=h;rw[Uc ba]
 ·cases h
def akO(x:Chunk):D4 x x=true:=by cases x<;>simp[D4,BO,Iy,Ub,Ud]
def Ue:∀{x y:aa},wK x y=true→x=y
 |[],[],_=>rfl
 |[],_::_,h=>by simp[wK]at h
 |_::_,[],h=>by simp[wK]at h
 |a::r,b::t,h=>by simp only[wK,cR]at h;rw[akN h.1,Ue h.2]
def Uf:∀x:aa,wK x x=true
 |[]=>rfl
 |a::r=>by simp[wK,akO,Uf r]
def Iz(v:U):wL H (some (v,H))=some (v,H):=by simp only[wL,Uf,if_true]
def EW{q:Option (U×aa)}{v:U}{an:aa}(h:wL H q=some (v,an)):an=H∧q=some (v,H):=by
 unfold wL at h;split at h
 ·split at h
  ·rename_i he;cases h;exact⟨rfl,by rw[←Ue he]⟩
  ·cases h
 ·cases h
def akP{aJ:dy}(hmk:zl E)(ch:nQ E (k9 E aJ)):nQ E (gg E aJ):=by
 intro f args H r an h ad ab w vs ap bY;unfold gg at h;split at h
 ·rename_i fn p9;unfold wM at h;split at h
  ·rename_i a;split at h
   ·rename_i b9;cases h;have ah:=bY.2 0 a rfl;have Ug:vs=#[vs.getD 0 undef]:=by
     have j:=bY.1;obtain⟨l⟩:=vs
     match l,j with
     |[x],_=>rfl
    generalize vs.getD 0 undef=v at ah Ug;subst Ug;obtain⟨bG,bC,cE⟩:=akG ah b9;refine(hmk f fn p9 v w bG).mono λ e aq ⟨ao,t,aH⟩=>?_
    have hw:aq.heap=w.heap.push (.cells #[v] t):=by rw[aH];rfl
    refine⟨_,ao,HS (aq:=aq) ap hw (by rw[aH];rfl) (by rw[aH];rfl) (by rw[aH];rfl) (.box [a]) (λ hm=>?_) (λ hm=>?_)⟩
    ·exact⟨w.heap.size,#[v],t,(0,0),by simp[fM],w8 hw,pb _,rfl,λ k c ag=>by
      cases k with
      |zero=>simp at ag;subst ag;exact hm _ _ ah
      |succ k=>simp at ag⟩
    ·refine .aQ _ _ _ _ _ rfl rfl (λ k a h=>by simp at h) (λ k b h=>?_);cases k with
     |zero=>simp at h;subst h;exact .ptr _ _ _ _ _ (by simp) (λ cells h=>⟨w.heap.size,1,by simp[fM],rfl⟩) (λ _ _ _ h=>by simp at h) (λ _ _ _ _ h=>by simp at h) (λ _ _ h=>by simp at h) ⟨_,rfl⟩ (λ _ _ _ _ h=>by simp at h)
     |succ k=>simp at h
   ·cases h
  ·cases h
 ·split at h
  ·obtain⟨rfl,I⟩:=EW h;exact ch f args _ r _ I ad ab w vs ap bY
  ·exact ch f args H r an h ad ab w vs ap bY
def No{aJ:dy}(ch:nQ E (gg E aJ)){J:Fr}{a:Act}{ai:Oper}{v:U}{an:aa}(h:cd E aJ ai.op J H=some (v,an))(ap:b5 E ad ab H w)(aI:eW ad ab H J a.tmps)
  {K:Act→World→Prop}{Q:Exit→Act→World→Prop}(jl:∀x aq,ci E ad ab H w an aq (λ aL aB=>a6 aL aB an v x)→K (a.put ai.dst x) aq):ai.wp E.P a w K Q:=by
 have other:(∀f args e1,ai.op≠.call ⟨.value f,args,e1⟩)→(if ez E ai.op then dc E J H ai.op else(et E J H ai.op).map λ v=>(v,H))=some (v,an)→ai.wp E.P a w K Q:=by
  intro _ h;split at h
  ·obtain⟨tP,x,aq,j,I,av⟩:=TX h ap aI;unfold Oper.wp;rw[j];cases tP<;>simp only[M']at I<;>first|(cases I;done)|skip
   ·cases I;exact jl _ _ av
   ·cases I;exact jl _ _ av
  ·simp only[c0,bw]at h;obtain⟨hb,j,rfl,rfl⟩:=h;obtain⟨x,I,av⟩:=ajK j ap aI;unfold Oper.wp;rw[I];exact jl _ _ (ci.refl ap av)
 by_cases BP:∃f args e1,ai.op=.call ⟨.value f,args,e1⟩
 ·obtain⟨f,args,e1,b9⟩:=BP;rw[b9]at h;simp only[cd]at h;split at h
  ·rename_i g bE aP;split at h
   ·rename_i pr;unfold wN at aP;split at aP
    ·rename_i aU first ft ES
     simp only[bg,bw]at aP;obtain⟨rfl,rfl⟩:=aP;have Np:=eD ap aI f;rw[ES]at Np;generalize aY:a.eval f=y at Np;cases Np with
     |aQ fn eI cs xs cP al hm j I=>
      have bY:ow ad ab H (first++args.toList.map (bn E J)++ft) (xs++args.map a.eval++cP):=T9 (T9 ⟨al,j⟩ (akE ap aI args)) ⟨hm,I⟩;have Nq:∃fn,E.P.funcs[aU]?=some fn∧fn.body.isSome=true∧(fn.name== "runtime.NumGoroutine")=false:=by
       unfold k' at pr;split at pr
       ·rename_i fn p9;simp only[cR,qW]at pr;exact⟨fn,p9,pr.1,pr.2⟩
       ·cases pr
      obtain⟨fn,p9,aj,aE⟩:=Nq;have lI:(execOp a.eval ai).run E.P w=.ok (.enter aU (xs++args.map a.eval++cP)) w:=by
       have jk:¬fn.body=none:=by cases e9:fn.body<;>simp_all
       have BQ:¬fn.name= "runtime.NumGoroutine":=by simpa using aE
       simp[execOp,b9,resolve,aY,Deferred.ofValue,invoke,callFunc,p9,BQ,jk]
      unfold Oper.wp;rw[lI,Oper.upon_enter];refine(ch _ _ _ _ _ h ad ab w _ ap bY).mono λ e aq he=>?_
      obtain⟨x,rfl,ak⟩:=he;exact jl _ _ ak
    ·cases aP
   ·cases h
  ·cases h
 ·have gh:∀f args e1,ai.op≠.call ⟨.value f,args,e1⟩:=λ f args e1 e=>BP ⟨f,args,e1,e⟩
  refine other gh ?_;unfold cd at h;split at h
  ·rename_i f args e1 he;exact absurd he (gh _ _ _)
  ·exact h
def ps(ro:Option Nat):Fence:={Fence.wide with round:=ro}
def akQ{ro:Option Nat}{n:Nat}{P:Program}{f:FuncId}{args:Array Value}{w:World}{aV:Ending→World→Prop}(h:Calls P f args w aV):CallsIn (ps ro) n P f args w aV:=(callsIn_wide (n:=n)).2 h
def akR{ro:Option Nat}{n:Nat}{P:Program}{row:String}{args:Array Value}{w:World}{aV:Value→World→Prop}(h:Rows P row args w aV):RowsIn (ps ro) n P row args w aV:=
 λ c cs _=>let ⟨v,aq,r,s⟩:=h c cs;⟨v,aq,r,stepsIn_wide.2 s⟩
def Nr{ro:Option Nat}{n:Nat}{P:Program}{ai:Oper}{a:Act}{w:World}{K:Act→World→Prop}{Q:Exit→Act→World→Prop}(aM:∀c,ai.op≠.defer c)(h:ai.wp P a w K Q):ai.wpIn (ps ro) n P a w K Q:=by
 refine⟨λ _ _=>trivial,?_⟩;have aR:ai.semAt (ps ro).round a.eval=execOp a.eval ai:=by
  cases ro with
  |none=>rfl
  |some l=>exact Oper.semAt_some l _ _ aM
 rw[aR];unfold Oper.wp at h;generalize (execOp a.eval ai).run P w=r at*;cases r with
 |ok x aq=>
  cases x<;>simp only[Oper.upon,Oper.uponIn]at h⊢<;>
   first
    |exact h
    |exact⟨λ h=>(by cases h),akQ h⟩
    |exact⟨λ h=>(by cases h),akR h⟩
    |exact h.elim
 |halt x aq=>cases x<;>simp only[Oper.upon,Oper.uponIn]at h⊢<;>exact h
def Uh{E:Env}{aJ:dy}{ai:Op}{J:Fr}{H:aa}{r:U×aa}(h:cd E aJ ai J H=some r):∀c,ai≠.defer c:=by rintro c rfl;simp[cd,ez,et]at h
def BR{J:Fr}{tmps:Array Value}(aI:eW ad ab H J tmps){ops:Array Oper}{ai:Oper}{b:Bool}(h:gm ops.toList J ai=some b):Region.wanted ai (yielded ops tmps)=b:=by
 unfold gm at h;unfold Region.wanted;split at h
 ·rename_i aP;cases h;rw[aP]
 ·rename_i ac want aP;rw[aP];simp only[mH]at h;split at h
  ·rename_i d aM;have r:=aI d;split at h
   ·rename_i c ag;cases h;rw[ag]at r;have bh:=fv r;have:tmps[d]?=some (.bool c):=by
     rw[di]at bh;cases h:tmps[d]? with
     |none=>rw[h]at bh;simp[undef]at bh
     |some x=>rw[h]at bh;simp at bh;rw[bh]
    simp[yielded,aM,this]
   ·rename_i ag;cases h;rw[ag]at r;obtain⟨cs,eS,bf,_⟩:=Sy r;have:∀c,tmps[d]?≠some (.bool c):=by intro c e3;simp[di,e3]at eS
    have aY:yielded ops tmps ac=none:=by
     unfold yielded;rw[aM];show(match tmps[d]? with|some (.bool b)=>some b|_=>none)=none;split
     ·rename_i c e3;exact absurd e3 (this c)
     ·rfl
    show(yielded ops tmps ac==some want)=false;rw[aY];rfl
   ·cases h
  ·cases h
def BS(n:Nat)(l:List Oper):Prop:=∀ai∈l,∀d,ai.dst=some d→d<n
def xm(a:Act)(d:Option Nat)(x:Value):(a.put d x).tmps.size=a.tmps.size:=by cases d<;>simp[Act.put]
def put_defers(a:Act)(d:Option Nat)(x:Value):(a.put d x).defers=a.defers:=by cases d<;>simp[Act.put]
def Ns{aJ:dy}{ro:Option Nat}{n:Nat}(ch:nQ E (gg E aJ)){ops:Array Oper}{Q:Exit→Act→World→Prop}:∀(l:List Oper) {J bM:Fr} {H an:aa} {ad:b'} {ab:b8} {a:Act} {w:World},ih E aJ ops.toList l J H=some (bM,an)→
  b5 E ad ab H w→eW ad ab H J a.tmps→BS a.tmps.size l→
  (∀bW aq,bW.defers=a.defers→bW.tmps.size=a.tmps.size→ci E ad ab H w an aq (λ aL aB=>eW aL aB an bM bW.tmps)→Q .normal bW aq)→wpListIn (ps ro) n E.P ops Q l a w
 |[],J,bM,H,an,ad,ab,a,w,h,ap,aI,_,eT=>by simp only[ih,bg,bw]at h;obtain⟨rfl,rfl⟩:=h;exact eT a w rfl rfl (ci.refl ap aI)
 |ai::l,J,bM,H,an,ad,ab,a,w,h,ap,aI,aM,eT=>by
  simp only[ih]at h;unfold wpListIn;split at h
  ·rename_i aP;rw[BR aI aP];simp only[if_true];split at h
   ·rename_i v H1 bh;refine Nr (Uh bh) (No ch bh ap aI λ x f_ ak=>?_);obtain⟨ef,dW,dm,lN,gW,oj⟩:=ak;refine Ns ch l h dm ((aI.mono gW).put oj ai.dst λ k ay=>aM ai (by simp) k ay) (by rw[xm];exact λ ai b9 d Nt=>aM ai (by simp[b9]) d Nt) λ bW aq j5 eu bY=>?_
    rw[put_defers]at j5;rw[xm]at eu;obtain⟨eY,ev,bG,bC,cE,eU⟩:=bY;exact eT bW aq j5 eu ⟨eY,ev,bG,lN.trans bC,gW.trans cE,eU⟩
   ·cases h
  ·rename_i aP;rw[BR aI aP];simp only[fF,if_false];refine⟨λ _ _=>trivial,?_⟩;refine Ns ch l h ap (aI.put (LW _ _ _) ai.dst λ k ay=>aM ai (by simp) k ay) (by rw[xm];exact λ ai b9 d Nt=>aM ai (by simp[b9]) d Nt) λ bW aq j5 eu bY=>?_
   rw[put_defers]at j5;rw[xm]at eu;exact eT bW aq j5 eu bY
  ·cases h
end
section
variable{E:Env}{aJ:dy}{ops:List Oper}
def p_(E:Env)(J bM:Fr)(op:Op):Prop:=∀x∈op.operands,bn E J x=bn E bM x
def BT{J bM:Fr}{l:Array Operand}(h:∀x∈l,bn E J x=bn E bM x):l.toList.map (bn E J)=l.toList.map (bn E bM):=
 zn λ x ak=>h x (by simpa using ak)
def Nu{J bM:Fr}{l:Array (Nat×Operand)}(h:∀x∈(l.toList.map (·.2)).toArray,bn E J x=bn E bM x):(l.toList.map λ p=>(p.1,bn E J p.2))=l.toList.map λ p=>(p.1,bn E bM p.2):=
 zn λ p au=>by rw[h p.2 (by simp;exact⟨p.1,by simpa using au⟩)]
def EX{J bM:Fr}{ai:Option Operand}(h:∀x∈ai.toArray,bn E J x=bn E bM x):ai.map (bn E J)=ai.map (bn E bM):=by
 cases ai with
 |none=>rfl
 |some x=>simp[h x (by simp)]
def akS{J bM:Fr}{H:aa}{op:Op}(h:p_ E J bM op):et E J H op=et E bM H op:=by
 unfold p_ at h;cases op<;>simp only[Op.operands]at h<;>simp only[et]
 case move x=>rw[h x (by simp)]
 case assign x=>rw[h x (by simp)]
 case pick c a b=>rw[h c (by simp),h a (by simp),h b (by simp)]
 case build t bk=>rw[Nu h]
 case load t x=>rw[h x (by simp)]
 case nilCheck x=>rw[h x (by simp)]
 case binOp op t x y t2=>rw[h x (by simp),h y (by simp)]
 case unOp op t x=>rw[h x (by simp)]
 case convert s d x=>rw[h x (by simp)]
 case makeFunc fn a b=>rw[BT (l:=a) λ x ak=>h x (by simp[ak]),BT (l:=b) λ x ak=>h x (by simp[ak])]
 case slice t x l aN m=>rw[h x (by simp),EX (ai:=l) λ x ak=>h x (by simp[ak]),EX (ai:=aN) λ x ak=>h x (by simp[ak]),EX (ai:=m) λ x ak=>h x (by simp[ak])]
 case fieldAddr t x f=>rw[h x (by simp)]
 case field t x f=>rw[h x (by simp)]
 case indexAddr t x i=>rw[h x (by simp),h i (by simp)]
 case index t x i=>rw[h x (by simp),h i (by simp)]
 case extract x n=>rw[h x (by simp)]
 case lookup t x k ok=>rw[h x (by simp),h k (by simp)]
 case call c=>
  obtain⟨callee,args,e1⟩:=c;cases callee with
  |value f=>rfl
  |invoke r m=>rfl
  |builtin b=>
   simp only[Nv]at h;have hm:=BT (E:=E) (J:=J) (bM:=bM) (l:=args) λ x ak=>h x (by simpa using ak)
   simp only;split
   ·rename_i x t ak bp;have:=hm;rw[ak]at this;simp at this;rw[this]
   ·rename_i ak bp;rw[hm]
   ·rename_i ak bp;rw[hm]
   ·rfl
def Ui{J bM:Fr}{H:aa}{op:Op}(h:p_ E J bM op):dc E J H op=dc E bM H op:=by
 unfold p_ at h;cases op<;>simp only[Op.operands]at h<;>simp only[dc]
 case box t x=>rw[h x (by simp)]
 case buildSlice t n bk=>rw[Nu h]
 case store t a x=>rw[h a (by simp),h x (by simp)]
 case slice t x l aN m=>
  cases m with
  |none=>rfl
  |some m=>simp only;rw[h x (by simp),h m (by simp),EX (ai:=l) λ x ak=>h x (by simp[ak]),EX (ai:=aN) λ x ak=>h x (by simp[ak])]
 case makeSlice t l c=>rw[h l (by simp),h c (by simp)]
 case convert s d x=>rw[h x (by simp)]
 case range t x=>rw[h x (by simp)]
 case next it b=>rw[h it (by simp)]
 case makeMap t r=>cases r<;>rfl
 case mapUpdate t m k x=>rw[h m (by simp),h k (by simp),h x (by simp)]
 case insert t m k x=>rw[h m (by simp),h k (by simp),h x (by simp)]
 case call c=>
  obtain⟨callee,args,e1⟩:=c;cases callee with
  |value f=>rfl
  |invoke r m=>rfl
  |builtin b=>
   simp only[Nv]at h;have hm:=BT (E:=E) (J:=J) (bM:=bM) (l:=args) λ x ak=>h x (by simpa using ak)
   simp only;split
   ·rename_i s x t t2 ak bp;have:=hm;rw[ak]at this;simp at this;rw[this.1,this.2]
   ·rename_i s x t t2 ak bp;have:=hm;rw[ak]at this;simp at this;rw[this.1,this.2]
   ·rfl
def Uj{J bM:Fr}{f:Operand}{args:Array Operand}{e1:Array TypeId}(h:p_ E J bM (.call ⟨.value f,args,e1⟩)):wN E J f args.toList=wN E bM f args.toList:=by simp only[p_,Op.operands,Nv]at h;unfold wN;rw[h f (by simp),BT (l:=args) λ x ak=>h x (by simp[ak])]
def Nw{J bM:Fr}{H:aa}{op:Op}(h:p_ E J bM op):cd E aJ op J H=cd E aJ op bM H:=by
 unfold cd;split
 ·rw[Uj h]
 ·rw[Ui h,akS h]
def Nx{J bM:Fr}{H:aa}{op:Op}(h:p_ E J bM op):cO E J H op=cO E bM H op:=by
 have aW:=h;unfold p_ at h;cases op<;>simp only[Op.operands]at h<;>simp only[cO]
 case load t x=>rw[h x (by simp)]
 case store t a x=>rw[h a (by simp),h x (by simp)]
 case box t x=>rw[h x (by simp)]
 case slice t x l aN m=>rw[h x (by simp)]
 case indexAddr t x i=>rw[h x (by simp)]
 case buildSlice t n bk=>rw[Nu h]
 case convert s d x=>rw[h x (by simp)]
 case next it b=>rw[h it (by simp)]
 case mapUpdate t m k x=>rw[h m (by simp)]
 case insert t m k x=>rw[h m (by simp)]
 case lookup t x k ok=>rw[h x (by simp)]
 case call c=>
  obtain⟨callee,args,e1⟩:=c;cases callee with
  |value f=>simp only;rw[Uj aW]
  |invoke r m=>rfl
  |builtin b=>simp only[Nv]at h;simp only;rw[BT (l:=args) λ x ak=>h x (by simpa using ak)]
def akT{H an:aa}{k:cN}(h:an[k.c]?=H[k.c]?):uE an k=uE H k:=by cases k<;>simp only[cN.c]at h<;>simp only[uE,h]
def akU{H an:aa}{z:Nat}{n:Int}{k:cN}(h:an[k.c]?=H[k.c]?):uF an z n k=uF H z n k:=by cases k<;>simp only[cN.c]at h<;>simp only[uF,h]
def akV{H an:aa}{p:U}(h:∀c∈bc p,an[c]?=H[c]?):behind an p=behind H p:=by
 unfold behind;split
 ·rfl
 ·rw[h _ (by simp[bc])]
 ·exact akT (h _ (by simp[bc]))
 ·rfl
def akW{J:Fr}{H an:aa}{op:Op}(h:kN op=true→∀c∈cO E J H op,an[c]?=H[c]?):et E J an op=et E J H op:=by
 cases op<;>simp only[et]
 case load t x=>simp only[kN,cO,true_implies]at h;unfold tm;rw[akV h]
 case indexAddr t x i=>
  simp only[kN,cO,true_implies]at h;unfold AX;split
  ·split
   ·rfl
   ·split
    ·rfl
    ·rename_i c g off len _ ak;rw[ak]at h;rw[h c (by simp[bc])]
    ·rename_i k _ ak;rw[ak]at h;exact akU (h k.c (by simp[bc]))
    ·rfl
   ·rfl
  ·rfl
 case slice t x l aN m=>
  simp only[kN,cO,true_implies]at h;unfold jT;split
  ·rfl
  ·split
   ·split
    ·split
     ·rfl
     ·rfl
     ·rename_i c g off len ak;rw[ak]at h;rw[h c (by simp[bc])]
     ·rename_i c g off len ak;rw[ak]at h;rw[h c (by simp[bc,cN.c])]
     ·rfl
    ·rfl
   ·rfl
 case convert s d x=>
  simp only[kN,cO,true_implies]at h;split
  ·unfold AZ hH;cases ak:bn E J x with
   |ref c g off len=>rw[ak]at h;simp only;rw[h c (by simp[bc])]
   |i z=>cases z<;>rfl
   |_=>rfl
  ·rfl
 case lookup t x k ok=>
  simp only[kN,cO,true_implies]at h;unfold yz;cases ak:bn E J x with
  |dv c=>rw[ak]at h;simp only;rw[h c (by simp[bc])]
  |_=>rfl
 case call c=>obtain⟨callee,args,e1⟩:=c;cases callee<;>rfl
def Leaves(H an:aa)(T:List Nat):Prop:=H.length≤an.length∧∀c,c<H.length→c∉T→an[c]?=H[c]?
def Leaves.refl(H:aa)(T:List Nat):Leaves H H T:=⟨cL _,λ _ _ _=>rfl⟩
def Leaves.i7(H:aa)(x:aa)(T:List Nat):Leaves H (H++x) T:=⟨by simp,λ c ag _=>ei ag⟩
def Leaves.trans{H an nh:aa}{T:List Nat}(h:Leaves H an T)(k:Leaves an nh T):Leaves H nh T:=
 ⟨rN h.1 k.1,λ c ag dn=>by rw[k.2 c (by have:=h.1;omega) dn,h.2 c ag dn]⟩
def Leaves.set{H:aa}{c:Nat}{x:Chunk}{T:List Nat}(h:c∈T):Leaves H (H.set c x) T:=
 ⟨by simp,λ d aM dn=>by rw[dw (λ e:c=d=>dn (e▸h))]⟩
def Leaves.mono{H an:aa}{T cX:List Nat}(h:Leaves H an T)(aR:∀c∈T,c∈cX):Leaves H an cX:=⟨h.1,λ c ag dn=>h.2 c ag λ ag=>dn (aR c ag)⟩
def akX{H an:aa}{k:cN}{x:aC}(h:o4 H k=some (x,an)):Leaves H an [k.c]:=by
 cases k with
 |e=>cases h
 |p=>cases h
 |d c g off len=>
  simp only[o4]at h;unfold uH A2 at h
  repeat' split at h
  all_goals first|(simp only[bg,bw]at h;obtain⟨_,rfl⟩:=h;first|exact .set (by simp[cN.c])|exact .refl _ _)|cases h
 |h c g s r=>
  simp only[o4]at h;unfold uI at h
  repeat' split at h
  all_goals first|(simp only[bg,bw]at h;obtain⟨_,rfl⟩:=h;exact .set (by simp[cN.c]))|cases h
def BU{H an:aa}{a:U}{x:aC}(h:freeze H a=some (x,an)):Leaves H an (bc a):=by
 unfold freeze at h;split at h
 ·cases h;exact .refl _ _
 ·split at h
  ·split at h
   ·simp only[bg,bw]at h;obtain⟨_,rfl⟩:=h;exact .set (by simp[bc])
   ·cases h
  ·split at h
   ·simp only[bg,bw]at h;obtain⟨_,rfl⟩:=h;exact .refl _ _
   ·cases h
  ·cases h
 ·exact akX h
 ·cases h
def Uk{H H1:aa}{z:Nat}{v:U}{y:bT}(h:tq z (freeze H v)=some (y,H1)):Leaves H H1 (bc v):=by
 unfold tq at h;split at h
 ·rename_i q bu aI;simp only[bg,bw]at h;obtain⟨_,rfl⟩:=h;exact BU aI
 ·cases h
def Ul{H H1:aa}{z:Nat}{v:U}{y:bT}(h:pP H z v=some (y,H1)):Leaves H H1 (bc v):=by
 unfold pP at h;split at h
 ·unfold A4 at h;split at h
  ·split at h
   ·simp only[bg,bw]at h;obtain⟨_,rfl⟩:=h;exact .set (by simp[bc])
   ·cases h
  ·exact Uk h
 ·exact Uk h
def akY{t:TypeId}{n:Nat}{v:U}{k:cN}{H an:aa}(h:pQ E H t n v k=some an):Leaves H an (k.c::bc v):=by
 cases k with
 |d=>cases h
 |h=>cases h
 |e c g r=>
  simp only[pQ]at h;split at h
  ·unfold wC at h;split at h
   ·unfold wB at h;split at h
    ·rename_i y H1 ah;split at h
     ·split at h
      ·simp only[bg]at h;subst h;exact((Ul ah).mono λ c ag=>by simp[ag]).trans (.set (by simp[cN.c]))
      ·cases h
     ·cases h
    ·cases h
   ·cases h
  ·cases h
 |p c g s r i k=>
  simp only[pQ]at h;unfold wD at h
  repeat' split at h
  all_goals first|(simp only[bg]at h;subst h;exact .set (by simp[cN.c]))|cases h
def Um{z d:Nat}{x:U}{new:List bT}{H H1:aa}(h:lC z H x=some (d,new,H1)):Leaves H H1 (bc x):=by
 unfold lC at h;split at h
 ·unfold uL at h;split at h
  ·split at h
   ·simp only[bg,bw]at h;obtain⟨_,_,rfl⟩:=h;exact .set (by simp[bc,cN.c])
   ·cases h
  ·cases h
 ·cases h
def akZ{t t2:TypeId}{z:Nat}{s x v:U}{H an:aa}(h:ts E H t t2 z s x=some (v,an)):Leaves H an (bc s++bc x):=by
 unfold ts at h;split at h
 ·unfold uM at h;split at h
  ·rename_i d new H1 aR;refine((Um aR).mono λ c ag=>by simp[ag]).trans ?_;split at h
   ·split at h
    ·simp only[bg,bw]at h;obtain⟨_,rfl⟩:=h;exact .i7 _ _ _
    ·cases h
   ·unfold A6 at h;split at h
    ·split at h
     ·simp only[bg,bw]at h;obtain⟨_,rfl⟩:=h;exact .set (by simp[bc,cN.c])
     ·cases h
    ·cases h
   ·cases h
  ·cases h
 ·cases h
def Un{t t2:TypeId}{s x v:U}{H an:aa}(h:hz E H t t2 s x=some (v,an)):Leaves H an (bc s++bc x):=by
 unfold hz at h;split at h
 ·split at h
  ·split at h
   ·split at h
    ·split at h
     ·simp only[bg,bw]at h;obtain⟨_,rfl⟩:=h;exact .i7 _ _ _
     ·cases h
    ·rename_i c g off len;split at h
     ·split at h
      ·simp only[bg,bw]at h;obtain⟨_,rfl⟩:=h;exact .set (by simp[bc])
      ·cases h
     ·split at h
      ·simp only[bg,bw]at h;obtain⟨_,rfl⟩:=h;exact .i7 _ _ _
      ·cases h
     ·cases h
    ·cases h
   ·cases h
  ·cases h
 ·cases h
def ak0{t t2:TypeId}{z:Nat}{s x v:U}{H an:aa}(h:qy E H t t2 z s x=some (v,an)):Leaves H an (bc s++bc x):=by
 unfold qy at h;split at h
 ·exact Un h
 ·exact akZ h
def ak1{t:TypeId}{z:Nat}{x y v:U}{H an:aa}(h:qx E H t z x y=some (v,an)):Leaves H an (bc x++bc y):=by
 unfold qx at h;split at h
 ·unfold yC at h;split at h
  ·rename_i d new H1 aR;refine((Um aR).mono λ c ag=>by simp[ag]).trans ?_;split at h
   ·unfold A7 at h;split at h
    ·split at h
     ·simp only[bg,bw]at h;obtain⟨_,rfl⟩:=h;exact .set (by simp[bc,cN.c])
     ·cases h
    ·cases h
   ·cases h
  ·cases h
 ·cases h
def ak2{t:TypeId}{z:Nat}{l c v:U}{H an:aa}(h:tt z (jg E H t l c)=some (v,an))(T:List Nat):Leaves H an T:=by
 unfold tt at h;split at h
 ·rename_i cl n H1 hm;obtain⟨fl,f',rows,ex,ao,rfl⟩:=TJ hm;cases ao;unfold A8 at h;split at h
  ·simp only[bg,bw]at h;obtain⟨_,rfl⟩:=h;rw[yY _ _ (cL _)];exact .i7 _ _ _
  ·cases h
 ·cases h
def ak3{t:TypeId}{v:U}(ho:rF E t t=true)(pd:one v=true):nE E t 1 [(0,v)]=bc v:=by
 obtain⟨e,b,dX,he,bf,aj,hzero,_,_,pc,ze⟩:=Ih ho;obtain⟨a0,ML⟩:∃a0,cw dX=[a0]:=by
  match bm:cw dX,pc with
  |[a0],_=>exact⟨a0,rfl⟩
 have p5:cw v=[v]:=by cases v<;>simp[one]at pd<;>rfl
 have ao:fX 1 (cB 1 (cw dX)).flatten [(0,v)]=some [v]:=by rw[ML];simp[fX,p5,pd,o3]
 unfold nE;rw[he];simp only[bf,hzero,ao];simp[bx]
def ak4{t:TypeId}{z n:Nat}{bk:List (Nat×U)}{v:U}{H an:aa}(h:tr E H t z n bk=some (v,an)):Leaves H an (nE E t n bk):=by
 unfold tr at h;split at h
 ·rename_i v0;split at h
  ·rename_i ag;obtain⟨rfl,j,I⟩:=ag;rw[ak3 I j];unfold A5 at h;split at h
   ·rename_i y H1 ah;simp only[bg,bw]at h;obtain⟨_,rfl⟩:=h;exact(Ul ah).trans (.i7 _ _ _)
   ·cases h
  ·cases h
 ·cases h
def IA:∀{l:List U} {H an:aa} {xs:List aC},fC H l=some (xs,an)→Leaves H an (bx l)
 |[],H,an,xs,h=>by simp only[fC,bg,bw]at h;obtain⟨_,rfl⟩:=h;exact .refl _ _
 |a::l,H,an,xs,h=>by
  simp only[fC]at h;split at h
  ·rename_i x H1 j;split at h
   ·rename_i cP bu I;simp only[bg,bw]at h;obtain⟨_,rfl⟩:=h;exact((BU j).mono (by simp[bx];exact λ c ag=>.inl ag)).trans ((IA I).mono (by simp[bx];exact λ c ag=>.inr ag))
   ·cases h
  ·cases h
def EY:∀{l bE:List U} {H an:aa},dk H l=some (bE,an)→Leaves H an (bx l)
 |[],bE,H,an,h=>by simp only[dk,bg,bw]at h;obtain⟨_,rfl⟩:=h;exact .refl _ _
 |a::l,bE,H,an,h=>by
  have rest:∀{bE an},dk H l=some (bE,an)→Leaves H an (bx (a::l)):=λ h=>(EY h).mono (by simp[bx];exact λ c ag=>.inr ag)
  cases a with
  |ref c g off len=>
   simp only[dk]at h;split at h
   ·rename_i x H1 j;split at h
    ·rename_i sR bu I;simp only[bg,bw]at h;obtain⟨_,rfl⟩:=h;exact((BU j).mono (by simp[bx];exact λ c ag=>.inl ag)).trans ((EY I).mono (by simp[bx];exact λ c ag=>.inr ag))
    ·cases h
   ·cases h
  |agg cells=>
   simp only[dk]at h;split at h
   ·rename_i xs H1 j;split at h
    ·rename_i sR bu I;simp only[bg,bw]at h;obtain⟨_,rfl⟩:=h;exact((IA j).mono (by simp[bx,bc];exact λ c ag=>.inl ag)).trans ((EY I).mono (by simp[bx];exact λ c ag=>.inr ag))
    ·cases h
   ·split at h
    ·rename_i sR bu I;simp only[bg,bw]at h;obtain⟨_,rfl⟩:=h;exact rest I
    ·cases h
  |x q=>
   simp only[dk]at h;split at h
   ·rename_i x H1 j;split at h
    ·rename_i sR bu I;simp only[bg,bw]at h;obtain⟨_,rfl⟩:=h;exact((BU j).mono (by simp[bx];exact λ c ag=>.inl ag)).trans ((EY I).mono (by simp[bx];exact λ c ag=>.inr ag))
    ·cases h
   ·cases h
  |dead|i|ptr|dv|aQ|bd=>
   simp only[dk]at h;split at h
   ·rename_i sR bu I;simp only[bg,bw]at h;obtain⟨_,rfl⟩:=h;exact rest I
   ·cases h
def Uo(z:Nat)(H:aa)(a:U):∃x,(iU z H a).2=H++x:=by
 unfold iU;split
 ·cases decide (z<1000)<;>exact⟨_,rfl⟩
 ·exact⟨[],by simp⟩
def Up(k:List (Option Nat))(H:aa)(a:U):∃x,(k7 k H a).2=H++x:=by
 unfold k7;split
 ·exact Uo _ _ _
 ·exact⟨[],by simp⟩
def Uq:∀(br:List (List (Option Nat))) (l:List U) (H:aa),∃x,(eR br l H).2=H++x
 |[],l,H=>⟨[],by simp[eR]⟩
 |k::br,[],H=>⟨[],by simp[eR]⟩
 |k::br,a::l,H=>by obtain⟨x,ak⟩:=Up k H a;obtain⟨y,aY⟩:=Uq br l (k7 k H a).2;exact⟨x++y,by simp only[eR];rw[aY,ak,dU]⟩
def Ur{f:FuncId}{l bE:List U}{H an:aa}(h:iV E f H l=some (bE,an)):Leaves H an (bx l):=by
 unfold iV at h;split at h
 ·simp only[bg]at h;obtain⟨x,ak⟩:=Uq (E.gF f) l H;rw[h]at ak;simp only at ak;rw[ak];exact .i7 _ _ _
 ·split at h
  ·rename_i sR bu I;simp only[bg,bw]at h;obtain⟨_,rfl⟩:=h;exact EY I
  ·cases h
def ak5{f:FuncId}{args:List U}{H an:aa}{r:U}(h:k9 E aJ f args H=some (r,an)):Leaves H an (qC E f args H):=by
 unfold k9 at h;unfold qC;split at h
 ·cases h
 ·rename_i hA H1 au;rw[au];show Leaves H an (bx args++reach H1 64 (bx hA) []);have j:Leaves H H1 (bx args++reach H1 64 (bx hA) []):=by exact(Ur au).mono (by intro c ag;simp[ag])
  simp only at h;split at h
  ·cases h
  ·rename_i ik L e_;split at h
   ·cases h
   ·rename_i hlen;simp only[bg,bw]at h;obtain⟨_,rfl⟩:=h;obtain⟨EV,xl⟩:=BH H1 64 (bx hA) [] (by simp) (by simp);generalize reach H1 64 (bx hA) []=aV at*;refine j.trans ⟨?_,λ c ag dn=>?_⟩
    ·rw[dp,xj];exact Nat.le_add_right _ _
    rw[ei (by rw[xj];exact ag),Nc _ _ _ EV (by simp;omega) xl];have:bt aV c=none:=by
     cases au:bt aV c with
     |none=>rfl
     |some i=>exact absurd (kn (nP au)) (λ hm=>dn (by simp[hm]))
    rw[this]
def Ny{l:List U}{ac:Nat}{x:aC}{d:Nat}(h:d∈bx (l.set ac (.i x))):d∈bx l:=by
 obtain⟨k,a,ay,aM⟩:=lQ.1 h;by_cases e:ac=k
 ·subst e;rw[List.getElem?_set_self']at ay;cases al:l[ac]? with
  |none=>rw[al]at ay;cases ay
  |some b=>rw[al]at ay;cases ay;simp[bc]at aM
 ·rw[dw e]at ay;exact lQ.2 ⟨k,a,ay,aM⟩
def Us(v:U):bx (cw v)=bc v:=by cases v<;>simp[cw,bx,bc]
def Ut{br:List (Option Nat)}:∀{hr:List Nat} {H H1:aa} {cs cs':List U},jh br hr H cs=some (cs',H1)→Leaves H H1 (bx cs)∧∀d∈bx cs',d∈bx cs
 |[],H,H1,cs,cs',h=>by simp only[jh,bg,bw]at h;obtain⟨rfl,rfl⟩:=h;exact⟨.refl _ _,λ _ h=>h⟩
 |ac::hr,H,H1,cs,cs',h=>by
  simp only[jh]at h;split at h
  ·rename_i a aA;split at h
   ·rename_i x bu aI;obtain⟨j,I⟩:=Ut h;exact⟨((BU aI).mono λ d aM=>lQ.2 ⟨ac,a,aA,aM⟩).trans (j.mono λ d aM=>Ny aM),λ d aM=>Ny (I d aM)⟩
   ·cases h
  ·cases h
def IB{t:TypeId}{H H1:aa}{v v1:U}{hr:List Nat}(h:kj E t H v hr=some (v1,H1)):Leaves H H1 (bc v)∧∀d∈bc v1,d∈bc v:=by
 cases hr with
 |nil=>simp only[kj,bg,bw]at h;obtain⟨rfl,rfl⟩:=h;exact⟨.refl _ _,λ _ h=>h⟩
 |cons ac hr=>
  simp only[kj,uN]at h;split at h
  ·rename_i cs bu aI;simp only[bg,bw]at h;obtain⟨rfl,rfl⟩:=h;obtain⟨j,I⟩:=Ut aI;rw[Us]at j I;refine⟨j,λ d aM=>?_⟩;have key:d∈bx cs∨d∈bc v:=by
    cases v with
    |agg l=>exact .inl aM
    |_=>cases cs with
     |nil=>exact .inr aM
     |cons c r=>exact .inl (by simp only[bx,fS];exact .inl aM)
   exact key.elim (I d) id
  ·cases h
def ak6{H an:aa}{t:TypeId}{a:Operand}{J:Fr}{v:U}(h:nD E H t (bn E J a) v=some an):Leaves H an (bc (bn E J a)++bc v):=by
 unfold nD at h;split at h
 ·split at h
  ·split at h
   ·rename_i k au;rw[au];simpa[bc]using akY h
   ·rename_i c g r k au;rw[au];split at h
    ·split at h
     ·simp only[bg]at h;subst h;exact .set (by simp[bc])
     ·cases h
    ·split at h
     ·rename_i xs bu aI;split at h
      ·split at h
       ·split at h
        ·simp only[bg]at h;subst h;refine((IA aI).mono λ c ag=>?_).trans (.set (by simp[bc]));have:bx (cw (v))=bc (v):=by cases v<;>simp[cw,bx,bc]
         rw[this]at ag;simp[ag]
        ·cases h
       ·cases h
      ·cases h
     ·cases h
    ·cases h
   ·cases h
  ·cases h
 ·cases h
def ak7{J:Fr}{H an:aa}{op:Op}{v:U}(h:dc E J H op=some (v,an)):Leaves H an (cO E J H op):=by
 cases op<;>simp only[dc]at h<;>(try(cases h;done))
 case slice t x bS ax kI=>
  cases kI with
  |none=>cases h
  |some m=>
   simp only at h;split at h
   ·rename_i y H1 bf;simp only[c0,bw]at h;obtain⟨v1,_,_,rfl⟩:=h;exact BU bf
   ·cases h
 case alloc e=>
  split at h
  ·split at h
   ·split at h
    ·split at h
     ·simp only[bg,bw]at h;obtain⟨_,rfl⟩:=h;exact .i7 _ _ _
     ·cases h
    ·simp only[bg,bw]at h;obtain⟨_,rfl⟩:=h;exact .i7 _ _ _
   ·cases h
  ·cases h
 case box t x=>
  unfold yF at h;split at h
  ·rename_i v1 H1 bf;split at h
   ·simp only[bg,bw]at h;obtain⟨_,rfl⟩:=h;simp only[cO];cases a_:E.st t with
    |nil=>rw[a_]at bf;simp only[kj,bg,bw]at bf;obtain⟨_,rfl⟩:=bf;exact .i7 _ _ _
    |cons ac hr=>exact(IB bf).1.trans (.i7 _ _ _)
   ·cases h
  ·cases h
 case buildSlice t n bk=>
  simp only[cO];split at h;rotate_left
  ·exact ak4 h
  simp only[nE];unfold k8 at h;split at h
  ·rename_i e he;split at h
   ·rename_i z zero bf hzero;split at h
    ·split at h
     ·rename_i cells ag;split at h
      ·rename_i xs H1 aI;simp only[bg,bw]at h;obtain⟨_,rfl⟩:=h;exact(IA aI).trans (.i7 _ _ _)
      ·cases h
     ·cases h
    ·cases h
   ·cases h
  ·cases h
 case store t a x=>
  unfold wF at h;split at h
  ·rename_i v1 H1 bf;simp only[c0,bw]at h;obtain⟨bu,j,_,rfl⟩:=h;simp only[cO];obtain⟨f1,f2⟩:=IB bf;exact(f1.mono λ c ag=>fS.2 (.inr ag)).trans ((ak6 j).mono λ c ag=>(fS.1 ag).elim (λ h=>fS.2 (.inl h)) λ h=>fS.2 (.inr (f2 _ h)))
  ·cases h
 case convert s d x=>
  split at h
  ·split at h
   ·unfold yE at h;split at h
    ·simp only[bg,bw]at h;obtain⟨_,rfl⟩:=h;exact .i7 _ _ _
    ·simp only[bg,bw]at h;obtain⟨_,rfl⟩:=h;exact .i7 _ _ _
    ·cases h
   ·cases h
  ·cases h
 case range t x=>
  split at h
  ·split at h
   ·simp only[bg,bw]at h;obtain⟨_,rfl⟩:=h;exact .i7 _ _ _
   ·cases h
  ·cases h
 case makeMap t r=>
  cases r with
  |some r=>cases h
  |none=>
   simp only at h;split at h
   ·simp only[bg,bw]at h;obtain⟨_,rfl⟩:=h;exact .i7 _ _ _
   ·cases h
 case mapUpdate t m k x=>
  unfold mE at h;split at h
  ·rename_i c ak;unfold sx at h;split at h
   ·split at h
    ·split at h
     ·simp only[c0,bw]at h;obtain⟨_,_,_,rfl⟩:=h;exact .set (by simp[cO,ak,bc])
     ·cases h
    ·cases h
   ·cases h
  ·cases h
 case insert t m k x=>
  unfold mE at h;split at h
  ·rename_i c ak;unfold sx at h;split at h
   ·split at h
    ·split at h
     ·simp only[c0,bw]at h;obtain⟨_,_,_,rfl⟩:=h;exact .set (by simp[cO,ak,bc])
     ·cases h
    ·cases h
   ·cases h
  ·cases h
 case next it b=>
  split at h
  ·rename_i c g r ak;split at h
   ·split at h
    ·simp only[bg,bw]at h;obtain⟨_,rfl⟩:=h;exact .set (by simp[cO,ak,bc])
    ·simp only[bg,bw]at h;obtain⟨_,rfl⟩:=h;exact .refl _ _
   ·cases h
  ·cases h
 case makeSlice t l c=>
  split at h;rotate_left
  ·exact ak2 h _
  unfold jg at h;split at h
  ·split at h
   ·split at h
    ·simp only[bg,bw]at h;obtain⟨_,rfl⟩:=h;exact .i7 _ _ _
    ·split at h
     ·simp only[bg,bw]at h;obtain⟨_,rfl⟩:=h;exact .i7 _ _ _
     ·cases h
   ·cases h
  ·cases h
 case call c=>
  obtain⟨callee,args,e1⟩:=c;cases callee with
  |value f=>cases h
  |invoke r m=>cases h
  |builtin b=>
   simp only at h;split at h
   ·rename_i s x t t2 pn vc;simp only[cO,pn];split at h
    ·exact(Un h).mono (by simp[bx])
    ·exact(ak0 h).mono (by simp[bx])
   ·rename_i d x t t2 pn vc;simp only[cO,pn];split at h;rotate_left
    ·exact(ak1 h).mono (by simp[bx])
    unfold nc at h;split at h
    ·split at h
     ·rename_i aM _;split at h
      ·unfold yD at h;split at h
       ·split at h
        ·simp only[bg,bw]at h;obtain⟨_,rfl⟩:=h;exact .set (by simp[aM,bx,bc])
        ·cases h
       ·cases h
      ·cases h
     ·cases h
    ·cases h
   ·cases h
def ak8{f:FuncId}{args:List U}{H an:aa}{r:U}(h:gg E aJ f args H=some (r,an)):Leaves H an (ji E f args H):=by
 unfold gg at h;unfold ji;cases hm:E.oa f with
 |none=>
  rw[hm]at h;simp only at h⊢;cases ah:E.ss f with
  |true=>rw[ah]at h;obtain⟨rfl,_⟩:=EW h;exact .refl _ _
  |false=>rw[ah]at h;exact ak5 h
 |some fn=>
  rw[hm]at h;simp only at h;unfold wM at h;split at h
  ·split at h
   ·cases h;exact .i7 _ _ _
   ·cases h
  ·cases h
def ak9{J:Fr}{H an:aa}{op:Op}{v:U}(h:cd E aJ op J H=some (v,an)):Leaves H an (cO E J H op):=by
 unfold cd at h;split at h
 ·rename_i f args e1;simp only[cO];split at h
  ·rename_i g bE aP;split at h
   ·exact ak8 h
   ·cases h
  ·cases h
 ·split at h
  ·exact ak7 h
  ·simp only[c0,bw]at h;obtain⟨_,_,_,rfl⟩:=h;exact .refl _ _
end
section
variable{E:Env}{aJ:dy}{ops:Array Oper}
def hR(J bM:Fr):Prop:=∀k,get k J=get k bM
def hR.refl(J:Fr):hR J J:=λ _=>rfl
def hR.trans{a b c:Fr}(h:hR a b)(k:hR b c):hR a c:=λ i=>(h i).trans (k i)
def hR.put{J bM:Fr}(h:hR J bM)(d:Option Nat)(v:U):hR (dH d v J) (dH d v bM):=by
 cases d with
 |none=>exact h
 |some d=>intro k;simp only[dH,get];split<;>first|rfl|exact h k
def hR.swap(J:Fr){d e:Option Nat}(h:∀k,d=some k→e≠some k)(v u:U):hR (dH d v (dH e u J)) (dH e u (dH d v J)):=by
 cases d with
 |none=>exact .refl _
 |some d=>
  cases e with
  |none=>exact .refl _
  |some e=>
   have gh:e≠d:=λ x=>h d rfl (by rw[x])
   intro k;simp only[dH,get];by_cases j:k=d
   ·subst j;simp[a' gh]
   ·simp[j]
def Uu{J bM:Fr}(h:hR J bM)(x:Operand):bn E J x=bn E bM x:=by cases x<;>simp only[bn];exact h _
def ak_{J:Fr}{d:Option Nat}{v:U}{x:Operand}(h:∀k,d=some k→x≠.tmp k):bn E (dH d v J) x=bn E J x:=by
 cases d with
 |none=>rfl
 |some d=>
  cases x with
  |tmp t=>
   have:t≠d:=λ e=>h d rfl (by rw[e])
   simp[bn,dH,get,this]
  |_=>rfl
def Uv{J bM:Fr}(h:hR J bM)(ai:Oper):gm ops.toList J ai=gm ops.toList bM ai:=by
 unfold gm;split
 ·rfl
 ·split
  ·rw[h _]
  ·rfl
def Uw{J:Fr}{ai:Oper}{d:Option Nat}{v:U}(h:∀k,d=some k→k∉ai.looksAt ops):gm ops.toList (dH d v J) ai=gm ops.toList J ai:=by
 cases d with
 |none=>rfl
 |some d=>
  unfold gm;split
  ·rfl
  ·rename_i ac want aP;split
   ·rename_i t bp;have:t≠d:=λ e=>h d rfl (by
     subst e;simp only[mH]at bp;simp[Oper.looksAt,aP,bp])
    simp[dH,get,this]
   ·rfl
def IC{J:Fr}{ai:Oper}{d:Option Nat}{v:U}(h:∀k,d=some k→k∉ai.looksAt ops):p_ E (dH d v J) J ai.op:=λ x ak=>
 ak_ λ k ay e=>h k ay (by
  subst e;simp only[Oper.looksAt,fS,List.mem_filterMap];exact .inl ⟨.tmp k,by simpa using ak,rfl⟩)
noncomputable def gC(E:Env)(aJ:dy)(ops:Array Oper)(ai:Oper)(J:Fr)(H:aa):Option (U×aa×List Nat):=
 match gm ops.toList J ai with
 |some true=>match cd E aJ ai.op J H with
  |some (v,an)=>some (v,an,cO E J H ai.op++lF H.length (an.length-H.length))
  |none=>none
 |some false=>some (.bd [],H,[])
 |none=>none
def ak'{ai:Oper}{J:Fr}{H:aa}:pU E aJ ops.toList ai J H=(gC E aJ ops ai J H).map λ x=>(dH ai.dst x.1 J,x.2.1,x.2.2):=by
 unfold pU gC;cases gm ops.toList J ai with
 |none=>rfl
 |some b=>
  cases b with
  |false=>rfl
  |true=>cases cd E aJ ai.op J H<;>rfl
def ala{J bM:Fr}(h:hR J bM)(ai:Oper)(H:aa):gC E aJ ops ai J H=gC E aJ ops ai bM H:=by
 unfold gC;have aA:p_ E J bM ai.op:=λ x _=>Uu h x
 rw[Uv h,Nw aA,Nx aA]
def tR{J:Fr}{ai:Oper}{d:Option Nat}{v:U}{H:aa}(h:∀k,d=some k→k∉ai.looksAt ops):gC E aJ ops ai (dH d v J) H=gC E aJ ops ai J H:=by unfold gC;rw[Uw h,Nw (IC h),Nx (IC h)]
def p'{a b:List Nat}(h:qD a b=true){c:Nat}(aA:c∈a):c∉b:=by simp only[qD,oo]at h;have:=h c aA;simpa using this
def zo{ai:Oper}{J:Fr}{H an:aa}(al:ez E ai.op=false)(h:kN ai.op=true→∀c∈cO E J H ai.op,an[c]?=H[c]?){v:U}{H1:aa}{T:List Nat}
  (bh:gC E aJ ops ai J H=some (v,H1,T)):H1=H∧gC E aJ ops ai J an=some (v,an,T):=by
 unfold gC at bh⊢;split at bh
 ·rename_i aP;split at bh
  ·rename_i hb nh lS;simp only[bg,bw]at bh;obtain⟨rfl,rfl,rfl⟩:=bh;unfold cd at lS⊢;split at lS
   ·rename_i f args e1 b9;rw[b9]at al;simp[ez]at al
   ·rename_i BL;rw[al]at lS;simp only[fF,if_false,c0,bw]at lS;obtain⟨u,hu,rfl,rfl⟩:=lS;refine⟨rfl,?_⟩;have bp:cO E J an ai.op=cO E J H ai.op:=by
     generalize ai.op=op at al BL;cases op<;>(try rfl);rename_i c;obtain⟨callee,args,e1⟩:=c;cases callee with
     |value f=>exact absurd rfl (BL f args e1)
     |_=>rfl
    simp only[al,fF,if_false,akW h,hu,en,bp,rR,List.range'_zero]
  ·cases bh
 ·rename_i aP;simp only[bg,bw]at bh;obtain⟨rfl,rfl,rfl⟩:=bh;exact⟨rfl,rfl⟩
 ·cases bh
structure Ux (E:Env) (ops:Array Oper) (x y:Oper) (mi mj:List Nat):Prop where
 apart:x.apart ops y=true
 alb:¬(ez E x.op=true∧ez E y.op=true)
 float:(ez E x.op=true∧kN y.op=true)∨(ez E y.op=true∧kN x.op=true)→qD mi mj=true∧qD mj mi=true
def BV{ai:Oper}{J:Fr}{H an:aa}{v:U}{T:List Nat}(h:gC E aJ ops ai J H=some (v,an,T)):H.length≤an.length∧∀c,c∉T→an[c]?=H[c]?:=by
 unfold gC at h;split at h
 ·split at h
  ·rename_i hb nh lS;simp only[bg,bw]at h;obtain⟨rfl,rfl,rfl⟩:=h;have al:=ak9 lS;refine⟨al.1,λ c ag=>?_⟩;simp only[fS,List.mem_range',not_or]at ag;by_cases j:c<H.length
   ·exact al.2 c j ag.1
   ·have I:nh.length≤c:=by
     have:=al.1;refine Nat.le_of_not_lt λ av=>ag.2 ⟨c-H.length,R,R⟩
    rw[rW I,rW R]
  ·cases h
 ·simp only[bg,bw]at h;obtain⟨rfl,rfl,rfl⟩:=h;exact⟨cL _,λ _ _=>rfl⟩
 ·cases h
def ID{ai:Oper}{J:Fr}{H an:aa}{v:U}{T:List Nat}(h:gC E aJ ops ai J H=some (v,an,T))(aP:gm ops.toList J ai=some true):∀c∈cO E J H ai.op,c∈T:=by
 unfold gC at h;rw[aP]at h;simp only at h;split at h
 ·simp only[bg,bw]at h;obtain⟨_,_,rfl⟩:=h;intro c ag;simp[ag]
 ·cases h
def xn{ai:Oper}{J:Fr}{H an:aa}(aP:gm ops.toList J ai=some false):gC E aJ ops ai J an=some (.bd [],an,[]):=by unfold gC;rw[aP]
def swap{x y:Oper}{J:Fr}{H H1 bu:aa}{jj kP:U}{mi mj:List Nat}(ak:gC E aJ ops x J H=some (jj,H1,mi))(aY:gC E aJ ops y (dH x.dst jj J) H1=some (kP,bu,mj))
  (ag:Ux E ops x y mi mj):∃qa,gC E aJ ops y J H=some (kP,qa,mj)∧gC E aJ ops x (dH y.dst kP J) qa=some (jj,bu,mi)∧hR (dH y.dst kP (dH x.dst jj J)) (dH x.dst jj (dH y.dst kP J)):=by
 obtain⟨hs,a2,a3⟩:=Oper.apart_spec ag.apart;rw[tR hs]at aY;have gK:hR (dH y.dst kP (dH x.dst jj J)) (dH x.dst jj (dH y.dst kP J)):=hR.swap J (λ k ay e=>a2 k e ay) _ _;cases kS:gm ops.toList J x with
 |none=>unfold gC at ak;rw[kS]at ak;cases ak
 |some qX=>
 cases ks:gm ops.toList J y with
 |none=>unfold gC at aY;rw[ks]at aY;cases aY
 |some qY=>
 cases qX with
 |false=>
  rw[xn kS]at ak
  ·simp only[bg,bw]at ak;obtain⟨rfl,rfl,rfl⟩:=ak;exact⟨bu,aY,by rw[tR a3];exact xn kS (H:=H),gK⟩
  ·exact H
 |true=>
 cases qY with
 |false=>
  rw[xn ks]at aY
  ·simp only[bg,bw]at aY;obtain⟨rfl,rfl,rfl⟩:=aY;exact⟨H,xn ks (H:=H),by rw[tR a3];exact ak,gK⟩
  ·exact H
 |true=>
 by_cases vg:ez E x.op=true
 ·have rY:ez E y.op=false:=by
   cases h:ez E y.op with
   |false=>rfl
   |true=>exact absurd ⟨vg,h⟩ ag.alb
  have Nz:=BV ak;have zp:cO E J H1 y.op=cO E J H y.op:=by
   generalize qZ:y.op=op at rY;cases op<;>(try rfl);rename_i c;obtain⟨callee,args,e1⟩:=c;cases callee with
   |value f=>simp[ez]at rY
   |_=>rfl
  have lh:=ID aY ks;have key:kN y.op=true→∀c∈cO E J H1 y.op,H[c]?=H1[c]?:=by intro ah c e3;have dn:=(ag.float (.inl ⟨vg,ah⟩)).2;have:=p' dn (lh c e3);exact(Nz.2 c this).symm
  obtain⟨rfl,EB⟩:=zo rY key aY;exact⟨H,EB,by rw[tR a3];exact ak,gK⟩
 ·have EZ:ez E x.op=false:=by simpa using vg
  have alc:kN x.op=true→∀c∈cO E J H x.op,H[c]?=H[c]?:=λ _ _ _=>rfl
  obtain⟨rfl,_⟩:=zo (an:=H) EZ alc ak;have NA:=BV aY;have lh:=ID ak kS;by_cases rY:ez E y.op=true
  ·have key:kN x.op=true→∀c∈cO E J H1 x.op,bu[c]?=H1[c]?:=by intro ah c e3;have dn:=(ag.float (.inr ⟨rY,ah⟩)).1;exact NA.2 c (p' dn (lh c e3))
   obtain⟨_,u5⟩:=zo EZ key ak;exact⟨bu,aY,by rw[tR a3];exact u5,gK⟩
  ·have NB:ez E y.op=false:=by simpa using rY
   obtain⟨rfl,_⟩:=zo (an:=H1) NB (λ _ _ _=>rfl) aY;exact⟨bu,aY,by rw[tR a3];exact ak,gK⟩
end
section
variable{E:Env}{aJ:dy}{ops:Array Oper}{eA:Nat→List Nat}
inductive tS (E:Env) (aJ:dy) (ops:Array Oper) (eA:Nat→List Nat):List Nat→Fr→aa→Fr→aa→Prop
 |nil (J:Fr) (H:aa):tS E aJ ops eA [] J H J H
 |cons (i:Nat) (l:List Nat) (J:Fr) (H:aa) (ai:Oper) (v:U) (H1:aa) (dE:Fr) (bu:aa) (b9:ops[i]?=some ai) (bh:gC E aJ ops ai J H=some (v,H1,eA i)) (h:tS E aJ ops eA l (dH ai.dst v J) H1 dE bu):tS E aJ ops eA (i::l) J H dE bu
def run_eq{l:List Nat}{J bM:Fr}{H:aa}{dE:Fr}{bu:aa}(h:tS E aJ ops eA l J H dE bu):hR J bM→∃jm,hR dE jm∧tS E aJ ops eA l bM H jm bu:=by
 induction h generalizing bM with
 |nil J H=>exact λ he=>⟨bM,he,.nil _ _⟩
 |cons i l J H ai v H1 dE bu b9 bh _ a8=>intro he;obtain⟨jm,j,I⟩:=a8 (he.put ai.dst v);exact⟨jm,j,.cons i l bM H ai v H1 jm bu b9 (by rw[←ala he];exact bh) I⟩
def IE(E:Env)(ops:Array Oper)(eA:Nat→List Nat)(ac i:Nat):Prop:=∀x y,ops[ac]?=some x→ops[i]?=some y→Ux E ops x y (eA ac) (eA i)
def front:∀{c4 eN:List Nat} {i:Nat} {J:Fr} {H:aa} {dE:Fr} {bu:aa},tS E aJ ops eA (c4++i::eN) J H dE bu→(∀ac∈c4,IE E ops eA ac i)→
  ∃ai v H1 jm,ops[i]?=some ai∧gC E aJ ops ai J H=some (v,H1,eA i)∧hR dE jm∧tS E aJ ops eA (c4++eN) (dH ai.dst v J) H1 jm bu
 |[],eN,i,J,H,dE,bu,h,_=>by
  cases h with
  |cons _ _ _ _ ai v H1 _ _ b9 bh h=>exact⟨ai,v,H1,dE,b9,bh,.refl _,h⟩
 |ac::c4,eN,i,J,H,dE,bu,h,ag=>by
  cases h with
  |cons _ _ _ _ x jj H1 _ _ ak yP h=>obtain⟨ai,v,ox,iI,b9,bh,he,ah⟩:=front h (λ k ay=>ag k (by simp[ay]));obtain⟨NC,s1,s2,tO⟩:=swap yP bh (ag ac (by simp) x ai ak b9);obtain⟨E0,c',E1⟩:=run_eq ah tO;exact⟨ai,v,NC,E0,b9,s1,he.trans c',.cons ac _ _ _ x jj ox E0 bu ak s2 E1⟩
def Uy:∀(l:List Oper) (k:Nat) (J:Fr) (H:aa) (dE:Fr) (bu:aa) (fD:List (List Nat)),hP E aJ ops.toList l J H=some (dE,bu,fD)→(∀ac,l[ac]?=ops[k+ac]?)→(∀ac,ac<l.length→eA (k+ac)=fD.getD ac [])→
  tS E aJ ops eA (lF k l.length) J H dE bu
 |[],k,J,H,dE,bu,fD,h,_,_=>by simp only[hP,bg,bw]at h;obtain⟨rfl,rfl,rfl⟩:=h;exact .nil _ _
 |ai::l,k,J,H,dE,bu,fD,h,al,bp=>by
  simp only[hP]at h;split at h
  ·rename_i lG H1 t aR;split at h
   ·rename_i iI ox ND ah;simp only[bg,bw]at h;obtain⟨rfl,rfl,rfl⟩:=h;rw[ak']at aR;simp only[c0,bw]at aR;obtain⟨⟨v,an,T⟩,bh,ao,aH,bN⟩:=aR;simp only at ao aH bN;subst ao aH bN;have aW:=al 0;simp only[p6,e7]at aW;have E2:=bp 0 (by simp);simp only[e7,BW]at E2;rw[cQ,List.range'_succ];refine .cons k _ J H ai v _ _ _ aW.symm (by rw[E2];exact bh) ?_;refine Uy l (k+1) _ _ _ _ ND ah (λ ac=>by have:=al (ac+1);simpa[tB,qb 1 ac]using this) λ ac a_=>?_
    have:=bp (ac+1) (by simpa using a_);rw[show k+1+ac=k+(ac+1)by omega,this];simp
   ·cases h
  ·cases h
def Uz(acc:Array Nat)(ac:Nat):∀(l:List Edge) (s:Nat),(l.foldl (λ s e=>if vh .any e then s|||2^e.on|||acc.getD e.on 0 else s) s).testBit ac=true→
  s.testBit ac=true∨∃e∈l,vh .any e=true∧(e.on=ac∨(acc.getD e.on 0).testBit ac=true)
 |[],s,h=>.inl h
 |e::l,s,h=>by
  simp only[yX]at h;rcases Uz acc ac l _ h with j|⟨k_,o_,I⟩
  ·split at j
   ·rename_i aj;rw[Nat.testBit_or,Nat.testBit_or,w2,w2]at j;rcases j with(j|j)|j
    ·exact .inl j
    ·rw[Nat.testBit_two_pow]at j;exact .inr ⟨e,by simp,aj,.inl (by simpa using j)⟩
    ·exact .inr ⟨e,by simp,aj,.inr j⟩
   ·exact .inl j
  ·exact .inr ⟨k_,by simp[o_],I⟩
def bitsOf(acc:Array Nat)(ai:Oper):Nat:=ai.after.foldl (λ s e=>if vh .any e then s|||2^e.on|||acc.getD e.on 0 else s) 0
def UA:∀(l:List Oper) (acc:Array Nat),(l.foldl (λ acc ai=>acc.push (bitsOf acc ai)) acc).size=acc.size+l.length∧(∀k,k<acc.size→(l.foldl (λ acc ai=>acc.push (bitsOf acc ai)) acc).getD k 0=acc.getD k 0)∧
  ∀k ai,l[k]?=some ai→∃xo:Array Nat,xo.size=acc.size+k∧(∀m,m<xo.size→xo.getD m 0=(l.foldl (λ acc ai=>acc.push (bitsOf acc ai)) acc).getD m 0)∧(l.foldl (λ acc ai=>acc.push (bitsOf acc ai)) acc).getD (acc.size+k) 0=bitsOf xo ai
 |[],acc=>⟨by simp,λ _ _=>rfl,λ k ai h=>by simp at h⟩
 |ai::l,acc=>by
  obtain⟨j,I,av⟩:=UA l (acc.push (bitsOf acc ai));simp only[yX];have BD:∀k,k<acc.size→(acc.push (bitsOf acc ai)).getD k 0=acc.getD k 0:=by intro k ay;simp[di,HT,show k≠acc.size by omega]
  refine⟨by rw[j];simp;omega,λ k ay=>by rw[I k (by simp;omega)];exact BD k ay,λ k p au=>?_⟩;cases k with
  |zero=>simp at au;subst au;refine⟨acc,rfl,λ m hm=>by rw[I m (by simp;omega)];exact(BD m hm).symm,?_⟩;rw[I _ (by simp)];simp[di]
  |succ k=>obtain⟨xo,hs,a2,a3⟩:=av k p (by simpa using au);refine⟨xo,by rw[hs];simp;omega,a2,?_⟩;rw[←a3];congr 1;simp;omega
def ald{i ac:Nat}{ai:Oper}(b9:ops[i]?=some ai)(h:pS (pT ops) ac i=true):
  ∃e∈ai.after,vh .any e=true∧(e.on=ac∨(e.on<i∧pS (pT ops) ac e.on=true)):=by
 have aj:pT ops=ops.toList.foldl (λ acc ai=>acc.push (bitsOf acc ai)) #[]:=by unfold pT;rw[←Array.foldl_toList];rfl
 obtain⟨_,_,av⟩:=UA ops.toList #[];obtain⟨xo,hs,a2,a3⟩:=av i ai (by simpa using b9);simp only[H8,dr,cp]at hs a3;unfold pS at h⊢;rw[aj,a3]at h;unfold bitsOf at h;rw[←Array.foldl_toList]at h;rcases Uz xo ac _ 0 h with ba|⟨e,he,NE,bs⟩
 ·simp at ba
 ·refine⟨e,by simpa using he,NE,?_⟩;rcases bs with bs|bs
  ·exact .inl bs
  ·by_cases be:e.on<i
   ·refine .inr ⟨be,?_⟩;rw[aj,←a2 _ R];exact bs
   ·rw[di,Array.getElem?_eq_none R]at bs;simp at bs
def E3(ops:Array Oper)(listed:Array Bool):Prop:=∀(i:Nat) (ai:Oper),ops[i]?=some ai→listed.getD i false=true→∀e∈ai.after,vh .any e=true→listed.getD e.on false=true
def UB{listed:Array Bool}(ag:E3 ops listed):∀(i:Nat) (ai:Oper),ops[i]?=some ai→(∀e∈ai.after,vh .any e=true→listed.getD e.on false=true)→∀ac,pS (pT ops) ac i=true→listed.getD ac false=true:=by
 intro i;induction i using Nat.strongRecOn with
 |_ i a8=>
  intro ai b9 au ac aj;obtain⟨e,he,NE,h⟩:=ald b9 aj;have al:=au e he NE;rcases h with rfl|⟨be,kr⟩
  ·exact al
  ·have ax:i<ops.size:=(jY.1 b9).1;have E4:ops[e.on]?=some ops[e.on]:=qM R;exact a8 e.on be _ E4 (ag e.on _ E4 al) ac kr
end
section
variable{E:Env}{aJ:dy}{ops:Array Oper}{eA:Nat→List Nat}{Q:Exit→Act→World→Prop}{ro:Option Nat}{gS:Nat}
theorem NF(ch:nQ E (gg E aJ)){dE:Fr}{bu:aa}(zq:∀ac i,ac<i→i<ops.size→pS (pT ops) ac i=false→IE E ops eA ac i)
  (vi:∀(i:Nat) (ai:Oper),ops[i]?=some ai→∀e∈ai.after,vh .any e=true→e.on<i){hf:Nat}{d0:List Deferred}(pt:BS hf ops.toList):
  ∀(aV:List Nat) (listed:Array Bool) (ad:b') (ab:b8) (J:Fr) (H:aa) (a:Act) (w:World) (dE:Fr),aV.Pairwise (·<·)→(∀i,i∈aV↔i<ops.size∧listed.getD i false=false)→listed.size=ops.size→E3 ops listed→
   tS E aJ ops eA aV J H dE bu→b5 E ad ab H w→eW ad ab H J a.tmps→a.tmps.size=hf→a.defers=d0→
   (∀bW aq iI,hR dE iI→bW.defers=d0→bW.tmps.size=hf→ci E ad ab H w bu aq (λ aL aB=>eW aL aB bu iI bW.tmps)→Q .normal bW aq)→wpAnyIn (ps ro) gS E.P .any ops Q aV.length listed a w
 |[],listed,ad,ab,J,H,a,w,dE,au,dj,eu,vb,lI,ap,aI,aE,aM,eT=>by
  refine⟨?_,?_⟩
  ·cases h:E5 .any ops listed with
   |nil=>rfl
   |cons i l=>
    have ax:i∈E5 .any ops listed:=by rw[h];simp
    obtain⟨j,ai,b9,_⟩:=mem_ready.1 ax;have be:=(jY.1 b9).1;have:i∈([]:List Nat):=(dj i).2 ⟨be,by
     rw[di]at j⊢;cases aN:listed[i]? with
     |none=>rfl
     |some b=>rw[aN]at j;simpa using j⟩
    simp at this
  ·cases lI with
   |nil=>exact eT a w J (.refl _) aM aE (ci.refl ap aI)
 |r::aV,listed,ad,ab,J,H,a,w,dE,au,dj,eu,vb,lI,ap,aI,aE,aM,eT=>by
  simp only[cQ];refine⟨λ NG=>?_,λ i ax=>?_⟩
  ·exfalso;have ah:=(dj r).1 (by simp);have iY:ops[r]?=some ops[r]:=qM ah.1;have:r∈E5 .any ops listed:=by
    refine mem_ready.2 ⟨?_,_,iY,λ e he aj=>?_⟩
    ·have:=ah.2;rw[di]at this⊢;rw[qM R]at this⊢;simpa using this
    ·have be:=vi r _ iY e he aj;cases al:listed.getD e.on false with
     |true=>rfl
     |false=>
      have hm:e.on∈r::aV:=(dj e.on).2 ⟨R,al⟩;rcases ng.1 hm with j|j
      ·omega
      ·have:=(uR.1 au).1 _ j;omega
   rw[NG]at this;simp at this
  ·obtain⟨j,ai,b9,zr⟩:=mem_ready.1 ax;have be:=(jY.1 b9).1;have NH:i∈r::aV:=(dj i).2 ⟨be,by
    rw[di]at j⊢;rw[qM R]at j⊢;simpa using j⟩
   obtain⟨c4,eN,q0⟩:=List.append_of_mem NH;rw[q0]at lI au;have q1:=NI.1 au;have BX:∀ac∈c4,IE E ops eA ac i:=by
    intro ac a_;have qN:ac<i:=q1.2.2 ac a_ i (by simp);refine zq ac i qN be ?_;cases aj:pS (pT ops) ac i with
    |false=>rfl
    |true=>have:=UB vb i ai b9 zr ac aj;have jH:=((dj ac).1 (by rw[q0];simp[a_])).2;rw[this]at jH;cases jH
   obtain⟨rI,v,H1,jm,E6,bh,he,E7⟩:=front lI BX;rw[b9]at E6;cases E6;have E8:∀k,ai.dst=some k→k<a.tmps.size:=by intro k ay;rw[aE];exact pt ai (by simpa using Array.mem_of_getElem? b9) k ay
   have hlen:aV.length=(c4++eN).length:=by have:=congrArg BY q0;simp at this⊢;omega
   have E9:(c4++eN).Pairwise (·<·):=by rw[NI];exact⟨q1.1,(uR.1 q1.2.1).2,λ x ak y aY=>q1.2.2 x ak y (by simp[aY])⟩
   have NJ:i∉c4++eN:=by
    intro hm;rcases fS.1 hm with hm|hm
    ·have:=q1.2.2 i hm i (by simp);omega
    ·have:=(uR.1 q1.2.1).1 i hm;omega
   have E_:∀k,k∈c4++eN↔k<ops.size∧(listed.setIfInBounds i true).getD k false=false:=by
    intro k;by_cases po:k=i
    ·subst po;refine⟨λ h=>absurd h NJ,λ h=>?_⟩;have I:=h.2;rw[di]at I;simp[eu,be]at I
    ·rw[getD_set_ne false (a' po)];rw[←dj k,q0];simp[po]
   have E':E3 ops (listed.setIfInBounds i true):=by
    intro k p ml ni e o_ aj;by_cases po:k=i
    ·subst po;rw[b9]at ml;cases ml;exact getD_set_true (zr e o_ aj)
    ·rw[getD_set_ne false (a' po)]at ni;exact getD_set_true (vb k p ml ni e o_ aj)
   have yU:(listed.setIfInBounds i true).size=ops.size:=by simpa using eu
   unfold wpOpIn;rw[b9];unfold gC at bh;split at bh
   ·rename_i aP;split at bh
    ·rename_i hb qa lS;simp only[bg,bw]at bh;obtain⟨rfl,rfl,_⟩:=bh;simp only[BR aI aP,if_true];refine Nr (Uh lS) (No ch lS ap aI λ x f_ ak=>?_);obtain⟨ef,dW,dm,lN,gW,oj⟩:=ak;rw[hlen];refine NF ch (d0:=d0) (hf:=hf) (dE:=jm) zq vi pt (c4++eN) _ ef dW _ _ _ f_ jm E9 E_ yU E' E7 dm ((aI.mono gW).put oj ai.dst E8) (by rw[xm];exact aE) (by rw[put_defers];exact aM) λ bW aq iI zs j5 aR bY=>?_
     obtain⟨eY,ev,bG,bC,cE,eU⟩:=bY;exact eT bW aq iI (he.trans zs) j5 aR ⟨eY,ev,bG,lN.trans bC,gW.trans cE,eU⟩
    ·cases bh
   ·rename_i aP;simp only[bg,bw]at bh;obtain⟨rfl,rfl,_⟩:=bh;simp only[BR aI aP,fF,if_false];refine⟨λ _ _=>trivial,?_⟩;rw[hlen];refine NF ch (d0:=d0) (hf:=hf) (dE:=jm) zq vi pt (c4++eN) _ ad ab _ _ _ w jm E9 E_ yU E' E7 ap (aI.put (LW _ _ _) ai.dst E8) (by rw[xm];exact aE) (by rw[put_defers];exact aM) λ bW aq iI zs j5 aR bY=>?_
    exact eT bW aq iI (he.trans zs) j5 aR bY
   ·cases bh
 termination_by aV=>aV.length
 decreasing_by all_goals (have:=congrArg BY q0;simp at this⊢;omega)
end
section
variable{E:Env}{ad:b'}{ab:b8}{H:aa}{w:World}
def nS(ab:b8)(N c:Nat):b8:=λ d=>if d.c=c then ab ⟨N,d.r⟩else if d.c=N then none else ab d
inductive xp (H:aa) (c:Nat):Chunk→Chunk→U→U→Prop
 |box (cells:List U) (h:∀d∈bx cells,d<H.length):xp H c (.box cells) (.box cells) (.ptr H.length 0 0 0) (.ptr c 0 0 0)
 |sl (z n:Nat) (rows:List (List aC)) (ex:Bool):xp H c (.sl z 0 rows ex) (.sl z 1 rows ex) (.ref H.length 0 0 n) (.ref c 1 0 n)
 |map:xp H c (.map []) (.map []) (.dv H.length) (.dv c)
def ale{b6 j2:Chunk}{v0 v1:U}{c:Nat}(aN:H[c]?=some mF)(cb:ab c=none)(ay:xp H c b6 j2 v0 v1){a:U}{v:Value}(r:a6 ad ab (H++[b6]) a v):
  (∀d∈bc a,d<H.length)→a6 ad (nS ab H.length c) (H.set c j2) a v:=by
 have ch:c<H.length:=(bF.1 aN).1;have e3:(H++[b6])[c]?=some (.sl 0 0 [] true):=by rw[ei ch];exact aN
 have IF:∀d,d<H.length→d≠c→(H.set c j2)[d]?=(H++[b6])[d]?∧∀r,nS ab H.length c ⟨d,r⟩=ab ⟨d,r⟩:=by intro d aM eF;refine⟨by rw[dw (a' eF),ei aM],λ r=>?_⟩;simp[nS,eF,show d≠H.length by omega]
 have xf:∀d,d<H.length→d≠c→(H.set c j2)[d]?=(H++[b6])[d]?∧nS ab H.length c d=ab d:=λ d aM eF=>⟨(IF d aM eF).1,(IF d aM eF).2 0⟩
 have mm:(H.set c j2)[c]?=some j2:=kl ch;induction r with
 |dead v=>exact λ _=>.dead v
 |i x v h=>exact λ _=>.i x v h
 |agg cells cs al _ a8=>exact λ aM=>.agg cells cs al λ k a aA=>a8 k a aA λ d h=>aM d (by simp only[bc];exact lQ.2 ⟨k,a,aA,h⟩)
 |aQ fn first ft eI cs al hm _ _ nH nI=>exact λ aM=>.aQ fn first ft eI cs al hm (λ k a aA=>nH k a aA λ d h=>aM d (by simp only[bc,fS];exact .inl (lQ.2 ⟨k,a,aA,h⟩))) (λ k a aA=>nI k a aA λ d h=>aM d (by simp only[bc,fS];exact .inr (lQ.2 ⟨k,a,aA,h⟩)))
 |bd vs xs al _ a8=>exact λ aM=>.bd vs xs al λ k a aA=>a8 k a aA λ d h=>aM d (by simp only[bc];exact lQ.2 ⟨k,a,aA,h⟩)
 |ref d g off len v ag aR aI au aP=>
  intro aM;have fk:d<H.length:=aM d (by simp[bc]);by_cases eF:d=c
  ·subst eF;have NK:=aP _ _ _ _ e3;obtain rfl:g=0:=R;cases ay with
   |box cells _=>exact .ref _ _ _ _ _ (by simpa using fk) (λ _ _ _ h=>by rw[mm]at h;cases h) (λ _ _ _ h=>by rw[mm]at h;cases h) au (λ _ _ _ _ h=>by rw[mm]at h;cases h)
   |sl z n rows ex=>exact .ref _ _ _ _ _ (by simpa using fk) (λ _ _ _ h=>by rw[mm]at h;cases h) (λ _ _ _ h=>by rw[mm]at h;cases h) au (λ _ _ _ _ h=>R)
   |map=>exact .ref _ _ _ _ _ (by simpa using fk) (λ _ _ _ h=>by rw[mm]at h;cases h) (λ _ _ _ h=>by rw[mm]at h;cases h) au (λ _ _ _ _ h=>by rw[mm]at h;cases h)
  ·obtain⟨ao,aH⟩:=xf d fk eF;refine .ref _ _ _ _ _ (by simpa using fk) (λ aw rows ex h=>?_) (λ aw rows ex h=>aI aw rows ex (by rw[←ao];exact h)) au (λ aw aU rows ex h=>aP aw aU rows ex (by rw[←ao];exact h));exact(aR aw rows ex (by rw[←ao];exact h)).step aH rfl
 |dv d v ag hm bp hu au bf=>
  intro aM;have fk:d<H.length:=aM d (by simp[bc]);by_cases eF:d=c
  ·subst eF;exact absurd e3 (bf _ _ _ _)
  ·obtain⟨ao,aH⟩:=xf d fk eF;refine .dv _ _ (by simpa using fk) (λ es h=>?_) (λ t cells h=>?_) (λ t l h=>?_) au (λ aw g rows ex h=>bf _ _ _ _ (by rw[←ao];exact h))
   ·rw[aH];exact hm es (by rw[←ao];exact h)
   ·rw[aH];exact bp t cells (by rw[←ao];exact h)
   ·rw[aH];exact hu t l (by rw[←ao];exact h)
 |ptr d g r k v ag aj aR aI ax au aP=>
  intro aM;have fk:d<H.length:=aM d (by simp[bc]);by_cases eF:d=c
  ·subst eF;have NK:=aP _ _ _ _ e3;obtain rfl:g=0:=R;obtain⟨b,n,j,_⟩:=aR _ _ _ e3;rw[cb]at j;cases j
  ·obtain⟨ao,aH⟩:=xf d fk eF;refine .ptr _ _ _ _ _ (by simpa using fk) (λ cells h=>?_) (λ aw rows ex h=>?_) (λ aw rows ex row h=>aI aw rows ex row (by rw[←ao];exact h)) (λ s p h=>?_) au (λ aw aU rows ex h=>aP aw aU rows ex (by rw[←ao];exact h))
   ·rw[aH];exact aj cells (by rw[←ao];exact h)
   ·rw[aH];exact aR aw rows ex (by rw[←ao];exact h)
   ·rw[aH];exact ax s p (by rw[←ao];exact h)
 |x k v h aI=>
  intro aM;have fk:k.c<H.length:=aM k.c (by simp[bc]);refine .x _ _ (h.Sv (by simpa using fk) ?_) (aI.to (λ _ _ h=>h) λ g rows e=>?_);rotate_left
  ·by_cases eF:k.c=c
   ·rw[eF,mm]at e;cases ay<;>cases e
   ·rw[←(IF _ fk eF).1];exact e
  intro z g s rows aO;by_cases eF:k.c=c
  ·rw[eF,mm]at aO;cases ay<;>cases aO
  ·obtain⟨ao,aH⟩:=IF _ fk eF;rw[ao]at aO;exact .inl ⟨s,rows,aO,aH 0,rfl,.inr ⟨rfl,λ r bP ah=>⟨bP,ah,rfl,aH _⟩⟩⟩
def alf(ap:b5 E ad ab H w){c:Nat}(aN:H[c]?=some mF){b6 j2:Chunk}{v0 v1:U}{x:Value}{aq:World}(ay:xp H c b6 j2 v0 v1)
  (bY:ci E ad ab H w (H++[b6]) aq λ aL aB=>a6 aL aB (H++[b6]) v0 x):ci E ad ab H w (H.set c j2) aq λ aL aB=>a6 aL aB (H.set c j2) v1 x:=by
 obtain⟨aL,aB,nm,cX,MK,sN⟩:=bY;have ch:c<H.length:=(bF.1 aN).1;have e3:(H++[b6])[c]?=some (.sl 0 0 [] true):=by rw[ei ch];exact aN
 have cb:aB c=none:=(nm.b6 _ _ e3).1 rfl;have key:∀a v,a6 aL aB (H++[b6]) a v→(∀d∈bc a,d<H.length)→a6 aL (nS aB H.length c) (H.set c j2) a v:=λ a v r=>ale aN cb ay r
 have xq:nS aB H.length c c=aB H.length:=by simp[nS]
 have inv:∀(d:fb) b n,nS aB H.length c d=some (b,n)→(d.c=c∧aB ⟨H.length,d.r⟩=some (b,n))∨(d.c≠c∧d.c≠H.length∧aB d=some (b,n)):=by
  intro d b n h;unfold nS at h;split at h
  ·exact .inl ⟨by assumption,h⟩
  ·split at h
   ·cases h
   ·exact .inr ⟨by assumption,by assumption,h⟩
 have IG:(H++[b6])[H.length]?=some b6:=by simp
 refine⟨aL,nS aB H.length c,⟨nm.dR,λ d y aM=>?_,λ d ig b n dP j I=>?_,λ d b n h=>?_,nm.e4⟩,
  ⟨cX.os,cX.tape,cX.output,cX.size,cX.frame,cX.dR,cX.qG,λ d b n h=>?_⟩,λ a v r=>key a v (MK a v r) (qQ r),?_⟩
 ·rcases fx aM with⟨rfl,rfl⟩|⟨eF,u7⟩
  ·have h:=nm.b6 _ _ IG;cases ay with
   |box cells ah=>obtain⟨b,cs,elem,bj,j,I,av,ba,bs⟩:=h;exact⟨b,cs,elem,bj,by rw[xq];exact j,I,av,ba,λ k a aA=>key _ _ (bs k a aA) λ e he=>ah e (lQ.2 ⟨k,a,aA,he⟩)⟩
   |sl z n rows ex=>
    obtain⟨j,I,av⟩:=h;refine⟨λ e=>by rw[xq];exact j e,I,?_⟩;rcases av with⟨ba,bs⟩|⟨b,cs,elem,bj,ba,bs⟩
    ·exact .inl ⟨by rw[xq];exact ba,bs⟩
    ·exact .inr ⟨b,cs,elem,bj,by rw[xq];exact ba,bs⟩
   |map=>obtain⟨b,hl,aJ,j,I,av⟩:=h;exact⟨b,hl,aJ,by rw[xq];exact j,I,av.of λ a v aA=>by simp at aA⟩
  ·have fk:d<H.length:=(bF.1 u7).1;have aH:nS aB H.length c d=aB d:=by simp[nS,eF,show d≠H.length by omega]
   have bN:∀r,nS aB H.length c ⟨d,r⟩=aB ⟨d,r⟩:=λ r=>by simp[nS,eF,show d≠H.length by omega]
   have h:=nm.b6 d y (by rw[ei fk];exact u7);have aW:=ap.b6 d y u7;cases y with
   |box cells=>obtain⟨b,cs,elem,bj,j,I,av,ba,bs⟩:=h;obtain⟨_,w7,_,_,_,_,_,_,lR⟩:=aW;exact⟨b,cs,elem,bj,by rw[aH];exact j,I,av,ba,λ k a aA=>key _ _ (bs k a aA) (qQ (lR k a aA))⟩
   |sl z g rows ex=>
    obtain⟨j,I,av⟩:=h;refine⟨λ e=>by rw[aH];exact j e,I,?_⟩;rcases av with⟨ba,bs⟩|⟨b,cs,elem,bj,ba,bs⟩
    ·exact .inl ⟨by rw[aH];exact ba,bs⟩
    ·exact .inr ⟨b,cs,elem,bj,by rw[aH];exact ba,bs⟩
   |bj z g rows ex=>exact(aH.trans h:nS aB H.length c d=none)
   |iter s p=>obtain⟨b,j,I⟩:=h;exact⟨b,by rw[aH];exact j,I⟩
   |map es=>obtain⟨b,hl,aJ,j,I,av⟩:=h;obtain⟨_,aQy,_,_,bC,cE⟩:=aW;exact⟨b,hl,aJ,by rw[aH];exact j,I,av.of λ a v aA r=>key _ _ r (qQ (cE.ex aA).choose_spec)⟩
   |cY t cells=>obtain⟨b,cs,j,I,ba,bs⟩:=h;obtain⟨_,w7,_,_,_,lR⟩:=aW;exact⟨b,cs,by rw[aH];exact j,I,ba,λ k a aA=>key _ _ (bs k a aA) (qQ (lR k a aA))⟩
   |ju t l=>obtain⟨b,cs,j,I,av⟩:=h;exact⟨b,cs,by rw[aH];exact j,I,av⟩
   |gone=>exact(aH.trans h:nS aB H.length c d=none)
   |fd=>exact(aH.trans h:nS aB H.length c d=none)
   |az z g s rows=>
    rcases h with⟨j,I⟩|⟨b,cs,elem,bj,j,I,av,ba,bs⟩
    ·exact .inl ⟨by rw[aH];exact j,I⟩
    ·exact .inr ⟨b,cs,elem,bj,by rw[aH];exact j,I,av,ba,λ r q bm=>(bs r q bm).mono (bN _) (λ _ _ h=>h) (λ _ _ _=>rfl)⟩
 ·rcases inv _ _ _ j with⟨cm,ao⟩|⟨hs,a2,ao⟩<;>rcases inv _ _ _ I with⟨cy,bN⟩|⟨fe,dz,bN⟩
  ·have:=nm.inj _ _ _ _ _ ao bN;simp only[fb.mk.injEq,true_and]at this;exact fb.ext' (cm.trans cy.symm) this
  ·exact absurd (congrArg fb.c (nm.inj _ _ _ _ _ ao bN)).symm dz
  ·exact absurd (congrArg fb.c (nm.inj _ _ _ _ _ ao bN)) a2
  ·exact nm.inj _ _ _ _ _ ao bN
 ·rcases inv _ _ _ h with⟨cm,ao⟩|⟨hs,a2,ao⟩
  ·have:=nm.sep _ _ _ ao;exact⟨this.1,this.2.1,by rw[cm];simpa using ch⟩
  ·have:=nm.sep _ _ _ ao;refine⟨this.1,this.2.1,?_⟩;have av:=this.2.2;simp at av⊢;omega
 ·rcases inv _ _ _ h with⟨_,ao⟩|⟨hs,a2,ao⟩
  ·exact cX.own _ _ _ ao
  ·exact cX.own _ _ _ ao
 ·have mm:(H.set c j2)[c]?=some j2:=kl ch;cases ay with
  |box cells ah=>
   cases sN with
   |ptr _ _ _ _ _ ag aj aR aI ax au aP=>obtain⟨b,n,j,I⟩:=aj _ IG;exact .ptr _ _ _ _ _ (by simpa using ch) (λ cells h=>⟨b,n,by rw[xq];exact j,I⟩) (λ _ _ _ h=>by rw[mm]at h;cases h) (λ _ _ _ _ h=>by rw[mm]at h;cases h) (λ _ _ h=>by rw[mm]at h;cases h) au (λ _ _ _ _ h=>R)
  |sl z n rows ex=>
   cases sN with
   |ref _ _ _ _ _ ag aR aI au aP=>have j:=aR _ _ _ IG;refine .ref _ _ _ _ _ (by simpa using ch) (λ aw c7 hB h=>?_) (λ _ _ _ h=>by rw[mm]at h;cases h) au (λ _ _ _ _ h=>by rw[mm]at h;cases h;omega);rw[mm]at h;cases h;unfold sC at j⊢;rw[xq];exact j
  |map=>
   cases sN with
   |dv _ _ ag hm bp hu au bf=>obtain⟨b,n,j,I⟩:=hm _ IG;exact .dv _ _ (by simpa using ch) (λ es h=>⟨b,n,by rw[xq];exact j,I⟩) (λ _ _ h=>by rw[mm]at h;cases h) (λ _ _ h=>by rw[mm]at h;cases h) au (λ _ _ _ _ h=>by rw[mm]at h;cases h)
def UC:∀{l:List U} {xs:List aC} {H1:aa},fC [] l=some (xs,H1)→H1=[]∧∀H,fC H l=some (xs,H)
 |[],xs,H1,h=>by simp only[fC,bg,bw]at h;obtain⟨rfl,rfl⟩:=h;exact⟨rfl,λ H=>rfl⟩
 |a::l,xs,H1,h=>by
  simp only[fC]at h;split at h
  ·rename_i x bu j;split at h
   ·rename_i cP ox I;simp only[bg,bw]at h;obtain⟨rfl,rfl⟩:=h;cases a with
    |i z=>simp only[freeze,bg,bw]at j;obtain⟨rfl,rfl⟩:=j;obtain⟨rfl,e⟩:=UC I;exact⟨rfl,λ H=>by simp only[fC,freeze,e H]⟩
    |x k=>cases k<;>simp[freeze,o4,uH,uI]at j
    |_=>simp[freeze]at j
   ·cases h
  ·cases h
def alg{t:TypeId}{n:Nat}{bk:List (Nat×U)}{k:Option (Option Nat)}{j2:Chunk}(h:h0 (k8 E [] t n bk)=some (k,j2))(H:aa)(c:Nat):
  ∃v0 b6,k8 E H t n bk=some (v0,H++[b6])∧xp H c b6 j2 v0 (tu c k):=by
 unfold k8 at h⊢;split at h;rotate_left
 ·simp[h0]at h
 rename_i e he;split at h;rotate_left
 ·simp[h0]at h
 rename_i z zero bf hzero;split at h;rotate_left
 ·simp[h0]at h
 rename_i ag;split at h;rotate_left
 ·simp[h0]at h
 rename_i cells HY;split at h;rotate_left
 ·simp[h0]at h
 rename_i xs H1 gK;obtain⟨rfl,ao⟩:=UC gK;simp only[h0,gJ,bg,bw]at h;obtain⟨rfl,rfl⟩:=h;simp only[ag,and_self,if_true,HY,ao H];exact⟨_,_,rfl,.sl _ _ _ _⟩
def alh{t:TypeId}{l m:U}{k:Option (Option Nat)}{j2:Chunk}(h:h0 (jg E [] t l m)=some (k,j2))(H:aa)(c:Nat):
  ∃v0 b6,jg E H t l m=some (v0,H++[b6])∧xp H c b6 j2 v0 (tu c k):=by
 unfold jg at h⊢;split at h;rotate_left
 ·simp[h0]at h
 rename_i e bG f' bC gi he;split at h;rotate_left
 ·simp[h0]at h
 rename_i z row b bf bX aj;split at h;rotate_left
 ·rename_i gI;split at h
  ·rename_i ag;simp only[h0,gJ,bg,bw]at h;obtain⟨rfl,rfl⟩:=h;rw[if_neg gI,if_pos ag];exact⟨_,_,rfl,.sl _ _ _ _⟩
  ·simp[h0]at h
 rename_i ag;simp only[h0,gJ,bg,bw]at h;obtain⟨rfl,rfl⟩:=h;rw[if_pos ag];exact⟨_,_,rfl,.sl _ _ _ _⟩
def ali(v:Value):∀d,d∉bx (cw (jQ v)):=by
 intro d aM;have r:a6 (λ _=>none) (λ _=>none) [] (jQ v) v:=sD v;have h:=qQ r d;have:d∈bc (jQ v):=by generalize jQ v=a at aM;cases a<;>simp only[cw,bx,c8]at aM<;>exact aM
 exact absurd (h this) (by simp)
def UD{a:U}{d:Nat}(h:d∈bx (cw a)):d∈bc a:=by cases a<;>simp only[cw,bx,c8]at h<;>exact h
def alj{t:TypeId}{z n:Nat}{bk:List (Nat×U)}:h0 (tr E [] t z n bk)=none:=by
 unfold tr;split
 ·split
  ·unfold A5;split<;>rfl
  ·rfl
 ·rfl
def alk{z:Nat}{q:Option (U×aa)}:h0 (tt z q)=none:=by
 unfold tt;split
 ·unfold A8;split<;>rfl
 ·rfl
def UE{br:List (Option Nat)}:∀{hr:List Nat} {H1:aa} {cs cs':List U},jh br hr [] cs=some (cs',H1)→H1=[]∧∀H,jh br hr H cs=some (cs',H)
 |[],H1,cs,cs',h=>by simp only[jh,bg,bw]at h;obtain⟨rfl,rfl⟩:=h;exact⟨rfl,λ _=>rfl⟩
 |ac::hr,H1,cs,cs',h=>by
  simp only[jh]at h;split at h
  ·rename_i a aA;split at h
   ·rename_i x bu aI;cases a with
    |i z=>simp only[freeze,bg,bw]at aI;obtain⟨rfl,rfl⟩:=aI;obtain⟨rfl,e⟩:=UE h;exact⟨rfl,λ H=>by simp only[jh,aA,freeze,e H]⟩
    |x k=>cases k<;>simp[freeze,o4,uH,uI]at aI
    |_=>simp[freeze]at aI
   ·cases h
  ·cases h
def alm{t:TypeId}{H1:aa}{v v1:U}{hr:List Nat}(h:kj E t [] v hr=some (v1,H1)):H1=[]∧(∀H,kj E t H v hr=some (v1,H))∧∀d∈bc v1,d∈bc v:=by
 have al:=(IB h).2;cases hr with
 |nil=>simp only[kj,bg,bw]at h;obtain⟨rfl,rfl⟩:=h;exact⟨rfl,λ _=>rfl,al⟩
 |cons ac hr=>
  simp only[kj,uN]at h;split at h
  ·rename_i cs bu aI;simp only[bg,bw]at h;obtain⟨rfl,rfl⟩:=h;obtain⟨rfl,e⟩:=UE aI;exact⟨rfl,λ H=>by simp only[kj,uN,e H],al⟩
  ·cases h
def aln{J:Fr}{a:Act}(ap:b5 E ad ab H w)(aI:eW ad ab H J a.tmps){ai:Op}(b9:dQ ai=true){k:Option (Option Nat)}{j2:Chunk}(h:h0 (dc E J [] ai)=some (k,j2))(c:Nat):
  ∃v0 b6,dc E J H ai=some (v0,H++[b6])∧xp H c b6 j2 v0 (tu c k):=by
 cases ai with
 |alloc e=>
  simp only[dc]at h⊢;split at h
  ·rename_i v bh;split at h
   ·rename_i j;split at h
    ·split at h<;>simp[h0]at h
    rename_i bp;simp only[h0,gJ,bg,bw]at h;obtain⟨rfl,rfl⟩:=h;simp only[j,if_true,bp];refine⟨_,_,rfl,.box _ λ d aM=>?_⟩;obtain⟨dX,_,sE⟩:=w4 bh w;rw[sE]at aM;exact absurd aM (ali dX d)
   ·simp[h0]at h
  ·simp[h0]at h
 |box t x=>
  simp only[dc]at h⊢;unfold yF at h;split at h
  ·rename_i v1 H1 bf;obtain⟨rfl,ao,aH⟩:=alm bf;split at h
   ·rename_i j;simp only[h0,gJ,bg,bw]at h;obtain⟨rfl,rfl⟩:=h;simp only[ao,yF,j,if_true];exact⟨_,_,rfl,.box _ λ d aM=>qQ (eD ap aI x) d (aH d (UD aM))⟩
   ·simp[h0]at h
  ·simp[h0]at h
 |buildSlice t n bk=>
  simp only[dc]at h⊢;split at h
  ·exact alg h H c
  ·rw[alj]at h;cases h
 |makeSlice t l m=>
  simp only[dc]at h⊢;split at h
  ·exact alh h H c
  ·rw[alk]at h;cases h
 |makeMap t r=>
  cases r with
  |some r=>simp[dQ]at b9
  |none=>
   simp only[dc]at h⊢;split at h
   ·rename_i p au;simp only[h0,gJ,bg,bw]at h;obtain⟨rfl,rfl⟩:=h;exact⟨_,_,rfl,.map⟩
   ·simp[h0]at h
 |_=>simp[dQ]at b9
end
section
variable{E:Env}{aJ:dy}{H:aa}
def alo{J:Fr}(t:TypeId)(a x:Operand):cd E aJ (.store t a x) J H=wF E t (bn E J a) (kj E t H (bn E J x) (E.st t)):=rfl
def BZ{a:U}{x:aC}{H1:aa}{c:Nat}(y:Chunk)(h:freeze H a=some (x,H1))(ag:c∉bc a):freeze (H.set c y) a=some (x,H1.set c y):=by
 cases a with
 |i z=>simp only[freeze,bg,bw]at h;obtain⟨rfl,rfl⟩:=h;rfl
 |ref d g off len=>
  have aM:c≠d:=by simpa[bc]using ag
  simp only[freeze,dw aM]at h⊢;split at h
  ·rename_i he;rw[he];split at h
   ·rename_i aP;simp only[bg,bw]at h;obtain⟨rfl,rfl⟩:=h;simp only[aP,if_true];rw[nT _ _ aM]
   ·cases h
  ·rename_i he;rw[he];split at h
   ·rename_i aP;simp only[bg,bw]at h;obtain⟨rfl,rfl⟩:=h;simp only[aP,if_true]
   ·cases h
  ·cases h
 |x k=>
  have aM:c≠k.c:=by simpa[bc]using ag
  cases k with
  |e=>cases h
  |p=>cases h
  |d d g off len=>
   simp only[cN.c]at aM;simp only[freeze,o4,dw aM]at h⊢;unfold uH A2 at h⊢;split at h
   ·rename_i he;rw[he];split at h
    ·rename_i aP;split at h
     ·rename_i ak;simp only[bg,bw]at h;obtain⟨rfl,rfl⟩:=h;simp only[aP,if_true,ak];rw[nT _ _ aM]
     ·cases h
    ·cases h
   ·rename_i he;rw[he];split at h
    ·rename_i aP;simp only[bg,bw]at h;obtain⟨rfl,rfl⟩:=h;simp only[aP,if_true]
    ·cases h
   ·cases h
  |h d g s r=>
   simp only[cN.c]at aM;simp only[freeze,o4,dw aM]at h⊢;unfold uI at h⊢;split at h
   ·rename_i he;rw[he];split at h
    ·rename_i aP;split at h
     ·rename_i ak;simp only[bg,bw]at h;obtain⟨rfl,rfl⟩:=h;simp only[aP,and_self,if_true,ak];rw[nT _ _ aM]
     ·cases h
    ·cases h
   ·cases h
 |_=>simp[freeze]at h
def alp{z c:Nat}{v:U}{q:bT}{H1:aa}(y:Chunk)(h:pP H z v=some (q,H1))(ag:c∉bc v):pP (H.set c y) z v=some (q,H1.set c y):=by
 have UF:∀v,tq z (freeze H v)=some (q,H1)→c∉bc v→tq z (freeze (H.set c y) v)=some (q,H1.set c y):=by
  intro v h ag;unfold tq at h⊢;split at h
  ·rename_i x bu aI;simp only[bg,bw]at h;obtain⟨rfl,rfl⟩:=h;rw[BZ y aI ag]
  ·cases h
 unfold pP at h⊢;split at h
 ·rename_i d g len;have aM:c≠d:=by simpa[bc]using ag
  simp only[dw aM];unfold A4 at h⊢;split at h
  ·rename_i he;rw[he];simp only;split at h
   ·rename_i j;simp only[bg,bw]at h;obtain⟨rfl,rfl⟩:=h;rw[if_pos j,nT _ _ aM]
   ·cases h
  ·exact UF _ h ag
 ·exact UF _ h ag
def alq{t:TypeId}{n c:Nat}{v:U}{k:cN}{an:aa}(y:Chunk)(h:pQ E H t n v k=some an)(ay:c≠k.c)(bh:c∉bc v):pQ E (H.set c y) t n v k=some (an.set c y):=by
 cases k with
 |d=>cases h
 |h=>cases h
 |e d g r=>
  simp only[cN.c]at ay;simp only[pQ,dw ay]at h⊢;split at h
  ·rename_i j;rw[if_pos j];unfold wC at h⊢;split at h
   ·rename_i he;rw[he];simp only;unfold wB at h⊢;split at h
    ·rename_i q H1 ah;rw[alp y ah bh];simp only[dw ay];split at h
     ·rename_i pe;rw[pe];simp only;split at h
      ·rename_i I;simp only[bg]at h;subst h;rw[if_pos I,nT _ _ ay]
      ·cases h
     ·cases h
    ·cases h
   ·cases h
  ·cases h
 |p d g s r i k=>
  simp only[cN.c]at ay;simp only[pQ,dw ay]at h⊢;unfold wD at h⊢;split at h
  ·rename_i he;rw[he];simp only;split at h
   ·rename_i j;rw[if_pos j];split at h
    ·rename_i ah
     try simp only[ah]
     split at h
     ·rename_i av ba;simp only[bg]at h;subst h
      try simp only[av,ba]
      rw[nT _ _ ay]
     ·cases h
    ·cases h
   ·cases h
  ·cases h
def UG{z d c:Nat}{x:U}{new:List bT}{H1:aa}(y:Chunk)(h:lC z H x=some (d,new,H1))(ag:c∉bc x):lC z (H.set c y) x=some (d,new,H1.set c y):=by
 unfold lC at h⊢;split at h
 ·rename_i ig g off len;have aM:c≠ig:=by simpa[bc,cN.c]using ag
  simp only[dw aM];unfold uL at h⊢;split at h
  ·rename_i he;rw[he];simp only;split at h
   ·rename_i j;simp only[bg,bw]at h;obtain⟨rfl,rfl,rfl⟩:=h;rw[if_pos j,nT _ _ aM]
   ·cases h
  ·cases h
 ·cases h
def alr{z d:Nat}{x:U}{new:List bT}{H1:aa}(h:lC z H x=some (d,new,H1)):H1.length=H.length:=by
 unfold lC uL at h
 repeat' split at h
 all_goals first|(simp only[bg,bw]at h;obtain⟨_,_,rfl⟩:=h;simp)|cases h
def als{t t2:TypeId}{z:Nat}{s x v:U}{an:aa}{c:Nat}(y:Chunk)(h:ts E H t t2 z s x=some (v,an))(aR:c∉bc s)(ak:c∉bc x)(al:c<H.length):ts E (H.set c y) t t2 z s x=some (v,an.set c y):=by
 unfold ts at h⊢;split at h;rotate_left
 ·cases h
 rename_i j;rw[if_pos j];unfold uM at h⊢;split at h;rotate_left
 ·cases h
 rename_i d new H1 xh;rw[UG y xh ak];have hQ:=alr xh;simp only;split at h
 ·split at h
  ·rename_i I;simp only[bg,bw]at h;obtain⟨rfl,rfl⟩:=h;rw[if_pos I,jC,vj _ _ R]
  ·cases h
 ·rename_i ig g len;have aM:c≠ig:=by simpa[bc,cN.c]using aR
  simp only[dw aM];unfold A6 at h⊢;split at h
  ·rename_i he;rw[he];simp only;split at h
   ·rename_i I;simp only[bg,bw]at h;obtain⟨rfl,rfl⟩:=h;rw[if_pos I,nT _ _ aM]
   ·cases h
  ·cases h
 ·cases h
def alt{t:TypeId}{z:Nat}{x u v:U}{an:aa}{c:Nat}(y:Chunk)(h:qx E H t z x u=some (v,an))(aR:c∉bc x)(ak:c∉bc u):qx E (H.set c y) t z x u=some (v,an.set c y):=by
 unfold qx at h⊢;split at h;rotate_left
 ·cases h
 rename_i j;rw[if_pos j];unfold yC at h⊢;split at h;rotate_left
 ·cases h
 rename_i d new H1 xh;rw[UG y xh ak];simp only;split at h
 ·rename_i ig g off len;have aM:c≠ig:=by simpa[bc,cN.c]using aR
  simp only[dw aM];unfold A7 at h⊢;split at h
  ·rename_i he;rw[he];simp only;split at h
   ·rename_i I;simp only[bg,bw]at h;obtain⟨rfl,rfl⟩:=h;rw[if_pos I,nT _ _ aM]
   ·cases h
  ·cases h
 ·cases h
def IH{c:Nat}(y:Chunk):∀{l:List U} {H H1:aa} {xs:List aC},fC H l=some (xs,H1)→c∉bx l→fC (H.set c y) l=some (xs,H1.set c y)
 |[],H,H1,xs,h,_=>by simp only[fC,bg,bw]at h;obtain⟨rfl,rfl⟩:=h;rfl
 |a::l,H,H1,xs,h,ag=>by
  simp only[bx,fS,not_or]at ag;simp only[fC]at h⊢;split at h
  ·rename_i x bu j;split at h
   ·rename_i cP ox I;simp only[bg,bw]at h;obtain⟨rfl,rfl⟩:=h;rw[BZ y j ag.1];simp only[IH y I ag.2]
   ·cases h
  ·cases h
def alu{c:Nat}(y:Chunk){l:List U}{H:aa}(h:fC H l=none)(ag:c∉bx l):fC (H.set c y) l=none:=by
 cases I:fC (H.set c y) l with
 |none=>rfl
 |some p=>
  exfalso;by_cases al:c<H.length
  ·have:=IH (c:=c) H[c] I ag;rw[uY]at this;simp[h]at this
  ·rw[List.set_eq_of_length_le R,h]at I;cases I
def B0{c:Nat}(y:Chunk):∀{l bE:List U} {H H1:aa},dk H l=some (bE,H1)→c∉bx l→dk (H.set c y) l=some (bE,H1.set c y)
 |[],bE,H,H1,h,_=>by simp only[dk,bg,bw]at h;obtain⟨rfl,rfl⟩:=h;rfl
 |a::l,bE,H,H1,h,ag=>by
  simp only[bx,fS,not_or]at ag;cases a with
  |ref d g off len=>
   simp only[dk]at h⊢;split at h
   ·rename_i x bu j;split at h
    ·rename_i sR ox I;simp only[bg,bw]at h;obtain⟨rfl,rfl⟩:=h;rw[BZ y j ag.1];simp only[B0 y I ag.2]
    ·cases h
   ·cases h
  |agg cells=>
   have e3:c∉bx cells:=by simpa[bc]using ag.1
   simp only[dk]at h⊢;cases aI:fC H cells with
   |none=>
    rw[aI]at h;rw[alu y aI e3];simp only at h⊢;split at h
    ·rename_i sR ox I;simp only[bg,bw]at h;obtain⟨rfl,rfl⟩:=h;rw[B0 y I ag.2]
    ·cases h
   |some p=>
    obtain⟨xs,bu⟩:=p;rw[aI]at h;rw[IH y aI e3];simp only at h⊢;split at h
    ·rename_i sR ox I;simp only[bg,bw]at h;obtain⟨rfl,rfl⟩:=h;rw[B0 y I ag.2]
    ·cases h
  |x q=>
   simp only[dk]at h⊢;split at h
   ·rename_i x bu j;split at h
    ·rename_i sR ox I;simp only[bg,bw]at h;obtain⟨rfl,rfl⟩:=h;rw[BZ y j ag.1];simp only[B0 y I ag.2]
    ·cases h
   ·cases h
  |dead|i|ptr|dv|aQ|bd=>
   simp only[dk]at h⊢;split at h
   ·rename_i sR ox I;simp only[bg,bw]at h;obtain⟨rfl,rfl⟩:=h;rw[B0 y I ag.2]
   ·cases h
def alv{c:Nat}(y:Chunk)(z:Nat)(H:aa)(al:c<H.length)(a:U):iU z (H.set c y) a=((iU z H a).1,(iU z H a).2.set c y):=by
 unfold iU;split
 ·cases decide (z<1000)
  ·simp only[yA,jC];rw[vj _ _ al]
  ·simp only[yA,jC];rw[vj _ _ al]
 ·rfl
def alw{c:Nat}(y:Chunk)(k:List (Option Nat))(H:aa)(al:c<H.length)(a:U):k7 k (H.set c y) a=((k7 k H a).1,(k7 k H a).2.set c y):=by
 unfold k7;split
 ·exact alv y _ H al _
 ·rfl
def alx(k:List (Option Nat))(H:aa)(a:U):H.length≤(k7 k H a).2.length:=by obtain⟨x,ak⟩:=Up k H a;rw[ak];simp
def UH{c:Nat}(y:Chunk):∀(br:List (List (Option Nat))) (l:List U) (H:aa),c<H.length→eR br l (H.set c y)=((eR br l H).1,(eR br l H).2.set c y)
 |[],l,H,_=>by simp[eR]
 |k::br,[],H,_=>by simp[eR]
 |k::br,a::l,H,al=>by simp only[eR,alw y k H al a];rw[UH y br l _ (wO al (alx _ _ _))]
def aly{f:FuncId}{c:Nat}(y:Chunk){l bE:List U}{H H1:aa}(h:iV E f H l=some (bE,H1))(ag:c∉bx l)(al:c<H.length):iV E f (H.set c y) l=some (bE,H1.set c y):=by
 unfold iV at h⊢;split at h
 ·simp only[bg]at h;simp only[UH y _ l H al,h]
 ·split at h
  ·rename_i sR bu I;simp only[bg,bw]at h;obtain⟨rfl,rfl⟩:=h;rw[B0 y I ag]
  ·cases h
def NL(H:aa):∀(n:Nat) (l seen:List Nat) (c:Nat),c∈seen→c∈reach H n l seen
 |0,l,seen,c,h=>by cases l<;>exact h
 |n+1,[],seen,c,h=>h
 |n+1,d::l,seen,c,h=>by
  unfold reach;split
  ·exact NL H n l seen c h
  ·exact NL H n _ _ c (by simp[h])
def NM(H:aa){c:Nat}(y:Chunk):∀(n:Nat) (l seen:List Nat),c∉reach H n l seen→reach (H.set c y) n l seen=reach H n l seen
 |0,l,seen,_=>by cases l<;>rfl
 |n+1,[],seen,_=>rfl
 |n+1,d::l,seen,h=>by
  unfold reach at h⊢;simp only[jC];split at h
  ·rename_i j;rw[if_pos j,if_pos j];exact NM H y n l seen h
  ·rename_i j;rw[if_neg j,if_neg j];have aM:c≠d:=by rintro rfl;exact h (NL H n _ _ c (by simp))
   rw[dw aM];exact NM H y n _ _ h
def UI{c:Nat}(y:Chunk):∀(aV:List Nat) (xs:List Chunk) (H:aa),c∉aV→ea (H.set c y) aV xs=(ea H aV xs).set c y
 |[],xs,H,_=>by cases xs<;>rfl
 |d::aV,[],H,_=>rfl
 |d::aV,x::xs,H,h=>by simp only[ng,not_or]at h;simp only[ea];rw[nT _ _ h.1,UI y aV xs _ h.2]
def UJ{f:FuncId}{args:List U}{an:aa}{r:U}{c:Nat}(y:Chunk)(h:k9 E aJ f args H=some (r,an))(ag:c∉qC E f args H)(al:c<H.length):
  k9 E aJ f args (H.set c y)=some (r,an.set c y)∧qC E f args (H.set c y)=qC E f args H:=by
 unfold k9 at h;unfold qC at ag⊢;unfold k9;split at h
 ·cases h
 ·rename_i bE H1 au;rw[au]at ag⊢;simp only[fS,not_or]at ag;have hlen:=(Ur au).1;have ml:=aly y au ag.1 al;rw[ml];simp only;rw[NM H1 y 64 _ _ ag.2];refine⟨?_,rfl⟩;simp only at h;have dj:∀d∈reach H1 64 (bx bE) [],c≠d:=λ d aM e=>ag.2 (e▸aM)
  generalize reach H1 64 (bx bE) []=aV at h dj ag⊢;have ao:(aV.map λ d=>(((H1.set c y)[d]?).map (Chunk.cI (bt aV))).getD (.iter [] 0))=aV.map λ d=>((H1[d]?).map (Chunk.cI (bt aV))).getD (.iter [] 0):=
   zn λ d aM=>by rw[dw (dj d aM)]
  rw[ao];split at h
  ·cases h
  ·rename_i ik L e_;split at h
   ·cases h
   ·rename_i xr;simp only[bg,bw]at h;obtain⟨rfl,rfl⟩:=h;simp only[e_,xr,if_false,jC];rw[UI y _ _ _ ag.2,vj _ _ (by rw[xj];omega)]
def alz{f:FuncId}{args:List U}{an:aa}{r:U}{c:Nat}(y:Chunk)(h:gg E aJ f args H=some (r,an))(ag:c∉ji E f args H)(ff:c+kM∉ji E f args H)(al:c<H.length):
  gg E aJ f args (H.set c y)=some (r,an.set c y)∧ji E f args (H.set c y)=ji E f args H:=by
 unfold gg at h⊢;unfold ji at ag ff⊢;cases hm:E.oa f with
 |none=>
  rw[hm]at h ag ff;simp only at h ag ff⊢;cases ah:E.ss f with
  |false=>rw[ah]at h ag;exact UJ y h ag al
  |true=>
   rw[ah]at h ff;simp only at h ff⊢;obtain⟨rfl,av⟩:=EW h;have wY:c∉qC E f args an:=λ gB=>ff (Fa.2 ⟨c,gB,rfl⟩)
   obtain⟨ao,aH⟩:=UJ y av wY al;exact⟨by rw[ao];exact Iz _,by rw[aH]⟩
 |some fn=>
  rw[hm]at h;simp only at h⊢;refine⟨?_,trivial⟩;unfold wM at h⊢;split at h
  ·split at h
   ·rename_i b9;cases h;rw[if_pos b9,jC,vj _ _ al]
   ·cases h
  ·cases h
def UK{x:U}{c:Nat}(y:Chunk)(ag:c∉bc x):hH (H.set c y) x=hH H x:=by
 cases x with
 |ref d g off len=>
  have aM:c≠d:=by simpa[bc]using ag
  simp only[hH,dw aM]
 |i z=>cases z<;>rfl
 |_=>rfl
def alA{x:U}{c:Nat}(y:Chunk)(ag:c∉bc x):kL (H.set c y) x=kL H x:=by
 cases x with
 |i z=>cases z<;>rfl
 |ref d g off len=>exact UK (H:=H) y ag
 |_=>rfl
def alB{t:TypeId}{p v:U}{an:aa}{c:Nat}(y:Chunk)(h:nD E H t p v=some an)(au:c∉bc p)(bh:c∉bc v):nD E (H.set c y) t p v=some (an.set c y):=by
 unfold nD at h⊢;split at h
 ·rename_i n aE;split at h
  ·rename_i j;simp only[j,and_self,if_true];cases p with
   |x q=>exact alq y h (by simpa[bc]using au) bh
   |ptr d g r k=>
    have aM:c≠d:=by simpa[bc]using au
    have p5:c∉bx (cw v):=λ h=>bh (UD h)
    simp only[dw aM]at h⊢;split at h
    ·rename_i he;rw[he];split at h
     ·rename_i I;simp only[bg]at h;subst h;simp only[I,if_true];rw[nT _ _ aM]
     ·cases h
    ·rename_i he;rw[he];split at h
     ·rename_i xs H1 gK;rw[IH y gK p5];simp only[dw aM]at h⊢;split at h
      ·rename_i pe;rw[pe];split at h
       ·rename_i av;split at h
        ·rename_i row bX;simp only[bg]at h;subst h;simp only;rw[if_pos av,bX];simp only;rw[nT _ _ aM]
        ·cases h
       ·cases h
      ·cases h
     ·cases h
    ·cases h
   |_=>cases h
  ·cases h
 ·cases h
def UL{t t2:TypeId}{s x v:U}{an:aa}{c:Nat}(y:Chunk)(h:hz E H t t2 s x=some (v,an))(aR:c∉bc s)(ak:c∉bc x)(al:c<H.length):hz E (H.set c y) t t2 s x=some (v,an.set c y):=by
 unfold hz at h⊢;rw[alA y ak];split at h;rotate_left
 ·cases h
 rename_i e he;split at h;rotate_left
 ·cases h
 rename_i z b dX c_ new M0 bf aj hzero ph;split at h;rotate_left
 ·cases h
 rename_i ag;rw[if_pos ag];cases s with
 |i u=>
  cases u with
  |sl aw rows ex=>
   simp only at h⊢;split at h
   ·rename_i j;simp only[bg,bw]at h;obtain⟨rfl,rfl⟩:=h;rw[if_pos j,jC,vj _ _ al]
   ·cases h
  |_=>cases h
 |ref d g off len=>
  have aM:c≠d:=by simpa[bc]using aR
  simp only[dw aM]at h⊢;split at h
  ·rename_i pe;rw[pe];split at h
   ·rename_i j;simp only[bg,bw]at h;obtain⟨rfl,rfl⟩:=h;simp only;rw[if_pos j,nT _ _ aM]
   ·cases h
  ·rename_i pe;rw[pe];split at h
   ·rename_i j;simp only[bg,bw]at h;obtain⟨rfl,rfl⟩:=h;simp only;rw[if_pos j,jC,vj _ _ al]
   ·cases h
  ·cases h
 |_=>cases h
def alC{t t2:TypeId}{z:Nat}{s x v:U}{an:aa}{c:Nat}(y:Chunk)(h:qy E H t t2 z s x=some (v,an))(aR:c∉bc s)(ak:c∉bc x)(al:c<H.length):qy E (H.set c y) t t2 z s x=some (v,an.set c y):=by
 unfold qy at h⊢;split at h
 ·exact UL y h aR ak al
 ·exact als y h aR ak al
def alD{t:TypeId}{d x v:U}{an:aa}{c:Nat}(y:Chunk)(h:nc E H t d x=some (v,an))(aR:c∉bc d)(ak:c∉bc x):nc E (H.set c y) t d x=some (v,an.set c y):=by
 unfold nc at h⊢;rw[UK y ak];split at h;rotate_left
 ·cases h
 rename_i e he;split at h;rotate_left
 ·cases h
 rename_i z ig g off len c_ new M0 bf EK;split at h;rotate_left
 ·cases h
 rename_i ag;rw[if_pos ag];have aM:c≠ig:=by simpa[bc]using aR
 simp only[dw aM]at h⊢;unfold yD at h⊢;split at h
 ·rename_i pe;rw[pe];split at h
  ·rename_i j;simp only[bg,bw]at h;obtain⟨rfl,rfl⟩:=h;simp only;rw[if_pos j,nT _ _ aM]
  ·cases h
 ·cases h
def UM{t:TypeId}{m k x v:U}{an:aa}{c:Nat}(y:Chunk)(h:mE E H t m k x=some (v,an))(ag:c∉bc m):mE E (H.set c y) t m k x=some (v,an.set c y):=by
 unfold mE at h⊢;split at h
 ·rename_i d;have aM:c≠d:=by simpa[bc]using ag
  simp only[dw aM];unfold sx at h⊢;split at h
  ·rename_i es he;rw[he];simp only;split at h
   ·rename_i iT e cu j;split at h
    ·rename_i I;simp only[c0,bw]at h;obtain⟨hJ,av,rfl,rfl⟩:=h;simp only[j,I,and_self,if_true,av,en,nT _ _ aM]
    ·cases h
   ·cases h
  ·cases h
 ·cases h
def UN{c:Nat}(y:Chunk){br:List (Option Nat)}:∀{hr:List Nat} {H H1:aa} {cs cs':List U},jh br hr H cs=some (cs',H1)→c∉bx cs→jh br hr (H.set c y) cs=some (cs',H1.set c y)
 |[],H,H1,cs,cs',h,ag=>by simp only[jh,bg,bw]at h⊢;obtain⟨rfl,rfl⟩:=h;exact⟨rfl,rfl⟩
 |ac::hr,H,H1,cs,cs',h,ag=>by
  simp only[jh]at h⊢;split at h
  ·rename_i a aA;split at h
   ·rename_i x bu aI;rw[BZ y aI λ h=>ag (lQ.2 ⟨ac,a,aA,h⟩)];exact UN y h λ h=>ag (Ny h)
   ·cases h
  ·cases h
def alE{c:Nat}(y:Chunk){t:TypeId}{H H1:aa}{v v1:U}{hr:List Nat}(h:kj E t H v hr=some (v1,H1))(ag:c∉bc v):kj E t (H.set c y) v hr=some (v1,H1.set c y):=by
 cases hr with
 |nil=>simp only[kj,bg,bw]at h⊢;obtain⟨rfl,rfl⟩:=h;exact⟨rfl,rfl⟩
 |cons ac hr=>
  simp only[kj,uN]at h;split at h
  ·rename_i cs bu aI;simp only[bg,bw]at h;obtain⟨rfl,rfl⟩:=h;simp only[kj,uN,UN y aI (by rw[Us];exact ag)]
  ·cases h
def II{J:Fr}{ai:Op}{v:U}{an:aa}{c:Nat}(y:Chunk)(h:cd E aJ ai J H=some (v,an))(aN:ez E ai=true)(gK:dQ ai=false)(ag:c∉cO E J H ai)(ff:c+kM∉cO E J H ai)(al:c<H.length):
  cd E aJ ai J (H.set c y)=some (v,an.set c y)∧cO E J (H.set c y) ai=cO E J H ai:=by
 cases ai with
 |store t a x=>
  simp only[cO,fS,not_or]at ag;rw[alo]at h⊢;unfold wF at h;split at h
  ·rename_i v1 H1 bf;rw[alE y bf ag.2];simp only[wF,c0,bw]at h⊢;obtain⟨bu,j,rfl,rfl⟩:=h;exact⟨⟨_,alB y j ag.1 (λ h=>ag.2 ((IB bf).2 _ h)),rfl,rfl⟩,rfl⟩
  ·cases h
 |convert s d x=>
  have c6:∀H,cd E aJ (.convert s d x) J H=dc E J H (.convert s d x):=λ H=>by simp only[cd,aN,if_true]
  rw[c6]at h⊢;simp only[dc]at h⊢;split at h
  ·rename_i l ak;split at h
   ·rename_i j;rw[if_pos j];unfold yE at h⊢;split at h
    ·simp only[bg,bw]at h;obtain⟨rfl,rfl⟩:=h;rw[jC,vj _ _ al];exact⟨rfl,rfl⟩
    ·simp only[bg,bw]at h;obtain⟨rfl,rfl⟩:=h;rw[jC,vj _ _ al];exact⟨rfl,rfl⟩
    ·cases h
   ·cases h
  ·cases h
 |slice t x bS ax kI=>
  cases kI with
  |none=>simp[ez]at aN
  |some m=>
   have c6:∀H,cd E aJ (.slice t x bS ax (some m)) J H=dc E J H (.slice t x bS ax (some m)):=λ H=>by simp only[cd,aN,if_true]
   rw[c6]at h⊢;simp only[dc]at h⊢;simp only[cO]at ag;split at h
   ·rename_i z H1 bf;simp only[c0,bw]at h;obtain⟨v1,j,rfl,rfl⟩:=h;rw[BZ y bf ag];simp only[c0,bw];have aR:jT E (H1.set c y) t (.i z) (bS.map (bn E J)) (ax.map (bn E J)) (some (bn E J m))=jT E H1 t (.i z) (bS.map (bn E J)) (ax.map (bn E J)) (some (bn E J m)):=by unfold jT;cases z<;>rfl
    exact⟨⟨v1,by rw[aR];exact j,by simp⟩,by first|rfl|trivial⟩
   ·cases h
 |range t x=>
  have c6:∀H,cd E aJ (.range t x) J H=dc E J H (.range t x):=λ H=>by simp only[cd,aN,if_true]
  rw[c6]at h⊢;simp only[dc]at h⊢;split at h
  ·rename_i l ak;split at h
   ·rename_i j;simp only[bg,bw]at h;obtain⟨rfl,rfl⟩:=h;rw[if_pos j,jC,vj _ _ al];exact⟨rfl,rfl⟩
   ·cases h
  ·cases h
 |makeMap t r=>
  cases r with
  |some r=>simp only[cd,aN,if_true,dc]at h;cases h
  |none=>simp[dQ]at gK
 |mapUpdate t m k x=>
  have c6:∀H,cd E aJ (.mapUpdate t m k x) J H=dc E J H (.mapUpdate t m k x):=λ H=>by simp only[cd,aN,if_true]
  rw[c6]at h⊢;simp only[dc]at h⊢;simp only[cO,fS,not_or]at ag;exact⟨UM y h ag.1,rfl⟩
 |insert t m k x=>
  have c6:∀H,cd E aJ (.insert t m k x) J H=dc E J H (.insert t m k x):=λ H=>by simp only[cd,aN,if_true]
  rw[c6]at h⊢;simp only[dc]at h⊢;simp only[cO,fS,not_or]at ag;exact⟨UM y h ag.1,rfl⟩
 |next it b=>
  have c6:∀H,cd E aJ (.next it b) J H=dc E J H (.next it b):=λ H=>by simp only[cd,aN,if_true]
  rw[c6]at h⊢;simp only[dc]at h⊢;simp only[cO]at ag;split at h
  ·rename_i d g r ak;rw[ak]at ag;have aM:c≠d:=by simpa[bc]using ag
   simp only[dw aM];split at h
   ·rename_i s pos he;rw[he];simp only;split at h
    ·rename_i j;simp only[bg,bw]at h;obtain⟨rfl,rfl⟩:=h;rw[if_pos j,nT _ _ aM];exact⟨rfl,rfl⟩
    ·rename_i j;simp only[bg,bw]at h;obtain⟨rfl,rfl⟩:=h;rw[if_neg j];exact⟨rfl,rfl⟩
   ·cases h
  ·cases h
 |call sS=>
  obtain⟨callee,args,e1⟩:=sS;cases callee with
  |value f=>
   simp only[cd]at h⊢;simp only[cO]at ag ff⊢;split at h
   ·rename_i g bE aP;rw[aP]at ag ff;simp only at ag ff⊢;split at h
    ·rename_i pr;simp only[pr,if_true];exact alz y h ag ff al
    ·cases h
   ·cases h
  |builtin b=>
   cases b with
   |append=>
    have c6:∀H,cd E aJ (.call ⟨.builtin .append,args,e1⟩) J H=dc E J H (.call ⟨.builtin .append,args,e1⟩):=λ H=>rfl
    rw[c6]at h⊢;simp only[dc]at h⊢;simp only[cO]at ag;split at h
    ·rename_i s x t t2 j I;rw[j]at ag;simp only[fh,fm,bx,c8,fS,not_or]at ag;split at h
     ·exact⟨UL y h ag.1 ag.2 al,rfl⟩
     ·exact⟨alC y h ag.1 ag.2 al,rfl⟩
    ·rename_i aj _ _;cases aj
    ·cases h
   |copy=>
    have c6:∀H,cd E aJ (.call ⟨.builtin .copy,args,e1⟩) J H=dc E J H (.call ⟨.builtin .copy,args,e1⟩):=λ H=>rfl
    rw[c6]at h⊢;simp only[dc]at h⊢;simp only[cO]at ag;split at h
    ·rename_i aj _ _;cases aj
    ·rename_i d x t t2 j I;rw[j]at ag;simp only[fh,fm,bx,c8,fS,not_or]at ag;split at h
     ·exact⟨alD y h ag.1 ag.2,rfl⟩
     ·exact⟨alt y h ag.1 ag.2,rfl⟩
    ·cases h
   |_=>simp[ez]at aN
  |_=>simp[ez]at aN
 |alloc|box|buildSlice|makeSlice=>simp[dQ]at gK
 |_=>simp[ez]at aN
def UO:∀{a b:List UInt8},a≠b→qu b a=!qu a b
 |[],[],h=>absurd rfl h
 |[],_::_,_=>rfl
 |_::_,[],_=>rfl
 |a::r,b::t,h=>by
  simp only[qu];by_cases j:a.toNat<b.toNat
  ·rw[if_pos j,if_neg (show¬b.toNat<a.toNat by omega),if_neg (show¬b.toNat=a.toNat by omega)];rfl
  ·by_cases I:b.toNat<a.toNat
   ·rw[if_pos I,if_neg j,if_neg (show¬a.toNat=b.toNat by omega)];rfl
   ·have av:a.toNat=b.toNat:=R;rw[if_neg j,if_neg I,if_pos av,if_pos av.symm];have cS:a=b:=UInt8.toNat_inj.1 av;subst cS;exact UO λ e=>h (by rw[e])
def UP:∀{a b c:List UInt8},qu a b=true→qu b c=true→qu a c=true
 |[],[],_,h,_=>by cases h
 |[],_::_,[],_,h=>by simp[qu]at h
 |[],_::_,_::_,_,_=>rfl
 |_::_,[],_,h,_=>by simp[qu]at h
 |_::_,_::_,[],_,h=>by simp[qu]at h
 |a::r,b::t,c::u,h,k=>by
  simp only[qu]at h k⊢;by_cases j:a.toNat<b.toNat
  ·by_cases bG:b.toNat<c.toNat
   ·rw[if_pos R]
   ·rw[if_neg bG]at k;by_cases bC:b.toNat=c.toNat
    ·rw[if_pos R]
    ·rw[if_neg bC]at k;cases k
  ·rw[if_neg j]at h;by_cases I:a.toNat=b.toNat
   ·rw[if_pos I]at h;by_cases bG:b.toNat<c.toNat
    ·rw[if_pos R]
    ·rw[if_neg bG]at k;by_cases bC:b.toNat=c.toNat
     ·rw[if_pos bC]at k;rw[if_neg R,if_pos R];exact UP h k
     ·rw[if_neg bC]at k;cases k
   ·rw[if_neg I]at h;cases h
def alF{a b:aC}(h:gf a b=some false):(∃k x y,a=.v (.int k x)∧b=.v (.int k y)∧x≠y)∨∃s t,a=.str s∧b=.str t∧s≠t:=by
 unfold gf at h;split at h
 ·split at h
  ·rename_i ay;subst ay;exact .inl ⟨_,_,_,rfl,rfl,of_decide_eq_false (pY h)⟩
  ·cases h
 ·exact .inr ⟨_,_,rfl,rfl,of_decide_eq_false (pY h)⟩
 ·cases h
def NN{a b:aC}(h:nb a b=true):(∃k dx x y,a=.v (.int k x)∧b=.v (.int dx y)∧x<y)∨∃s t,a=.str s∧b=.str t∧qu s t=true:=by
 unfold nb at h;split at h
 ·exact .inl ⟨_,_,_,_,rfl,rfl,of_decide_eq_true h⟩
 ·exact .inr ⟨_,_,rfl,rfl,h⟩
 ·cases h
def UQ{a b:aC}(h:gf a b=some false):nb b a=!nb a b:=by
 rcases alF h with⟨k,x,y,rfl,rfl,aE⟩|⟨s,t,rfl,rfl,aE⟩
 ·simp only[nb];by_cases j:x<y
  ·rw[decide_eq_true j,decide_eq_false R];rfl
  ·rw[decide_eq_false j,decide_eq_true R];rfl
 ·exact UO aE
def UR{a b c:aC}(h:nb a b=true)(k:nb b c=true):nb a c=true:=by
 rcases NN h with⟨bG,bC,x,y,rfl,rfl,aE⟩|⟨s,t,rfl,rfl,aE⟩
 ·rcases NN k with⟨cE,eU,z,u,e,rfl,hm⟩|⟨s,t,e,_,_⟩
  ·cases e;exact decide_eq_true R
  ·cases e
 ·rcases NN k with⟨cE,eU,z,u,e,_,_⟩|⟨s2,t2,e,rfl,hm⟩
  ·cases e
  ·cases e;exact UP aE hm
def US{bG bC:aC}(v1 v2:U)(ay:gf bG bC=some false):∀es:List (aC×U),kJ bC v2 (kJ bG v1 es)=kJ bG v1 (kJ bC v2 es)
 |[]=>by simp only[kJ,UQ ay];cases nb bG bC<;>rfl
 |p::r=>by
  have bp:=UQ ay;cases j:nb bG p.1<;>cases I:nb bC p.1
  ·simp only[kJ,j,I,fF,if_false,US v1 v2 ay r]
  ·have av:nb bG bC=false:=by
    cases h:nb bG bC with
    |false=>rfl
    |true=>rw[UR h I]at j;cases j
   simp only[kJ,j,I,av,fF,if_false,if_true]
  ·have av:nb bC bG=false:=by
    cases h:nb bC bG with
    |false=>rfl
    |true=>rw[UR h j]at I;cases I
   simp only[kJ,j,I,av,fF,if_false,if_true]
  ·simp only[kJ,j,I,if_true];rw[bp];cases nb bG bC<;>simp[j,I]
def NO{bG bC:aC}(v1 v2:U)(ay:gf bC bG=some false):∀es:List (aC×U),kJ bG v1 (jV bC v2 es)=jV bC v2 (kJ bG v1 es)
 |[]=>by simp[kJ,jV,ay]
 |p::r=>by
  simp only[kJ,jV,LV];split
  ·simp[jV,ay]
  ·simp only[jV,NO v1 v2 ay r]
def UT{bG bC:aC}(v1 v2:U)(ay:gf bG bC=some false):∀es:List (aC×U),jV bC v2 (jV bG v1 es)=jV bG v1 (jV bC v2 es)
 |[]=>rfl
 |p::r=>by
  simp only[jV,UT v1 v2 ay r]
  congr 1
  have tz:gf bC bG=some false:=by rw[D'];exact ay
  obtain⟨ac,u⟩:=p;by_cases j:gf bG ac=some true
  ·have ao:=Bb j;subst ao;simp[j,tz]
  ·by_cases I:gf bC ac=some true
   ·simp[j,I,ay]
   ·simp[j,I]
def IJ{k bG:aC}(v1:U)(ay:gf k bG=some false):∀es:List (aC×U),hy k (kJ bG v1 es)=hy k es
 |[]=>by simp[kJ,hy,ay]
 |(ac,u)::r=>by
  simp only[kJ];split
  ·simp[hy,ay]
  ·simp only[hy,IJ v1 ay r]
def Fb{k bG:aC}(v1:U)(ay:gf k bG=some false):∀es:List (aC×U),hy k (jV bG v1 es)=hy k es
 |[]=>rfl
 |(ac,u)::r=>by
  simp only[jV];by_cases j:gf bG ac=some true
  ·have ao:=Bb j;subst ao;simp only[j,if_true,hy,ay,Fb v1 ay r]
  ·simp only[j,if_false,hy,Fb v1 ay r]
def alG{bG bC:aC}{v1 v2:U}{es A C:List (aC×U)}(ay:gf bG bC=some false)(j:ki bG v1 es=some A)(I:ki bC v2 A=some C):∃B,ki bC v2 es=some B∧ki bG v1 B=some C:=by
 have tz:gf bC bG=some false:=by rw[D'];exact ay
 unfold ki at j;split at j
 ·rename_i f1;cases j;unfold ki at I;rw[IJ v1 tz]at I;split at I
  ·rename_i f2;cases I;exact⟨kJ bC v2 es,by unfold ki;rw[f2],by unfold ki;rw[IJ v2 ay,f1,US v1 v2 ay]⟩
  ·rename_i f2;cases I;exact⟨jV bC v2 es,by unfold ki;rw[f2],by unfold ki;rw[Fb v2 ay,f1,NO v1 v2 tz]⟩
  ·cases I
 ·rename_i f1;cases j;unfold ki at I;rw[Fb v1 tz]at I;split at I
  ·rename_i f2;cases I;exact⟨kJ bC v2 es,by unfold ki;rw[f2],by unfold ki;rw[IJ v2 ay,f1,NO v2 v1 ay]⟩
  ·rename_i f2;cases I;exact⟨jV bC v2 es,by unfold ki;rw[f2],by unfold ki;rw[Fb v2 ay,f1,UT v1 v2 ay]⟩
  ·cases I
 ·cases j
def NP{t:TypeId}{m k x v:U}{an:aa}(h:mE E H t m k x=some (v,an)):∃c cu es hJ,m=.dv c∧k=.i cu∧v=.dead∧c<H.length∧H[c]?=some (.map es)∧ki cu x es=some hJ∧an=H.set c (.map hJ)∧
  ∀(bu:aa) (NQ NR:List (aC×U)),bu[c]?=some (.map NQ)→ki cu x NQ=some NR→mE E bu t m k x=some (.dead,bu.set c (.map NR)):=by
 unfold mE at h;split at h
 ·rename_i c;unfold sx at h;split at h
  ·rename_i es aO;split at h
   ·rename_i iT e cu hm;split at h
    ·rename_i ay;simp only[c0,bw]at h;obtain⟨hJ,au,rfl,rfl⟩:=h;refine⟨c,cu,es,hJ,rfl,rfl,rfl,(bF.1 aO).1,aO,au,rfl,λ bu NQ NR j I=>?_⟩;simp only[mE,sx,j,hm,ay,and_self,if_true,I,en]
    ·cases h
   ·cases h
  ·cases h
 ·cases h
def UU{J:Fr}{ai:Op}{v:U}{an:aa}(ax:A_ ai=true)(h:cd E aJ ai J H=some (v,an)):∃c oz,v=.dead∧an=H.set c oz∧(c∈cO E J H ai∧c+kM∈cO E J H ai)∧c<H.length∧
  (∀bu:aa,bu[c]?=H[c]?→cd E aJ ai J bu=some (.dead,bu.set c oz))∧∀bu:aa,cO E J bu ai=cO E J H ai:=by
 have main:∀(t:TypeId) (m k x:Operand),(∀H,cd E aJ ai J H=mE E H t (bn E J m) (bn E J k) (bn E J x))→(∀H:aa,cO E J H ai=bc (bn E J m)++(bc (bn E J m)).map (·+kM))→∃c oz,v=.dead∧an=H.set c oz∧(c∈cO E J H ai∧c+kM∈cO E J H ai)∧c<H.length∧
   (∀bu:aa,bu[c]?=H[c]?→cd E aJ ai J bu=some (.dead,bu.set c oz))∧∀bu:aa,cO E J bu ai=cO E J H ai:=by
  intro t m k x he bp;rw[he]at h;obtain⟨c,cu,es,hJ,ao,aH,rfl,bN,c',mM,rfl,IK⟩:=NP h;exact⟨c,_,rfl,rfl,⟨by rw[bp,ao];simp[bc],by rw[bp,ao];simp[bc]⟩,bN,λ bu I=>by rw[he];exact IK bu es hJ (by rw[I];exact c') mM,λ bu=>by rw[bp,bp]⟩
 cases ai with
 |insert t m k x=>exact main t m k x (λ H=>rfl) λ H=>rfl
 |mapUpdate t m k x=>exact main t m k x (λ H=>rfl) λ H=>rfl
 |_=>simp[A_]at ax
def UW{c:Nat}{b6:Chunk}{L:aa}(h:L[c]?=some b6):L.set c b6=L:=by obtain⟨j,I⟩:=bF.1 h;rw[←I];exact Br j
end
section
variable{E:Env}{aJ:dy}{ops:Array Oper}
noncomputable def jn(E:Env)(aJ:dy)(ops:Array Oper)(c:Nat)(ai:Oper)(J:Fr)(H:aa):Option (U×aa×List Nat):=
 match gm ops.toList J ai with
 |some true=>match jy E aJ c ai.op J H with
  |some (v,an)=>some (v,an,sA E c J H ai.op++lF H.length (an.length-H.length))
  |none=>none
 |some false=>some (.bd [],H,[])
 |none=>none
def alH{c:Nat}{ai:Oper}{r:List Oper}{J:Fr}{H:aa}:iy E aJ ops.toList c (ai::r) J H=match jn E aJ ops c ai J H with
  |some (v,an,T)=>match iy E aJ ops.toList (nd c ai.op) r (dH ai.dst v J) an with
   |some (dE,bu,fD)=>some (dE,bu,T::fD)
   |none=>none
  |none=>none:=by
 simp only[iy,jn];cases gm ops.toList J ai with
 |none=>rfl
 |some b=>
  cases b with
  |false=>rfl
  |true=>cases jy E aJ c ai.op J H<;>rfl
def UX{c:Nat}{J bM:Fr}{H:aa}{op:Op}(h:p_ E J bM op):jy E aJ c op J H=jy E aJ c op bM H:=by unfold jy;rw[Ui h,Nw h]
def UY{c:Nat}{J bM:Fr}{H:aa}{op:Op}(h:p_ E J bM op):sA E c J H op=sA E c bM H op:=by unfold sA;rw[Nx h]
def alI{c:Nat}{J bM:Fr}(h:hR J bM)(ai:Oper)(H:aa):jn E aJ ops c ai J H=jn E aJ ops c ai bM H:=by
 unfold jn;have aA:p_ E J bM ai.op:=λ x _=>Uu h x
 rw[Uv h,UX aA,UY aA]
def sT{c:Nat}{J:Fr}{ai:Oper}{d:Option Nat}{v:U}{H:aa}(h:∀k,d=some k→k∉ai.looksAt ops):jn E aJ ops c ai (dH d v J) H=jn E aJ ops c ai J H:=by unfold jn;rw[Uw h,UX (IC h),UY (IC h)]
def xt{c:Nat}{ai:Oper}{J:Fr}{an:aa}(aP:gm ops.toList J ai=some false):jn E aJ ops c ai J an=some (.bd [],an,[]):=by unfold jn;rw[aP]
def oA{c:Nat}{ai:Oper}(h:dQ ai.op=false)(J:Fr)(H:aa):jn E aJ ops c ai J H=gC E aJ ops ai J H:=by unfold jn gC jy sA;simp only[h]<;>rfl
def NS{c:Nat}{ai:Oper}(h:dQ ai.op=true){J:Fr}{H:aa}(aP:gm ops.toList J ai=some true){v:U}{H1:aa}{T:List Nat}(bh:jn E aJ ops c ai J H=some (v,H1,T)):
  ∃k b6,h0 (dc E J [] ai.op)=some (k,b6)∧H[c]?=some mF∧v=tu c k∧H1=H.set c b6∧T=[c,c+kM]:=by
 unfold jn jy sA at bh;rw[aP,h]at bh;simp only at bh;split at bh
 ·rename_i hb an he;simp only[bg,bw]at bh;obtain⟨rfl,rfl,rfl⟩:=bh;unfold D6 at he;split at he
  ·rename_i aN;split at he
   ·rename_i k b6 aI;simp only[bg,bw]at he;obtain⟨rfl,rfl⟩:=he;exact⟨k,b6,aI,aN,rfl,rfl,by simp⟩
   ·cases he
  ·cases he
 ·cases bh
def B1{c:Nat}{ai:Oper}(h:dQ ai.op=true){J:Fr}{H:aa}(aP:gm ops.toList J ai=some true){k:Option (Option Nat)}{b6:Chunk}(aI:h0 (dc E J [] ai.op)=some (k,b6))(aN:H[c]?=some mF):
  jn E aJ ops c ai J H=some (tu c k,H.set c b6,[c,c+kM]):=by
 unfold jn jy sA;rw[aP,h,aN,aI];simp[D6,mF]
def B2{ai:Op}(h:dQ ai=true):ez E ai=true:=by cases ai<;>first|rfl|simp[dQ]at h
structure UZ (E:Env) (ops:Array Oper) (x y:Oper) (mi mj:List Nat):Prop where
 apart:x.apart ops y=true
 two:ez E x.op=true→ez E y.op=true→dQ x.op=true∨dQ y.op=true∨D7 x.op y.op=true
 float:rJ x.op y.op=false→(ez E x.op=true∧(kN y.op=true∨ez E y.op=true))∨(ez E y.op=true∧(kN x.op=true∨ez E x.op=true))→qD mi mj=true∧qD mj mi=true
def U0{ai:Oper}{J:Fr}{H an:aa}{v:U}{T:List Nat}(aP:gm ops.toList J ai=some true)(h:gC E aJ ops ai J H=some (v,an,T)):cd E aJ ai.op J H=some (v,an)∧T=cO E J H ai.op++lF H.length (an.length-H.length):=by
 unfold gC at h;rw[aP]at h;simp only at h;split at h
 ·rename_i hb nh lS;simp only[bg,bw]at h;obtain⟨rfl,rfl,rfl⟩:=h;exact⟨lS,rfl⟩
 ·cases h
def xu{ai:Oper}{J:Fr}{H an:aa}{v:U}(aP:gm ops.toList J ai=some true)(h:cd E aJ ai.op J H=some (v,an)):gC E aJ ops ai J H=some (v,an,cO E J H ai.op++lF H.length (an.length-H.length)):=by unfold gC;rw[aP,h]
def NT{x y:Op}(h:rJ x y=true):∃t m k a z jo bZ b c_,x=.insert t m (.const (.int k a)) z∧y=.insert jo bZ (.const (.int k b)) c_∧a≠b:=by
 unfold rJ at h;split at h
 ·simp only[cR,decide_eq_true_eq,qW,decide_eq_false_iff_not]at h;obtain⟨rfl,I⟩:=h;exact⟨_,_,_,_,_,_,_,_,_,rfl,rfl,I⟩
 ·cases h
def Fc{x y:Op}(h:dQ x=true∨dQ y=true):rJ x y=false:=by
 cases ay:rJ x y with
 |false=>rfl
 |true=>obtain⟨_,_,_,_,_,_,_,_,_,rfl,rfl,_⟩:=NT ay;rcases h with h|h<;>simp[dQ]at h
def alJ{x y:Oper}{J:Fr}{H H1 bu:aa}{jj kP:U}{mi mj:List Nat}(qX:gm ops.toList J x=some true)(qY:gm ops.toList J y=some true)(ak:gC E aJ ops x J H=some (jj,H1,mi))(aY:gC E aJ ops y J H1=some (kP,bu,mj))
  (vg:ez E x.op=true)(rY:ez E y.op=true)(kT:dQ x.op=false)(kt:dQ y.op=false)(au:D7 x.op y.op=true)(dn:rJ x.op y.op=false→qD mi mj=true∧qD mj mi=true):
  ∃qa,gC E aJ ops y J H=some (kP,qa,mj)∧gC E aJ ops x J qa=some (jj,bu,mi):=by
 have Nz:=BV ak;have NA:=BV aY;obtain⟨ex,rfl⟩:=U0 qX ak;obtain⟨IL,rfl⟩:=U0 qY aY;by_cases ay:rJ x.op y.op=true
 ·obtain⟨t,m,k,a,z,jo,bZ,b,c_,ao,aH,cS⟩:=NT ay;rw[ao]at ex;rw[aH]at IL;have fY:mE E H t (bn E J m) (.i (.v (.int k a))) (bn E J z)=some (jj,H1):=ex;have alK:mE E H1 jo (bn E J bZ) (.i (.v (.int k b))) (bn E J c_)=some (kP,bu):=IL;obtain⟨c,cu,es,hJ,hs,a2,rfl,a3,a4,a5,rfl,U1⟩:=NP fY;obtain⟨d,aQz,eI,zt,fe,dz,rfl,Iv,BM,U2,rfl,U3⟩:=NP alK;cases a2;cases dz;have aR:gf (.v (.int k a)) (.v (.int k b))=some false:=by simp[gf,cS]
  by_cases e2:c=d
  ·subst e2;rw[kl a3]at BM;cases BM;obtain⟨B,oy,qV⟩:=alG aR a5 U2;have al:(H.set c (.map B)).length=H.length:=by simp
   refine⟨H.set c (.map B),?_,?_⟩
   ·have:=xu (aJ:=aJ) qY (show cd E aJ y.op J H=some (.dead,H.set c (.map B))from by rw[aH];exact U3 H es B a4 oy);rw[this,aH];simp[cO]
   ·have:=xu (aJ:=aJ) qX (show cd E aJ x.op J (H.set c (.map B))=some (.dead,(H.set c (.map B)).set c (.map zt))from by rw[ao];exact U1 _ B zt (kl a3) qV);rw[this,ao,uY,uY];simp[cO]
  ·rw[dw e2]at BM;refine⟨H.set d (.map zt),?_,?_⟩
   ·have:=xu (aJ:=aJ) qY (show cd E aJ y.op J H=some (.dead,H.set d (.map zt))from by rw[aH];exact U3 H eI zt BM U2);rw[this,aH];simp[cO]
   ·have:=xu (aJ:=aJ) qX (show cd E aJ x.op J (H.set d (.map zt))=some (.dead,(H.set d (.map zt)).set c (.map hJ))from by rw[ao];exact U1 _ es hJ (by rw[dw (a' e2)];exact a4) a5);rw[this,ao,nT _ _ e2];simp[cO]
 ·have tz:rJ x.op y.op=false:=by simpa using ay
  obtain⟨t1,t2⟩:=dn tz;unfold D7 at au;simp only[tz,xv,w2,cR,qW]at au;rcases au with⟨jv,U4⟩|⟨U4,jv⟩
  ·obtain⟨c,oz,rfl,rfl,⟨b_,NU⟩,ca,c3,fH⟩:=UU jv ex;have hold:H[c]?=some H[c]:=eX ca;have ag:c∉cO E J (H.set c oz) y.op++lF (H.set c oz).length (bu.length-(H.set c oz).length):=p' t1 (fS.2 (.inl b_));have gI:c∉cO E J (H.set c oz) y.op:=λ h=>ag (fS.2 (.inl h))
   have ff:c+kM∉cO E J (H.set c oz) y.op:=λ h=>p' t1 (fS.2 (.inl NU)) (fS.2 (.inl h))
   obtain⟨s1,s2⟩:=II H[c] IL rY kt gI ff (by simpa using ca);have vi:(H.set c oz).set c H[c]=H:=by rw[uY];exact UW hold
   rw[vi]at s1 s2;have U5:bu[c]?=some oz:=by rw[NA.2 c ag,kl ca]
   have hK:c<bu.length:=(bF.1 U5).1;refine⟨bu.set c H[c],?_,?_⟩
   ·rw[xu qY s1,s2];simp
   ·rw[xu qX (c3 (bu.set c H[c]) (by rw[kl hK,hold])),fH (bu.set c H[c]),uY,UW U5];simp
  ·obtain⟨c,oz,rfl,rfl,⟨b_,NU⟩,ca,c3,fH⟩:=UU U4 IL;have ag:c∉cO E J H x.op++lF H.length (H1.length-H.length):=p' t2 (fS.2 (.inl b_));have gI:c∉cO E J H x.op:=λ h=>ag (fS.2 (.inl h))
   have ov:=Nz.2 c ag;have be:c<H.length:=by have j:H1[c]?=some H1[c]:=eX ca;rw[ov]at j;exact(bF.1 j).1
   have ff:c+kM∉cO E J H x.op:=λ h=>p' t2 (fS.2 (.inl NU)) (fS.2 (.inl h))
   obtain⟨s1,s2⟩:=II oz ex vg kT gI ff be;refine⟨H.set c oz,?_,?_⟩
   ·rw[xu qY (c3 H ov.symm),fH H];simp
   ·rw[xu qX s1,s2];simp
def alL{x y:Oper}{pu oB:Nat}{J:Fr}{H H1 bu:aa}{jj kP:U}{mi mj:List Nat}(ak:jn E aJ ops pu x J H=some (jj,H1,mi))(aY:jn E aJ ops oB y (dH x.dst jj J) H1=some (kP,bu,mj))
  (ag:UZ E ops x y mi mj):∃qa,jn E aJ ops oB y J H=some (kP,qa,mj)∧jn E aJ ops pu x (dH y.dst kP J) qa=some (jj,bu,mi)∧hR (dH y.dst kP (dH x.dst jj J)) (dH x.dst jj (dH y.dst kP J)):=by
 obtain⟨hs,a2,a3⟩:=Oper.apart_spec ag.apart;have gK:hR (dH y.dst kP (dH x.dst jj J)) (dH x.dst jj (dH y.dst kP J)):=hR.swap J (λ k ay e=>a2 k e ay) _ _;cases kT:dQ x.op with
 |false=>
  cases kt:dQ y.op with
  |false=>
   rw[oA kT]at ak;rw[oA kt]at aY;by_cases xw:ez E x.op=true∧ez E y.op=true
   ·have alM:D7 x.op y.op=true:=by
     rcases ag.two xw.1 xw.2 with e|e|e
     ·rw[kT]at e;cases e
     ·rw[kt]at e;cases e
     ·exact e
    rw[tR hs]at aY;cases kS:gm ops.toList J x with
    |none=>unfold gC at ak;rw[kS]at ak;cases ak
    |some qX=>
    cases ks:gm ops.toList J y with
    |none=>unfold gC at aY;rw[ks]at aY;cases aY
    |some qY=>
    cases qX with
    |false=>rw[xn (H:=H) kS]at ak;simp only[bg,bw]at ak;obtain⟨rfl,rfl,rfl⟩:=ak;exact⟨bu,by rw[oA kt];exact aY,by rw[oA kT,tR a3];exact xn (H:=H) kS,gK⟩
    |true=>
    cases qY with
    |false=>rw[xn (H:=H) ks]at aY;simp only[bg,bw]at aY;obtain⟨rfl,rfl,rfl⟩:=aY;exact⟨H,by rw[oA kt];exact xn (H:=H) ks,by rw[oA kT,tR a3];exact ak,gK⟩
    |true=>
     obtain⟨qa,j,I⟩:=alJ kS ks ak aY xw.1 xw.2 kT kt alM λ ay=>ag.float ay (.inl ⟨xw.1,.inr xw.2⟩)
     exact⟨qa,by rw[oA kt];exact j,by rw[oA kT,tR a3];exact I,gK⟩
   ·have tT:rJ x.op y.op=false:=by
     cases ay:rJ x.op y.op with
     |false=>rfl
     |true=>obtain⟨_,_,_,_,_,_,_,_,_,ao,aH,_⟩:=NT ay;exact absurd ⟨by rw[ao];rfl,by rw[aH];rfl⟩ xw
    obtain⟨qa,j,I,av⟩:=swap ak aY ⟨ag.apart,xw,λ aI=>ag.float tT (by rcases aI with⟨p,q⟩|⟨p,q⟩<;>simp[p,q])⟩;exact⟨qa,by rw[oA kt];exact j,by rw[oA kT];exact I,av⟩
  |true=>
   rw[sT hs]at aY;cases kS:gm ops.toList J x with
   |none=>unfold jn at ak;rw[kS]at ak;cases ak
   |some qX=>
   cases ks:gm ops.toList J y with
   |none=>unfold jn at aY;rw[ks]at aY;cases aY
   |some qY=>
   cases qX with
   |false=>rw[xt kS]at ak;simp only[bg,bw]at ak;obtain⟨rfl,rfl,rfl⟩:=ak;exact⟨bu,aY,by rw[sT a3];exact xt kS,gK⟩
   |true=>
   cases qY with
   |false=>rw[xt ks]at aY;simp only[bg,bw]at aY;obtain⟨rfl,rfl,rfl⟩:=aY;exact⟨H,xt ks,by rw[sT a3];exact ak,gK⟩
   |true=>
   obtain⟨k,b6,f1,f2,rfl,rfl,rfl⟩:=NS kt ks aY;rw[oA kT]at ak;by_cases vg:ez E x.op=true
   ·have dn:=(ag.float (Fc (.inr kt)) (.inl ⟨vg,.inr (B2 kt)⟩)).2;have zu:oB∉mi:=p' dn (by simp);have Fe:oB+kM∉mi:=p' dn (by simp);have al:=BV ak;have aO:H[oB]?=some mF:=by rw[←al.2 oB zu];exact f2
    have be:oB<H.length:=(bF.1 aO).1;refine⟨H.set oB b6,B1 kt ks f1 aO,?_,gK⟩;rw[sT a3,oA kT];unfold gC at ak⊢;rw[kS]at ak⊢;simp only at ak⊢;split at ak
    ·rename_i hb an lS;simp only[bg,bw]at ak;obtain⟨rfl,rfl,rfl⟩:=ak;simp only[fS,not_or]at zu Fe;obtain⟨ao,aH⟩:=II b6 lS vg kT zu.1 Fe.1 be;rw[ao];simp only[aH,jC]
    ·cases ak
   ·have EZ:ez E x.op=false:=by simpa using vg
    obtain⟨rfl,_⟩:=zo (an:=H) EZ (λ _ _ _=>rfl) ak;refine⟨H1.set oB b6,B1 kt ks f1 f2,?_,gK⟩;rw[sT a3,oA kT];refine(zo (an:=H1.set oB b6) EZ (λ ah c e3=>?_) ak).2;have dn:=(ag.float (Fc (.inr kt)) (.inr ⟨B2 kt,.inl ah⟩)).1;have:c∉[oB,oB+kM]:=p' dn (ID ak kS c e3);rw[dw];rintro rfl;simp at this
 |true=>
  rw[sT hs]at aY;cases kS:gm ops.toList J x with
  |none=>unfold jn at ak;rw[kS]at ak;cases ak
  |some qX=>
  cases ks:gm ops.toList J y with
  |none=>unfold jn at aY;rw[ks]at aY;cases aY
  |some qY=>
  cases qX with
  |false=>rw[xt kS]at ak;simp only[bg,bw]at ak;obtain⟨rfl,rfl,rfl⟩:=ak;exact⟨bu,aY,by rw[sT a3];exact xt kS,gK⟩
  |true=>
  cases qY with
  |false=>rw[xt ks]at aY;simp only[bg,bw]at aY;obtain⟨rfl,rfl,rfl⟩:=aY;exact⟨H,xt ks,by rw[sT a3];exact ak,gK⟩
  |true=>
  obtain⟨aQA,IM,f1,f2,rfl,rfl,rfl⟩:=NS kT kS ak;have U6:pu<H.length:=(bF.1 f2).1;have back:(H.set pu IM).set pu mF=H:=by rw[uY];obtain⟨j,I⟩:=bF.1 f2;rw[←I];exact Br j
  cases kt:dQ y.op with
  |true=>
   obtain⟨aQB,alN,g1,g2,rfl,rfl,rfl⟩:=NS kt ks aY;have dn:=(ag.float (Fc (.inl kT)) (.inl ⟨B2 kT,.inr (B2 kt)⟩)).1;have gh:pu∉[oB,oB+kM]:=p' dn (by simp);have NV:pu≠oB:=λ e=>gh (by simp[e])
   rw[dw NV]at g2;refine⟨H.set oB alN,B1 kt ks g1 g2,?_,gK⟩;rw[sT a3,nT _ _ NV];exact B1 kT kS f1 (by rw[dw (a' NV)];exact f2)
  |false=>
   rw[oA kt]at aY;by_cases rY:ez E y.op=true
   ·have dn:=(ag.float (Fc (.inl kT)) (.inl ⟨B2 kT,.inr rY⟩)).1;have zu:pu∉mj:=p' dn (by simp);have Fe:pu+kM∉mj:=p' dn (by simp);have al:=BV aY;have I:bu[pu]?=some IM:=by rw[al.2 pu zu,kl U6]
    have IN:pu<bu.length:=(bF.1 I).1;refine⟨bu.set pu mF,?_,?_,gK⟩
    ·rw[oA kt];unfold gC at aY⊢;rw[ks]at aY⊢;simp only at aY⊢;split at aY
     ·rename_i hb an lS;simp only[bg,bw]at aY;obtain⟨rfl,rfl,rfl⟩:=aY;simp only[fS,not_or]at zu Fe;obtain⟨ao,aH⟩:=II mF lS rY kt zu.1 Fe.1 (by simpa using U6);rw[back]at ao aH;rw[ao];simp only[aH,jC]
     ·cases aY
    ·rw[sT a3,B1 kT kS f1 (kl IN),uY];obtain⟨av,ba⟩:=bF.1 I;rw[←ba,Br av]
   ·have NB:ez E y.op=false:=by simpa using rY
    have key:kN y.op=true→∀c∈cO E J (H.set pu IM) y.op,H[c]?=(H.set pu IM)[c]?:=by intro ah c e3;have dn:=(ag.float (Fc (.inl kT)) (.inl ⟨B2 kT,.inl ah⟩)).2;have:=p' dn (ID aY ks c e3);rw[dw];rintro rfl;simp at this
    obtain⟨rfl,EB⟩:=zo NB key aY;exact⟨H,by rw[oA kt];exact EB,by rw[sT a3];exact B1 kT kS f1 f2,gK⟩
end
section
variable{E:Env}{aJ:dy}{ops:Array Oper}{eA:Nat→List Nat}{ay:Nat→Nat}
inductive tU (E:Env) (aJ:dy) (ops:Array Oper) (eA:Nat→List Nat) (ay:Nat→Nat):List Nat→Fr→aa→Fr→aa→Prop
 |nil (J:Fr) (H:aa):tU E aJ ops eA ay [] J H J H
 |cons (i:Nat) (l:List Nat) (J:Fr) (H:aa) (ai:Oper) (v:U) (H1:aa) (dE:Fr) (bu:aa) (b9:ops[i]?=some ai) (bh:jn E aJ ops (ay i) ai J H=some (v,H1,eA i)) (h:tU E aJ ops eA ay l (dH ai.dst v J) H1 dE bu):tU E aJ ops eA ay (i::l) J H dE bu
def alO{l:List Nat}{J bM:Fr}{H:aa}{dE:Fr}{bu:aa}(h:tU E aJ ops eA ay l J H dE bu):hR J bM→∃jm,hR dE jm∧tU E aJ ops eA ay l bM H jm bu:=by
 induction h generalizing bM with
 |nil J H=>exact λ he=>⟨bM,he,.nil _ _⟩
 |cons i l J H ai v H1 dE bu b9 bh _ a8=>intro he;obtain⟨jm,j,I⟩:=a8 (he.put ai.dst v);exact⟨jm,j,.cons i l bM H ai v H1 jm bu b9 (by rw[←alI he];exact bh) I⟩
def IP(E:Env)(ops:Array Oper)(eA:Nat→List Nat)(ac i:Nat):Prop:=∀x y,ops[ac]?=some x→ops[i]?=some y→UZ E ops x y (eA ac) (eA i)
def U7:∀{c4 eN:List Nat} {i:Nat} {J:Fr} {H:aa} {dE:Fr} {bu:aa},tU E aJ ops eA ay (c4++i::eN) J H dE bu→(∀ac∈c4,IP E ops eA ac i)→
  ∃ai v H1 jm,ops[i]?=some ai∧jn E aJ ops (ay i) ai J H=some (v,H1,eA i)∧hR dE jm∧tU E aJ ops eA ay (c4++eN) (dH ai.dst v J) H1 jm bu
 |[],eN,i,J,H,dE,bu,h,_=>by
  cases h with
  |cons _ _ _ _ ai v H1 _ _ b9 bh h=>exact⟨ai,v,H1,dE,b9,bh,.refl _,h⟩
 |ac::c4,eN,i,J,H,dE,bu,h,ag=>by
  cases h with
  |cons _ _ _ _ x jj H1 _ _ ak yP h=>obtain⟨ai,v,ox,iI,b9,bh,he,ah⟩:=U7 h (λ k ay=>ag k (by simp[ay]));obtain⟨NC,s1,s2,tO⟩:=alL yP bh (ag ac (by simp) x ai ak b9);obtain⟨E0,c',E1⟩:=alO ah tO;exact⟨ai,v,NC,E0,b9,s1,he.trans c',.cons ac _ _ _ x jj ox E0 bu ak s2 E1⟩
def U8(c:Nat)(ai:Op):nd c ai=c+nd 0 ai:=by unfold nd;cases dQ ai<;>simp
def alP(ai:Oper)(l:List Oper):o6 (ai::l)=nd 0 ai.op+o6 l:=by
 have key:∀(l:List Oper) (c:Nat),l.foldl (λ c ai=>nd c ai.op) c=c+o6 l:=by
  intro l;induction l with
  |nil=>intro c;simp[o6]
  |cons ai l a8=>intro c;simp only[o6,yX]at a8⊢;rw[a8,a8 (nd 0 ai.op),U8 c];omega
 show l.foldl _ _=_;exact key l _
def U9:∀(l:List Oper) (k c:Nat) (J:Fr) (H:aa) (dE:Fr) (bu:aa) (fD:List (List Nat)),iy E aJ ops.toList c l J H=some (dE,bu,fD)→(∀ac,l[ac]?=ops[k+ac]?)→(∀ac,ac<l.length→eA (k+ac)=fD.getD ac [])→
  (∀ac,ac<l.length→ay (k+ac)=c+o6 (l.take ac))→tU E aJ ops eA ay (lF k l.length) J H dE bu
 |[],k,c,J,H,dE,bu,fD,h,_,_,_=>by simp only[iy,bg,bw]at h;obtain⟨rfl,rfl,rfl⟩:=h;exact .nil _ _
 |ai::l,k,c,J,H,dE,bu,fD,h,al,bp,aN=>by
  rw[alH]at h;split at h
  ·rename_i v H1 T bh;split at h
   ·rename_i iI ox ND ah;simp only[bg,bw]at h;obtain⟨rfl,rfl,rfl⟩:=h;have aW:=al 0;simp only[p6,e7]at aW;have E2:=bp 0 (by simp);simp only[e7,BW]at E2;have U_:=aN 0 (by simp);simp only[e7,mQ]at U_;rw[cQ,List.range'_succ];refine .cons k _ J H ai v _ _ _ aW.symm (by rw[E2,U_];exact bh) ?_;refine U9 l (k+1) (nd c ai.op) _ _ _ _ ND ah (λ ac=>by have:=al (ac+1);simpa[tB,qb 1 ac]using this) (λ ac a_=>?_) (λ ac a_=>?_)
    ·have:=bp (ac+1) (by simpa using a_);rw[show k+1+ac=k+(ac+1)by omega,this];simp
    ·have:=aN (ac+1) (by simpa using a_);rw[show k+1+ac=k+(ac+1)by omega,this,vk,alP,U8 c];omega
   ·cases h
  ·cases h
end
section
variable{E:Env}{ad:b'}{ab:b8}{H:aa}{w:World}
def alQ{aJ:dy}(ch:nQ E (gg E aJ)){c:Nat}{J:Fr}{a:Act}{ai:Oper}{v:U}{an:aa}(h:jy E aJ c ai.op J H=some (v,an))(ap:b5 E ad ab H w)(aI:eW ad ab H J a.tmps)
  {K:Act→World→Prop}{Q:Exit→Act→World→Prop}(jl:∀x aq,ci E ad ab H w an aq (λ aL aB=>a6 aL aB an v x)→K (a.put ai.dst x) aq):ai.wp E.P a w K Q:=by
 unfold jy at h;cases cZ:dQ ai.op with
 |false=>rw[cZ]at h;exact No ch h ap aI jl
 |true=>
  rw[cZ]at h;simp only at h;unfold D6 at h;split at h
  ·rename_i aN;split at h
   ·rename_i k b6 ES;simp only[bg,bw]at h;obtain⟨rfl,rfl⟩:=h;obtain⟨v0,Eo,ao,hm⟩:=aln ap aI cZ ES c;obtain⟨tP,x,aq,j,I,av⟩:=TX ao ap aI;have ba:=alf ap aN hm av;unfold Oper.wp;rw[j];cases tP<;>simp only[M']at I<;>first|(cases I;done)|skip
    ·cases I;exact jl _ _ ba
    ·cases I;exact jl _ _ ba
   ·cases h
  ·cases h
def alR{aJ:dy}{c:Nat}{ai:Op}{J:Fr}{H:aa}{r:U×aa}(h:jy E aJ c ai J H=some r):∀c,ai≠.defer c:=by rintro c rfl;simp[jy,dQ,cd,ez,et]at h
def alS(ap:b5 E ad ab H w)(n:Nat):b5 E ad ab (H++cB n mF) w∧e6 ad ab H ad ab (H++cB n mF):=by
 have hm:e6 ad ab H ad ab (H++cB n mF):=mG (λ _ _ h=>h) (by simp) λ c ag=>iX.same (by rw[ei ag]) (λ _=>rfl)
 refine⟨⟨ap.dR,λ c x ak=>?_,ap.inj,λ c b m h=>by have:=ap.sep c b m h;exact⟨this.1,this.2.1,by simp;omega⟩,ap.e4⟩,hm⟩;by_cases ag:c<H.length
 ·rw[ei ag]at ak;exact(ap.b6 c x ak).mono (λ _=>rfl) (λ _ _ h=>h) hm (λ _ _ _ _=>rfl)
 ·rw[hd R]at ak;have alT:=List.eq_of_mem_replicate (kn ak);subst alT;have fy:ab c=none:=by
   cases h:ab c with
   |none=>rfl
   |some p=>have:=ap.Bc (b:=p.1) (n:=p.2) h;omega
  exact⟨λ _=>fy,λ i r h=>by simp at h,.inl ⟨fy,rfl⟩⟩
end
section
variable{E:Env}{aJ:dy}{ops:Array Oper}{eA:Nat→List Nat}{ay:Nat→Nat}{Q:Exit→Act→World→Prop}{ro:Option Nat}{gS:Nat}
theorem NW(ch:nQ E (gg E aJ)){dE:Fr}{bu:aa}(zq:∀ac i,ac<i→i<ops.size→pS (pT ops) ac i=false→IP E ops eA ac i)
  (vi:∀(i:Nat) (ai:Oper),ops[i]?=some ai→∀e∈ai.after,vh .any e=true→e.on<i){hf:Nat}{d0:List Deferred}(pt:BS hf ops.toList):
  ∀(aV:List Nat) (listed:Array Bool) (ad:b') (ab:b8) (J:Fr) (H:aa) (a:Act) (w:World) (dE:Fr),aV.Pairwise (·<·)→(∀i,i∈aV↔i<ops.size∧listed.getD i false=false)→listed.size=ops.size→E3 ops listed→
   tU E aJ ops eA ay aV J H dE bu→b5 E ad ab H w→eW ad ab H J a.tmps→a.tmps.size=hf→a.defers=d0→
   (∀bW aq iI,hR dE iI→bW.defers=d0→bW.tmps.size=hf→ci E ad ab H w bu aq (λ aL aB=>eW aL aB bu iI bW.tmps)→Q .normal bW aq)→wpAnyIn (ps ro) gS E.P .any ops Q aV.length listed a w
 |[],listed,ad,ab,J,H,a,w,dE,au,dj,eu,vb,lI,ap,aI,aE,aM,eT=>by
  refine⟨?_,?_⟩
  ·cases h:E5 .any ops listed with
   |nil=>rfl
   |cons i l=>
    have ax:i∈E5 .any ops listed:=by rw[h];simp
    obtain⟨j,ai,b9,_⟩:=mem_ready.1 ax;have be:=(jY.1 b9).1;have:i∈([]:List Nat):=(dj i).2 ⟨be,by
     rw[di]at j⊢;cases aN:listed[i]? with
     |none=>rfl
     |some b=>rw[aN]at j;simpa using j⟩
    simp at this
  ·cases lI with
   |nil=>exact eT a w J (.refl _) aM aE (ci.refl ap aI)
 |r::aV,listed,ad,ab,J,H,a,w,dE,au,dj,eu,vb,lI,ap,aI,aE,aM,eT=>by
  simp only[cQ];refine⟨λ NG=>?_,λ i ax=>?_⟩
  ·exfalso;have ah:=(dj r).1 (by simp);have iY:ops[r]?=some ops[r]:=qM ah.1;have:r∈E5 .any ops listed:=by
    refine mem_ready.2 ⟨?_,_,iY,λ e he aj=>?_⟩
    ·have:=ah.2;rw[di]at this⊢;rw[qM R]at this⊢;simpa using this
    ·have be:=vi r _ iY e he aj;cases al:listed.getD e.on false with
     |true=>rfl
     |false=>
      have hm:e.on∈r::aV:=(dj e.on).2 ⟨R,al⟩;rcases ng.1 hm with j|j
      ·omega
      ·have:=(uR.1 au).1 _ j;omega
   rw[NG]at this;simp at this
  ·obtain⟨j,ai,b9,zr⟩:=mem_ready.1 ax;have be:=(jY.1 b9).1;have NH:i∈r::aV:=(dj i).2 ⟨be,by
    rw[di]at j⊢;rw[qM R]at j⊢;simpa using j⟩
   obtain⟨c4,eN,q0⟩:=List.append_of_mem NH;rw[q0]at lI au;have q1:=NI.1 au;have BX:∀ac∈c4,IP E ops eA ac i:=by
    intro ac a_;have qN:ac<i:=q1.2.2 ac a_ i (by simp);refine zq ac i qN be ?_;cases aj:pS (pT ops) ac i with
    |false=>rfl
    |true=>have:=UB vb i ai b9 zr ac aj;have jH:=((dj ac).1 (by rw[q0];simp[a_])).2;rw[this]at jH;cases jH
   obtain⟨rI,v,H1,jm,E6,bh,he,E7⟩:=U7 lI BX;rw[b9]at E6;cases E6;have E8:∀k,ai.dst=some k→k<a.tmps.size:=by intro k ay;rw[aE];exact pt ai (by simpa using Array.mem_of_getElem? b9) k ay
   have hlen:aV.length=(c4++eN).length:=by have:=congrArg BY q0;simp at this⊢;omega
   have E9:(c4++eN).Pairwise (·<·):=by rw[NI];exact⟨q1.1,(uR.1 q1.2.1).2,λ x ak y aY=>q1.2.2 x ak y (by simp[aY])⟩
   have NJ:i∉c4++eN:=by
    intro hm;rcases fS.1 hm with hm|hm
    ·have:=q1.2.2 i hm i (by simp);omega
    ·have:=(uR.1 q1.2.1).1 i hm;omega
   have E_:∀k,k∈c4++eN↔k<ops.size∧(listed.setIfInBounds i true).getD k false=false:=by
    intro k;by_cases po:k=i
    ·subst po;refine⟨λ h=>absurd h NJ,λ h=>?_⟩;have I:=h.2;rw[di]at I;simp[eu,be]at I
    ·rw[getD_set_ne false (a' po)];rw[←dj k,q0];simp[po]
   have E':E3 ops (listed.setIfInBounds i true):=by
    intro k p ml ni e o_ aj;by_cases po:k=i
    ·subst po;rw[b9]at ml;cases ml;exact getD_set_true (zr e o_ aj)
    ·rw[getD_set_ne false (a' po)]at ni;exact getD_set_true (vb k p ml ni e o_ aj)
   have yU:(listed.setIfInBounds i true).size=ops.size:=by simpa using eu
   unfold wpOpIn;rw[b9];unfold jn at bh;split at bh
   ·rename_i aP;split at bh
    ·rename_i hb qa lS;simp only[bg,bw]at bh;obtain⟨rfl,rfl,_⟩:=bh;simp only[BR aI aP,if_true];refine Nr (alR lS) (alQ ch lS ap aI λ x f_ ak=>?_);obtain⟨ef,dW,dm,lN,gW,oj⟩:=ak;rw[hlen];refine NW ch (d0:=d0) (hf:=hf) (dE:=jm) zq vi pt (c4++eN) _ ef dW _ _ _ f_ jm E9 E_ yU E' E7 dm ((aI.mono gW).put oj ai.dst E8) (by rw[xm];exact aE) (by rw[put_defers];exact aM) λ bW aq iI zs j5 aR bY=>?_
     obtain⟨eY,ev,bG,bC,cE,eU⟩:=bY;exact eT bW aq iI (he.trans zs) j5 aR ⟨eY,ev,bG,lN.trans bC,gW.trans cE,eU⟩
    ·cases bh
   ·rename_i aP;simp only[bg,bw]at bh;obtain⟨rfl,rfl,_⟩:=bh;simp only[BR aI aP,fF,if_false];refine⟨λ _ _=>trivial,?_⟩;rw[hlen];refine NW ch (d0:=d0) (hf:=hf) (dE:=jm) zq vi pt (c4++eN) _ ad ab _ _ _ w jm E9 E_ yU E' E7 ap (aI.put (LW _ _ _) ai.dst E8) (by rw[xm];exact aE) (by rw[put_defers];exact aM) λ bW aq iI zs j5 aR bY=>?_
    exact eT bW aq iI (he.trans zs) j5 aR bY
   ·cases bh
 termination_by aV=>aV.length
 decreasing_by all_goals (have:=congrArg BY q0;simp at this⊢;omega)
end
section
variable{E:Env}{ad:b'}{ab:b8}{H:aa}{w:World}
def IQ(ap:b5 E ad ab H w)(n:Nat):b5 E ad ab H {w with drawn:=n}:=
 ⟨ap.dR,λ c x h=>by have:=ap.b6 c x h;cases x<;>exact this,ap.inj,ap.sep,ap.e4⟩
def U'{aL:b'}{aB:b8}{aq:World}{n:Nat}(h:Trans ad ab {w with drawn:=n} aL aB aq):Trans ad ab w aL aB aq:=
 ⟨h.os,h.tape,h.output,h.size,h.frame,h.dR,h.qG,h.own⟩
def Va{a b:List Nat}(h:qD a b=true):qD b a=true:=by
 simp only[qD,oo];intro c ag;have:c∉a:=λ aA=>p' h aA ag
 simpa using this
def alU{ops:Array Oper}{fD:List (List Nat)}{q2:List (Nat×Nat)}(aM:A9 E ops=true)(hq:(D5 E ops).all (λ p=>q2.contains p)=true)(ay:q2.all (sz fD)=true):
  ∀ac i,ac<i→i<ops.size→pS (pT ops) ac i=false→IE E ops (λ k=>fD.getD k []) ac i:=by
 intro ac i qN ax aj x y ak aY;unfold A9 at aM;simp only[cR,oo,zv]at aM;have j:=aM.2 i ax ac qN;rw[ak,aY]at j;simp only[aj,IR,cR,qW,NX]at j;refine⟨j.1,λ⟨aA,jk⟩=>?_,λ aI=>?_⟩
 ·rcases j.2 with h|h
  ·rw[aA]at h;cases h
  ·rw[jk]at h;cases h
 ·have hm:(ac,i)∈D5 E ops:=by
   unfold D5;simp only[List.mem_flatMap,zv,List.mem_filterMap];refine⟨i,ax,ac,qN,?_⟩;rw[ak,aY];have:((ez E x.op &&kN y.op)||(ez E y.op &&kN x.op))=true:=by rcases aI with⟨a,b⟩|⟨a,b⟩<;>simp[a,b]
   simp[aj,this]
  have ag:=(oo.1 hq) _ hm;have kR:(ac,i)∈q2:=by simpa using ag
  have:=(oo.1 ay) _ kR;unfold sz at this;exact⟨this,Va this⟩
def alV{ops:Array Oper}(aM:A9 E ops=true):∀(i:Nat) (ai:Oper),ops[i]?=some ai→∀e∈ai.after,vh .any e=true→e.on<i:=by intro i ai b9 e he aj;unfold A9 at aM;simp only[cR,oo,zv]at aM;have j:=aM.1.2 i (jY.1 b9).1;rw[b9]at j;simp only[Array.all_eq_true]at j;obtain⟨k,ay,rfl⟩:=Array.mem_iff_getElem.1 he;have:=j k ay;simpa[aj]using this
def alW{aJ:dy}{ro:Option Nat}{gS:Nat}(ch:nQ E (gg E aJ)){id:Nat}{ops:Array Oper}{J bM:Fr}{an:aa}{fD:List (List Nat)}{a:Act}{Q:Exit→Act→World→Prop}
  (h:hP E aJ ops.toList ops.toList J H=some (bM,an,fD)){q2:List (Nat×Nat)}(ay:q2.all (sz fD)=true)(aM:A9 E ops=true)(hq:(D5 E ops).all (λ p=>q2.contains p)=true)
  (hm:E.P.follows .mixedOrders=true)(ap:b5 E ad ab H w)(aI:eW ad ab H J a.tmps)(pt:BS a.tmps.size ops.toList)
  (eT:∀bW aq iI,hR bM iI→bW.defers=a.defers→bW.tmps.size=a.tmps.size→ci E ad ab H w an aq (λ aL aB=>eW aL aB an iI bW.tmps)→Q .normal bW aq):(Code.region id ops true).wpIn (ps ro) gS E.P Q a w:=by
 refine wpIn_region_any hm ?_;have lI:tS E aJ ops (λ k=>fD.getD k []) (lF 0 ops.toList.length) J H bM an:=
  Uy ops.toList 0 J H bM an fD h (λ ac=>by simp) (λ ac _=>by simp)
 have:=NF ch (ro:=ro) (gS:=gS) (ops:=ops) (Q:=Q) (dE:=bM) (hf:=a.tmps.size) (d0:=a.defers) (alU aM hq ay) (alV aM) pt (lF 0 ops.toList.length) (y_ ops.size false) ad ab J H a {w with drawn:=w.drawn+1} bM
  (List.pairwise_lt_range' ..) (λ i=>by
   simp only[List.mem_range',uW];constructor
   ·rintro⟨k,ay,rfl⟩;refine⟨R,?_⟩;rw[di,NY];split<;>rfl
   ·rintro⟨j,_⟩;exact⟨i,j,R⟩) (by simp) (λ i ai b9 al=>by
   rw[di,NY]at al;split at al<;>simp at al) lI (IQ ap _) aI rfl rfl
   (λ bW aq iI he j5 aR bY=>by
    obtain⟨eY,ev,bG,bC,cE,eU⟩:=bY;exact eT bW aq iI he j5 aR ⟨eY,ev,bG,U' bC,cE,eU⟩)
 simpa using this
def alX{ops:Array Oper}{fD:List (List Nat)}{q2:List (Nat×Nat)}(aM:A' E ops=true)(hq:(D8 E ops).all (λ p=>q2.contains p)=true)(ay:q2.all (sz fD)=true):
  ∀ac i,ac<i→i<ops.size→pS (pT ops) ac i=false→IP E ops (λ k=>fD.getD k []) ac i:=by
 intro ac i qN ax aj x y ak aY;unfold A' at aM;simp only[cR,oo,zv]at aM;have j:=aM.2 i ax ac qN;rw[ak,aY]at j;simp only[aj,IR,cR,w2,qW,NX]at j;refine⟨j.1,λ aA jk=>?_,λ tT aI=>?_⟩
 ·rcases j.2 with((h|h)|h)|h
  ·rcases h with h|h
   ·rw[aA]at h;cases h
   ·rw[jk]at h;cases h
  ·exact .inl h
  ·exact .inr (.inl h)
  ·exact .inr (.inr h)
 ·have hm:(ac,i)∈D8 E ops:=by
   unfold D8;simp only[List.mem_flatMap,zv,List.mem_filterMap];refine⟨i,ax,ac,qN,?_⟩;rw[ak,aY];have:((ez E x.op &&(kN y.op||ez E y.op))||(ez E y.op &&(kN x.op||ez E x.op)))=true:=by rcases aI with⟨a,b|b⟩|⟨a,b|b⟩<;>simp[a,b]
   simp[aj,tT,this]
  have ag:=(oo.1 hq) _ hm;have kR:(ac,i)∈q2:=by simpa using ag
  have:=(oo.1 ay) _ kR;unfold sz at this;exact⟨this,Va this⟩
def alY{ops:Array Oper}(aM:A' E ops=true):∀(i:Nat) (ai:Oper),ops[i]?=some ai→∀e∈ai.after,vh .any e=true→e.on<i:=by intro i ai b9 e he aj;unfold A' at aM;simp only[cR,oo,zv]at aM;have j:=aM.1.2 i (jY.1 b9).1;rw[b9]at j;simp only[Array.all_eq_true]at j;obtain⟨k,ay,rfl⟩:=Array.mem_iff_getElem.1 he;have:=j k ay;simpa[aj]using this
def alZ{aJ:dy}{ro:Option Nat}{gS:Nat}(ch:nQ E (gg E aJ)){id:Nat}{ops:Array Oper}{J bM:Fr}{an:aa}{fD:List (List Nat)}{a:Act}{Q:Exit→Act→World→Prop}
  (h:iy E aJ ops.toList H.length ops.toList J (H++cB (o6 ops.toList) mF)=some (bM,an,fD)){q2:List (Nat×Nat)}(ay:q2.all (sz fD)=true)(aM:A' E ops=true)(hq:(D8 E ops).all (λ p=>q2.contains p)=true)
  (hm:E.P.follows .mixedOrders=true)(ap:b5 E ad ab H w)(aI:eW ad ab H J a.tmps)(pt:BS a.tmps.size ops.toList)
  (eT:∀bW aq iI,hR bM iI→bW.defers=a.defers→bW.tmps.size=a.tmps.size→ci E ad ab H w an aq (λ aL aB=>eW aL aB an iI bW.tmps)→Q .normal bW aq):(Code.region id ops true).wpIn (ps ro) gS E.P Q a w:=by
 refine wpIn_region_any hm ?_;obtain⟨al0,q3⟩:=alS ap (o6 ops.toList);have lI:tU E aJ ops (λ k=>fD.getD k []) (λ i=>H.length+o6 (ops.toList.take i)) (lF 0 ops.toList.length) J (H++cB (o6 ops.toList) mF) bM an:=
  U9 ops.toList 0 _ J _ bM an fD h (λ ac=>by simp) (λ ac _=>by simp) (λ ac _=>by simp)
 have:=NW ch (ro:=ro) (gS:=gS) (ops:=ops) (Q:=Q) (dE:=bM) (hf:=a.tmps.size) (d0:=a.defers) (alX aM hq ay) (alY aM) pt (lF 0 ops.toList.length) (y_ ops.size false) ad ab J _ a {w with drawn:=w.drawn+1} bM
  (List.pairwise_lt_range' ..) (λ i=>by
   simp only[List.mem_range',uW];constructor
   ·rintro⟨k,ay,rfl⟩;refine⟨R,?_⟩;rw[di,NY];split<;>rfl
   ·rintro⟨j,_⟩;exact⟨i,j,R⟩) (by simp) (λ i ai b9 al=>by
   rw[di,NY]at al;split at al<;>simp at al) lI (IQ al0 _) (aI.mono q3) rfl rfl
   (λ bW aq iI he j5 aR bY=>by
    obtain⟨eY,ev,bG,bC,cE,eU⟩:=bY;exact eT bW aq iI he j5 aR ⟨eY,ev,bG,U' bC,q3.trans cE,eU⟩)
 simpa using this
def NZ:eC→Exit
 |.normal=>.normal
 |.exit id=>.exit id
 |.ret=>.ret
def Vb{J bM:Fr}{tmps:Array Value}(he:hR J bM)(h:eW ad ab H bM tmps):eW ad ab H J tmps:=λ k=>by rw[he k];exact h k
def Vc{J:Fr}{a:Act}(ap:b5 E ad ab H w)(aI:eW ad ab H J a.tmps){c:Operand}{b:Bool}(h:bn E J c=.i (.v (.bool b))):a.eval c=.bool b:=by have:=eD ap aI c;rw[h]at this;exact fv this
def zw(B:Nat)(ad:b')(ab:b8)(H:aa)(aL:b')(aB:b8)(an:aa):Prop:=∀a v,(∀d∈bc a,d<B)→a6 ad ab H a v→a6 aL aB an a v
def zw.trans{B:Nat}{ad ab H aL aB an rL rM nh}(h:zw B ad ab H aL aB an)(k:zw B aL aB an rL rM nh):zw B ad ab H rL rM nh:=λ a v aM r=>k a v aM (h a v aM r)
def oC(E:Env)(B:Nat)(ad:b')(ab:b8)(H:aa)(w:World)(an:aa)(aq:World)(Q:b'→b8→Prop):Prop:=
 ∃aL aB,b5 E aL aB an aq∧Trans ad ab w aL aB aq∧zw B ad ab H aL aB an∧Q aL aB
def ci.b{B:Nat}{an:aa}{aq:World}{Q:b'→b8→Prop}(h:ci E ad ab H w an aq Q):oC E B ad ab H w an aq Q:=by obtain⟨aL,aB,j,I,av,ba⟩:=h;exact⟨aL,aB,j,I,λ a v _ r=>av a v r,ba⟩
def cN.Vd(k:cN):k.to k.c=k:=by cases k<;>rfl
def al1{aS:Nat→Option Nat}:(∀a,(∀d∈bc a,aS d=some d)→co aS a=a)∧(∀l,(∀d∈bx l,aS d=some d)→cx aS l=l):=by
 refine⟨λ a=>?_,λ l=>?_⟩
 ·induction a using U.rec (motive_2:=λ l=>(∀d∈bx l,aS d=some d)→cx aS l=l)<;>(try intro h)<;>simp_all [bc,bx,co,cx,cN.Vd]
 ·induction l using U.rec_1 (motive_1:=λ a=>(∀d∈bc a,aS d=some d)→co aS a=a)<;>(try intro h)<;>simp_all [bc,bx,co,cx,cN.Vd]
def al2{B:Nat}(cJ:B≤H.length)(J:Fr):(o7 B J H).Nodup∧∀c∈o7 B J H,c<H.length:=by
 obtain⟨j,I⟩:=BH H 64 (bx (J.map (·.2))++(H.take B).flatMap Chunk.refs) [] (by simp) (by simp);unfold o7;refine⟨List.nodup_append.2 ⟨List.nodup_range,j.filter _,λ a aA b aj=>?_⟩,λ c ag=>?_⟩
 ·simp at aA aj;omega
 ·simp only[fS,zv,Nk]at ag;rcases ag with ag|ag
  ·omega
  ·exact I c ag.1
def Ve(aS:Nat→Option Nat)(k:Nat):∀J:Fr,get k (J.map λ x=>(x.1,co aS x.2))=co aS (get k J)
 |[]=>by simp[get,co]
 |(ac,a)::J=>by
  simp only[fh,get];split
  ·rfl
  ·exact Ve aS k J
def al3(B:Nat){J:Fr}{tmps:Array Value}(ap:b5 E ad ab H w)(aI:eW ad ab H J tmps):
  ∃aB,b5 E ad aB (gc B J H).2 w∧eW ad aB (gc B J H).2 (gc B J H).1 tmps∧(∀c b n,aB c=some (b,n)→∃cl,ab cl=some (b,n))∧zw B ad ab H ad aB (gc B J H).2:=by
 unfold gc;split
 ·rename_i cJ;obtain⟨aE,be⟩:=al2 cJ J;refine⟨nR ab (o7 B J H),T5 ap aE be,λ k=>?_,λ c b n h=>?_,λ a v aM r=>?_⟩
  ·show a6 _ _ _ (get k (J.map λ x=>(x.1,co (bt (o7 B J H)) x.2))) _;rw[Ve];exact vd (ET aE be) (aI k)
  ·unfold nR at h;split at h
   ·exact⟨_,h⟩
   ·cases h
  ·have:=vd (ET (ab:=ab) aE be) r;rw[al1.1 a λ d u7=>zj aE (by
    unfold o7;have:=aM d u7;rw[ei (by simpa using this)];simp[this])]at this
   exact this
 ·exact⟨ab,ap,aI,λ c b n h=>⟨c,h⟩,λ a v _ r=>r⟩
def tV(B:Nat)(H:aa):∀l:List U,ey B H l=l.map (el B H)
 |[]=>by simp[ey]
 |a::l=>by simp[ey,tV B H l]
def vl(B:Nat)(H:aa):∀(l:aa) (k c:Nat),(eJ B H k l)[c]?=(l[c]?).map (dO B H (k+c))
 |[],k,c=>by simp[eJ]
 |x::l,k,0=>by simp[eJ]
 |x::l,k,c+1=>by have:=vl B H l (k+1) c;simp only[eJ,jF,this];rw[show k+1+c=k+(c+1)by omega]
def pw(B:Nat)(H:aa):∀(l:aa) (k:Nat),(eJ B H k l).length=l.length
 |[],k=>rfl
 |x::l,k=>by simp[eJ,pw B H l]
def tW(B:Nat)(H:aa)(c:Nat):(eJ B H 0 H)[c]?=(H[c]?).map (dO B H c):=by rw[vl];simp
def xx{B:Nat}{c aw g:Nat}{rows:List (List aC)}{ex:Bool}(h:(eJ B H 0 H)[c]?=some (.sl aw g rows ex)):
  ∃g0 ii,H[c]?=some (.sl aw g0 rows ii)∧((c<B∧g=g0∧ex=ii)∨(B≤c∧g=0∧ex=false)):=by
 rw[tW]at h;cases aO:H[c]? with
 |none=>rw[aO]at h;cases h
 |some x=>
  rw[aO]at h;cases x with
  |sl qI g0 ha ii=>
   simp only[en,dO,bg]at h;split at h
   ·cases h;exact⟨_,_,rfl,.inl ⟨by assumption,rfl,rfl⟩⟩
   ·cases h;exact⟨_,_,rfl,.inr ⟨R,rfl,rfl⟩⟩
  |az=>simp only[en,dO,bg]at h;split at h<;>cases h
  |_=>simp[dO]at h
def Ff{B:Nat}{c aw g:Nat}{rows:List (List aC)}{ex:Bool}(h:(eJ B H 0 H)[c]?=some (.bj aw g rows ex)):H[c]?=some (.bj aw g rows ex):=by
 rw[tW]at h;cases aO:H[c]? with
 |none=>rw[aO]at h;cases h
 |some x=>
  rw[aO]at h;cases x with
  |sl qI g0 ha ii=>simp only[en,dO,bg]at h;split at h<;>cases h
  |bj=>simpa[dO]using h
  |az=>simp only[en,dO,bg]at h;split at h<;>cases h
  |_=>simp[dO]at h
def N0{B:Nat}{c:Nat}{s:List UInt8}{p:Nat}(h:(eJ B H 0 H)[c]?=some (.iter s p)):H[c]?=some (.iter s p):=by
 rw[tW]at h;cases aO:H[c]? with
 |none=>rw[aO]at h;cases h
 |some x=>
  rw[aO]at h;cases x with
  |sl qI g0 ha ii=>simp only[en,dO,bg]at h;split at h<;>cases h
  |iter=>simpa[dO]using h
  |az=>simp only[en,dO,bg]at h;split at h<;>cases h
  |_=>simp[dO]at h
def Vf(B:Nat)(H:aa):∀es:List (aC×U),uK B H es=es.map λ p=>(p.1,el B H p.2)
 |[]=>rfl
 |p::r=>by simp[uK,Vf B H r]
def al4{B:Nat}{c:Nat}{es:List (aC×U)}(h:(eJ B H 0 H)[c]?=some (.map es)):∃yK,H[c]?=some (.map yK)∧es=uK B H yK:=by
 rw[tW]at h;cases aO:H[c]? with
 |none=>rw[aO]at h;cases h
 |some x=>
  rw[aO]at h;cases x with
  |sl qI g0 ha ii=>simp only[en,dO,bg]at h;split at h<;>cases h
  |map yK=>simp only[en,dO,bg,Chunk.map.injEq]at h;exact⟨_,rfl,h.symm⟩
  |az=>simp only[en,dO,bg]at h;split at h<;>cases h
  |_=>simp[dO]at h
def al5{B:Nat}{c:Nat}{t:Nat}{l:List UInt8}(h:(eJ B H 0 H)[c]?=some (.ju t l)):H[c]?=some (.ju t l):=by
 rw[tW]at h;cases aO:H[c]? with
 |none=>rw[aO]at h;cases h
 |some x=>
  rw[aO]at h;cases x with
  |sl qI g0 ha ii=>simp only[en,dO,bg]at h;split at h<;>cases h
  |ju=>simpa[dO]using h
  |az=>simp only[en,dO,bg]at h;split at h<;>cases h
  |_=>simp[dO]at h
def al6{B:Nat}{c:Nat}{t:Nat}{cells:List U}(h:(eJ B H 0 H)[c]?=some (.cY t cells)):∃pZ,H[c]?=some (.cY t pZ)∧cells=ey B H pZ:=by
 rw[tW]at h;cases aO:H[c]? with
 |none=>rw[aO]at h;cases h
 |some x=>
  rw[aO]at h;cases x with
  |sl qI g0 ha ii=>simp only[en,dO,bg]at h;split at h<;>cases h
  |cY t0 pZ=>simp only[en,dO,bg,Chunk.cY.injEq]at h;obtain⟨rfl,h⟩:=h;exact⟨_,rfl,h.symm⟩
  |az=>simp only[en,dO,bg]at h;split at h<;>cases h
  |_=>simp[dO]at h
def al7{B:Nat}{c aw g:Nat}{rows:List (List aC)}{ex:Bool}(h:(eJ B H 0 H)[c]?=some (.sl aw g rows ex)):∃aU eB fY,H[c]?=some (.sl aw aU eB fY):=by
 rw[tW]at h;cases aO:H[c]? with
 |none=>rw[aO]at h;cases h
 |some x=>
  rw[aO]at h;cases x with
  |sl qI g0 ha ii=>simp only[en,dO,bg]at h;split at h<;>cases h<;>exact⟨_,_,_,rfl⟩
  |az=>simp only[en,dO,bg]at h;split at h<;>cases h
  |_=>simp[dO]at h
def Vg{B:Nat}{c:Nat}{v:Value}(r:a6 ad ab H (.dv c) v):a6 ad ab (eJ B H 0 H) (.dv c) v:=by
 cases r with
 |dv c v ag hm bp hu au bf=>exact .dv _ _ (by rw[pw];exact ag) (λ es h=>by obtain⟨gr,j,_⟩:=al4 h;exact hm _ j) (λ t cells h=>by obtain⟨gr,j,_⟩:=al6 h;exact bp _ _ j) (λ t l h=>hu _ _ (al5 h)) au (λ aw g rows ex h=>by obtain⟨_,_,_,j⟩:=al7 h;exact bf _ _ _ _ j)
def N1{B:Nat}{c:Nat}{cells:List U}(h:(eJ B H 0 H)[c]?=some (.box cells)):∃pZ,H[c]?=some (.box pZ)∧cells=ey B H pZ:=by
 rw[tW]at h;cases aO:H[c]? with
 |none=>rw[aO]at h;cases h
 |some x=>
  rw[aO]at h;cases x with
  |sl qI g0 ha ii=>simp only[en,dO,bg]at h;split at h<;>cases h
  |box pZ=>simp only[en,dO,bg,Chunk.box.injEq]at h;exact⟨_,rfl,h.symm⟩
  |az=>simp only[en,dO,bg]at h;split at h<;>cases h
  |_=>simp[dO]at h
def Vh{B:Nat}{c z g s:Nat}{rows:List bT}(h:(eJ B H 0 H)[c]?=some (.az z g s rows)):
  ∃g0 dh,H[c]?=some (.az z g0 dh rows)∧((c<B∧g=g0∧s=dh)∨(B≤c∧g=0∧s=0)):=by
 rw[tW]at h;cases aO:H[c]? with
 |none=>rw[aO]at h;cases h
 |some x=>
  rw[aO]at h;cases x with
  |az z0 g0 dh ha=>
   simp only[en,dO,bg]at h;split at h
   ·cases h;exact⟨_,_,rfl,.inl ⟨by assumption,rfl,rfl⟩⟩
   ·cases h;exact⟨_,_,rfl,.inr ⟨R,rfl,rfl⟩⟩
  |sl qI g0 ha ii=>simp only[en,dO,bg]at h;split at h<;>cases h
  |_=>simp[dO]at h
def Vi{B c:Nat}{g:Nat}{rows:List (List aC)}(h:(eJ B H 0 H)[c]?=some (.fd g rows)):H[c]?=some (.fd g rows):=by
 rw[vl]at h;cases aO:H[c]? with
 |none=>rw[aO]at h;simp at h
 |some y=>
  rw[aO]at h;cases y with
  |fd=>simpa[dO]using h
  |sl qI g0 ha ii=>simp only[en,dO,bg]at h;split at h<;>cases h
  |az=>simp only[en,dO,bg]at h;split at h<;>cases h
  |_=>simp[dO]at h
def Fg{d:Nat}:∀{l:List U},d∈bx l↔∃a,a∈l∧d∈bc a
 |[]=>by simp[bx]
 |a::l=>by simp[bx,Fg (l:=l)]
def IS{B:Nat}{a:U}{v:Value}(r:a6 ad ab H a v)(aM:∀d∈bc a,d<B):a6 ad ab (eJ B H 0 H) a v:=by
 induction r with
 |dead v=>exact .dead v
 |i x v h=>exact .i x v h
 |agg cells cs al _ a8=>exact .agg cells cs al λ k a aA=>a8 k a aA λ d h=>aM d (Fg.2 ⟨a,kn aA,h⟩)
 |aQ fn a b eI cs al hm _ _ nH nI=>
  exact .aQ fn a b eI cs al hm (λ k x ak=>nH k x ak λ d h=>aM d (fS.2 (.inl (Fg.2 ⟨x,kn ak,h⟩))))
   (λ k x ak=>nI k x ak λ d h=>aM d (fS.2 (.inr (Fg.2 ⟨x,kn ak,h⟩))))
 |bd vs xs al _ a8=>exact .bd vs xs al λ k a aA=>a8 k a aA λ d h=>aM d (Fg.2 ⟨a,kn aA,h⟩)
 |ref c g off len v ag aR aI au aP=>
  have Fh:c<B:=aM c (by simp[bc]);refine .ref _ _ _ _ _ (by rw[pw];exact ag) (λ aw rows ex h=>?_) (λ aw rows ex h=>aI _ _ _ (Ff h)) au (λ aw aU rows ex h=>?_)
  ·obtain⟨g0,ii,j,⟨_,rfl,rfl⟩|⟨I,_⟩⟩:=xx h
   ·exact aR _ _ _ j
   ·omega
  ·obtain⟨g0,ii,j,⟨_,rfl,rfl⟩|⟨I,_⟩⟩:=xx h
   ·exact aP _ _ _ _ j
   ·omega
 |dv c v ag hm bp hu au bf=>exact Vg (.dv c v ag hm bp hu au bf)
 |x k v h aI=>
  have Fh:k.c<B:=aM k.c (by simp[bc]);refine .x _ _ (h.step (by rw[pw];exact cL _) ?_) (aI.to (λ _ _ h=>h) λ g rows e=>Vi e);intro z g s rows aO;obtain⟨g0,dh,j,⟨_,rfl,rfl⟩|⟨I,_⟩⟩:=Vh aO
  ·exact .inl ⟨_,_,j,rfl,rfl,.inr ⟨rfl,λ r bP ah=>⟨bP,ah,rfl,rfl⟩⟩⟩
  ·omega
 |ptr c g r k v ag aj aR aI ax au aP=>
  have Fh:c<B:=aM c (by simp[bc]);refine .ptr _ _ _ _ _ (by rw[pw];exact ag) (λ cells h=>?_) (λ aw rows ex h=>?_) (λ aw rows ex row h=>aI _ _ _ _ (Ff h)) (λ s p h=>ax _ _ (N0 h)) au (λ aw aU rows ex h=>?_)
  ·obtain⟨gr,j,_⟩:=N1 h;exact aj _ j
  ·obtain⟨g0,ii,j,⟨_,rfl,rfl⟩|⟨I,_⟩⟩:=xx h
   ·exact aR _ _ _ j
   ·omega
  ·obtain⟨g0,ii,j,⟨_,rfl,rfl⟩|⟨I,_⟩⟩:=xx h
   ·exact aP _ _ _ _ j
   ·omega
def Fi{B:Nat}{a:U}{v:Value}(r:a6 ad ab H a v):a6 ad ab (eJ B H 0 H) (el B H a) v:=by
 induction r with
 |dead v=>simp only[el];exact .dead v
 |i x v h=>simp only[el];exact .i x v h
 |agg cells cs al _ a8=>
  simp only[el,tV];refine .agg _ _ (by simpa using al) λ k a aA=>?_
  simp only[fw,c0]at aA;obtain⟨b,aj,rfl⟩:=aA;exact a8 k b aj
 |aQ fn a b eI cs al hm _ _ nH nI=>
  simp only[el,tV];refine .aQ _ _ _ _ _ (by simpa using al) (by simpa using hm) (λ k a aA=>?_) (λ k a aA=>?_)
  ·simp only[fw,c0]at aA;obtain⟨b,aj,rfl⟩:=aA;exact nH k b aj
  ·simp only[fw,c0]at aA;obtain⟨b,aj,rfl⟩:=aA;exact nI k b aj
 |bd vs xs al _ a8=>
  simp only[el,tV];refine .bd _ _ (by simpa using al) λ k a aA=>?_
  simp only[fw,c0]at aA;obtain⟨b,aj,rfl⟩:=aA;exact a8 k b aj
 |ref c g off len v ag aR aI au aP=>
  simp only[el];split
  ·exact IS (.ref c g off len v ag aR aI au aP) (by simpa[bc])
  ·rename_i Fh;unfold DZ;split
   ·rename_i aw aU rows ex aO;split
    ·rename_i e;subst e;refine .ref _ _ _ _ _ (by rw[pw];exact ag) (λ h2 c7 hB h=>?_) (λ h2 c7 hB h=>?_) au (λ _ _ _ _ _=>jp _)
     ·obtain⟨g0,ii,j,_⟩:=xx h;rw[aO]at j;cases j;exact aR _ _ _ aO
     ·have:=Ff h;rw[aO]at this;cases this
    ·exact .dead v
   ·rename_i aw aU rows ex aO;split
    ·rename_i e;subst e;exact .i _ _ (aI _ _ _ aO).2
    ·exact .dead v
   ·exact .dead v
 |dv c v ag hm bp hu au bf=>simp only[el];exact Vg (.dv c v ag hm bp hu au bf)
 |x k v h aI=>
  simp only[el];split
  ·exact IS (.x k v h aI) (by simpa[bc])
  ·rename_i Fh;unfold rE;split;rotate_left
   ·rename_i aU rows aO;cases k with
    |d c g ai n=>
     simp only;split
     ·rename_i e;subst e;exact .i _ _ (aI _ _ _ _ _ rfl aO)
     ·exact .dead v
    |_=>exact .dead v
   ·exact .dead v
   rename_i z aU dD rows aO;have back:∀z2 g2 s2 c7,(eJ B H 0 H)[k.c]?=some (.az z2 g2 s2 c7)→z2=z∧g2=0∧s2=0∧c7=rows:=by
    intro z2 g2 s2 c7 I;obtain⟨g0,dh,j,⟨av,_⟩|⟨_,rfl,rfl⟩⟩:=Vh I
    ·omega
    ·rw[aO]at j;cases j;exact⟨rfl,rfl,rfl,rfl⟩
   cases k with
   |d c g ai n=>
    simp only;split
    ·rename_i e;subst e;obtain⟨j,I,av⟩:=h;refine .x _ _ ⟨by rw[pw];exact j,I,λ z2 g2 s2 c7 om=>?_⟩ (λ g2 ca rX gi c7 aH I=>by cases aH;have I:=Vi I;have aO:H[c]?=_:=aO;rw[aO]at I;cases I);obtain⟨rfl,rfl,rfl,rfl⟩:=back _ _ _ _ om;exact⟨cL _,λ _=>(av _ _ _ _ aO).2 rfl⟩
    ·exact .dead v
   |e c g r=>
    simp only;split
    ·rename_i e;subst e;obtain⟨j,I,av⟩:=h;refine .x _ _ ⟨by rw[pw];exact j,I,λ z2 g2 s2 c7 om=>?_⟩ (.ne nofun);obtain⟨rfl,rfl,rfl,rfl⟩:=back _ _ _ _ om;exact⟨cL _,λ _=>(av _ _ _ _ aO).2 rfl⟩
    ·exact .dead v
   |h c g s r=>
    simp only;split
    ·rename_i e;obtain⟨rfl,rfl⟩:=e;obtain⟨j,I,av⟩:=h;refine .x _ _ ⟨by rw[pw];exact j,I,λ z2 g2 s2 c7 om=>?_⟩ (.ne nofun);obtain⟨rfl,rfl,rfl,rfl⟩:=back _ _ _ _ om;exact⟨.inr ⟨rfl,cL _⟩,λ _ _=>(av _ _ _ _ aO).2 rfl rfl⟩
    ·exact .dead v
   |p c g s r i ac=>
    simp only;split
    ·rename_i e;obtain⟨rfl,rfl⟩:=e;obtain⟨j,I,av⟩:=h;refine .x _ _ ⟨by rw[pw];exact j,I,λ z2 g2 s2 c7 om=>?_⟩ (.ne nofun);obtain⟨rfl,rfl,rfl,rfl⟩:=back _ _ _ _ om;exact⟨.inr ⟨rfl,cL _⟩,λ _ _=>(av _ _ _ _ aO).2 rfl rfl⟩
    ·exact .dead v
 |ptr c g r k v ag aj aR aI ax au aP=>
  simp only[el];split
  ·exact IS (.ptr c g r k v ag aj aR aI ax au aP) (by simpa[bc])
  ·rename_i Fh;unfold tp;split
   ·rename_i aw aU rows ex aO;split
    ·rename_i e;subst e;refine .ptr _ _ _ _ _ (by rw[pw];exact ag) (λ cells h=>?_) (λ h2 c7 hB h=>?_) (λ h2 c7 hB row h=>?_) (λ s p h=>?_) au (λ _ _ _ _ _=>jp _)
     ·obtain⟨gr,j,_⟩:=N1 h;rw[aO]at j;cases j
     ·obtain⟨g0,ii,j,_⟩:=xx h;rw[aO]at j;cases j;exact aR _ _ _ aO
     ·have:=Ff h;rw[aO]at this;cases this
     ·have:=N0 h;rw[aO]at this;cases this
    ·exact .dead v
   ·rename_i x gh aO;refine .ptr _ _ _ _ _ (by rw[pw];exact ag) (λ cells h=>?_) (λ h2 c7 hB h=>?_) (λ h2 c7 hB row h=>aI _ _ _ _ (Ff h)) (λ s p h=>ax _ _ (N0 h)) au (λ h2 g2 c7 hB h=>?_)
    ·obtain⟨gr,j,_⟩:=N1 h;exact aj _ j
    ·obtain⟨g0,ii,j,_⟩:=xx h;rw[aO]at j;cases j;exact(gh _ _ _ _ rfl).elim
    ·obtain⟨g0,ii,j,_⟩:=xx h;rw[aO]at j;cases j;exact(gh _ _ _ _ rfl).elim
   ·exact .dead v
def al8(B:Nat)(ap:b5 E ad ab H w):b5 E ad ab (eJ B H 0 H) w:=by
 refine⟨ap.dR,λ c x ak=>?_,ap.inj,λ c b n h=>?_,ap.e4⟩
 ·rw[tW]at ak;simp only[c0]at ak;obtain⟨y,aY,rfl⟩:=ak;have ay:=ap.b6 c y aY;cases y with
  |box cells=>obtain⟨b,cs,elem,bj,j,I,av,ba,bs⟩:=ay;refine⟨b,cs,elem,bj,j,I,av,by rw[tV];simpa using ba,λ k a aA=>?_⟩;rw[tV]at aA;simp only[fw,c0]at aA;obtain⟨b,aj,rfl⟩:=aA;exact Fi (bs k b aj)
  |sl aw g rows ex=>
   simp only[dO];split
   ·exact ay
   ·obtain⟨j,I,av⟩:=ay;refine⟨j,I,?_⟩;rcases av with av|⟨b,cs,elem,bj,ba,bs,dq,gn,gP,gp⟩
    ·exact .inl av
    ·exact .inr ⟨b,cs,elem,bj,ba,bs,dq,gn,(λ h=>by cases h),gp⟩
  |bj=>exact ay
  |iter=>exact ay
  |map es=>obtain⟨b,hl,aJ,j,I,av⟩:=ay;exact⟨b,hl,aJ,j,I,by rw[Vf];exact av.to λ a v r=>Fi r⟩
  |ju=>exact ay
  |gone=>exact ay
  |fd=>exact ay
  |az z g s rows=>simp only[dO];split<;>exact ay
  |cY t cells=>obtain⟨b,cs,j,I,ba,bs⟩:=ay;refine⟨b,cs,j,I,by rw[tV];simpa using ba,λ k a aA=>?_⟩;rw[tV]at aA;simp only[fw,c0]at aA;obtain⟨b,aj,rfl⟩:=aA;exact Fi (bs k b aj)
 ·have:=ap.sep c b n h;exact⟨this.1,this.2.1,by rw[pw];exact this.2.2⟩
def Vj(B:Nat)(k:Nat):∀J:Fr,get k (od B H J)=el B H (get k J)
 |[]=>by simp[get,od,el]
 |(ac,a)::J=>by
  simp only[od,get];split
  ·rfl
  ·exact Vj B k J
def oC.trans{B:Nat}{an nh:aa}{aq qH:World}{Q w6:b'→b8→Prop}(h:oC E B ad ab H w an aq Q)(k:∀aL aB,b5 E aL aB an aq→Q aL aB→oC E B aL aB an aq nh qH w6):oC E B ad ab H w nh qH w6:=by obtain⟨aL,aB,j,I,av,ba⟩:=h;obtain⟨rL,rM,bG,bC,cE,eU⟩:=k aL aB j ba;exact⟨rL,rM,bG,I.trans bC,av.trans cE,eU⟩
def Vk(B:Nat)(ap:b5 E ad ab H w){Q:b'→b8→Prop}(eT:Q ad ab):oC E B ad ab H w (eJ B H 0 H) w Q:=
 ⟨ad,ab,al8 B ap,Trans.refl _ _ _,λ a v aM r=>IS r aM,eT⟩
def al9(B:Nat){J:Fr}{tmps:Array Value}(ap:b5 E ad ab H w)(aI:eW ad ab H J tmps):
  oC E B ad ab H w (o8 B J H).2 w λ aL aB=>eW aL aB (o8 B J H).2 (o8 B J H).1 tmps:=by
 unfold o8;refine(Vk B ap (Q:=λ aL aB=>eW aL aB (eJ B H 0 H) (od B H J) tmps) λ k=>by rw[Vj];exact Fi (aI k)).trans λ ef dW dm zc=>?_
 obtain⟨aB,ou,IT,al_,mO⟩:=al3 B dm zc;exact⟨ef,aB,ou,⟨rfl,rfl,rfl,cL _,λ _ _ _=>rfl,λ _ _ h=>h,λ _ h=>.inl h,λ c b n h=>by obtain⟨cl,h1⟩:=al_ c b n h;exact .inr ⟨cl,n,h1⟩⟩,mO,IT⟩
def Vl{tmps:Array Value}:∀(l:List (Nat×Nat)) {ad:b'} {ab:b8} {H:aa} {J:Fr},b5 E ad ab H w→eW ad ab H J tmps→ci E ad ab H w (rD l J H).2 w λ aL aB=>eW aL aB (rD l J H).2 (rD l J H).1 tmps
 |[],ad,ab,H,J,ap,aI=>ci.refl ap aI
 |(k,z)::l,ad,ab,H,J,ap,aI=>by
  simp only[rD];refine(Ng ap z (aI k)).trans λ ef dW dm _ hm ak=>?_
  exact Vl l dm λ ac=>by
   simp only[get];split
   ·rename_i e;subst e;exact ak
   ·exact hm _ _ (aI ac)
def al'(ap:b5 E ad ab H w)(ac z c:Nat):ci E ad ab H w (A3 ac z c H H[c]?) w λ _ _=>True:=by
 unfold A3;split
 ·rename_i cells ag;split
  ·rename_i a aA;obtain⟨b,cs,elem,bj,ao,aH,bN,c',mM⟩:=ap.b6 _ _ ag;have ch:=(bF.1 ag).1;refine(Ng ap z (mM ac a aA)).trans λ ef dW dm cc hm ak=>?_
   have gI:(iU z H a).2[c]?=some (.box cells):=by obtain⟨x,ak⟩:=Uo z H a;rw[ak,ei ch];exact ag
   obtain⟨bR,cs',ama,Vm,f1,f2,f3,f4,f5⟩:=dm.b6 _ _ gI;have eS:cs'=cs:=by
    have j:a6 ef dW (iU z H a).2 (.ptr c 0 0 0) (.pointer (some ⟨b,0,none⟩)):=hm _ _ (.ptr c 0 0 0 _ ch (λ _ _=>⟨b,_,ao,rfl⟩) (λ _ _ _ h=>by rw[ag]at h;cases h) (λ _ _ _ _ h=>by rw[ag]at h;cases h) (λ _ _ h=>by rw[ag]at h;cases h) ⟨_,rfl⟩ (λ _ _ _ _ h=>by rw[ag]at h;cases h));cases j with
    |ptr _ _ _ _ _ _ aj=>obtain⟨dz,gi,g1,g2⟩:=aj _ gI;rw[f1]at g1;cases g1;cases g2;rw[aH]at f2;cases f2;rfl
   subst eS;refine wrote dm f1 gI (λ _ _=>rfl) rfl rfl rfl rfl ?_ (λ gB=>?_) (λ _=>trivial)
   ·intro y aY;rcases fx aY with⟨_,rfl⟩|⟨e,_⟩
    ·exact .inl ⟨cells,gI,rfl⟩
    ·exact absurd rfl e
   ·refine⟨bR,cs',ama,Vm,f1,f2,f3,by simpa using f4,λ k x ay=>?_⟩;by_cases BK:ac=k
    ·subst BK;have jH:=(bF.1 aA).1;rw[kl jH]at ay;cases ay;exact gB _ _ ak
    ·rw[dw BK]at ay;exact gB _ _ (f5 k x ay)
  ·exact ci.refl ap trivial
 ·exact ci.refl ap trivial
def Vn{tmps:Array Value}{J:Fr}:∀(l:List (Nat×Nat×Nat)) {ad:b'} {ab:b8} {H:aa},b5 E ad ab H w→eW ad ab H J tmps→ci E ad ab H w (uJ l J H) w λ aL aB=>eW aL aB (uJ l J H) J tmps
 |[],ad,ab,H,ap,aI=>ci.refl ap aI
 |(k,ac,z)::l,ad,ab,H,ap,aI=>by
  have j:ci E ad ab H w (DY ac z H (get k J)) w λ _ _=>True:=by
   unfold DY;split
   ·exact al' ap _ _ _
   ·exact ci.refl ap trivial
  simp only[uJ];exact j.trans λ ef dW dm _ hm _=>Vn l dm λ k=>hm _ _ (aI k)
def N2{tmps:Array Value}:∀(l:List (Nat×Nat)) {ad:b'} {ab:b8} {H:aa} {J:Fr},b5 E ad ab H w→eW ad ab H J tmps→ci E ad ab H w (qw l J H).2 w λ aL aB=>eW aL aB (qw l J H).2 (qw l J H).1 tmps
 |[],ad,ab,H,J,ap,aI=>ci.refl ap aI
 |(k,z)::l,ad,ab,H,J,ap,aI=>by
  simp only[qw];cases bf:freeze H (get k J)with
  |none=>simp only[yB];exact N2 l ap aI
  |some p=>
   obtain⟨x,H1⟩:=p;simp only[yB];refine(yZ ap (aI k) bf).trans λ ef dW dm _ hm ak=>?_
   exact N2 l dm λ ac=>by
    simp only[get];split
    ·rename_i e;subst e;exact .i _ _ (y1 ak)
    ·exact hm _ _ (aI ac)
def amb(B:Nat){f:FuncId}{id:Nat}{J:Fr}{tmps:Array Value}(ap:b5 E ad ab H w)(aI:eW ad ab H J tmps):
  oC E B ad ab H w (oe E B f id J H).2 w λ aL aB=>eW aL aB (oe E B f id J H).2 (oe E B f id J H).1 tmps:=by
 unfold oe;simp only;refine(Vl (E.wx f id) ap aI).b.trans λ ef dW dm zc=>?_
 refine(Vn (E.wy f id) dm zc).b.trans λ eY ev tH Bv=>?_
 refine(N2 (E.wz f id) tH Bv).b.trans λ jD jE amc amd=>?_
 exact al9 B amc (amd.Hs _)
def Vo{f:FuncId}{B:Nat}(ap:b5 E ad ab H w){vs bE:List U}{an:aa}(h:pV E f B H vs=some (bE,an))(g:Nat→Value)(r:∀(k:Nat) (a:U),vs[k]?=some a→a6 ad ab H a (g k)):
  oC E B ad ab H w an w λ aL aB=>bE.length=vs.length∧∀(k:Nat) (a:U),bE[k]?=some a→a6 aL aB an a (g k):=by
 have fin:∀{ef dW H1 B3},b5 E ef dW H1 w→(B3.length=vs.length∧∀(k:Nat) (a:U),B3[k]?=some a→a6 ef dW H1 a (g k))→
   oC E B ef dW H1 w (eJ B H1 0 H1) w λ aL aB=>(ey B H1 B3).length=vs.length∧∀(k:Nat) (a:U),(ey B H1 B3)[k]?=some a→a6 aL aB (eJ B H1 0 H1) a (g k):=by
  intro ef dW H1 B3 dm bm;refine Vk B dm ⟨by rw[tV];simpa using bm.1,λ k a aA=>?_⟩;rw[tV]at aA;simp only[fw,c0]at aA;obtain⟨b,aj,rfl⟩:=aA;exact Fi (bm.2 k b aj)
 unfold pV at h;split at h
 ·simp only[bg,bw]at h;obtain⟨rfl,rfl⟩:=h;exact(Nh (E.lA f) vs ap g r).b.trans λ ef dW dm bm=>fin dm bm
 ·split at h
  ·rename_i B3 H1 au;simp only[bg,bw]at h;obtain⟨rfl,rfl⟩:=h;exact(BI ap g au r).b.trans λ ef dW dm bm=>fin dm ⟨by rw[Nd];exact bm.1,Nf _ _ g bm.2⟩
  ·cases h
def ame{f:FuncId}{B:Nat}(ap:b5 E ad ab H w){ik r:U}{v:Value}{an:aa}(h:qE E f B H ik=some (r,an))(iZ:a6 ad ab H ik v):oC E B ad ab H w an w λ aL aB=>a6 aL aB an r v:=by
 have single:∀a,tv (pV E f B H [a])=some (r,an)→a6 ad ab H a v→oC E B ad ab H w an w λ aL aB=>a6 aL aB an r v:=by
  intro a h e8;unfold tv at h;split at h
  ·rename_i hs H1 ah;simp only[bg,bw]at h;obtain⟨rfl,rfl⟩:=h;obtain⟨ef,dW,bG,bC,cE,eU⟩:=Vo ap ah (λ _=>v) (λ k b aj=>by
    cases k with
    |zero=>simp at aj;subst aj;exact e8
    |succ k=>simp at aj)
   exact⟨ef,dW,bG,bC,cE,eU.2 0 _ rfl⟩
  ·cases h
 cases ik with
 |bd vs=>
  simp only[qE,Hq]at h;split at h
  ·rename_i bE H1 ah;simp only[bg,bw]at h;obtain⟨rfl,rfl⟩:=h;cases iZ with
   |bd _ xs al ak=>obtain⟨ef,dW,bG,bC,cE,eU⟩:=Vo ap ah (λ k=>xs.getD k undef) ak;exact⟨ef,dW,bG,bC,cE,.bd _ _ (by rw[eU.1];exact al) eU.2⟩
  ·cases h
 |dead=>exact single _ h iZ
 |i=>exact single _ h iZ
 |agg=>exact single _ h iZ
 |ref=>exact single _ h iZ
 |ptr=>exact single _ h iZ
 |dv=>exact single _ h iZ
 |x=>exact single _ h iZ
 |aQ=>exact single _ h iZ
def sU(D:Nat):Deferred:={target:=.collected D,args:=#[]}
def rZ(ad:b')(ab:b8)(b:Nat):Prop:=ad b=none∧∀c n,ab c≠some (b,n)
def ll(cT:Nat)(ad:b')(ab:b8)(w:World)(cK:List Deferred):Prop:=∃lT:List Nat,cK=lT.map sU∧lT.Nodup∧∀D∈lT,cT≤D∧w.heap[D]?=some (.deferred (some []))∧rZ ad ab D
def oD{w:World}{b:Nat}{ai:Obj}(h:w.heap[b]?=some ai):b<w.heap.size:=(jY.1 h).1
def N3{aL aB aq}{b:Nat}(h:rZ ad ab b)(aj:b<w.heap.size)(T:Trans ad ab w aL aB aq):rZ aL aB b:=by
 refine⟨?_,λ c n e=>?_⟩
 ·cases ax:aL b with
  |none=>rfl
  |some ai=>
   rcases T.qG b (by rw[ax];simp)with j|j|⟨c,n,j⟩
   ·exact absurd h.1 j
   ·omega
   ·exact absurd j (h.2 c n)
 ·rcases T.own c b n e with j|⟨cl,dP,j⟩
  ·omega
  ·exact h.2 _ _ j
def IU{aL aB aq}{b:Nat}{ai:Obj}(h:rZ ad ab b)(aj:w.heap[b]?=some ai)(T:Trans ad ab w aL aB aq):aq.heap[b]?=some ai:=(T.frame b (oD aj) h.2).trans aj
def Fj{aL aB aq}{cT:Nat}{cK:List Deferred}(h:ll cT ad ab w cK)(T:Trans ad ab w aL aB aq):ll cT aL aB aq cK:=by obtain⟨lT,j,I,av⟩:=h;refine⟨lT,j,I,λ D lK=>?_⟩;obtain⟨bG,bC,cE⟩:=av D lK;exact⟨bG,IU cE bC T,N3 cE (oD bC) T⟩
def Vp(cT:Nat)(ad:b')(ab:b8)(w:World):ll cT ad ab w []:=⟨[],rfl,List.nodup_nil,λ _ h=>by cases h⟩
def zx{cT:Nat}{cK:List Deferred}{l:Nat}{r:Loop}(h:ll cT ad ab w cK)(al:w.heap[l]?=some (.loop r))(ai:Obj):ll cT ad ab (w.putObj l ai) cK:=by obtain⟨lT,j,I,av⟩:=h;refine⟨lT,j,I,λ D lK=>?_⟩;obtain⟨bG,bC,cE⟩:=av D lK;exact⟨bG,(Fk (by rintro rfl;rw[al]at bC;cases bC)).trans bC,cE⟩
def ci.zy{B cT:Nat}{an:aa}{aq:World}{Q:b'→b8→Prop}{a bW:Act}(i_:ll cT ad ab w a.defers)(j5:bW.defers=a.defers)(h:ci E ad ab H w an aq Q):
  oC E B ad ab H w an aq λ aL aB=>Q aL aB∧ll cT aL aB aq bW.defers:=by
 obtain⟨aL,aB,j,I,av,ba⟩:=h;exact⟨aL,aB,j,I,λ a v _ r=>av a v r,ba,by rw[j5];exact Fj i_ I⟩
def amf{l c:Nat}{ai:Obj}{x:Chunk}(al:∀c n,ab c≠some (l,n))(h:oh ad ab H w c x):oh ad ab H (w.putObj l ai) c x:=by
 have key:∀b n,ab c=some (b,n)→(w.putObj l ai).heap[b]?=w.heap[b]?:=λ b n e=>Fk (by rintro rfl;exact al _ _ e)
 cases x with
 |box cells=>obtain⟨b,cs,elem,bj,j,I,av⟩:=h;exact⟨b,cs,elem,bj,j,(key _ _ j).trans I,av⟩
 |sl aw g rows ex=>
  obtain⟨j,I,av⟩:=h;refine⟨j,I,?_⟩;rcases av with av|⟨b,cs,elem,bj,ba,bs,dq⟩
  ·exact .inl av
  ·exact .inr ⟨b,cs,elem,bj,ba,(key _ _ ba).trans bs,dq⟩
 |bj=>exact h
 |iter s p=>obtain⟨b,j,I⟩:=h;exact⟨b,j,(key _ _ j).trans I⟩
 |map es=>obtain⟨b,hl,aJ,j,I,av⟩:=h;exact⟨b,hl,aJ,j,(key _ _ j).trans I,av⟩
 |cY t cells=>obtain⟨b,cs,j,I,av⟩:=h;exact⟨b,cs,j,(key _ _ j).trans I,av⟩
 |ju t l=>obtain⟨b,cs,j,I,av⟩:=h;exact⟨b,cs,j,(key _ _ j).trans I,av⟩
 |gone=>exact h
 |fd=>exact h
 |az z g s rows=>
  rcases h with av|⟨b,cs,elem,bj,ba,bs,dq,gn,gP⟩
  ·exact .inl av
  ·exact .inr ⟨b,cs,elem,bj,ba,(key _ _ ba).trans bs,dq,gn,λ r y aY=>(gP r y aY).mono rfl (λ _ _ h=>h) λ b n e=>Fk (by rintro rfl;exact al _ _ e)⟩
def zz{l:Nat}{ai:Obj}(ap:b5 E ad ab H w)(al:rZ ad ab l):b5 E ad ab H (w.putObj l ai):=
 ⟨λ b rI h=>(Fk (by rintro rfl;rw[al.1]at h;cases h)).trans (ap.dR b rI h),λ c x h=>amf al.2 (ap.b6 c x h),ap.inj,
  λ c b n h=>by have:=ap.sep c b n h;exact⟨this.1,by rw[World.putObj_size];exact this.2.1,this.2.2⟩,ap.e4⟩
def zA{r0:b'}{r1:b8}{lm:World}{l:Nat}{ai:Obj}(T:Trans r0 r1 lm ad ab w)(al:lm.heap.size≤l):Trans r0 r1 lm ad ab (w.putObj l ai):=
 ⟨T.os,T.tape,T.output,by rw[World.putObj_size];exact T.size,λ b aj aE=>(Fk R).trans (T.frame b aj aE),T.dR,T.qG,T.own⟩
def amg{c:Nat}{ai:Obj}{x:Chunk}(h:oh ad ab H w c x):oh ad ab H (w.alloc ai) c x:=by
 have key:∀{b:Nat} {rI:Obj},w.heap[b]?=some rI→(w.alloc ai).heap[b]?=some rI:=λ h=>(zB w ai _ (oD h)).trans h
 cases x with
 |box cells=>obtain⟨b,cs,elem,bj,j,I,av⟩:=h;exact⟨b,cs,elem,bj,j,key I,av⟩
 |sl aw g rows ex=>
  obtain⟨j,I,av⟩:=h;refine⟨j,I,?_⟩;rcases av with av|⟨b,cs,elem,bj,ba,bs,dq⟩
  ·exact .inl av
  ·exact .inr ⟨b,cs,elem,bj,ba,key bs,dq⟩
 |bj=>exact h
 |iter s p=>obtain⟨b,j,I⟩:=h;exact⟨b,j,key I⟩
 |map es=>obtain⟨b,hl,aJ,j,I,av⟩:=h;exact⟨b,hl,aJ,j,key I,av⟩
 |cY t cells=>obtain⟨b,cs,j,I,av⟩:=h;exact⟨b,cs,j,key I,av⟩
 |ju t l=>obtain⟨b,cs,j,I,av⟩:=h;exact⟨b,cs,j,key I,av⟩
 |gone=>exact h
 |fd=>exact h
 |az z g s rows=>
  rcases h with av|⟨b,cs,elem,bj,ba,bs,dq,gn,gP⟩
  ·exact .inl av
  ·refine .inr ⟨b,cs,elem,bj,ba,key bs,dq,gn,λ r y aY=>?_⟩;have:=gP r y aY;cases y with
   |own bP=>
    obtain⟨bG,bC⟩:=this;refine⟨bG,?_⟩;rcases bC with bC|⟨b,wS,zd,bj,cm,cy,fc,iW⟩
    ·exact .inl bC
    ·exact .inr ⟨b,wS,zd,bj,cm,cy,key fc,iW⟩
   |dK q=>exact this
   |dead=>exact this
def Vq{ai:Obj}(ap:b5 E ad ab H w):b5 E ad ab H (w.alloc ai):=
 ⟨λ b rI h=>(zB w ai _ (oD (ap.dR b rI h))).trans (ap.dR b rI h),λ c x h=>amg (ap.b6 c x h),ap.inj,
  λ c b n h=>by have:=ap.sep c b n h;exact⟨this.1,by rw[N4];omega,this.2.2⟩,ap.e4⟩
def Vr{r0:b'}{r1:b8}{lm:World}{ai:Obj}(T:Trans r0 r1 lm ad ab w):Trans r0 r1 lm ad ab (w.alloc ai):=
 ⟨T.os,T.tape,T.output,by rw[N4];have:=T.size;omega,λ b aj aE=>(zB w ai b (by have:=T.size;omega)).trans (T.frame b aj aE),T.dR,T.qG,T.own⟩
def Vs{cT:Nat}{cK:List Deferred}{ai:Obj}(h:ll cT ad ab w cK):ll cT ad ab (w.alloc ai) cK:=by obtain⟨lT,j,I,av⟩:=h;refine⟨lT,j,I,λ D lK=>?_⟩;obtain⟨bG,bC,cE⟩:=av D lK;exact⟨bG,(zB w ai _ (oD bC)).trans bC,cE⟩
def Vt{fI:World}(ap:b5 E ad ab H w)(aj:IV w.heap.size w fI):b5 E ad ab H fI:=by
 have hold:=aj.block;refine⟨λ b ai h=>?_,λ c x ak=>(ap.b6 c x ak).mono (λ _=>rfl) (λ _ _ h=>h) (e6.refl _ _ _) λ r b n h=>hold b (ap.sep _ _ _ h).2.1,ap.inj,λ c b n h=>?_,ap.e4⟩
 ·have:=ap.dR b ai h;rw[hold b (oD this)];exact this
 ·obtain⟨j,I,av⟩:=ap.sep _ _ _ h;exact⟨j,wO I aj.size,av⟩
def Vu{r0:b'}{r1:b8}{lm fI:World}(T:Trans r0 r1 lm ad ab w)(aj:IV w.heap.size w fI):Trans r0 r1 lm ad ab fI:=
 ⟨aj.os.trans T.os,aj.tape.trans T.tape,aj.output.trans T.output,rN T.size aj.size,λ b jk aE=>(aj.block b (by have:=T.size;omega)).trans (T.frame b jk aE),T.dR,T.qG,T.own⟩
def Vv{cT:Nat}{cK:List Deferred}{fI:World}(h:ll cT ad ab w cK)(aj:IV w.heap.size w fI):ll cT ad ab fI cK:=by obtain⟨lT,j,I,av⟩:=h;refine⟨lT,j,I,λ D lK=>?_⟩;obtain⟨bG,bC,cE⟩:=av D lK;exact⟨bG,(aj.block _ (oD bC)).trans bC,cE⟩
def Vw(ap:b5 E ad ab H w){b:Nat}(aj:w.heap.size≤b):rZ ad ab b:=by
 refine⟨?_,λ c n e=>?_⟩
 ·cases ax:ad b with
  |none=>rfl
  |some ai=>have:=oD (ap.dR b ai ax);omega
 ·have:=(ap.sep c b n e).2.1;omega
def Vx{r0:b'}{r1:b8}{lm:World}{gS:Nat}{fn:Func}{tmps:Array Value}{aV:Ending→World→Prop}:∀(lT:List Nat) (w:World),b5 E ad ab H w→Trans r0 r1 lm ad ab w→lT.Nodup→
  (∀D∈lT,lm.heap.size≤D∧w.heap[D]?=some (.deferred (some []))∧rZ ad ab D)→
  (∀aq,b5 E ad ab H aq→Trans r0 r1 lm ad ab aq→∃v,(results fn tmps).run E.P aq=.ok v aq∧aV (.returned v) aq)→LeavesInM (ps none) gS E.P fn tmps aV (lT.map sU) .returning w
 |[],w,ap,T,_,_,dj=>dj w ap T
 |D::lT,w,ap,T,aE,lK,dj=>by obtain⟨bG,bC,cE⟩:=lK D (.head _);have BQ:=EQ.1 aE;refine⟨by simp,.inl ⟨D,_,rfl,run_takeDeferred bC,?_⟩⟩;refine Vx lT _ (zz ap cE) (zA T bG) BQ.2 (λ L3 Vy=>?_) dj;obtain⟨vm,sV,vn⟩:=lK L3 (.tail _ Vy);exact⟨vm,(Fk (by rintro rfl;exact BQ.1 Vy)).trans sV,vn⟩
def IW(E:Env)(n:Nat):Prop:=∀(ro:Option Nat) (gS cT:Nat) B f c J H ex bM an,exec E n B f c J H=some (ex,bM,an)→∀ad ab w a Q,codeOk E f a.tmps.size c=true→(ro=none∨lH c=true)→E.P.follows .mixedOrders=true→b5 E ad ab H w→eW ad ab H J a.tmps→
 ll cT ad ab w a.defers→cT≤w.heap.size→
 (∀bW aq,bW.tmps.size=a.tmps.size→oC E B ad ab H w an aq (λ aL aB=>eW aL aB an bM bW.tmps∧ll cT aL aB aq bW.defers)→Q (NZ ex) bW aq)→c.wpIn (ps ro) gS E.P Q a w
def Vz(E:Env)(n:Nat):Prop:=∀(ro:Option Nat) (gS cT:Nat) B f c J H ex bM an,exec E n B f (.loop c) J H=some (ex,bM,an)→∀ad ab w a Q,codeOk E f a.tmps.size c=true→(ro=none∨lH c=true)→E.P.follows .mixedOrders=true→b5 E ad ab H w→eW ad ab H J a.tmps→
 ll cT ad ab w a.defers→cT≤w.heap.size→
 (∀bW aq,bW.tmps.size=a.tmps.size→oC E B ad ab H w an aq (λ aL aB=>eW aL aB an bM bW.tmps∧ll cT aL aB aq bW.defers)→Q (NZ ex) bW aq)→Code.roundsIn (ps ro) gS E.P c Q n a w
def IX(b:Nat):Value:=.pointer (some ⟨b,0,none⟩)
def amh(P:Program)(g:FuncId)(L:List (List aC)→Option (List U)):Prop:=∀(l gS:Nat) (nF:List (List aC)) (xs:List U) (mJ:List Nat) (ad:b') (vo:Nat→World→Prop) (B4:World→Prop) (W:World),L nF=some xs→mJ.length=nF.length→
 (∀(k b:Nat) (cs:List aC),mJ[k]?=some b→nF[k]?=some cs→∀(m:Nat) (a:aC),cs[m]?=some a→∃v,W.cell? ⟨b,m,none⟩=some v∧dl ad a v)→
 (∀ac W,vo ac W→∀b ai,ad b=some ai→W.heap[b]?=some ai)→
 (∀ac W k,vo ac W→vo ac {W with drawn:=k})→(∀W k,B4 W→B4 {W with drawn:=k})→
 (∀ac W ln,vo ac W→IV W.heap.size W ln→vo ac ln)→(∀W ln,B4 W→IV W.heap.size W ln→B4 ln)→
 (∀m ac y x W,xs[ac]?=some y→a6 ad (λ _=>none) [] y x→vo ac W→YieldAt Fence.wide m P l #[x] W λ e ln=>(e=.returned (.bool true)∧vo (ac+1) ln)∨(e=.returned (.bool false)∧B4 ln))→
 vo 0 W→CallsIn Fence.wide gS P g (#[.func (.yield l) #[] #[]]++(mJ.map IX).toArray) W λ e ln=>(∃v,e=.returned v)∧(vo xs.length ln∨B4 ln)
def B5(E:Env):Prop:=∀g L,E.seq g=some L→k' E g=true∧amh E.P g L
def noSeq(h:∀f,E.seq f=none):B5 E:=λ f g aP=>by rw[h]at aP;cases aP
def VA:∀(cells:List U) (l:List aC),kK cells=some l→∀(m:Nat) (x:aC),l[m]?=some x→cells[m]?=some (.i x)
 |[],l,h,m,x,ak=>by simp only[kK,bg]at h;subst h;simp at ak
 |a::r,l,h,m,x,ak=>by
  unfold kK at h;split at h
  ·rename_i aW;cases aW
  ·rename_i eL ik aW;cases aW;simp only[c0]at h;obtain⟨fu,j,rfl⟩:=h;cases m with
   |zero=>simpa using ak
   |succ m=>simpa using VA r fu j m x (by simpa using ak)
  ·cases h
def VB(ap:b5 E ad ab H w):∀(ft:List U) (nF:List (List aC)) (vs:List Value),rK H ft=some nF→vs.length=ft.length→(∀(k:Nat) (a:U),ft[k]?=some a→a6 ad ab H a (vs.getD k undef))→
  ∃mJ:List Nat,vs=mJ.map IX∧mJ.length=nF.length∧(∀b∈mJ,b<w.heap.size)∧∀(k b:Nat) (cs:List aC),mJ[k]?=some b→nF[k]?=some cs→∀(m:Nat) (a:aC),cs[m]?=some a→∃v,w.cell? ⟨b,m,none⟩=some v∧dl ad a v
 |[],nF,vs,h,al,_=>by simp only[rK,bg]at h;subst h;exact⟨[],pX.1 al,rfl,(λ b h=>by cases h),λ k b cs h=>by simp at h⟩
 |a::r,nF,vs,h,al,ah=>by
  unfold rK at h;split at h
  ·rename_i aW;cases aW
  ·rename_i c g ik aW;cases aW;split at h
   ·rename_i cells ag;split at h
    ·rename_i aQC ami ax wY;cases h;cases vs with
     |nil=>simp at al
     |cons v vs=>
      obtain⟨mJ,ao,aH,c',bN⟩:=VB ap r ami vs wY (by simpa using al) λ k a aA=>by simpa using ah (k+1) a aA
      have aW:=ah 0 _ rfl;obtain⟨b,cs,elem,bj,bG,bC,cE,eU,lR⟩:=ap.b6 _ _ ag;have bh:v=IX b:=by
       cases aW with
       |ptr _ _ _ _ _ _ aj=>obtain⟨bR,dP,cm,cy⟩:=aj _ ag;rw[bG]at cm;cases cm;exact cy
      refine⟨b::mJ,by rw[bh,ao];rfl,by simp[aH],λ bR jk=>?_,λ k bR cs' aj eS m a aA=>?_⟩
      ·rcases ng.1 jk with rfl|jk
       ·exact oD bC
       ·exact c' _ jk
      cases k with
      |zero=>
       simp only[p6,bg]at aj eS;subst aj eS;have eh:=VA cells _ ax m a aA;have be:m<cs.size:=by rw[eU];exact(bF.1 eh).1
       refine⟨cs[m],by simp[rP,bC,be],?_⟩;have:=iA (lR m _ eh);rwa [di,qM be,i1]at this
      |succ k=>exact bN k bR cs' (by simpa using aj) (by simpa using eS) m a aA
    ·cases h
   ·cases h
  ·cases h
def N5:eC→Option Code
 |.normal=>none
 |.ret=>some .ret
 |.exit id=>some (.exit id)
def VC:∀{l m:List Nat},l.map sU=m.map sU→l=m
 |[],[],_=>rfl
 |[],_::_,h=>by simp at h
 |_::_,[],h=>by simp at h
 |a::l,b::m,h=>by
  simp only[fh,Bu]at h;have j:a=b:=by simpa[sU]using h.1
  rw[j,VC h.2]
def amj{n:Nat}(hex:IW E n){m f l:Nat}{nG body:Code}{J:Fr}{bu:aa}{c6:eC}{tmps:Array Value}{ik:Loop}{aV:Ending→World→Prop}
  (h:tw (λ eb c J H=>exec E n eb f c J H) nG body J H=some (c6,bu))(xy:lH nG=true)(zC:lH body=true)(Fl:codeOk E f tmps.size nG=true)(Fm:codeOk E f tmps.size body=true)(hm:E.P.follows .mixedOrders=true)
  (ap:b5 E ad ab H w)(aI:eW ad ab H J tmps)(al:w.heap[l]?=some (.loop ik))(ah:ik.state=.ready)(nO:rZ ad ab l)
  (dj:∀jD jE q4,b5 E jD jE bu q4→(∃eY ev fI,Trans ad ab w eY ev fI∧Trans eY ev (fI.putObj l (.loop {ik with state:=.busy})) jD jE q4)→zw H.length ad ab H jD jE bu→q4.heap[l]?=some (.loop {ik with state:=.busy})→rZ jD jE l→
   ∃v aq,(Instr.endRound l (N5 c6)).run E.P q4=.ok v aq∧aV (.returned v) aq):
  nG.wpIn (ps (some l)) m E.P (Exit.then (λ amk aml=>∃VD,(Instr.beginRound l).run E.P aml=.ok () VD∧body.wpIn (ps (some l)) m E.P (roundPost E.P l aV) amk VD) (λ _ _ _=>False)) {tmps:=tmps,defers:=[]} w:=by
 unfold tw at h;split at h
 ·rename_i lG H1 amm;split at h
  ·rename_i e dE amn amo;simp only[bg,bw]at h;obtain⟨rfl,rfl⟩:=h;refine hex (some l) m 0 H.length f nG J H .normal lG H1 amm ad ab w _ _ Fl (.inr xy) hm ap aI (Vp _ _ _ _) (jp _) λ hs fI amp Iu=>?_
   obtain⟨eY,ev,bG,bC,cE,eU,lR⟩:=Iu;have hK:=IU nO al bC;have mh:=N3 nO (oD al) bC;refine⟨_,run_beginRound hK ah,?_⟩;refine hex (some l) m 0 H.length f body lG H1 e dE amn amo eY ev _ hs _ (by rw[amp];exact Fm) (.inr zC) hm (zz bG mh) eU (zx lR hK _) (jp _) λ a3 q4 VE amq=>?_
   obtain⟨jD,jE,vm,sV,vn,B6,aQD⟩:=amq;have kr:(fI.putObj l (.loop {ik with state:=.busy})).heap[l]?=some (.loop {ik with state:=.busy}):=World.putObj_heap_same (oD hK);have:=dj jD jE q4 vm ⟨eY,ev,fI,bC,sV⟩ (cE.trans vn) (IU mh kr sV) (N3 mh (oD kr) sV);cases e<;>exact this
  ·cases h
 ·cases h
def amr{n:Nat}(hex:IW E n)(hseq:B5 E){gS cT B f p:Nat}{g:Operand}{nG body:Code}{J bM:Fr}{an:aa}{ex:eC}{xs:List U}{a:Act}{Q:Exit→Act→World→Prop}
  (aR:Ba E H (bn E J g)=some xs)(h:og (tw (λ eb c J H=>exec E n eb f c J H) nG body) p J xs H=some (ex,bM,an))
  (au:p<a.tmps.size)(xy:lH nG=true)(zC:lH body=true)(Fl:codeOk E f a.tmps.size nG=true)(Fm:codeOk E f a.tmps.size body=true)(hm:E.P.follows .mixedOrders=true)(ap:b5 E ad ab H w)(aI:eW ad ab H J a.tmps)
  (i_:ll cT ad ab w a.defers)(oE:cT≤w.heap.size)
  (eT:∀bW aq,bW.tmps.size=a.tmps.size→oC E B ad ab H w an aq (λ aL aB=>eW aL aB an bM bW.tmps∧ll cT aL aB aq bW.defers)→Q (NZ ex) bW aq):(Code.rangeFunc g #[p] nG body).wpIn (ps none) gS E.P Q a w:=by
 unfold Ba at aR;split at aR
 ·rename_i IY VF qZ;split at aR
  ·rename_i L VG e_ jZ;have ams:=aR;obtain⟨pr,tX⟩:=hseq IY L e_;have rg:=eD ap aI g;rw[qZ]at rg;generalize aY:a.eval g=y at rg;cases rg with
   |aQ _ _ _ eI cs amt eS _ wY=>
   have amu:eI=#[]:=Array.size_eq_zero_iff.1 (by simpa using amt);subst amu;have N6:∀(k:Nat) (a:U),VF[k]?=some a→a6 ad ab H a (cs.toList.getD k undef):=λ k a aA=>by have:=wY k a aA;rw[oF,mH,←di];exact this
   obtain⟨mJ,ao,aH,VH,bN⟩:=VB ap VF VG cs.toList jZ (by simpa using eS) N6;have Nq:∃fn,E.P.funcs[IY]?=some fn∧fn.body.isSome=true∧(fn.name== "runtime.NumGoroutine")=false:=by
    unfold k' at pr;split at pr
    ·rename_i fn p9;simp only[cR,qW]at pr;exact⟨fn,p9,pr.1,pr.2⟩
    ·cases pr
   obtain⟨N7,amv,aQE,amw⟩:=Nq;have jk:¬N7.body=none:=by cases e9:N7.body<;>simp_all
   have BQ:¬N7.name= "runtime.NumGoroutine":=by simpa using amw
   refine wpIn_rangeFunc ?_;intro fn p9;obtain⟨rec,q5⟩:∃rec:LoopState→Option Code→Loop,rec=λ bK b4=>{state:=bK,pending:=b4,fn,tmps:=a.tmps,params:=#[p],assign:=nG,body,defers:=w.heap.size}:=⟨_,rfl⟩
   obtain⟨q6,zD⟩:∃q6,(w.alloc (.deferred (some []))).alloc (.loop (rec .ready none))=q6:=⟨_,rfl⟩;have amx:q6.heap[w.heap.size+1]?=some (.loop (rec .ready none)):=by rw[←zD];have:=World.alloc_heap_new (w.alloc (.deferred (some []))) (.loop (rec .ready none));rwa [N4]at this
   have Is:q6.heap[w.heap.size]?=some (.deferred (some [])):=by rw[←zD];exact(zB _ _ _ (by simp)).trans (World.alloc_heap_new w _)
   have dm:b5 E ad ab H q6:=by rw[←zD];exact Vq (Vq ap)
   have lN:Trans ad ab w ad ab q6:=by rw[←zD];exact Vr (Vr (Trans.refl _ _ _))
   have amy:ll cT ad ab q6 (sU w.heap.size::a.defers):=by
    obtain⟨lT,m1,m2,m3⟩:=(by rw[←zD];exact Vs (Vs i_):ll cT ad ab q6 a.defers);refine⟨w.heap.size::lT,by rw[m1];rfl,EQ.2 ⟨λ VJ=>?_,m2⟩,λ D lK=>?_⟩
    ·obtain⟨aQF,cm,_,fc⟩:=i_;rw[VC (m1.symm.trans cm)]at VJ;have:=oD (fc _ VJ).2.1;omega
    ·rcases ng.1 lK with rfl|lK
     ·exact⟨oE,Is,Vw ap (cL _)⟩
     ·exact m3 D lK
   refine⟨w.heap.size+1,[sU w.heap.size],q6,{target:=.fn (.func IY) cs,args:=#[.func (.yield (w.heap.size+1)) #[] #[]]},q6,IY,
    #[.func (.yield (w.heap.size+1)) #[] #[]]++cs,q6,?_,?_,λ _ _=>trivial,?_,λ h=>(by cases h),?_⟩
   ·rw[←zD,q5];exact run_enterLoop_outer _ _ _ _ _
   ·simp only[resolve,aY];have lS:a.eval (.const (.func (.yield (w.heap.size+1)) #[] #[]))=.func (.yield (w.heap.size+1)) #[] #[]:=rfl;simp[Deferred.ofValue,lS]
   ·simp[invoke,callFunc,amv,BQ,jk]
   ·have nO:rZ ad ab (w.heap.size+1):=Vw ap R;have pn:(#[.func (.yield (w.heap.size+1)) #[] #[]]++cs:Array Value)=#[.func (.yield (w.heap.size+1)) #[] #[]]++(mJ.map IX).toArray:=by rw[←ao]
    rw[pn];refine(tX (w.heap.size+1) (gS-1) VG xs mJ ad
     (λ ac W=>∃aL aB q7,b5 E aL aB q7 W∧Trans ad ab w aL aB W∧e6 ad ab H aL aB q7∧og (tw (λ eb c J H=>exec E n eb f c J H) nG body) p J (xs.drop ac) q7=some (ex,bM,an)∧
      ll cT aL aB W (sU w.heap.size::a.defers)∧W.heap[w.heap.size+1]?=some (.loop (rec .ready none))∧rZ aL aB (w.heap.size+1))
     (λ W=>∃aL aB c,N5 ex=some c∧bM=J∧b5 E aL aB an W∧Trans ad ab w aL aB W∧e6 ad ab H aL aB an∧ll cT aL aB W (sU w.heap.size::a.defers)∧
      W.heap[w.heap.size+1]?=some (.loop (rec .done (some c)))∧rZ aL aB (w.heap.size+1))
     q6 ams aH ?_ ?_ ?_ ?_ ?_ ?_ ?_ ⟨ad,ab,H,dm,lN,e6.refl _ _ _,by rw[il];exact h,amy,amx,nO⟩).mono ?_
    ·intro k b cs' aj amz m x ak;obtain⟨v,cm,cy⟩:=bN k b cs' aj amz m x ak;refine⟨v,?_,cy⟩;have ay:q6.heap[b]?=w.heap[b]?:=by have pi:=VH b (kn aj);rw[←zD];exact(zB _ _ _ (by rw[N4];omega)).trans (zB _ _ _ pi)
     simpa[rP,ay]using cm
    ·rintro ac W ⟨aL,aB,q7,b_,ca,_⟩ b ai aj;exact b_.dR b ai (ca.dR b ai aj)
    ·rintro ac W k ⟨aL,aB,q7,b_,ca,c3,c5,li,lU,oG⟩;exact⟨aL,aB,q7,IQ b_ k,⟨ca.os,ca.tape,ca.output,ca.size,ca.frame,ca.dR,ca.qG,ca.own⟩,c3,c5,li,lU,oG⟩
    ·rintro W k ⟨aL,aB,c,gr,Fo,b_,ca,c3,li,lU,oG⟩;exact⟨aL,aB,c,gr,Fo,IQ b_ k,⟨ca.os,ca.tape,ca.output,ca.size,ca.frame,ca.dR,ca.qG,ca.own⟩,c3,li,lU,oG⟩
    ·rintro ac W ln ⟨aL,aB,q7,b_,ca,c3,c5,li,lU,oG⟩ aj;exact⟨aL,aB,q7,Vt b_ aj,Vu ca aj,c3,c5,Vv li aj,(aj.block _ (oD lU)).trans lU,oG⟩
    ·rintro W ln ⟨aL,aB,c,gr,Fo,b_,ca,c3,li,lU,oG⟩ aj;exact⟨aL,aB,c,gr,Fo,Vt b_ aj,Vu ca aj,c3,Vv li aj,(aj.block _ (oD lU)).trans lU,oG⟩
    ·rintro m ac N8 x W ak amA ⟨aL,aB,q7,b_,ca,c3,c5,li,lU,oG⟩;have jH:=(bF.1 ak).1;rw[jq jH,(bF.1 ak).2]at c5;have N9:=run_yield (P:=E.P) (args:=#[x]) lU (by rw[q5];rfl);have oj:(rec .ready none).fn=fn∧(rec .ready none).tmps=a.tmps∧(rec .ready none).params=#[p]∧(rec .ready none).assign=nG∧(rec .ready none).body=body:=by rw[q5];exact⟨rfl,rfl,rfl,rfl,rfl⟩
     obtain⟨iB,tA,N_,E1,amB⟩:=oj;rw[iB,tA,N_,E1,amB]at N9;have amC:((#[p]:Array Tmp).zip #[x]).foldl (λ tmps (t,a)=>tmps.setIfInBounds t a) a.tmps=a.tmps.setIfInBounds p x:=by simp
     rw[amC]at N9;refine⟨fn,_,nG,body,N9,roundIn_of_wpIn p9 ?_⟩;simp only[og]at c5;have gK:eW aL aB q7 ((p,N8)::J) (a.tmps.setIfInBounds p x):=by have j:eW aL aB q7 J ({tmps:=a.tmps,defers:=[]}:Act).tmps:=aI.mono c3;exact j.put (v:=N8) (x:=x) (mG ca.dR (jp _) (λ c ag=>absurd ag (q8 _)) _ _ amA) (some p) (λ k ay=>by cases ay;exact au)
     cases N':tw (λ eb c J H=>exec E n eb f c J H) nG body ((p,N8)::J) q7 with
     |none=>rw[N']at c5;cases c5
     |some q=>
      obtain⟨c6,bu⟩:=q;rw[N']at c5;refine amj hex N' xy zC (by simpa using Fl) (by simpa using Fm) hm b_ gK lU (by rw[q5]) oG λ jD jE q4 g1 g2 g3 g4 g5=>?_
      obtain⟨eY,ev,fI,t1,t2⟩:=g2;have dn:Trans ad ab w jD jE q4:=(zA (l:=w.heap.size+1) (ca.trans t1) R).trans t2;have hK:=IU oG lU t1;have Oa:ll cT jD jE q4 (sU w.heap.size::a.defers):=Fj (zx (Fj li t1) hK _) t2;have Ob:e6 ad ab H jD jE bu:=λ a v r=>g3 a v (qQ (c3 a v r)) (c3 a v r)
      have VK:=run_endRound (P:=E.P) (N5 c6) g4;rw[q5]at VK;refine⟨_,_,VK,?_⟩;have ov:∀ai,(q4.putObj (w.heap.size+1) ai).heap[w.heap.size+1]?=some ai:=λ ai=>World.putObj_heap_same (oD g4)
      cases c6 with
      |normal=>simp only at c5;refine .inl ⟨rfl,jD,jE,bu,zz g1 g5,zA dn R,Ob,c5,zx Oa g4 _,?_,g5⟩;rw[ov,q5];rfl
      |ret=>simp only[bg,bw]at c5;obtain⟨rfl,rfl,rfl⟩:=c5;refine .inr ⟨rfl,jD,jE,.ret,rfl,rfl,zz g1 g5,zA dn R,Ob,zx Oa g4 _,?_,g5⟩;rw[ov,q5];rfl
      |exit id=>simp only[bg,bw]at c5;obtain⟨rfl,rfl,rfl⟩:=c5;refine .inr ⟨rfl,jD,jE,.exit id,rfl,rfl,zz g1 g5,zA dn R,Ob,zx Oa g4 _,?_,g5⟩;rw[ov,q5];rfl
    ·rintro e IZ ⟨⟨v,rfl⟩,(⟨aL,aB,q7,b_,ca,c3,c5,li,lU,oG⟩|⟨aL,aB,c,gr,Fo,b_,ca,c3,li,lU,oG⟩)⟩
     ·rw[mR]at c5;simp only[og,bg,bw]at c5;obtain⟨rfl,rfl,rfl⟩:=c5;refine⟨none,_,by have:=run_endLoop (P:=E.P) lU (by rw[q5];simp);rw[q5]at this;exact this,?_⟩;refine eT _ _ rfl ⟨aL,aB,zz b_ oG,zA ca R,λ a v _ r=>c3 a v r,aI.mono c3,zx li lU _⟩
     ·subst Fo;refine⟨some c,_,by have:=run_endLoop (P:=E.P) lU (by rw[q5];simp);rw[q5]at this;exact this,?_⟩;have bm:=eT {a with defers:=[sU w.heap.size]++a.defers} (IZ.putObj (w.heap.size+1) (.loop {rec .done (some c)with state:=.exhausted})) rfl ⟨aL,aB,zz b_ oG,zA ca R,λ a v _ r=>c3 a v r,aI.mono c3,zx li lU _⟩;rw[q5]at bm;cases ex with
      |normal=>cases gr
      |ret=>cases gr;exact wpIn_ret bm
      |exit id=>cases gr;exact wpIn_exit bm
  ·cases aR
 ·cases aR
def amD(ap:b5 E ad ab H w){p:U}{y:Value}(h:a6 ad ab H p y){t:TypeId}{v:U}(al:tm E H t p=some v):
  ∃b x,y=.pointer (some b)∧(loadVar t b).run E.P w=.ok x w∧a6 ad ab H v x:=by
 obtain⟨x,j,I⟩:=SD ap h al;have au:∃b,y=.pointer (some b):=by
  unfold tm at al;split at al
  ·rename_i cells k n aj _ _;obtain⟨b,base,rfl,_⟩:=Hv ap h aj;exact⟨_,rfl⟩
  ·rename_i cells k n aj _ _;obtain⟨b,base,rfl,_⟩:=Hv ap h aj;exact⟨_,rfl⟩
  ·cases al
 obtain⟨b,rfl⟩:=au;exact⟨b,x,rfl,by simpa[Instr.loadAt,yL]using j,I⟩
def I0(tmps:Array Value):ResultVar→Sem Value
 |.tmp t=>pure (tmps.getD t undef)
 |.cell a t=>do loadVar t (←asAddr (tmps.getD a undef))
def VL(ap:b5 E ad ab H w){J:Fr}{tmps:Array Value}(aI:eW ad ab H J tmps):∀(l:List ResultVar) (bE:List U),qA E J H l=some bE→
  ∃xs:List Value,(l.mapM (I0 tmps)).run E.P w=.ok xs w∧xs.length=bE.length∧∀(k:Nat) (a:U),bE[k]?=some a→a6 ad ab H a (xs.toArray.getD k undef)
 |[],bE,h=>by simp only[qA,bg]at h;subst h;exact⟨[],by simp,rfl,λ k a h=>by simp at h⟩
 |r::l,bE,h=>by
  simp only[qA]at h;split at h
  ·rename_i a0 bE j I;simp only[bg]at h;subst h;obtain⟨xs,ao,aH,bN⟩:=VL ap aI l bE I;have aW:∃x,(I0 tmps r).run E.P w=.ok x w∧a6 ad ab H a0 x:=by
    cases r with
    |tmp t=>simp only[yH,bg]at j;subst j;exact⟨_,rfl,aI t⟩
    |cell a t=>simp only[yH]at j;obtain⟨b,x,bG,bC,cE⟩:=amD ap (aI a) j;refine⟨x,?_,cE⟩;simp only[I0,bG,asAddr,dT,eE,eg,bC]
   obtain⟨x,ak,rx⟩:=aW;refine⟨x::xs,?_,by simp[aH],λ k a h=>?_⟩
   ·rw[Me,dT,ak];simp only[eg,dT,ao,eE]
   ·cases k with
    |zero=>simp at h;subst h;simpa using rx
    |succ k=>simpa using bN k a (by simpa using h)
  ·cases h
def amE(ap:b5 E ad ab H w){J:Fr}{tmps:Array Value}(aI:eW ad ab H J tmps){fn:Func}{r:U}(h:wH E J H fn.results.toList=some r):
  ∃v,(results fn tmps).run E.P w=.ok v w∧a6 ad ab H r v:=by
 unfold wH at h;have key:∀bE,qA E J H fn.results.toList=some bE→∃xs:List Value,(results fn tmps).run E.P w=.ok (if h:xs.toArray.size=1 then xs.toArray[0]else .tuple xs.toArray) w∧xs.length=bE.length∧∀(k:Nat) (a:U),bE[k]?=some a→a6 ad ab H a (xs.toArray.getD k undef):=by intro bE has;obtain⟨xs,ao,aH,bN⟩:=VL ap aI _ bE has;refine⟨xs,?_,aH,bN⟩;unfold results;rw[dT,Array.mapM_eq_mapM_toList,map_eq_pure_bind,dT];change ((tL E.P (List.mapM (I0 tmps) fn.results.toList) w).andThen _).andThen _=_;rw[ao];rfl
 split at h
 ·rename_i a has;obtain rfl:=pY h;obtain⟨xs,ao,aH,bN⟩:=key _ has;refine⟨_,ao,?_⟩;have ak:xs.toArray.size=1:=by simpa using aH
  rw[dif_pos ak];have:=bN 0 _ rfl;simpa[di,ak]using this
 ·rename_i bE gh has;cases h;obtain⟨xs,ao,aH,bN⟩:=key _ has;refine⟨_,ao,?_⟩;have ak:¬xs.toArray.size=1:=λ j=>by simp only[H8]at j;rw[aH]at j;obtain⟨a,rfl⟩:=VM.1 j;exact gh a rfl
  rw[dif_neg ak];exact .bd _ _ (by simpa using aH) bN
 ·cases h
def VN:∀(l:List U) (ac k:Nat),get (ac+k) (qz ac l)=(l[k]?).getD .dead
 |[],ac,k=>by simp[qz,get]
 |a::l,ac,0=>by simp[qz,get]
 |a::l,ac,k+1=>by have:=VN l (ac+1) k;rw[show ac+(k+1)=ac+1+k by omega];simp only[qz,get,show¬ac+1+k=ac by omega,if_false];rw[this];simp
def VO{n:Nat}(hex:IW E n):nQ E (iz E (exec E n)):=by
 intro f args H r an h ad ab w vs ap bY;unfold iz at h;split at h
 ·rename_i fn p9;split at h
  ·rename_i c ag;split at h
   ·rename_i ho;obtain⟨wX,hlen⟩:=ho;unfold yI at wX;rw[p9]at wX;simp only[ag,cR]at wX;split at h
    ·cases h
    ·rename_i ex J H1 gh ak;split at h
     ·rename_i hk ah;refine(callsIn_wide (n:=0)).1 (callsIn_of_wp_marks p9 ag trivial ?_ rfl);have eu:(vs++y_ (fn.ntmps-vs.size) undef).size=fn.ntmps:=by have:=bY.1;simp;omega
      refine hex none 0 w.heap.size H.length f c _ H ex J H1 ak ad ab w _ _ (by rw[eu];exact wX.1) (.inl rfl) wX.2 ap (λ k=>?_) (Vp _ _ _ _) (cL _) λ bW aq aR amF=>?_
      ·have:=VN args 0 k;simp only[cp]at this;rw[this];cases ay:args[k]? with
       |none=>exact .dead _
       |some b=>
        have j:=bY.2 k b ay;have ni:=(bF.1 ay).1;have:(vs++y_ (fn.ntmps-vs.size) undef).getD k undef=vs.getD k undef:=by rw[di,xc (by rw[bY.1];exact ni),←di]
        rw[this];exact j
      ·obtain⟨eY,ev,bG,bC,cE,eU,lT,m1,m2,m3⟩:=amF;have B7:LeavesInM Fence.wide 0 E.P fn bW.tmps (λ e aq=>∃x,e=.returned x∧ci E ad ab H w an aq λ aL aB=>a6 aL aB an r x) bW.defers .returning aq:=by
        rw[m1];refine Vx (lm:=w) (r0:=ad) (r1:=ab) lT aq bG bC m2 m3 λ qH h5 gQ=>?_
        obtain⟨v,bh,iZ⟩:=amE h5 eU ah;obtain⟨jD,jE,vm,sV,vn,B6⟩:=ame h5 (B:=H.length) h iZ;exact⟨v,bh,v,rfl,jD,jE,vm,gQ.trans sV,λ a v r=>vn a v (qQ r) (cE a v (qQ r) r),B6⟩
       cases ex with
       |normal=>exact B7
       |ret=>exact B7
       |exit id=>exact(gh id rfl).elim
     ·cases h
    ·cases h
   ·cases h
  ·cases h
 ·cases h
def amG(sQ:zk E)(hseq:B5 E)(hmk:zl E):∀n,IW E n∧Vz E n:=by
 intro n;induction n with
 |zero=>exact⟨λ ro gS cT B f c J H ex bM an h=>by simp[exec]at h,λ ro gS cT B f c J H ex bM an h=>by simp[exec]at h⟩
 |succ n a8=>
  obtain⟨r2,amH⟩:=a8;have ch:nQ E (gg E (iz E (exec E n))):=akP hmk (akB (VO r2) sQ);have loop:Vz E (n+1):=by
   intro ro gS cT B f c J H ex bM an h ad ab w a Q i' iY hm ap aI i_ oE eT;rw[roundsIn_succ];simp only[exec]at h;obtain⟨ef,dW,ou,gM,mO,IT⟩:=amb B (f:=f) (id:=(fE c).getD 0) ap aI;split at h
   ·rename_i lG H1 j;refine r2 ro gS cT B f c _ _ _ lG H1 j ef dW w a _ i' iY hm ou IT (Fj i_ gM) oE λ bW aq aR bY=>?_
    obtain⟨eY,ev,bG,bC,cE,eU,lR⟩:=bY;refine amH ro gS cT B f c lG H1 ex bM an h eY ev aq bW Q (by rw[aR];exact i') iY hm bG eU lR (rN oE bC.size) λ Oc qH o9 Od=>?_
    obtain⟨jD,jE,vm,sV,vn,B6⟩:=Od;exact eT Oc qH (o9.trans aR) ⟨jD,jE,vm,gM.trans (bC.trans sV),mO.trans (cE.trans vn),B6⟩
   ·rename_i gh;refine r2 ro gS cT B f c _ _ ex bM an h ef dW w a _ i' iY hm ou IT (Fj i_ gM) oE λ bW aq aR bY=>?_
    obtain⟨eY,ev,bG,bC,cE,eU⟩:=bY;have:=eT bW aq aR ⟨eY,ev,bG,gM.trans bC,mO.trans cE,eU⟩;cases ex with
    |normal=>exact absurd h (gh _ _)
    |exit id=>exact this
    |ret=>exact this
  refine⟨?_,loop⟩;intro ro gS cT B f c J H ex bM an h ad ab w a Q i' iY hm ap aI i_ oE eT;cases c with
  |skip=>simp only[exec,bg,bw]at h;obtain⟨rfl,rfl,rfl⟩:=h;exact wpIn_skip (eT a w rfl ((ci.refl ap aI).zy i_ rfl))
  |label l=>simp only[exec,bg,bw]at h;obtain⟨rfl,rfl,rfl⟩:=h;exact wpIn_label (eT a w rfl ((ci.refl ap aI).zy i_ rfl))
  |ret=>simp only[exec,bg,bw]at h;obtain⟨rfl,rfl,rfl⟩:=h;exact wpIn_ret (eT a w rfl ((ci.refl ap aI).zy i_ rfl))
  |exit id=>simp only[exec,bg,bw]at h;obtain⟨rfl,rfl,rfl⟩:=h;exact wpIn_exit (eT a w rfl ((ci.refl ap aI).zy i_ rfl))
  |region id ops draw=>
   simp only[codeOk,cR,w2,qW]at i';have pt:BS a.tmps.size ops.toList:=by intro ai b9 d aM;have:=(oo.1 i'.1) ai b9;rw[aM]at this;simpa using this
   cases draw with
   |false=>
    simp only[exec]at h;split at h
    ·rename_i lG H1 j;simp only[bg,bw]at h;obtain⟨rfl,rfl,rfl⟩:=h;refine wpIn_region_list (Ns ch ops.toList j ap aI pt λ bW aq j5 aR bY=>eT bW aq aR ((bY.imp λ aL aB _ _ h=>h.Hs _).zy i_ j5))
    ·cases h
   |true=>
    simp only[exec]at h;cases Fp:E.qs f id with
    |true=>
     rw[Fp]at h i';simp only at h i';split at h
     ·rename_i lG H1 eA j;split at h
      ·rename_i ay;simp only[bg,bw]at h;obtain⟨rfl,rfl,rfl⟩:=h;have aM:=i'.2.resolve_left (by simp);simp only[cR]at aM;refine alZ ch j ay aM.1 aM.2 hm ap aI pt λ bW aq iI he j5 aR bY=>eT bW aq aR ((bY.imp λ aL aB _ _ h=>(Vb he h).Hs _).zy i_ j5)
      ·cases h
     ·cases h
    |false=>
    rw[Fp]at h i';simp only at h i';split at h
    ·rename_i lG H1 eA j;split at h
     ·rename_i ay;simp only[bg,bw]at h;obtain⟨rfl,rfl,rfl⟩:=h;have aM:=i'.2.resolve_left (by simp);simp only[cR]at aM;refine alW ch j ay aM.1 aM.2 hm ap aI pt λ bW aq iI he j5 aR bY=>eT bW aq aR ((bY.imp λ aL aB _ _ h=>(Vb he h).Hs _).zy i_ j5)
     ·cases h
    ·cases h
  |seq x y=>
   simp only[codeOk,cR]at i';simp only[exec]at h;refine wpIn_seq ?_;have Fq:ro=none∨lH x=true:=iY.imp id λ h=>by simp only[lH,cR]at h;exact h.1
   have amI:ro=none∨lH y=true:=iY.imp id λ h=>by simp only[lH,cR]at h;exact h.2
   split at h
   ·rename_i lG H1 j;refine r2 ro gS cT B f x _ H _ lG H1 j ad ab w a _ i'.1 Fq hm ap aI i_ oE λ bW aq aR bY=>?_
    obtain⟨eY,ev,bG,bC,cE,eU,lR⟩:=bY;refine r2 ro gS cT B f y lG H1 ex bM an h eY ev aq bW Q (by rw[aR];exact i'.2) amI hm bG eU lR (rN oE bC.size) λ Oc qH o9 Od=>?_
    obtain⟨jD,jE,vm,sV,vn,B6⟩:=Od;exact eT Oc qH (o9.trans aR) ⟨jD,jE,vm,bC.trans sV,cE.trans vn,B6⟩
   ·rename_i gh;refine r2 ro gS cT B f x _ H ex bM an h ad ab w a _ i'.1 Fq hm ap aI i_ oE λ bW aq aR bY=>?_
    have:=eT bW aq aR bY;cases ex with
    |normal=>exact absurd h (gh _ _)
    |exit id=>exact this
    |ret=>exact this
  |cond c x y=>
   simp only[codeOk,cR]at i';simp only[exec]at h;split at h
   ·rename_i aj;exact wpIn_cond_true (Vc ap aI aj) (r2 ro gS cT B f x J H ex bM an h ad ab w a Q i'.1 (iY.imp id λ h=>by simp only[lH,cR]at h;exact h.1) hm ap aI i_ oE eT)
   ·rename_i aj;exact wpIn_cond_false (Vc ap aI aj) (r2 ro gS cT B f y J H ex bM an h ad ab w a Q i'.2 (iY.imp id λ h=>by simp only[lH,cR]at h;exact h.2) hm ap aI i_ oE eT)
   ·cases h
  |block id c=>
   simp only[codeOk]at i';simp only[exec]at h;refine wpIn_block ?_;have Fq:ro=none∨lH c=true:=iY;split at h
   ·rename_i ac lG H1 j;refine r2 ro gS cT B f c J H _ lG H1 j ad ab w a _ i' Fq hm ap aI i_ oE λ bW aq aR bY=>?_
    show Exit.inBlock id Q (.exit ac) bW aq;unfold Exit.inBlock;split at h
    ·rename_i a_;simp only[bg,bw]at h;obtain⟨rfl,rfl,rfl⟩:=h;simp only[a_,if_true];exact eT bW aq aR bY
    ·rename_i a_;simp only[bg,bw]at h;obtain⟨rfl,rfl,rfl⟩:=h;simp only[a_,if_false];exact eT bW aq aR bY
   ·rename_i gh;refine r2 ro gS cT B f c J H ex bM an h ad ab w a _ i' Fq hm ap aI i_ oE λ bW aq aR bY=>?_
    have:=eT bW aq aR bY;cases ex with
    |normal=>exact this
    |exit id=>exact absurd h (gh _ _ _)
    |ret=>exact this
  |loop c=>simp only[codeOk]at i';exact wpIn_loop_rounds _ (loop ro gS cT B f c J H ex bM an h ad ab w a Q i' iY hm ap aI i_ oE eT)
  |scope c=>
   simp only[codeOk]at i';simp only[exec]at h;rcases iY with rfl|iY
   ·refine wpIn_wide.2 (wp_scope_straight (wpIn_wide.1 (r2 none gS cT B f c J H ex bM an h ad ab w a _ i' (.inl rfl) hm ap aI i_ oE λ bW aq aR bY=>?_)));have:=eT bW aq aR bY;cases ex<;>exact this
   ·cases iY
  |rangeFunc g bk x y=>
   simp only[codeOk,cR,oo,decide_eq_true_eq]at i';obtain⟨⟨xz,xy,zC⟩,Fl,Fm⟩:=i';rcases iY with rfl|iY
   ·simp only[exec]at h;split at h
    ·rename_i p xs amJ aR;have amK:bk=#[p]:=by rw[←Array.toList_inj];exact amJ
     subst amK;exact amr r2 hseq aR h (xz p (by simp)) xy zC Fl Fm hm ap aI i_ oE eT
    ·cases h
   ·cases iY
  |_=>simp[exec]at h
def amL(sQ:zk E)(hseq:B5 E)(hmk:zl E)(n:Nat):nQ E (call E n):=VO (amG sQ hseq hmk n).1
end
section
variable{E:Env}{aJ j1:dy}
def oH(aJ j1:dy):Prop:=∀f a H r,aJ f a H=some r→j1 f a H=some r
def Oe(ex fY:D0):Prop:=∀B f c J H r,ex B f c J H=some r→fY B f c J H=some r
def amM(h:oH aJ j1):oH (eV E aJ) (eV E j1):=by
 intro f a H r ah;unfold eV at ah⊢;split
 ·rename_i g aP;rw[aP]at ah;exact ah
 ·rename_i aP;rw[aP]at ah;exact h _ _ _ _ ah
def VP(h:oH aJ j1):oH (k9 E aJ) (k9 E j1):=by
 intro f a H r ah;unfold k9 at ah⊢;cases au:(iV E f H a)with
 |none=>rw[au]at ah;cases ah
 |some x=>
  obtain⟨bE,H1⟩:=x;rw[au]at ah;simp only at ah⊢;split at ah
  ·cases ah
  ·rename_i ik L ag;rw[amM h _ _ _ _ ag];exact ah
def amN(h:oH aJ j1):oH (gg E aJ) (gg E j1):=by
 intro f a H r ah;unfold gg at ah⊢;split
 ·rename_i g aP;rw[aP]at ah;exact ah
 ·rename_i aP;rw[aP]at ah;simp only at ah;split
  ·rename_i I;rw[I]at ah;obtain⟨ik,an⟩:=r;obtain⟨rfl,av⟩:=EW ah;rw[VP h _ _ _ _ av];exact Iz _
  ·rename_i I;rw[I]at ah;exact VP h _ _ _ _ ah
def I1(h:oH aJ j1){ai:Op}{J:Fr}{H:aa}{r:U×aa}(ah:cd E aJ ai J H=some r):cd E j1 ai J H=some r:=by
 unfold cd at ah⊢;split at ah
 ·split at ah
  ·split at ah
   ·rename_i g bE aP he;rw[if_pos he];exact amN h _ _ _ _ ah
   ·cases ah
  ·cases ah
 ·exact ah
def Fs(h:oH aJ j1){ops:List Oper}:∀{l:List Oper} {J:Fr} {H:aa} {r:Fr×aa},ih E aJ ops l J H=some r→ih E j1 ops l J H=some r
 |[],J,H,r,ah=>ah
 |ai::l,J,H,r,ah=>by
  simp only[ih]at ah⊢;split at ah
  ·split at ah
   ·rename_i v an bh;rw[I1 h bh];exact Fs h ah
   ·cases ah
  ·exact Fs h ah
  ·cases ah
def VQ(h:oH aJ j1){ops:List Oper}{ai:Oper}{J:Fr}{H:aa}{r:Fr×aa×List Nat}(ah:pU E aJ ops ai J H=some r):pU E j1 ops ai J H=some r:=by
 unfold pU at ah⊢;split at ah
 ·split at ah
  ·rename_i v an bh;rw[I1 h bh];exact ah
  ·cases ah
 ·exact ah
 ·cases ah
def I2(h:oH aJ j1){ops:List Oper}:∀{l:List Oper} {J:Fr} {H:aa} {r:Fr×aa×List (List Nat)},hP E aJ ops l J H=some r→hP E j1 ops l J H=some r
 |[],J,H,r,ah=>ah
 |ai::l,J,H,r,ah=>by
  simp only[hP]at ah⊢;split at ah
  ·rename_i lG H1 t aR;rw[VQ h aR];simp only;split at ah
   ·rename_i dE bu fD bp;rw[I2 h bp];exact ah
   ·cases ah
  ·cases ah
def VR(h:oH aJ j1){c:Nat}{ai:Op}{J:Fr}{H:aa}{r:U×aa}(ah:jy E aJ c ai J H=some r):jy E j1 c ai J H=some r:=by
 unfold jy at ah⊢;cases aI:dQ ai with
 |true=>rw[aI]at ah;exact ah
 |false=>rw[aI]at ah;exact I1 h ah
def Ft(h:oH aJ j1){ops:List Oper}:∀{l:List Oper} {c:Nat} {J:Fr} {H:aa} {r:Fr×aa×List (List Nat)},iy E aJ ops c l J H=some r→iy E j1 ops c l J H=some r
 |[],c,J,H,r,ah=>ah
 |ai::l,c,J,H,r,ah=>by
  simp only[iy]at ah⊢;split at ah
  ·split at ah
   ·rename_i v an bh;rw[VR h bh];simp only;split at ah
    ·rename_i dE bu fD bp;rw[Ft h bp];exact ah
    ·cases ah
   ·cases ah
  ·split at ah
   ·rename_i dE bu fD bp;rw[Ft h bp];exact ah
   ·cases ah
  ·cases ah
def Of{ex fY:D0}(h:Oe ex fY):oH (iz E ex) (iz E fY):=by
 intro f a H r ah;unfold iz at ah⊢;split at ah
 ·rename_i fn p9;split at ah
  ·rename_i c ag;split at ah
   ·rename_i ho;simp only[ho,if_true];rw[if_pos ⟨trivial,trivial⟩];cases ak:ex H.length f c (qz 0 a) H with
    |none=>rw[ak]at ah;cases ah
    |some x=>rw[h _ _ _ _ _ _ ak,←ak];exact ah
   ·cases ah
  ·cases ah
 ·cases ah
def amO{ex fY:Nat→Code→Fr→aa→Option (eC×Fr×aa)}(h:∀B c J H r,ex B c J H=some r→fY B c J H=some r){a b:Code}{J:Fr}{H:aa}{q:eC×aa}(ah:tw ex a b J H=some q):tw fY a b J H=some q:=by
 unfold tw at ah⊢;split at ah
 ·rename_i lG H1 j;rw[h _ _ _ _ _ j];simp only;split at ah
  ·rename_i e dE bu I;rw[h _ _ _ _ _ I];exact ah
  ·cases ah
 ·cases ah
def VS{rd VT:Fr→aa→Option (eC×aa)}(h:∀J H q,rd J H=some q→VT J H=some q){p:Nat}{J:Fr}:∀(xs:List U) {H:aa} {r:eC×Fr×aa},og rd p J xs H=some r→og VT p J xs H=some r
 |[],H,r,ah=>ah
 |x::xs,H,r,ah=>by
  simp only[og]at ah⊢;cases ak:rd ((p,x)::J) H with
  |none=>rw[ak]at ah;cases ah
  |some q=>
   rw[ak]at ah;rw[h _ _ _ ak];obtain⟨e,H1⟩:=q;cases e with
   |normal=>simp only at ah⊢;exact VS h xs ah
   |exit id=>exact ah
   |ret=>exact ah
def amP(n:Nat)(B f:Nat)(g:Operand)(bk:Array Tmp)(a b:Code)(J:Fr)(H:aa):exec E (n+1) B f (.rangeFunc g bk a b) J H=match bk.toList,Ba E H (bn E J g)with
 |[p],some xs=>og (tw (λ eb c J H=>exec E n eb f c J H) a b) p J xs H
 |_,_=>none:=rfl
def amQ:∀n,Oe (exec E n) (exec E (n+1)):=by
 intro n;induction n with
 |zero=>intro B f c J H r h;simp[exec]at h
 |succ n a8=>
  intro B f c J H r h;have ch:oH (iz E (exec E n)) (iz E (exec E (n+1))):=Of a8;cases c with
  |region id ops draw=>
   cases draw with
   |false=>
    rw[exec]at h⊢;split at h
    ·rename_i bM an bh;rw[Fs ch bh];exact h
    ·cases h
   |true=>
    rw[exec]at h⊢;cases Fp:E.qs f id with
    |true=>
     rw[Fp]at h;simp only at h⊢;split at h
     ·rename_i bM an eA bh;rw[Ft ch bh];exact h
     ·cases h
    |false=>
     rw[Fp]at h;simp only at h⊢;split at h
     ·rename_i bM an eA bh;rw[I2 ch bh];exact h
     ·cases h
  |seq a b=>
   rw[exec]at h⊢;cases ak:exec E n B f a J H with
   |none=>rw[ak]at h;cases h
   |some x=>
    rw[ak]at h;rw[a8 _ _ _ _ _ _ ak];obtain⟨ex,bM,an⟩:=x;cases ex with
    |normal=>exact a8 _ _ _ _ _ _ h
    |exit id=>exact h
    |ret=>exact h
  |cond c a b=>
   rw[exec]at h⊢;split at h
   ·exact a8 _ _ _ _ _ _ h
   ·exact a8 _ _ _ _ _ _ h
   ·cases h
  |block id c=>
   rw[exec]at h⊢;cases ak:exec E n B f c J H with
   |none=>rw[ak]at h;cases h
   |some x=>rw[ak]at h;rw[a8 _ _ _ _ _ _ ak];exact h
  |loop c=>
   rw[exec]at h⊢;cases ak:exec E n B f c (oe E B f ((fE c).getD 0) J H).1 (oe E B f ((fE c).getD 0) J H).2 with
   |none=>rw[ak]at h;cases h
   |some x=>
    rw[ak]at h;rw[a8 _ _ _ _ _ _ ak];obtain⟨ex,bM,an⟩:=x;cases ex with
    |normal=>exact a8 _ _ _ _ _ _ h
    |exit id=>exact h
    |ret=>exact h
  |scope c=>rw[exec]at h⊢;exact a8 _ _ _ _ _ _ h
  |rangeFunc g bk a b=>
   rw[amP]at h⊢;split at h
   ·rename_i p xs au aR;exact VS (λ J H q bm=>amO (λ B c J H r ah=>a8 _ _ _ _ _ _ ah) bm) xs h
   ·cases h
  |_=>exact h
def zE{n m:Nat}(h:n≤m):Oe (exec E n) (exec E m):=by
 induction h with
 |refl=>exact λ _ _ _ _ _ _ h=>h
 |step _ a8=>exact λ B f c J H r h=>amQ _ _ _ _ _ _ _ (a8 B f c J H r h)
open Classical in
noncomputable def fN(E:Env):D0:=λ B f c J H=>if h:∃n r,exec E n B f c J H=some r then some (Classical.choose (Classical.choose_spec h))else none
def iJ{B:Nat}{f:FuncId}{c:Code}{J:Fr}{H:aa}{r:eC×Fr×aa}:fN E B f c J H=some r↔∃n,exec E n B f c J H=some r:=by
 unfold fN;split
 ·rename_i h;have aR:=Classical.choose_spec (Classical.choose_spec h);constructor
  ·intro e;exact⟨_,by rw[aR];exact e⟩
  ·rintro⟨n,aE⟩;have j:=zE (B8 (Classical.choose h) n) _ _ _ _ _ _ aR;have I:=zE (B9 (Classical.choose h) n) _ _ _ _ _ _ aE;rw[j]at I;exact I
 ·rename_i h;constructor
  ·intro e;cases e
  ·rintro⟨n,aE⟩;exact absurd ⟨n,r,aE⟩ h
noncomputable def b3(E:Env):dy:=iz E (fN E)
def I3(n:Nat):oH (iz E (exec E n)) (b3 E):=Of λ B f c J H r h=>iJ.2 ⟨n,h⟩
def B_{n m:Nat}(h:n≤m):oH (iz E (exec E n)) (iz E (exec E m)):=Of (zE h)
def VU{f:FuncId}{a:List U}{H:aa}{r:U×aa}(ah:b3 E f a H=some r):∃n,iz E (exec E n) f a H=some r:=by
 unfold b3 iz at ah;unfold iz;split at ah
 ·rename_i fn p9;split at ah
  ·rename_i c ag;split at ah
   ·rename_i ho;cases ak:fN E H.length f c (qz 0 a) H with
    |none=>rw[ak]at ah;cases ah
    |some x=>obtain⟨n,aE⟩:=iJ.1 ak;refine⟨n,?_⟩;rw[if_pos ho,aE,←ak];exact ah
   ·cases ah
  ·cases ah
 ·cases ah
def amR{f:FuncId}{a:List U}{H:aa}{r:U×aa}(ah:eV E (b3 E) f a H=some r):∃n,eV E (iz E (exec E n)) f a H=some r:=by
 unfold eV at ah⊢;cases aP:E.ext f with
 |some g=>rw[aP]at ah;exact⟨0,ah⟩
 |none=>rw[aP]at ah;exact VU ah
def VV{f:FuncId}{a:List U}{H:aa}{r:U×aa}(ah:k9 E (b3 E) f a H=some r):∃n,k9 E (iz E (exec E n)) f a H=some r:=by
 unfold k9 at ah;cases au:(iV E f H a)with
 |none=>rw[au]at ah;cases ah
 |some x=>
  obtain⟨bE,H1⟩:=x;rw[au]at ah;simp only at ah;split at ah
  ·cases ah
  ·rename_i ik L ag;obtain⟨n,aE⟩:=amR ag;refine⟨n,?_⟩;unfold k9;rw[au];simp only;rw[aE];exact ah
def amS{f:FuncId}{a:List U}{H:aa}{r:U×aa}(ah:gg E (b3 E) f a H=some r):∃n,gg E (iz E (exec E n)) f a H=some r:=by
 unfold gg at ah⊢;cases aP:E.oa f with
 |some g=>rw[aP]at ah;exact⟨0,ah⟩
 |none=>
  rw[aP]at ah;simp only at ah⊢;cases I:E.ss f with
  |true=>rw[I]at ah;obtain⟨ik,an⟩:=r;obtain⟨rfl,av⟩:=EW ah;obtain⟨n,aE⟩:=VV av;exact⟨n,by rw[aE];exact Iz _⟩
  |false=>rw[I]at ah;exact VV ah
def Og{ai:Op}{J:Fr}{H:aa}{r:U×aa}(ah:cd E (b3 E) ai J H=some r):∃n,cd E (iz E (exec E n)) ai J H=some r:=by
 unfold cd at ah;split at ah
 ·rename_i f args e1;split at ah
  ·rename_i g bE aP;split at ah
   ·rename_i he;obtain⟨n,aE⟩:=amS ah;refine⟨n,?_⟩;simp only[cd,aP,he,if_true,aE]
   ·cases ah
  ·cases ah
 ·rename_i BL;refine⟨0,?_⟩;unfold cd;split
  ·exact absurd rfl (BL _ _ _)
  ·exact ah
def Oh{ops:List Oper}:∀{l:List Oper} {J:Fr} {H:aa} {r:Fr×aa},ih E (b3 E) ops l J H=some r→∃n,ih E (iz E (exec E n)) ops l J H=some r
 |[],J,H,r,ah=>⟨0,ah⟩
 |ai::l,J,H,r,ah=>by
  simp only[ih]at ah⊢;cases aP:gm ops J ai with
  |none=>rw[aP]at ah;cases ah
  |some b=>
   rw[aP]at ah;cases b with
   |false=>exact Oh ah
   |true=>
    simp only at ah⊢;split at ah
    ·rename_i v an bh;obtain⟨n,aE⟩:=Og bh;obtain⟨m,hm⟩:=Oh ah;refine⟨max n m,?_⟩;rw[I1 (B_ (B8 n m)) aE];exact Fs (B_ (B9 n m)) hm
    ·cases ah
def amT{ops:List Oper}{ai:Oper}{J:Fr}{H:aa}{r:Fr×aa×List Nat}(ah:pU E (b3 E) ops ai J H=some r):∃n,pU E (iz E (exec E n)) ops ai J H=some r:=by
 unfold pU at ah;cases aP:gm ops J ai with
 |none=>rw[aP]at ah;cases ah
 |some b=>
  rw[aP]at ah;cases b with
  |false=>exact⟨0,by unfold pU;rw[aP];exact ah⟩
  |true=>
   simp only at ah;split at ah
   ·rename_i v an bh;obtain⟨n,aE⟩:=Og bh;refine⟨n,?_⟩;unfold pU;rw[aP,aE];exact ah
   ·cases ah
def VW{ops:List Oper}:∀{l:List Oper} {J:Fr} {H:aa} {r:Fr×aa×List (List Nat)},hP E (b3 E) ops l J H=some r→∃n,hP E (iz E (exec E n)) ops l J H=some r
 |[],J,H,r,ah=>⟨0,ah⟩
 |ai::l,J,H,r,ah=>by
  simp only[hP]at ah⊢;split at ah
  ·rename_i lG H1 t aR;split at ah
   ·rename_i dE bu fD bp;obtain⟨n,aE⟩:=amT aR;obtain⟨m,hm⟩:=VW bp;refine⟨max n m,?_⟩;rw[VQ (B_ (B8 n m)) aE];simp only;rw[I2 (B_ (B9 n m)) hm];exact ah
   ·cases ah
  ·cases ah
def Oi{ops:List Oper}:∀{l:List Oper} {c:Nat} {J:Fr} {H:aa} {r:Fr×aa×List (List Nat)},iy E (b3 E) ops c l J H=some r→∃n,iy E (iz E (exec E n)) ops c l J H=some r
 |[],c,J,H,r,ah=>⟨0,ah⟩
 |ai::l,c,J,H,r,ah=>by
  simp only[iy]at ah⊢;cases aP:gm ops J ai with
  |none=>rw[aP]at ah;cases ah
  |some b=>
   rw[aP]at ah;cases b with
   |false=>
    simp only at ah⊢;split at ah
    ·rename_i dE bu fD bp;obtain⟨m,hm⟩:=Oi bp;refine⟨m,?_⟩;rw[hm];exact ah
    ·cases ah
   |true=>
    simp only at ah⊢;split at ah
    ·rename_i v an bh;split at ah
     ·rename_i dE bu fD bp;have aE:∃n,jy E (iz E (exec E n)) c ai.op J H=some (v,an):=by
       unfold jy at bh⊢;cases aI:dQ ai.op with
       |true=>rw[aI]at bh;exact⟨0,bh⟩
       |false=>rw[aI]at bh;exact Og bh
      obtain⟨n,aE⟩:=aE;obtain⟨m,hm⟩:=Oi bp;refine⟨max n m,?_⟩;rw[VR (B_ (B8 n m)) aE];simp only;rw[Ft (B_ (B9 n m)) hm];exact ah
     ·cases ah
    ·cases ah
variable{B:Nat}{f:FuncId}{J:Fr}{H:aa}{id:Nat}
def amU:fN E B f .skip J H=some (.normal,J,H):=iJ.2 ⟨1,rfl⟩
def amV(l:Nat):fN E B f (.label l) J H=some (.normal,J,H):=iJ.2 ⟨1,rfl⟩
def amW:fN E B f .ret J H=some (.ret,J,H):=iJ.2 ⟨1,rfl⟩
def amX(id:Nat):fN E B f (.exit id) J H=some (.exit id,J,H):=iJ.2 ⟨1,rfl⟩
def Fu(E:Env)(f:FuncId)(id:Nat)(r:Option (Fr×aa)):Option (eC×Fr×aa):=match r with
 |some (bM,an)=>some (.normal,norm (E.kg f id) bM,an)
 |none=>none
def B'(E:Env)(f:FuncId)(id:Nat)(r:Option (Fr×aa×List (List Nat))):Option (eC×Fr×aa):=match r with
 |some (bM,an,eA)=>if(E.dL f id).all (sz eA)=true then some (.normal,norm (E.kg f id) bM,an)else none
 |none=>none
def amY(id:Nat)(ops:Array Oper):fN E B f (.region id ops false) J H=Fu E f id (ih E (b3 E) ops.toList ops.toList J H):=by
 refine zF λ r=>?_
 rw[iJ];constructor
 ·rintro⟨n,h⟩;cases n with
  |zero=>simp[exec]at h
  |succ n=>
   simp only[exec]at h;split at h
   ·rename_i bM an bh;rw[Fs (I3 n) bh];exact h
   ·cases h
 ·intro h;cases bh:ih E (b3 E) ops.toList ops.toList J H with
  |none=>rw[bh]at h;cases h
  |some x=>obtain⟨n,aE⟩:=Oh bh;refine⟨n+1,?_⟩;rw[bh]at h;simp only[exec];rw[aE];exact h
def VX(aN:E.qs f id=false)(ops:Array Oper):fN E B f (.region id ops true) J H=B' E f id (hP E (b3 E) ops.toList ops.toList J H):=by
 refine zF λ r=>?_
 rw[iJ];constructor
 ·rintro⟨n,h⟩;cases n with
  |zero=>simp[exec]at h
  |succ n=>
   simp only[exec,aN]at h;split at h
   ·rename_i bM an eA bh;rw[I2 (I3 n) bh];exact h
   ·cases h
 ·intro h;cases bh:hP E (b3 E) ops.toList ops.toList J H with
  |none=>rw[bh]at h;cases h
  |some x=>obtain⟨n,aE⟩:=VW bh;refine⟨n+1,?_⟩;rw[bh]at h;simp only[exec,aN];rw[aE];exact h
def amZ(aN:E.qs f id=true)(ops:Array Oper):fN E B f (.region id ops true) J H=B' E f id (iy E (b3 E) ops.toList H.length ops.toList J (H++cB (o6 ops.toList) mF)):=by
 refine zF λ r=>?_
 rw[iJ];constructor
 ·rintro⟨n,h⟩;cases n with
  |zero=>simp[exec]at h
  |succ n=>
   simp only[exec,aN]at h;split at h
   ·rename_i bM an eA bh;rw[Ft (I3 n) bh];exact h
   ·cases h
 ·intro h;cases bh:iy E (b3 E) ops.toList H.length ops.toList J (H++cB (o6 ops.toList) mF)with
  |none=>rw[bh]at h;cases h
  |some x=>obtain⟨n,aE⟩:=Oi bh;refine⟨n+1,?_⟩;rw[bh]at h;simp only[exec,aN];rw[aE];exact h
def Oj{aJ:dy}{ops:List Oper}:∀(l:List Oper) (J:Fr) (H:aa),(hP E aJ ops l J H).map (λ x=>(x.1,x.2.1))=ih E aJ ops l J H
 |[],J,H=>rfl
 |ai::l,J,H=>by
  simp only[hP,pU,ih];cases gm ops J ai with
  |none=>rfl
  |some b=>
   cases b with
   |false=>simp only;rw[←Oj l];cases hP E aJ ops l (dH ai.dst (.bd []) J) H<;>rfl
   |true=>
    simp only;cases cd E aJ ai.op J H with
    |none=>rfl
    |some x=>simp only;rw[←Oj l];cases hP E aJ ops l (dH ai.dst x.1 J) x.2<;>rfl
def am0(aN:E.qs f id=false)(hq:E.dL f id=[])(ops:Array Oper):fN E B f (.region id ops true) J H=Fu E f id (ih E (b3 E) ops.toList ops.toList J H):=by
 rw[VX aN,←Oj];cases hP E (b3 E) ops.toList ops.toList J H with
 |none=>rfl
 |some x=>obtain⟨bM,an,eA⟩:=x;simp only[B',hq,List.all_nil,if_true,en,Fu]
def vp(k:Fr→aa→Option (eC×Fr×aa))(r:Option (eC×Fr×aa)):Option (eC×Fr×aa):=match r with
 |some (.normal,bM,an)=>k bM an
 |r=>r
def am1(a b:Code):fN E B f (.seq a b) J H=vp (fN E B f b) (fN E B f a J H):=by
 refine zF λ r=>?_
 rw[iJ];constructor
 ·rintro⟨n,h⟩;cases n with
  |zero=>simp[exec]at h
  |succ n=>
   rw[exec]at h;cases ak:exec E n B f a J H with
   |none=>rw[ak]at h;cases h
   |some x=>
    rw[ak]at h;rw[iJ.2 ⟨n,ak⟩];obtain⟨ex,bM,an⟩:=x;cases ex with
    |normal=>exact iJ.2 ⟨n,h⟩
    |exit id=>exact h
    |ret=>exact h
 ·intro h;cases ak:fN E B f a J H with
  |none=>rw[ak]at h;cases h
  |some x=>
   rw[ak]at h;obtain⟨n,aE⟩:=iJ.1 ak;obtain⟨ex,bM,an⟩:=x;cases ex with
   |normal=>obtain⟨m,hm⟩:=iJ.1 h;refine⟨max n m+1,?_⟩;rw[exec,zE (B8 n m) _ _ _ _ _ _ aE];exact zE (B9 n m) _ _ _ _ _ _ hm
   |exit id=>exact⟨n+1,by rw[exec,aE];exact h⟩
   |ret=>exact⟨n+1,by rw[exec,aE];exact h⟩
def VY(c:Code):fN E B f (.loop c) J H=vp (fN E B f (.loop c)) (fN E B f c (oe E B f ((fE c).getD 0) J H).1 (oe E B f ((fE c).getD 0) J H).2):=by
 refine zF λ r=>?_
 rw[iJ];constructor
 ·rintro⟨n,h⟩;cases n with
  |zero=>simp[exec]at h
  |succ n=>
   rw[exec]at h;cases ak:exec E n B f c (oe E B f ((fE c).getD 0) J H).1 (oe E B f ((fE c).getD 0) J H).2 with
   |none=>rw[ak]at h;cases h
   |some x=>
    rw[ak]at h;rw[iJ.2 ⟨n,ak⟩];obtain⟨ex,bM,an⟩:=x;cases ex with
    |normal=>exact iJ.2 ⟨n,h⟩
    |exit id=>exact h
    |ret=>exact h
 ·intro h;cases ak:fN E B f c (oe E B f ((fE c).getD 0) J H).1 (oe E B f ((fE c).getD 0) J H).2 with
  |none=>rw[ak]at h;cases h
  |some x=>
   rw[ak]at h;obtain⟨n,aE⟩:=iJ.1 ak;obtain⟨ex,bM,an⟩:=x;cases ex with
   |normal=>obtain⟨m,hm⟩:=iJ.1 h;refine⟨max n m+1,?_⟩;rw[exec,zE (B8 n m) _ _ _ _ _ _ aE];exact zE (B9 n m) _ _ _ _ _ _ hm
   |exit id=>exact⟨n+1,by rw[exec,aE];exact h⟩
   |ret=>exact⟨n+1,by rw[exec,aE];exact h⟩
def vq(v:U)(a b:Option (eC×Fr×aa)):Option (eC×Fr×aa):=match v with
 |.i (.v (.bool true))=>a
 |.i (.v (.bool false))=>b
 |_=>none
def VZ(p:Prop) [Decidable p](a b:Option (eC×Fr×aa)):vq (.i (.v (.bool (decide p)))) a b=if p then a else b:=by by_cases h:p<;>simp[h,vq]
def am2(c:Operand)(a b:Code):fN E B f (.cond c a b) J H=vq (bn E J c) (fN E B f a J H) (fN E B f b J H):=by
 refine zF λ r=>?_
 rw[iJ];constructor
 ·rintro⟨n,h⟩;cases n with
  |zero=>simp[exec]at h
  |succ n=>
   rw[exec]at h;split at h
   ·rename_i ag;rw[ag];exact iJ.2 ⟨n,h⟩
   ·rename_i ag;rw[ag];exact iJ.2 ⟨n,h⟩
   ·cases h
 ·intro h;unfold vq at h;split at h
  ·rename_i ag;obtain⟨n,aE⟩:=iJ.1 h;exact⟨n+1,by rw[exec,ag];exact aE⟩
  ·rename_i ag;obtain⟨n,aE⟩:=iJ.1 h;exact⟨n+1,by rw[exec,ag];exact aE⟩
  ·cases h
def I4(id:Nat)(r:Option (eC×Fr×aa)):Option (eC×Fr×aa):=match r with
 |some (.exit ac,bM,an)=>if ac=id then some (.normal,bM,an)else some (.exit ac,bM,an)
 |r=>r
def am3(id:Nat)(c:Code):fN E B f (.block id c) J H=I4 id (fN E B f c J H):=by
 refine zF λ r=>?_
 rw[iJ];constructor
 ·rintro⟨n,h⟩;cases n with
  |zero=>simp[exec]at h
  |succ n=>
   rw[exec]at h;cases ak:exec E n B f c J H with
   |none=>rw[ak]at h;cases h
   |some x=>rw[ak]at h;rw[iJ.2 ⟨n,ak⟩];exact h
 ·intro h;cases ak:fN E B f c J H with
  |none=>rw[ak]at h;cases h
  |some x=>rw[ak]at h;obtain⟨n,aE⟩:=iJ.1 ak;exact⟨n+1,by rw[exec,aE];exact h⟩
def am4(c:Code):fN E B f (.scope c) J H=fN E B f c J H:=by
 refine zF λ r=>?_
 rw[iJ,iJ];constructor
 ·rintro⟨n,h⟩;cases n with
  |zero=>simp[exec]at h
  |succ n=>exact⟨n,by simpa only[exec]using h⟩
 ·rintro⟨n,h⟩;exact⟨n+1,by simpa only[exec]using h⟩
def am5(rd:Fr→aa→Option (eC×aa))(p:Nat)(J:Fr)(H:aa):Option (List U)→Option (eC×Fr×aa)
 |some xs=>og rd p J xs H
 |none=>none
def vr(E:Env)(f:FuncId)(B:Nat)(fQ:List ResultVar)(r:Option (eC×Fr×aa)):Option (U×aa):=match r with
 |some (.exit _,_,_)=>none
 |some (_,J,an)=>match wH E J an fQ with
  |some r=>qE E f B an r
  |none=>none
 |none=>none
def Ok{fn:Func}{c:Code}{args:List U}(aI:E.P.funcs[f]?=some fn)(ag:fn.body=some c)(ho:yI E f=true)(al:args.length≤fn.ntmps):
  b3 E f args H=vr E f H.length fn.results.toList (fN E H.length f c (qz 0 args) H):=by
 unfold b3 iz vr;rw[aI];simp only[ag];rw[if_pos ⟨ho,al⟩];cases fN E H.length f c (qz 0 args) H with
 |none=>rfl
 |some x=>obtain⟨ex,J,an⟩:=x;cases ex<;>rfl
def am6(sQ:zk E)(hseq:B5 E)(hmk:zl E):nQ E (b3 E):=by intro f args H r an h;obtain⟨n,aE⟩:=VU h;exact amL sQ hseq hmk n f args H r an aE
def V0{n:Nat}{args:List U}{r:U×aa}(h:call E n f args H=some r):b3 E f args H=some r:=I3 n _ _ _ _ h
end
end Go.VI
namespace Go.VI
open Go.ChangeShapes
open Go.WideShapes
set_option maxRecDepth 100000
set_option maxHeartbeats 40000000
set_option linter.unusedVariables false
set_option linter.unusedSimpArgs false
set_option linter.defProp false
section
variable{E:Env}
def nn(w:World):b':=λ b=>w.heap[b]?
def zG:b8:=λ _=>none
def am7(w:World)(aP:∀g cells,E.e4 g=some cells→tx (nn w) g cells):b5 E (nn w) zG [] w:=
 ⟨λ b ai h=>h,λ c x h=>by simp at h,λ c cl b n dP h=>by simp[zG]at h,λ c b n h=>by simp[zG]at h,aP⟩
structure Ca (w aq:World):Prop where
 os:aq.os=w.os
 output:aq.output=w.output
 heap:∀b,b<w.heap.size→aq.heap[b]?=w.heap[b]?
def Ca.kept{w aq:World}(h:Ca w aq)(may:MemPlace→Prop):w.keptBut aq may:=by
 refine⟨h.os,h.output,λ i ax=>?_⟩;rw[h.heap i ax];cases aN:w.heap[i]? with
 |none=>rfl
 |some ai=>cases ai<;>simp
def am8{w aq:World}{aL:b'}{aB:b8}(dn:Trans (nn w) zG w aL aB aq):Ca w aq:=
 ⟨dn.os,dn.output,λ b aj=>dn.frame b aj λ c n h=>by simp[zG]at h⟩
def law_calls{f:FuncId}{args:List U}{vs:Array Value}{w:World}{an:aa}(h:b3 E f args []=some (.i (.v (.bool true)),an))(sQ:zk E)(aP:∀g cells,E.e4 g=some cells→tx (nn w) g cells)
  (bY:ow (nn w) zG [] args vs)(hseq:B5 E:=by exact Go.VI.noSeq λ _=>rfl)(hmk:zl E:=by exact Go.VI.akF λ _=>rfl):Calls E.P f vs w λ e aq=>e=.returned (.bool true)∧Ca w aq:=
 (am6 sQ hseq hmk f args [] _ an h _ _ w vs (am7 w aP) bY).mono λ e aq he=>by obtain⟨x,rfl,eY,ev,_,bC,_,eU⟩:=he;exact⟨congrArg _ (fv eU),am8 bC⟩
def am9{ad ab H}:ow ad ab H [] #[]:=⟨rfl,λ k a h=>by simp at h⟩
def V1(ad:b')(ab:b8)(H:aa):List U→List Value→Prop
 |[],[]=>True
 |a::bE,v::vs=>a6 ad ab H a v∧V1 ad ab H bE vs
 |_,_=>False
def args_of{ad ab H}:∀{bE:List U} {vs:List Value},V1 ad ab H bE vs→ow ad ab H bE vs.toArray
 |[],[],_=>am9
 |a::bE,v::vs,h=>by
  have a8:=args_of h.2;refine⟨by simpa using a8.1,λ k b ay=>?_⟩;cases k with
  |zero=>simp at ay;subst ay;simpa using h.1
  |succ k=>simpa using a8.2 k b (by simpa using ay)
 |[],_::_,h=>h.elim
 |_::_,[],h=>h.elim
def post_of_old{H:Type}{enc:TypeId×Value→H}{P:Program}{f:Func}{s:ChangeSpec}{apart fresh handsOn:Bool}{W ln:World}{args:Array Value}{v:Value}{cK gs:List (DataW H)}{before pa pv:List MemPlace}
  (vt:DataW.Whole enc P f.params.toList s.vars apart W args.toList cK gs before)
  (am_:∀(b:Nat) (mn:Nat→Bool) (aM:Bool),DataW.TrodAll enc P ln b mn aM f.resultTypes.toList (v.resultList f.resultTypes.size) (s.fn H (cK++gs)).results [])
  (pn:∀mn:Nat→Bool,(∀p∈before,mn p.block=true)→DataW.TrodAll enc P ln 0 mn true f.params.toList args.toList (s.fn H (cK++gs)).args pa)
  (am':∀mn:Nat→Bool,(∀p∈before,mn p.block=true)→DataW.TrodVars enc P ln mn s.vars (s.fn H (cK++gs)).vars pv)
  (hold:Ca W ln)(xz:before=pa++pv):s.post enc P f apart fresh handsOn false W args v ln:=by
 have be:∀p∈before,(λ b=>decide (b<W.heap.size)) p.block=true:=λ p au=>by simpa using vt.lt p au
 exact⟨cK,gs,before,[],pa,pv,vt,am_ _ _ _,pn _ be,am' _ be,hold.kept _,λ h=>by cases h⟩
end
end Go.VI
namespace Go.VI
set_option maxRecDepth 100000
set_option maxHeartbeats 40000000
set_option linter.unusedVariables false
set_option linter.unusedSimpArgs false
set_option linter.defProp false
section
variable{E:Env}{aJ:dy}{ops:List Oper}{J:Fr}{H:aa}{f:FuncId}
noncomputable def zH(E:Env)(aJ:dy)(ops:List Oper)(dst:Option Nat)(r:List Oper)(J:Fr):Option (U×aa)→Option (Fr×aa)
 |some (v,an)=>ih E aJ ops r (dH dst v J) an
 |none=>none
def I5(want:Bool):U→Option Bool
 |.i (.v (.bool b))=>some (b==want)
 |.bd []=>some false
 |_=>none
def vu(ops:List Oper)(J:Fr)(ac:Nat)(want:Bool):Option Bool:=
 match(ops[ac]?).bind (·.dst)with
 |some d=>I5 want (get d J)
 |none=>none
noncomputable def vv(E:Env)(aJ:dy)(ops:List Oper)(dst:Option Nat)(op:Op)(r:List Oper)(J:Fr)(H:aa):Option Bool→Option (Fr×aa)
 |some true=>zH E aJ ops dst r J (cd E aJ op J H)
 |some false=>ih E aJ ops r (dH dst (.bd []) J) H
 |none=>none
def ana(dst:Option Nat)(r:List Oper)(v:U)(an:aa):zH E aJ ops dst r J (some (v,an))=ih E aJ ops r (dH dst v J) an:=rfl
def anb(dst:Option Nat)(op:Op)(r:List Oper):vv E aJ ops dst op r J H (some true)=zH E aJ ops dst r J (cd E aJ op J H):=rfl
def anc(dst:Option Nat)(op:Op)(r:List Oper):vv E aJ ops dst op r J H (some false)=ih E aJ ops r (dH dst (.bd []) J) H:=rfl
def ane(b want:Bool):I5 want (.i (.v (.bool b)))=some (b==want):=rfl
def anf(want:Bool):I5 want (.bd [])=some false:=rfl
def ang:ih E aJ ops [] J H=some (J,H):=rfl
def anh(dst:Option Nat)(op:Op)(d':TypeId)(pos:String)(q9:Array Edge)(r:List Oper):ih E aJ ops (⟨dst,op,d',pos,q9,none⟩::r) J H=zH E aJ ops dst r J (cd E aJ op J H):=by
 simp only[ih,gm];cases cd E aJ op J H with
 |none=>rfl
 |some x=>rfl
def Ol(dst:Option Nat)(op:Op)(d':TypeId)(pos:String)(q9:Array Edge)(ac:Nat)(w:Bool):gm ops J ⟨dst,op,d',pos,q9,some (ac,w)⟩=vu ops J ac w:=by
 simp only[gm,vu];cases (ops[ac]?).bind (·.dst)with
 |none=>rfl
 |some d=>simp only[I5];rfl
def ani(dst:Option Nat)(op:Op)(d':TypeId)(pos:String)(q9:Array Edge)(ac:Nat)(w:Bool)(r:List Oper):ih E aJ ops (⟨dst,op,d',pos,q9,some (ac,w)⟩::r) J H=vv E aJ ops dst op r J H (vu ops J ac w):=by
 simp only[ih,Ol];cases vu ops J ac w with
 |none=>rfl
 |some b=>
  cases b with
  |false=>rfl
  |true=>
   simp only[vv];cases cd E aJ op J H with
   |none=>rfl
   |some x=>rfl
def mo(t:List Nat):Option (Fr×aa×List (List Nat))→Option (Fr×aa×List (List Nat))
 |some (dE,bu,fD)=>some (dE,bu,t::fD)
 |none=>none
noncomputable def vw(E:Env)(aJ:dy)(ops:List Oper)(dst:Option Nat)(op:Op)(r:List Oper)(J:Fr)(H:aa):Option (U×aa)→Option (Fr×aa×List (List Nat))
 |some (v,an)=>mo (cO E J H op++lF H.length (an.length-H.length)) (hP E aJ ops r (dH dst v J) an)
 |none=>none
noncomputable def tY(E:Env)(aJ:dy)(ops:List Oper)(dst:Option Nat)(op:Op)(r:List Oper)(J:Fr)(H:aa):Option Bool→Option (Fr×aa×List (List Nat))
 |some true=>vw E aJ ops dst op r J H (cd E aJ op J H)
 |some false=>mo [] (hP E aJ ops r (dH dst (.bd []) J) H)
 |none=>none
def anj(t:List Nat)(dE:Fr)(bu:aa)(fD:List (List Nat)):mo t (some (dE,bu,fD))=some (dE,bu,t::fD):=rfl
def ank(dst:Option Nat)(op:Op)(r:List Oper)(v:U)(an:aa):vw E aJ ops dst op r J H (some (v,an))=mo (cO E J H op++lF H.length (an.length-H.length)) (hP E aJ ops r (dH dst v J) an):=rfl
def anl(dst:Option Nat)(op:Op)(r:List Oper):tY E aJ ops dst op r J H (some true)=vw E aJ ops dst op r J H (cd E aJ op J H):=rfl
def anm(dst:Option Nat)(op:Op)(r:List Oper):tY E aJ ops dst op r J H (some false)=mo [] (hP E aJ ops r (dH dst (.bd []) J) H):=rfl
def ann:hP E aJ ops [] J H=some (J,H,[]):=rfl
def ano(dst:Option Nat)(op:Op)(d':TypeId)(pos:String)(q9:Array Edge)(r:List Oper):hP E aJ ops (⟨dst,op,d',pos,q9,none⟩::r) J H=vw E aJ ops dst op r J H (cd E aJ op J H):=by
 simp only[hP,pU,gm];cases cd E aJ op J H with
 |none=>rfl
 |some x=>simp only[vw,mo];rfl
def anp(dst:Option Nat)(op:Op)(d':TypeId)(pos:String)(q9:Array Edge)(ac:Nat)(w:Bool)(r:List Oper):hP E aJ ops (⟨dst,op,d',pos,q9,some (ac,w)⟩::r) J H=tY E aJ ops dst op r J H (vu ops J ac w):=by
 simp only[hP,pU,Ol];cases vu ops J ac w with
 |none=>rfl
 |some b=>
  cases b with
  |false=>simp only[tY,mo];rfl
  |true=>
   simp only[tY];cases cd E aJ op J H with
   |none=>rfl
   |some x=>simp only[vw,mo];rfl
noncomputable def xA(E:Env)(aJ:dy)(ops:List Oper)(c:Nat)(dst:Option Nat)(op:Op)(r:List Oper)(J:Fr)(H:aa):Option (U×aa)→Option (Fr×aa×List (List Nat))
 |some (v,an)=>mo (sA E c J H op++lF H.length (an.length-H.length)) (iy E aJ ops (nd c op) r (dH dst v J) an)
 |none=>none
noncomputable def xB(E:Env)(aJ:dy)(ops:List Oper)(c:Nat)(dst:Option Nat)(op:Op)(r:List Oper)(J:Fr)(H:aa):Option Bool→Option (Fr×aa×List (List Nat))
 |some true=>xA E aJ ops c dst op r J H (jy E aJ c op J H)
 |some false=>mo [] (iy E aJ ops (nd c op) r (dH dst (.bd []) J) H)
 |none=>none
end
end Go.VI
